/- Texts laid one behind the other: XF, XS, XQ, XK, GE, XR, XA, XC, XD, XE, XG, XH, XI, XM, XU, XW, XX, XY, XZ, YA, YB, XT, GP, YC, XO.
   No condition. -/
import Derived.Test.YtjndkdmkecpllaaGreatRows
import Derived.OpenShut
import Derived.ChangeMaps5
import Derived.KernelRfl
import Derived.Test.YtjndkdmkecpllaaGreatQE3
set_option linter.unusedVariables false
set_option linter.unusedSimpArgs false
namespace Go.Proofs.YtjndkdmkecpllaaGreat
namespace V
theorem aFi (m b i:Nat):kJ (m ||| 2 ^ b) i=if i=b / 64 then kJ m i ||| 2 ^ (b % 64) else kJ m i:=by
 apply Nat.eq_of_testBit_eq
 intro j
 rw[mB,Nat.testBit_or,Nat.testBit_two_pow]
 by_cases h:i=b / 64
 ·rw[if_pos h,Nat.testBit_or,mB,Nat.testBit_two_pow]
  subst h
  by_cases hj:j < 64
  ·have:(b=64*(b / 64)+j) ↔ (b % 64=j):=by omega
   simp[hj,this]
  ·have:¬ (b % 64=j):=by have:=Nat.mod_lt b (show 64 > 0 by decide); omega
   simp[hj,this]
 ·rw[if_neg h,mB]
  by_cases hj:j < 64
  ·have:¬ (b=64*i+j):=by omega
   simp[hj,this]
  ·simp[hj]
theorem aNU (k a b:Nat):2 ^ k*(a ||| b)=2 ^ k*a ||| 2 ^ k*b:=by
 apply Nat.eq_of_testBit_eq
 intro j
 simp only[Nat.testBit_or,Nat.testBit_two_pow_mul]
 cases decide (j ≥ k)<;>simp
theorem aKo {a:Nat} (h:a % 2=0):a ||| 1=a+1:=by
 have h2:a=2 ^ 1*(a / 2):=by omega
 have:=Nat.two_pow_add_eq_or_of_lt (show 1 < 2 ^ 1 by decide) (a / 2)
 rw[← h2] at this; exact this.symm
theorem aTR {x k:Nat} (h:x.testBit k=false):x+2 ^ k=x ||| 2 ^ k:=by
 have hr:x % 2 ^ k < 2 ^ k:=Nat.mod_lt _ (Nat.two_pow_pos k)
 have ha:(x / 2 ^ k) % 2=0:=by
  rw[Nat.testBit_eq_decide_div_mod_eq] at h
  have:¬ (x / 2 ^ k % 2=1):=by simpa using h
  omega
 have e1:=Nat.two_pow_add_eq_or_of_lt hr (x / 2 ^ k)
 have e2:=Nat.two_pow_add_eq_or_of_lt hr (x / 2 ^ k+1)
 have e0:2 ^ k*(x / 2 ^ k)+x % 2 ^ k=x:=Nat.div_add_mod _ _
 have e3:x+2 ^ k=2 ^ k*(x / 2 ^ k+1)+x % 2 ^ k:=by rw[Nat.mul_add,Nat.mul_one]; omega
 have e4:2 ^ k*(x / 2 ^ k+1)=2 ^ k*(x / 2 ^ k) ||| 2 ^ k:=by
  rw[← aKo ha,aNU,Nat.mul_one]
 have hx:x ||| 2 ^ k=(2 ^ k*(x / 2 ^ k) ||| x % 2 ^ k) ||| 2 ^ k:=by rw[← e1,e0]
 rw[e3,e2,e4,hx,Nat.or_assoc,Nat.or_comm (2 ^ k) (x % 2 ^ k),← Nat.or_assoc]
theorem aL9 {x k:Nat} (h:x.testBit k=true):x ||| 2 ^ k=x:=by
 apply Nat.eq_of_testBit_eq
 intro j
 rw[Nat.testBit_or,Nat.testBit_two_pow]
 by_cases e:k=j
 ·subst e; simp[h]
 ·simp[e]
theorem aOg:i8 Tryz.prog bR=some (qV 0):=by kernel_rfl
set_option maxRecDepth 20000
theorem aHR (m:Nat):(gA m).length=4:=rfl
theorem aU4 (m:Nat):(gA m).all bV=true:=rfl
theorem aOb (m:Nat):List.take 4 (List.drop 0 (gA m))=gA m:=rfl
theorem aAF {K:Value→Prop} (k:K (qV 0)):aA (i8 Tryz.prog bR) K:=by rw[aOg]; exact k
theorem aSL (m n:Nat):over (gA m) 0 (gA n)=gA n:=rfl
theorem aQG (m:Nat):(qV m).cells.size=4:=rfl
theorem aMV (m:Nat):Value.agg (gA m).toArray=qV m:=rfl
theorem aSl {m b:Nat} (hb:b < 256):(gA m).set (b / 64) (.int .u64 ((kJ m (b / 64) ||| 2 ^ (b % 64):Nat):Int))=gA (m ||| 2 ^ b):=by
 have h0:=aFi m b 0
 have h1:=aFi m b 1
 have h2:=aFi m b 2
 have h3:=aFi m b 3
 have hq:b / 64=0∨b / 64=1∨b / 64=2∨b / 64=3:=by omega
 unfold gA
 rcases hq with hq | hq | hq | hq<;>rw[hq] at h0 h1 h2 h3 ⊢<;>simp at h0 h1 h2 h3<;>simp[h0,h1,h2,h3]
theorem aAk {ro:Ro}{m w:Nat}{e:dF}{h h0:T Obj}{id nx nx0:Nat}{K:KV} (h2:e 2=at_ id 0 0) (h4:e 4=at_ (id+1) 0 0) (g1:h.get id=some (.cells (gA m).toArray bR)) (g2:h.get (id+1)=some (.cells (gA w).toArray bR))
  (hf:Fr h0 nx0) (hs:aU h0 h) (hid:nx0≤id) (hK:K (qV m) h0 (nx+2)):rY ro K e h nx:=by
 unfold rY
 (have zy:=And.intro @gY (And.intro @aHR (And.intro @aOb (And.intro @aMV (And.intro h2 (And.intro h4 (And.intro g1 (And.intro g2 (And.intro @aQG (And.intro @aU4 @aSL)))))))));repeat refine zzIz ?_)
 exact⟨h0,hs.new hf (by omega),hK⟩
section
theorem aJp {ro:Ro}{m b:Nat} (hb:b < 256) {h:T Obj}{nx:Nat}{K:KV} (hf:Fr h nx) (hK:∀ nx',nx≤nx'→K (qV (m ||| 2 ^ b)) h nx'):aN Tryz.prog ro zI [qV m,.int .u8 b] h nx K:=by
 apply aHk
 unfold aGp
 refine aD (aAF ?_)
 (have zy:=And.intro @gY (And.intro @aHR (And.intro @aOb @aMV));repeat refine zzIz ?_)
 refine pY hb ((hf.mono (Nat.le_add_right nx 5)).upd (n:=nx+5) (Nat.le_refl _) (by omega) |>.upd (Nat.le_refl _) (by omega)) fun n hn=>?_
 (repeat refine zzI ?_)
 have h1:((b:Int) / 64).toNat=b / 64:=by omega
 have h2:((b:Int) % 64).toNat=b % 64:=by omega
 have h3:=aOf m (b / 64)
 have h4:b / 64 < 4:=by omega
 have h5:=aDl (m:=m) h4
 cases hm:m.testBit b with
 | true =>
  simp only[Bool.not_true]
  (repeat refine zzI ?_)
  refine aAk (m:=m) (w:=0) (id:=nx) rfl rfl ?_ ?_ hf ?_ (Nat.le_refl _) ?_
  ·simp (disch:=first | omega | exact Int.natCast_nonneg _ | assumption) only [BB,B2,↓reduceIte,Nat.reduceLeDiff,Nat.reduceAdd,aW,aX,bA,a9,aZ,aY,gY]
  ·simp (disch:=first | omega | exact Int.natCast_nonneg _ | assumption) only [BB,B2,↓reduceIte,Nat.reduceLeDiff,Nat.reduceAdd,aW,aX,bA,a9,aZ,aY,gY]
  ·exact ((aU.refl h).new hf (Nat.le_refl _)).new hf (by omega)
  ·have:=hK (n+1+2) (by omega)
   rw[aL9 hm] at this; exact this
 | false =>
  simp only[Bool.not_false]
  have h6:(kJ m (b / 64)).testBit (b % 64)=false:=by
   rw[mB,Nat.div_add_mod,hm]; simp
  have h7:=aTR h6
  have h8:kJ m (b / 64)+2 ^ (b % 64) < 18446744073709551616:=by
   rw[h7]; exact Nat.or_lt_two_pow (n:=64) h3 (Nat.pow_lt_pow_right (by decide) (by omega))
  have h9:((kJ m (b / 64):Nat):Int)+((2 ^ (b % 64):Nat):Int)=((kJ m (b / 64) ||| 2 ^ (b % 64):Nat):Int):=by rw[← h7]; exact (Int.natCast_add _ _).symm
  have h10:((kJ m (b / 64) ||| 2 ^ (b % 64):Nat):Int)≤18446744073709551615:=aNx (by rw[← h7]; exact h8)
  have h11:=aGi (.int .u64 ((kJ m (b / 64) ||| 2 ^ (b % 64):Nat):Int)) (l:=gA m) (off:=b / 64) (by rw[aHR]; omega)
  (have zy:=And.intro @gY (And.intro h1 (And.intro h2 (And.intro h5 h9)));repeat refine zzIz ?_)
  refine aB (cE (l:=gA m) (by simp (disch:=first | omega | exact Int.natCast_nonneg _ | assumption) only [BB,B2,↓reduceIte,Nat.reduceLeDiff,Nat.reduceAdd,aW,aX,bA,a9,aZ,aY,gY]<;>rfl) h4 rfl rfl) ?_
  rw[aSl hb]
  refine aAk (m:=m ||| 2 ^ b) (w:=0) (id:=nx) rfl rfl ?_ ?_ hf ?_ (Nat.le_refl _) (hK _ (by omega))
  ·simp (disch:=first | omega | exact Int.natCast_nonneg _ | assumption) only [BB,B2,↓reduceIte,Nat.reduceLeDiff,Nat.reduceAdd,aW,aX,bA,a9,aZ,aY,gY]
  ·simp (disch:=first | omega | exact Int.natCast_nonneg _ | assumption) only [BB,B2,↓reduceIte,Nat.reduceLeDiff,Nat.reduceAdd,aW,aX,bA,a9,aZ,aY,gY]
  ·exact (((aU.refl h).new hf (Nat.le_refl _)).new hf (by omega)).new hf (Nat.le_refl _)
end
set_option maxRecDepth 20000
def rW (m:Nat) (l:List Nat):Nat:=l.foldl (fun m b=>m ||| 2 ^ b) m
def eS (l:List Nat):List (List Value):=l.map fun b:Nat=>[Value.int .u8 (b:Int)]
theorem i9 (l:List Nat):(eS l).length=l.length:=by simp[eS]
theorem y7 {l:List Nat}{i:Nat} (hi:i < l.length):(eS l)[i]?=some [.int .u8 (l[i]:Nat)]:=by simp[eS,hi]
theorem aMg:cX Tryz.prog bR []=some (qV 0):=by kernel_rfl
theorem aHa {K:Value→Prop} (k:K (qV 0)):aA (cX Tryz.prog bR []) K:=by rw[aMg]; exact k
theorem aJg {m:Nat}{l:List Nat}{i:Nat} (hi:i < l.length):rW m (l.take (i+1))=rW m (l.take i) ||| 2 ^ l[i]:=by
 rw[List.take_succ_eq_append_getElem hi,rW,List.foldl_append]; rfl
theorem aNX {ro:Ro}{v:Value}{l:List Nat} (hl:∀ b∈l,b < 256) (hlen:l.length≤1000000) {h:T Obj}{nx:Nat}{K:KV} (hf:Fr h nx) (hv:Sl ro h v 1 (eS l)) (hK:∀ nx',nx≤nx'→K (qV (rW 0 l)) h nx'):aN Tryz.prog ro aC6 [v] h nx K:=by
 apply aLp
 unfold aLo
 refine aAF (aD (aHa (aAF (aD ?_))))
 refine aB (eF (l:=gA 0) (vs:=gA 0) (by simp (disch:=first | omega | exact Int.natCast_nonneg _ | assumption) only [BB,B2,↓reduceIte,Nat.reduceLeDiff,Nat.reduceAdd,aW,aX,bA,a9,aZ,aY,gY]<;>rfl) rfl rfl rfl rfl) ?_
 refine bD (fun n e h' nx'=>∃ i:Nat,i+n=l.length∧nx+3≤nx'∧e 0=v∧e 2=ptr nx∧e 3=ptr (nx+2)∧e 4=.int .i64 i∧aU h h'∧Fr h' nx' ∧
  h'.get nx=some (.cells (gA 0).toArray bR)∧h'.get (nx+2)=some (.cells (gA (rW 0 (l.take i))).toArray bR)) ?_ (n:=l.length) ⟨0,by omega,by omega,rfl,rfl,rfl,rfl,?_,?_,?_,?_⟩
 ·rintro n e h' nx' ⟨i,hin,hnx,e0,e2,e3,e4,hs,hf',g1,g2⟩ Q' hc hx
  unfold aEz
  rw[e0,e3,e4]
  have hlenv:=(hv.sub hs).len
  rw[i9] at hlenv
  refine aB hlenv ?_
  (repeat refine zzI ?_)
  by_cases hi:i < l.length
  ·refine iF (by simp; omega) ?_
   refine aB (bX g2 rfl) ?_
   refine aB ((hv.sub hs).ix _ (by rw[i9]; exact hi)) ?_
   refine aB ((hv.sub hs).load1 (y7 hi)) ?_
   refine aJp (hl _ (List.getElem_mem hi)) (hf'.mono (by omega)) fun n1 hn1=>?_
   refine aB (eF (l:=gA _) (vs:=gA _) g2 rfl rfl rfl rfl) ?_
   (repeat refine zzI ?_)
   refine hc (n - 1) _ _ _ _ (by omega) ⟨i+1,by omega,?_,e0,e2,e3,rfl,hs.new hf (by omega),(hf'.mono (by omega)).upd (Nat.le_refl _) (by omega),?_,?_⟩ (aU.refl _)
   ·omega
   ·simp (disch:=first | omega | exact Int.natCast_nonneg _ | assumption) only [BB,B2,↓reduceIte,Nat.reduceLeDiff,Nat.reduceAdd,aW,aX,bA,a9,aZ,aY,g1]
   ·rw[T.get_upd_same,aJg hi]
  ·refine iE (by simp; omega) ?_
   refine hx _ _ _ _ (fun e=>by cases e) ?_
   show iM _ _ _ _
   rw[d9]
   show wN ro K _ _ _
   unfold wN
   show aA (loadA ro h' 4 (e 3)) _
   rw[e3]
   refine aB (bX g2 rfl) ?_
   show aA (bH 4 h' (e 2) _) _
   rw[e2]
   refine aB (eF (l:=gA _) (vs:=gA _) g1 rfl rfl rfl rfl) ?_
   show aA (loadA ro _ 4 (e 2)) _
   rw[e2]
   refine aB (bX (by rw[T.get_upd_same]) rfl) ?_
   refine⟨h,hs.new hf (Nat.le_refl _),?_⟩
   have:l.take i=l:=List.take_of_length_le (by omega)
   rw[this]
   exact hK _ (by omega)
 ·exact (((aU.refl h).new hf (Nat.le_refl _)).new hf (by omega)).new hf (by omega)
 ·exact ((hf.upd (m:=nx+5) (by omega) (by omega)).upd (Nat.le_refl _) (by omega)).upd (Nat.le_refl _) (by omega)
 ·simp (disch:=first | omega | exact Int.natCast_nonneg _ | assumption) only [BB,B2,↓reduceIte,Nat.reduceLeDiff,Nat.reduceAdd,aW,aX,bA,a9,aZ,aY,gY]
 ·rw[T.get_upd_same]; rfl
set_option maxRecDepth 20000
set_option maxRecDepth 20000
set_option maxRecDepth 20000
set_option maxRecDepth 20000
theorem aRX (aid:Nat) (b:Int):bC Tryz.prog cB aid 1 [(0,.int .u8 b)]=some (.slice (some (own aid 1)) 1 1,some (.cells #[.int .u8 b] bS)):=by kernel_rfl
theorem aUn:gG Tryz.prog cB=some (.slice bS):=by kernel_rfl
theorem aVz:∃ i,tin Tryz.prog bS=some i∧i.size=1∧i.bytes=1:=by
 have h:(tin Tryz.prog bS).map (fun i=>(i.size,i.bytes))=some (1,1):=by kernel_rfl
 cases hi:tin Tryz.prog bS with
 | none=>rw[hi] at h; cases h
 | some i=>rw[hi] at h; simp at h; exact⟨i,rfl,h.1,h.2⟩
theorem aWE:i8 Tryz.prog bS=some (.int .u8 0):=by kernel_rfl
theorem aIE {ro:Ro}{h:T Obj}{v x:Value}{nx lo hi:Nat}{l:List Nat}{b:Nat} (ho:Own h v 1 bS (eS l) lo hi) (hx:Sl ro h x 1 (eS [b])) (hb:l.length≤1000000) (hlo:lo≤nx) (hnx:hi≤nx) :
  ∃ h' r,bY Tryz.prog ro h nx #[cB,cB] [v,x]=some (r,h',nx+1)∧Own h' r 1 bS (eS (l++[b])) lo (nx+1)∧(∀ k,(k < lo∨hi≤k)→k≠nx→h'.get k=h.get k)∧(∀ k,k≠nx→h'.get k=h.get k∨h'.get k=none):=by
 obtain⟨i,h1,h2,h3⟩:=aVz
 have hcat:eS l++eS [b]=eS (l++[b]):=by simp[eS]
 have hl1:(eS l).length=l.length:=i9 l
 have hl2:(eS [b]).length=1:=rfl
 obtain⟨h',q1,q2,q3,q4⟩:=aCX (P:=Tryz.prog) (t:=cB) ho hx aUn h1 h2 (by omega) aWE rfl (by simp[eS]) rfl (by rw[hl1,hl2,h3]; unfold oB; omega) (by rw[hl1,hl2]; unfold oB; omega) hlo hnx
 rw[hcat] at q1 q2
 exact⟨h',_,q1,q2,q3,q4⟩
set_option maxRecDepth 20000
set_option maxRecDepth 20000
theorem aF7 (m:Nat) (l:List Nat) (b:Nat):(rW m l).testBit b=(m.testBit b || decide (b∈l)):=by
 induction l generalizing m with
 | nil=>simp[rW]
 | cons a l ih =>
  have:rW m (a::l)=rW (m ||| 2 ^ a) l:=rfl
  rw[this,ih,Nat.testBit_or,Nat.testBit_two_pow]
  by_cases e:a=b
  ·subst e; simp
  ·have:¬ b=a:=fun h=>e h.symm
   simp[e,this]
def mem (c:List Nat) (k:Int) (i:Nat):List Nat:=(List.range i).filter fun b=>decide (((c.getD b 0:Nat):Int)=k)
def aTZ (c:List Nat) (k:Int):Nat:=rW 0 (mem c k 256)
theorem aGO (p:Nat→Bool) (i:Nat):[i].filter p=if p i=true then [i] else []:=by
 cases h:p i<;>simp[h]
theorem aLT (c:List Nat) (k:Int) (i:Nat):mem c k (i+1)=mem c k i++(if ((c.getD i 0:Nat):Int)=k then [i] else []):=by
 unfold mem
 rw[List.range_succ,List.filter_append,aGO]
 simp only[decide_eq_true_eq]
theorem aV8 {c:List Nat}{k:Int}{i b:Nat} (h:b∈mem c k i):b < i:=by
 unfold mem at h
 exact List.mem_range.1 (List.mem_filter.1 h).1
theorem aOR (c:List Nat) (k:Int) (i:Nat):(mem c k i).length≤i:=by
 unfold mem
 refine Nat.le_trans (List.length_filter_le _ _) ?_
 simp
theorem v9 {ro:Ro}{h h0:T Obj}{v:Value}{n1 lo hi nx nx0:Nat}{l:List Nat}{b:Nat}{K:Value × T Obj × Nat→Prop} (ho:Own h v 1 bS (eS l) lo hi) (hl:l.length≤1000000) (hf:Fr h nx) (hs:aU h0 h) (hf0:Fr h0 nx0) (hlo0:nx0≤lo) (hlo:lo≤hi) (hn:hi≤n1) (hnx:nx≤n1) (h2:n1+1≤nx+1000)
  {n2:Nat} (hn2:n1 < n2)
  (hK:∀ h' r,Own h' r 1 bS (eS (l++[b])) lo (n2+1)→aU h0 h'→Fr h' (n2+1)→(∀ k,(k < lo∨hi≤k)→k≠n2→k≠n1→h'.get k=h.get k)→K (r,h',n2+1)) :
  aA (bC Tryz.prog cB n1 1 [(0,.int .u8 (b:Int))]) fun r=>eJ h n1 r.2 fun h'=>aA (bY Tryz.prog ro h' n2 #[cB,cB] [v,r.1]) K:=by
 refine aB (aRX _ _) (aF ?_)
 have ho2:Own (h.upd n1 (some (.cells #[.int .u8 (b:Int)] bS))) v 1 bS (eS l) lo hi:=ho.keep (Nat.le_refl _) fun id h1 h2 o hg=>by rw[T.get_upd_ne _ _ (by omega)]; exact hg
 have hx1:Sl ro (h.upd n1 (some (.cells #[.int .u8 (b:Int)] bS))) (.slice (some (own n1 1)) 1 1) 1 (eS [b]):=Sl.own (l:=eS [b]) (by rw[T.get_upd_same]; rfl) (by simp[eS]) (Nat.le_refl _)
 obtain⟨h2,r,q1,q2,q3,q4⟩:=aIE (nx:=n2) ho2 hx1 hl (by omega) (by omega)
 refine aB q1 (hK h2 r q2 ?_ ?_ ?_)
 ·intro k o hk
  have hkn:k < nx0:=by
   rcases Nat.lt_or_ge k nx0 with h9 | h9
   ·exact h9
   ·rw[hf0 k h9] at hk; cases hk
  rw[q3 k (.inl (by omega)) (by omega),T.get_upd_ne _ _ (by omega)]
  exact hs k o hk
 ·intro k hk
  rw[q3 k (.inr (by omega)) (by omega),T.get_upd_ne _ _ (by omega)]
  exact hf k (by omega)
 ·intro k hk h3 h4
  rw[q3 k hk h3,T.get_upd_ne _ _ h4]
set_option maxRecDepth 20000
set_option maxRecDepth 4000 in
theorem aLs {ro:Ro}{c:List Nat}{n k:Int} (hc:c.length=256) (hcl:∀ x∈c,x < 256) {h:T Obj}{nx:Nat}{K:KV} (hf:Fr h nx) (hK:∀ nx',nx≤nx'→K (qV (aTZ c k)) h nx'):aN Tryz.prog ro aAb [mW c n,.int .i64 k] h nx K:=by
 apply aJq
 unfold aIi
 refine aD (aAF (aD ?_))
 refine bD (fun j e h' nx'=>∃ (i:Nat) (lv:Value),i+j=256∧nx+2≤nx'∧e 1=.int .i64 k∧e 2=ptr nx∧e 4=ptr (nx+1)∧e 5=lv∧e 6=.int .i64 i∧aU h h'∧Fr h' nx' ∧
  h'.get nx=some (.cells (fI c n).toArray cT)∧h'.get (nx+1)=some (.cells (gA 0).toArray bR)∧Own h' lv 1 bS (eS (mem c k i)) (nx+2) nx') ?_ (n:=256) ⟨0,_,by omega,by omega,rfl,rfl,rfl,rfl,rfl,?_,?_,?_,?_,Own.nil⟩
 ·rintro j e h' nx' ⟨i,lv,hij,hnx,e1,e2,e4,e5,e6,hs,hf',g0,g1,ho⟩ Q' hq hx
  unfold aD7
  rw[e1,e2,e5,e6]
  (repeat refine zzI ?_)
  by_cases hi:i < 256
  ·refine iF (by simp; omega) ?_
   have hic:i < c.length:=by omega
   have hci:=hcl _ (List.getElem_mem hic)
   have hg:=aFS (n:=n) hic
   have hgd:c.getD i 0=c[i]:=by rw[List.getD_eq_getElem?_getD,List.getElem?_eq_getElem hic]; rfl
   (have zy:=And.intro g0 hg;repeat refine zzIz ?_)
   have hj2:∀ (e:dF) (h1:T Obj) (n2:Nat) (lv:Value),nx'≤n2→e 1=.int .i64 k→e 2=ptr nx→e 4=ptr (nx+1)→e 5=lv→e 6=.int .i64 i→aU h h1→Fr h1 n2→h1.get nx=some (.cells (fI c n).toArray cT)→h1.get (nx+1)=some (.cells (gA 0).toArray bR) →
     Own h1 lv 1 bS (eS (mem c k (i+1))) (nx+2) n2→tR ro Q' e h1 n2:=by
    intro e h1 n2 lv hn2 e1 e2 e4 e5 e6 hs1 hf1 g0 g1 ho1
    unfold tR
    rw[e6]
    (repeat refine zzI ?_)
    exact hq (j - 1) _ _ _ _ (by omega) ⟨i+1,lv,by omega,by omega,e1,e2,e4,e5,rfl,hs1,hf1.mono (by omega),g0,g1,ho1.keep (by omega) fun _ _ _ _ hg=>hg⟩ (aU.refl _)
   by_cases hk:((c[i]:Nat):Int)=k
   ·refine iF (by simp[hk]) ?_
    (repeat refine zzI ?_)
    refine v9 (h0:=h) (nx0:=nx) (nx:=nx') (lo:=nx+2) (hi:=nx') ho (Nat.le_trans (aOR _ _ _) (by omega)) hf' hs hf (by omega) (by omega) (by omega) (by omega) (by omega) (by omega) fun h2 r q1 q2 q3 q4=>?_
    dsimp only
    refine hj2 _ _ _ r (by omega) e1 e2 e4 rfl e6 q2 (q3.mono (by omega)) ?_ ?_ ?_
    ·rw[q4 _ (.inl (by omega)) (by omega) (by omega)]; exact g0
    ·rw[q4 _ (.inl (by omega)) (by omega) (by omega)]; exact g1
    ·rw[aLT,hgd,if_pos hk]; exact q1.keep (by omega) fun _ _ _ _ hg=>hg
   ·refine iE (by simp[hk]) ?_
    refine hj2 _ _ _ lv (by omega) e1 e2 e4 e5 e6 hs (hf'.mono (by omega)) g0 g1 ?_
    rw[aLT,hgd,if_neg hk,List.append_nil]; exact ho.keep (by omega) fun _ _ _ _ hg=>hg
  ·refine iE (by simp; omega) ?_
   refine hx _ _ _ _ (fun e=>by cases e) (d3 (cU ?_))
   have hi2:i=256:=by omega
   subst hi2
   unfold zS
   have f4:∀ a b,dF.put (dF.put e 7 a) 8 b 4=ptr (nx+1):=fun a b=>e4
   have f5:∀ a b,dF.put (dF.put e 7 a) 8 b 5=lv:=fun a b=>e5
   simp only[puts,f4,f5]
   refine aNX (fun b hb=>aV8 hb) (Nat.le_trans (aOR c k 256) (by omega)) (hf'.mono (by omega)) ho.sl fun n2 hn2=>?_
   refine aB (eF (l:=gA 0) (vs:=gA (aTZ c k)) g1 rfl rfl rfl rfl) ?_
   refine aB (bX (by rw[T.get_upd_same]) rfl) ?_
   exact⟨h,hs.new hf (by omega),hK _ (by omega)⟩
 ·exact ((aU.refl h).new hf (Nat.le_refl _)).new hf (by omega)
 ·exact (hf.upd (m:=nx+4) (by omega) (by omega)).upd (Nat.le_refl _) (by omega)
 ·simp (disch:=first | omega | exact Int.natCast_nonneg _ | assumption) only [BB,B2,↓reduceIte,Nat.reduceLeDiff,Nat.reduceAdd,aW,aX,bA,a9,aZ,aY,oH]
 ·simp (disch:=first | omega | exact Int.natCast_nonneg _ | assumption) only [BB,B2,↓reduceIte,Nat.reduceLeDiff,Nat.reduceAdd,aW,aX,bA,a9,aZ,aY,gY]
def lst (m i:Nat):List Nat:=(List.range i).filter fun b=>m.testBit b
def aRU (m:Nat):List Nat:=lst m 256
theorem aLP (m i:Nat):lst m (i+1)=lst m i++(if m.testBit i=true then [i] else []):=by
 unfold lst
 rw[List.range_succ,List.filter_append,aGO]
theorem aTq (m i:Nat):(lst m i).length≤i:=by
 unfold lst
 refine Nat.le_trans (List.length_filter_le _ _) ?_
 simp
set_option maxRecDepth 4000 in
theorem aJo {ro:Ro}{m:Nat}{h:T Obj}{nx:Nat}{K:KV} (hf:Fr h nx) (hK:∀ r h' nx',nx≤nx'→aU h h'→Fr h' nx'→Own h' r 1 bS (eS (aRU m)) nx nx'→K r h' nx'):aN Tryz.prog ro zH [qV m] h nx K:=by
 apply aHj
 unfold aGo
 refine aD ?_
 refine bD (fun j e h' nx'=>∃ (i:Nat) (lv:Value),i+j=256∧nx+1≤nx'∧e 1=ptr nx∧e 3=lv∧e 4=.int .i64 i∧aU h h'∧Fr h' nx' ∧
  h'.get nx=some (.cells (gA m).toArray bR)∧Own h' lv 1 bS (eS (lst m i)) (nx+1) nx') ?_ (n:=256) ⟨0,_,by omega,by omega,rfl,rfl,rfl,?_,?_,?_,Own.nil⟩
 ·rintro j e h' nx' ⟨i,lv,hij,hnx,e1,e3,e4,hs,hf',g0,ho⟩ Q' hq hx
  unfold aBz
  rw[e1,e3,e4]
  (repeat refine zzI ?_)
  by_cases hi:i < 256
  ·refine iF (by simp; omega) ?_
   refine aB (bX g0 rfl) ?_
   (repeat refine zzI ?_)
   refine pY hi (hf'.mono (by omega)) fun n1 hn1=>?_
   have hj2:∀ (e:dF) (h1:T Obj) (n2:Nat) (lv:Value),nx'≤n2→e 1=ptr nx→e 3=lv→e 4=.int .i64 i→aU h h1→Fr h1 n2→h1.get nx=some (.cells (gA m).toArray bR) →
     Own h1 lv 1 bS (eS (lst m (i+1))) (nx+1) n2→rX ro Q' e h1 n2:=by
    intro e h1 n2 lv hn2 e1 e3 e4 hs1 hf1 g0 ho1
    unfold rX
    rw[e4]
    (repeat refine zzI ?_)
    exact hq (j - 1) _ _ _ _ (by omega) ⟨i+1,lv,by omega,by omega,e1,e3,rfl,hs1,hf1.mono (by omega),g0,ho1.keep (by omega) fun _ _ _ _ hg=>hg⟩ (aU.refl _)
   cases hb:m.testBit i with
   | true =>
    refine iF rfl ?_
    (repeat refine zzI ?_)
    refine v9 (h0:=h) (nx0:=nx) (nx:=n1) (lo:=nx+1) (hi:=nx') ho (Nat.le_trans (aTq _ _) (by omega)) (hf'.mono (by omega)) hs hf (by omega) (by omega) (by omega) (by omega) (by omega) (by omega) fun h2 r q1 q2 q3 q4=>?_
    dsimp only
    refine hj2 _ _ _ r (by omega) e1 rfl e4 q2 (q3.mono (by omega)) ?_ ?_
    ·rw[q4 _ (.inl (by omega)) (by omega) (by omega)]; exact g0
    ·rw[aLP,hb,if_pos rfl]; exact q1.keep (by omega) fun _ _ _ _ hg=>hg
   | false =>
    refine iE rfl ?_
    refine hj2 _ _ _ lv (by omega) e1 e3 e4 hs (hf'.mono (by omega)) g0 ?_
    rw[aLP,hb,if_neg (by simp),List.append_nil]; exact ho.keep (by omega) fun _ _ _ _ hg=>hg
  ·refine iE (by simp; omega) ?_
   refine hx _ _ _ _ (fun e=>by cases e) (d3 (cU ?_))
   have hi2:i=256:=by omega
   subst hi2
   unfold xS
   have f3:∀ a b,dF.put (dF.put e 5 a) 6 b 3=lv:=fun a b=>e3
   simp only[puts,f3]
   refine⟨h',aU.refl _,hK _ _ _ (by omega) hs (hf'.mono (by omega)) ?_⟩
   rcases ho with ho | ⟨id,h1,h2,h3⟩
   ·exact .inl ho
   ·exact .inr ⟨id,by omega,by omega,h3⟩
 ·exact (aU.refl h).new hf (Nat.le_refl _)
 ·exact hf.upd (m:=nx+4) (by omega) (by omega)
 ·simp (disch:=first | omega | exact Int.natCast_nonneg _ | assumption) only [BB,B2,↓reduceIte,Nat.reduceLeDiff,Nat.reduceAdd,aW,aX,bA,a9,aZ,aY,gY]
set_option maxRecDepth 20000
def lb (c:List Nat) (k i:Nat):Nat:=((List.range' i (256 - i)).find? fun b=>decide (c.getD b 0=k)).getD 0
def lR (c:List Nat) (n:Int):List Nat:=if n < 1∨256 < n then [] else (List.range n.toNat).map fun k=>lb c k 0
theorem aP2 {c:List Nat}{k:Int}:aRU (aTZ c k)=mem c k 256:=by
 unfold aRU lst mem
 apply List.filter_congr
 intro b hb
 have hb:=List.mem_range.1 hb
 unfold aTZ
 rw[aF7]
 simp[mem,hb]
theorem aRb {c:List Nat}{k:Nat}:(mem c (k:Int) 256).head?.getD 0=lb c k 0:=by
 unfold mem lb
 rw[List.head?_filter]
 have:(fun b=>decide (((c.getD b 0:Nat):Int)=(k:Int)))=fun b=>decide (c.getD b 0=k):=by
  funext b
  by_cases h:c.getD b 0=k
  ·rw[decide_eq_true h,decide_eq_true (by rw[h])]
  ·rw[decide_eq_false h,decide_eq_false (by omega)]
 rw[this,← List.range_eq_range']
set_option maxRecDepth 4000 in
theorem aCA {ro:Ro}{c:List Nat}{n:Int} (hc:c.length=256) (hcl:∀ x∈c,x < 256) {h:T Obj}{nx:Nat}{K:KV} (hf:Fr h nx) (hK:∀ r h' nx',nx≤nx'→aU h h'→Fr h' nx'→Own h' r 1 bS (eS (lR c n)) nx nx'→K r h' nx'):aN Tryz.prog ro oZ [mW c n] h nx K:=by
 apply aGq
 unfold aFA
 refine aD ?_
 have hg:=aAC (n:=n) hc
 have g0:(h.upd nx (some (.cells (Value.cells (mW c n)) cT))).get nx=some (.cells (fI c n).toArray cT):=by rw[T.get_upd_same]; rfl
 have hs0:aU h (h.upd nx (some (.cells (Value.cells (mW c n)) cT))):=(aU.refl h).new hf (Nat.le_refl _)
 have hf0:Fr (h.upd nx (some (.cells (Value.cells (mW c n)) cT))) (nx+1):=(hf.mono (Nat.le_succ _)).upd (Nat.le_refl _) (by omega)
 generalize (h.upd nx (some (.cells (Value.cells (mW c n)) cT)))=h0 at g0 hs0 hf0
 (have zy:=And.intro g0 hg;repeat refine zzIz ?_)
 by_cases h1:n < 1
 ·rw[decide_eq_true h1]
  (have zy:=And.intro g0 hg;repeat refine zzIz ?_)
  exact⟨h0,aU.refl _,hK _ _ _ (by omega) hs0 (hf0.mono (by omega)) (by unfold lR; rw[if_pos (.inl h1)]; exact Own.nil)⟩
 rw[decide_eq_false h1]
 (have zy:=And.intro g0 hg;repeat refine zzIz ?_)
 by_cases h2:256 < n
 ·rw[decide_eq_true h2]
  (have zy:=And.intro g0 hg;repeat refine zzIz ?_)
  exact⟨h0,aU.refl _,hK _ _ _ (by omega) hs0 (hf0.mono (by omega)) (by unfold lR; rw[if_pos (.inr h2)]; exact Own.nil)⟩
 rw[decide_eq_false h2]
 obtain⟨k0,rfl⟩:∃ k0:Nat,n=(k0:Int):=⟨n.toNat,by omega⟩
 (have zy:=And.intro g0 hg;repeat refine zzIz ?_)
 refine bD (fun j e h' nx'=>∃ (i:Nat) (lv:Value),i+j=k0∧nx+1≤nx'∧e 1=ptr nx∧e 3=lv∧e 4=.int .i64 (i:Int)∧aU h h'∧Fr h' nx' ∧
  h'.get nx=some (.cells (fI c k0).toArray cT)∧Own h' lv 1 bS (eS ((List.range i).map fun k=>lb c k 0)) (nx+1) nx') ?_ (n:=k0) ⟨0,_,by omega,by omega,rfl,rfl,rfl,hs0,hf0.mono (by omega),g0,Own.nil⟩
 rintro j e h' nx' ⟨i,lv,hij,hnx,e1,e3,e4,hs,hf',g0,ho⟩ Q' hq hx
 unfold aAl
 rw[e1,e3,e4]
 (have zy:=And.intro g0 hg;repeat refine zzIz ?_)
 by_cases hi:i < k0
 ·refine iF (by simp; omega) ?_
  refine aB (bX g0 (dV hc)) ?_
  refine aLs (n:=(k0:Int)) hc hcl (hf'.mono (by omega)) fun n1 hn1=>?_
  refine aJo (hf'.mono (by omega)) fun r h2 n2 hn2 hs2 hf2 hr=>?_
  rw[aP2] at hr
  have hlen:=(hr.sl (ro:=ro)).len
  rw[i9] at hlen
  refine aB hlen ?_
  (repeat refine zzI ?_)
  have hrange:(List.range (i+1)).map (fun k=>lb c k 0)=(List.range i).map (fun k=>lb c k 0)++[lb c i 0]:=by rw[List.range_succ,List.map_append]; rfl
  have hol:((List.range i).map fun k=>lb c k 0).length≤1000000:=by rw[List.length_map,List.length_range]; omega
  have ho2:Own h2 lv 1 bS (eS ((List.range i).map fun k=>lb c k 0)) (nx+1) nx':=ho.keep (Nat.le_refl _) fun id _ _ o hg=>hs2 _ _ hg
  have hj2:∀ (e:dF) (h3:T Obj) (n3:Nat) (lv:Value),nx'≤n3→e 1=ptr nx→e 3=lv→e 4=.int .i64 (i:Int)→aU h h3→Fr h3 n3→h3.get nx=some (.cells (fI c k0).toArray cT) →
    Own h3 lv 1 bS (eS ((List.range (i+1)).map fun k=>lb c k 0)) (nx+1) n3→qS ro Q' e h3 n3:=by
   intro e h3 n3 lv hn3 e1 e3 e4 hs3 hf3 g0 ho3
   unfold qS
   rw[e4]
   (repeat refine zzI ?_)
   exact hq (j - 1) _ _ _ _ (by omega) ⟨i+1,lv,by omega,by omega,e1,e3,rfl,hs3,hf3.mono (by omega),g0,ho3.keep (by omega) fun _ _ _ _ hg=>hg⟩ (aU.refl _)
  have hhd:=aRb (c:=c) (k:=i)
  by_cases hm:(mem c (i:Int) 256)=[]
  ·refine iF (by rw[hm]; rfl) ?_
   have hl0:lb c i 0=0:=by rw[← hhd,hm]; rfl
   refine v9 (b:=0) (h0:=h) (nx0:=nx) (nx:=n2) (lo:=nx+1) (hi:=nx') ho2 hol hf2 (hs.trans hs2) hf (by omega) (by omega) (by omega) (by omega) (by omega) (by omega) fun h3 r3 q1 q2 q3 q4=>?_
   dsimp only
   refine hj2 _ _ _ r3 (by omega) e1 rfl e4 q2 (q3.mono (by omega)) ?_ ?_
   ·rw[q4 _ (.inl (by omega)) (by omega) (by omega)]; exact hs2 _ _ g0
   ·rw[hrange,hl0]; exact q1.keep (by omega) fun _ _ _ _ hg=>hg
  ·have hpos:0 < (mem c (i:Int) 256).length:=List.length_pos_iff.2 hm
   refine iE (by simp; exact hm) ?_
   have hix:=(hr.sl (ro:=ro)).ix .i64 (i:=0) (by rw[i9]; exact hpos)
   refine aB hix ?_
   refine aB ((hr.sl (ro:=ro)).load1 (y7 hpos)) ?_
   have hl0:(mem c (i:Int) 256)[0]=lb c i 0:=by rw[← hhd,List.head?_eq_getElem?,List.getElem?_eq_getElem hpos]; rfl
   rw[hl0]
   refine v9 (h0:=h) (nx0:=nx) (nx:=n2) (lo:=nx+1) (hi:=nx') ho2 hol hf2 (hs.trans hs2) hf (by omega) (by omega) (by omega) (by omega) (by omega) (by omega) fun h3 r3 q1 q2 q3 q4=>?_
   dsimp only
   refine hj2 _ _ _ r3 (by omega) e1 rfl e4 q2 (q3.mono (by omega)) ?_ ?_
   ·rw[q4 _ (.inl (by omega)) (by omega) (by omega)]; exact hs2 _ _ g0
   ·rw[hrange]; exact q1.keep (by omega) fun _ _ _ _ hg=>hg
 ·refine iE (by simp; omega) ?_
  refine hx _ _ _ _ (fun e=>by cases e) (d3 (cU ?_))
  have hi2:i=k0:=by omega
  subst hi2
  unfold vA
  have f3:∀ a b c d,dF.put (dF.put (dF.put (dF.put e 14 a) 15 b) 16 c) 17 d 3=lv:=fun a b c d=>e3
  simp only[puts,f3]
  have hfz:lR c (i:Int)=(List.range i).map fun k=>lb c k 0:=by unfold lR; rw[if_neg (by omega)]; simp
  refine⟨h',aU.refl _,hK _ _ _ (by omega) hs (hf'.mono (by omega)) ?_⟩
  rw[hfz]
  rcases ho with ho | ⟨id,q1,q2,q3⟩
  ·exact .inl ho
  ·exact .inr ⟨id,by omega,by omega,q3⟩
end V
end Go.Proofs.YtjndkdmkecpllaaGreat
namespace Go.Proofs.YtjndkdmkecpllaaGreat
namespace V
attribute [local irreducible] aA bF aV dL eJ iM dE
theorem okZ:gC Tryz.prog=true:=by kernel_rfl
theorem okN:mZ Tryz.prog=true:=by kernel_rfl
theorem okM:Tryz.prog.follows .mixedOrders=true:=by kernel_rfl
def aPC:Nat→List Value→Option (List Nat × Int)
 | 0,[.int .i64 n]=>some ([],n)
 | k+1,.int .u8 x::r=>match decide (0≤x),decide (x < 256) with
  | true,true=>(aPC k r).bind fun p=>some (x.toNat::p.1,p.2)
  | _,_=>none
 | _,_=>none
theorem aPD (k:Nat) (x:Int) (r:List Value):aPC (k+1) (.int .u8 x::r)=match decide (0≤x),decide (x < 256) with
  | true,true=>(aPC k r).bind fun p=>some (x.toNat::p.1,p.2)
  | _,_=>none:=rfl
theorem aT3:∀ {k:Nat}{l:List Value}{c:List Nat}{n:Int},aPC k l=some (c,n)→l=fI c n∧c.length=k∧∀ x∈c,x < 256:=by
 intro k
 induction k with
 | zero =>
  intro l c n h
  unfold aPC at h
  split at h<;>first
   | (cases h; exact⟨rfl,rfl,by simp⟩)
   | (cases h; done)
   | contradiction
 | succ k ih =>
  intro l c n h
  cases l with
  | nil=>cases h
  | cons v r =>
   have hv:∃ x,v=.int .u8 x:=by
    cases v with
    | int kd x =>
     cases kd with
     | u8=>exact⟨x,rfl⟩
     | _=>cases (show (none:Option (List Nat × Int))=some (c,n) from h)
    | _=>cases (show (none:Option (List Nat × Int))=some (c,n) from h)
   obtain⟨x,rfl⟩:=hv
   rw[aPD] at h
   split at h
   ·rename_i h1 h2
    obtain⟨p,h3,h4⟩:=aM h
    obtain⟨p1,p2⟩:=p
    simp only[Option.some.injEq,Prod.mk.injEq] at h4
    obtain⟨rfl,rfl⟩:=h4
    obtain⟨h5,h6,h7⟩:=ih h3
    simp only[decide_eq_true_eq] at h1 h2
    refine⟨?_,by simp[h6],fun y hy=>?_⟩
    ·rw[h5]
     simp only[fI,u8s,List.map_cons,List.cons_append]
     rw[Int.toNat_of_nonneg h1]
    ·rcases List.mem_cons.1 hy with rfl | hy
     ·omega
     ·exact h7 y hy
   ·cases h
def aWZ:aKM:=fun f args=>match Nat.beq f oZ,args with
 | true,[.agg cs]=>match aPC 256 cs.toList with
  | some (c,n)=>match lR c n with
   | []=>none
   | x::r=>some (1,(x::r).length,(x::r).length,bS,(x::r).map fun b:Nat=>Value.int .u8 (b:Int))
  | none=>none
 | _,_=>none
theorem aBq:∀ l:List Nat,(eS l).flatten=l.map fun b:Nat=>Value.int .u8 (b:Int)
 | []=>rfl
 | x::r=>by
  have:=aBq r
  simp only[eS,List.map_cons,List.flatten_cons] at this ⊢
  rw[this]; rfl
theorem aUO:∀ f args z l c e cs,aWZ f args=some (z,l,c,e,cs)→aJC Tryz.prog f args z l c cs:=by
 intro f args z l c e cs h
 unfold aWZ at h
 split at h
 ·rename_i cells hf
  split at h
  ·rename_i c' n hd
   obtain⟨h1,h2,h3⟩:=aT3 hd
   split at h
   ·cases h
   ·rename_i x r hx
    have hne:lR c' n≠[]:=by rw[hx]; simp
    rw[← hx] at h
    simp only[Option.some.injEq,Prod.mk.injEq] at h
    obtain⟨rfl,rfl,rfl,rfl,rfl⟩:=h
    have hfe:f=oZ:=Nat.eq_of_beq_eq_true hf
    subst hfe
    have hc:(Value.agg cells)=mW c' n:=by
     unfold mW
     rw[← h1]
    rw[hc]
    have hlen:0 < (lR c' n).length:=List.length_pos_iff.2 hne
    refine aUP okZ okN okM ?_ ?_ (by kernel_rfl) (Nat.le_refl _) (by simp) hlen fun ro=>?_
    ·simp[rigid,mW,fI,u8s,V.flat]
    ·simp[V.flat]
    ·refine aCA h2 h3 Fr.e fun r h' nx' hn hs hf' ho=>?_
     rcases ho with ⟨_,he⟩ | ⟨id,_,_,rfl,_,hg⟩
     ·exact absurd (List.map_eq_nil_iff.1 he) hne
     ·refine⟨id,bS,?_,?_⟩
      ·rw[i9]; rfl
      ·rw[hg,aBq]
  ·cases h
 ·cases h
end V
end Go.Proofs.YtjndkdmkecpllaaGreat
set_option maxRecDepth 8000
namespace Go.Proofs.YtjndkdmkecpllaaGreat
namespace V
open Go.ChangeShapes Go.WideShapes Go.ChangeAt Go.RowKit
set_option maxRecDepth 8000
theorem aWW:ownKnob Tryz.prog.godebug=none:=by kernel_rfl
theorem aVc:laidOutB Tryz.prog=true:=by kernel_rfl
section
variable {H:Type}{enc:TypeId × Value→H}{W:World}
theorem aVG {n:Int} (h:(Lit.int .u8 n).wf=true):0≤n∧n≤255:=by
 simp only[Lit.wf,Bool.and_eq_true,decide_eq_true_eq] at h
 have h1:IntKind.u8.min=0:=rfl
 have h2:IntKind.u8.max=255:=rfl
 rw[h1,h2] at h; exact h
theorem aUL {v:Value}{d:DataW H}{p:List MemPlace} (h:DataW.Trod enc Tryz.prog W 0 (fun _=>true) true bS v d p) {base:Nat} (hval:Value.okWide Tryz.prog W .any base bS v):∃ b:Nat,b < 256∧Arg W.heap.size (.int .u8 (b:Int)) v:=by
 have hu:Tryz.prog.underlying bS=some (.int .u8):=by kernel_rfl
 obtain⟨x,rfl,_,_,hw⟩:=open_int hu hval h
 have:=aVG hw
 refine⟨x.toNat,by omega,.one ?_⟩
 rw[Int.toNat_of_nonneg this.1]; rfl
theorem aSI {v:Value}{d:DataW H}{p:List MemPlace} (h:DataW.Trod enc Tryz.prog W 0 (fun _=>true) true mH v d p) {base:Nat} (hval:Value.okWide Tryz.prog W .any base mH v):∃ s:ByteArray,Arg W.heap.size (.string s) v:=by
 have hu:Tryz.prog.underlying mH=some .string:=by kernel_rfl
 obtain⟨s,rfl,_⟩:=Go.ChangeMaps.open_string hu hval h
 exact⟨s,.one rfl⟩
end
end V
end Go.Proofs.YtjndkdmkecpllaaGreat
namespace Go.Proofs.YtjndkdmkecpllaaGreat
namespace V
attribute [local irreducible] aA bF aV dL eJ iM dE
theorem aVa (a b:Value):nth 0 (.tuple #[a,b])=some a:=rfl
theorem aVb (a b:Value):nth 1 (.tuple #[a,b])=some b:=rfl
theorem aBU {t:TypeId}{s b:Nat} (h:(tin Tryz.prog t).map (fun i=>(i.size,i.bytes))=some (s,b)):∃ i,tin Tryz.prog t=some i∧i.size=s∧i.bytes=b:=by
 cases hi:tin Tryz.prog t with
 | none=>rw[hi] at h; cases h
 | some i=>rw[hi] at h; simp at h; exact⟨i,rfl,h.1,h.2⟩
theorem aW7:i8 Tryz.prog cI=some (.int .i64 0):=by kernel_rfl
section
variable {av bv nv fv:Value}{c:List Nat}{n:Int}{cv sv kv ev yv:Value}
theorem aKW (hc:c.length=256) (v:Value):(eK c n cv sv).set 258 v=eK c n cv v:=by
 unfold eK
 rw[List.set_append_right _ _ (by rw[dV hc]; omega),dV hc]; rfl
theorem aEj (hc:c.length=256) (v:Value):(eK c n cv sv).set 257 v=eK c n v sv:=by
 unfold eK
 rw[List.set_append_right _ _ (by rw[dV hc]; omega),dV hc]; rfl
end
def eI (ids:List Nat) (h h':T Obj):Prop:=∀ k o,h.get k=some o→k ∉ ids→h'.get k=some o
theorem aU.keepL {ids:List Nat}{h h':T Obj} (hs:aU h h'):eI ids h h':=fun k o hk _=>hs k o hk
theorem eI.trans {ids:List Nat}{a b c:T Obj} (h1:eI ids a b) (h2:eI ids b c):eI ids a c:=fun k o hk hi=>h2 k o (h1 k o hk hi) hi
theorem eI.mono {ids ids':List Nat}{a b:T Obj} (h1:eI ids a b) (h2:∀ k,k∈ids→k∈ids'):eI ids' a b:=fun k o hk hi=>h1 k o hk fun h=>hi (h2 k h)
theorem eI.upd {ids:List Nat}{a b:T Obj}{i:Nat}{o:Option Obj} (h1:eI ids a b) (hi:i∈ids):eI ids a (b.upd i o):=fun k x hk hn=>by
 rw[T.get_upd_ne _ _ (fun e=>hn (by rw[e]; exact hi))]; exact h1 k x hk hn
theorem eI.updN {ids:List Nat}{a b:T Obj}{i n:Nat}{o:Option Obj} (h1:eI ids a b) (hf:Fr a n) (hi:n≤i):eI ids a (b.upd i o):=fun k x hk hn=>by
 have:=hf.lt' hk
 rw[T.get_upd_ne _ _ (by omega)]; exact h1 k x hk hn
def del (h:T Obj):List Nat→T Obj
 | []=>h
 | i::l=>(del h l).upd i none
theorem jH {h:T Obj}:∀ {l:List Nat}{k:Nat},(del h l).get k=if k∈l then none else h.get k
 | [],k=>by simp[del]
 | i::l,k=>by
  show ((del h l).upd i none).get k=_
  by_cases hk:k=i
  ·subst hk; rw[T.get_upd_same]; simp
  ·rw[T.get_upd_ne _ _ hk,jH]; simp[hk]
theorem j3 (h:T Obj) (l:List Nat):aU (del h l) h:=fun k o hk=>by
 rw[jH] at hk
 split at hk
 ·cases hk
 ·exact hk
theorem mD {h:T Obj}{l:List Nat}{k:Nat}{o:Obj} (hk:h.get k=some o) (hn:k ∉ l):(del h l).get k=some o:=by rw[jH,if_neg hn]; exact hk
theorem eI.del {ids l l':List Nat}{h h':T Obj} (hk:eI ids h h') (h1:∀ k,k∈ids→k∈l) (h2:∀ k,k∈l'→k∈l∨h.get k=none):aU (del h l) (del h' l'):=fun k o hg=>by
 rw[jH] at hg
 split at hg
 ·cases hg
 ·rename_i hn
  refine mD (hk k o hg fun h=>hn (h1 k h)) fun hm=>?_
  rcases h2 k hm with h3 | h3
  ·exact hn h3
  ·rw[h3] at hg; cases hg
theorem bL.keepK {ids:List Nat}{h h':T Obj}{v:Value}{z:Nat}{e:TypeId}{l:List (List Value)}{lo:Nat} (ho:bL h v z e l lo) (hk:eI ids h h') (hne:∀ id,lK v=some id→id ∉ ids):bL h' v z e l lo:=by
 rcases ho with ho | ⟨id,h1,rfl,h4,h5⟩
 ·exact .inl ho
 ·exact .inr ⟨id,h1,rfl,h4,hk id _ h5 (hne id rfl)⟩
theorem bL.del {h:T Obj}{v:Value}{z:Nat}{e:TypeId}{l:List (List Value)}{lo:Nat}{ids:List Nat} (ho:bL h v z e l lo) (hne:∀ id,lK v=some id→id ∉ ids):bL (del h ids) v z e l lo:=by
 rcases ho with ho | ⟨id,h1,rfl,h4,h5⟩
 ·exact .inl ho
 ·exact .inr ⟨id,h1,rfl,h4,mD h5 (hne id rfl)⟩
theorem Kp.keepL {v:Value}{h h':T Obj}{ids:List Nat} (hk:Kp v h h') (hv:∀ id,lK v=some id→id∈ids):eI ids h h':=fun k o h1 h2=>hk k o h1 fun e=>h2 (hv k e)
theorem bL.blk {h:T Obj}{v:Value}{z:Nat}{e:TypeId}{l:List (List Value)}{lo id:Nat} (ho:bL h v z e l lo) (hb:lK v=some id):lo≤id∧h.get id=some (.cells l.flatten.toArray e):=by
 rcases ho with ⟨rfl,_⟩ | ⟨i,h1,rfl,h4,h5⟩
 ·cases hb
 ·have:i=id:=Option.some.inj hb
  subst this; exact⟨h1,h5⟩
theorem bL.ok {h:T Obj}{v:Value}{z:Nat}{e:TypeId}{l:List (List Value)}{lo:Nat} (ho:bL h v z e l lo):bV v=true:=(ho.sl (ro:=fun _=>none)).ok
abbrev bU:Value:=.slice none 0 0
theorem aTn (aid:Nat) (b:Int):bC Tryz.prog cR aid 1 [(0,.int .i64 b)]=some (.slice (some (own aid 1)) 1 1,some (.cells [Value.int .i64 b].toArray cI)):=by kernel_rfl
theorem aM6:gG Tryz.prog cR=some (.slice cI):=by kernel_rfl
theorem aM4:∃ i,tin Tryz.prog cI=some i∧i.size=1∧i.bytes=8:=aBU (by kernel_rfl)
theorem yZ {ro:Ro}{h:T Obj}{v:Value}{nx n1 n2 lo:Nat}{l:List Int}{b:Int}{K:Value × Option Obj→T Obj→Value × T Obj × Nat→Prop} (ho:bL h v 1 cI (fK l) lo) (hl:l.length≤1000000) (hf:Fr h nx) (hlo:lo≤nx) (hn1:nx≤n1) (hn2:n1 < n2)
  (hK:∀ h' w,bL h' w 1 cI (fK (l++[b])) lo→w=.slice (some (own n2 1)) (l.length+1) (l.length+1)→Kp v h h'→Fr h' (n2+1)→K (.slice (some (own n1 1)) 1 1,some (.cells [Value.int .i64 b].toArray cI)) (h.upd n1 (some (.cells [Value.int .i64 b].toArray cI))) (w,h',n2+1)) :
  aA (bC Tryz.prog cR n1 1 [(0,.int .i64 b)]) fun r=>eJ h n1 r.2 fun h'=>aA (bY Tryz.prog ro h' n2 #[cR,cR] [v,r.1]) (K r h'):=by
 obtain⟨i,g1,g2,g3⟩:=aM4
 have e:fK l++[[Value.int .i64 b]]=fK (l++[b]):=by simp[fK]
 have el:=i6 l
 refine pK (z:=1) (l:=fK l) (y:=[.int .i64 b]) (aTn _ _) rfl ho aM6 g1 g2 (by omega) aW7 rfl rfl (by rw[el,g3]; unfold oB; omega) (by rw[el]; unfold oB; omega) hf hlo hn1 hn2 fun h' q1 q2 q3=>?_
 rw[e] at q1 ⊢
 refine hK h' _ q1 ?_ q2 q3
 rw[i6,List.length_append]; rfl
theorem oI:i8 Tryz.prog aR=some (.agg #[bU,bU,bU,bU]):=by kernel_rfl
theorem aEO (aid:Nat) (a b c d:Value):bC Tryz.prog fL aid 1 [(0,.agg #[a,b,c,d])]=some (.slice (some (own aid 4)) 1 1,some (.cells [a,b,c,d].toArray aR)):=by kernel_rfl
theorem aHZ:gG Tryz.prog fL=some (.slice aR):=by kernel_rfl
theorem aIx:∃ i,tin Tryz.prog aR=some i∧i.size=4∧i.bytes=96:=aBU (by kernel_rfl)
def rK (l:List Nat):List (List Value):=l.map fun b:Nat=>[Value.int .u8 (b:Int)]
theorem uZ (l:List Nat):(rK l).length=l.length:=by simp[rK]
theorem bL.updNe {h:T Obj}{v:Value}{z:Nat}{e e':TypeId}{l:List (List Value)}{lo i:Nat}{c:Array Value}{f:Nat × Nat}{o:Option Obj} (ho:bL h v z e l lo) (hg:h.get i=some (.cells c e' f)) (he:e'≠e):bL (h.upd i o) v z e l lo:=by
 rcases ho with ho | ⟨id,h1,rfl,h4,h5⟩
 ·exact .inl ho
 ·refine .inr ⟨id,h1,rfl,h4,?_⟩
  rw[T.get_upd_ne _ _ (by
   rintro rfl
   rw[hg] at h5
   simp only[Option.some.injEq,Obj.cells.injEq] at h5
   exact he h5.2.1)]
  exact h5
theorem yU:i8 Tryz.prog bK=some (.agg #[.int .i64 0,bU]):=by kernel_rfl
def dK (e:TypeId) (h h':T Obj):Prop:=∀ (k:Nat) c f,h.get k=some (.cells c e f)→h'.get k=some (.cells c e f)
theorem dK.refl {e:TypeId}{h:T Obj}:dK e h h:=fun _ _ _ hg=>hg
theorem dK.trans {e:TypeId}{a b c:T Obj} (h1:dK e a b) (h2:dK e b c):dK e a c:=fun k x f hg=>h2 k x f (h1 k x f hg)
theorem aU.ty {e:TypeId}{h h':T Obj} (hs:aU h h'):dK e h h':=fun k c f hg=>hs _ _ hg
theorem dK.upd {e e':TypeId}{a h:T Obj}{i:Nat}{o:Option Obj}{c:Array Value}{f:Nat × Nat} (h1:dK e a h) (hg:h.get i=some (.cells c e' f)) (he:e'≠e):dK e a (h.upd i o):=fun k x q hk=>by
 have:=h1 k x q hk
 rw[T.get_upd_ne _ _ (by
  rintro rfl
  rw[hg] at this
  simp only[Option.some.injEq,Obj.cells.injEq] at this
  exact he this.2.1)]
 exact this
theorem bL.ty {h h':T Obj}{v:Value}{z:Nat}{e:TypeId}{l:List (List Value)}{lo:Nat} (ho:bL h v z e l lo) (hk:dK e h h'):bL h' v z e l lo:=by
 rcases ho with ho | ⟨id,h1,rfl,h4,h5⟩
 ·exact .inl ho
 ·exact .inr ⟨id,h1,rfl,h4,hk _ _ _ h5⟩
theorem bL.neB {h:T Obj}{v:Value}{z:Nat}{e:TypeId}{l:List (List Value)}{lo k:Nat}{o:Obj} (ho:bL h v z e l lo) (hk:h.get k=some o) (he:∀ c f,o≠.cells c e f):lK v≠some k:=fun hb=>by
 obtain⟨_,h5⟩:=ho.blk hb
 rw[hk] at h5
 exact he _ _ (Option.some.inj h5)
theorem Kp.ty {h h':T Obj}{v:Value}{z:Nat}{e e':TypeId}{l:List (List Value)}{lo:Nat} (hk:Kp v h h') (ho:bL h v z e' l lo) (he:e'≠e):dK e h h':=fun k c f hg=>hk k _ hg (ho.neB hg (by
 intro c f h
 simp only[Obj.cells.injEq] at h
 exact he h.2.1.symm))
theorem aRW (aid:Nat) (a b:Value):bC Tryz.prog bP aid 1 [(0,.agg #[a,b])]=some (.slice (some (own aid 2)) 1 1,some (.cells [a,b].toArray bK)):=by kernel_rfl
theorem aIy:gG Tryz.prog bP=some (.slice bK):=by kernel_rfl
theorem aM3:∃ i,tin Tryz.prog bK=some i∧i.size=2∧i.bytes=32:=aBU (by kernel_rfl)
theorem aKQ {ro:Ro}{h:T Obj}{v a b:Value}{nx n1 n2 lo:Nat}{l:List (List Value)}{K:Value × Option Obj→T Obj→Value × T Obj × Nat→Prop} (ha:bV a=true) (hb:bV b=true) (ho:bL h v 2 bK l lo) (hl:l.length≤1000000) (hf:Fr h nx) (hlo:lo≤nx) (hn1:nx≤n1) (hn2:n1 < n2)
  (hK:∀ h' w,bL h' w 2 bK (l++[[a,b]]) lo→w=.slice (some (own n2 2)) (l++[[a,b]]).length (l++[[a,b]]).length→Kp v h h'→Fr h' (n2+1)→K (.slice (some (own n1 2)) 1 1,some (.cells [a,b].toArray bK)) (h.upd n1 (some (.cells [a,b].toArray bK))) (w,h',n2+1)) :
  aA (bC Tryz.prog bP n1 1 [(0,.agg #[a,b])]) fun r=>eJ h n1 r.2 fun h'=>aA (bY Tryz.prog ro h' n2 #[bP,bP] [v,r.1]) (K r h'):=by
 obtain⟨i,g1,g2,g3⟩:=aM3
 exact pK (z:=2) (l:=l) (y:=[a,b]) (aRW _ _ _) rfl ho aIy g1 g2 (by omega) yU rfl (by simp[ha,hb]) (by rw[g3]; unfold oB; omega) (by unfold oB; omega) hf hlo hn1 hn2 fun h' q1 q2 q3=>hK h' _ q1 rfl q2 q3
theorem aA3 {h:T Obj}{l l':List Nat} (hl:∀ k,k∈l→k∈l'):aU (del h l') (del h l):=fun k o hk=>by
 rw[jH] at hk
 split at hk
 ·cases hk
 ·rename_i hn
  exact mD hk fun h=>hn (hl k h)
theorem eI.delS {ids l:List Nat}{h h':T Obj} (hk:eI ids h h') (hl:∀ k,k∈ids→k∈l):aU (V.del h l) h':=fun k o hg=>by
 rw[jH] at hg
 split at hg
 ·cases hg
 ·rename_i hn; exact hk k o hg fun h=>hn (hl k h)
def nB:List Value:=eK (List.replicate 256 0) 0 bU bU
theorem aBX:i8 Tryz.prog bI=some (.agg nB.toArray):=by kernel_rfl
theorem aEk:cX Tryz.prog bI []=some (.agg nB.toArray):=by kernel_rfl
theorem nG:nB.length=259:=cV List.length_replicate
theorem aNs:nB.all bV=true:=aB0 rfl rfl
theorem aU.delN {h h':T Obj}{ids:List Nat}{n:Nat} (hs:aU h h') (hf:Fr h n) (hi:∀ i∈ids,n≤i):aU h (V.del h' ids):=fun k o hk=>mD (hs k o hk) fun hm=>by
 have:=hf.lt' hk
 have:=hi k hm
 omega
theorem aJK:cX Tryz.prog aR []=some (.agg #[bU,bU,bU,bU]):=by kernel_rfl
def zA (l:List (Int × Int)):List (List Value):=l.map fun p=>[.int .i64 p.1,.int .i64 p.2]
theorem yC (l:List (Int × Int)):(zA l).length=l.length:=by simp[zA]
theorem aUy {ro:Ro}{h:T Obj}{v:Value}{l:List (Int × Int)}{lo:Nat} (ho:bL h v 2 eP (zA l) lo):gD ro h v 2 aCV l:=⟨zA l,ho.sl,yC l,fun i x d hx hd=>by
 unfold zA at hx
 rw[List.getElem?_map,hd] at hx
 exact (Option.some.inj hx).symm⟩
end V
end Go.Proofs.YtjndkdmkecpllaaGreat
namespace Go.Proofs.YtjndkdmkecpllaaGreat
namespace V
attribute [local irreducible] rR aN aA
abbrev lS:FuncId:=17
abbrev oQ:FuncId:=19
abbrev nN:FuncId:=20
abbrev j7:FuncId:=21
abbrev kQ:FuncId:=22
abbrev kR:FuncId:=52
abbrev kB:FuncId:=54
abbrev mE:FuncId:=56
abbrev nO:FuncId:=101
abbrev pJ:FuncId:=103
abbrev pI:FuncId:=104
abbrev gJ:FuncId:=109
abbrev sZ:FuncId:=131
abbrev sY:FuncId:=132
@[irreducible] def wG (ro:Ro) (K:KV):dF→T Obj→Nat→Prop:=fun e h nx=>∃ h14,aU h14 h∧K (.tuple #[(e 4),(Value.int IntKind.i64 0)]) h14 (nx+3)
@[irreducible] def aEr (ro:Ro):PT:=fun e h nx Q=>aA (aP .lss (e 19) (e 18)) fun d'=>aV d' (aA (cD 2 (e 17) (e 19)) fun g'=>aA (loadA ro h 2 g') fun h'=>aA (i8 Tryz.prog eP) fun u'=>dL h (nx+3) (.cells u'.cells eP) fun v'=>aA (bH 2 v' (ptr (nx+3)) h') fun n'=>aA (ixArr 2 1 (ptr (nx+3)) (Value.int IntKind.i64 1)) fun i'=>aA (load1 ro n' i') fun j'=>aN Tryz.prog ro aCa [j'] n' (nx+8) fun b' k' e'=>aA (nth 0 b') fun c'=>aA (nth 1 b') fun a'=>aA (aP .neq a' (Value.int IntKind.i64 0)) fun l'=>aV l' (Q .ret (puts e [(20,d'),(21,g'),(22,h'),(6,(ptr (nx+3))),(24,i'),(25,j'),(26,b'),(23,b'),(27,c'),(28,a'),(7,c'),(8,a'),(29,a'),(30,l'),(31,a'),(2,(Value.pointer none)),(3,a')]) k' (e'+10)) (aA (bZ (e 4)) fun o'=>aA (aT 260 o') fun p'=>aA (load1 ro k' p') fun q'=>aA (bC Tryz.prog mG (e'+13) 1 [(0,c')]) fun m'=>eJ k' (e'+13) m'.2 fun w'=>aA (bY Tryz.prog ro w' (e'+15) #[mG,mG] [q',m'.1]) fun f'=>aA (bZ (e 4)) fun r'=>aA (aT 260 r') fun s'=>aA (bH 1 f'.2.1 s' f'.1) fun x'=>aA (aP .add (e 19) (Value.int IntKind.i64 1)) fun t'=>Q .normal (puts e [(20,d'),(21,g'),(22,h'),(6,(ptr (nx+3))),(24,i'),(25,j'),(26,b'),(23,b'),(27,c'),(28,a'),(7,c'),(8,a'),(29,a'),(30,l'),(32,(e 4)),(33,(e 4)),(34,o'),(35,p'),(36,q'),(37,c'),(38,m'.1),(39,f'.1),(40,r'),(41,s'),(42,t'),(19,t')]) x' (f'.2.2+5))) (Q (.exit 0) (puts e [(20,d')]) h (nx+1))
@[irreducible] def aKr (ro:Ro) (v0:Value) (h:T Obj) (nx:Nat) (K:KV):Prop:=dL h nx (.cells (Value.cells v0) bI) fun h1=>aA (loadA ro h1 259 (ptr nx)) fun e'=>aN Tryz.prog ro zF [e'] h1 (nx+5) fun f' h4 n5=>aA (unV .not f') fun g'=>aV g' (∃ h7,aU h7 h4∧K (.tuple #[(Value.pointer none),(Value.int IntKind.i64 1)]) h7 (n5+3)) (aA (loadA ro h4 259 (ptr nx)) fun h'=>aN Tryz.prog ro xI [h'] h4 (n5+3) fun i' o' a'=>aA (cX Tryz.prog cG [(0,i')]) fun j'=>dL o' (a'+1) (.cells (Value.cells j') cG) fun k'=>aA (aT 257 (ptr nx)) fun l'=>aA (load1 ro k' l') fun m'=>aA (bM m') fun p'=>dC (aEr ro) (puts (gS [v0]) [(1,(ptr nx)),(2,(Value.pointer none)),(3,(Value.int IntKind.i64 0)),(9,e'),(10,f'),(11,g'),(12,h'),(13,i'),(14,j'),(15,(ptr (a'+1))),(4,(ptr (a'+1))),(16,l'),(17,m'),(18,p'),(19,(Value.int IntKind.i64 0))]) k' (a'+7) fun q' b' c' d'=>iM q' (wG ro K b' c' d') (fun r'=>dE (Nat.beq r' 0) (wG ro K b' c' d') (False)) (∃ n',aU n' c'∧K (.tuple #[(b' 2),(b' 3)]) n' d'))
theorem aKs {ro:Ro}{v0:Value}{h:T Obj}{nx:Nat}{K:KV} (hw:aKr ro v0 h nx K):aN Tryz.prog ro zG [v0] h nx K:=zzO (fn:=Tryz.f15) hw
@[irreducible] def iO (ro:Ro) (K:KV):dF→T Obj→Nat→Prop:=fun e h nx=>∃ h35,aU h35 h∧K (.tuple #[(e 6),(e 7),(e 8)]) h35 (nx+6)
@[irreducible] def iP (ro:Ro) (Q:KE):dF→T Obj→Nat→Prop:=fun e h nx=>aA (aP .add (e 9) (Value.int IntKind.i64 1)) fun a'=>Q .normal (puts e [(29,(e 9)),(30,a'),(9,a')]) h (nx+3)
@[irreducible] def pT (ro:Ro):PT:=fun e h nx Q=>aA (uW (e 1)) fun b'=>aA (aP .lss (e 9) b') fun c'=>aV c' (aA (aLE (e 1) (e 9)) fun e'=>aN Tryz.prog ro oQ [(e 0),e'] h (nx+9) fun f' h' i'=>aA (unV .not f') fun a'=>aV a' (Q (.exit 0) (puts e [(25,(e 9)),(26,(e 1)),(27,b'),(28,c'),(32,(e 0)),(33,(e 1)),(34,(e 9)),(35,e'),(36,f'),(37,a'),(31,a')]) h' (i'+2)) (aN Tryz.prog ro kQ [(e 0)] h' (i'+4) fun g' j' k'=>aA (aP .neq g' (Value.int IntKind.i64 (-1))) fun d'=>aV d' (aA (aP .add (e 9) (Value.int IntKind.i64 1)) fun l'=>aN Tryz.prog ro kQ [(e 0)] j' (k'+6) fun m' n' o'=>iP ro Q (puts e [(25,(e 9)),(26,(e 1)),(27,b'),(28,c'),(32,(e 0)),(33,(e 1)),(34,(e 9)),(35,e'),(36,f'),(37,a'),(31,a'),(39,(e 0)),(40,g'),(41,d'),(38,d'),(42,(e 9)),(43,l'),(44,(e 0)),(45,m'),(6,l'),(7,m'),(8,(Value.bool true))]) n' (o'+3)) (iP ro Q (puts e [(25,(e 9)),(26,(e 1)),(27,b'),(28,c'),(32,(e 0)),(33,(e 1)),(34,(e 9)),(35,e'),(36,f'),(37,a'),(31,a'),(39,(e 0)),(40,g'),(41,d'),(38,d')]) j' (k'+2)))) (Q (.exit 0) (puts e [(25,(e 9)),(26,(e 1)),(27,b'),(28,c')]) h (nx+4))
@[irreducible] def sI (ro:Ro) (v0 v1 v2:Value) (h:T Obj) (nx:Nat) (K:KV):Prop:=aA (aEX .eql v0 (Value.pointer none)) fun b'=>bF b' false h (nx+6) (fun k2=>k2 v2 h (nx+7)) fun f' h4 n5=>bF b' false h4 n5 (fun k6=>aA (aP .lss f' (Value.int IntKind.i64 0)) fun w'=>k6 w' h4 (n5+1)) fun g' h8 n9=>aA (b7 b' (Value.bool true) g') fun a'=>bF a' false h8 (n9+2) (fun x'=>x' v2 h8 (n9+3)) fun h' i' j'=>bF a' false i' j' (fun y'=>y' v1 i' (j'+1)) fun k' l' m'=>bF a' false l' m' (fun z'=>aA (uW k') fun A'=>z' A' l' (m'+1)) fun n' o' p'=>bF a' false o' p' (fun B'=>aA (aP .gtr h' n') fun C'=>B' C' o' (p'+1)) fun q' r' s'=>aA (b7 a' (Value.bool true) q') fun t'=>aV t' (∃ u',aU u' r'∧K (.tuple #[(Value.int IntKind.i64 0),(Value.int IntKind.i64 0),(Value.bool false)]) u' (s'+4)) (aN Tryz.prog ro nN [v0] r' (s'+3) fun D' E' F'=>dC (pT ro) (puts (gS [v0,v1,v2]) [(6,(Value.int IntKind.i64 0)),(7,(Value.int IntKind.i64 0)),(8,(Value.bool false)),(10,v0),(11,b'),(12,b'),(13,f'),(14,g'),(15,a'),(16,a'),(17,h'),(18,k'),(19,n'),(20,q'),(21,t'),(22,v0),(23,D'),(24,v2),(9,v2)]) E' (F'+2) fun G' c' d' e'=>iM G' (iO ro K c' d' e') (fun H'=>dE (Nat.beq H' 0) (iO ro K c' d' e') (False)) (∃ v',aU v' d'∧K (.tuple #[(c' 6),(c' 7),(c' 8)]) v' e'))
theorem yH {ro:Ro}{v0 v1 v2:Value}{h:T Obj}{nx:Nat}{K:KV} (hw:sI ro v0 v1 v2 h nx K):aN Tryz.prog ro lS [v0,v1,v2] h nx K:=zzO (fn:=Tryz.f17) hw
@[irreducible] def j4 (ro:Ro) (K:KV):dF→T Obj→Nat→Prop:=fun e h nx=>aA (aT 0 (e 6)) fun b'=>aA (load1 ro h b') fun c'=>aA (aP .neq c' (Value.int IntKind.i64 (-1))) fun d'=>∃ a',aU a' h∧K d' a' (nx+4)
@[irreducible] def sJ (ro:Ro):PT:=fun e h nx Q=>aA (aP .lss (e 94) (e 93)) fun b'=>aV b' (aA (cD 1 (e 92) (e 94)) fun c'=>aA (load1 ro h c') fun a'=>aA (bZ (e 0)) fun d'=>aA (aT 260 d') fun e'=>aA (load1 ro h e') fun f'=>aA (cD 1 f' a') fun g'=>aA (load1 ro h g') fun h'=>aA (aT 1 (e 6)) fun i'=>aA (load1 ro h i') fun j'=>aA (cD 1 j' (e 94)) fun k'=>aA (load1 ro h k') fun l'=>aN Tryz.prog ro xH [h',l'] h (nx+19) fun n' o' p'=>aA (aP .add (e 94) (Value.int IntKind.i64 1)) fun m'=>Q .normal (puts e [(95,b'),(96,(e 94)),(97,c'),(98,a'),(10,(e 94)),(11,a'),(99,(e 0)),(100,d'),(101,e'),(102,f'),(103,a'),(104,g'),(105,h'),(106,i'),(107,j'),(108,(e 94)),(109,k'),(110,l'),(111,n'),(112,m'),(94,m')]) o' (p'+2)) (Q (.exit 2) (puts e [(95,b')]) h (nx+1))
@[irreducible] def iI (ro:Ro) (K:KV):dF→T Obj→Nat→Prop:=fun e h nx=>aA (bM (e 7)) fun e'=>dC (sJ ro) (puts e [(92,(e 7)),(93,e'),(94,(Value.int IntKind.i64 0))]) h (nx+3) fun f' a' b' c'=>iM f' (j4 ro K a' b' c') (fun g'=>dE (Nat.beq g' 2) (j4 ro K a' b' c') (False)) (∃ d',aU d' b'∧K (a' 4) d' c')
@[irreducible] def j5 (ro:Ro) (Q:KE):dF→T Obj→Nat→Prop:=fun e h nx=>aA (aP .add (e 75) (Value.int IntKind.i64 1)) fun a'=>Q .normal (puts e [(91,a'),(75,a')]) h (nx+2)
@[irreducible] def sK (ro:Ro):PT:=fun e h nx Q=>aA (aP .lss (e 75) (e 74)) fun b'=>aV b' (aA (cD 1 (e 73) (e 75)) fun d'=>aA (load1 ro h d') fun a'=>aN Tryz.prog ro gW [(e 7),a'] h (nx+7) fun e' c' g'=>aA (unV .not e') fun f'=>aV f' (aA (bZ (e 0)) fun h'=>aA (aT 260 h') fun i'=>aA (load1 ro c' i') fun j'=>aA (cD 1 j' a') fun k'=>aA (load1 ro c' k') fun l'=>aN Tryz.prog ro kB [l'] c' (g'+9) fun m' n' o'=>j5 ro Q (puts e [(76,b'),(77,d'),(78,a'),(9,a'),(79,(e 7)),(80,a'),(81,e'),(82,f'),(83,(e 0)),(84,h'),(85,i'),(86,j'),(87,a'),(88,k'),(89,l'),(90,m')]) n' o') (j5 ro Q (puts e [(76,b'),(77,d'),(78,a'),(9,a'),(79,(e 7)),(80,a'),(81,e'),(82,f')]) c' (g'+1))) (Q (.exit 0) (puts e [(76,b')]) h (nx+1))
@[irreducible] def iH (ro:Ro) (K:KV):dF→T Obj→Nat→Prop:=fun e h nx=>aA (aT 1 (e 5)) fun d'=>aA (load1 ro h d') fun e'=>aA (bM e') fun g'=>dC (sK ro) (puts e [(72,d'),(73,e'),(74,g'),(75,(Value.int IntKind.i64 0))]) h (nx+4) fun h' a' b' c'=>iM h' (iI ro K a' b' c') (fun i'=>dE (Nat.beq i' 0) (iI ro K a' b' c') (False)) (∃ f',aU f' b'∧K (a' 4) f' c')
@[irreducible] def wE (ro:Ro) (v0 v1:Value) (h:T Obj) (nx:Nat) (K:KV):Prop:=aN Tryz.prog ro j7 [v0] h (nx+3) fun f' h2 n3=>aA (aP .eql f' (Value.int IntKind.i64 (-1))) fun g'=>aV g' (∃ h5,aU h5 h2∧K (Value.bool false) h5 (n3+2)) (aA (bZ v0) fun h'=>aA (aT 0 h') fun i'=>aA (aT 258 i') fun j'=>aA (load1 ro h2 j') fun k'=>aA (bZ v0) fun l'=>aA (aT 259 l') fun m'=>aA (load1 ro h2 m') fun n'=>aA (cD 4 k' n') fun o'=>aA (loadA ro h2 4 o') fun p'=>aA (i8 Tryz.prog aR) fun af'=>dL h2 (n3+12) (.cells af'.cells aR) fun ag'=>aA (bH 4 ag' (ptr (n3+12)) p') fun c'=>aA (aT 3 (ptr (n3+12))) fun d'=>aA (load1 ro c' d') fun q'=>aA (loadA ro c' 4 (ptr (n3+12))) fun r'=>aN Tryz.prog ro kR [v0,r'] c' (n3+33) fun s' a' U'=>(pC d' c' a')∧(aA (cD 1 q' s') fun t'=>aA (load1 ro a' t') fun u'=>aA (bZ v0) fun v'=>aA (aT 0 v') fun w'=>aA (aT 0 w') fun x'=>aA (aT 0 x') fun y'=>aA (ixArr 256 1 y' v1) fun e'=>aA (load1 ro a' e') fun z'=>(pC e' c' a')∧(aA (cD 2 u' z') fun A'=>aA (loadA ro a' 2 A') fun B'=>aA (i8 Tryz.prog bK) fun ah'=>dL a' (n3+31) (.cells ah'.cells bK) fun ai'=>aA (bH 2 ai' (ptr (n3+31)) B') fun C'=>aA (bZ v0) fun D'=>aA (aT 261 D') fun E'=>aA (load1 ro C' E') fun F'=>aA (aT 1 (ptr (n3+12))) fun G'=>aA (load1 ro C' G') fun H'=>aA (bM H') fun I'=>aA (aP .add (Value.int IntKind.i64 1) I') fun J'=>aA (aP .add F' J') fun K'=>aA (bZ v0) fun L'=>aA (aT 261 L') fun M'=>aA (bH 1 C' M' K') fun V'=>aA (aT 0 (ptr (n3+31))) fun N'=>aA (load1 ro V' N') fun O'=>aA (bZ v0) fun P'=>aA (aT 259 P') fun Q'=>aA (bH 1 V' Q' O') fun b'=>aA (aT 0 (ptr (n3+31))) fun R'=>aA (load1 ro b' R') fun S'=>aA (aP .neq S' (Value.int IntKind.i64 (-1))) fun T'=>aV T' (aA (bZ v0) fun W'=>aA (aT 0 W') fun X'=>aA (aT 258 X') fun Y'=>aA (load1 ro b' Y') fun Z'=>aA (aT 0 (ptr (n3+31))) fun aa'=>aA (load1 ro b' aa') fun ab'=>aA (cD 4 Z' ab') fun ac'=>aA (aT 1 ac') fun ad'=>aA (load1 ro b' ad') fun ae'=>iH ro K (puts (gS [v0,v1]) [(4,(Value.bool false)),(12,v0),(13,f'),(14,g'),(15,v0),(16,h'),(17,i'),(18,j'),(19,k'),(20,v0),(21,l'),(22,m'),(23,n'),(24,o'),(25,p'),(5,(ptr (n3+12))),(26,d'),(27,q'),(28,v0),(29,r'),(30,s'),(31,t'),(32,u'),(33,v0),(34,v1),(35,v'),(36,w'),(37,x'),(38,y'),(39,e'),(40,z'),(41,A'),(42,B'),(6,(ptr (n3+31))),(43,v0),(44,D'),(45,E'),(46,F'),(47,G'),(48,H'),(49,I'),(50,J'),(51,K'),(52,L'),(53,M'),(54,v0),(55,N'),(56,O'),(57,P'),(58,Q'),(7,(Value.slice none 0 0)),(59,R'),(60,S'),(61,T'),(62,v0),(63,W'),(64,X'),(65,Y'),(66,Z'),(67,aa'),(68,ab'),(69,ac'),(70,ad'),(71,ae'),(7,ae')]) b' (U'+33)) (iH ro K (puts (gS [v0,v1]) [(4,(Value.bool false)),(12,v0),(13,f'),(14,g'),(15,v0),(16,h'),(17,i'),(18,j'),(19,k'),(20,v0),(21,l'),(22,m'),(23,n'),(24,o'),(25,p'),(5,(ptr (n3+12))),(26,d'),(27,q'),(28,v0),(29,r'),(30,s'),(31,t'),(32,u'),(33,v0),(34,v1),(35,v'),(36,w'),(37,x'),(38,y'),(39,e'),(40,z'),(41,A'),(42,B'),(6,(ptr (n3+31))),(43,v0),(44,D'),(45,E'),(46,F'),(47,G'),(48,H'),(49,I'),(50,J'),(51,K'),(52,L'),(53,M'),(54,v0),(55,N'),(56,O'),(57,P'),(58,Q'),(7,(Value.slice none 0 0)),(59,R'),(60,S'),(61,T')]) b' (U'+22)))))
theorem aA8 {ro:Ro}{v0 v1:Value}{h:T Obj}{nx:Nat}{K:KV} (hw:wE ro v0 v1 h nx K):aN Tryz.prog ro oQ [v0,v1] h nx K:=zzO (fn:=Tryz.f19) hw
@[irreducible] def jI (ro:Ro) (Q:KE):dF→T Obj→Nat→Prop:=fun e h nx=>aA (aP .add (e 14) (Value.int IntKind.i64 1)) fun a'=>Q .normal (puts e [(23,a'),(14,a')]) h (nx+2)
@[irreducible] def rA (ro:Ro):PT:=fun e h nx Q=>aA (aP .lss (e 14) (e 13)) fun b'=>aV b' (aA (cD 1 (e 12) (e 14)) fun c'=>aA (load1 ro h c') fun a'=>aN Tryz.prog ro mE [a'] h (nx+6) fun d' f' g'=>aA (aP .gtr d' (Value.int IntKind.i64 0)) fun e'=>aV e' (aN Tryz.prog ro kB [a'] f' (g'+3) fun h' i' j'=>jI ro Q (puts e [(15,b'),(16,c'),(17,a'),(3,a'),(18,a'),(19,d'),(20,e'),(21,a'),(22,h')]) i' j') (jI ro Q (puts e [(15,b'),(16,c'),(17,a'),(3,a'),(18,a'),(19,d'),(20,e')]) f' (g'+1))) (Q (.exit 0) (puts e [(15,b')]) h (nx+1))
@[irreducible] def uH (ro:Ro) (v0:Value) (h:T Obj) (nx:Nat) (K:KV):Prop:=aA (aEX .eql v0 (Value.pointer none)) fun c'=>aV c' (∃ h2,aU h2 h∧K (.tuple #[]) h2 (nx+2)) (aA (bZ v0) fun d'=>aA (aT 259 d') fun e'=>aA (bH 1 h e' (Value.int IntKind.i64 0)) fun h5=>aA (bZ v0) fun f'=>aA (aT 260 f') fun g'=>aA (load1 ro h5 g') fun h'=>aA (bM h') fun l'=>dC (rA ro) (puts (gS [v0]) [(4,v0),(5,c'),(6,v0),(7,d'),(8,e'),(9,v0),(10,f'),(11,g'),(12,h'),(13,l'),(14,(Value.int IntKind.i64 0))]) h5 (nx+12) fun m' o' a' b'=>iM m' (∃ i',aU i' a'∧K (.tuple #[]) i' b') (fun n'=>dE (Nat.beq n' 0) (∃ j',aU j' a'∧K (.tuple #[]) j' b') (False)) (∃ k',aU k' a'∧K (.tuple #[]) k' b'))
theorem aAM {ro:Ro}{v0:Value}{h:T Obj}{nx:Nat}{K:KV} (hw:uH ro v0 h nx K):aN Tryz.prog ro nN [v0] h nx K:=zzO (fn:=Tryz.f20) hw
@[irreducible] def uI (ro:Ro) (v0:Value) (h:T Obj) (nx:Nat) (K:KV):Prop:=aA (aEX .eql v0 (Value.pointer none)) fun a'=>aV a' (∃ h2,aU h2 h∧K (Value.int IntKind.i64 (-1)) h2 (nx+4)) (aA (bZ v0) fun b'=>aA (aT 259 b') fun c'=>aA (load1 ro h c') fun d'=>∃ h6,aU h6 h∧K d' h6 (nx+8))
theorem aAN {ro:Ro}{v0:Value}{h:T Obj}{nx:Nat}{K:KV} (hw:uI ro v0 h nx K):aN Tryz.prog ro j7 [v0] h nx K:=zzO (fn:=Tryz.f21) hw
@[irreducible] def wD (ro:Ro) (v0:Value) (h:T Obj) (nx:Nat) (K:KV):Prop:=aN Tryz.prog ro j7 [v0] h (nx+3) fun e' h2 n3=>aA (aP .eql e' (Value.int IntKind.i64 (-1))) fun f'=>aV f' (∃ h5,aU h5 h2∧K (Value.int IntKind.i64 (-1)) h5 (n3+2)) (aA (bZ v0) fun g'=>aA (aT 0 g') fun h'=>aA (aT 258 h') fun i'=>aA (load1 ro h2 i') fun j'=>aA (bZ v0) fun k'=>aA (aT 259 k') fun l'=>aA (load1 ro h2 l') fun m'=>aA (cD 4 j' m') fun n'=>aA (loadA ro h2 4 n') fun o'=>aA (i8 Tryz.prog aR) fun p'=>dL h2 (n3+12) (.cells p'.cells aR) fun q'=>aA (bH 4 q' (ptr (n3+12)) o') fun a'=>aA (aT 2 (ptr (n3+12))) fun c'=>aA (load1 ro a' c') fun r'=>aA (loadA ro a' 4 (ptr (n3+12))) fun s'=>aN Tryz.prog ro kR [v0,s'] a' (n3+22) fun t' b' u'=>(pC c' a' b')∧(aA (cD 1 r' t') fun v'=>aA (load1 ro b' v') fun w'=>∃ d',aU d' b'∧K w' d' u'))
theorem aA7 {ro:Ro}{v0:Value}{h:T Obj}{nx:Nat}{K:KV} (hw:wD ro v0 h nx K):aN Tryz.prog ro kQ [v0] h nx K:=zzO (fn:=Tryz.f22) hw
@[irreducible] def qJ (ro:Ro) (K:KV):dF→T Obj→Nat→Prop:=fun e h nx=>aA (loadA ro h 259 (e 3)) fun c'=>aA (bH 259 h (e 2) c') fun a'=>aA (loadA ro a' 259 (e 2)) fun d'=>∃ b',aU b' a'∧K d' b' (nx+2)
@[irreducible] def qK (ro:Ro) (Q:KE):dF→T Obj→Nat→Prop:=fun e h nx=>aA (aP .add (e 21) (Value.int IntKind.i64 1)) fun a'=>Q .normal (puts e [(69,a'),(21,a')]) h (nx+2)
@[irreducible] def qL (ro:Ro) (Q:KE):dF→T Obj→Nat→Prop:=fun e h nx=>aA (aT 258 (e 3)) fun c'=>aA (load1 ro h c') fun d'=>aA (loadA ro h 4 (e 6)) fun e'=>aA (bC Tryz.prog fL (nx+3) 1 [(0,e')]) fun b'=>eJ h (nx+3) b'.2 fun g'=>aA (bY Tryz.prog ro g' (nx+5) #[fL,fL] [d',b'.1]) fun a'=>aA (aT 258 (e 3)) fun f'=>aA (bH 1 a'.2.1 f' a'.1) fun h'=>qK ro Q (puts e [(63,c'),(64,d'),(65,e'),(66,b'.1),(67,a'.1),(68,f')]) h' (a'.2.2+2)
@[irreducible] def qM (ro:Ro) (Q:KE):dF→T Obj→Nat→Prop:=fun e h nx=>aA (aP .add (e 35) (Value.int IntKind.i64 1)) fun a'=>Q .normal (puts e [(62,a'),(35,a')]) h (nx+2)
@[irreducible] def qN (ro:Ro) (Q:KE):dF→T Obj→Nat→Prop:=fun e h nx=>aA (aT 3 (e 6)) fun c'=>aA (load1 ro h c') fun d'=>aA (bC Tryz.prog eH (nx+3) 1 [(0,(e 9))]) fun b'=>eJ h (nx+3) b'.2 fun f'=>aA (bY Tryz.prog ro f' (nx+5) #[eH,eH] [d',b'.1]) fun a'=>aA (aT 3 (e 6)) fun e'=>aA (bH 1 a'.2.1 e' a'.1) fun g'=>qM ro Q (puts e [(56,c'),(57,d'),(58,(e 9)),(59,b'.1),(60,a'.1),(61,e')]) g' (a'.2.2+2)
@[irreducible] def uM (ro:Ro):PT:=fun e h nx Q=>aA (aP .lss (e 43) (e 42)) fun a'=>aV a' (aA (cD 2 (e 41) (e 43)) fun b'=>aA (loadA ro h 2 b') fun c'=>aA (i8 Tryz.prog bK) fun k'=>dL h (nx+4) (.cells k'.cells bK) fun l'=>aA (bH 2 l' (ptr (nx+4)) c') fun d'=>aA (aT 1 (ptr (nx+4))) fun e'=>aA (load1 ro d' e') fun f'=>aN Tryz.prog ro jB [f'] d' (nx+12) fun g' m' n'=>aA (cD 2 (e 9) (e 43)) fun h'=>aA (aT 1 h') fun i'=>aA (bH 1 m' i' g') fun o'=>aA (aP .add (e 43) (Value.int IntKind.i64 1)) fun j'=>Q .normal (puts e [(44,a'),(45,(e 43)),(46,b'),(47,c'),(11,(ptr (nx+4))),(10,(e 43)),(48,(e 9)),(49,(e 43)),(50,e'),(51,f'),(52,g'),(53,h'),(54,i'),(55,j'),(43,j')]) o' (n'+5)) (Q (.exit 4) (puts e [(44,a')]) h (nx+1))
@[irreducible] def uL (ro:Ro):PT:=fun e h nx Q=>aA (aP .lss (e 35) (e 34)) fun f'=>aV f' (aA (cD 1 (e 33) (e 35)) fun h'=>aA (load1 ro h h') fun d'=>aN Tryz.prog ro gK [d'] h (nx+6) fun e' i' j'=>aA (bM e') fun k'=>dC (uM ro) (puts e [(36,f'),(37,h'),(38,d'),(8,d'),(39,d'),(40,e'),(9,e'),(41,e'),(42,k'),(43,(Value.int IntKind.i64 0))]) i' (j'+4) fun l' a' b' c'=>iM l' (qN ro Q a' b' c') (fun g'=>dE (Nat.beq g' 4) (qN ro Q a' b' c') (dE (Nat.beq g' 3) (qM ro Q a' b' c') (Q (.exit g') a' b' c'))) (Q .ret a' b' c')) (Q (.exit 2) (puts e [(36,f')]) h (nx+1))
@[irreducible] def uK (ro:Ro):PT:=fun e h nx Q=>aA (aP .lss (e 21) (e 20)) fun d'=>aV d' (aA (cD 4 (e 19) (e 21)) fun i'=>aA (loadA ro h 4 i') fun j'=>aA (i8 Tryz.prog aR) fun t'=>dL h (nx+3) (.cells t'.cells aR) fun u'=>aA (bH 4 u' (ptr (nx+3)) j') fun e'=>aA (aT 1 (ptr (nx+3))) fun k'=>aA (load1 ro e' k') fun l'=>aN Tryz.prog ro iX [l'] e' (nx+14) fun m' f' v'=>aA (aT 2 (ptr (nx+3))) fun g'=>aA (load1 ro f' g') fun n'=>(pC g' e' f')∧(aN Tryz.prog ro iX [n'] f' v' fun o' w' x'=>aA (cX Tryz.prog aR [(1,m'),(2,o')]) fun p'=>aA (i8 Tryz.prog aR) fun y'=>dL w' (nx+12) (.cells y'.cells aR) fun z'=>aA (bH 4 z' (ptr (nx+12)) p') fun q'=>aA (aT 3 (ptr (nx+3))) fun r'=>aA (load1 ro q' r') fun s'=>aA (bM s') fun A'=>dC (uL ro) (puts e [(22,d'),(23,i'),(24,j'),(5,(ptr (nx+3))),(25,k'),(26,l'),(27,m'),(28,g'),(29,n'),(30,o'),(31,p'),(6,(ptr (nx+12))),(32,r'),(33,s'),(34,A'),(35,(Value.int IntKind.i64 0))]) q' (x'+4) fun B' a' b' c'=>iM B' (qL ro Q a' b' c') (fun h'=>dE (Nat.beq h' 2) (qL ro Q a' b' c') (dE (Nat.beq h' 1) (qK ro Q a' b' c') (Q (.exit h') a' b' c'))) (Q .ret a' b' c'))) (Q (.exit 0) (puts e [(22,d')]) h (nx+1))
@[irreducible] def aEv (ro:Ro) (v0:Value) (h:T Obj) (nx:Nat) (K:KV):Prop:=dL h nx (.cells (Value.cells v0) bI) fun h1=>aA (i8 Tryz.prog bI) fun z2=>dL h1 (nx+1) (.cells z2.cells bI) fun h3=>aA (aT 0 (ptr nx)) fun b'=>aA (loadA ro h3 257 b') fun e'=>aA (aT 257 (ptr nx)) fun f'=>aA (load1 ro h3 f') fun g'=>aN Tryz.prog ro jA [g'] h3 (nx+10) fun h' h9 n'=>(pC b' h3 h9)∧(aA (cX Tryz.prog bI [(0,e'),(1,h')]) fun i'=>aA (i8 Tryz.prog bI) fun o'=>dL h9 (nx+8) (.cells o'.cells bI) fun p'=>aA (bH 259 p' (ptr (nx+8)) i') fun j'=>aA (aT 258 (ptr nx)) fun k'=>aA (load1 ro j' k') fun l'=>aA (bM l') fun q'=>dC (uK ro) (puts (gS [v0]) [(1,(ptr nx)),(2,(ptr (nx+1))),(12,b'),(13,e'),(14,f'),(15,g'),(16,h'),(17,i'),(3,(ptr (nx+8))),(18,k'),(19,l'),(20,q'),(21,(Value.int IntKind.i64 0))]) j' (n'+4) fun r' c' a' d'=>iM r' (qJ ro K c' a' d') (fun s'=>dE (Nat.beq s' 0) (qJ ro K c' a' d') (False)) (aA (loadA ro a' 259 (c' 2)) fun t'=>∃ m',aU m' a'∧K t' m' d'))
theorem aGN {ro:Ro}{v0:Value}{h:T Obj}{nx:Nat}{K:KV} (hw:aEv ro v0 h nx K):aN Tryz.prog ro xI [v0] h nx K:=zzO (fn:=Tryz.f49) hw
@[irreducible] def aMH (ro:Ro) (v0:Value) (h:T Obj) (nx:Nat) (K:KV):Prop:=aA (aP .lss v0 (Value.int IntKind.i64 1)) fun a'=>bF a' false h (nx+5) (fun k2=>k2 v0 h (nx+6)) fun e' h4 n5=>bF a' false h4 n5 (fun k6=>aA (aP .gtr e' (Value.int IntKind.i64 4096)) fun f'=>k6 f' h4 (n5+1)) fun g' h8 n9=>aA (b7 a' (Value.bool true) g') fun h'=>aV h' (∃ b',aU b' h8∧K (.tuple #[(Value.pointer none),(Value.int IntKind.i64 1)]) b' (n9+3)) (aA (aBu Tryz.prog cR (n9+2) v0 v0) fun c'=>eJ h8 (n9+2) c'.2 fun i'=>aA (cX Tryz.prog cO [(0,c'.1)]) fun j'=>dL i' (n9+4) (.cells (Value.cells j') cO) fun k'=>∃ d',aU d' k'∧K (.tuple #[(ptr (n9+4)),(Value.int IntKind.i64 0)]) d' (n9+7))
theorem aMI {ro:Ro}{v0:Value}{h:T Obj}{nx:Nat}{K:KV} (hw:aMH ro v0 h nx K):aN Tryz.prog ro aCa [v0] h nx K:=zzO (fn:=Tryz.f50) hw
@[irreducible] def nK (ro:Ro) (K:KV):dF→T Obj→Nat→Prop:=fun e h nx=>∃ h2,aU h2 h∧K (e 5) h2 (nx+2)
@[irreducible] def sL (ro:Ro):PT:=fun e h nx Q=>aA (aP .lss (e 12) (e 11)) fun b'=>aV b' (aA (cD 1 (e 10) (e 12)) fun c'=>aA (load1 ro h c') fun a'=>aN Tryz.prog ro nO [(e 0),a'] h (nx+9) fun d' i' j'=>aA (aP .mul (e 6) d') fun e'=>aA (aP .add (e 5) e') fun f'=>aA (aP .mul (e 6) (Value.int IntKind.i64 3)) fun g'=>aA (aP .add (e 12) (Value.int IntKind.i64 1)) fun h'=>Q .normal (puts e [(13,b'),(14,c'),(15,a'),(8,a'),(16,(e 5)),(17,(e 6)),(18,(e 0)),(19,a'),(20,d'),(21,e'),(22,f'),(5,f'),(23,(e 6)),(24,g'),(6,g'),(25,h'),(12,h')]) i' (j'+8)) (Q (.exit 0) (puts e [(13,b')]) h (nx+1))
@[irreducible] def wF (ro:Ro) (v0 v1:Value) (h:T Obj) (nx:Nat) (K:KV):Prop:=dL h nx (.cells (Value.cells v1) aR) fun h1=>aA (aT 1 (ptr nx)) fun d'=>aA (load1 ro h1 d') fun e'=>aA (bM e') fun g'=>dC (sL ro) (puts (gS [v0,v1]) [(3,(ptr nx)),(4,(Value.int IntKind.i64 0)),(5,(Value.int IntKind.i64 0)),(6,(Value.int IntKind.i64 1)),(9,d'),(10,e'),(11,g'),(12,(Value.int IntKind.i64 0))]) h1 (nx+8) fun h' a' b' c'=>iM h' (nK ro K a' b' c') (fun i'=>dE (Nat.beq i' 0) (nK ro K a' b' c') (False)) (∃ f',aU f' b'∧K (a' 4) f' c')
theorem aA9 {ro:Ro}{v0 v1:Value}{h:T Obj}{nx:Nat}{K:KV} (hw:wF ro v0 v1 h nx K):aN Tryz.prog ro kR [v0,v1] h nx K:=zzO (fn:=Tryz.f52) hw
@[irreducible] def aAJ (ro:Ro) (v0:Value) (h:T Obj) (nx:Nat) (K:KV):Prop:=aA (aEX .neq v0 (Value.pointer none)) fun c'=>aV c' (aA (bZ v0) fun d'=>aA (aT 1 d') fun e'=>aA (bH 1 h e' (Value.int IntKind.i64 0)) fun h4=>aA (bZ v0) fun f'=>aA (aT 2 f') fun g'=>aA (bH 1 h4 g' (Value.int IntKind.i64 0)) fun h7=>aA (bZ v0) fun h'=>aA (aT 4 h') fun i'=>aA (load1 ro h7 i') fun j'=>aA (aP .add j' (Value.int IntKind.i64 1)) fun k'=>aA (bZ v0) fun l'=>aA (aT 4 l') fun m'=>aA (bH 1 h7 m' k') fun n'=>∃ a',aU a' n'∧K (.tuple #[]) a' (nx+18)) (∃ b',aU b' h∧K (.tuple #[]) b' (nx+2))
theorem aCk {ro:Ro}{v0:Value}{h:T Obj}{nx:Nat}{K:KV} (hw:aAJ ro v0 h nx K):aN Tryz.prog ro kB [v0] h nx K:=zzO (fn:=Tryz.f54) hw
@[irreducible] def aEt (ro:Ro) (v0 v1:Value) (h:T Obj) (nx:Nat) (K:KV):Prop:=aA (aP .eql v1 (Value.int IntKind.u8 3)) fun d'=>aV d' (aN Tryz.prog ro kB [v0] h (nx+5) fun m' h3 n4=>aN Tryz.prog ro pJ [v0] h3 (n4+2) fun n' h6 n7=>∃ h8,aU h8 h6∧K (.tuple #[]) h8 n7) (aA (aP .eql v1 (Value.int IntKind.u8 2)) fun e'=>aV e' (aN Tryz.prog ro pI [v0] h (nx+7) fun o' f' g'=>aN Tryz.prog ro pJ [v0] f' (g'+2) fun p' h' i'=>∃ a',aU a' h'∧K (.tuple #[]) a' i') (aA (aP .eql v1 (Value.int IntKind.u8 1)) fun j'=>aV j' (aN Tryz.prog ro pI [v0] h (nx+9) fun q' k' l'=>∃ b',aU b' k'∧K (.tuple #[]) b' l') (∃ c',aU c' h∧K (.tuple #[]) c' (nx+7))))
theorem aGM {ro:Ro}{v0 v1:Value}{h:T Obj}{nx:Nat}{K:KV} (hw:aEt ro v0 v1 h nx K):aN Tryz.prog ro xH [v0,v1] h nx K:=zzO (fn:=Tryz.f55) hw
@[irreducible] def aCO (ro:Ro) (v0:Value) (h:T Obj) (nx:Nat) (K:KV):Prop:=aA (aEX .eql v0 (Value.pointer none)) fun a'=>aV a' (∃ h2,aU h2 h∧K (Value.int IntKind.i64 0) h2 (nx+4)) (aA (bZ v0) fun b'=>aA (aT 2 b') fun c'=>aA (load1 ro h c') fun d'=>∃ h6,aU h6 h∧K d' h6 (nx+8))
theorem aE4 {ro:Ro}{v0:Value}{h:T Obj}{nx:Nat}{K:KV} (hw:aCO ro v0 h nx K):aN Tryz.prog ro mE [v0] h nx K:=zzO (fn:=Tryz.f56) hw
@[irreducible] def uJ (ro:Ro) (v0 v1:Value) (h:T Obj) (nx:Nat) (K:KV):Prop:=aA (bZ v0) fun E'=>aA (aT 260 E') fun F'=>aA (load1 ro h F') fun G'=>aA (cD 1 G' v1) fun H'=>aA (load1 ro h H') fun I'=>aN Tryz.prog ro sZ [I'] h (nx+9) fun f' h7 n8=>aA (nth 0 f') fun J'=>aA (nth 1 f') fun aE'=>aA (bZ v0) fun K'=>aA (aT 260 K') fun L'=>aA (load1 ro h7 L') fun M'=>aA (cD 1 M' v1) fun N'=>aA (load1 ro h7 N') fun O'=>aN Tryz.prog ro sY [O'] h7 (n8+13) fun g' h' i'=>aA (nth 0 g') fun P'=>aA (nth 1 g') fun Q'=>aA (unV .not Q') fun a'=>bF a' false h' (i'+8) (fun R'=>R' P' h' (i'+9)) fun S' j' k'=>bF a' false j' k' (fun T'=>T' v0 j' (k'+1)) fun U' l' m'=>bF a' false l' m' (fun V'=>aA (bZ U') fun W'=>V' W' l' (m'+1)) fun X' n' o'=>bF a' false n' o' (fun Y'=>aA (aT 0 X') fun Z'=>Y' Z' n' (o'+1)) fun aa' p' q'=>bF a' false p' q' (fun ab'=>aA (aT 257 aa') fun ac'=>ab' ac' p' (q'+1)) fun ad' c' r'=>bF a' false c' r' (fun ae'=>aA (load1 ro c' ad') fun af'=>ae' af' c' (r'+1)) fun ag' s' t'=>bF a' false s' t' (fun ah'=>ah' v1 s' (t'+1)) fun ai' u' v'=>bF a' false u' v' (fun aj'=>aA (cD 2 ag' ai') fun ak'=>aj' ak' u' (v'+1)) fun al' w' x'=>bF a' false w' x' (fun am'=>aA (ixArr 2 1 al' (Value.int IntKind.i64 0)) fun an'=>am' an' w' (x'+1)) fun ao' d' y'=>bF a' false d' y' (fun ap'=>aA (load1 ro d' ao') fun aq'=>ap' aq' d' (y'+1)) fun ar' z' A'=>bF a' false z' A' (fun as'=>aA (aP .lss S' ar') fun at'=>as' at' z' (A'+1)) fun au' b' e'=>aA (b7 a' (Value.bool true) au') fun av'=>aV av' (∃ B',aU B' b'∧K (Value.int IntKind.i64 0) B' (e'+3)) (aA (bZ v0) fun aw'=>aA (aT 0 aw') fun ax'=>aA (aT 257 ax') fun ay'=>aA (load1 ro b' ay') fun az'=>aA (cD 2 az' v1) fun aA'=>aA (ixArr 2 1 aA' (Value.int IntKind.i64 1)) fun aB'=>aA (load1 ro b' aB') fun aC'=>aA (aP .lss J' aC') fun aD'=>aV aD' (∃ C',aU C' b'∧K (Value.int IntKind.i64 2) C' (e'+15)) (∃ D',aU D' b'∧K (Value.int IntKind.i64 1) D' (e'+15)))
theorem aAO {ro:Ro}{v0 v1:Value}{h:T Obj}{nx:Nat}{K:KV} (hw:uJ ro v0 v1 h nx K):aN Tryz.prog ro nO [v0,v1] h nx K:=zzO (fn:=Tryz.f101) hw
@[irreducible] def aCR (ro:Ro) (v0:Value) (h:T Obj) (nx:Nat) (K:KV):Prop:=aA (aEX .eql v0 (Value.pointer none)) fun u'=>aV u' (∃ h2,aU h2 h∧K (.tuple #[]) h2 (nx+2)) (aA (bZ v0) fun v'=>aA (aT 4 v') fun w'=>aA (load1 ro h w') fun x'=>aA (aP .add x' (Value.int IntKind.i64 1)) fun y'=>aA (bZ v0) fun z'=>aA (aT 4 z') fun A'=>aA (bH 1 h A' y') fun h9=>aA (bZ v0) fun B'=>aA (aT 2 B') fun C'=>aA (load1 ro h9 C') fun D'=>aA (aP .gtr D' (Value.int IntKind.i64 0)) fun a'=>bF a' true h9 (nx+16) (fun E'=>E' v0 h9 (nx+17)) fun F' d' e'=>bF a' true d' e' (fun G'=>G' v0 d' (e'+1)) fun H' f' g'=>bF a' true f' g' (fun I'=>aA (bZ H') fun J'=>I' J' f' (g'+1)) fun K' h' i'=>bF a' true h' i' (fun L'=>aA (aT 2 K') fun M'=>L' M' h' (i'+1)) fun N' c' j'=>bF a' true c' j' (fun O'=>aA (load1 ro c' N') fun P'=>O' P' c' (j'+1)) fun Q' k' l'=>bF a' true k' l' (fun R'=>aA (aP .sub Q' (Value.int IntKind.i64 1)) fun S'=>R' S' k' (l'+1)) fun T' m' n'=>bF a' true m' n' (fun U'=>aN Tryz.prog ro gJ [F',T'] m' (n'+1) fun V' W' X'=>U' V' W' X') fun Y' o' p'=>bF a' true o' p' (fun Z'=>aA (aP .eql Y' (Value.int IntKind.i64 1)) fun aa'=>Z' aa' o' (p'+1)) fun ab' b' q'=>aA (b7 a' ab' (Value.bool false)) fun ac'=>aV ac' (∃ r',aU r' b'∧K (.tuple #[]) r' (q'+1)) (aA (bZ v0) fun ad'=>aA (aT 0 ad') fun ae'=>aA (load1 ro b' ae') fun af'=>aA (bZ v0) fun ag'=>aA (aT 1 ag') fun ah'=>aA (load1 ro b' ah') fun ai'=>aA (bZ v0) fun aj'=>aA (aT 2 aj') fun ak'=>aA (load1 ro b' ak') fun al'=>aA (aP .add ai' al') fun am'=>aA (bZ v0) fun an'=>aA (aT 0 an') fun ao'=>aA (load1 ro b' ao') fun ap'=>aA (bM ap') fun aq'=>aA (aP .rem am' aq') fun ar'=>aA (bZ v0) fun as'=>aA (aT 3 as') fun at'=>aA (load1 ro b' at') fun au'=>aA (cD 1 af' ar') fun av'=>aA (bH 1 b' av' au') fun s'=>aA (bZ v0) fun aw'=>aA (aT 2 aw') fun ax'=>aA (load1 ro s' ax') fun ay'=>aA (aP .add ay' (Value.int IntKind.i64 1)) fun az'=>aA (bZ v0) fun aA'=>aA (aT 2 aA') fun aB'=>aA (bH 1 s' aB' az') fun aC'=>∃ t',aU t' aC'∧K (.tuple #[]) t' (q'+34)))
theorem aE7 {ro:Ro}{v0:Value}{h:T Obj}{nx:Nat}{K:KV} (hw:aCR ro v0 h nx K):aN Tryz.prog ro pJ [v0] h nx K:=zzO (fn:=Tryz.f103) hw
@[irreducible] def aCN (ro:Ro) (v0:Value) (h:T Obj) (nx:Nat) (K:KV):Prop:=aA (aEX .eql v0 (Value.pointer none)) fun w'=>aV w' (∃ h2,aU h2 h∧K (.tuple #[]) h2 (nx+2)) (aA (bZ v0) fun x'=>aA (aT 4 x') fun y'=>aA (load1 ro h y') fun z'=>aA (aP .add z' (Value.int IntKind.i64 1)) fun A'=>aA (bZ v0) fun B'=>aA (aT 4 B') fun C'=>aA (bH 1 h C' A') fun h9=>aA (bZ v0) fun D'=>aA (aT 3 D') fun E'=>aA (load1 ro h9 E') fun F'=>aA (aP .add F' (Value.int IntKind.i64 1)) fun G'=>aA (bZ v0) fun H'=>aA (aT 3 H') fun I'=>aA (bH 1 h9 I' G') fun c'=>aA (bZ v0) fun J'=>aA (aT 2 J') fun K'=>aA (load1 ro c' K') fun L'=>aA (aP .gtr L' (Value.int IntKind.i64 0)) fun a'=>bF a' true c' (nx+33) (fun M'=>M' v0 c' (nx+33)) fun N' d' g'=>bF a' true d' g' (fun O'=>aN Tryz.prog ro gJ [N',(Value.int IntKind.i64 0)] d' g' fun P' Q' R'=>O' P' Q' R') fun S' e' h'=>bF a' true e' h' (fun T'=>T' v0 e' h') fun U' i' j'=>bF a' true i' j' (fun V'=>aA (bZ U') fun W'=>V' W' i' j') fun X' k' l'=>bF a' true k' l' (fun Y'=>aA (aT 0 X') fun Z'=>Y' Z' k' l') fun m' f' n'=>bF a' true f' n' (fun aa'=>aA (load1 ro f' m') fun ab'=>(onP (some (a',true)) (pC m' d' e'))∧(aa' ab' f' n')) fun ac' o' p'=>bF a' true o' p' (fun ad'=>aA (bM ac') fun ae'=>ad' ae' o' p') fun af' q' r'=>bF a' true q' r' (fun ag'=>aA (aP .gtr S' af') fun ah'=>ag' ah' q' r') fun ai' b' s'=>aA (b7 a' ai' (Value.bool false)) fun aj'=>aV aj' (aA (bZ v0) fun ak'=>aA (aT 1 ak') fun al'=>aA (load1 ro b' al') fun am'=>aA (aP .add am' (Value.int IntKind.i64 1)) fun an'=>aA (bZ v0) fun ao'=>aA (aT 0 ao') fun ap'=>aA (load1 ro b' ap') fun aq'=>aA (bM aq') fun ar'=>aA (aP .rem an' ar') fun as'=>aA (bZ v0) fun at'=>aA (aT 1 at') fun au'=>aA (bH 1 b' au' as') fun t'=>aA (bZ v0) fun av'=>aA (aT 2 av') fun aw'=>aA (load1 ro t' aw') fun ax'=>aA (aP .sub ax' (Value.int IntKind.i64 1)) fun ay'=>aA (bZ v0) fun az'=>aA (aT 2 az') fun aA'=>aA (bH 1 t' aA' ay') fun aB'=>∃ u',aU u' aB'∧K (.tuple #[]) u' (s'+23)) (∃ v',aU v' b'∧K (.tuple #[]) v' s'))
theorem aE3 {ro:Ro}{v0:Value}{h:T Obj}{nx:Nat}{K:KV} (hw:aCN ro v0 h nx K):aN Tryz.prog ro pI [v0] h nx K:=zzO (fn:=Tryz.f104) hw
@[irreducible] def s9 (ro:Ro) (v0 v1:Value) (h:T Obj) (nx:Nat) (K:KV):Prop:=aA (bZ v0) fun b'=>aA (aT 3 b') fun c'=>aA (load1 ro h c') fun d'=>aA (bZ v0) fun e'=>aA (aT 0 e') fun f'=>aA (load1 ro h f') fun g'=>aA (bZ v0) fun h'=>aA (aT 1 h') fun i'=>aA (load1 ro h i') fun j'=>aA (aP .add j' v1) fun k'=>aA (bZ v0) fun l'=>aA (aT 0 l') fun m'=>aA (load1 ro h m') fun n'=>aA (bM n') fun o'=>aA (aP .rem k' o') fun p'=>aA (cD 1 g' p') fun q'=>aA (load1 ro h q') fun r'=>aA (aP .sub d' r') fun s'=>aA (aP .add s' (Value.int IntKind.i64 1)) fun t'=>∃ a',aU a' h∧K t' a' (nx+26)
theorem vR {ro:Ro}{v0 v1:Value}{h:T Obj}{nx:Nat}{K:KV} (hw:s9 ro v0 v1 h nx K):aN Tryz.prog ro gJ [v0,v1] h nx K:=zzO (fn:=Tryz.f109) hw
@[irreducible] def aCQ (ro:Ro) (v0:Value) (h:T Obj) (nx:Nat) (K:KV):Prop:=aN Tryz.prog ro mE [v0] h (nx+4) fun b' h2 n3=>aA (aP .eql b' (Value.int IntKind.i64 0)) fun c'=>aV c' (∃ h5,aU h5 h2∧K (.tuple #[(Value.int IntKind.i64 0),(Value.bool false)]) h5 (n3+3)) (aA (bZ v0) fun d'=>aA (aT 2 d') fun e'=>aA (load1 ro h2 e') fun f'=>aA (aP .sub f' (Value.int IntKind.i64 1)) fun g'=>aN Tryz.prog ro gJ [v0,g'] h2 (n3+8) fun h' i' j'=>∃ a',aU a' i'∧K (.tuple #[h',(Value.bool true)]) a' (j'+2))
theorem aE6 {ro:Ro}{v0:Value}{h:T Obj}{nx:Nat}{K:KV} (hw:aCQ ro v0 h nx K):aN Tryz.prog ro sZ [v0] h nx K:=zzO (fn:=Tryz.f131) hw
@[irreducible] def aCP (ro:Ro) (v0:Value) (h:T Obj) (nx:Nat) (K:KV):Prop:=aN Tryz.prog ro mE [v0] h (nx+4) fun a' h2 n3=>aA (aP .eql a' (Value.int IntKind.i64 0)) fun b'=>aV b' (∃ h5,aU h5 h2∧K (.tuple #[(Value.int IntKind.i64 0),(Value.bool false)]) h5 (n3+3)) (aN Tryz.prog ro gJ [v0,(Value.int IntKind.i64 0)] h2 (n3+3) fun c' h7 n8=>∃ h9,aU h9 h7∧K (.tuple #[c',(Value.bool true)]) h9 (n8+2))
theorem aE5 {ro:Ro}{v0:Value}{h:T Obj}{nx:Nat}{K:KV} (hw:aCP ro v0 h nx K):aN Tryz.prog ro sY [v0] h nx K:=zzO (fn:=Tryz.f132) hw
end V
end Go.Proofs.YtjndkdmkecpllaaGreat
namespace Go.Proofs.YtjndkdmkecpllaaGreat
set_option maxRecDepth 20000
namespace V
theorem pX (id off z:Nat):aEX .eql (at_ id off z) (.pointer none)=some (.bool false):=rfl
theorem aLg (id off z:Nat):aEX .neq (at_ id off z) (.pointer none)=some (.bool true):=rfl
theorem bJ (id off z:Nat):bZ (at_ id off z)=some (at_ id off z):=rfl
theorem aFm (a b n:Nat):((a:Int)+(b:Int)) % (n:Int)=(((a+b) % n:Nat):Int):=by rw[Int.natCast_emod,Int.natCast_add]
theorem aFc (a n c:Nat) (k:IntKind) {i:Nat} (hi:i < n):cD 1 (.slice (some (V.own a 1)) n c) (.int k (i:Int))=some (at_ a i 0):=by
 have h1:nV (Value.int k (i:Int))=some i:=by simp[nV]
 have h2:Nat.blt i n=true:=by simpa using hi
 simp[cD,h1,h2,V.own,elt]
def nZ (a n first many now w:Nat):List Value:=[.slice (some (V.own a 1)) n n,.int .i64 first,.int .i64 many,.int .i64 now,.int .i64 w]
def rM (put:List Nat):List Value:=put.map fun (x:Nat)=>.int .i64 (x:Int)
theorem aLi (put:List Nat):(rM put).length=put.length:=by simp[rM]
theorem aLh {put:List Nat}{k:Nat} (hk:k < put.length):(rM put)[k]?=some (.int .i64 (put.getD k 0:Nat)):=by
 simp[rM,hk]
theorem aLj (put:List Nat) (k x:Nat):(rM put).set k (.int .i64 (x:Int))=rM (put.set k x):=by
 simp[rM,List.map_set]
def RI (h:T Obj) (p a n:Nat) (L:List Nat) (w:Nat):Prop:=∃ (put:List Nat) (first now:Nat),
 h.get p=some (.cells (nZ a n first L.length now w).toArray cO)∧h.get a=some (.cells (rM put).toArray cI)∧p≠a∧put.length=n∧1≤n∧n≤4096∧first < n∧now≤w∧w≤1000000 ∧
 (∀ i,i < L.length→put.getD ((first+i) % n) 0+L.getD i 0=now+1)∧L.Pairwise (fun x y=>y < x)∧(∀ x∈L,1≤x∧x≤n)
def t7 (h h':T Obj) (p a:Nat):Prop:=∀ k,k≠p→k≠a→h'.get k=h.get k
theorem Fr.lt {h:T Obj}{nx k:Nat}{o:Obj} (hf:Fr h nx) (hg:h.get k=some o):k < nx:=by
 rcases Nat.lt_or_ge k nx with h9 | h9
 ·exact h9
 ·rw[hf k h9] at hg; cases hg
theorem aOA {L:List Nat}:∀ {lo hi:Nat},1≤lo→L.Pairwise (fun x y=>y < x)→(∀ x∈L,lo≤x∧x≤hi)→L.length+lo≤hi+1∨L=[]:=by
 induction L with
 | nil=>intro lo hi _ _ _; exact .inr rfl
 | cons x r ih =>
  intro lo hi hlo hp hb
  left
  have hx:=hb x (List.mem_cons_self ..)
  rw[List.pairwise_cons] at hp
  rcases ih (lo:=lo) (hi:=x - 1) hlo hp.2 fun y hy=>⟨(hb y (List.mem_cons_of_mem _ hy)).1,by have:=hp.1 y hy; omega⟩ with h1 | h1
  ·rw[List.length_cons]; omega
  ·subst h1; simp; omega
theorem RI.len {h:T Obj}{p a n w:Nat}{L:List Nat} (hR:RI h p a n L w):L.length≤n:=by
 obtain⟨put,first,now,_,_,_,_,h1,_,_,_,_,_,hp,hb⟩:=hR
 rcases aOA (Nat.le_refl 1) hp hb with h9 | h9
 ·omega
 ·subst h9; simp
theorem zzXz{A B:Prop}(k:B)(h:B→A:=by first|exact aB (by simp (disch:=first|omega|exact nnN _|assumption) only [decide_true,decide_false,Bool.not_true,Bool.not_false,fA,dT,dS,cH,cZ,cK,gO,gL,gN,gM,c7,d9,fC,dM,cW,Option.bind_some,Value.cells_agg,dP,cY,dW,eC,d5,eA,eB,aW,aX,bA,a9,aZ,aY,b9,bW,c8,dR,dA,fG,jV,fZ,dQ,fD,dN,dO,dB,cN,cL,eY,eT,eD,dD,cQ,cS,T.get_upd_same,T.get_upd_ne,bO,cC,tl,ts,if_pos,Nat.zero_add,Nat.mul_one,Nat.add_zero,Int.toNat_natCast,↓reduceIte,Nat.reduceLeDiff,Nat.reduceAdd,Nat.le_refl,zy]<;>rfl)|exact aD|exact aF|with_reducible first|exact aG|exact aE|exact aH|exact aI|exact aK|exact aJ|exact aL|exact aC):A:=h k
theorem zZ {ro:Ro}{h:T Obj}{p a n w i nx:Nat}{L:List Nat}{K:KV} (hR:RI h p a n L w) (hi:i < L.length) (hK:∀ nx',nx≤nx'→K (.int .i64 (L.getD i 0:Nat)) h nx'):aN Tryz.prog ro gJ [ptr p,.int .i64 (i:Int)] h nx K:=by
 have hln:=hR.len
 obtain⟨put,first,now,gp,ga,hne,hpl,h1,h2,h3,h4,h5,hrel,hpw,hb⟩:=hR
 apply vR
 unfold s9
 have hm:(first+i) % n < n:=Nat.mod_lt _ (by omega)
 have hm2:(first+i) % n < put.length:=by omega
 have hr:=hrel i hi
 (have zy:=And.intro @bJ (And.intro gp (And.intro ga (And.intro @aFm (And.intro @aFc @aLh))));repeat refine zzXz ?_)
 refine⟨h,aU.refl _,?_⟩
 have e:(now:Int) - (put.getD ((first+i) % n) 0:Nat)+1=(L.getD i 0:Nat):=by omega
 rw[e]
 exact hK _ (by omega)
theorem aCj {ro:Ro}{h:T Obj}{p a n w nx:Nat}{L:List Nat}{K:KV} (hR:RI h p a n L w) (hK:∀ nx',nx≤nx'→K (.int .i64 (L.length:Nat)) h nx'):aN Tryz.prog ro mE [ptr p] h nx K:=by
 obtain⟨put,first,now,gp,ga,hne,hpl,h1,h2,h3,h4,h5,hrel,hpw,hb⟩:=hR
 apply aE4
 unfold aCO
 (have zy:=And.intro @pX (And.intro @bJ (And.intro gp ga));repeat refine zzXz ?_)
 exact⟨h,aU.refl _,hK _ (by omega)⟩
def aEI (L:List Nat):Value:=if L.length=0 then .tuple #[.int .i64 0,.bool false] else .tuple #[.int .i64 (L.getD 0 0:Nat),.bool true]
def aEM (L:List Nat):Value:=if L.length=0 then .tuple #[.int .i64 0,.bool false] else .tuple #[.int .i64 (L.getD (L.length - 1) 0:Nat),.bool true]
theorem zzX{A B:Prop}(k:B)(h:B→A:=by first|exact aB (by simp (disch:=first|omega|exact nnN _|assumption) only [decide_true,decide_false,Bool.not_true,Bool.not_false,fA,dT,dS,cH,cZ,cK,gO,gL,gN,gM,c7,d9,fC,dM,cW,Option.bind_some,Value.cells_agg,dP,cY,dW,eC,d5,eA,eB,aW,aX,bA,a9,aZ,aY,b9,bW,c8,dR,dA,fG,jV,fZ,dQ,fD,dN,dO,dB,cN,cL,eY,eT,eD,dD,cQ,cS,T.get_upd_same,T.get_upd_ne,bO,cC,tl,ts,if_pos,Nat.zero_add,Nat.mul_one,Nat.add_zero,Int.toNat_natCast,↓reduceIte,Nat.reduceLeDiff,Nat.reduceAdd,Nat.le_refl]<;>rfl)|exact aD|exact aF|with_reducible first|exact aG|exact aE|exact aH|exact aI|exact aK|exact aJ|exact aL|exact aC):A:=h k
theorem aN4 {ro:Ro}{h:T Obj}{p a n w nx:Nat}{L:List Nat}{K:KV} (hR:RI h p a n L w) (hK:∀ nx',nx≤nx'→K (aEI L) h nx'):aN Tryz.prog ro sY [ptr p] h nx K:=by
 apply aE5
 unfold aCP
 refine aCj hR fun n2 hn2=>?_
 (repeat refine zzX ?_)
 unfold aEI at hK
 by_cases h0:L.length=0
 ·refine iF (by simp[h0]) ?_
  rw[if_pos h0] at hK
  exact⟨h,aU.refl _,hK _ (by omega)⟩
 ·refine iE (decide_eq_false (by omega)) ?_
  rw[if_neg h0] at hK
  refine zZ (i:=0) hR (by omega) fun n3 hn3=>?_
  exact⟨h,aU.refl _,hK _ (by omega)⟩
theorem aN5 {ro:Ro}{h:T Obj}{p a n w nx:Nat}{L:List Nat}{K:KV} (hR:RI h p a n L w) (hK:∀ nx',nx≤nx'→K (aEM L) h nx'):aN Tryz.prog ro sZ [ptr p] h nx K:=by
 apply aE6
 unfold aCQ
 refine aCj hR fun n2 hn2=>?_
 (repeat refine zzX ?_)
 unfold aEM at hK
 by_cases h0:L.length=0
 ·refine iF (by simp[h0]) ?_
  rw[if_pos h0] at hK
  exact⟨h,aU.refl _,hK _ (by omega)⟩
 ·refine iE (decide_eq_false (by omega)) ?_
  rw[if_neg h0] at hK
  have hR':=hR
  have hln:=hR.len
  obtain⟨put,first,now,gp,ga,hne,hpl,h1,h2,h3,h4,h5,hrel,hpw,hb⟩:=hR
  (have zy:=And.intro @bJ gp;repeat refine zzXz ?_)
  have e:(L.length:Int) - 1=((L.length - 1:Nat):Int):=by omega
  rw[e]
  refine zZ (i:=L.length - 1) hR' (by omega) fun n3 hn3=>?_
  exact⟨h,aU.refl _,hK _ (by omega)⟩
def aLk (L:List Nat):List Nat:=if L.getD (L.length - 1) 0=1 then L else L++[1]
theorem aEY {L:List Nat} (h:L.getD (L.length - 1) 0≠1):aLk L=L++[1]:=if_neg h
theorem aRS {L:List Nat}{x:Nat} (hx:x∈L) (hp:L.Pairwise (fun x y=>y < x)):L.getD (L.length - 1) 0≤x:=by
 obtain⟨i,hi,rfl⟩:=List.getElem_of_mem hx
 have h1:L.getD (L.length - 1) 0=L[L.length - 1]:=by simp[List.getD,List.getElem?_eq_getElem (show L.length - 1 < L.length by omega)]
 rw[h1]
 rcases Nat.lt_or_ge i (L.length - 1) with h2 | h2
 ·exact Nat.le_of_lt (List.pairwise_iff_getElem.1 hp i (L.length - 1) hi (by omega) h2)
 ·have:i=L.length - 1:=by omega
  subst this; exact Nat.le_refl _
theorem aO2 {L:List Nat}{n:Nat} (h:L.getD (L.length - 1) 0≠1) (hp:L.Pairwise (fun x y=>y < x)) (hb:∀ x∈L,1≤x∧x≤n):∀ x∈L,2≤x∧x≤n:=fun x hx=>by
 have h1:=aRS hx hp
 have h2:=hb x hx
 have h3:L.getD (L.length - 1) 0∈L:=by
  obtain⟨i,hi,_⟩:=List.getElem_of_mem hx
  have h1:L.getD (L.length - 1) 0=L[L.length - 1]:=by simp[List.getD,List.getElem?_eq_getElem (show L.length - 1 < L.length by omega)]
  rw[h1]; exact List.getElem_mem _
 have:=hb _ h3
 omega
theorem aLm {L:List Nat}{n:Nat} (hn:1≤n) (h:L.getD (L.length - 1) 0≠1) (hp:L.Pairwise (fun x y=>y < x)) (hb:∀ x∈L,1≤x∧x≤n):L.length < n:=by
 rcases aOA (lo:=2) (by omega) hp (aO2 h hp hb) with h9 | h9
 ·omega
 ·subst h9; exact hn
theorem aO0 {L:List Nat}{n:Nat} (h:L.getD (L.length - 1) 0≠1) (hp:L.Pairwise (fun x y=>y < x)) (hb:∀ x∈L,1≤x∧x≤n):(L++[1]).Pairwise (fun x y=>y < x):=by
 rw[List.pairwise_append]
 refine⟨hp,List.pairwise_singleton ..,fun x hx y hy=>?_⟩
 have:=aO2 h hp hb x hx
 rw[List.mem_singleton] at hy
 omega
theorem aSV {L:List Nat}{n:Nat} (hn:1≤n) (hb:∀ x∈L,1≤x∧x≤n):∀ x∈L++[1],1≤x∧x≤n:=fun x hx=>by
 rw[List.mem_append,List.mem_singleton] at hx
 rcases hx with hx | rfl
 ·exact hb x hx
 ·omega
theorem aTx {f i j n:Nat} (hi:i < n) (hj:j < n) (he:(f+i) % n=(f+j) % n):i=j:=by
 have h1:=Nat.div_add_mod (f+i) n
 have h2:=Nat.div_add_mod (f+j) n
 rcases Nat.lt_trichotomy ((f+i) / n) ((f+j) / n) with h | h | h
 ·have:=Nat.mul_le_mul_left n (show (f+i) / n+1≤(f+j) / n from h)
  rw[Nat.mul_add] at this; omega
 ·rw[h] at h1; omega
 ·have:=Nat.mul_le_mul_left n (show (f+j) / n+1≤(f+i) / n from h)
  rw[Nat.mul_add] at this; omega
theorem aO1 {L put:List Nat}{n first now:Nat} (hpl:put.length=n) (hf:first < n) (hr:L.length < n) (hrel:∀ i,i < L.length→put.getD ((first+i) % n) 0+L.getD i 0=now+1) :
  ∀ i,i < (L++[1]).length→(put.set ((first+L.length) % n) now).getD ((first+i) % n) 0+(L++[1]).getD i 0=now+1:=fun i hi=>by
 have hm:(first+i) % n < n:=Nat.mod_lt _ (by omega)
 rw[List.length_append,List.length_singleton] at hi
 rcases Nat.lt_or_ge i L.length with h1 | h1
 ·have hne:(first+L.length) % n≠(first+i) % n:=fun e=>by have:=aTx hr (by omega) e; omega
  have e1:(put.set ((first+L.length) % n) now).getD ((first+i) % n) 0=put.getD ((first+i) % n) 0:=by simp[List.getD,List.getElem?_set_ne hne]
  have e2:(L++[1]).getD i 0=L.getD i 0:=by simp[List.getD,List.getElem?_append_left h1]
  rw[e1,e2]; exact hrel i h1
 ·have:i=L.length:=by omega
  subst this
  have e1:(put.set ((first+L.length) % n) now).getD ((first+L.length) % n) 0=now:=by simp[List.getD,List.getElem?_set_self,hpl,hm]
  have e2:(L++[1]).getD L.length 0=1:=by simp[List.getD]
  rw[e1,e2]
set_option maxRecDepth 4000 in
theorem aHK {ro:Ro}{h:T Obj}{p a n w nx:Nat}{L:List Nat}{K:KV} (hR:RI h p a n L w) (hw:w+1≤1000000) (hK:∀ h' nx',nx≤nx'→RI h' p a n (aLk L) (w+1)→t7 h h' p a→K (.tuple #[]) h' nx'):aN Tryz.prog ro pJ [ptr p] h nx K:=by
 have hln:=hR.len
 obtain⟨put,first,now,gp,ga,hne,hpl,b1,b2,b3,b4,b5,hrel,hpw,hb⟩:=hR
 apply aE7
 unfold aCR
 (have zy:=And.intro @pX (And.intro @bJ (And.intro gp ga));repeat refine zzXz ?_)
 have gp1:(h.upd p (some (.cells (over (nZ a n first L.length now w).toArray.toList 4 [.int .i64 ((w:Int)+1)]).toArray cO))).get p=some (.cells (nZ a n first L.length now (w+1)).toArray cO):=by
  rw[T.get_upd_same]; rfl
 have ga1:(h.upd p (some (.cells (over (nZ a n first L.length now w).toArray.toList 4 [.int .i64 ((w:Int)+1)]).toArray cO))).get a=some (.cells (rM put).toArray cI):=by rw[T.get_upd_ne _ _ (Ne.symm hne)]; exact ga
 have ho1:t7 h (h.upd p (some (.cells (over (nZ a n first L.length now w).toArray.toList 4 [.int .i64 ((w:Int)+1)]).toArray cO))) p a:=fun k k1 k2=>by rw[T.get_upd_ne _ _ k1]
 generalize (h.upd p (some (.cells (over (nZ a n first L.length now w).toArray.toList 4 [.int .i64 ((w:Int)+1)]).toArray cO)))=h1 at gp1 ga1 ho1
 have hR1:RI h1 p a n L (w+1):=⟨put,first,now,gp1,ga1,hne,hpl,b1,b2,b3,by omega,hw,hrel,hpw,hb⟩
 (have zy:=And.intro @bJ gp1;repeat refine zzXz ?_)
 rcases Nat.eq_zero_or_pos L.length with hm | hm
 ·have d:decide ((0:Int) < (L.length:Int))=false:=decide_eq_false (by omega)
  rw[d]
  have hlast:L.getD (L.length - 1) 0≠1:=by
   have:L=[]:=List.length_eq_zero_iff.1 hm
   subst this; decide
  (repeat refine zzX ?_)
  (have zy:=And.intro @bJ (And.intro gp1 @aFm);repeat refine zzXz ?_)
  have hcase:(first+L.length) % n < n:=Nat.mod_lt _ (by omega)
  refine aB (aFc _ _ _ _ hcase) ?_
  refine aB (cE (v:=.int .i64 _) (l:=rM put) ga1 (by rw[aLi]; omega) rfl rfl) ?_
  rw[aLj]
  have gp2:(h1.upd a (some (.cells (rM (put.set ((first+L.length) % n) now)).toArray cI))).get p=some (.cells (nZ a n first L.length now (w+1)).toArray cO):=by rw[T.get_upd_ne _ _ hne]; exact gp1
  have ga2:(h1.upd a (some (.cells (rM (put.set ((first+L.length) % n) now)).toArray cI))).get a=some (.cells (rM (put.set ((first+L.length) % n) now)).toArray cI):=T.get_upd_same _ _ _
  have ho2:t7 h (h1.upd a (some (.cells (rM (put.set ((first+L.length) % n) now)).toArray cI))) p a:=fun k k1 k2=>by rw[T.get_upd_ne _ _ k2]; exact ho1 k k1 k2
  generalize (h1.upd a (some (.cells (rM (put.set ((first+L.length) % n) now)).toArray cI)))=h2 at gp2 ga2 ho2
  (have zy:=And.intro @bJ gp2;repeat refine zzXz ?_)
  have gp3:(h2.upd p (some (.cells (over (nZ a n first L.length now (w+1)).toArray.toList 2 [.int .i64 ((L.length:Int)+1)]).toArray cO))).get p=some (.cells (nZ a n first (L++[1]).length now (w+1)).toArray cO):=by
   rw[T.get_upd_same,List.length_append]; rfl
  refine⟨_,aU.refl _,hK _ _ (by omega) ?_ ?_⟩
  ·rw[aEY hlast]
   exact⟨put.set ((first+L.length) % n) now,first,now,gp3,by rw[T.get_upd_ne _ _ (Ne.symm hne)]; exact ga2,hne,by rw[List.length_set]; exact hpl,b1,b2,b3,by omega,hw,aO1 hpl b3 (aLm b1 hlast hpw hb) hrel,aO0 hlast hpw hb,aSV b1 hb⟩
  ·exact fun k k1 k2=>by rw[T.get_upd_ne _ _ k1]; exact ho2 k k1 k2
 ·have d:decide ((0:Int) < (L.length:Int))=true:=decide_eq_true (by omega)
  rw[d]
  (have zy:=And.intro @bJ gp1;repeat refine zzXz ?_)
  have e:(L.length:Int) - 1=((L.length - 1:Nat):Int):=by omega
  rw[e]
  refine zZ (i:=L.length - 1) hR1 (by omega) fun n4 hn4=>?_
  (repeat refine zzX ?_)
  by_cases hlast:L.getD (L.length - 1) 0=1
  ·rw[decide_eq_true (show ((L.getD (L.length - 1) 0:Nat):Int)=1 by omega)]
   (repeat refine zzX ?_)
   refine⟨_,aU.refl _,hK _ _ (by omega) ?_ ho1⟩
   unfold aLk
   rw[if_pos hlast]
   exact hR1
  rw[decide_eq_false (show ¬ ((L.getD (L.length - 1) 0:Nat):Int)=1 by omega)]
  (repeat refine zzX ?_)
  (have zy:=And.intro @bJ (And.intro gp1 @aFm);repeat refine zzXz ?_)
  have hcase:(first+L.length) % n < n:=Nat.mod_lt _ (by omega)
  refine aB (aFc _ _ _ _ hcase) ?_
  refine aB (cE (v:=.int .i64 _) (l:=rM put) ga1 (by rw[aLi]; omega) rfl rfl) ?_
  rw[aLj]
  have gp2:(h1.upd a (some (.cells (rM (put.set ((first+L.length) % n) now)).toArray cI))).get p=some (.cells (nZ a n first L.length now (w+1)).toArray cO):=by rw[T.get_upd_ne _ _ hne]; exact gp1
  have ga2:(h1.upd a (some (.cells (rM (put.set ((first+L.length) % n) now)).toArray cI))).get a=some (.cells (rM (put.set ((first+L.length) % n) now)).toArray cI):=T.get_upd_same _ _ _
  have ho2:t7 h (h1.upd a (some (.cells (rM (put.set ((first+L.length) % n) now)).toArray cI))) p a:=fun k k1 k2=>by rw[T.get_upd_ne _ _ k2]; exact ho1 k k1 k2
  generalize (h1.upd a (some (.cells (rM (put.set ((first+L.length) % n) now)).toArray cI)))=h2 at gp2 ga2 ho2
  (have zy:=And.intro @bJ gp2;repeat refine zzXz ?_)
  have gp3:(h2.upd p (some (.cells (over (nZ a n first L.length now (w+1)).toArray.toList 2 [.int .i64 ((L.length:Int)+1)]).toArray cO))).get p=some (.cells (nZ a n first (L++[1]).length now (w+1)).toArray cO):=by
   rw[T.get_upd_same,List.length_append]; rfl
  refine⟨_,aU.refl _,hK _ _ (by omega) ?_ ?_⟩
  ·rw[aEY hlast]
   exact⟨put.set ((first+L.length) % n) now,first,now,gp3,by rw[T.get_upd_ne _ _ (Ne.symm hne)]; exact ga2,hne,by rw[List.length_set]; exact hpl,b1,b2,b3,by omega,hw,aO1 hpl b3 (aLm b1 hlast hpw hb) hrel,aO0 hlast hpw hb,aSV b1 hb⟩
  ·exact fun k k1 k2=>by rw[T.get_upd_ne _ _ k1]; exact ho2 k k1 k2
theorem aTC:gG Tryz.prog cR=some (.slice cI):=by kernel_rfl
theorem aUf:∃ i,tin Tryz.prog cI=some i∧i.size=1∧i.bytes=8:=by
 have h:(tin Tryz.prog cI).map (fun i=>(i.size,i.bytes))=some (1,8):=by kernel_rfl
 cases hi:tin Tryz.prog cI with
 | none=>rw[hi] at h; cases h
 | some i=>rw[hi] at h; simp at h; exact⟨i,rfl,h.1,h.2⟩
theorem aUu:i8 Tryz.prog cI=some (.int .i64 0):=by kernel_rfl
theorem RI.sub {h h':T Obj}{p a n w:Nat}{L:List Nat} (hR:RI h p a n L w) (hs:aU h h'):RI h' p a n L w:=by
 obtain⟨put,first,now,gp,ga,hr⟩:=hR
 exact⟨put,first,now,hs _ _ gp,hs _ _ ga,hr⟩
theorem aKA {ro:Ro}{h:T Obj}{p a n first m now w i x nx:Nat}{put:List Nat}{K:KV} (gp:h.get p=some (.cells (nZ a n first m now w).toArray cO)) (ga:h.get a=some (.cells (rM put).toArray cI)) (hpl:put.length=n) (h1:1≤n) (h2:n≤4096) (h3:first < n) (h4:now≤2000000) (hi:i≤4096) (hr:put.getD ((first+i) % n) 0+x=now+1) (hK:∀ nx',nx≤nx'→K (.int .i64 (x:Nat)) h nx'):aN Tryz.prog ro gJ [ptr p,.int .i64 (i:Int)] h nx K:=by
 apply vR
 unfold s9
 have hm:(first+i) % n < n:=Nat.mod_lt _ (by omega)
 have hm2:(first+i) % n < put.length:=by omega
 (have zy:=And.intro @bJ (And.intro gp (And.intro ga (And.intro @aFm (And.intro @aFc @aLh))));repeat refine zzXz ?_)
 refine⟨h,aU.refl _,?_⟩
 have e:(now:Int) - (put.getD ((first+i) % n) 0:Nat)+1=(x:Nat):=by omega
 rw[e]
 exact hK _ (by omega)
def xP (n:Nat) (L:List Nat):List Nat:=if n≤L.getD 0 0 then (L.map (·+1)).tail else L.map (·+1)
theorem aPP {L:List Nat}{i:Nat} (hi:i < L.length):(L.map (·+1)).getD i 0=L.getD i 0+1:=by
 simp[List.getD,hi]
theorem aMz {L:List Nat}{i:Nat} (hi:i+1 < L.length):(L.map (·+1)).tail.getD i 0=L.getD (i+1) 0+1:=by
 simp[List.getD,hi]
theorem aOB {L:List Nat} (hp:L.Pairwise (fun x y=>y < x)):(L.map (·+1)).Pairwise (fun x y=>y < x):=by
 rw[List.pairwise_map]
 exact hp.imp fun h=>by omega
theorem aPO {L:List Nat}{x:Nat} (hp:L.Pairwise (fun x y=>y < x)) (hx:x∈L):x≤L.getD 0 0:=by
 cases L with
 | nil=>cases hx
 | cons y r =>
  rw[List.pairwise_cons] at hp
  rcases List.mem_cons.1 hx with rfl | h
  ·exact Nat.le_refl _
  ·exact Nat.le_of_lt (hp.1 x h)
theorem aRK {L:List Nat}{n:Nat} (hp:L.Pairwise (fun x y=>y < x)) (hb:∀ x∈L,1≤x∧x≤n):∀ x∈xP n L,1≤x∧x≤n:=fun x hx=>by
 unfold xP at hx
 by_cases h:n≤L.getD 0 0
 ·rw[if_pos h] at hx
  cases L with
  | nil=>cases hx
  | cons y r =>
   rw[List.map_cons,List.tail_cons,List.mem_map] at hx
   obtain⟨z,hz,rfl⟩:=hx
   rw[List.pairwise_cons] at hp
   have h1:=hp.1 z hz
   have h2:=hb y (List.mem_cons_self ..)
   omega
 ·rw[if_neg h,List.mem_map] at hx
  obtain⟨z,hz,rfl⟩:=hx
  have:=aPO hp hz
  omega
theorem aON {L:List Nat}{n:Nat} (hp:L.Pairwise (fun x y=>y < x)):(xP n L).Pairwise (fun x y=>y < x):=by
 unfold xP
 by_cases h:n≤L.getD 0 0
 ·rw[if_pos h]; exact (aOB hp).sublist (List.tail_sublist _)
 ·rw[if_neg h]; exact aOB hp
theorem aRg {f i n:Nat}:((f+1) % n+i) % n=(f+(i+1)) % n:=by
 rw[Nat.add_mod,Nat.mod_mod,← Nat.add_mod]; congr 1; omega
set_option maxRecDepth 4000 in
theorem aHJ {ro:Ro}{h:T Obj}{p a n w nx:Nat}{L:List Nat}{K:KV} (hR:RI h p a n L w) (hw:w+1≤1000000) (hK:∀ h' nx',nx≤nx'→RI h' p a n (xP n L) (w+1)→t7 h h' p a→K (.tuple #[]) h' nx'):aN Tryz.prog ro pI [ptr p] h nx K:=by
 have hln:=hR.len
 obtain⟨put,first,now,gp,ga,hne,hpl,b1,b2,b3,b4,b5,hrel,hpw,hb⟩:=hR
 apply aE3
 unfold aCN
 (have zy:=And.intro @pX (And.intro @bJ (And.intro gp ga));repeat refine zzXz ?_)
 have gp1:((h.upd p (some (.cells (over (nZ a n first L.length now w).toArray.toList 4 [.int .i64 ((w:Int)+1)]).toArray cO))).upd p (some (.cells (over (over (nZ a n first L.length now w).toArray.toList 4 [.int .i64 ((w:Int)+1)]).toArray.toList 3 [.int .i64 ((now:Int)+1)]).toArray cO))).get p=some (.cells (nZ a n first L.length (now+1) (w+1)).toArray cO):=by
  rw[T.get_upd_same]; rfl
 have ga1:((h.upd p (some (.cells (over (nZ a n first L.length now w).toArray.toList 4 [.int .i64 ((w:Int)+1)]).toArray cO))).upd p (some (.cells (over (over (nZ a n first L.length now w).toArray.toList 4 [.int .i64 ((w:Int)+1)]).toArray.toList 3 [.int .i64 ((now:Int)+1)]).toArray cO))).get a=some (.cells (rM put).toArray cI):=by rw[T.get_upd_ne _ _ (Ne.symm hne),T.get_upd_ne _ _ (Ne.symm hne)]; exact ga
 have ho1:t7 h ((h.upd p (some (.cells (over (nZ a n first L.length now w).toArray.toList 4 [.int .i64 ((w:Int)+1)]).toArray cO))).upd p (some (.cells (over (over (nZ a n first L.length now w).toArray.toList 4 [.int .i64 ((w:Int)+1)]).toArray.toList 3 [.int .i64 ((now:Int)+1)]).toArray cO))) p a:=fun k k1 k2=>by rw[T.get_upd_ne _ _ k1,T.get_upd_ne _ _ k1]
 generalize ((h.upd p (some (.cells (over (nZ a n first L.length now w).toArray.toList 4 [.int .i64 ((w:Int)+1)]).toArray cO))).upd p (some (.cells (over (over (nZ a n first L.length now w).toArray.toList 4 [.int .i64 ((w:Int)+1)]).toArray.toList 3 [.int .i64 ((now:Int)+1)]).toArray cO)))=h1 at gp1 ga1 ho1
 rcases Nat.eq_zero_or_pos L.length with hm | hm
 ·have d:decide ((0:Int) < (L.length:Int))=false:=decide_eq_false (by omega)
  rw[d]
  (repeat refine zzX ?_)
  refine⟨_,aU.refl _,hK _ _ (by omega) ?_ ho1⟩
  have hL:L=[]:=List.length_eq_zero_iff.1 hm
  subst hL
  have hi:xP n []=[]:=by unfold xP; rw[if_neg (show ¬ n≤([]:List Nat).getD 0 0 by simp; omega)]; rfl
  rw[hi]
  exact⟨put,first,now+1,gp1,ga1,hne,hpl,b1,b2,b3,by omega,hw,fun i hi=>(by cases hi),List.Pairwise.nil,fun x hx=>(by cases hx)⟩
 ·have d:decide ((0:Int) < (L.length:Int))=true:=decide_eq_true (by omega)
  rw[d]
  (repeat refine zzX ?_)
  refine aKA (i:=0) (x:=L.getD 0 0+1) gp1 ga1 hpl b1 b2 b3 (by omega) (by omega) (by have:=hrel 0 hm; omega) fun n4 hn4=>?_
  (have zy:=And.intro @bJ gp1;repeat refine zzXz ?_)
  refine⟨fun _=>qA gp1 gp1,?_⟩
  (repeat refine zzX ?_)
  by_cases hx:n≤L.getD 0 0
  ·rw[decide_eq_true (show (n:Int) < ((L.getD 0 0+1:Nat):Int) by omega)]
   have hmod:((first:Int)+1) % (n:Int)=(((first+1) % n:Nat):Int):=aFm first 1 n
   have hml:(first+1) % n < n:=Nat.mod_lt _ (by omega)
   (have zy:=And.intro @bJ (And.intro gp1 hmod);repeat refine zzXz ?_)
   refine⟨_,aU.refl _,hK _ _ (by omega) ?_ ?_⟩
   ·have hi:xP n L=(L.map (·+1)).tail:=if_pos hx
    have hlen:(xP n L).length=L.length - 1:=by rw[hi]; simp
    refine⟨put,(first+1) % n,now+1,?_,?_,hne,hpl,b1,b2,hml,by omega,hw,?_,aON hpw,aRK hpw hb⟩
    ·rw[T.get_upd_same,hlen]
     have e:(L.length:Int) - 1=((L.length - 1:Nat):Int):=by omega
     rw[e]; rfl
    ·rw[T.get_upd_ne _ _ (Ne.symm hne),T.get_upd_ne _ _ (Ne.symm hne)]; exact ga1
    ·intro i hil
     rw[hlen] at hil
     rw[hi,aMz (by omega),aRg]
     have:=hrel (i+1) (by omega)
     omega
   ·exact fun k k1 k2=>by rw[T.get_upd_ne _ _ k1,T.get_upd_ne _ _ k1]; exact ho1 k k1 k2
  ·rw[decide_eq_false (show ¬ (n:Int) < ((L.getD 0 0+1:Nat):Int) by omega)]
   (repeat refine zzX ?_)
   refine⟨_,aU.refl _,hK _ _ (by omega) ?_ ho1⟩
   have hi:xP n L=L.map (·+1):=if_neg hx
   have hlen:(xP n L).length=L.length:=by rw[hi]; simp
   refine⟨put,first,now+1,by rw[hlen]; exact gp1,ga1,hne,hpl,b1,b2,b3,by omega,hw,?_,aON hpw,aRK hpw hb⟩
   intro i hil
   rw[hlen] at hil
   rw[hi,aPP hil]
   have:=hrel i hil
   omega
set_option maxRecDepth 4000 in
theorem zY {ro:Ro}{h:T Obj}{p a n w nx:Nat}{L:List Nat}{K:KV} (hR:RI h p a n L w) (hw:w+1≤1000000) (hK:∀ h' nx',nx≤nx'→RI h' p a n [] (w+1)→t7 h h' p a→K (.tuple #[]) h' nx'):aN Tryz.prog ro kB [ptr p] h nx K:=by
 obtain⟨put,first,now,gp,ga,hne,hpl,b1,b2,b3,b4,b5,hrel,hpw,hb⟩:=hR
 apply aCk
 unfold aAJ
 (have zy:=And.intro @aLg (And.intro @bJ (And.intro gp ga));repeat refine zzXz ?_)
 refine⟨_,aU.refl _,hK _ _ (by omega) ?_ ?_⟩
 ·refine⟨put,0,now,?_,?_,hne,hpl,b1,b2,by omega,by omega,hw,fun i hi=>(by cases hi),List.Pairwise.nil,fun x hx=>(by cases hx)⟩
  ·rw[T.get_upd_same]; rfl
  ·rw[T.get_upd_ne _ _ (Ne.symm hne),T.get_upd_ne _ _ (Ne.symm hne),T.get_upd_ne _ _ (Ne.symm hne)]; exact ga
 ·exact fun k k1 k2=>by rw[T.get_upd_ne _ _ k1,T.get_upd_ne _ _ k1,T.get_upd_ne _ _ k1]
theorem aH4:∀ n:Nat,vZ [.int .i64 0] n=rM (List.replicate n 0)
 | 0=>rfl
 | n+1=>by
  have:=aH4 n
  simp only[vZ,this,rM,List.replicate_succ,List.map_cons]; rfl
theorem aR5 {aid n:Nat} (h0:1≤n) (h1:n≤1000000):aBu Tryz.prog cR aid (.int .i64 (n:Int)) (.int .i64 (n:Int))=some (.slice (some (own aid 1)) n n,some (.cells (rM (List.replicate n 0)).toArray cI)):=by
 obtain⟨i,g1,g2,g3⟩:=aUf
 have hb:Nat.ble (n*8) oB=true:=Nat.ble_eq_true_of_le (by unfold oB; omega)
 have e1:decide ((0:Int)≤(n:Int))=true:=by simp
 have e2:decide ((n:Int)≤(n:Int))=true:=by simp
 have e3:decide ((n:Int)≤70368744177664)=true:=by simp; omega
 have hz:aH5 Tryz.prog cI n=some (rM (List.replicate n 0)):=by
  obtain⟨m,rfl⟩:∃ m,n=m+1:=⟨n - 1,by omega⟩
  have hs:pD Tryz.prog cI=some 1:=by kernel_rfl
  unfold aH5
  simp only[aUu,hs,Option.bind_some]
  have h3:Nat.beq (Value.cells (.int .i64 0)).size 1=true:=rfl
  have h4:Nat.blt 0 1=true:=rfl
  rw[h3,h4]
  simp only
  rw[← aH4]; rfl
 unfold aBu
 simp only[aTC,e1,e2,g1,Option.bind_some,g3,Int.toNat_natCast,hb,e3,hz,g2]
theorem aK4 (a n:Nat):cX Tryz.prog cO [(0,.slice (some (own a 1)) n n)]=some (.agg (nZ a n 0 0 0 0).toArray):=by kernel_rfl
set_option maxRecDepth 4000 in
theorem aN6 {ro:Ro}{h:T Obj}{n nx:Nat}{K:KV} (hf:Fr h nx) (h1:1≤n) (h2:n≤4096) (hK:∀ p a h' nx',nx≤p→nx≤a→nx≤nx'→aU h h'→Fr h' nx'→RI h' p a n [] 0→K (.tuple #[ptr p,.int .i64 0]) h' nx'):aN Tryz.prog ro aCa [.int .i64 (n:Int)] h nx K:=by
 apply aMI
 unfold aMH
 (repeat refine zzX ?_)
 rw[decide_eq_false (show ¬ (n:Int) < 1 by omega)]
 (repeat refine zzX ?_)
 rw[decide_eq_false (show ¬ (4096:Int) < (n:Int) by omega)]
 (repeat refine zzX ?_)
 refine aB (aR5 h1 (by omega)) (aF ?_)
 refine aB (aK4 _ _) (aD ?_)
 refine⟨_,aU.refl _,hK _ (nx+6+1+2) _ _ (by omega) (by omega) (by omega) (((aU.refl h).new hf (by omega)).new hf (by omega)) ((hf.upd (m:=nx+6+1+7) (by omega) (by omega)).upd (Nat.le_refl _) (by omega)) ?_⟩
 exact⟨List.replicate n 0,0,0,by rw[T.get_upd_same]; rfl,by rw[T.get_upd_ne _ _ (by omega),T.get_upd_same],by omega,List.length_replicate,h1,h2,by omega,Nat.le_refl _,by omega,fun i hi=>(by cases hi),List.Pairwise.nil,fun x hx=>(by cases hx)⟩
theorem aU.e (h:T Obj):aU .e h:=fun k o e=>by cases e
theorem RI.only {h h':T Obj}{p a p2 a2 n w:Nat}{L:List Nat} (hR:RI h p a n L w) (ho:t7 h h' p2 a2) (h1:p≠p2) (h2:p≠a2) (h3:a≠p2) (h4:a≠a2):RI h' p a n L w:=by
 obtain⟨put,first,now,gp,ga,hr⟩:=hR
 exact⟨put,first,now,by rw[ho _ h1 h2]; exact gp,by rw[ho _ h3 h4]; exact ga,hr⟩
theorem RI.lt {h:T Obj}{p a n w nx:Nat}{L:List Nat} (hR:RI h p a n L w) (hf:Fr h nx):p < nx∧a < nx:=by
 obtain⟨put,first,now,gp,ga,hr⟩:=hR
 exact⟨hf.lt gp,hf.lt ga⟩
theorem t7.sub {h0 h h':T Obj}{p a n0:Nat} (ho:t7 h h' p a) (hs:aU h0 h) (hf:Fr h0 n0) (hp:n0≤p) (ha:n0≤a):aU h0 h':=fun k o e=>by
 have:=hf.lt e
 rw[ho k (by omega) (by omega)]; exact hs k o e
def aTa (L:List Nat):Nat:=if L.length=0 then 0 else L.getD 0 0
theorem aV0 (L:List Nat):nth 0 (aEI L)=some (.int .i64 (aTa L:Nat)):=by
 unfold aEI aTa
 by_cases h:L.length=0
 ·rw[if_pos h,if_pos h]; rfl
 ·rw[if_neg h,if_neg h]; rfl
theorem aV1 (L:List Nat):nth 1 (aEI L)=some (.bool (!decide (L.length=0))):=by
 unfold aEI
 by_cases h:L.length=0
 ·rw[if_pos h,decide_eq_true h]; rfl
 ·rw[if_neg h,decide_eq_false h]; rfl
section
attribute [local irreducible] aA bF aV dL eJ iM dE
def isC (n:Nat) (L:List Nat):List Value:=(List.range (n+1)).map fun i=>.bool (decide (i∈L))
def WI (h:T Obj) (p a n:Nat) (L:List Nat) (w:Nat):Prop:=h.get p=some (.cells #[.slice (some (V.own a 1)) (n+1) (n+1),.int .i64 w] mC)∧h.get a=some (.cells (isC n L).toArray kM)∧p≠a∧1≤n∧n≤4096∧w≤1000000
end
theorem WI.sub {h h':T Obj}{p a n w:Nat}{L:List Nat} (hW:WI h p a n L w) (hs:aU h h'):WI h' p a n L w:=⟨hs _ _ hW.1,hs _ _ hW.2.1,hW.2.2⟩
theorem kY {h:T Obj}{i j:Nat}{c d:Array Value}{e f:TypeId} (hi:h.get i=some (.cells c e)) (hj:h.get j=some (.cells d f)) (hef:e≠f):i≠j:=fun e9=>by
 subst e9; rw[hi] at hj; cases hj; exact hef rfl
def low (L:List Nat):Nat:=if L.length=0 then 0 else L.getD (L.length - 1) 0
theorem aV4 (L:List Nat):nth 0 (aEM L)=some (.int .i64 (low L:Nat)):=by
 unfold aEM low
 by_cases h:L.length=0
 ·rw[if_pos h,if_pos h]; rfl
 ·rw[if_neg h,if_neg h]; rfl
theorem aV5 (L:List Nat):nth 1 (aEM L)=some (.bool (!decide (L.length=0))):=by
 unfold aEM
 by_cases h:L.length=0
 ·rw[if_pos h,decide_eq_true h]; rfl
 ·rw[if_neg h,decide_eq_false h]; rfl
theorem RI.in {h:T Obj}{p a n w:Nat}{L:List Nat} (hR:RI h p a n L w):L.Pairwise (fun x y=>y < x)∧(∀ x∈L,1≤x∧x≤n)∧1≤n∧n≤4096:=by
 obtain⟨put,first,now,gp,ga,hne,hpl,b1,b2,b3,b4,b5,hrel,hpw,hb⟩:=hR
 exact⟨hpw,hb,b1,b2⟩
end V
end Go.Proofs.YtjndkdmkecpllaaGreat
namespace Go.Proofs.YtjndkdmkecpllaaGreat
namespace V
attribute [local irreducible] aA bF aV dL eJ iM dE
abbrev oJ:=List Nat × Nat
def noR:oJ:=([],0)
def aJO (r:oJ):oJ:=([],r.2+1)
def aVo (r:oJ):oJ:=(aLk r.1,r.2+1)
def aV2 (n:Nat) (r:oJ):oJ:=(xP n r.1,r.2+1)
def aCi (n o:Nat) (r:oJ):oJ:=if o=3 then aVo (aJO r) else if o=2 then aVo (aV2 n r) else aV2 n r
structure MacD where
 cur:Int
 rs:List oJ
 steps:Nat
def nJ (C:List (Int × Int)) (c:Int):Int × Int:=C.getD c.toNat (0,0)
def jR (rs:List oJ) (c:Int):oJ:=rs.getD c.toNat noR
def aEB (C:List (Int × Int)) (rs:List oJ) (c:Int):Nat :=
 if (jR rs c).1.length=0 then 0 else if (((jR rs c).1.getD 0 0:Nat):Int) < (nJ C c).1 then 0 else if (((jR rs c).1.getD ((jR rs c).1.length - 1) 0:Nat):Int) < (nJ C c).2 then 2 else 1
def gT (C:List (Int × Int)) (rs:List oJ):List Int→Nat
 | []=>0
 | c::r=>aEB C rs c+3*gT C rs r
def aUA:MoveD:=⟨-1,[]⟩
def gQ (d:AutoD) (m:MacD):StateD:=d.states.getD m.cur.toNat noS
def vT (d:AutoD) (m:MacD):Int:=if m.cur=-1 then -1 else (gQ d m).rule.getD (gT d.counts m.rs (gQ d m).r) 0
def oK (d:AutoD) (m:MacD) (b:Nat):MoveD:=((gQ d m).next.getD (gT d.counts m.rs (gQ d m).r) []).getD (d.c.getD b 0) aUA
def qR (d:AutoD) (t:Int):List Int:=if t=-1 then [] else (d.states.getD t.toNat noS).r
def pS (nx:List Int):List Int→List oJ→List oJ
 | [],rs=>rs
 | c::r,rs=>pS nx r (if nx.contains c then rs else rs.set c.toNat (aJO (jR rs c)))
def o9 (C:List (Int × Int)):List Int→List Nat→List oJ→List oJ
 | c::r,o::os,rs=>o9 C r os (rs.set c.toNat (aCi (nJ C c).2.toNat o (jR rs c)))
 | _,_,rs=>rs
def onM (d:AutoD) (m:MacD) (b:Nat):Bool:=!decide (m.cur=-1)&&!decide ((oK d m b).to=-1)
def kO (d:AutoD) (m:MacD) (b:Nat):MacD :=
 if m.cur=-1 then m else ⟨(oK d m b).to,o9 d.counts (qR d (oK d m b).to) (oK d m b).ops (pS (qR d (oK d m b).to) (gQ d m).r m.rs),m.steps+1+(gQ d m).r.length⟩
def rG (r:oJ):oJ:=if r.1.length=0 then r else aJO r
def zX (m:MacD):MacD:=⟨0,m.rs.map rG,m.steps⟩
def aJa (d:AutoD):MacD:=⟨0,d.counts.map fun _=>noR,0⟩
def MOk (d:AutoD) (m:MacD):Prop:=(m.cur=-1∨0≤m.cur∧m.cur < d.states.length)∧m.rs.length=d.counts.length
theorem iV {d:AutoD} (h:gU d=true):s8 d.c d.many=true∧d.counts.length≤512∧1≤d.states.length∧d.states.length≤256∧(∀ c∈d.counts,1≤c.1∧c.1≤c.2∧2≤c.2∧c.2≤4096)∧∀ s∈d.states,kI d.states d.many d.counts.length s=true:=by
 unfold gU at h
 simp only[Bool.and_eq_true,decide_eq_true_eq] at h
 obtain⟨h1,h2,h3,h4,h5,h6,h7⟩:=h
 refine⟨h1,h2,h3,h4,fun c hc=>?_,fun s hs=>List.all_eq_true.1 h7 s hs⟩
 have:=List.all_eq_true.1 h6 c hc
 unfold tK at this
 simp only[Bool.and_eq_true,decide_eq_true_eq] at this
 exact this
theorem aBS {S:List StateD}{n:Int}{cn:Nat}{s:StateD} (h:kI S n cn s=true):s.r.length≤3∧(s.rule.length:Int)=eW s.r.length∧(s.next.length:Int)=eW s.r.length∧(∀ c∈s.r,0≤c∧c < cn)∧rO S s.r n s.rule s.next=true:=by
 have h3:=(aIt h).2
 unfold kI at h
 simp only[Bool.and_eq_true,decide_eq_true_eq] at h
 obtain⟨h1,h2,h4,h5,h6,h7⟩:=h
 refine⟨h3,h2,h4,fun c hc=>?_,h7⟩
 have:=dX h6 c hc
 omega
theorem aOC (C:List (Int × Int)) (rs:List oJ) (c:Int):aEB C rs c < 3:=by
 unfold aEB
 repeat' split
 all_goals omega
theorem aKf (C:List (Int × Int)) (rs:List oJ):∀ r:List Int,gT C rs r < 3 ^ r.length
 | []=>by show 0 < 1; omega
 | c::r=>by
  have:=aKf C rs r
  have:=aOC C rs c
  rw[List.length_cons,Nat.pow_succ]
  unfold gT
  omega
theorem aEn {C:List (Int × Int)}{rs:List oJ}{r:List Int} (h:r.length≤3):(gT C rs r:Int) < eW r.length:=by
 have h1:=aKf C rs r
 generalize r.length=n at h h1
 match n,h with
 | 0,_=>have h2:gT C rs r < 1:=h1; show (gT C rs r:Int) < 1; omega
 | 1,_=>have h2:gT C rs r < 3:=h1; show (gT C rs r:Int) < 3; omega
 | 2,_=>have h2:gT C rs r < 9:=h1; show (gT C rs r:Int) < 9; omega
 | 3,_=>have h2:gT C rs r < 27:=h1; show (gT C rs r:Int) < 27; omega
theorem aKB {S:List StateD}{R:List Int}{n:Int}:∀ {us:List Int}{rows:List (List MoveD)},rO S R n us rows=true→us.length=rows.length→∀ (i:Nat) row u,rows[i]?=some row→us[i]?=some u→aBO S R n u row=true
 | [],[],_,_,i,row,u,hr,hu=>by simp at hr
 | u::us,row::rows,h,hl,i,row',u',hr,hu=>by
  rw[sR,Bool.and_eq_true] at h
  cases i with
  | zero=>simp at hr hu; subst hr hu; exact h.1
  | succ i=>exact aKB h.2 (by simpa using hl) i row' u' (by simpa using hr) (by simpa using hu)
 | [],_::_,_,hl,_,_,_,_,_=>by simp at hl
 | _::_,[],_,hl,_,_,_,_,_=>by simp at hl
theorem aMG {c:List Nat}{n:Int} (hc:c.length=256) (h:s8 c n=true):∀ b,b < 256→((c.getD b 0:Nat):Int) < n:=by
 unfold s8 at h
 split at h
 ·rename_i m hm
  simp only[decide_eq_true_eq] at h
  subst h
  have key:∀ i m,rt c i=some m→∀ b,b < i→c.getD b 0 < m:=by
   intro i
   induction i with
   | zero=>intro m _ b hb; omega
   | succ i ih =>
    intro m h b hb
    obtain⟨k,h1,h2⟩:=aM h
    have:=ih k h1
    split at h2
    ·cases h2
    ·split at h2
     ·cases h2
      rcases Nat.lt_or_ge b i with h4 | h4
      ·have:=this b h4; omega
      ·have:b=i:=by omega
       subst this; omega
     ·cases h2
      rcases Nat.lt_or_ge b i with h4 | h4
      ·exact this b h4
      ·have:b=i:=by omega
       subst this; omega
  intro b hb
  exact_mod_cast key 256 m hm b hb
 ·cases h
structure StF (d:AutoD) (s:StateD) (k:Nat):Prop where
 r3:s.r.length≤3
 rl:∀ c∈s.r,0≤c∧c < d.counts.length
 kr:k < s.rule.length
 kn:k < s.next.length
 row:((s.next.getD k []).length:Int)=d.many
 mv:∀ m∈s.next.getD k [],kX d.states s.r m=true
 ru:-1≤s.rule.getD k 0∧s.rule.getD k 0 < 512
theorem aMZ {d:AutoD}{m:MacD} (ha:gU d=true) (hm:MOk d m) (hc:m.cur≠-1):StF d (gQ d m) (gT d.counts m.rs (gQ d m).r):=by
 obtain⟨h1,h2,h3,h4,h5,h6⟩:=iV ha
 have hcur:0≤m.cur∧m.cur < d.states.length:=by rcases hm.1 with h | h<;>omega
 have hi:m.cur.toNat < d.states.length:=by omega
 have hs:gQ d m=d.states[m.cur.toNat]:=by unfold gQ; rw[List.getD_eq_getElem?_getD,List.getElem?_eq_getElem hi]; rfl
 have hk:=h6 _ (List.getElem_mem hi)
 rw[← hs] at hk
 generalize gQ d m=s at hk
 obtain⟨k1,k2,k3,k4,k5⟩:=aBS hk
 have hlt:=aEn (C:=d.counts) (rs:=m.rs) k1
 generalize gT d.counts m.rs s.r=k at hlt
 have kr:k < s.rule.length:=by omega
 have kn:k < s.next.length:=by omega
 have e1:s.next[k]?=some s.next[k]:=List.getElem?_eq_getElem kn
 have e2:s.rule[k]?=some s.rule[k]:=List.getElem?_eq_getElem kr
 have hro:=aKB k5 (by omega) k _ _ e1 e2
 unfold aBO at hro
 simp only[Bool.and_eq_true,decide_eq_true_eq] at hro
 refine⟨k1,k4,kr,kn,?_,?_,?_⟩
 ·rw[List.getD_eq_getElem?_getD,e1]; exact hro.2.2.1
 ·rw[List.getD_eq_getElem?_getD,e1]; exact fun m hm=>List.all_eq_true.1 hro.2.2.2 m hm
 ·rw[List.getD_eq_getElem?_getD,e2]; exact⟨hro.1,hro.2.1⟩
theorem aJ9 {d:AutoD}{m:MacD}{b:Nat} (ha:gU d=true) (hm:MOk d m) (hc:m.cur≠-1) (hl:d.c.length=256) (hb:b < 256):d.c.getD b 0 < ((gQ d m).next.getD (gT d.counts m.rs (gQ d m).r) []).length∧kX d.states (gQ d m).r (oK d m b)=true:=by
 have hs:=aMZ ha hm hc
 have h1:=aMG hl (iV ha).1 b hb
 have h2:d.c.getD b 0 < ((gQ d m).next.getD (gT d.counts m.rs (gQ d m).r) []).length:=by have:=hs.row; omega
 refine⟨h2,hs.mv _ ?_⟩
 unfold oK
 rw[List.getD_eq_getElem?_getD (a:=aUA),List.getElem?_eq_getElem h2]
 exact List.getElem_mem h2
theorem aCd {S:List StateD}{R:List Int}{m:MoveD} (h:kX S R m=true):(m.to=-1∧m.ops=[])∨(1≤m.to∧m.to < S.length∧m.ops.length=(S.getD m.to.toNat noS).r.length∧aBv R m.ops (S.getD m.to.toNat noS).r=true):=by
 unfold kX at h
 split at h
 ·rename_i ht
  exact .inl ⟨ht,List.length_eq_zero_iff.1 (by simpa using h)⟩
 ·simp only[Bool.and_eq_true,decide_eq_true_eq] at h
  exact .inr ⟨h.1,h.2.1,h.2.2.1,h.2.2.2⟩
theorem aIb {R:List Int}:∀ {os:List Nat}{rs:List Int},aBv R os rs=true→os.length=rs.length→∀ o∈os,1≤o∧o≤3
 | [],_,_,_,o,ho=>by cases ho
 | o::os,[],_,hl,_,_=>by simp at hl
 | o::os,r::rs,h,hl,x,hx=>by
  rw[aCf,Bool.and_eq_true] at h
  rcases List.mem_cons.1 hx with rfl | hx
  ·have:=h.1
   unfold aL4 at this
   simp only[Bool.and_eq_true,decide_eq_true_eq] at this
   exact⟨this.1,this.2.1⟩
  ·exact aIb h.2 (by simpa using hl) x hx
theorem aCz (nx:List Int):∀ (r:List Int) (rs:List oJ),(pS nx r rs).length=rs.length
 | [],rs=>rfl
 | c::r,rs=>by
  unfold pS
  rw[aCz nx r]
  split<;>simp
theorem aL7 (C:List (Int × Int)):∀ (r:List Int) (os:List Nat) (rs:List oJ),(o9 C r os rs).length=rs.length
 | [],_,rs=>by simp[o9]
 | _::_,[],rs=>by simp[o9]
 | c::r,o::os,rs=>by
  unfold o9
  rw[aL7 C r os]; simp
theorem aUb {d:AutoD}{m:MacD}{b:Nat} (ha:gU d=true) (hm:MOk d m) (hl:d.c.length=256) (hb:b < 256):MOk d (kO d m b):=by
 unfold kO
 by_cases hc:m.cur=-1
 ·rw[if_pos hc]; exact hm
 ·rw[if_neg hc]
  have h1:=aCd (aJ9 ha hm hc hl hb).2
  refine⟨?_,?_⟩
  ·rcases h1 with ⟨h1,_⟩ | ⟨h1,h2,_⟩
   ·exact .inl h1
   ·exact .inr ⟨by show (0:Int)≤(oK d m b).to; omega,h2⟩
  ·show (o9 _ _ _ _).length=_
   rw[aL7,aCz]; exact hm.2
theorem aS4 {d:AutoD}{m:MacD} (ha:gU d=true) (hm:MOk d m):MOk d (zX m):=⟨.inr ⟨Int.le_refl _,by have:=(iV ha).2.2.1; show (0:Int) < _; omega⟩,by show (m.rs.map rG).length=_; rw[List.length_map]; exact hm.2⟩
theorem aV9 {d:AutoD} (ha:gU d=true):MOk d (aJa d):=⟨.inr ⟨Int.le_refl _,by have:=(iV ha).2.2.1; show (0:Int) < _; omega⟩,by show (d.counts.map _).length=_; rw[List.length_map]⟩
def WLe (B:Nat) (rs:List oJ):Prop:=∀ r∈rs,r.2≤B
theorem WLe.mono {B B':Nat}{rs:List oJ} (h:WLe B rs) (hb:B≤B'):WLe B' rs:=fun r hr=>Nat.le_trans (h r hr) hb
theorem WLe.set {B:Nat}{rs:List oJ}{i:Nat}{x:oJ} (h:WLe B rs) (hx:x.2≤B):WLe B (rs.set i x):=fun r hr=>by
 rcases List.mem_or_eq_of_mem_set hr with h1 | h1
 ·exact h r h1
 ·rw[h1]; exact hx
theorem WLe.at {B:Nat}{rs:List oJ} (h:WLe B rs) (c:Int):(jR rs c).2≤B:=by
 unfold jR
 rw[List.getD_eq_getElem?_getD]
 cases hq:rs[c.toNat]? with
 | none=>exact Nat.zero_le _
 | some r=>exact h r (List.mem_of_getElem? hq)
theorem aS7 (n o:Nat) (r:oJ):(aCi n o r).2≤r.2+2:=by
 unfold aCi
 repeat' split
 all_goals simp[aVo,aJO,aV2]
end V
end Go.Proofs.YtjndkdmkecpllaaGreat
namespace Go.Proofs.YtjndkdmkecpllaaGreat
namespace V
attribute [local irreducible] aA bF aV dL eJ iM dE
def eM (c:List Nat) (n:Int) (cv sv:Value) (cur:Int) (rv:Value) (steps:Nat):List Value:=eK c n cv sv++[.int .i64 cur,rv,.int .i64 (steps:Int)]
section
variable {c:List Nat}{n cur:Int}{cv sv rv:Value}{steps:Nat}
theorem yO (hc:c.length=256):(eM c n cv sv cur rv steps).length=262:=by simp[eM,cV hc]
theorem aG5 {i:Nat} (hc:c.length=256) (hi:i < 259):(eM c n cv sv cur rv steps)[i]?=(eK c n cv sv)[i]?:=by
 unfold eM
 rw[List.getElem?_append_left (by rw[cV hc]; exact hi)]
theorem aG4 (i:Nat) (hc:c.length=256):(eM c n cv sv cur rv steps)[i+259]?=[Value.int .i64 cur,rv,.int .i64 (steps:Int)][i]?:=by
 unfold eM
 rw[List.getElem?_append_right (by rw[cV hc]; omega),cV hc,Nat.add_sub_cancel]
theorem aP5 (hc:c.length=256):(eM c n cv sv cur rv steps)[257]?=some cv:=by rw[aG5 hc (by omega),pQ hc]
theorem aEP (hc:c.length=256):(eM c n cv sv cur rv steps)[258]?=some sv:=by rw[aG5 hc (by omega),nF hc]
theorem aEQ (hc:c.length=256):(eM c n cv sv cur rv steps)[259]?=some (.int .i64 cur):=aG4 0 hc
theorem yN (hc:c.length=256):(eM c n cv sv cur rv steps)[260]?=some rv:=aG4 1 hc
theorem aP6 (hc:c.length=256):(eM c n cv sv cur rv steps)[261]?=some (.int .i64 (steps:Int)):=aG4 2 hc
theorem aTr {b:Nat} (hc:c.length=256) (hb:b < 256):(eM c n cv sv cur rv steps)[b]?=some (.int .u8 (c.getD b 0:Nat)):=by
 rw[aG5 hc (by omega)]
 unfold eK
 rw[List.getElem?_append_left (by rw[dV hc]; omega),aFS (by omega)]
 rw[List.getD_eq_getElem?_getD,List.getElem?_eq_getElem (show b < c.length by omega)]; rfl
theorem aDQ (hc:c.length=256) (k:Int):(eM c n cv sv cur rv steps).set 259 (.int .i64 k)=eM c n cv sv k rv steps:=by
 unfold eM
 rw[List.set_append_right _ _ (by rw[cV hc]; omega),cV hc]; rfl
theorem aJ5 (hc:c.length=256) (w:Value):(eM c n cv sv cur rv steps).set 260 w=eM c n cv sv cur w steps:=by
 unfold eM
 rw[List.set_append_right _ _ (by rw[cV hc]; omega),cV hc]; rfl
theorem aJ6 (hc:c.length=256) (k:Nat):(eM c n cv sv cur rv steps).set 261 (.int .i64 (k:Int))=eM c n cv sv cur rv k:=by
 unfold eM
 rw[List.set_append_right _ _ (by rw[cV hc]; omega),cV hc]; rfl
end
theorem Sl.ixArr {ro:Ro}{h:T Obj}{v:Value}{z:Nat}{cs:List (List Value)} (hl:Sl ro h v z cs) {i:Nat} (hi:i < cs.length) (n w:Nat) (k:IntKind) {j:Int} (h0:0≤j) (h1:j < n):V.ixArr n w (fH z v i) (.int k j)=some (fP z v i (j.toNat*w)):=by
 have hn:nV (.int k j)=some j.toNat:=by simp[nV,h0]
 have hb:Nat.blt j.toNat n=true:=by simp[Nat.blt]; omega
 rcases hl with ⟨rfl,rfl⟩ | ⟨a,cap,rfl,h2,h3,h4⟩
 ·simp at hi
 ·simp only[V.ixArr,hn,fH,asP,Option.bind,hb,fP,aOD]
def pA (ps:List (Nat × Nat)):List (List Value):=ps.map fun p=>[ptr p.1]
theorem rL (ps:List (Nat × Nat)):(pA ps).length=ps.length:=by simp[pA]
abbrev RgP:=T Obj→Nat→Nat→Nat→List Nat→Nat→Prop
structure RgOk (RR:RgP) (tp ta:TypeId):Prop where
 keep:∀ {h h':T Obj} {p a n w:Nat} {L:List Nat},RR h p a n L w→h'.get p=h.get p→h'.get a=h.get a→RR h' p a n L w
 p:∀ {h:T Obj} {p a n w:Nat} {L:List Nat},RR h p a n L w→∃ c,h.get p=some (.cells c tp)
 a:∀ {h:T Obj} {p a n w:Nat} {L:List Nat},RR h p a n L w→∃ c,h.get a=some (.cells c ta)
 ne:tp≠ta
 L:∀ {h:T Obj} {p a n w:Nat} {L:List Nat},RR h p a n L w→L.Pairwise (fun x y=>y < x)∧(∀ x∈L,1≤x∧x≤n)∧1≤n∧n≤4096
theorem nE:RgOk RI cO cI where
 keep:=fun ⟨put,first,now,gp,ga,hr⟩ h1 h2=>⟨put,first,now,by rw[h1]; exact gp,by rw[h2]; exact ga,hr⟩
 p:=fun ⟨put,first,now,gp,ga,hr⟩=>⟨_,gp⟩
 a:=fun ⟨put,first,now,gp,ga,hr⟩=>⟨_,ga⟩
 ne:=by decide
 L:=fun h=>h.in
def WJ:RgP:=fun h p a n L w=>WI h p a n L w∧L.Pairwise (fun x y=>y < x)∧∀ x∈L,1≤x∧x≤n
theorem aFl:RgOk WJ mC kM where
 keep:=fun ⟨hw,hr⟩ h1 h2=>⟨⟨by rw[h1]; exact hw.1,by rw[h2]; exact hw.2.1,hw.2.2⟩,hr⟩
 p:=fun ⟨hw,hr⟩=>⟨_,hw.1⟩
 a:=fun ⟨hw,hr⟩=>⟨_,hw.2.1⟩
 ne:=by decide
 L:=fun ⟨hw,hr⟩=>⟨hr.1,hr.2,hw.2.2.2.1,hw.2.2.2.2.1⟩
def RsX (RR:RgP) (h:T Obj) (ps:List (Nat × Nat)) (C:List (Int × Int)) (rs:List oJ):Prop:=ps.length=C.length∧rs.length=C.length∧∀ (i:Nat) p c r,ps[i]?=some p→C[i]?=some c→rs[i]?=some r→RR h p.1 p.2 c.2.toNat r.1 r.2
def Dst (ps:List (Nat × Nat)):Prop:=∀ (i j:Nat) p q,ps[i]?=some p→ps[j]?=some q→i≠j→p.1≠q.1∧p.2≠q.2
section
variable {RR:RgP}{tp ta:TypeId}{h h':T Obj}{ps:List (Nat × Nat)}{C:List (Int × Int)}{rs:List oJ}
theorem RsX.at (hr:RsX RR h ps C rs) {c:Int} (h0:0≤c) (h1:c < C.length):∃ q,ps[c.toNat]?=some q∧RR h q.1 q.2 (nJ C c).2.toNat (jR rs c).1 (jR rs c).2:=by
 obtain⟨r1,r2,r3⟩:=hr
 have hi:c.toNat < C.length:=by omega
 have e1:ps[c.toNat]?=some (ps[c.toNat]'(by omega)):=List.getElem?_eq_getElem _
 have e2:C[c.toNat]?=some C[c.toNat]:=List.getElem?_eq_getElem _
 have e3:rs[c.toNat]?=some (rs[c.toNat]'(by omega)):=List.getElem?_eq_getElem _
 refine⟨_,e1,?_⟩
 have:=r3 _ _ _ _ e1 e2 e3
 unfold nJ jR
 rw[List.getD_eq_getElem?_getD,List.getD_eq_getElem?_getD,e2,e3]
 exact this
theorem RsX.lt (hk:RgOk RR tp ta) (hr:RsX RR h ps C rs) {nx:Nat} (hf:Fr h nx):∀ q∈ps,q.1 < nx∧q.2 < nx:=fun q hq=>by
 obtain⟨i,hi⟩:=List.getElem?_of_mem hq
 obtain⟨r1,r2,r3⟩:=hr
 have hl:=(List.getElem?_eq_some_iff.1 hi).1
 have:=r3 i q _ _ hi (List.getElem?_eq_getElem (by omega)) (List.getElem?_eq_getElem (by omega))
 obtain⟨c1,h1⟩:=hk.p this
 obtain⟨c2,h2⟩:=hk.a this
 exact⟨hf.lt' h1,hf.lt' h2⟩
theorem RsX.ty (hk:RgOk RR tp ta) (hr:RsX RR h ps C rs):∀ q∈ps,(∃ c,h.get q.1=some (.cells c tp))∧∃ c,h.get q.2=some (.cells c ta):=fun q hq=>by
 obtain⟨i,hi⟩:=List.getElem?_of_mem hq
 obtain⟨r1,r2,r3⟩:=hr
 have hl:=(List.getElem?_eq_some_iff.1 hi).1
 have:=r3 i q _ _ hi (List.getElem?_eq_getElem (by omega)) (List.getElem?_eq_getElem (by omega))
 exact⟨hk.p this,hk.a this⟩
theorem RsX.keep (hk:RgOk RR tp ta) (hr:RsX RR h ps C rs) (hg:∀ q∈ps,h'.get q.1=h.get q.1∧h'.get q.2=h.get q.2):RsX RR h' ps C rs :=
 ⟨hr.1,hr.2.1,fun i p c r h1 h2 h3=>hk.keep (hr.2.2 i p c r h1 h2 h3) (hg p (List.mem_of_getElem? h1)).1 (hg p (List.mem_of_getElem? h1)).2⟩
theorem RsX.sub (hk:RgOk RR tp ta) (hr:RsX RR h ps C rs) (hs:aU h h'):RsX RR h' ps C rs:=hr.keep hk fun q hq=>by
 obtain⟨⟨c1,h1⟩,c2,h2⟩:=hr.ty hk q hq
 rw[h1,h2,hs _ _ h1,hs _ _ h2]; exact⟨rfl,rfl⟩
theorem RsX.set (hk:RgOk RR tp ta) (hr:RsX RR h ps C rs) (hd:Dst ps) {nx:Nat} (hf:Fr h nx) {i a':Nat}{q:Nat × Nat}{r:oJ}{c:Int × Int} (hq:ps[i]?=some q) (hc:C[i]?=some c) (hn:RR h' q.1 a' c.2.toNat r.1 r.2) (hg:∀ k,k < nx→k≠q.1→k≠q.2→h'.get k=h.get k) :
  RsX RR h' (ps.set i (q.1,a')) C (rs.set i r):=by
 have hlt:=hr.lt hk hf
 have hty:=hr.ty hk
 refine⟨by rw[List.length_set]; exact hr.1,by rw[List.length_set]; exact hr.2.1,fun j p c2 r2 h1 h2 h3=>?_⟩
 by_cases hij:i=j
 ·subst hij
  have hl:=(List.getElem?_eq_some_iff.1 hq).1
  have hl2:i < rs.length:=by have:=hr.1; have:=hr.2.1; omega
  rw[List.getElem?_set_self hl] at h1
  rw[List.getElem?_set_self hl2] at h3
  rw[hc] at h2
  cases h1; cases h2; cases h3
  exact hn
 ·rw[List.getElem?_set_ne hij] at h1
  rw[List.getElem?_set_ne hij] at h3
  have hd2:=hd i j q p hq h1 hij
  have hm:=List.mem_of_getElem? h1
  have hm2:=List.mem_of_getElem? hq
  obtain⟨⟨c3,t1⟩,c4,t2⟩:=hty p hm
  obtain⟨⟨c5,t3⟩,c6,t4⟩:=hty q hm2
  have n1:p.1≠q.2:=fun e=>by rw[e,t4] at t1; simp only[Option.some.injEq,Obj.cells.injEq] at t1; exact hk.ne t1.2.1.symm
  have n2:p.2≠q.1:=fun e=>by rw[e,t3] at t2; simp only[Option.some.injEq,Obj.cells.injEq] at t2; exact hk.ne t2.2.1
  exact hk.keep (hr.2.2 j p c2 r2 h1 h2 h3) (hg _ (hlt p hm).1 (Ne.symm hd2.1) n1) (hg _ (hlt p hm).2 n2 (Ne.symm hd2.2))
theorem Dst.set (hd:Dst ps) {i a':Nat}{q:Nat × Nat} (hq:ps[i]?=some q) (ha:a'=q.2∨∀ p∈ps,p.2 < a'):Dst (ps.set i (q.1,a')):=by
 intro j k p p2 h1 h2 hjk
 have hl:=(List.getElem?_eq_some_iff.1 hq).1
 by_cases hj:i=j
 ·subst hj
  rw[List.getElem?_set_self hl] at h1
  cases h1
  rw[List.getElem?_set_ne hjk] at h2
  have h3:=hd i k q p2 hq h2 hjk
  refine⟨h3.1,?_⟩
  rcases ha with rfl | ha
  ·exact h3.2
  ·have:=ha p2 (List.mem_of_getElem? h2); show a'≠p2.2; omega
 ·rw[List.getElem?_set_ne hj] at h1
  by_cases hk:i=k
  ·subst hk
   rw[List.getElem?_set_self hl] at h2
   cases h2
   have h3:=hd j i p q h1 hq hjk
   refine⟨h3.1,?_⟩
   rcases ha with rfl | ha
   ·exact h3.2
   ·have:=ha p (List.mem_of_getElem? h1); show p.2≠a'; omega
  ·rw[List.getElem?_set_ne hk] at h2
   exact hd j k p p2 h1 h2 hjk
theorem aMW {i:Nat}{q:Nat × Nat} (hq:ps[i]?=some q):ps.set i (q.1,q.2)=ps:=by
 apply List.ext_getElem?
 intro j
 by_cases hj:i=j
 ·subst hj
  rw[List.getElem?_set_self (List.getElem?_eq_some_iff.1 hq).1,hq]
 ·rw[List.getElem?_set_ne hj]
theorem aPu {i a':Nat}{q:Nat × Nat} (hq:ps[i]?=some q):pA (ps.set i (q.1,a'))=pA ps:=by
 unfold pA
 apply List.ext_getElem?
 intro j
 rw[List.getElem?_map,List.getElem?_map]
 by_cases hj:i=j
 ·subst hj
  rw[List.getElem?_set_self (List.getElem?_eq_some_iff.1 hq).1,hq]; rfl
 ·rw[List.getElem?_set_ne hj]
end
def nI (ps:List (Nat × Nat)):List Nat:=ps.flatMap fun q=>[q.1,q.2]
theorem kC {ps:List (Nat × Nat)}{k:Nat}:k∈nI ps ↔ ∃ q∈ps,k=q.1∨k=q.2:=by simp[nI]
def MX (RR:RgP) (ty:TypeId) (ro:Ro) (h:T Obj) (X:List Nat) (p:Nat) (ps:List (Nat × Nat)) (d:AutoD) (m:MacD):Prop:=∃ cv sv rv,h.get p=some (.cells (eM d.c d.many cv sv m.cur rv m.steps).toArray ty)∧qF ro (del h X) (eK d.c d.many cv sv) d ∧
 Sl ro (del h X) rv 1 (pA ps)∧RsX RR h ps d.counts m.rs∧Dst ps∧p∈X∧∀ k∈nI ps,k∈X
abbrev MI:=MX RI cG
abbrev MW:=MX WJ jP
theorem aQo {h h':T Obj}{X:List Nat} (hs:aU (del h X) h'):aU (del h X) (del h' X):=fun k o hk=>by
 have h1:=hk
 rw[jH] at h1
 split at h1
 ·cases h1
 ·rename_i hn; exact mD (hs k o hk) hn
theorem aT4 {h h':T Obj}{X X':List Nat} (hs:aU (del h X) h') (hx:∀ k∈X',k∈X∨h.get k=none):aU (del h X) (del h' X'):=fun k o hk=>by
 have h1:=hk
 rw[jH] at h1
 split at h1
 ·cases h1
 ·rename_i hn
  refine mD (hs k o hk) fun hm=>?_
  rcases hx k hm with h2 | h2
  ·exact hn h2
  ·rw[h2] at h1; cases h1
section
variable {RR:RgP}{tp ta ty:TypeId}{ro:Ro}{h h':T Obj}{X X':List Nat}{p:Nat}{ps:List (Nat × Nat)}{d:AutoD}{m:MacD}
theorem qF.sub {x:List Value} (hd:qF ro h x d) (hs:aU h h'):qF ro h' x d:=by
 obtain⟨cv,sv,h1,h2,h3,h4,h5,h6⟩:=hd
 exact⟨cv,sv,h1,h2,h3,h4.sub hs fun _ _ h=>h,h5.sub hs (eR.sub hs),h6⟩
theorem MX.keep {ids:List Nat} (hk:RgOk RR tp ta) (hm:MX RR ty ro h X p ps d m) (hs:eI ids h h') (h1:∀ k∈ids,k∈X) (h2:∀ k∈ids,k≠p∧k ∉ nI ps) (h3:∀ k∈X',k∈X∨h.get k=none) (h4:∀ k∈X,k∈X'):MX RR ty ro h' X' p ps d m:=by
 obtain⟨cv,sv,rv,g1,g2,g3,g4,g5,g6,g7⟩:=hm
 have hD:=hs.del h1 h3
 refine⟨cv,sv,rv,hs p _ g1 fun hp=>(h2 p hp).1 rfl,g2.sub hD,g3.sub hD,g4.keep hk fun q hq=>?_,g5,h4 p g6,fun k hk=>h4 k (g7 k hk)⟩
 obtain⟨⟨c1,t1⟩,c2,t2⟩:=g4.ty hk q hq
 rw[t1,t2,hs _ _ t1 fun hm=>(h2 _ hm).2 (kC.2 ⟨q,hq,.inl rfl⟩),hs _ _ t2 fun hm=>(h2 _ hm).2 (kC.2 ⟨q,hq,.inr rfl⟩)]
 exact⟨rfl,rfl⟩
theorem MX.sub (hk:RgOk RR tp ta) (hm:MX RR ty ro h X p ps d m) (hs:aU h h') (h3:∀ k∈X',k∈X∨h.get k=none) (h4:∀ k∈X,k∈X'):MX RR ty ro h' X' p ps d m:=hm.keep (ids:=[]) hk hs.keepL (fun k hk=>by cases hk) (fun k hk=>by cases hk) h3 h4
theorem MX.subX (hk:RgOk RR tp ta) (hm:MX RR ty ro h X p ps d m) (hs:aU h h'):MX RR ty ro h' X p ps d m:=hm.sub hk hs (fun k hk=>.inl hk) fun k hk=>hk
theorem MX.lt (hk:RgOk RR tp ta) (hm:MX RR ty ro h X p ps d m) {nx:Nat} (hf:Fr h nx):p < nx∧∀ k∈nI ps,k < nx:=by
 obtain⟨cv,sv,rv,g1,g2,g3,g4,g5,g6,g7⟩:=hm
 refine⟨hf.lt' g1,fun k hk2=>?_⟩
 obtain⟨q,hq,h1⟩:=kC.1 hk2
 have:=g4.lt hk hf q hq
 omega
end
end V
end Go.Proofs.YtjndkdmkecpllaaGreat
namespace Go.Proofs.YtjndkdmkecpllaaGreat
namespace V
attribute [local irreducible] aA bF aV dL eJ iM dE
theorem qF.parts {ro:Ro}{h:T Obj}{d:AutoD}{cv sv:Value} (hd:qF ro h (eK d.c d.many cv sv) d):d.c.length=256∧(∀ x∈d.c,x < 256)∧gD ro h cv 2 aCV d.counts∧gD ro h sv 4 (eR ro h) d.states:=by
 obtain⟨cv',sv',h1,h2,h3,h4,h5,h6⟩:=hd
 unfold eK at h1
 have:=List.append_cancel_left h1
 simp only[List.cons.injEq,and_true] at this
 obtain⟨rfl,rfl⟩:=this
 exact⟨h2,h3,h4,h5⟩
theorem Sl.ixI {ro:Ro}{h:T Obj}{v:Value}{z:Nat}{l:List (List Value)} (hl:Sl ro h v z l) (k:IntKind) {i:Int} (h0:0≤i) (hi:i < l.length):cD z v (.int k i)=some (fH z v i.toNat):=by
 have:=hl.ix k (i:=i.toNat) (by omega)
 rwa [Int.toNat_of_nonneg h0] at this
theorem gD.sl' {D:Type}{ro:Ro}{h:T Obj}{v:Value}{z:Nat}{R:List Value→D→Prop}{l:List D} (hl:gD ro h v z R l) {i:Nat} (hi:i < l.length) (n w:Nat) (k:IntKind) {j:Int} (h0:0≤j) (h1:j < n):ixArr n w (fH z v i) (.int k j)=some (fP z v i (j.toNat*w)):=by
 obtain⟨cs,g1,g2,g3⟩:=hl
 exact g1.ixArr (by omega) n w k h0 h1
theorem aD6 {ps:List (Nat × Nat)}{i:Nat}{q:Nat × Nat} (hq:ps[i]?=some q):(pA ps)[i]?=some [ptr q.1]:=by simp[pA,hq]
theorem aFa {C:List (Int × Int)}{c:Int} (h0:0≤c) (h1:c < C.length):C[c.toNat]'(by omega)=nJ C c:=by
 unfold nJ
 rw[List.getD_eq_getElem?_getD,List.getElem?_eq_getElem (by omega)]; rfl
section
variable {ro:Ro}{h:T Obj}{nx:Nat}{X:List Nat}{p:Nat}{ps:List (Nat × Nat)}{d:AutoD}{m:MacD}{K:KV}
theorem aDG (hm:MI ro h X p ps d m) (hK:∀ nx',nx≤nx'→K (.int .i64 m.cur) h nx'):aN Tryz.prog ro j7 [ptr p] h nx K:=by
 obtain⟨cv,sv,rv,gp,hA,_⟩:=hm
 have m9:=aEQ (n:=d.many) (cv:=cv) (sv:=sv) (cur:=m.cur) (rv:=rv) (steps:=m.steps) hA.parts.1
 apply aAN
 unfold uI
 (have zy:=And.intro @pX (And.intro @bJ (And.intro gp m9));repeat refine zzCz ?_)
 exact⟨h,aU.refl _,hK _ (by omega)⟩
set_option maxRecDepth 8000 in
theorem aJX {c:Int} (hm:MI ro h X p ps d m) (hc0:0≤c) (hc:c < d.counts.length) (hK:∀ nx',nx≤nx'→K (.int .i64 (aEB d.counts m.rs c:Nat)) h nx'):aN Tryz.prog ro nO [ptr p,.int .i64 c] h nx K:=by
 obtain⟨cv,sv,rv,gp,hA,hP,hR,hD,hpX,hbX⟩:=hm
 obtain⟨hcl,hclt,hcv,hsv⟩:=hA.parts
 have hP:=hP.sub (j3 h X)
 have hcv:=hcv.sub (j3 h X) fun _ _ h=>h
 have m0:=yN (n:=d.many) (cv:=cv) (sv:=sv) (cur:=m.cur) (rv:=rv) (steps:=m.steps) hcl
 have m7:=aP5 (n:=d.many) (cv:=cv) (sv:=sv) (cur:=m.cur) (rv:=rv) (steps:=m.steps) hcl
 obtain⟨q,hq,hri⟩:=hR.at hc0 hc
 have hi:c.toNat < d.counts.length:=by omega
 have hpi:=hP.ixI .i64 hc0 (by rw[rL,hR.1]; exact hc)
 have hp1:=hP.load1 (aD6 hq)
 have hci:=hcv.ixI .i64 hc0 hc
 obtain⟨x,hx1,hx2,hx3,hx4,hx5⟩:=hcv.at hi
 rw[aFa hc0 hc] at hx1
 have ha0:V.ixArr 2 1 (fH 2 cv c.toNat) (.int .i64 0)=some (fP 2 cv c.toNat 0):=hcv.sl' hi 2 1 .i64 (j:=0) (by omega) (by omega)
 have ha1:V.ixArr 2 1 (fH 2 cv c.toNat) (.int .i64 1)=some (fP 2 cv c.toNat 1):=hcv.sl' hi 2 1 .i64 (j:=1) (by omega) (by omega)
 obtain rfl:x=[.int .i64 (nJ d.counts c).1,.int .i64 (nJ d.counts c).2]:=hx1
 have hl0:=hx5 0 _ rfl
 have hl1:=hx5 1 _ rfl
 have hL:=nE.L hri
 apply aAO
 unfold uJ
 unfold aEB at hK
 generalize (nJ d.counts c)=ct at hri hl0 hl1 hL hK
 generalize (jR m.rs c)=r at hri hL hK
 (have zy:=And.intro @bJ (And.intro gp (And.intro m0 (And.intro hpi hp1)));repeat refine zzCz ?_)
 refine aN5 hri fun n1 hn1=>?_
 refine aB (aV4 _) (aB (aV5 _) ?_)
 (have zy:=And.intro @bJ (And.intro gp (And.intro m0 (And.intro hpi hp1)));repeat refine zzCz ?_)
 refine aN4 hri fun n2 hn2=>?_
 refine aB (aV0 _) (aB (aV1 _) ?_)
 have hend:∀ (k:Nat) n,nx≤n→(if r.1.length=0 then 0 else if ((r.1.getD 0 0:Nat):Int) < ct.1 then 0 else if ((r.1.getD (r.1.length - 1) 0:Nat):Int) < ct.2 then 2 else 1)=k→∃ h',aU h' h∧K (.int .i64 (k:Int)) h' n:=fun k n hn e=>by
  subst e; exact⟨h,aU.refl _,hK _ hn⟩
 by_cases h0:r.1.length=0
 ·rw[decide_eq_true h0]
  (repeat refine zzC ?_)
  exact hend 0 _ (by omega) (by rw[if_pos h0])
 ·rw[decide_eq_false h0]
  have e1:aTa r.1=r.1.getD 0 0:=by unfold aTa; rw[if_neg h0]
  have e2:low r.1=r.1.getD (r.1.length - 1) 0:=by unfold low; rw[if_neg h0]
  rw[e1,e2]
  simp only[if_neg h0] at hend
  (have zy:=And.intro @bJ (And.intro gp (And.intro m7 (And.intro hci (And.intro ha0 hl0))));repeat refine zzCz ?_)
  refine cM (fun h1=>?_) (fun h1=>?_)
  ·(repeat refine zzC ?_)
   exact hend 0 _ (by omega) (by rw[if_pos h1])
  ·simp only[if_neg (show ¬ ((r.1.getD 0 0:Nat):Int) < ct.1 by omega)] at hend
   (have zy:=And.intro @bJ (And.intro gp (And.intro m7 (And.intro hci (And.intro ha1 hl1))));repeat refine zzCz ?_)
   refine cM (fun h2=>?_) (fun h2=>?_)
   ·(repeat refine zzC ?_)
    exact hend 2 _ (by omega) (by rw[if_pos h2])
   ·(repeat refine zzC ?_)
    exact hend 1 _ (by omega) (by rw[if_neg (by omega)])
set_option maxRecDepth 8000 in
theorem aEu {lv rv' uv nv:Value}{R:List Int} (hm:MI ro h X p ps d m) (hf:Fr h nx) (hR3:R.length≤3) (hRl:∀ c∈R,0≤c∧c < d.counts.length) (hr:ZI ro h rv' R) (hK:∀ nx',nx≤nx'→K (.int .i64 (gT d.counts m.rs R:Nat)) h nx'):aN Tryz.prog ro kR [ptr p,.agg #[lv,rv',uv,nv]] h nx K:=by
 apply aA9
 unfold wF
 refine fV hf (Nat.le_refl _) fun h1 hs1 hf1 g1 _=>?_
 have g1:h1.get nx=some (.cells #[lv,rv',uv,nv] aR):=g1
 have hr:=hr.sub hs1
 have hrl:=hr.len
 have hm1:=hm.subX nE hs1
 have htot:gT d.counts m.rs R≤26:=by
  have h9:=aEn (C:=d.counts) (rs:=m.rs) hR3
  have h10:=aGD (R.length:Int)
  omega
 (have zy:=And.intro g1 hrl;repeat refine zzCz ?_)
 generalize hT:gT d.counts m.rs R=tot at hK htot
 refine bD (fun j e h' nx'=>∃ (k n w:Nat),k+j=R.length∧nx≤nx'∧h'=h1∧e 0=ptr p∧e 5=.int .i64 (n:Int)∧e 6=.int .i64 (w:Int)∧e 10=rv'∧e 11=.int .i64 R.length∧e 12=.int .i64 k∧n+w*gT d.counts m.rs (R.drop k)=tot∧(k=0∧w=1∨k=1∧w=3∨k=2∧w=9∨k=3∧w=27)) ?_ (n:=R.length) ⟨0,0,1,by omega,by omega,rfl,rfl,rfl,rfl,rfl,rfl,rfl,by rw[List.drop_zero,hT]; omega,by omega⟩
 rintro j e h' nx' ⟨k,n,w,hj,hnx,rfl,e0,e5,e6,e10,e11,e12,ht,hw⟩ Q' hq hx
 unfold sL
 rw[e0,e5,e6,e10,e11,e12]
 refine cM (fun hk=>?_) (fun hk=>?_)
 ·have hk:k < R.length:=by omega
  rw[cP hk] at ht
  have hcm:=hRl _ (List.getElem_mem hk)
  (repeat refine zzC ?_)
  refine aB (hr.ix _ hk) (aB (hr.load hk) ?_)
  generalize R[k]=c at ht hcm
  refine aJX hm1 hcm.1 hcm.2 fun n2 hn2=>?_
  change n+w*(aEB d.counts m.rs c+3*gT d.counts m.rs (R.drop (k+1)))=tot at ht
  have hdl:=aOC d.counts m.rs c
  generalize aEB d.counts m.rs c=g at ht hdl
  have hw27:w≤27:=by omega
  have hwg:w*g≤54:=Nat.mul_le_mul hw27 (show g≤2 by omega)
  have hmul:aP .mul (.int .i64 (w:Int)) (.int .i64 (g:Int))=some (.int .i64 ((w*g:Nat):Int)):=by
   rw[d5,← Int.natCast_mul,fG (by omega) (by omega)]
  rw[Nat.mul_add,← Nat.mul_assoc] at ht
  have hadd:aP .add (.int .i64 (n:Int)) (.int .i64 ((w*g:Nat):Int))=some (.int .i64 ((n+w*g:Nat):Int)):=by
   rw[dW,← Int.natCast_add,fG (by omega) (by omega)]
  have hmul3:aP .mul (.int .i64 (w:Int)) (.int .i64 3)=some (.int .i64 ((w*3:Nat):Int)):=by
   rw[d5,fG (by omega) (by omega)]; simp
  refine aB hmul (aB hadd (aB hmul3 ?_))
  (repeat refine zzC ?_)
  exact hq (j - 1) _ _ _ _ (by omega) ⟨k+1,n+w*g,w*3,by omega,by omega,rfl,e0,rfl,rfl,e10,e11,rfl,by omega,by omega⟩ (aU.refl _)
 ·(repeat refine zzC ?_)
  refine hx _ _ _ _ (fun e=>by cases e) (d3 (cU ?_))
  unfold nK
  rw[eO (by omega)] at ht
  have ht:n+w*0=tot:=ht
  have f5:∀ (e':dF) n',e' 5=.int .i64 (n:Int)→nx≤n'→∃ h2,aU h2 h'∧K (e' 5) h2 n':=fun e' n' h5 hn=>by
   rw[h5]
   exact⟨h,hs1,ki hK (by omega) hn⟩
  exact f5 _ _ e5 (by omega)
set_option maxRecDepth 8000 in
theorem aEs (hm:MI ro h X p ps d m) (ha:gU d=true) (ho:MOk d m) (hf:Fr h nx) (hK:∀ nx',nx≤nx'→K (.int .i64 (vT d m)) h nx'):aN Tryz.prog ro kQ [ptr p] h nx K:=by
 apply aA7
 unfold wD
 refine aDG hm fun n1 hn1=>?_
 unfold vT at hK
 by_cases hc:m.cur=-1
 ·rw[if_pos hc] at hK
  refine aOF hc ?_
  (repeat refine zzC ?_)
  exact⟨h,aU.refl _,hK _ (by omega)⟩
 ·rw[if_neg hc] at hK
  have hst:=aMZ ha ho hc
  obtain⟨cv,sv,rv,gp,hA,hP,hR,hD,hpX,hbX⟩:=id hm
  obtain⟨hcl,hclt,hcv,hsv⟩:=hA.parts
  have hsv:=hsv.sub (j3 h X) (eR.sub (j3 h X))
  have m8:=aEP (n:=d.many) (cv:=cv) (sv:=sv) (cur:=m.cur) (rv:=rv) (steps:=m.steps) hcl
  have m9:=aEQ (n:=d.many) (cv:=cv) (sv:=sv) (cur:=m.cur) (rv:=rv) (steps:=m.steps) hcl
  have hcur:0≤m.cur∧m.cur < d.states.length:=by rcases ho.1 with h | h<;>omega
  have hi:m.cur.toNat < d.states.length:=by omega
  have hs:d.states[m.cur.toNat]=gQ d m:=by unfold gQ; rw[List.getD_eq_getElem?_getD,List.getElem?_eq_getElem hi]; rfl
  have hsi:=hsv.ixI .i64 hcur.1 hcur.2
  obtain⟨x,⟨lv,rv',uv,nv,rfl,y1,y2,y3,y4,y5⟩,hx2,hx3,hx4,hx5⟩:=hsv.at hi
  rw[hs] at y1 y2 y3 y4 y5
  generalize gQ d m=s at hst y1 y2 y3 y4 y5 hK
  refine aKn hc ?_
  (have zy:=And.intro @bJ (And.intro gp (And.intro m8 (And.intro m9 (And.intro hsi hx3))));repeat refine zzCz ?_)
  refine gP (x:=[lv,rv',uv,nv]) oI rfl rfl rfl (by simp[y1.ok,y2.ok,y3.ok,gD.okC y4]) hf (by omega) fun h2 hs2 hf2 g2 _=>?_
  (have zy:=g2;repeat refine zzCz ?_)
  refine aEu (hm.subX nE hs2) (hf2.mono (by omega)) hst.r3 hst.rl (y2.sub hs2) fun n3 hn3=>?_
  refine⟨qA g2 g2,?_⟩
  have hkr:=hst.kr
  have y3:=y3.sub hs2
  refine aB (y3.ix _ hkr) (aB (y3.load hkr) ?_)
  refine⟨h,hs2,?_⟩
  rw[List.getD_eq_getElem?_getD,List.getElem?_eq_getElem hkr] at hK
  exact hK _ (by omega)
end
end V
end Go.Proofs.YtjndkdmkecpllaaGreat
namespace Go.Proofs.YtjndkdmkecpllaaGreat
namespace V
attribute [local irreducible] aA bF aV dL eJ iM dE
theorem t7.trans {a b c:T Obj}{p q:Nat} (h1:t7 a b p q) (h2:t7 b c p q):t7 a c p q:=fun k k1 k2=>by rw[h2 k k1 k2,h1 k k1 k2]
theorem t7.get {h h':T Obj}{p a n w k:Nat}{L:List Nat}{c:Array Value}{e:TypeId} (ho:t7 h h' p a) (hR:RI h p a n L w) (hg:h.get k=some (.cells c e)) (h1:e≠cO) (h2:e≠cI):h'.get k=some (.cells c e):=by
 obtain⟨c1,t1⟩:=nE.p hR
 obtain⟨c2,t2⟩:=nE.a hR
 rw[ho k (kY hg t1 h1) (kY hg t2 h2)]; exact hg
theorem t7.frR {h h':T Obj}{p a n w nx:Nat}{L:List Nat} (ho:t7 h h' p a) (hR:RI h p a n L w) (hf:Fr h nx):Fr h' nx:=fun k hk=>by
 obtain⟨c1,t1⟩:=nE.p hR
 obtain⟨c2,t2⟩:=nE.a hR
 have:=hf.lt' t1
 have:=hf.lt' t2
 rw[ho k (by omega) (by omega)]; exact hf k hk
theorem aHg {ro:Ro}{h:T Obj}{p a n w o nx:Nat}{L:List Nat}{K:KV} (hR:RI h p a n L w) (ho:1≤o∧o≤3) (hw:w+2≤1000000) (hK:∀ h' nx',nx≤nx'→RI h' p a n (aCi n o (L,w)).1 (aCi n o (L,w)).2→t7 h h' p a→K (.tuple #[]) h' nx'):aN Tryz.prog ro xH [ptr p,.int .u8 (o:Int)] h nx K:=by
 apply aGM
 unfold aEt
 unfold aCi at hK
 refine i4 (fun h3=>?_) (fun h3=>?_)
 ·rw[if_pos (by omega)] at hK
  (repeat refine zzC ?_)
  refine zY hR (by omega) fun h1 n1 hn1 hR1 ho1=>?_
  refine aHK hR1 (by omega) fun h2 n2 hn2 hR2 ho2=>?_
  exact⟨_,aU.refl _,hK _ _ (by omega) hR2 (ho1.trans ho2)⟩
 ·rw[if_neg (by omega)] at hK
  (repeat refine zzC ?_)
  refine i4 (fun h2=>?_) (fun h2=>?_)
  ·rw[if_pos (by omega)] at hK
   (repeat refine zzC ?_)
   refine aHJ hR (by omega) fun h1 n1 hn1 hR1 ho1=>?_
   refine aHK hR1 (by omega) fun h2 n2 hn2 hR2 ho2=>?_
   exact⟨_,aU.refl _,hK _ _ (by omega) hR2 (ho1.trans ho2)⟩
  ·rw[if_neg (by omega)] at hK
   (repeat refine zzC ?_)
   refine aHJ hR (by omega) fun h1 n1 hn1 hR1 ho1=>?_
   exact⟨_,aU.refl _,hK _ _ (by omega) hR1 ho1⟩
def SIn (D hs:T Obj) (p sb mb:Nat) (pc sc mc:List Value) (ps:List (Nat × Nat)) (C:List (Int × Int)) (h:T Obj) (nx:Nat) (rs:List oJ):Prop :=
 h.get p=some (.cells pc.toArray cG)∧h.get sb=some (.cells sc.toArray aR)∧h.get mb=some (.cells mc.toArray bK)∧aU D h∧RsX RI h ps C rs∧eI (p::nI ps) hs h∧Fr h nx
theorem t7.subD {h0 h h':T Obj}{p a:Nat}{X:List Nat} (ho:t7 h h' p a) (hp:p∈X) (ha:a∈X) (hs:aU (del h0 X) h):aU (del h0 X) h':=fun k o hk=>by
 have h1:=hk
 rw[jH] at h1
 split at h1
 ·cases h1
 ·rename_i hn
  rw[ho k (fun e=>hn (by rw[e]; exact hp)) (fun e=>hn (by rw[e]; exact ha))]
  exact hs k o hk
section
variable {ro:Ro}{h0 hs h h':T Obj}{X:List Nat}{p sb mb nx:Nat}{pc sc mc:List Value}{ps:List (Nat × Nat)}{C:List (Int × Int)}{rs:List oJ}{K:KV}
theorem SIn.mono {n':Nat} (hi:SIn (del h0 X) hs p sb mb pc sc mc ps C h nx rs) (hn:nx≤n'):SIn (del h0 X) hs p sb mb pc sc mc ps C h n' rs:=by
 obtain⟨g1,g2,g3,g4,g5,g6,g7⟩:=hi
 exact⟨g1,g2,g3,g4,g5,g6,g7.mono hn⟩
theorem SIn.ring {i n':Nat}{q:Nat × Nat}{c:Int × Int}{L:List Nat}{w n:Nat}{r:oJ} (hi:SIn (del h0 X) hs p sb mb pc sc mc ps C h nx rs) (hd:Dst ps) (hX:∀ k∈nI ps,k∈X) (hq:ps[i]?=some q) (hc:C[i]?=some c) (hR:RI h q.1 q.2 n L w) (hR':RI h' q.1 q.2 c.2.toNat r.1 r.2) (ho:t7 h h' q.1 q.2) (hn:nx≤n') :
  SIn (del h0 X) hs p sb mb pc sc mc ps C h' n' (rs.set i r):=by
 obtain⟨g1,g2,g3,g4,g5,g6,g7⟩:=hi
 have hm:=List.mem_of_getElem? hq
 have m1:q.1∈nI ps:=kC.2 ⟨q,hm,.inl rfl⟩
 have m2:q.2∈nI ps:=kC.2 ⟨q,hm,.inr rfl⟩
 have hr:=g5.set nE hd g7 hq hc hR' fun k _ k1 k2=>ho k k1 k2
 rw[aMW hq] at hr
 refine⟨ho.get hR g1 (by decide) (by decide),ho.get hR g2 (by decide) (by decide),ho.get hR g3 (by decide) (by decide),ho.subD (hX _ m1) (hX _ m2) g4,hr,fun k o hk hn=>?_,(ho.frR hR g7).mono hn⟩
 rw[ho k (fun e=>hn (List.mem_cons_of_mem _ (by rw[e]; exact m1))) (fun e=>hn (List.mem_cons_of_mem _ (by rw[e]; exact m2)))]
 exact g6 k o hk hn
variable {cc:List Nat}{many cur:Int}{cv sv rv:Value}{steps:Nat}{to:Int}{ov nxv:Value}{ops:List Nat}{R:List Int}
set_option maxRecDepth 8000 in
theorem aQR {e:dF}{B:Nat} (hcl:cc.length=256) (e0:e 0=ptr p) (e6:e 6=ptr mb) (e7:e 7=nxv) (hi:SIn (del h0 X) hs p sb mb (eM cc many cv sv cur rv steps) sc [.int .i64 to,ov] ps C h nx rs) (hd:Dst ps) (hX:∀ k∈nI ps,k∈X) (hP:Sl ro (del h0 X) rv 1 (pA ps))
  (hR:ZI ro (del h0 X) nxv R) (ho:gD ro (del h0 X) ov 1 RU8 ops) (hl:ops.length=R.length) (hor:∀ o∈ops,1≤o∧o≤3) (hRl:∀ c∈R,0≤c∧c < C.length) (hR3:R.length≤3) (hB:WLe B rs) (hB2:B+8≤1000000)
  (fin:∀ h' n',nx≤n'→SIn (del h0 X) hs p sb mb (eM cc many cv sv cur rv steps) sc [.int .i64 to,ov] ps C h' n' (o9 C R ops rs)→K (.bool (!decide (to=-1))) h' n'):iI ro K e h nx:=by
 unfold iI
 rw[e7]
 refine aB hR.len ?_
 have m0:=yN (n:=many) (cv:=cv) (sv:=sv) (cur:=cur) (rv:=rv) (steps:=steps) hcl
 generalize hF:o9 C R ops rs=fin0 at fin
 refine bD (fun j e h' nx'=>∃ (k:Nat) (rs':List oJ),k+j=R.length∧nx≤nx'∧e 0=ptr p∧e 6=ptr mb∧e 7=nxv∧e 92=nxv∧e 93=.int .i64 R.length∧e 94=.int .i64 k ∧
  SIn (del h0 X) hs p sb mb (eM cc many cv sv cur rv steps) sc [.int .i64 to,ov] ps C h' nx' rs'∧WLe (B+2*k) rs'∧o9 C (R.drop k) (ops.drop k) rs'=fin0) ?_ (n:=R.length) ⟨0,rs,by omega,by omega,e0,e6,e7,rfl,rfl,rfl,hi.mono (by omega),hB.mono (by omega),hF⟩
 rintro j e h' nx' ⟨k,rs',hj,hnx,e0,e6,e7,e92,e93,e94,hi,hw,hF⟩ Q' hq hx
 obtain⟨g1,g2,g3,g4,g5,g6,g7⟩:=id hi
 unfold sJ
 rw[e0,e6,e92,e93,e94]
 refine cM (fun hk=>?_) (fun hk=>?_)
 ·have hk:k < R.length:=by omega
  have hko:k < ops.length:=by omega
  rw[cP hk,cP hko] at hF
  have hcm:=hRl _ (List.getElem_mem hk)
  have hom:=hor _ (List.getElem_mem hko)
  have hR':=hR.sub g4
  have hP':=hP.sub g4
  have ho':=ho.sub g4 fun _ _ h=>h
  have rix:=hR'.ix .i64 hk
  have rld:=hR'.load hk
  have oix:=ho'.ix .i64 hko
  obtain⟨w,⟨ow,olt⟩,o1⟩:=ho'.at1 hko
  simp only[List.cons.injEq,and_true] at ow
  subst ow
  generalize R[k]=c at hF hcm rld
  generalize ops[k]=o at hF hom o1 olt
  change o9 C _ _ (rs'.set c.toNat (aCi (nJ C c).2.toNat o (jR rs' c)))=fin0 at hF
  obtain⟨q,hq',hri⟩:=g5.at hcm.1 hcm.2
  have hpi:=hP'.ixI .i64 hcm.1 (by rw[rL,g5.1]; exact hcm.2)
  have hp1:=hP'.load1 (aD6 hq')
  have hwc:=hw.at c
  have hci:C[c.toNat]?=some (nJ C c):=by rw[← aFa hcm.1 hcm.2]; exact List.getElem?_eq_getElem _
  (have zy:=And.intro @bJ (And.intro rix (And.intro rld (And.intro g1 (And.intro m0 (And.intro hpi (And.intro hp1 (And.intro g3 (And.intro oix o1))))))));repeat refine zzCz ?_)
  refine aHg hri hom (by omega) fun h2 n2 hn2 hR2 ho2=>?_
  have hwo:=aS7 (nJ C c).2.toNat o (jR rs' c)
  (repeat refine zzC ?_)
  exact hq (j - 1) _ _ _ _ (by omega) ⟨k+1,_,by omega,by omega,e0,e6,e7,e92,e93,rfl,hi.ring (r:=aCi (nJ C c).2.toNat o (jR rs' c)) hd hX hq' hci hri hR2 ho2 (by omega),(hw.mono (by omega)).set (by omega),hF⟩ (aU.refl _)
 ·(repeat refine zzC ?_)
  refine hx _ _ _ _ (fun e=>by cases e) (d3 (cU ?_))
  rw[eO (by omega)] at hF
  have hF:rs'=fin0:=hF
  subst hF
  have hj3:∀ (e':dF) n',e' 6=ptr mb→nx'≤n'→j4 ro K e' h' n':=by
   intro e' n' f6 hn
   unfold j4
   rw[f6]
   (have zy:=g3;repeat refine zzCz ?_)
   refine aB (aX _ _ _) ?_
   exact⟨h',aU.refl _,fin _ _ (by omega) (hi.mono (by omega))⟩
  exact hj3 _ _ e6 (by omega)
set_option maxRecDepth 8000 in
theorem aQQ {e:dF}{B:Nat}{lv rv' uv nv:Value}{S:List Int} (hcl:cc.length=256) (e0:e 0=ptr p) (e5:e 5=ptr sb) (e6:e 6=ptr mb) (e7:e 7=nxv) (hi:SIn (del h0 X) hs p sb mb (eM cc many cv sv cur rv steps) [lv,rv',uv,nv] [.int .i64 to,ov] ps C h nx rs) (hd:Dst ps) (hX:∀ k∈nI ps,k∈X) (hP:Sl ro (del h0 X) rv 1 (pA ps))
  (hS:ZI ro (del h0 X) rv' S) (hSl:∀ c∈S,0≤c∧c < C.length) (hS3:S.length≤3)
  (hR:ZI ro (del h0 X) nxv R) (ho:gD ro (del h0 X) ov 1 RU8 ops) (hl:ops.length=R.length) (hor:∀ o∈ops,1≤o∧o≤3) (hRl:∀ c∈R,0≤c∧c < C.length) (hR3:R.length≤3) (hB:WLe B rs) (hB2:B+20≤1000000)
  (fin:∀ h' n',nx≤n'→SIn (del h0 X) hs p sb mb (eM cc many cv sv cur rv steps) [lv,rv',uv,nv] [.int .i64 to,ov] ps C h' n' (o9 C R ops (pS R S rs))→K (.bool (!decide (to=-1))) h' n'):iH ro K e h nx:=by
 unfold iH
 rw[e5]
 have g2:=hi.2.1
 have hSh:=(hS.sub hi.2.2.2.1).len
 (have zy:=And.intro g2 hSh;repeat refine zzCz ?_)
 have m0:=yN (n:=many) (cv:=cv) (sv:=sv) (cur:=cur) (rv:=rv) (steps:=steps) hcl
 generalize hF:pS R S rs=fin0 at fin
 refine bD (fun j e h' nx'=>∃ (k:Nat) (rs':List oJ),k+j=S.length∧nx≤nx'∧e 0=ptr p∧e 6=ptr mb∧e 7=nxv∧e 73=rv'∧e 74=.int .i64 S.length∧e 75=.int .i64 k ∧
  SIn (del h0 X) hs p sb mb (eM cc many cv sv cur rv steps) [lv,rv',uv,nv] [.int .i64 to,ov] ps C h' nx' rs'∧WLe (B+2*k) rs'∧pS R (S.drop k) rs'=fin0) ?_ (n:=S.length) ⟨0,rs,by omega,by omega,e0,e6,e7,rfl,rfl,rfl,hi.mono (by omega),hB.mono (by omega),hF⟩
 rintro j e h' nx' ⟨k,rs',hj,hnx,e0,e6,e7,e73,e74,e75,hi,hw,hF⟩ Q' hq hx
 obtain⟨g1,g2,g3,g4,g5,g6,g7⟩:=id hi
 unfold sK
 rw[e0,e7,e73,e74,e75]
 refine cM (fun hk=>?_) (fun hk=>?_)
 ·have hk:k < S.length:=by omega
  rw[cP hk] at hF
  have hcm:=hSl _ (List.getElem_mem hk)
  have hS':=hS.sub g4
  have hR':=hR.sub g4
  have hP':=hP.sub g4
  have six:=hS'.ix .i64 hk
  have sld:=hS'.load hk
  generalize S[k]=c at hF hcm sld
  change pS R _ (if R.contains c then rs' else rs'.set c.toNat (aJO (jR rs' c)))=fin0 at hF
  obtain⟨q,hq',hri⟩:=g5.at hcm.1 hcm.2
  have hpi:=hP'.ixI .i64 hcm.1 (by rw[rL,g5.1]; exact hcm.2)
  have hp1:=hP'.load1 (aD6 hq')
  have hwc:=hw.at c
  have hci:C[c.toNat]?=some (nJ C c):=by rw[← aFa hcm.1 hcm.2]; exact List.getElem?_eq_getElem _
  have hj4:∀ (e':dF) h2 n2 rs2,e' 0=ptr p→e' 6=ptr mb→e' 7=nxv→e' 73=rv'→e' 74=.int .i64 S.length→e' 75=.int .i64 k→nx≤n2→SIn (del h0 X) hs p sb mb (eM cc many cv sv cur rv steps) [lv,rv',uv,nv] [.int .i64 to,ov] ps C h2 n2 rs2→WLe (B+2*(k+1)) rs2→pS R (S.drop (k+1)) rs2=fin0→j5 ro Q' e' h2 n2:=by
   intro e' h2 n2 rs2 f0 f6 f7 f73 f74 f75 hn hi2 hw2 hF2
   unfold j5
   rw[f75]
   (repeat refine zzC ?_)
   exact hq (j - 1) _ _ _ _ (by omega) ⟨k+1,rs2,by omega,by omega,f0,f6,f7,f73,f74,rfl,hi2.mono (by omega),hw2,hF2⟩ (aU.refl _)
  (have zy:=And.intro six sld;repeat refine zzCz ?_)
  refine wW (by omega) hR' fun n2 hn2=>?_
  cases hcn:R.contains c with
  | true =>
   rw[hcn,if_pos rfl] at hF
   (repeat refine zzC ?_)
   exact hj4 _ _ _ rs' e0 e6 e7 e73 e74 e75 (by omega) (hi.mono (by omega)) (hw.mono (by omega)) hF
  | false =>
   rw[hcn,if_neg (by decide)] at hF
   (have zy:=And.intro @bJ (And.intro g1 (And.intro m0 (And.intro hpi hp1)));repeat refine zzCz ?_)
   refine zY hri (by omega) fun h2 n3 hn3 hR2 ho2=>?_
   exact hj4 _ _ _ _ e0 e6 e7 e73 e74 e75 (by omega) (hi.ring (r:=aJO (jR rs' c)) hd hX hq' hci hri hR2 ho2 (by omega)) ((hw.mono (by omega)).set (by show (jR rs' c).2+1≤_; omega)) hF
 ·(repeat refine zzC ?_)
  refine hx _ _ _ _ (fun e=>by cases e) (d3 (cU ?_))
  rw[eO (by omega)] at hF
  have hF:rs'=fin0:=hF
  subst hF
  have hj2:∀ (e':dF) n',e' 0=ptr p→e' 6=ptr mb→e' 7=nxv→nx'≤n'→iI ro K e' h' n':=fun e' n' f0 f6 f7 hn =>
   aQR hcl f0 f6 f7 (hi.mono hn) hd hX hP hR ho hl hor hRl hR3 hw (by omega) fun h2 n2 hn2 hi2=>fin h2 n2 (by omega) hi2
  exact hj2 _ _ e0 e6 e7 (by omega)
end
end V
end Go.Proofs.YtjndkdmkecpllaaGreat
namespace Go.Proofs.YtjndkdmkecpllaaGreat
namespace V
attribute [local irreducible] aA bF aV dL eJ iM dE
theorem aJi {d:AutoD}{R S:List Int}{m:MoveD} (ha:gU d=true) (h:kX d.states R m=true):m.ops.length=(qR d m.to).length∧(∀ o∈m.ops,1≤o∧o≤3)∧(∀ c∈qR d m.to,0≤c∧c < d.counts.length)∧(qR d m.to).length≤3:=by
 rcases aCd h with ⟨h1,h2⟩ | ⟨h1,h2,h3,h4⟩
 ·unfold qR
  rw[if_pos h1,h2]
  exact⟨rfl,(fun o ho=>by cases ho),(fun o ho=>by cases ho),by simp⟩
 ·have hne:m.to≠-1:=by omega
  unfold qR
  rw[if_neg hne]
  have hi:m.to.toNat < d.states.length:=by omega
  have hs:d.states.getD m.to.toNat noS=d.states[m.to.toNat]:=by rw[List.getD_eq_getElem?_getD,List.getElem?_eq_getElem hi]; rfl
  have hk:=aBS ((iV ha).2.2.2.2.2 _ (List.getElem_mem hi))
  rw[← hs] at hk
  exact⟨h3,aIb h4 h3,hk.2.2.2.1,hk.1⟩
theorem aQh {nx:List Int}{B:Nat}:∀ {S:List Int}{rs:List oJ},WLe B rs→WLe (B+S.length) (pS nx S rs)
 | [],rs,h=>h
 | c::r,rs,h=>by
  unfold pS
  have h1:WLe (B+1) (if nx.contains c then rs else rs.set c.toNat (aJO (jR rs c))):=by
   split
   ·exact h.mono (by omega)
   ·exact (h.mono (by omega)).set (by show (jR rs c).2+1≤_; have:=h.at c; omega)
  have:=aQh (nx:=nx) (S:=r) h1
  rw[List.length_cons]
  exact this.mono (by omega)
theorem aVF {C:List (Int × Int)}{B:Nat}:∀ {R:List Int}{os:List Nat}{rs:List oJ},WLe B rs→WLe (B+2*R.length) (o9 C R os rs)
 | [],_,rs,h=>by simpa [o9] using h
 | c::r,[],rs,h=>by
  unfold o9; exact h.mono (by omega)
 | c::r,o::os,rs,h=>by
  unfold o9
  have:=aVF (C:=C) (R:=r) (os:=os) (show WLe (B+2) (rs.set c.toNat (aCi (nJ C c).2.toNat o (jR rs c))) from (h.mono (by omega)).set (by have:=h.at c; have:=aS7 (nJ C c).2.toNat o (jR rs c); omega))
  rw[List.length_cons]
  exact this.mono (by omega)
theorem aVv {d:AutoD}{m:MacD}{b B:Nat} (ha:gU d=true) (ho:MOk d m) (hcl:d.c.length=256) (hb:b < 256) (h:WLe B m.rs):WLe (B+9) (kO d m b).rs:=by
 unfold kO
 by_cases hc:m.cur=-1
 ·rw[if_pos hc]; exact h.mono (by omega)
 ·rw[if_neg hc]
  have h1:=(aMZ ha ho hc).r3
  have h2:=aJi (S:=[]) ha (aJ9 ha ho hc hcl hb).2
  have h3:=aVF (C:=d.counts) (R:=qR d (oK d m b).to) (os:=(oK d m b).ops) (aQh (nx:=qR d (oK d m b).to) (S:=(gQ d m).r) h)
  exact h3.mono (by omega)
section
variable {ro:Ro}{h:T Obj}{nx:Nat}{X:List Nat}{p:Nat}{ps:List (Nat × Nat)}{d:AutoD}{m:MacD}{K:KV}
set_option maxRecDepth 8000 in
set_option maxHeartbeats 1000000 in
theorem aKt {b B:Nat} (hm:MI ro h X p ps d m) (ha:gU d=true) (ho:MOk d m) (hb:b < 256) (hf:Fr h nx) (hB:WLe B m.rs) (hB2:B+20≤1000000) (hst:m.steps≤1000000000)
  (hK:∀ h' nx',nx≤nx'→Fr h' nx'→eI (p::nI ps) h h'→MI ro h' X p ps d (kO d m b)→K (.bool (onM d m b)) h' nx'):aN Tryz.prog ro oQ [ptr p,.int .u8 (b:Int)] h nx K:=by
 apply aA8
 unfold wE
 refine aDG hm fun n1 hn1=>?_
 unfold onM kO at hK
 by_cases hc:m.cur=-1
 ·rw[if_pos hc,decide_eq_true hc] at hK
  refine aOF hc ?_
  (repeat refine zzC ?_)
  exact⟨h,aU.refl _,hK _ _ (by omega) (hf.mono (by omega)) (aU.refl _).keepL hm⟩
 ·rw[if_neg hc,decide_eq_false hc] at hK
  have hsf:=aMZ ha ho hc
  obtain⟨cv,sv,rv,gp,hA,hP,hR,hD,hpX,hbX⟩:=id hm
  obtain⟨hcl,hclt,hcv,hsv⟩:=hA.parts
  have hmv:=aJ9 ha ho hc hcl hb
  have hops:=aJi (S:=[]) ha hmv.2
  have hmp:=aCd hmv.2
  have hsvD:=hsv
  have hsv:=hsv.sub (j3 h X) (eR.sub (j3 h X))
  have m8:=aEP (n:=d.many) (cv:=cv) (sv:=sv) (cur:=m.cur) (rv:=rv) (steps:=m.steps) hcl
  have m9:=aEQ (n:=d.many) (cv:=cv) (sv:=sv) (cur:=m.cur) (rv:=rv) (steps:=m.steps) hcl
  have m1:=aP6 (n:=d.many) (cv:=cv) (sv:=sv) (cur:=m.cur) (rv:=rv) (steps:=m.steps) hcl
  have mb:=aTr (n:=d.many) (cv:=cv) (sv:=sv) (cur:=m.cur) (rv:=rv) (steps:=m.steps) hcl hb
  have hcur:0≤m.cur∧m.cur < d.states.length:=by rcases ho.1 with h | h<;>omega
  have hi:m.cur.toNat < d.states.length:=by omega
  have hs:d.states[m.cur.toNat]=gQ d m:=by unfold gQ; rw[List.getD_eq_getElem?_getD,List.getElem?_eq_getElem hi]; rfl
  have hsi:=hsv.ixI .i64 hcur.1 hcur.2
  obtain⟨x,⟨lv,rv',uv,nv,rfl,y1,y2,y3,y4,y5⟩,hx2,hx3,hx4,hx5⟩:=hsv.at hi
  obtain⟨xD,⟨lvD,rvD,uvD,nvD,rfl,z1,z2,z3,z4,z5⟩,w2,w3,w4,w5⟩:=hsvD.at hi
  have hsame:[lv,rv',uv,nv]=[lvD,rvD,uvD,nvD]:=by
   have:=yM (j3 h X) w3
   rw[hx3] at this
   simpa using this
  simp only[List.cons.injEq,and_true] at hsame
  obtain⟨rfl,rfl,rfl,rfl⟩:=hsame
  rw[hs] at y1 y2 y3 y4 y5 z2 z4
  refine aKn hc ?_
  (have zy:=And.intro @bJ (And.intro gp (And.intro m8 (And.intro m9 (And.intro hsi hx3))));repeat refine zzCz ?_)
  refine gP (x:=[lv,rv',uv,nv]) oI rfl rfl rfl (by simp[y1.ok,y2.ok,y3.ok,gD.okC y4]) hf (by omega) fun h2 hs2 hf2 g2 _=>?_
  (have zy:=g2;repeat refine zzCz ?_)
  have hm2:=hm.subX nE hs2
  have gp2:=hs2 _ _ gp
  refine aEu hm2 (hf2.mono (by omega)) hsf.r3 hsf.rl (y2.sub hs2) fun n3 hn3=>?_
  have hkn:=hsf.kn
  have z4':=z4.sub ((j3 h X).trans hs2) (v8.sub ((j3 h X).trans hs2))
  have nix:=z4'.ix .i64 hkn
  obtain⟨w,⟨w',hw1,hw2,hw3⟩,hw4⟩:=z4'.at1 hkn
  simp only[List.cons.injEq,and_true] at hw1
  subst hw1
  have hrow:(gQ d m).next[gT d.counts m.rs (gQ d m).r]=(gQ d m).next.getD (gT d.counts m.rs (gQ d m).r) []:=by rw[List.getD_eq_getElem?_getD,List.getElem?_eq_getElem hkn]; rfl
  rw[hrow] at hw2 hw3
  have hrowD:gD ro (del h X) w 2 (aBg ro (del h X)) ((gQ d m).next.getD (gT d.counts m.rs (gQ d m).r) []):=by
   obtain⟨u,⟨u',hu1,hu2,hu3⟩,hu4⟩:=z4.at1 hkn
   simp only[List.cons.injEq,and_true] at hu1
   subst hu1
   have:=aB6 ((j3 h X).trans hs2) hu4
   rw[hw4] at this
   cases this
   rw[hrow] at hu2
   exact hu2
  generalize hcb:d.c.getD b 0=cb at mb hmv
  have hci:cb < ((gQ d m).next.getD (gT d.counts m.rs (gQ d m).r) []).length:=hmv.1
  have hmvd:oK d m b=((gQ d m).next.getD (gT d.counts m.rs (gQ d m).r) [])[cb]:=by
   unfold oK
   rw[hcb,List.getD_eq_getElem?_getD (a:=aUA),List.getElem?_eq_getElem hci]; rfl
  refine⟨qA g2 g2,?_⟩
  have rix:=hw2.ix .u8 hci
  obtain⟨x,⟨ov,rfl,hov,hol⟩,v2,v3,v4,v5⟩:=hw2.at hci
  obtain⟨xD,⟨ovD,rfl,hovD,holD⟩,u2,u3,u4,u5⟩:=hrowD.at hci
  have hsame2:[Value.int .i64 ((gQ d m).next.getD (gT d.counts m.rs (gQ d m).r) [])[cb].to,ov]=[Value.int .i64 ((gQ d m).next.getD (gT d.counts m.rs (gQ d m).r) [])[cb].to,ovD]:=by
   have:=yM ((j3 h X).trans hs2) u3
   rw[v3] at this
   simpa using this
  simp only[List.cons.injEq,and_true,true_and] at hsame2
  subst hsame2
  rw[← hmvd] at v3 hovD hov
  refine aB nix (aB hw4 ?_)
  (have zy:=And.intro @bJ (And.intro gp2 mb);repeat refine zzCz ?_)
  refine⟨qA gp2 gp2,?_⟩
  refine aB rix (aB v3 ?_)
  generalize hMV:oK d m b=mv at hK hops hmp hovD hov
  refine gP (x:=[.int .i64 mv.to,ov]) yU rfl rfl rfl (by simp[show bV ov=true from gD.okC hov,show bV (Value.int .i64 mv.to)=true from rfl]) hf2 (by omega) fun h3 hs3 hf3 g3 _=>?_
  have gp3:=hs3 _ _ gp2
  have g23:=hs3 _ _ g2
  (have zy:=@bJ;repeat refine zzCz ?_)
  refine aB (bE gp3 m1) ?_
  (repeat refine zzC ?_)
  refine aB (bE (l:=[lv,rv',uv,nv]) g23 rfl) ?_
  refine aB y2.len ?_
  have hr3:=hsf.r3
  (have zy:=@bJ;repeat refine zzCz ?_)
  have esteps:(m.steps:Int)+(1+((gQ d m).r.length:Int))=((m.steps+1+(gQ d m).r.length:Nat):Int):=by omega
  rw[esteps]
  refine aB (cE (v:=.int .i64 ((m.steps+1+(gQ d m).r.length:Nat):Int)) gp3 (by rw[yO hcl]; omega) rfl rfl) ?_
  rw[aJ6 hcl]
  have n2lt:=hf.lt' gp
  have gp4:(h3.upd p (some (.cells (eM d.c d.many cv sv m.cur rv (m.steps+1+(gQ d m).r.length)).toArray cG))).get p=some (.cells (eM d.c d.many cv sv m.cur rv (m.steps+1+(gQ d m).r.length)).toArray cG):=T.get_upd_same _ _ _
  have ho4:∀ k,k≠p→(h3.upd p (some (.cells (eM d.c d.many cv sv m.cur rv (m.steps+1+(gQ d m).r.length)).toArray cG))).get k=h3.get k:=fun k hk=>T.get_upd_ne _ _ hk
  generalize (h3.upd p (some (.cells (eM d.c d.many cv sv m.cur rv (m.steps+1+(gQ d m).r.length)).toArray cG)))=h4 at gp4 ho4
  have g24:=(ho4 (n1+12) (by omega)).trans g23
  have g34:=(ho4 (n1+31) (by omega)).trans g3
  (repeat refine zzC ?_)
  refine aB (bE (l:=[.int .i64 mv.to,ov]) g34 rfl) ?_
  (have zy:=@bJ;repeat refine zzCz ?_)
  refine aB (cE (v:=.int .i64 mv.to) gp4 (by rw[yO hcl]; omega) rfl rfl) ?_
  rw[aDQ hcl]
  have gp5:(h4.upd p (some (.cells (eM d.c d.many cv sv mv.to rv (m.steps+1+(gQ d m).r.length)).toArray cG))).get p=some (.cells (eM d.c d.many cv sv mv.to rv (m.steps+1+(gQ d m).r.length)).toArray cG):=T.get_upd_same _ _ _
  have ho5:∀ k,k≠p→(h4.upd p (some (.cells (eM d.c d.many cv sv mv.to rv (m.steps+1+(gQ d m).r.length)).toArray cG))).get k=h3.get k:=fun k hk=>(T.get_upd_ne _ _ hk).trans (ho4 k hk)
  generalize (h4.upd p (some (.cells (eM d.c d.many cv sv mv.to rv (m.steps+1+(gQ d m).r.length)).toArray cG)))=h5 at gp5 ho5
  have g25:=(ho5 (n1+12) (by omega)).trans g23
  have g35:=(ho5 (n1+31) (by omega)).trans g3
  have hs5:aU h h3:=hs2.trans hs3
  have hD5:aU (del h X) h5:=fun k o hk=>by
   have h9:=hk
   rw[jH] at h9
   split at h9
   ·cases h9
   ·rename_i hn
    rw[ho5 k (fun e=>hn (by rw[e]; exact hpX))]
    exact hs5 _ _ h9
  have hf5:Fr h5 (n1+32):=fun k hk=>by rw[ho5 k (by omega)]; exact hf3 k (by omega)
  have hSI:SIn (del h X) h p (n1+12) (n1+31) (eM d.c d.many cv sv mv.to rv (m.steps+1+(gQ d m).r.length)) [lv,rv',uv,nv] [.int .i64 mv.to,ov] ps d.counts h5 (n1+32) m.rs:=by
   refine⟨gp5,g25,g35,hD5,hR.keep nE fun q hq=>?_,fun k o hk hn=>?_,hf5⟩
   ·obtain⟨⟨c1,t1⟩,c2,t2⟩:=hR.ty nE q hq
    rw[ho5 _ (kY t1 gp (by decide)),ho5 _ (kY t2 gp (by decide)),t1,t2,hs5 _ _ t1,hs5 _ _ t2]
    exact⟨rfl,rfl⟩
   ·rw[ho5 k fun e=>hn (by rw[e]; exact List.mem_cons_self ..)]
    exact hs5 _ _ hk
  have hfin:∀ h' n',n1+32≤n'→SIn (del h X) h p (n1+12) (n1+31) (eM d.c d.many cv sv mv.to rv (m.steps+1+(gQ d m).r.length)) [lv,rv',uv,nv] [.int .i64 mv.to,ov] ps d.counts h' n' (o9 d.counts (qR d mv.to) mv.ops (pS (qR d mv.to) (gQ d m).r m.rs))→K (.bool (!decide (mv.to=-1))) h' n':=by
   intro h' n' hn' hi'
   obtain⟨q1,q2,q3,q4,q5,q6,q7⟩:=hi'
   have hre:=aQo q4
   have:=hK h' n' (by omega) q7 q6 ⟨cv,sv,rv,q1,hA.sub hre,hP.sub hre,q5,hD,hpX,hbX⟩
   simpa using this
  have hj1:∀ (e':dF) n' nxv,e' 0=ptr p→e' 5=ptr (n1+12)→e' 6=ptr (n1+31)→e' 7=nxv→ZI ro (del h X) nxv (qR d mv.to)→n1+32≤n'→iH ro K e' h5 n':=fun e' n' nxv f0 f5 f6 f7 hz hn' =>
   aQQ hcl f0 f5 f6 f7 (hSI.mono hn') hD hbX hP z2 hsf.rl hsf.r3 hz hovD hops.1 hops.2.1 hops.2.2.1 hops.2.2.2 hB hB2 fun h' n'' hn'' hi'=>hfin h' n'' (by omega) hi'
  have m85:=aEP (n:=d.many) (cv:=cv) (sv:=sv) (cur:=mv.to) (rv:=rv) (steps:=m.steps+1+(gQ d m).r.length) hcl
  (repeat refine zzC ?_)
  refine aB (bE (l:=[.int .i64 mv.to,ov]) g35 rfl) ?_
  by_cases hto:mv.to=-1
  ·refine aRo hto ?_
   (repeat refine zzC ?_)
   refine hj1 _ _ (.slice none 0 0) rfl rfl rfl rfl ?_ (by omega)
   unfold qR
   rw[if_pos hto]
   exact Sl.nil
  ·refine aVE hto ?_
   have htr:1≤mv.to∧mv.to < d.states.length:=by rcases hmp with h | h<;>omega
   have hti:mv.to.toNat < d.states.length:=by omega
   have hsv5:=hsvD.sub hD5 (eR.sub hD5)
   have tix:=hsv5.ixI .i64 (show 0≤mv.to by omega) htr.2
   obtain⟨x,⟨lv2,rv2,uv2,nv2,rfl,a1,a2,a3,a4,a5⟩,b2,b3,b4,b5⟩:=hsvD.at hti
   have hl5:=aB6 hD5 (b5 1 rv2 rfl)
   have b4':=b4 1
   (have zy:=@bJ;repeat refine zzCz ?_)
   refine aB (bE gp5 m85) ?_
   (repeat refine zzC ?_)
   refine aB (bE (l:=[.int .i64 mv.to,ov]) g35 rfl) ?_
   refine aB tix (aB b4' (aB hl5 ?_))
   refine hj1 _ _ rv2 rfl rfl rfl rfl ?_ (by omega)
   unfold qR
   rw[if_neg hto,List.getD_eq_getElem?_getD,List.getElem?_eq_getElem hti]
   exact a2
end
end V
end Go.Proofs.YtjndkdmkecpllaaGreat
namespace Go.Proofs.YtjndkdmkecpllaaGreat
namespace V
attribute [local irreducible] aA bF aV dL eJ iM dE
def iC (s:ByteArray):List Nat:=s.data.toList.map (·.toNat)
theorem aTY (s:ByteArray):(iC s).length=s.size:=by unfold iC; rw[List.length_map]; rfl
theorem aMf {s:ByteArray}:∀ b∈iC s,b < 256:=fun b hb=>by
 unfold iC at hb
 rw[List.mem_map] at hb
 obtain⟨x,_,rfl⟩:=hb
 exact x.toNat_lt
theorem uX (s:ByteArray):uW (.string s)=some (.int .i64 (iC s).length):=by rw[aTY]; rfl
theorem aIY {s:ByteArray}{k:IntKind}{i:Nat} (hi:i < (iC s).length):aLE (.string s) (.int k (i:Int))=some (.int .u8 ((iC s)[i]:Nat)):=by
 have hn:nV (.int k (i:Int))=some i:=by simp[nV]
 have hl:i < s.data.toList.length:=by simpa [iC] using hi
 unfold aLE
 rw[hn]
 simp only[Option.bind]
 rw[List.getElem?_eq_getElem hl]
 simp[iC]
theorem aK3 (s:ByteArray) (n:Nat):iC (s.extract 0 n)=(iC s).take n:=by
 unfold iC
 rw[← List.map_take]
 congr 1
 simp
def aBr (d:AutoD):List Nat→Int→MacD→Int × Int × Bool→(Int × Int × Bool) × MacD
 | [],_,m,r=>(r,m)
 | b::bs,i,m,r=>if onM d m b=true then aBr d bs (i+1) (kO d m b) (if vT d (kO d m b)=-1 then r else (i+1,vT d (kO d m b),true)) else (r,kO d m b)
def aBs (d:AutoD) (s:List Nat) (from_:Int) (m:MacD):(Int × Int × Bool) × MacD:=if from_ < 0∨(s.length:Int) < from_ then ((0,0,false),m) else aBr d (s.drop from_.toNat) from_ (zX m) (0,0,false)
theorem zL (d:AutoD) (b:Nat) (bs:List Nat) (i:Int) (m:MacD) (r:Int × Int × Bool):aBr d (b::bs) i m r=if onM d m b=true then aBr d bs (i+1) (kO d m b) (if vT d (kO d m b)=-1 then r else (i+1,vT d (kO d m b),true)) else (r,kO d m b):=rfl
theorem aNh {d:AutoD}{m:MacD}{b:Nat} (ha:gU d=true) (ho:MOk d m):(kO d m b).steps≤m.steps+4:=by
 unfold kO
 by_cases hc:m.cur=-1
 ·rw[if_pos hc]; omega
 ·rw[if_neg hc]
  have:=(aMZ ha ho hc).r3
  show m.steps+1+_≤_
  omega
theorem aUY {B:Nat}{m:MacD} (h:WLe B m.rs):WLe (B+1) (zX m).rs:=fun r hr=>by
 obtain⟨x,hx,rfl⟩:=List.mem_map.1 hr
 have:=h x hx
 unfold rG
 split
 ·omega
 ·show x.2+1≤_; omega
def SJn (D hs:T Obj) (p:Nat) (pc:List Value) (ps:List (Nat × Nat)) (C:List (Int × Int)) (h:T Obj) (nx:Nat) (rs:List oJ):Prop :=
 h.get p=some (.cells pc.toArray cG)∧aU D h∧RsX RI h ps C rs∧eI (p::nI ps) hs h∧Fr h nx
section
variable {ro:Ro}{h0 hs h h':T Obj}{X:List Nat}{p nx:Nat}{pc:List Value}{ps:List (Nat × Nat)}{C:List (Int × Int)}{rs:List oJ}{K:KV}
theorem SJn.mono {n':Nat} (hi:SJn (del h0 X) hs p pc ps C h nx rs) (hn:nx≤n'):SJn (del h0 X) hs p pc ps C h n' rs:=by
 obtain⟨g1,g4,g5,g6,g7⟩:=hi
 exact⟨g1,g4,g5,g6,g7.mono hn⟩
theorem SJn.ring {i n':Nat}{q:Nat × Nat}{c:Int × Int}{L:List Nat}{w n:Nat}{r:oJ} (hi:SJn (del h0 X) hs p pc ps C h nx rs) (hd:Dst ps) (hX:∀ k∈nI ps,k∈X) (hq:ps[i]?=some q) (hc:C[i]?=some c) (hR:RI h q.1 q.2 n L w) (hR':RI h' q.1 q.2 c.2.toNat r.1 r.2) (ho:t7 h h' q.1 q.2) (hn:nx≤n') :
  SJn (del h0 X) hs p pc ps C h' n' (rs.set i r):=by
 obtain⟨g1,g4,g5,g6,g7⟩:=hi
 have hm:=List.mem_of_getElem? hq
 have m1:q.1∈nI ps:=kC.2 ⟨q,hm,.inl rfl⟩
 have m2:q.2∈nI ps:=kC.2 ⟨q,hm,.inr rfl⟩
 have hr:=g5.set nE hd g7 hq hc hR' fun k _ k1 k2=>ho k k1 k2
 rw[aMW hq] at hr
 refine⟨ho.get hR g1 (by decide) (by decide),ho.subD (hX _ m1) (hX _ m2) g4,hr,fun k o hk hn=>?_,(ho.frR hR g7).mono hn⟩
 rw[ho k (fun e=>hn (List.mem_cons_of_mem _ (by rw[e]; exact m1))) (fun e=>hn (List.mem_cons_of_mem _ (by rw[e]; exact m2)))]
 exact g6 k o hk hn
end
section
variable {ro:Ro}{h:T Obj}{nx:Nat}{X:List Nat}{p:Nat}{ps:List (Nat × Nat)}{d:AutoD}{m:MacD}{K:KV}
set_option maxRecDepth 8000 in
theorem aJW {B:Nat} (hm:MI ro h X p ps d m) (ho:MOk d m) (hC:d.counts.length≤512) (hf:Fr h nx) (hB:WLe B m.rs) (hB2:B+1≤1000000)
  (hK:∀ h' nx',nx≤nx'→Fr h' nx'→eI (p::nI ps) h h'→MI ro h' X p ps d (zX m)→K (.tuple #[]) h' nx'):aN Tryz.prog ro nN [ptr p] h nx K:=by
 obtain⟨cv,sv,rv,gp,hA,hP,hR,hD,hpX,hbX⟩:=id hm
 obtain⟨hcl,hclt,hcv,hsv⟩:=hA.parts
 have n2lt:=hf.lt' gp
 apply aAM
 unfold uH
 refine aB (pX _ _ _) ?_
 (have zy:=@bJ;repeat refine zzCz ?_)
 refine aB (cE (v:=.int .i64 0) gp (by rw[yO hcl]; omega) rfl rfl) ?_
 rw[aDQ hcl]
 have gp4:(h.upd p (some (.cells (eM d.c d.many cv sv 0 rv m.steps).toArray cG))).get p=some (.cells (eM d.c d.many cv sv 0 rv m.steps).toArray cG):=T.get_upd_same _ _ _
 have ho4:∀ k,k≠p→(h.upd p (some (.cells (eM d.c d.many cv sv 0 rv m.steps).toArray cG))).get k=h.get k:=fun k hk=>T.get_upd_ne _ _ hk
 generalize (h.upd p (some (.cells (eM d.c d.many cv sv 0 rv m.steps).toArray cG)))=h4 at gp4 ho4
 have m0:=yN (n:=d.many) (cv:=cv) (sv:=sv) (cur:=0) (rv:=rv) (steps:=m.steps) hcl
 have hSJ:SJn (del h X) h p (eM d.c d.many cv sv 0 rv m.steps) ps d.counts h4 nx m.rs:=by
  refine⟨gp4,fun k o hk=>?_,hR.keep nE fun q hq=>?_,fun k o hk hn=>?_,fun k hk=>by rw[ho4 k (by omega)]; exact hf k hk⟩
  ·have h9:=hk
   rw[jH] at h9
   split at h9
   ·cases h9
   ·rename_i hn
    rw[ho4 k (fun e=>hn (by rw[e]; exact hpX))]; exact h9
  ·obtain⟨⟨c1,t1⟩,c2,t2⟩:=hR.ty nE q hq
   exact⟨ho4 _ (kY t1 gp (by decide)),ho4 _ (kY t2 gp (by decide))⟩
  ·rw[ho4 k fun e=>hn (by rw[e]; exact List.mem_cons_self ..)]; exact hk
 have hPh:=hP.sub hSJ.2.1
 have hpl:=hPh.len
 rw[rL,hR.1] at hpl
 (have zy:=And.intro @bJ (And.intro gp4 (And.intro m0 hpl));repeat refine zzCz ?_)
 have hrl:=ho.2
 have hfin:∀ h' n',nx≤n'→SJn (del h X) h p (eM d.c d.many cv sv 0 rv m.steps) ps d.counts h' n' (m.rs.map rG)→K (.tuple #[]) h' n':=by
  intro h' n' hn' hi'
  obtain⟨q1,q4,q5,q6,q7⟩:=hi'
  have hre:=aQo q4
  exact hK h' n' hn' q7 q6 ⟨cv,sv,rv,q1,hA.sub hre,hP.sub hre,q5,hD,hpX,hbX⟩
 refine bD (fun j e h' nx'=>∃ (k:Nat),k+j=d.counts.length∧nx≤nx'∧e 12=rv∧e 13=.int .i64 d.counts.length∧e 14=.int .i64 k∧SJn (del h X) h p (eM d.c d.many cv sv 0 rv m.steps) ps d.counts h' nx' ((m.rs.take k).map rG++m.rs.drop k)) ?_ (n:=d.counts.length) ⟨0,by omega,by omega,rfl,rfl,rfl,hSJ.mono (by omega)⟩
 rintro j e h' nx' ⟨k,hj,hnx,e12,e13,e14,hi⟩ Q' hq hx
 obtain⟨g1,g4,g5,g6,g7⟩:=id hi
 unfold rA
 rw[e12,e13,e14]
 refine cM (fun hk=>?_) (fun hk=>?_)
 ·have hk:k < d.counts.length:=by omega
  have hkr:k < m.rs.length:=by omega
  have hP':=hP.sub g4
  obtain⟨q,hq',hri⟩:=g5.at (c:=(k:Int)) (by omega) (by omega)
  rw[Int.toNat_natCast] at hq'
  have hlen:((m.rs.take k).map rG).length=k:=by simp; omega
  have hg:jR ((m.rs.take k).map rG++m.rs.drop k) (k:Int)=m.rs[k]:=by
   unfold jR
   rw[Int.toNat_natCast,List.getD_eq_getElem?_getD,List.getElem?_append_right (by omega),hlen,Nat.sub_self,List.getElem?_drop,Nat.add_zero,List.getElem?_eq_getElem hkr]; rfl
  rw[hg] at hri
  have hset:∀ x,((m.rs.take k).map rG++m.rs.drop k).set k x=(m.rs.take k).map rG++[x]++m.rs.drop (k+1):=fun x=>by
   rw[List.set_append_right _ _ (by omega),hlen,Nat.sub_self,cP hkr,List.append_assoc]; rfl
  have htk:(m.rs.take (k+1)).map rG=(m.rs.take k).map rG++[rG m.rs[k]]:=by rw[List.take_succ_eq_append_getElem hkr,List.map_append]; rfl
  have hci:d.counts[k]?=some (nJ d.counts (k:Int)):=by
   rw[← aFa (by omega) (by omega)]
   simp only[Int.toNat_natCast]
   exact List.getElem?_eq_getElem _
  have hj1:∀ (e':dF) h2 n2,e' 12=rv→e' 13=.int .i64 d.counts.length→e' 14=.int .i64 k→nx'≤n2→SJn (del h X) h p (eM d.c d.many cv sv 0 rv m.steps) ps d.counts h2 n2 ((m.rs.take (k+1)).map rG++m.rs.drop (k+1))→jI ro Q' e' h2 n2:=by
   intro e' h2 n2 f12 f13 f14 hn hi2
   unfold jI
   rw[f14]
   (repeat refine zzC ?_)
   exact hq (j - 1) _ _ _ _ (by omega) ⟨k+1,by omega,by omega,f12,f13,rfl,hi2.mono (by omega)⟩ (aU.refl _)
  have hdk:m.rs.drop k=[m.rs[k]]++m.rs.drop (k+1):=cP hkr
  have hw:(m.rs[k]).2≤B:=hB _ (List.getElem_mem hkr)
  generalize m.rs[k]=r at hri htk hw hdk
  (repeat refine zzC ?_)
  refine aB (hP'.ix _ (by rw[rL,hR.1]; exact hk)) (aB (hP'.load1 (aD6 hq')) ?_)
  refine aCj hri fun n2 hn2=>?_
  refine jT (fun hl=>?_) (fun hl=>?_)
  ·have hx1:rG r=aJO r:=if_neg (by omega)
   rw[hx1] at htk
   (repeat refine zzC ?_)
   refine zY hri (by omega) fun h2 n3 hn3 hR2 ho2=>?_
   have:=hi.ring (r:=aJO r) (n':=n3) hD hbX hq' hci hri hR2 ho2 (by omega)
   rw[hset,← htk] at this
   exact hj1 _ _ _ e12 e13 e14 (by omega) this
  ·have hx1:rG r=r:=if_pos (by omega)
   rw[hx1] at htk
   (repeat refine zzC ?_)
   refine hj1 _ _ _ e12 e13 e14 (by omega) ?_
   have e2:(m.rs.take (k+1)).map rG++m.rs.drop (k+1)=(m.rs.take k).map rG++m.rs.drop k:=by
    rw[htk,List.append_assoc,hdk]
   rw[e2]
   exact hi.mono (by omega)
 ·(repeat refine zzC ?_)
  refine hx _ _ _ _ (fun e=>by cases e) (d3 (cU ?_))
  rw[List.take_of_length_le (by omega),List.drop_eq_nil_of_le (by omega),List.append_nil] at hi
  exact⟨h',aU.refl _,hfin _ _ (by omega) (hi.mono (by omega))⟩
set_option maxRecDepth 8000 in
theorem aGL {B:Nat}{s:ByteArray}{from_:Int} (hm:MI ro h X p ps d m) (ha:gU d=true) (ho:MOk d m) (hf:Fr h nx) (hB:WLe B m.rs) (hl:(iC s).length≤10000) (hB2:B+100000≤1000000) (hst:m.steps≤1000000)
  (hK:∀ h' nx',nx≤nx'→Fr h' nx'→eI (p::nI ps) h h'→MI ro h' X p ps d (aBs d (iC s) from_ m).2→K (.tuple #[.int .i64 (aBs d (iC s) from_ m).1.1,.int .i64 (aBs d (iC s) from_ m).1.2.1,.bool (aBs d (iC s) from_ m).1.2.2]) h' nx'):aN Tryz.prog ro lS [ptr p,.string s,.int .i64 from_] h nx K:=by
 have hC:=(iV ha).2.1
 have hcl:d.c.length=256:=by obtain⟨cv,sv,rv,gp,hA,_⟩:=id hm; exact hA.parts.1
 have hln:=uX s
 apply yH
 unfold sI
 unfold aBs at hK
 (have zy:=@pX;repeat refine zzCz ?_)
 refine cM (fun h1=>?_) (fun h1=>?_)
 ·rw[if_pos (.inl h1)] at hK
  (repeat refine zzC ?_)
  exact⟨h,aU.refl _,hK _ _ (by omega) (hf.mono (by omega)) (aU.refl _).keepL hm⟩
 ·(have zy:=hln;repeat refine zzCz ?_)
  refine jT (fun h2=>?_) (fun h2=>?_)
  ·rw[if_pos (.inr h2)] at hK
   (repeat refine zzC ?_)
   exact⟨h,aU.refl _,hK _ _ (by omega) (hf.mono (by omega)) (aU.refl _).keepL hm⟩
  ·rw[if_neg (by omega)] at hK
   (repeat refine zzC ?_)
   refine aJW hm ho hC (hf.mono (by omega)) hB (by omega) fun h3 n3 hn3 hf3 hk3 hm3=>?_
   generalize hR:aBr d ((iC s).drop from_.toNat) from_ (zX m) (0,0,false)=R at hK
   refine bD (fun j e h' nx'=>∃ (k:Nat) (m':MacD) (r:Int × Int × Bool),k+j=(iC s).length∧n3≤nx'∧from_.toNat≤k∧e 0=ptr p∧e 1=.string s∧e 6=.int .i64 r.1∧e 7=.int .i64 r.2.1∧e 8=.bool r.2.2∧e 9=.int .i64 k∧Fr h' nx'∧eI (p::nI ps) h h'∧MI ro h' X p ps d m'∧MOk d m'∧WLe (B+1+9*k) m'.rs∧m'.steps≤m.steps+4*k∧aBr d ((iC s).drop k) k m' r=R) ?_ (n:=(iC s).length - from_.toNat)
    ⟨from_.toNat,zX m,(0,0,false),by omega,by omega,by omega,rfl,rfl,rfl,rfl,rfl,by show Value.int .i64 from_=_; rw[Int.toNat_of_nonneg h1],hf3.mono (by omega),hk3,hm3,aS4 ha ho,(aUY hB).mono (by omega),by show m.steps≤_; omega,by rw[Int.toNat_of_nonneg h1]; exact hR⟩
   rintro j e h' nx' ⟨k,m',r,hj,hnx,hfk,e0,e1,e6,e7,e8,e9,hf',hk',hm',ho',hw',hs',hr⟩ Q' hq hx
   have hend:∀ (e':dF) h2 n2,e' 6=.int .i64 R.1.1→e' 7=.int .i64 R.1.2.1→e' 8=.bool R.1.2.2→nx≤n2→Fr h2 n2→eI (p::nI ps) h h2→MI ro h2 X p ps d R.2→iO ro K e' h2 n2:=by
    intro e' h2 n2 f6 f7 f8 hn hf2 hk2 hm2
    unfold iO
    rw[f6,f7,f8]
    exact⟨h2,aU.refl _,hK _ _ (by omega) (hf2.mono (by omega)) hk2 hm2⟩
   unfold pT
   rw[e0,e1,e9]
   refine aB hln ?_
   refine cM (fun hk=>?_) (fun hk=>?_)
   ·have hk:k < (iC s).length:=by omega
    have hb:=aMf _ (List.getElem_mem hk)
    rw[cP hk,zL] at hr
    (repeat refine zzC ?_)
    refine aB (aIY hk) ?_
    generalize (iC s)[k]=b at hr hb
    refine aKt hm' ha ho' hb (hf'.mono (by omega)) hw' (by omega) (by omega) fun h4 n4 hn4 hf4 hk4 hm4=>?_
    have ho4:=aUb ha ho' hcl hb
    have hw4:=aVv ha ho' hcl hb hw'
    have hs4:=aNh (b:=b) ha ho'
    cases hon:onM d m' b with
    | false =>
     rw[hon,if_neg (by decide)] at hr
     (repeat refine zzC ?_)
     refine hx _ _ _ _ (fun e=>by cases e) (d3 (cU ?_))
     subst hr
     exact hend _ _ _ e6 e7 e8 (by omega) (hf4.mono (by omega)) (hk'.trans hk4) hm4
    | true =>
     rw[hon,if_pos rfl] at hr
     have hj2:∀ (e':dF) n' (r':Int × Int × Bool),e' 0=ptr p→e' 1=.string s→e' 6=.int .i64 r'.1→e' 7=.int .i64 r'.2.1→e' 8=.bool r'.2.2→e' 9=.int .i64 k→n4≤n'→aBr d ((iC s).drop (k+1)) ((k:Int)+1) (kO d m' b) r'=R→iP ro Q' e' h4 n':=by
      intro e' n' r' f0 f1 f6 f7 f8 f9 hn' hr'
      unfold iP
      rw[f9]
      (repeat refine zzC ?_)
      exact hq (j - 1) _ _ _ _ (by omega) ⟨k+1,kO d m' b,r',by omega,by omega,by omega,f0,f1,f6,f7,f8,rfl,hf4.mono (by omega),hk'.trans hk4,hm4,ho4,hw4.mono (by omega),by omega,hr'⟩ (aU.refl _)
     (repeat refine zzC ?_)
     refine aEs hm4 ha ho4 (hf4.mono (by omega)) fun n5 hn5=>?_
     refine lN (fun hu=>?_) (fun hu=>?_)
     ·rw[if_neg hu] at hr
      (repeat refine zzC ?_)
      refine aEs hm4 ha ho4 (hf4.mono (by omega)) fun n6 hn6=>?_
      exact hj2 _ _ ((k:Int)+1,vT d (kO d m' b),true) e0 e1 rfl rfl rfl e9 (by omega) hr
     ·rw[if_pos hu] at hr
      (repeat refine zzC ?_)
      exact hj2 _ _ r e0 e1 e6 e7 e8 e9 (by omega) hr
   ·(repeat refine zzC ?_)
    refine hx _ _ _ _ (fun e=>by cases e) (d3 (cU ?_))
    rw[eO (by omega)] at hr
    have hr:(r,m')=R:=hr
    subst hr
    exact hend _ _ _ e6 e7 e8 (by omega) (hf'.mono (by omega)) hk' hm'
end
end V
end Go.Proofs.YtjndkdmkecpllaaGreat
namespace Go.Proofs.YtjndkdmkecpllaaGreat
namespace V
attribute [local irreducible] aA bF aV dL eJ iM dE
section
variable {ro:Ro}{h:T Obj}{p a n w nx:Nat}{L:List Nat}{K:KV}
end
def Lo (h:T Obj) (L:List (Nat × List Value × TypeId)):Prop:=∀ b∈L,h.get b.1=some (.cells b.2.1.toArray b.2.2)∧b.2.2≠mC∧b.2.2≠kM
def SW (hs:T Obj) (X:List Nat) (n0:Nat) (p:Nat) (pc:List Value) (L:List (Nat × List Value × TypeId)) (ps0:List (Nat × Nat)) (C:List (Int × Int)) (h:T Obj) (nx:Nat) (rs:List oJ) (ps:List (Nat × Nat)):Prop :=
 h.get p=some (.cells pc.toArray jP)∧Lo h L∧aU (del hs X) h∧RsX WJ h ps C rs∧Dst ps∧pA ps=pA ps0∧(∀ q∈ps,q.1∈ps0.map (·.1)∧(q.2∈ps0.map (·.2)∨n0≤q.2))∧eI (p::nI ps0) hs h∧Fr h nx∧n0≤nx∧Fr hs n0∧∀ k∈p::nI ps0,k∈X
section
variable {ro:Ro}{hs h h':T Obj}{X:List Nat}{n0 p nx:Nat}{pc:List Value}{L:List (Nat × List Value × TypeId)}{ps0 ps:List (Nat × Nat)}{C:List (Int × Int)}{rs:List oJ}{K:KV}
theorem SW.mono {n':Nat} (hi:SW hs X n0 p pc L ps0 C h nx rs ps) (hn:nx≤n'):SW hs X n0 p pc L ps0 C h n' rs ps:=by
 obtain⟨g1,g2,g3,g4,g5,g6,g7,g8,g9,g10,g11⟩:=hi
 exact⟨g1,g2,g3,g4,g5,g6,g7,g8,g9.mono hn,by omega,g11⟩
theorem SW.sub {n':Nat} (hi:SW hs X n0 p pc L ps0 C h nx rs ps) (hs':aU h h') (hf:Fr h' n') (hn:nx≤n'):SW hs X n0 p pc L ps0 C h' n' rs ps:=by
 obtain⟨g1,g2,g3,g4,g5,g6,g7,g8,g9,g10,g11⟩:=hi
 exact⟨hs' _ _ g1,fun b hb=>⟨hs' _ _ (g2 b hb).1,(g2 b hb).2⟩,g3.trans hs',g4.sub aFl hs',g5,g6,g7,fun k o hk hn=>hs' _ _ (g8 k o hk hn),hf,by omega,g11⟩
theorem aFe {ps:List (Nat × Nat)}{k:Nat} (h:k∈ps.map (·.1)):k∈nI ps:=by
 obtain⟨q,hq,rfl⟩:=List.mem_map.1 h
 exact kC.2 ⟨q,hq,.inl rfl⟩
theorem aFf {ps:List (Nat × Nat)}{k:Nat} (h:k∈ps.map (·.2)):k∈nI ps:=by
 obtain⟨q,hq,rfl⟩:=List.mem_map.1 h
 exact kC.2 ⟨q,hq,.inr rfl⟩
theorem SW.ring {i n' a' w n:Nat}{q:Nat × Nat}{c:Int × Int}{M:List Nat}{r:oJ} (hi:SW hs X n0 p pc L ps0 C h nx rs ps) (hq:ps[i]?=some q) (hc:C[i]?=some c) (hR:WJ h q.1 q.2 n M w) (hR':WJ h' q.1 a' c.2.toNat r.1 r.2) (ha:a'=q.2∨nx≤a') (hg:∀ k,k < nx→k≠q.1→k≠q.2→h'.get k=h.get k) (hf:Fr h' n') (hn:nx≤n') :
  SW hs X n0 p pc L ps0 C h' n' (rs.set i r) (ps.set i (q.1,a')):=by
 obtain⟨g1,g2,g3,g4,g5,g6,g7,g8,g9,g10,g11,g12⟩:=hi
 have hm:=List.mem_of_getElem? hq
 obtain⟨m1,m2⟩:=g7 q hm
 obtain⟨c1,t1⟩:=aFl.p hR
 obtain⟨c2,t2⟩:=aFl.a hR
 have hlt:=g4.lt aFl g9
 have hget:∀ {k:Nat} {c:Array Value} {e:TypeId},h.get k=some (.cells c e)→e≠mC→e≠kM→h'.get k=some (.cells c e):=fun hk h1 h2=>by
  rw[hg _ (g9.lt' hk) (kY hk t1 h1) (kY hk t2 h2)]; exact hk
 refine⟨hget g1 (by decide) (by decide),fun b hb=>⟨hget (g2 b hb).1 (g2 b hb).2.1 (g2 b hb).2.2,(g2 b hb).2⟩,fun k o hk=>?_,g4.set aFl g5 g9 hq hc hR' hg,g5.set hq ?_,(aPu hq).trans g6,fun r hr=>?_,fun k o hk hkn=>?_,hf,by omega,g11,g12⟩
 ·have h1:=hk
  rw[jH] at h1
  split at h1
  ·cases h1
  ·rename_i hnX
   have hk0:=g11.lt' h1
   rw[hg k (by omega) (fun e=>hnX (by rw[e]; exact g12 _ (List.mem_cons_of_mem _ (aFe m1)))) (fun e=>?_)]
   ·exact g3 k o hk
   ·rcases m2 with m2 | m2
    ·exact hnX (by rw[e]; exact g12 _ (List.mem_cons_of_mem _ (aFf m2)))
    ·omega
 ·rcases ha with ha | ha
  ·exact .inl ha
  ·exact .inr fun s hs=>by have:=(hlt s hs).2; omega
 ·rcases List.mem_or_eq_of_mem_set hr with h1 | h1
  ·exact g7 r h1
  ·subst h1
   refine⟨m1,?_⟩
   rcases ha with ha | ha
   ·subst ha; exact m2
   ·exact .inr (show n0≤a' by omega)
 ·have hk0:=g11.lt' hk
  rw[hg k (by omega) (fun e=>hkn (by rw[e]; exact List.mem_cons_of_mem _ (aFe m1))) (fun e=>?_)]
  ·exact g8 k o hk hkn
  ·rcases m2 with m2 | m2
   ·exact hkn (by rw[e]; exact List.mem_cons_of_mem _ (aFf m2))
   ·omega
theorem SW.cell {pc':List Value} (hi:SW hs X n0 p pc L ps0 C h nx rs ps) (h1:h'.get p=some (.cells pc'.toArray jP)) (h2:∀ k,k≠p→h'.get k=h.get k) (hL:∀ b∈L,b.2.2≠jP):SW hs X n0 p pc' L ps0 C h' nx rs ps:=by
 obtain⟨g1,g2,g3,g4,g5,g6,g7,g8,g9,g10,g11,g12⟩:=hi
 have hp:=g9.lt' g1
 refine⟨h1,fun b hb=>⟨?_,(g2 b hb).2⟩,fun k o hk=>?_,g4.keep aFl fun q hq=>?_,g5,g6,g7,fun k o hk hkn=>?_,fun k hk=>by rw[h2 k (by omega)]; exact g9 k hk,g10,g11,g12⟩
 ·rw[h2 _ (kY (g2 b hb).1 g1 (hL b hb))]; exact (g2 b hb).1
 ·have h9:=hk
  rw[jH] at h9
  split at h9
  ·cases h9
  ·rename_i hnX
   rw[h2 k (fun e=>hnX (by rw[e]; exact g12 _ (List.mem_cons_self ..)))]; exact g3 k o hk
 ·obtain⟨⟨c1,t1⟩,c2,t2⟩:=g4.ty aFl q hq
  exact⟨h2 _ (kY t1 g1 (by decide)),h2 _ (kY t2 g1 (by decide))⟩
 ·rw[h2 k fun e=>hkn (by rw[e]; exact List.mem_cons_self ..)]
  exact g8 k o hk hkn
def X2 (X:List Nat) (ps:List (Nat × Nat)):List Nat:=ps.map (·.2)++X
end
def aBf (ro:Ro) (h:T Obj) (nx:Nat) (X:List Nat) (p:Nat) (ps:List (Nat × Nat)) (d:AutoD) (m':MacD) (h':T Obj) (nx':Nat) (X':List Nat) (ps':List (Nat × Nat)):Prop :=
 nx≤nx'∧Fr h' nx'∧eI (p::nI ps) h h'∧(∀ k∈X',k∈X∨h.get k=none)∧(∀ k∈X,k∈X')∧(∀ k∈nI ps',k∈nI ps∨nx≤k)∧MW ro h' X' p ps' d m'
section
variable {ro:Ro}{h h':T Obj}{X:List Nat}{n0 p nx n':Nat}{L:List (Nat × List Value × TypeId)}{ps ps':List (Nat × Nat)}{d:AutoD}{m m':MacD}{cv sv rv:Value}{K:KV}
theorem SW.left (hA:qF ro (del h X) (eK d.c d.many cv sv) d) (hP:Sl ro (del h X) rv 1 (pA ps)) (hn:nx≤n0) (hi:SW h X n0 p (eM d.c d.many cv sv m'.cur rv m'.steps) L ps d.counts h' n' m'.rs ps'):aBf ro h nx X p ps d m' h' n' (X2 X ps') ps':=by
 obtain⟨g1,g2,g3,g4,g5,g6,g7,g8,g9,g10,g11,g12⟩:=hi
 have hX:∀ k∈X2 X ps',k∈X∨h.get k=none:=fun k hk=>by
  rcases List.mem_append.1 hk with h1 | h1
  ·obtain⟨q,hq,rfl⟩:=List.mem_map.1 h1
   rcases (g7 q hq).2 with h2 | h2
   ·exact .inl (g12 _ (List.mem_cons_of_mem _ (aFf h2)))
   ·exact .inr (g11 _ h2)
  ·exact .inl h1
 have hre:=aT4 g3 hX
 refine⟨by omega,g9,g8,hX,fun k hk=>List.mem_append.2 (.inr hk),fun k hk=>?_,cv,sv,rv,g1,hA.sub hre,by rw[g6]; exact hP.sub hre,g4,g5,List.mem_append.2 (.inr (g12 _ (List.mem_cons_self ..))),fun k hk=>?_⟩
 ·obtain⟨q,hq,h1⟩:=kC.1 hk
  rcases h1 with rfl | rfl
  ·exact .inl (aFe (g7 q hq).1)
  ·rcases (g7 q hq).2 with h2 | h2
   ·exact .inl (aFf h2)
   ·exact .inr (by omega)
 obtain⟨q,hq,h1⟩:=kC.1 hk
 rcases h1 with rfl | rfl
 ·exact List.mem_append.2 (.inr (g12 _ (List.mem_cons_of_mem _ (aFe (g7 q hq).1))))
 ·exact List.mem_append.2 (.inl (List.mem_map.2 ⟨q,hq,rfl⟩))
theorem aBf.refl (hm:MW ro h X p ps d m) (hf:Fr h nx) (hn:nx≤n'):aBf ro h nx X p ps d m h n' X ps:=⟨hn,hf.mono hn,(aU.refl h).keepL,fun k hk=>.inl hk,fun k hk=>hk,fun k hk=>.inl hk,hm⟩
theorem aBf.trans {h1 h2:T Obj}{n1 n2:Nat}{X1 X2:List Nat}{ps1 ps2:List (Nat × Nat)}{m1 m2:MacD} (hf:Fr h nx) (hX:∀ k∈p::nI ps,k∈X) (a:aBf ro h nx X p ps d m1 h1 n1 X1 ps1) (b:aBf ro h1 n1 X1 p ps1 d m2 h2 n2 X2 ps2):aBf ro h nx X p ps d m2 h2 n2 X2 ps2:=by
 obtain⟨a1,a2,a3,a4,a5,hb,a6⟩:=a
 obtain⟨b1,b2,b3,b4,b5,hb2,b6⟩:=b
 refine⟨by omega,b2,fun k o hk hn=>b3 k o (a3 k o hk hn) fun hm=>?_,fun k hk=>?_,fun k hk=>b5 k (a5 k hk),fun k hk=>?_,b6⟩
 ·have hlt:=hf.lt' hk
  rcases List.mem_cons.1 hm with rfl | hm
  ·exact hn (List.mem_cons_self ..)
  ·rcases hb k hm with h9 | h9
   ·exact hn (List.mem_cons_of_mem _ h9)
   ·omega
 ·rcases b4 k hk with h9 | h9
  ·exact a4 k h9
  ·by_cases hp:k∈p::nI ps
   ·exact .inl (hX k hp)
   ·cases hq:h.get k with
    | none=>exact .inr rfl
    | some o=>rw[a3 k o hq hp] at h9; cases h9
 ·rcases hb2 k hk with h9 | h9
  ·exact hb k h9
  ·exact .inr (by omega)
theorem aBf.mono {n2:Nat}{X':List Nat} (a:aBf ro h nx X p ps d m h' n' X' ps') (hn:n'≤n2):aBf ro h nx X p ps d m h' n2 X' ps':=by
 obtain⟨a1,a2,a3⟩:=a
 exact⟨by omega,a2.mono hn,a3⟩
end
end V
end Go.Proofs.YtjndkdmkecpllaaGreat
namespace Go.Proofs.YtjndkdmkecpllaaGreat
namespace V
attribute [local irreducible] aA bF aV dL eJ iM dE
section
variable {ro:Ro}{hs h h':T Obj}{X:List Nat}{n0 p sb mb nx:Nat}{lv rv' uv nv:Value}{ps0 ps:List (Nat × Nat)}{C:List (Int × Int)}{rs:List oJ}{K:KV}
variable {cc:List Nat}{many cur:Int}{cv sv rv:Value}{steps:Nat}{to:Int}{ov nxv:Value}{ops:List Nat}{R:List Int}
end
section
variable {ro:Ro}{h:T Obj}{nx:Nat}{X:List Nat}{p:Nat}{ps:List (Nat × Nat)}{d:AutoD}{m:MacD}{K:KV}
theorem SW.lo {hs h h':T Obj}{X:List Nat}{n0 p nx n':Nat}{pc:List Value}{L L':List (Nat × List Value × TypeId)}{ps0 ps:List (Nat × Nat)}{C:List (Int × Int)}{rs:List oJ} (hi:SW hs X n0 p pc L ps0 C h nx rs ps) (hs':aU h h') (hf:Fr h' n') (hn:nx≤n') (hL:Lo h' L'):SW hs X n0 p pc L' ps0 C h' n' rs ps:=by
 obtain⟨g1,g2,g3⟩:=hi.sub hs' hf hn
 exact⟨g1,hL,g3⟩
end
end V
end Go.Proofs.YtjndkdmkecpllaaGreat
namespace Go.Proofs.YtjndkdmkecpllaaGreat
namespace V
attribute [local irreducible] aA bF aV dL eJ iM dE
theorem aU9 {ro:Ro}{h:T Obj}{v:Value}{z:Nat}{l:List (List Value)} (hl:Sl ro h v z l):(v=.slice none 0 0∧l=[]∧slB .eql v (.slice none 0 0)=some (.bool true))∨slB .eql v (.slice none 0 0)=some (.bool false):=by
 rcases hl with ⟨rfl,rfl⟩ | ⟨a,cap,rfl,_⟩
 ·exact .inl ⟨rfl,rfl,rfl⟩
 ·exact .inr rfl
theorem y8 {ro:Ro}{h:T Obj}{v:Value}{z nx:Nat}{t e:TypeId}{i:TypeInfo}{zv:Value}{m:List (List Value)}{K:KV} (hx:Sl ro h v z m) (hlit:∀ id,bC Tryz.prog t id 0 []=some (.slice (some (own id z)) 0 0,some (.cells #[] e))) (hu:gG Tryz.prog t=some (.slice e)) (hi':tin Tryz.prog e=some i) (hz:i.size=z) (hz0:0 < z) (hzer:i8 Tryz.prog e=some zv) (hzs:zv.cells.size=z)
  (hok:m.flatten.all bV=true) (hb:m.length*i.bytes≤oB) (hb2:m.length≤oB) (hf:Fr h nx)
  (hK:∀ r h' n',nx≤n'→Fr h' n'→aU h h'→bL h' r z e m nx→K r h' n') :
  aA (slB .eql v (.slice none 0 0)) fun t4=>aV t4 (∃ h2,aU h2 h∧K (.slice none 0 0) h2 (nx+4)) (aA (bC Tryz.prog t (nx+3) 0 []) fun r3=>eJ h (nx+3) r3.2 fun h4=>aA (bY Tryz.prog ro h4 (nx+6) #[t,t] [r3.1,v]) fun r5=>∃ h6,aU h6 r5.2.1∧K r5.1 h6 (r5.2.2+1)):=by
 rcases aU9 hx with ⟨rfl,rfl,h1⟩ | h1
 ·refine aB h1 (aG ⟨h,aU.refl _,hK _ _ _ (by omega) (hf.mono (by omega)) (aU.refl _) bL.nil⟩)
 ·refine aB h1 (aE (aB (hlit _) (aF ?_)))
  have hs1:aU h (h.upd (nx+3) (some (.cells #[] e))):=(aU.refl h).new hf (by omega)
  have hf1:Fr (h.upd (nx+3) (some (.cells #[] e))) (nx+6):=(hf.mono (by omega)).upd (Nat.le_refl _) (by omega)
  have ho:bL (h.upd (nx+3) (some (.cells #[] e))) (.slice (some (own (nx+3) z)) 0 0) z e [] nx:=.inr ⟨nx+3,by omega,rfl,(fun x hx=>by cases hx),by rw[T.get_upd_same]; rfl⟩
  obtain⟨r,h',n',q1,q2,q3,q4,q5,q6⟩:=aFq (P:=Tryz.prog) (t:=t) (nx:=nx+6) ho (hx.sub hs1) hu hi' hz hz0 hzer hzs hok (by simpa using hb) (by simpa using hb2) (by omega) hf1
  refine aB q1 ⟨h',aU.refl _,hK r h' (n'+1) (by omega) (q5.mono (by omega)) (fun k o hk=>q3 k o (hs1 k o hk) fun e=>?_) (by simpa using q2)⟩
  have hkk:nx+3=k:=Option.some.inj e
  have:=hf.lt' hk
  omega
theorem aRV (id:Nat):bC Tryz.prog cR id 0 []=some (.slice (some (own id 1)) 0 0,some (.cells #[] cI)):=by kernel_rfl
theorem aTi (id:Nat):bC Tryz.prog gZ id 0 []=some (.slice (some (own id 2)) 0 0,some (.cells #[] eP)):=by kernel_rfl
theorem aP3 (id:Nat):bC Tryz.prog bP id 0 []=some (.slice (some (own id 2)) 0 0,some (.cells #[] bK)):=by kernel_rfl
theorem aTj (id:Nat):bC Tryz.prog cB id 0 []=some (.slice (some (own id 1)) 0 0,some (.cells #[] bS)):=by kernel_rfl
theorem aUi:gG Tryz.prog gZ=some (.slice eP):=by kernel_rfl
theorem aVw:∃ i,tin Tryz.prog eP=some i∧i.size=2∧i.bytes=16:=aBU (by kernel_rfl)
theorem aUm:gG Tryz.prog cB=some (.slice bS):=by kernel_rfl
theorem aUh:∃ i,tin Tryz.prog bS=some i∧i.size=1∧i.bytes=1:=aBU (by kernel_rfl)
theorem aUv:i8 Tryz.prog bS=some (.int .u8 0):=by kernel_rfl
section
variable {ro:Ro}{h:T Obj}{v:Value}{nx:Nat}{K:KV}
theorem aEm {l:List Int} (hv:ZI ro h v l) (hl:l.length≤1000000) (hf:Fr h nx) (hK:∀ r h' n',nx≤n'→Fr h' n'→aU h h'→bL h' r 1 cI (fK l) nx→K r h' n'):aN Tryz.prog ro iX [v] h nx K:=by
 apply yS
 unfold sS
 obtain⟨i,g1,g2,g3⟩:=aM4
 exact y8 hv aRV aM6 g1 (by omega) (by omega) aW7 rfl (by simp[fK,bV]) (by rw[i6,g3]; unfold oB; omega) (by rw[i6]; unfold oB; omega) hf hK
theorem aMm {l:List Nat} (hv:gD ro h v 1 RU8 l) (hl:l.length≤1000000) (hf:Fr h nx) (hK:∀ r h' n',nx≤n'→Fr h' n'→aU h h'→bL h' r 1 bS (rK l) nx→K r h' n'):aN Tryz.prog ro jB [v] h nx K:=by
 apply tV
 unfold pG
 obtain⟨i,g1,g2,g3⟩:=aUh
 obtain⟨cs,h1,h2,h3⟩:=hv
 have hcs:cs=rK l:=by
  apply List.ext_getElem?
  intro k
  rcases Nat.lt_or_ge k l.length with hk | hk
  ·have e1:cs[k]?=some (cs[k]'(by omega)):=List.getElem?_eq_getElem _
   have e2:l[k]?=some l[k]:=List.getElem?_eq_getElem _
   have:=(h3 k _ _ e1 e2).1
   rw[e1,this]; simp[rK,hk]
  ·rw[List.getElem?_eq_none (by omega),List.getElem?_eq_none (by rw[uZ]; omega)]
 subst hcs
 exact y8 h1 aTj aUm g1 (by omega) (by omega) aUv rfl (by simp[rK,bV]) (by rw[uZ,g3]; unfold oB; omega) (by rw[uZ]; unfold oB; omega) hf hK
theorem aMl {l:List (Int × Int)} (hv:gD ro h v 2 aCV l) (hl:l.length≤1000000) (hf:Fr h nx) (hK:∀ r h' n',nx≤n'→Fr h' n'→aU h h'→bL h' r 2 eP (zA l) nx→K r h' n'):aN Tryz.prog ro jA [v] h nx K:=by
 apply tU
 unfold pF
 obtain⟨i,g1,g2,g3⟩:=aVw
 obtain⟨cs,h1,h2,h3⟩:=hv
 have hcs:cs=zA l:=by
  apply List.ext_getElem?
  intro k
  rcases Nat.lt_or_ge k l.length with hk | hk
  ·have e1:cs[k]?=some (cs[k]'(by omega)):=List.getElem?_eq_getElem _
   have e2:l[k]?=some l[k]:=List.getElem?_eq_getElem _
   have:=h3 k _ _ e1 e2
   unfold aCV at this
   rw[e1,this]; simp[zA,hk]
  ·rw[List.getElem?_eq_none (by omega),List.getElem?_eq_none (by rw[yC]; omega)]
 subst hcs
 have hok:(zA l).flatten.all bV=true:=by
  rw[List.all_eq_true]
  intro x hx
  obtain⟨y,hy,hxy⟩:=List.mem_flatten.1 hx
  obtain⟨p,_,rfl⟩:=List.mem_map.1 hy
  simp at hxy
  rcases hxy with rfl | rfl<;>rfl
 exact y8 h1 aTi aUi g1 (by omega) (by omega) aNm rfl hok (by rw[yC,g3]; unfold oB; omega) (by rw[yC]; unfold oB; omega) hf hK
theorem aJN {cs:List (List Value)} (hv:Sl ro h v 2 cs) (hok:cs.flatten.all bV=true) (hl:cs.length≤1000000) (hf:Fr h nx) (hK:∀ r h' n',nx≤n'→Fr h' n'→aU h h'→bL h' r 2 bK cs nx→K r h' n'):aN Tryz.prog ro gK [v] h nx K:=by
 apply qE
 unfold lG
 obtain⟨i,g1,g2,g3⟩:=aM3
 exact y8 hv aP3 aIy g1 (by omega) (by omega) yU rfl hok (by rw[g3]; unfold oB; omega) (by unfold oB; omega) hf hK
end
theorem aMa {ro:Ro}{h:T Obj}{v w:Value}{z n1 n2 lo:Nat}{t e:TypeId}{i:TypeInfo}{zv:Value}{l:List (List Value)}{y:List Value}{K:Value × Option Obj→T Obj→Value × T Obj × Nat→Prop} (hlit:bC Tryz.prog t n1 1 [(0,w)]=some (.slice (some (own n1 z)) 1 1,some (.cells y.toArray e))) (hy:y.length=z) (ho:bL h v z e l lo)
  (hu:gG Tryz.prog t=some (.slice e)) (hi':tin Tryz.prog e=some i) (hz:i.size=z) (hz0:0 < z) (hzer:i8 Tryz.prog e=some zv) (hzs:zv.cells.size=z) (hok:y.all bV=true) (hb:(l.length+1)*i.bytes≤oB) (hb2:l.length+1≤oB) (hf:Fr h n2) (hlo:lo≤n2) (hn:n1 < n2) (hne:lK v≠some n1)
  (hK:∀ h',bL h' (.slice (some (own n2 z)) (l++[y]).length (l++[y]).length) z e (l++[y]) lo→(∀ k o,h.get k=some o→k≠n1→lK v≠some k→h'.get k=some o)→Fr h' (n2+1)→K (.slice (some (own n1 z)) 1 1,some (.cells y.toArray e)) (h.upd n1 (some (.cells y.toArray e))) (.slice (some (own n2 z)) (l++[y]).length (l++[y]).length,h',n2+1)) :
  aA (bC Tryz.prog t n1 1 [(0,w)]) fun r=>eJ h n1 r.2 fun h'=>aA (bY Tryz.prog ro h' n2 #[t,t] [v,r.1]) (K r h'):=by
 refine aB hlit (aF ?_)
 have hkk:eI [n1] h (h.upd n1 (some (.cells y.toArray e))):=(aU.refl h).keepL.upd (by simp)
 have ho1:bL (h.upd n1 (some (.cells y.toArray e))) v z e l lo:=ho.keepK hkk fun id hid hm=>hne (by rw[hid]; simp at hm; rw[hm])
 have hf1:Fr (h.upd n1 (some (.cells y.toArray e))) n2:=hf.upd (Nat.le_refl _) hn
 have hx1:Sl ro (h.upd n1 (some (.cells y.toArray e))) (.slice (some (own n1 z)) 1 1) z [y]:=Sl.own (l:=[y]) (e:=e) (f:=(0,0)) (by rw[T.get_upd_same]; simp) (by simpa using hy) (Nat.le_refl _)
 obtain⟨h',q1,q2,q3,q4,q5⟩:=aF8 (P:=Tryz.prog) (t:=t) (nx:=n2) ho1 hx1 hu hi' hz hz0 hzer hzs (by simp) (by simpa using hok) hb hb2 hlo hf1
 exact aB q1 (hK h' q2 (fun k o hk h1 h2=>q3 k o (hkk k o hk (by simpa using h1)) h2) q4)
section
variable {RR:RgP}{tp ta:TypeId}{h h':T Obj}{ps:List (Nat × Nat)}{C:List (Int × Int)}{rs:List oJ}
theorem RsX.snoc (hr:RsX RR h ps C rs) {q:Nat × Nat}{c:Int × Int}{r:oJ} (hn:RR h q.1 q.2 c.2.toNat r.1 r.2):RsX RR h (ps++[q]) (C++[c]) (rs++[r]):=by
 obtain⟨r1,r2,r3⟩:=hr
 refine⟨by simp[r1],by simp[r2],fun i p c' r' h1 h2 h3=>?_⟩
 rcases Nat.lt_or_ge i ps.length with hi | hi
 ·rw[List.getElem?_append_left hi] at h1
  rw[List.getElem?_append_left (by omega)] at h2
  rw[List.getElem?_append_left (by omega)] at h3
  exact r3 i p c' r' h1 h2 h3
 ·rw[List.getElem?_append_right hi] at h1
  rw[List.getElem?_append_right (by omega)] at h2
  rw[List.getElem?_append_right (by omega)] at h3
  have hlt:=(List.getElem?_eq_some_iff.1 h1).1
  have hi0:i=ps.length:=by simp at hlt; omega
  subst hi0
  rw[Nat.sub_self] at h1
  rw[r1,Nat.sub_self] at h2
  rw[show ps.length - rs.length=0 by omega] at h3
  cases h1; cases h2; cases h3
  exact hn
theorem Dst.snoc (hd:Dst ps) {q:Nat × Nat} (hq:∀ p∈ps,p.1≠q.1∧p.2≠q.2):Dst (ps++[q]):=by
 intro i j p p2 h1 h2 hij
 rcases Nat.lt_or_ge i ps.length with hi | hi
 ·rw[List.getElem?_append_left hi] at h1
  rcases Nat.lt_or_ge j ps.length with hj | hj
  ·rw[List.getElem?_append_left hj] at h2
   exact hd i j p p2 h1 h2 hij
  ·rw[List.getElem?_append_right hj] at h2
   have:p2=q:=by have:=List.mem_of_getElem? h2; simpa using this
   subst this
   exact hq p (List.mem_of_getElem? h1)
 ·rw[List.getElem?_append_right hi] at h1
  have hp:p=q:=by have:=List.mem_of_getElem? h1; simpa using this
  subst hp
  rcases Nat.lt_or_ge j ps.length with hj | hj
  ·rw[List.getElem?_append_left hj] at h2
   have:=hq p2 (List.mem_of_getElem? h2)
   exact⟨Ne.symm this.1,Ne.symm this.2⟩
  ·rw[List.getElem?_append_right hj] at h2
   have h3:=(List.getElem?_eq_some_iff.1 h1).1
   have h4:=(List.getElem?_eq_some_iff.1 h2).1
   simp at h3 h4
   omega
theorem Dst.nil:Dst []:=fun i j p q h1=>by simp at h1
end
end V
end Go.Proofs.YtjndkdmkecpllaaGreat
namespace Go.Proofs.YtjndkdmkecpllaaGreat
namespace V
attribute [local irreducible] aA bF aV dL eJ iM dE
theorem aDI:∀ {mcs:List (List Value)}{k:Nat}{a b r:Value},(∀ x∈mcs,x.length=2)→mcs[k]?=some [a,b]→mcs.flatten.set (k*2+1) r=(mcs.set k [a,r]).flatten
 | [],k,a,b,r,_,h=>by simp at h
 | y::l,0,a,b,r,hz,h=>by
  simp at h; subst h; rfl
 | y::l,k+1,a,b,r,hz,h=>by
  have hy:=hz y (by simp)
  have ih:=aDI (mcs:=l) (k:=k) (a:=a) (b:=b) (r:=r) (fun x hx=>hz x (by simp[hx])) (by simpa using h)
  rw[List.set_cons_succ,List.flatten_cons,List.flatten_cons,List.set_append_right _ _ (by omega),hy,show (k+1)*2+1 - 2=k*2+1 by omega,ih]
theorem aWY {ro:Ro}{h:T Obj}{v:Value}{l:List Nat} (hs:Sl ro h v 1 (rK l)) (hl:∀ x∈l,x < 256):gD ro h v 1 RU8 l:=⟨rK l,hs,uZ l,fun i x d hx hd=>by
 simp only[rK,List.getElem?_map] at hx
 rw[hd] at hx
 cases hx
 exact⟨rfl,hl d (List.mem_of_getElem? hd)⟩⟩
theorem RU8.lt {ro:Ro}{h:T Obj}{v:Value}{l:List Nat} (hs:gD ro h v 1 RU8 l):∀ x∈l,x < 256:=fun x hx=>by
 obtain⟨cs,h1,h2,h3⟩:=hs
 obtain⟨i,hi⟩:=List.getElem?_of_mem hx
 have hlt:=(List.getElem?_eq_some_iff.1 hi).1
 exact (h3 i _ _ (List.getElem?_eq_getElem (by omega)) hi).2
theorem aMs (mid n c k j:Nat):fP 2 (.slice (some (own mid 2)) n c) k j=at_ mid (k*2+j) 0:=by simp[fP,elt,own]
def x9 (v:Value):List Nat:=(lK v).toList
theorem qQ {v:Value}{k:Nat}:k∈x9 v ↔ lK v=some k:=by unfold x9; cases lK v<;>simp[eq_comm]
section
variable {ro:Ro}{h:T Obj}{nx nA:Nat}{X:List Nat}{Q:KE}{e:dF}
set_option maxRecDepth 8000 in
theorem aWI {mid:Nat}{row:List MoveD}{mcs0:List (List Value)}{w2 w3 w6 w19 w20 w21 w33 w34 w35:Value} (e2:e 2=w2) (e3:e 3=w3) (e6:e 6=w6) (e19:e 19=w19) (e20:e 20=w20) (e21:e 21=w21) (e33:e 33=w33) (e34:e 34=w34) (e35:e 35=w35)
  (e9:e 9=.slice (some (own mid 2)) row.length row.length) (e41:e 41=.slice (some (own mid 2)) row.length row.length) (e42:e 42=.int .i64 row.length) (e43:e 43=.int .i64 0)
  (hg:h.get mid=some (.cells mcs0.flatten.toArray bK)) (hl:mcs0.length=row.length) (h2:∀ x∈mcs0,x.length=2) (hlen:row.length≤1000000)
  (hsrc:∀ (i:Nat) x m,mcs0[i]?=some x→row[i]?=some m→∃ ov,x=[.int .i64 m.to,ov]∧gD ro (del h [mid]) ov 1 RU8 m.ops∧m.ops.length≤1000000) (hf:Fr h nx) (hX:∀ k∈X,k < nA) (hmid:nA≤mid) (hnA:nA≤nx)
  (hQ:∀ (e':dF) h' n',e' 2=w2→e' 3=w3→e' 6=w6→e' 9=.slice (some (own mid 2)) row.length row.length→e' 19=w19→e' 20=w20→e' 21=w21→e' 33=w33→e' 34=w34→e' 35=w35→nx≤n'→Fr h' n'→eI [mid] h h' →
   gD ro (del h' X) (.slice (some (own mid 2)) row.length row.length) 2 (aBg ro (del h' X)) row→Q (.exit 4) e' h' n'):dC (uM ro) e h nx Q:=by
 have hlt:=hf.lt' hg
 refine bD (fun j e h' nx'=>∃ (k:Nat) (mcs:List (List Value)),k+j=row.length∧nx≤nx'∧e 2=w2∧e 3=w3∧e 6=w6∧e 19=w19∧e 20=w20∧e 21=w21∧e 33=w33∧e 34=w34∧e 35=w35∧e 9=.slice (some (own mid 2)) row.length row.length∧e 41=.slice (some (own mid 2)) row.length row.length∧e 42=.int .i64 row.length∧e 43=.int .i64 k ∧
  h'.get mid=some (.cells mcs.flatten.toArray bK)∧mcs.length=row.length∧(∀ x∈mcs,x.length=2)∧(∀ i,k≤i→mcs[i]?=mcs0[i]?)∧(∀ (i:Nat) x m,i < k→mcs[i]?=some x→row[i]?=some m→∃ ov,x=[.int .i64 m.to,ov]∧gD ro (del h' (mid::X)) ov 1 RU8 m.ops∧m.ops.length≤1000000)∧eI [mid] h h'∧Fr h' nx') ?_ (n:=row.length)
  ⟨0,mcs0,by omega,by omega,e2,e3,e6,e19,e20,e21,e33,e34,e35,e9,e41,e42,e43,hg,hl,h2,fun _ _=>rfl,fun i x m hi=>by omega,(aU.refl h).keepL,hf⟩
 rintro j e h' nx' ⟨k,mcs,hj,hnx,e2,e3,e6,e19,e20,e21,e33,e34,e35,e9,e41,e42,e43,hg',hl',h2',hun,hpr,hk',hf'⟩ Q' hq hx
 have hsl:Sl ro h' (.slice (some (own mid 2)) row.length row.length) 2 mcs:=by rw[← hl']; exact Sl.own hg' h2' (Nat.le_refl _)
 unfold uM
 rw[e9,e41,e42,e43]
 refine cM (fun hk=>?_) (fun hk=>?_)
 ·have hk:k < row.length:=by omega
  have hmk:mcs[k]?=some (mcs[k]'(by omega)):=List.getElem?_eq_getElem _
  have hmk0:=hun k (Nat.le_refl _)
  rw[hmk] at hmk0
  have hrk:row[k]?=some row[k]:=List.getElem?_eq_getElem _
  obtain⟨ov,hx0,hov,hol⟩:=hsrc k _ _ hmk0.symm hrk
  rw[hx0] at hmk
  have hix:=hsl.ix .i64 (i:=k) (by omega)
  have hld:=hsl.loadA hmk
  have hfw:=hsl.fwd (i:=k) (by omega) 1
  rw[aMs] at hfw
  generalize row[k]=m at hx0 hov hol hmk hrk hld
  (repeat refine zzC ?_)
  refine aB hix (aB hld ?_)
  refine gP (x:=[.int .i64 m.to,ov]) yU rfl rfl rfl (by simp[show bV ov=true from gD.okC hov,show bV (Value.int .i64 m.to)=true from rfl]) hf' (by omega) fun h3 hs3 hf3 g3 _=>?_
  (repeat refine zzC ?_)
  refine aB (bE (l:=[.int .i64 m.to,ov]) g3 rfl) ?_
  have hD3:aU (del h [mid]) h3:=(hk'.delS (fun k h=>h)).trans hs3
  refine aMm (hov.sub hD3 fun _ _ h=>h) hol (hf3.mono (by omega)) fun r h4 n4 hn4 hf4 hs4 ho4=>?_
  have g4:=hs4 _ _ (hs3 _ _ hg')
  refine aB hix (aB hfw ?_)
  have hfl:mcs.flatten.length=row.length*2:=by rw[(j6 h2').1,hl']
  refine aB (cE (l:=mcs.flatten) g4 (by omega) ho4.ok (by rcases ho4 with ⟨rfl,_⟩ | ⟨id,_,rfl,_⟩<;>rfl)) ?_
  rw[aDI h2' hmk]
  have hk5:eI [mid] h' (h4.upd mid (some (.cells (mcs.set k [.int .i64 m.to,r]).flatten.toArray bK))):=((hs3.trans hs4).keepL).upd (by simp)
  have hk45:eI [mid] h4 (h4.upd mid (some (.cells (mcs.set k [.int .i64 m.to,r]).flatten.toArray bK))):=(aU.refl h4).keepL.upd (by simp)
  have hf5:Fr (h4.upd mid (some (.cells (mcs.set k [.int .i64 m.to,r]).flatten.toArray bK))) n4:=hf4.upd (Nat.le_refl _) (by omega)
  have g5:(h4.upd mid (some (.cells (mcs.set k [.int .i64 m.to,r]).flatten.toArray bK))).get mid=some (.cells (mcs.set k [.int .i64 m.to,r]).flatten.toArray bK):=T.get_upd_same _ _ _
  generalize (h4.upd mid (some (.cells (mcs.set k [.int .i64 m.to,r]).flatten.toArray bK)))=h5 at hk5 hk45 hf5 g5
  have ho5:=(ho4.keepK hk45 fun id hid hm=>by have:=(ho4.blk hid).1; simp at hm; omega).del (ids:=mid::X) fun id hid hm=>by
   have:=(ho4.blk hid).1
   rcases List.mem_cons.1 hm with h9 | h9
   ·omega
   ·have:=hX id h9; omega
  have hR5:=aWY (ro:=ro) ho5.sl (RU8.lt hov)
  (repeat refine zzC ?_)
  refine hq (j - 1) _ _ _ _ (by omega) ⟨k+1,mcs.set k [.int .i64 m.to,r],by omega,by omega,e2,e3,e6,e19,e20,e21,e33,e34,e35,e9,e41,e42,rfl,g5,by rw[List.length_set]; exact hl',fun x hx=>?_,fun i hi=>?_,fun i x m' hi hxi hmi=>?_,hk'.trans hk5,hf5.mono (by omega)⟩ (aU.refl _)
  ·rcases List.mem_or_eq_of_mem_set hx with h9 | h9
   ·exact h2' x h9
   ·subst h9; rfl
  ·rw[List.getElem?_set_ne (by omega)]; exact hun i (by omega)
  ·by_cases hik:k=i
   ·subst hik
    rw[List.getElem?_set_self (by omega)] at hxi
    cases hxi
    rw[hrk] at hmi
    cases hmi
    exact⟨r,rfl,hR5,hol⟩
   ·rw[List.getElem?_set_ne hik] at hxi
    obtain⟨ov',q1,q2,q3⟩:=hpr i x m' (by omega) hxi hmi
    exact⟨ov',q1,q2.sub (hk5.del (l:=mid::X) (l':=mid::X) (fun k hk=>by simp at hk; subst hk; exact List.mem_cons_self ..) fun k hk=>.inl hk) fun _ _ h=>h,q3⟩
 ·(repeat refine zzC ?_)
  refine hx _ _ _ _ (fun e=>by cases e) ?_
  have hmX:mid ∉ X:=fun hm=>by have:=hX mid hm; omega
  refine hQ _ _ _ e2 e3 e6 e9 e19 e20 e21 e33 e34 e35 (by omega) (hf'.mono (by omega)) hk' ⟨mcs,?_,hl',fun i x m hx hm=>?_⟩
  ·have:(del h' X).get mid=some (.cells mcs.flatten.toArray bK):=mD hg' hmX
   rw[← hl']
   exact Sl.own this h2' (Nat.le_refl _)
  ·have hi:=(List.getElem?_eq_some_iff.1 hx).1
   obtain⟨ov',q1,q2,q3⟩:=hpr i x m (by omega) hx hm
   exact⟨ov',q1,q2.sub (aA3 fun k hk=>List.mem_cons_of_mem _ hk) fun _ _ h=>h,by unfold aAP; omega⟩
end
end V
end Go.Proofs.YtjndkdmkecpllaaGreat
namespace Go.Proofs.YtjndkdmkecpllaaGreat
namespace V
attribute [local irreducible] aA bF aV dL eJ iM dE
theorem aUk:gG Tryz.prog eH=some (.slice bP):=by kernel_rfl
theorem aVy:∃ i,tin Tryz.prog bP=some i∧i.size=1∧i.bytes=24:=aBU (by kernel_rfl)
theorem aWD:i8 Tryz.prog bP=some (.slice none 0 0):=by kernel_rfl
theorem aV7 (aid:Nat) (a:Option Addr) (n c:Nat):bC Tryz.prog eH aid 1 [(0,.slice a n c)]=some (.slice (some (own aid 1)) 1 1,some (.cells [Value.slice a n c].toArray bP)):=by kernel_rfl
def wsC (ws:List Value):List (List Value):=ws.map fun w=>[w]
theorem aKJ (ws:List Value):(wsC ws).length=ws.length:=by simp[wsC]
theorem aVr {ro:Ro}{h:T Obj}{w:Value}{row:List MoveD} (hr:gD ro h w 2 (aBg ro h) row):∃ cs,Sl ro h w 2 cs∧cs.length=row.length∧cs.flatten.all bV=true∧(∀ x∈cs,x.length=2)∧∀ (i:Nat) x m,cs[i]?=some x→row[i]?=some m→aBg ro h x m:=by
 obtain⟨cs,h1,h2,h3⟩:=hr
 refine⟨cs,h1,h2,?_,?_,h3⟩
 ·rw[List.all_eq_true]
  intro x hx
  obtain⟨y,hy,hxy⟩:=List.mem_flatten.1 hx
  obtain⟨i,hi⟩:=List.getElem?_of_mem hy
  have hlt:=(List.getElem?_eq_some_iff.1 hi).1
  obtain⟨ov,rfl,hov,_⟩:=h3 i _ _ hi (List.getElem?_eq_getElem (by omega))
  simp at hxy
  rcases hxy with rfl | rfl
  ·rfl
  ·exact gD.okC hov
 ·intro y hy
  obtain⟨i,hi⟩:=List.getElem?_of_mem hy
  have hlt:=(List.getElem?_eq_some_iff.1 hi).1
  obtain⟨ov,rfl,_⟩:=h3 i _ _ hi (List.getElem?_eq_getElem (by omega))
  rfl
section
variable {ro:Ro}{h:T Obj}{nx nA:Nat}{X:List Nat}{Q:KE}{e:dF}
set_option maxRecDepth 8000 in
set_option maxHeartbeats 1000000 in
theorem aWH {tid:Nat}{nvs R' U':Value}{rows:List (List MoveD)}{w2 w3 w19 w20 w21:Value} (e2:e 2=w2) (e3:e 3=w3) (e6:e 6=ptr tid) (e19:e 19=w19) (e20:e 20=w20) (e21:e 21=w21) (e33:e 33=nvs) (e34:e 34=.int .i64 rows.length) (e35:e 35=.int .i64 0)
  (hg:h.get tid=some (.cells [bU,R',U',bU].toArray aR)) (hlen:rows.length≤1000000) (hsrc:gD ro (del h [tid]) nvs 1 (v8 ro (del h [tid])) rows) (hrow:∀ row∈rows,row≠[]∧row.length≤1000000∧∀ m∈row,m.ops.length≤1000000)
  (hf:Fr h nx) (hX:∀ k∈X,k < nA) (htid:nA≤tid) (hnA:nA≤nx)
  (hQ:∀ (e':dF) h' n' nv,e' 2=w2→e' 3=w3→e' 6=ptr tid→e' 19=w19→e' 20=w20→e' 21=w21→nx≤n'→Fr h' n'→eI [tid] h h'→h'.get tid=some (.cells [bU,R',U',nv].toArray aR) →
   gD ro (del h' (tid::X)) nv 1 (v8 ro (del h' (tid::X))) rows→Q (.exit 2) e' h' n'):dC (uL ro) e h nx Q:=by
 have hlt:=hf.lt' hg
 refine bD (fun j e h' nx'=>∃ (k:Nat) (ws:List Value) (nv:Value),k+j=rows.length∧nx≤nx'∧e 2=w2∧e 3=w3∧e 6=ptr tid∧e 19=w19∧e 20=w20∧e 21=w21∧e 33=nvs∧e 34=.int .i64 rows.length∧e 35=.int .i64 k ∧
  h'.get tid=some (.cells [bU,R',U',nv].toArray aR)∧bL h' nv 1 bP (wsC ws) nx∧ws.length=k∧(∀ (i:Nat) w row,ws[i]?=some w→rows[i]?=some row→v8 ro (del h' (tid::(x9 nv++X))) [w] row)∧eI [tid] h h'∧Fr h' nx') ?_ (n:=rows.length)
  ⟨0,[],bU,by omega,by omega,e2,e3,e6,e19,e20,e21,e33,e34,e35,hg,bL.nil,rfl,fun i w row hw=>by simp at hw,(aU.refl h).keepL,hf⟩
 rintro j e h' nx' ⟨k,ws,nv,hj,hnx,e2,e3,e6,e19,e20,e21,e33,e34,e35,hg',ho',hwl,hfa,hk',hf'⟩ Q' hq hx
 unfold uL
 rw[e33,e34,e35]
 refine cM (fun hk=>?_) (fun hk=>?_)
 ·have hk:k < rows.length:=by omega
  have hD:aU (del h [tid]) h':=hk'.delS fun k h=>h
  have hs':=hsrc.sub hD (v8.sub hD)
  have hix:=hs'.ix .i64 hk
  obtain⟨w0,⟨w0',hw1,hw2,hw3⟩,hld⟩:=hs'.at1 hk
  simp only[List.cons.injEq,and_true] at hw1
  subst hw1
  have hrk:rows[k]?=some rows[k]:=List.getElem?_eq_getElem _
  obtain⟨b1,b2,b3⟩:=hrow _ (List.getElem_mem hk)
  generalize rows[k]=row at hw2 hw3 hrk b1 b2 b3
  obtain⟨cs,c1,c2,c3,c4,c5⟩:=aVr hw2
  (repeat refine zzC ?_)
  refine aB hix (aB hld ?_)
  refine aJN c1 c3 (by omega) (hf'.mono (by omega)) fun r h1 n1 hn1 hf1 hs1 ho1=>?_
  have hlnr:=(ho1.sl (ro:=ro)).len
  rw[c2] at hlnr
  rcases ho1 with ⟨_,hnil⟩ | ⟨mid,hmid,rfl,hz1,hg1⟩
  ·exact absurd (List.length_eq_zero_iff.1 (by rw[← c2,hnil]; rfl)) b1
  rw[c2]
  refine aB rfl ?_
  have hmlt:=hf1.lt' hg1
  have hs1m:aU h' (del h1 [mid]):=hs1.delN hf' fun i hi=>by simp at hi; omega
  refine aWI (ro:=ro) (mid:=mid) (row:=row) (mcs0:=cs) (nA:=nx'+6) (X:=tid::(x9 nv++X)) e2 e3 e6 e19 e20 e21 e33 e34 e35 rfl rfl rfl rfl hg1 c2 hz1 b2 (fun i x m hxi hmi=>?_) (hf1.mono (by omega)) (fun k hk=>?_) hmid (by omega) ?_
  ·obtain⟨ov,rfl,hov,_⟩:=c5 i x m hxi hmi
   exact⟨ov,rfl,hov.sub hs1m fun _ _ h=>h,b3 m (List.mem_of_getElem? hmi)⟩
  ·rcases List.mem_cons.1 hk with rfl | hk
   ·have:=hf'.lt' hg'; omega
   ·rcases List.mem_append.1 hk with hk | hk
    ·have h9:=(ho'.blk (qQ.1 hk)).2
     have:=hf'.lt' h9; omega
    ·have:=hX k hk; omega
  ·intro e4 h2 n2 f2 f3 f6 f9 f19 f20 f21 f33 f34 f35 hn2 hf2 hk2 hrw
   have hs2:aU h' h2:=fun k o hk=>hk2 k o (hs1 k o hk) fun hm=>by have:=hf'.lt' hk; simp at hm; omega
   have hg2:=hs2 _ _ hg'
   have ho2:=ho'.keepS hs2
   have hj5:∀ (e5:dF) n3,e5 2=w2→e5 3=w3→e5 6=ptr tid→e5 9=.slice (some (own mid 2)) row.length row.length→e5 19=w19→e5 20=w20→e5 21=w21→e5 33=nvs→e5 34=.int .i64 rows.length→e5 35=.int .i64 k→n2≤n3→qN ro Q' e5 h2 n3:=by
    intro e5 n3 u2 u3 u6 u9 u19 u20 u21 u33 u34 u35 hn3
    unfold qN
    rw[u6,u9]
    (repeat refine zzC ?_)
    refine aB (bE (l:=[bU,R',U',nv]) hg2 rfl) ?_
    obtain⟨i,t1,t2,t3⟩:=aVy
    have hn1lt:lK nv≠some (n3+3):=fun e=>by
     have h9:=(ho2.blk e).2
     have:=hf2.lt' h9; omega
    refine aMa (z:=1) (l:=wsC ws) (y:=[.slice (some (own mid 2)) row.length row.length]) (aV7 _ _ _ _) rfl ho2 aUk t1 (by omega) (by omega) aWD rfl rfl (by rw[aKJ,t3]; unfold oB; omega) (by rw[aKJ]; unfold oB; omega) (hf2.mono (by omega)) (by omega) (by omega) hn1lt fun h3 ho3 hk3 hf3=>?_
    have ewc:wsC ws++[[.slice (some (own mid 2)) row.length row.length]]=wsC (ws++[.slice (some (own mid 2)) row.length row.length]):=by simp[wsC]
    rw[ewc] at ho3 ⊢
    generalize hnv:Value.slice (some (own (n3+5) 1)) (wsC (ws++[.slice (some (own mid 2)) row.length row.length])).length (wsC (ws++[.slice (some (own mid 2)) row.length row.length])).length=nv2 at ho3
    have hsb2:lK nv2=some (n3+5):=by rw[← hnv]; rfl
    have hg3:=hk3 _ _ hg2 (by have:=hf2.lt' hg2; omega) (fun e=>(ho2.ne hg2 (by decide)) e)
    dsimp only
    (repeat refine zzC ?_)
    refine aB (cE (l:=[bU,R',U',nv]) hg3 (by show 3 < 4; omega) ho3.ok (by rw[← hnv]; rfl)) ?_
    have hk4:eI (tid::x9 nv) h2 (h3.upd tid (some (.cells ([bU,R',U',nv].set 3 nv2).toArray aR))):=fun k o hk hn=>by
     have h9:k≠tid:=fun e=>hn (by rw[e]; exact List.mem_cons_self ..)
     have h10:lK nv≠some k:=fun e=>hn (List.mem_cons_of_mem _ (qQ.2 e))
     rw[T.get_upd_ne _ _ h9]
     exact hk3 k o hk (by have:=hf2.lt' hk; omega) h10
    have ho4:bL (h3.upd tid (some (.cells ([bU,R',U',nv].set 3 nv2).toArray aR))) nv2 1 bP (wsC (ws++[.slice (some (own mid 2)) row.length row.length])) nx:=by
     have hkk:eI [tid] h3 (h3.upd tid (some (.cells ([bU,R',U',nv].set 3 nv2).toArray aR))):=(aU.refl h3).keepL.upd (by simp)
     exact ho3.keepK hkk fun id hid hm=>by rw[hsb2] at hid; cases hid; simp at hm; have:=hf2.lt' hg2; omega
    have hf4:Fr (h3.upd tid (some (.cells ([bU,R',U',nv].set 3 nv2).toArray aR))) (n3+6):=(hf3.mono (by omega)).upd (Nat.le_refl _) (by omega)
    have g4:(h3.upd tid (some (.cells ([bU,R',U',nv].set 3 nv2).toArray aR))).get tid=some (.cells [bU,R',U',nv2].toArray aR):=T.get_upd_same _ _ _
    generalize (h3.upd tid (some (.cells ([bU,R',U',nv].set 3 nv2).toArray aR)))=h4 at hk4 ho4 hf4 g4
    have hmono:aU (del h2 (tid::(x9 nv++X))) (del h4 (tid::(x9 nv2++X))):=hk4.del (fun k hk=>by
      rcases List.mem_cons.1 hk with rfl | hk
      ·exact List.mem_cons_self ..
      ·exact List.mem_cons_of_mem _ (List.mem_append.2 (.inl hk))) fun k hk=>by
     rcases List.mem_cons.1 hk with rfl | hk
     ·exact .inl (List.mem_cons_self ..)
     ·rcases List.mem_append.1 hk with hk | hk
      ·have:=qQ.1 hk
       rw[hsb2] at this
       cases this
       exact .inr (hf2 _ (by omega))
      ·exact .inl (List.mem_cons_of_mem _ (List.mem_append.2 (.inr hk)))
    have hj4:∀ (e6':dF) n6,e6' 2=w2→e6' 3=w3→e6' 6=ptr tid→e6' 19=w19→e6' 20=w20→e6' 21=w21→e6' 33=nvs→e6' 34=.int .i64 rows.length→e6' 35=.int .i64 k→n3+6≤n6→qM ro Q' e6' h4 n6:=by
     intro e6' n6 v2 v3 v6 v19 v20 v21 v33 v34 v35 hn6
     unfold qM
     rw[v35]
     (repeat refine zzC ?_)
     refine hq (j - 1) _ _ _ _ (by omega) ⟨k+1,ws++[.slice (some (own mid 2)) row.length row.length],nv2,by omega,by omega,v2,v3,v6,v19,v20,v21,v33,v34,rfl,g4,ho4,by simp[hwl],fun i w row' hwi hri=>?_,fun k' o hk9 hn9=>?_,hf4.mono (by omega)⟩ (aU.refl _)
     ·rcases Nat.lt_or_ge i ws.length with hi | hi
      ·rw[List.getElem?_append_left hi] at hwi
       have h9:=hfa i w row' hwi hri
       have hkeep2:aU (del h' (tid::(x9 nv++X))) (del h2 (tid::(x9 nv++X))):=(aU.keepL hs2:eI [] h' h2).del (fun k hk=>by cases hk) fun k hk=>.inl hk
       exact v8.sub (hkeep2.trans hmono) _ _ h9
      ·rw[List.getElem?_append_right hi] at hwi
       have hlt9:=(List.getElem?_eq_some_iff.1 hwi).1
       have:i=k:=by simp at hlt9; omega
       subst this
       rw[hrk] at hri
       cases hri
       have:w=.slice (some (own mid 2)) row.length row.length:=by have:=List.mem_of_getElem? hwi; simpa using this
       subst this
       exact⟨_,rfl,hrw.sub hmono (aBg.sub hmono),by unfold aAP; omega⟩
     ·have h10:=hs2 _ _ (hk' k' o hk9 hn9)
      have hk'lt:=hf.lt' hk9
      refine hk4 k' o h10 fun hm=>?_
      rcases List.mem_cons.1 hm with rfl | hm
      ·exact hn9 (by simp)
      ·have:=(ho2.blk (qQ.1 hm)).1; omega
    exact hj4 _ _ u2 u3 u6 u19 u20 u21 u33 u34 u35 (by omega)
   refine d3 (cU ?_)
   exact hj5 _ _ f2 f3 f6 f9 f19 f20 f21 f33 f34 f35 (Nat.le_refl _)
 ·(repeat refine zzC ?_)
  refine hx _ _ _ _ (fun e=>by cases e) ?_
  have hnt:∀ id,lK nv=some id→id ∉ tid::X:=fun id hid hm=>by
   have h9:=ho'.blk hid
   rcases List.mem_cons.1 hm with rfl | hm
   ·exact (ho'.ne hg' (by decide)) hid
   ·have:=hX id hm; omega
  have hsub:aU (del h' (tid::(x9 nv++X))) (del h' (tid::X)):=aA3 fun k hk=>by
   rcases List.mem_cons.1 hk with rfl | hk
   ·exact List.mem_cons_self ..
   ·exact List.mem_cons_of_mem _ (List.mem_append.2 (.inr hk))
  refine hQ _ _ _ nv e2 e3 e6 e19 e20 e21 (by omega) (hf'.mono (by omega)) hk' hg' ⟨wsC ws,(ho'.del hnt).sl,by rw[aKJ]; omega,fun i x row hxi hri=>?_⟩
  simp only[wsC,List.getElem?_map] at hxi
  cases hw:ws[i]? with
  | none=>rw[hw] at hxi; cases hxi
  | some w =>
   rw[hw] at hxi
   cases hxi
   exact v8.sub hsub _ _ (hfa i w row hw hri)
end
end V
end Go.Proofs.YtjndkdmkecpllaaGreat
namespace Go.Proofs.YtjndkdmkecpllaaGreat
namespace V
attribute [local irreducible] aA bF aV dL eJ iM dE
def erS (s:StateD):StateD:=⟨[],s.r,s.rule,s.next⟩
def er (d:AutoD):AutoD:=⟨d.c,d.many,d.counts,d.states.map erS⟩
theorem aDx {P:Program}{t:TypeId}{z:Array Value}{fs:Array Field}{pl:List (Nat × Nat)}{parts:List (Nat × Value)}{l:List Value} (h1:i8 P t=some (.agg z)) (h2:gG P t=some (.struct fs)) (h3:oE P fs.toList=some pl) (h4:nL (pl[·]?) z.toList parts=some l):cX P t parts=some (.agg l.toArray):=by
 unfold cX
 rw[h1]
 simp only[Option.bind,h2,h3,Value.cells_agg,h4]
theorem aSo {P:Program}{t:TypeId}{pl:List (Nat × Nat)} (h:((gG P t).bind fun d=>match d with
  | .struct fs=>oE P fs.toList
  | _=>none)=some pl):∃ fs,gG P t=some (.struct fs)∧oE P fs.toList=some pl:=by
 obtain⟨d,h2,h3⟩:=aM h
 cases d<;>try (cases h3; done)
 exact⟨_,h2,h3⟩
theorem aLb {a b c:List Value} (h:c.length=a.length):over (a++b) 0 c=c++b:=by
 unfold over
 rw[List.take_zero,List.nil_append,Nat.zero_add,h,List.drop_left]
theorem aK5 {c:List Nat}{n:Int}{cv:Value} (hc:c.length=256) (hcv:cv.cells=#[cv]):cX Tryz.prog bI [(0,mW c n),(1,cv)]=some (.agg (eK c n cv bU).toArray):=by
 obtain⟨fs,h1,h2⟩:=aSo (P:=Tryz.prog) (t:=bI) (pl:=[(0,257),(257,1),(258,1)]) (by kernel_rfl)
 refine aDx aBX h1 h2 ?_
 have hs:(fI (List.replicate 256 0) 0).length=257:=dV List.length_replicate
 have hs2:(fI c n).length=257:=dV hc
 have e1:Nat.beq (mW c n).cells.size 257=true:=by rw[oH]; simp[hs2]
 have e2:Nat.ble (0+257) nB.length=true:=by rw[nG]; rfl
 have o1:over nB 0 (mW c n).cells.toList=eK c n bU bU:=by
  rw[oH]
  exact aLb (by rw[hs,hs2])
 have e3:Nat.beq cv.cells.size 1=true:=by rw[hcv]; rfl
 have e4:Nat.ble (257+1) (eK c n bU bU).length=true:=by rw[cV hc]; rfl
 have o2:over (eK c n bU bU) 257 cv.cells.toList=eK c n cv bU:=by
  rw[hcv]
  show over _ 257 [cv]=_
  rw[aGi _ (by rw[cV hc]; omega),aEj hc]
 show nL _ nB _=_
 simp only[nL,List.getElem?_cons_zero,List.getElem?_cons_succ,Option.bind,e1,e2,o1,e3,e4,o2]
theorem aLI {P:Program}{h:T Obj}{a n:Nat}{ty:TypeId}{zv v:Value}{x:List Value}{K:T Obj→Prop} (hz:i8 P ty=some zv) (hzs:zv.cells.size=n) (hv:v.cells=x.toArray) (hx:x.length=n) (hok:x.all bV=true)
  (hK:∀ h',h'.get a=some (.cells x.toArray ty)→(∀ k,k≠a→h'.get k=h.get k)→K h') :
  aA (i8 P ty) fun z=>dL h a (.cells z.cells ty) fun h1=>aA (bH n h1 (ptr a) v) K:=by
 refine aB hz (aD (aB (eF (l:=zv.cells.toList) (vs:=x) (e:=ty) (f:=(0,0)) (by rw[T.get_upd_same]) hv hx (by simpa using hzs) hok) ?_))
 exact hK _ (by rw[T.get_upd_same]) fun k hk=>by rw[T.get_upd_ne _ _ hk,T.get_upd_ne _ _ hk]
theorem aJL (a b:Value) (h1:a.cells=#[a]) (h2:b.cells=#[b]):cX Tryz.prog aR [(1,a),(2,b)]=some (.agg #[bU,a,b,bU]):=by
 obtain⟨fs,g1,g2⟩:=aSo (P:=Tryz.prog) (t:=aR) (pl:=[(0,1),(1,1),(2,1),(3,1)]) (by kernel_rfl)
 refine aDx oI g1 g2 ?_
 simp only[nL,List.getElem?_cons_zero,List.getElem?_cons_succ,Option.bind,h1,h2]
 rfl
theorem bL.cells {h:T Obj}{v:Value}{z:Nat}{e:TypeId}{l:List (List Value)}{lo:Nat} (ho:bL h v z e l lo):v.cells=#[v]:=by
 rcases ho with ⟨rfl,_⟩ | ⟨id,_,rfl,_⟩<;>rfl
def Fit (d:AutoD):Prop:=d.counts.length≤1000000∧d.states.length≤1000000∧∀ s∈d.states,s.r.length≤1000000∧s.rule.length≤1000000∧s.next.length≤1000000∧∀ row∈s.next,row≠[]∧row.length≤1000000∧∀ m∈row,m.ops.length≤1000000
section
variable {ro:Ro}{h:T Obj}{nx:Nat}{Q:KE}{e:dF}
set_option maxRecDepth 8000 in
set_option maxHeartbeats 2000000 in
theorem aWG {X:List Nat}{rid oid:Nat}{c:List Nat}{n:Int}{cv svs:Value}{S:List StateD} (hc:c.length=256) (e2:e 2=ptr rid) (e3:e 3=ptr oid) (e19:e 19=svs) (e20:e 20=.int .i64 S.length) (e21:e 21=.int .i64 0)
  (hg:h.get oid=some (.cells (eK c n cv bU).toArray bI)) (hgr:h.get rid=some (.cells nB.toArray bI)) (hro:rid≠oid) (hsrc:gD ro (del h [oid]) svs 4 (eR ro (del h [oid])) S) (hlen:S.length≤1000000)
  (hfit:∀ s∈S,s.r.length≤1000000∧s.rule.length≤1000000∧s.next.length≤1000000∧∀ row∈s.next,row≠[]∧row.length≤1000000∧∀ m∈row,m.ops.length≤1000000) (hf:Fr h nx) (hX:∀ k∈X,k < nx)
  (hQ:∀ (e':dF) h' n' sv,e' 2=ptr rid→e' 3=ptr oid→nx≤n'→Fr h' n'→eI [oid] h h'→h'.get oid=some (.cells (eK c n cv sv).toArray bI)→bV sv=true →
   gD ro (del h' (oid::X)) sv 4 (eR ro (del h' (oid::X))) (S.map erS)→Q (.exit 0) e' h' n'):dC (uK ro) e h nx Q:=by
 have hlt:=hf.lt' hg
 have hltr:=hf.lt' hgr
 refine bD (fun j e h' nx'=>∃ (k:Nat) (cs:List (List Value)) (sv:Value),k+j=S.length∧nx≤nx'∧e 2=ptr rid∧e 3=ptr oid∧e 19=svs∧e 20=.int .i64 S.length∧e 21=.int .i64 k ∧
  h'.get oid=some (.cells (eK c n cv sv).toArray bI)∧bL h' sv 4 aR cs nx∧cs.length=k∧(∀ (i:Nat) x s,cs[i]?=some x→S[i]?=some s→eR ro (del h' (oid::(x9 sv++X))) x (erS s))∧eI [oid] h h'∧Fr h' nx') ?_ (n:=S.length)
  ⟨0,[],bU,by omega,by omega,e2,e3,e19,e20,e21,hg,bL.nil,rfl,fun i x s hx=>by simp at hx,(aU.refl h).keepL,hf⟩
 rintro j e h' nx' ⟨k,cs,sv,hj,hnx,e2,e3,e19,e20,e21,hg',ho',hcl,hfa,hk',hf'⟩ Q' hq hx
 unfold uK
 rw[e19,e20,e21]
 refine cM (fun hk=>?_) (fun hk=>?_)
 ·have hk:k < S.length:=by omega
  have hD:aU (del h [oid]) h':=hk'.delS fun k h=>h
  have hs':=hsrc.sub hD (eR.sub hD)
  have hix:=hs'.ix .i64 hk
  have hsk:S[k]?=some S[k]:=List.getElem?_eq_getElem _
  obtain⟨x,⟨lv,rv,uv,nv,rfl,y1,y2,y3,y4,y5⟩,hx2,hx3,hx4,hx5⟩:=hs'.at hk
  obtain⟨b1,b2,b3,b4⟩:=hfit _ (List.getElem_mem hk)
  generalize S[k]=s at y1 y2 y3 y4 y5 b1 b2 b3 b4 hsk
  have hlt':=hf'.lt' hg'
  (repeat refine zzC ?_)
  refine aB hix (aB hx3 ?_)
  refine gP (x:=[lv,rv,uv,nv]) oI rfl rfl rfl (by simp[y1.ok,y2.ok,y3.ok,gD.okC y4]) hf' (by omega) fun h1 hs1 hf1 g1 _=>?_
  (repeat refine zzC ?_)
  refine aB (bE (l:=[lv,rv,uv,nv]) g1 rfl) ?_
  refine aEm (y2.sub hs1) b1 (hf1.mono (by omega)) fun R' h2 n2 hn2 hf2 hs2 ho2=>?_
  (repeat refine zzC ?_)
  refine aB (bE (l:=[lv,rv,uv,nv]) (hs2 _ _ g1) rfl) ?_
  refine⟨qA g1 (hs2 _ _ g1),?_⟩
  refine aEm (y3.sub (hs1.trans hs2)) b2 hf2 fun U' h3 n3 hn3 hf3 hs3 ho3=>?_
  refine aB (aJL _ _ ho2.cells ho3.cells) ?_
  refine aLI (x:=[bU,R',U',bU]) oI rfl rfl rfl (by simp[show bV bU=true from rfl,ho2.ok,ho3.ok]) fun h4 g4 ho4=>?_
  have hs13:aU h' h3:=(hs1.trans hs2).trans hs3
  have hs4:aU h' h4:=fun k o hk=>by rw[ho4 k (by have:=hf'.lt' hk; omega)]; exact hs13 k o hk
  have hs4t:aU h' (del h4 [nx'+12]):=fun k o hk=>mD (hs4 k o hk) (by have:=hf'.lt' hk; simp; omega)
  have hf4:Fr h4 n3:=fun k hk=>by rw[ho4 k (by omega)]; exact hf3 k hk
  have g14:h4.get (nx'+3)=some (.cells [lv,rv,uv,nv].toArray aR):=by rw[ho4 _ (by omega)]; exact hs3 _ _ (hs2 _ _ g1)
  have hnl:=(y4.sub hs4 (v8.sub hs4)).len
  (repeat refine zzC ?_)
  refine aB (bE (l:=[lv,rv,uv,nv]) g14 rfl) ?_
  refine aB hnl ?_
  refine aWH (ro:=ro) (tid:=nx'+12) (rows:=s.next) (R':=R') (U':=U') (X:=oid::(x9 sv++X)) (nA:=nx') e2 e3 rfl e19 e20 e21 rfl rfl rfl g4 b3 (y4.sub hs4t (v8.sub hs4t)) b4 (hf4.mono (by omega)) (fun k hk=>?_) (by omega) (by omega) ?_
  ·rcases List.mem_cons.1 hk with rfl | hk
   ·exact hlt'
   ·rcases List.mem_append.1 hk with hk | hk
    ·exact hf'.lt' (ho'.blk (qQ.1 hk)).2
    ·have:=hX k hk; omega
  ·intro e5 h5 n5 nv5 f2 f3 f6 f19 f20 f21 hn5 hf5 hk5 g5 hnx5
   have hs5:aU h' h5:=fun k o hk=>hk5 k o (hs4 k o hk) (by have:=hf'.lt' hk; simp; omega)
   have hg5:=hs5 _ _ hg'
   have ho5:=ho'.keepS hs5
   have hR5:bL h5 R' 1 cI (fK s.r) (nx'+14):=((ho2.keepS hs3).keepK (ids:=[nx'+12]) (h':=h4) (fun k o hk hn=>by rw[ho4 k (by simpa using hn)]; exact hk) fun id hid hm=>by have:=(ho2.blk hid).1; simp at hm; omega).keepK hk5 fun id hid hm=>by have:=(ho2.blk hid).1; simp at hm; omega
   have hU5:bL h5 U' 1 cI (fK s.rule) n2:=(ho3.keepK (ids:=[nx'+12]) (h':=h4) (fun k o hk hn=>by rw[ho4 k (by simpa using hn)]; exact hk) fun id hid hm=>by have:=(ho3.blk hid).1; simp at hm; omega).keepK hk5 fun id hid hm=>by have:=(ho3.blk hid).1; simp at hm; omega
   have hXlt:∀ k∈oid::(x9 sv++X),k < nx':=fun k hk=>by
    rcases List.mem_cons.1 hk with rfl | hk
    ·exact hlt'
    ·rcases List.mem_append.1 hk with hk | hk
     ·exact hf'.lt' (ho'.blk (qQ.1 hk)).2
     ·have:=hX k hk; omega
   have hst:eR ro (del h5 (oid::(x9 sv++X))) [bU,R',U',nv5] (erS s):=by
    refine⟨bU,R',U',nv5,rfl,Sl.nil,(hR5.del fun id hid hm=>?_).sl,(hU5.del fun id hid hm=>?_).sl,hnx5.sub (aA3 fun k hk=>List.mem_cons_of_mem _ hk) (v8.sub (aA3 fun k hk=>List.mem_cons_of_mem _ hk)),y5⟩
    ·have:=(hR5.blk hid).1; have:=hXlt id hm; omega
    ·have:=(hU5.blk hid).1; have:=hXlt id hm; omega
   have hnv5:bV nv5=true:=gD.okC hnx5
   have hj3:∀ (e6:dF) n6,e6 2=ptr rid→e6 3=ptr oid→e6 6=ptr (nx'+12)→e6 19=svs→e6 20=.int .i64 S.length→e6 21=.int .i64 k→n5≤n6→qL ro Q' e6 h5 n6:=by
    intro e6 n6 u2 u3 u6 u19 u20 u21 hn6
    unfold qL
    rw[u3,u6]
    (repeat refine zzC ?_)
    refine aB (bE hg5 (nF hc)) ?_
    refine aB (bX (l:=[bU,R',U',nv5]) g5 rfl) ?_
    obtain⟨i,t1,t2,t3⟩:=aIx
    have hn1lt:lK sv≠some (n6+3):=fun e=>by
     have h9:=(ho5.blk e).2
     have:=hf5.lt' h9; omega
    refine aMa (z:=4) (l:=cs) (y:=[bU,R',U',nv5]) (aEO _ _ _ _ _) rfl ho5 aHZ t1 (by omega) (by omega) oI rfl (by simp[show bV bU=true from rfl,hR5.ok,hU5.ok,hnv5]) (by rw[t3]; unfold oB; omega) (by unfold oB; omega) (hf5.mono (by omega)) (by omega) (by omega) hn1lt fun h7 ho7 hk7 hf7=>?_
    generalize hnv:Value.slice (some (own (n6+5) 4)) (cs++[[bU,R',U',nv5]]).length (cs++[[bU,R',U',nv5]]).length=sv2 at ho7
    have hsb2:lK sv2=some (n6+5):=by rw[← hnv]; rfl
    have hg7:=hk7 _ _ hg5 (by have:=hf5.lt' hg5; omega) (fun e=>(ho5.ne hg5 (by decide)) e)
    dsimp only
    (repeat refine zzC ?_)
    refine aB (cE hg7 (by rw[cV hc]; omega) ho7.ok (by rw[← hnv]; rfl)) ?_
    rw[aKW hc]
    have hk8:eI (oid::x9 sv) h5 (h7.upd oid (some (.cells (eK c n cv sv2).toArray bI))):=fun k o hk hn=>by
     have h9:k≠oid:=fun e=>hn (by rw[e]; exact List.mem_cons_self ..)
     have h10:lK sv≠some k:=fun e=>hn (List.mem_cons_of_mem _ (qQ.2 e))
     rw[T.get_upd_ne _ _ h9]
     exact hk7 k o hk (by have:=hf5.lt' hk; omega) h10
    have ho8:bL (h7.upd oid (some (.cells (eK c n cv sv2).toArray bI))) sv2 4 aR (cs++[[bU,R',U',nv5]]) nx:=by
     have hkk:eI [oid] h7 (h7.upd oid (some (.cells (eK c n cv sv2).toArray bI))):=(aU.refl h7).keepL.upd (by simp)
     exact ho7.keepK hkk fun id hid hm=>by rw[hsb2] at hid; cases hid; simp at hm; have:=hf5.lt' hg5; omega
    have hf8:Fr (h7.upd oid (some (.cells (eK c n cv sv2).toArray bI))) (n6+6):=(hf7.mono (by omega)).upd (Nat.le_refl _) (by omega)
    have g8:(h7.upd oid (some (.cells (eK c n cv sv2).toArray bI))).get oid=some (.cells (eK c n cv sv2).toArray bI):=T.get_upd_same _ _ _
    generalize (h7.upd oid (some (.cells (eK c n cv sv2).toArray bI)))=h8 at hk8 ho8 hf8 g8
    have hmono:aU (del h5 (oid::(x9 sv++X))) (del h8 (oid::(x9 sv2++X))):=hk8.del (fun k hk=>by
      rcases List.mem_cons.1 hk with rfl | hk
      ·exact List.mem_cons_self ..
      ·exact List.mem_cons_of_mem _ (List.mem_append.2 (.inl hk))) fun k hk=>by
     rcases List.mem_cons.1 hk with rfl | hk
     ·exact .inl (List.mem_cons_self ..)
     ·rcases List.mem_append.1 hk with hk | hk
      ·have:=qQ.1 hk
       rw[hsb2] at this
       cases this
       exact .inr (hf5 _ (by omega))
      ·exact .inl (List.mem_cons_of_mem _ (List.mem_append.2 (.inr hk)))
    have hj2:∀ (e9:dF) n9,e9 2=ptr rid→e9 3=ptr oid→e9 19=svs→e9 20=.int .i64 S.length→e9 21=.int .i64 k→n6+6≤n9→qK ro Q' e9 h8 n9:=by
     intro e9 n9 v2 v3 v19 v20 v21 hn9
     unfold qK
     rw[v21]
     (repeat refine zzC ?_)
     refine hq (j - 1) _ _ _ _ (by omega) ⟨k+1,cs++[[bU,R',U',nv5]],sv2,by omega,by omega,v2,v3,v19,v20,rfl,g8,ho8,by simp[hcl],fun i x s' hxi hsi=>?_,fun k' o hk9 hn9=>?_,hf8.mono (by omega)⟩ (aU.refl _)
     ·rcases Nat.lt_or_ge i cs.length with hi | hi
      ·rw[List.getElem?_append_left hi] at hxi
       have h9:=hfa i x s' hxi hsi
       have hkeep2:aU (del h' (oid::(x9 sv++X))) (del h5 (oid::(x9 sv++X))):=(aU.keepL hs5:eI [] h' h5).del (fun k hk=>by cases hk) fun k hk=>.inl hk
       exact eR.sub (hkeep2.trans hmono) _ _ h9
      ·rw[List.getElem?_append_right hi] at hxi
       have hlt9:=(List.getElem?_eq_some_iff.1 hxi).1
       have:i=k:=by simp at hlt9; omega
       subst this
       rw[hsk] at hsi
       cases hsi
       have:x=[bU,R',U',nv5]:=by have:=List.mem_of_getElem? hxi; simpa using this
       subst this
       exact eR.sub hmono _ _ hst
     ·have h10:=hs5 _ _ (hk' k' o hk9 hn9)
      have hk'lt:=hf.lt' hk9
      refine hk8 k' o h10 fun hm=>?_
      rcases List.mem_cons.1 hm with rfl | hm
      ·exact hn9 (by simp)
      ·have:=(ho5.blk (qQ.1 hm)).1; omega
    exact hj2 _ _ u2 u3 u19 u20 u21 (by omega)
   refine d3 (cU ?_)
   exact hj3 _ _ f2 f3 f6 f19 f20 f21 (Nat.le_refl _)
 ·(repeat refine zzC ?_)
  refine hx _ _ _ _ (fun e=>by cases e) ?_
  have hnt:∀ id,lK sv=some id→id ∉ oid::X:=fun id hid hm=>by
   have h9:=ho'.blk hid
   rcases List.mem_cons.1 hm with rfl | hm
   ·exact (ho'.ne hg' (by decide)) hid
   ·have:=hX id hm; omega
  have hsub:aU (del h' (oid::(x9 sv++X))) (del h' (oid::X)):=aA3 fun k hk=>by
   rcases List.mem_cons.1 hk with rfl | hk
   ·exact List.mem_cons_self ..
   ·exact List.mem_cons_of_mem _ (List.mem_append.2 (.inr hk))
  refine hQ _ _ _ sv e2 e3 (by omega) (hf'.mono (by omega)) hk' hg' ho'.ok ⟨cs,(ho'.del hnt).sl,by rw[List.length_map]; omega,fun i x s hxi hsi=>?_⟩
  rw[List.getElem?_map] at hsi
  cases hs:S[i]? with
  | none=>rw[hs] at hsi; cases hsi
  | some s0 =>
   rw[hs] at hsi
   cases hsi
   exact eR.sub hsub _ _ (hfa i x s0 hxi hs)
end
end V
end Go.Proofs.YtjndkdmkecpllaaGreat
namespace Go.Proofs.YtjndkdmkecpllaaGreat
namespace V
attribute [local irreducible] aA bF aV dL eJ iM dE
theorem aVd {d:AutoD} (ha:gU d=true) (hcl:d.c.length=256):Fit d:=by
 obtain⟨h1,h2,h3,h4,h5,h6⟩:=iV ha
 have hm0:=aMG hcl h1 0 (by omega)
 have hm:=aHI h1
 refine⟨by omega,by omega,fun s hs=>?_⟩
 have hk:=h6 s hs
 obtain⟨k1,k2,k3,k4,k5⟩:=aBS hk
 have hc:=aGD (s.r.length:Int)
 refine⟨by omega,by omega,by omega,fun row hrow=>?_⟩
 obtain⟨i,hi⟩:=List.getElem?_of_mem hrow
 have hlt:=(List.getElem?_eq_some_iff.1 hi).1
 have hro:=aKB k5 (by omega) i row _ hi (List.getElem?_eq_getElem (by omega))
 unfold aBO at hro
 simp only[Bool.and_eq_true,decide_eq_true_eq] at hro
 obtain⟨_,_,r3,r4⟩:=hro
 refine⟨fun e=>by rw[e] at r3; simp at r3; omega,by omega,fun m hm=>?_⟩
 have:=aJi (S:=[]) ha (List.all_eq_true.1 r4 m hm)
 omega
theorem aDK (S:List StateD) (i:Nat):(S.map erS).getD i noS=erS (S.getD i noS):=by
 rw[List.getD_eq_getElem?_getD,List.getD_eq_getElem?_getD,List.getElem?_map]
 cases S[i]?<;>rfl
theorem aKG (d:AutoD) (m:MacD):gQ (er d) m=erS (gQ d m):=aDK _ _
theorem aSd (d:AutoD) (m:MacD):vT (er d) m=vT d m:=by unfold vT; rw[aKG]; rfl
theorem aLW (d:AutoD) (m:MacD) (b:Nat):oK (er d) m b=oK d m b:=by unfold oK; rw[aKG]; rfl
theorem aRq (d:AutoD) (t:Int):qR (er d) t=qR d t:=by
 unfold qR
 show (if t=-1 then [] else ((d.states.map erS).getD t.toNat noS).r)=_
 rw[aDK]; rfl
theorem aVe (d:AutoD) (m:MacD) (b:Nat):onM (er d) m b=onM d m b:=by unfold onM; rw[aLW]
theorem aSr (d:AutoD) (m:MacD) (b:Nat):kO (er d) m b=kO d m b:=by unfold kO; rw[aLW,aRq,aKG]; rfl
theorem aLK (d:AutoD):∀ (l:List Nat) (i:Int) (m:MacD) (r:Int × Int × Bool),aBr (er d) l i m r=aBr d l i m r
 | [],_,_,_=>rfl
 | b::l,i,m,r=>by rw[zL,zL,aVe,aSr,aSd,aLK d l]
theorem aR2 (d:AutoD) (s:List Nat) (f:Int) (m:MacD):aBs (er d) s f m=aBs d s f m:=by unfold aBs; rw[aLK]
theorem aPa {S:List StateD}{R:List Int} (m:MoveD):kX (S.map erS) R m=kX S R m:=by
 unfold kX
 rw[aDK,List.length_map]; rfl
theorem aIo {S:List StateD}{R:List Int}{n:Int}:∀ (us:List Int) (rows:List (List MoveD)),rO (S.map erS) R n us rows=rO S R n us rows
 | [],_=>rfl
 | u::us,[]=>by rw[aCl,aCl]
 | u::us,row::rows=>by
  rw[sR,sR,aIo us rows]
  unfold aBO
  have:row.all (kX (S.map erS) R)=row.all (kX S R):=by congr 1; funext m; exact aPa m
  rw[this]
theorem aOi {d:AutoD} (ha:gU d=true):gU (er d)=true:=by
 unfold gU at ha ⊢
 simp only[Bool.and_eq_true,decide_eq_true_eq] at ha ⊢
 obtain⟨h1,h2,h3,h4,h5,h6,h7⟩:=ha
 refine⟨h1,h2,by show 1≤(d.states.map erS).length; rw[List.length_map]; exact h3,by show (d.states.map erS).length≤256; rw[List.length_map]; exact h4,?_,h6,?_⟩
 ·unfold aB4 at h5 ⊢
  simp only[Bool.and_eq_true,decide_eq_true_eq] at h5 ⊢
  refine⟨?_,?_⟩
  ·show ((d.states.map erS).getD 0 noS).l.length=0
   rw[aDK]; rfl
  ·show ((d.states.map erS).getD 0 noS).r.length=0
   rw[aDK]; exact h5.2
 ·show (d.states.map erS).all _=true
  rw[List.all_map,List.all_eq_true]
  intro s hs
  have:=List.all_eq_true.1 h7 s hs
  show kI (d.states.map erS) d.many d.counts.length (erS s)=true
  unfold kI at this ⊢
  simp only[Bool.and_eq_true,decide_eq_true_eq] at this ⊢
  obtain⟨k1,k2,k3,k4,k5,k6⟩:=this
  refine⟨k1,k2,k3,rfl,k5,?_⟩
  show rO (d.states.map erS) s.r d.many s.rule s.next=true
  rw[aIo]; exact k6
theorem aVI {d:AutoD}{m:MacD} (h:MOk d m):MOk (er d) m:=⟨by have:=h.1; show m.cur=-1∨0≤m.cur∧m.cur < ((d.states.map erS).length:Int); rw[List.length_map]; exact this,h.2⟩
section
variable {ro:Ro}{h:T Obj}{nx:Nat}{K:KV}
set_option maxRecDepth 8000 in
set_option maxHeartbeats 1000000 in
theorem aHh {X0:List Nat}{x:List Value}{d:AutoD} (hf:Fr h nx) (hX0:∀ k∈X0,k < nx) (hd:qF ro h x d) (hfit:Fit d) (hK:∀ cv sv h' nx',nx≤nx'→Fr h' nx'→aU h h'→qF ro (del h' X0) (eK d.c d.many cv sv) (er d)→K (.agg (eK d.c d.many cv sv).toArray) h' nx'):aN Tryz.prog ro xI [.agg x.toArray] h nx K:=by
 obtain⟨cv,sv,rfl,hc,hclt,hcv,hS,hb1,hb2⟩:=hd
 obtain⟨f1,f2,f3⟩:=hfit
 have m7:=pQ (n:=d.many) (cv:=cv) (sv:=sv) hc
 have m8:=nF (n:=d.many) (cv:=cv) (sv:=sv) hc
 apply aGN
 unfold aEv
 refine fV hf (Nat.le_refl _) fun h1 hs1 hf1 g1 _=>?_
 have g1:h1.get nx=some (.cells (eK d.c d.many cv sv).toArray bI):=g1
 refine aB aBX ?_
 refine zO hf1 (Nat.le_refl _) fun h2 hs2 hf2 g2 _=>?_
 have g2:h2.get (nx+1)=some (.cells nB.toArray bI):=g2
 have g12:=hs2 _ _ g1
 (repeat refine zzC ?_)
 refine aB (aVA g12 hc) ?_
 (repeat refine zzC ?_)
 refine aB (bE g12 m7) ?_
 refine aMl (hcv.sub (hs1.trans hs2) fun _ _ h=>h) f1 (hf2.mono (by omega)) fun cv' h3 n3 hn3 hf3 hs3 ho3=>?_
 have g13:=hs3 _ _ g12
 have g23:=hs3 _ _ g2
 refine⟨qA g12 g13,?_⟩
 refine aB (aK5 hc ho3.cells) ?_
 refine aLI (x:=eK d.c d.many cv' bU) aBX (by show nB.toArray.size=259; simp[nG]) rfl (cV hc) (aB0 ho3.ok rfl) fun h4 g4 hk4=>?_
 have g14:h4.get nx=some (.cells (eK d.c d.many cv sv).toArray bI):=by rw[hk4 _ (by omega)]; exact g13
 have g24:h4.get (nx+1)=some (.cells nB.toArray bI):=by rw[hk4 _ (by omega)]; exact g23
 have hs13:aU h h3:=(hs1.trans hs2).trans hs3
 have hs4:aU h h4:=fun k o hk=>by rw[hk4 k (by have:=hf.lt' hk; omega)]; exact hs13 k o hk
 have hs4o:aU h (del h4 [nx+8]):=fun k o hk=>mD (hs4 k o hk) (by have:=hf.lt' hk; simp; omega)
 have hf4:Fr h4 n3:=fun k hk=>by rw[hk4 k (by omega)]; exact hf3 k hk
 have hsl:=(hS.sub hs4 (eR.sub hs4)).len
 (repeat refine zzC ?_)
 refine aB (bE g14 m8) ?_
 refine aB hsl ?_
 refine aWG (ro:=ro) (X:=(nx+1)::X0) (rid:=nx+1) (oid:=nx+8) (S:=d.states) hc rfl rfl rfl rfl rfl g4 g24 (by omega) (hS.sub hs4o (eR.sub hs4o)) f2 f3 (hf4.mono (by omega)) (fun k hk=>by
  rcases List.mem_cons.1 hk with rfl | hk
  ·omega
  ·have:=hX0 k hk; omega) fun e5 h5 n5 sv5 u2 u3 hn5 hf5 hk5 g5 hsv5 hS5=>?_
 refine d3 (cU ?_)
 have g25:=hk5 _ _ g24 (by simp)
 have hj1:∀ (e6:dF),e6 2=ptr (nx+1)→e6 3=ptr (nx+8)→qJ ro K e6 h5 n5:=by
  intro e6 v2 v3
  unfold qJ
  rw[v2,v3]
  refine aB (bX g5 (cV hc)) ?_
  refine aB (eF (l:=nB) (vs:=eK d.c d.many cv' sv5) g25 rfl (cV hc) nG (aB0 ho3.ok hsv5)) ?_
  refine aB (bX (l:=eK d.c d.many cv' sv5) (by rw[T.get_upd_same]) (cV hc)) ?_
  have hk6:eI [nx+1] h5 (h5.upd (nx+1) (some (.cells (eK d.c d.many cv' sv5).toArray bI))):=(aU.refl h5).keepL.upd (by simp)
  have hf6:Fr (h5.upd (nx+1) (some (.cells (eK d.c d.many cv' sv5).toArray bI))) n5:=hf5.upd (Nat.le_refl _) (by have:=hf5.lt' g25; omega)
  generalize h5.upd (nx+1) (some (.cells (eK d.c d.many cv' sv5).toArray bI))=h6 at hk6 hf6
  have hd6:aU (del h5 ((nx+8)::(nx+1)::X0)) (del h6 X0):=fun k o hk=>by
   have h9:=(hk6.delS (l:=(nx+8)::(nx+1)::X0) fun k hk=>by simp at hk; simp[hk]) k o hk
   rw[jH] at hk
   split at hk
   ·cases hk
   ·rename_i hn; exact mD h9 fun hm=>hn (by simp[hm])
  have ho6:bL h6 cv' 2 eP (zA d.counts) (nx+10):=((ho3.keepK (ids:=[nx+8]) (h':=h4) (fun k o hk hn=>by rw[hk4 k (by simpa using hn)]; exact hk) fun id hid hm=>by have:=(ho3.blk hid).1; simp at hm; omega).keepK hk5 fun id hid hm=>by have:=(ho3.blk hid).1; simp at hm; omega).keepK hk6 fun id hid hm=>by have:=(ho3.blk hid).1; simp at hm; omega
  refine⟨h6,aU.refl _,hK cv' sv5 h6 _ (by omega) (hf6.mono (by omega)) (fun k o hk=>?_) ⟨cv',sv5,rfl,hc,hclt,aUy (ho6.del fun id hid hm=>by have:=(ho6.blk hid).1; have:=hX0 id hm; omega),hS5.sub hd6 (eR.sub hd6),hb1,by show (d.states.map erS).length≤_; rw[List.length_map]; exact hb2⟩⟩
  have:=hf.lt' hk
  exact hk6 k o (hk5 k o (hs4 k o hk) (by simp; omega)) (by simp; omega)
 exact hj1 _ u2 u3
end
def aTJ:List Value:=eM (List.replicate 256 0) 0 bU bU 0 bU 0
theorem aTK:i8 Tryz.prog cG=some (.agg aTJ.toArray):=by kernel_rfl
theorem aRB {c:List Nat}{n:Int}{cv sv:Value}{pl:List (Nat × Nat)} (hp:pl[0]?=some (0,259)) (hc:c.length=256):nL (pl[·]?) aTJ [(0,.agg (eK c n cv sv).toArray)]=some (eM c n cv sv 0 bU 0):=by
 have h0:aTJ.length=262:=yO List.length_replicate
 have e1:Nat.beq (Value.agg (eK c n cv sv).toArray).cells.size 259=true:=by rw[Value.cells_agg]; simp[cV hc]
 have e2:Nat.ble (0+259) aTJ.length=true:=by rw[h0]; rfl
 have o1:over aTJ 0 (Value.agg (eK c n cv sv).toArray).cells.toList=eM c n cv sv 0 bU 0:=by
  rw[Value.cells_agg]
  exact aLb (by rw[cV hc,cV List.length_replicate])
 simp only[nL,hp,Option.bind,e1,e2,o1]
theorem aMh {c:List Nat}{n:Int}{cv sv:Value} (hc:c.length=256):cX Tryz.prog cG [(0,.agg (eK c n cv sv).toArray)]=some (.agg (eM c n cv sv 0 bU 0).toArray):=by
 obtain⟨fs,h1,h2⟩:=aSo (P:=Tryz.prog) (t:=cG) (pl:=[(0,259),(259,1),(260,1),(261,1)]) (by kernel_rfl)
 exact aDx aTK h1 h2 (aRB rfl hc)
theorem aV6 (aid q:Nat):bC Tryz.prog mG aid 1 [(0,ptr q)]=some (.slice (some (own aid 1)) 1 1,some (.cells [ptr q].toArray mK)):=by kernel_rfl
theorem aUj:gG Tryz.prog mG=some (.slice mK):=by kernel_rfl
theorem aVx:∃ i,tin Tryz.prog mK=some i∧i.size=1∧i.bytes=8:=aBU (by kernel_rfl)
theorem aWC:i8 Tryz.prog mK=some (.pointer none):=by kernel_rfl
theorem aNV (ps:List (Nat × Nat)) (q:Nat × Nat):pA (ps++[q])=pA ps++[[ptr q.1]]:=by simp[pA]
end V
end Go.Proofs.YtjndkdmkecpllaaGreat
namespace Go.Proofs.YtjndkdmkecpllaaGreat
namespace V
attribute [local irreducible] aA bF aV dL eJ iM dE
def NI (RR:RgP) (tm tp te:TypeId) (hC:T Obj) (nC p:Nat) (c:List Nat) (many:Int) (cv sv:Value) (C:List (Int × Int)) (k:Nat) (h:T Obj) (nx:Nat) (ps:List (Nat × Nat)) (rv:Value):Prop :=
 h.get p=some (.cells (eM c many cv sv 0 rv 0).toArray tm)∧bL h rv 1 te (pA ps) nC∧ps.length=k∧RsX RR h ps (C.take k) (List.replicate k noR)∧Dst ps∧(∀ q∈nI ps,nC≤q)∧aU hC h∧Fr h nx∧Fr hC nC∧nC≤p∧nC≤nx
section
variable {RR:RgP}{tm tp ta te:TypeId}{ro:Ro}{hC h h':T Obj}{nC p nx n1 n2 k:Nat}{c:List Nat}{many:Int}{cv sv rv:Value}{C:List (Int × Int)}{ps:List (Nat × Nat)}
theorem NI.mono {n':Nat} (hi:NI RR tm tp te hC nC p c many cv sv C k h nx ps rv) (hn:nx≤n'):NI RR tm tp te hC nC p c many cv sv C k h n' ps rv:=by
 obtain⟨g1,g2,g3,g4,g5,g6,g7,g8,g9,g10,g11⟩:=hi
 exact⟨g1,g2,g3,g4,g5,g6,g7,g8.mono hn,g9,g10,by omega⟩
theorem NI.sub {n':Nat} (hk:RgOk RR tp ta) (hi:NI RR tm tp te hC nC p c many cv sv C k h nx ps rv) (hs:aU h h') (hf:Fr h' n') (hn:nx≤n'):NI RR tm tp te hC nC p c many cv sv C k h' n' ps rv:=by
 obtain⟨g1,g2,g3,g4,g5,g6,g7,g8,g9,g10,g11⟩:=hi
 exact⟨hs _ _ g1,g2.keepS hs,g3,g4.sub hk hs,g5,g6,g7.trans hs,hf,g9,g10,by omega⟩
theorem NI.step {q:Nat × Nat}{cc:Int × Int}{rv2:Value}{lo:Nat} (hk:RgOk RR tp ta) (e1:tp≠te) (e2:ta≠te) (e3:tm≠tp) (e4:tm≠ta) (e5:tm≠te) (hi:NI RR tm tp te hC nC p c many cv sv C k h nx ps rv) (hcl:c.length=256) (hc:C[k]?=some cc) (hR:RR h q.1 q.2 cc.2.toNat [] 0) (hq1:∀ r∈ps,r.1 < q.1∧r.2 < q.2) (hq2:nC≤q.1∧nC≤q.2) (hn1:n1≠p∧(∀ r∈ps++[q],r.1≠n1∧r.2≠n1)∧nC≤n1)
  (ho:bL h' rv2 1 te (pA ps++[[ptr q.1]]) nC) (hsb:lK rv2=some n2) (hn2:nx≤n2) (hg:∀ k o,h.get k=some o→k≠n1→lK rv≠some k→h'.get k=some o) (hf:Fr h' (n2+1)) :
  NI RR tm tp te hC nC p c many cv sv C (k+1) (h'.upd p (some (.cells (eM c many cv sv 0 rv2 0).toArray tm))) (n2+1) (ps++[q]) rv2:=by
 obtain⟨g1,g2,g3,g4,g5,g6,g7,g8,g9,g10,g11⟩:=hi
 have hp:=g8.lt' g1
 have hr:=g4.snoc hR (r:=noR)
 have hgk:∀ {k:Nat} {cs:Array Value} {e:TypeId},h.get k=some (.cells cs e)→e≠te→k≠n1→h'.get k=some (.cells cs e):=fun hk9 he hne=>hg _ _ hk9 hne (g2.ne hk9 he)
 have hgp:h'.get p=some (.cells (eM c many cv sv 0 rv 0).toArray tm):=hgk g1 e5 (Ne.symm hn1.1)
 have hty:=hr.ty hk
 refine⟨T.get_upd_same _ _ _,?_,by simp[g3],?_,g5.snoc fun r hr=>?_,fun k hk=>?_,fun k o hk=>?_,hf.upd (Nat.le_refl _) (by omega),g9,g10,by omega⟩
 ·rw[aNV]
  exact ho.keepK (ids:=[p]) (fun k o hk hn=>by rw[T.get_upd_ne _ _ (by simpa using hn)]; exact hk) fun id hid hm=>by rw[hsb] at hid; cases hid; simp at hm; omega
 ·rw[List.take_succ_eq_append_getElem (List.getElem?_eq_some_iff.1 hc).1,(List.getElem?_eq_some_iff.1 hc).2,List.replicate_succ']
  refine hr.keep hk fun r hr9=>?_
  obtain⟨⟨c1,t1⟩,c2,t2⟩:=hty r hr9
  rw[T.get_upd_ne _ _ (fun e=>by rw[e,g1] at t1; simp only[Option.some.injEq,Obj.cells.injEq] at t1; exact e3 t1.2.1),T.get_upd_ne _ _ (fun e=>by rw[e,g1] at t2; simp only[Option.some.injEq,Obj.cells.injEq] at t2; exact e4 t2.2.1),hgk t1 e1 (hn1.2.1 r hr9).1,hgk t2 e2 (hn1.2.1 r hr9).2,t1,t2]
  exact⟨rfl,rfl⟩
 ·have:=hq1 r hr; omega
 ·obtain⟨r,hr,h9⟩:=kC.1 hk
  rcases List.mem_append.1 hr with hr | hr
  ·exact g6 k (kC.2 ⟨r,hr,h9⟩)
  ·simp at hr; subst hr; omega
 ·have hlt:=g9.lt' hk
  have h9:=g7 k o hk
  rw[T.get_upd_ne _ _ (by omega)]
  refine hg k o h9 (by have:=hn1.2.2; omega) fun e=>?_
  have:=(g2.blk e).1
  omega
theorem NI.fin {d:AutoD} (hk:RgOk RR tp ta) (e1:tp≠te) (e2:ta≠te) (e5:tm≠te) {X0:List Nat} (hX0:∀ k∈X0,k < nC) (hi:NI RR tm tp te hC nC p d.c d.many cv sv d.counts d.counts.length h nx ps rv) (hA:qF ro (del hC X0) (eK d.c d.many cv sv) d):MX RR tm ro h (X0++(p::nI ps)) p ps d (aJa d):=by
 obtain⟨g1,g2,g3,g4,g5,g6,g7,g8,g9,g10,g11⟩:=hi
 have hX:∀ k∈p::nI ps,nC≤k:=fun k hk=>by
  rcases List.mem_cons.1 hk with rfl | hk
  ·exact g10
  ·exact g6 k hk
 have hrs:(aJa d).rs=List.replicate d.counts.length noR:=List.map_const' ..
 rw[List.take_length] at g4
 have hsub:aU (del hC X0) (del h (X0++(p::nI ps))):=fun k o hk=>by
  rw[jH] at hk
  split at hk
  ·cases hk
  ·rename_i hn
   have:=g9.lt' hk
   exact mD (g7 k o hk) fun hm=>by
    rcases List.mem_append.1 hm with hm | hm
    ·exact hn hm
    ·have:=hX k hm; omega
 refine⟨cv,sv,rv,g1,hA.sub hsub,(g2.del fun id hid hm=>?_).sl,by rw[hrs]; exact g4,g5,List.mem_append.2 (.inr (List.mem_cons_self ..)),fun k hk=>List.mem_append.2 (.inr (List.mem_cons_of_mem _ hk))⟩
 rcases List.mem_append.1 hm with hm | hm
 ·have:=hX0 id hm; have:=(g2.blk hid).1; omega
 rcases List.mem_cons.1 hm with rfl | hm
 ·exact g2.ne g1 e5 hid
 ·obtain⟨r,hr,h9⟩:=kC.1 hm
  obtain⟨⟨c1,t1⟩,c2,t2⟩:=g4.ty hk r hr
  rcases h9 with rfl | rfl
  ·exact g2.ne t1 e1 hid
  ·exact g2.ne t2 e2 hid
end
section
variable {ro:Ro}{h:T Obj}{nx:Nat}{K:KV}{x:List Value}{d:AutoD}
theorem aMn (ha:gU d=true) {k:Nat} (hk:k < d.counts.length):1≤(d.counts[k]).2.toNat∧(d.counts[k]).2.toNat≤4096∧((d.counts[k]).2.toNat:Int)=(d.counts[k]).2:=by
 have:=(iV ha).2.2.2.2.1 _ (List.getElem_mem hk)
 omega
set_option maxRecDepth 8000 in
set_option maxHeartbeats 1000000 in
theorem aMw {X0:List Nat} (hf:Fr h nx) (hd:qF ro h x d) (hK0:gU d=false→∀ nx',nx≤nx'→K (.tuple #[.pointer none,.int .i64 1]) h nx')
  (hX0:∀ k∈X0,k < nx)
  (hK1:gU d=true→∀ p ps X h' nx',nx≤nx'→Fr h' nx'→aU h h'→(∀ k∈X,nx≤k∧k < nx')→X=p::nI ps→MI ro h' (X0++X) p ps (er d) (aJa d)→K (.tuple #[ptr p,.int .i64 0]) h' nx'):aN Tryz.prog ro zG [.agg x.toArray] h nx K:=by
 obtain⟨cv,sv,hxe,hc,hclt,hcv,hS,hb1,hb2⟩:=id hd
 have m7:=pQ (n:=d.many) (cv:=cv) (sv:=sv) hc
 apply aKs
 unfold aKr
 refine fV hf (Nat.le_refl _) fun h1 hs1 hf1 g1 _=>?_
 have g1:h1.get nx=some (.cells x.toArray bI):=g1
 have hxl:x.length=259:=by rw[hxe]; exact cV hc
 have LA:=bX (ro:=ro) (z:=0) (n:=259) (l:=x) g1 hxl
 refine aB LA ?_
 refine aJH (hf1.mono (by omega)) (hd.sub hs1) fun n1 hn1=>?_
 cases hok:gU d with
 | false =>
  (repeat refine zzC ?_)
  exact⟨h,hs1,hK0 hok _ (by omega)⟩
 | true =>
  have hfit:=aVd hok hc
  have hC512:=(iV hok).2.1
  (repeat refine zzC ?_)
  refine aB LA ?_
  refine aHh (X0:=X0) (hf1.mono (by omega)) (fun k hk=>by have:=hX0 k hk; omega) (hd.sub hs1) hfit fun cv2 sv2 hC nC hnC hfC hsC hAC=>?_
  refine aB (aMh hc) (zO hfC (by omega) fun h2 hs2 hf2 g2 _=>?_)
  have g2:h2.get (nC+1)=some (.cells (eM d.c d.many cv2 sv2 0 bU 0).toArray cG):=g2
  have g12:=hs2 _ _ (hsC _ _ g1)
  have hcv2:=hcv.sub ((hs1.trans hsC).trans hs2) fun _ _ h=>h
  (repeat refine zzC ?_)
  refine aB (bE g12 (by rw[hxe]; exact m7)) ?_
  refine aB hcv2.len ?_
  have hNI0:NI RI cG cO mK hC nC (nC+1) d.c d.many cv2 sv2 d.counts 0 h2 (nC+2) [] bU:=⟨g2,bL.nil,rfl,⟨rfl,rfl,fun i p c r hp=>by simp at hp⟩,Dst.nil,(fun q hq=>by simp[nI] at hq),hs2,hf2,hfC,by omega,by omega⟩
  refine bD (fun j e h' nx'=>∃ (k:Nat) (ps:List (Nat × Nat)) (rv:Value),k+j=d.counts.length∧nC+2≤nx'∧e 4=ptr (nC+1)∧e 17=cv∧e 18=.int .i64 d.counts.length∧e 19=.int .i64 k∧NI RI cG cO mK hC nC (nC+1) d.c d.many cv2 sv2 d.counts k h' nx' ps rv) ?_ (n:=d.counts.length) ⟨0,[],bU,by omega,by omega,rfl,rfl,rfl,rfl,hNI0.mono (by omega)⟩
  rintro j e h' nx' ⟨k,ps,rv,hj,hnx,e4,e17,e18,e19,hi⟩ Q' hq hx
  have hfh:=hi.2.2.2.2.2.2.2.1
  have hsh:=hi.2.2.2.2.2.2.1
  unfold aEr
  rw[e4,e17,e18,e19]
  refine cM (fun hk=>?_) (fun hk=>?_)
  ·have hk:k < d.counts.length:=by omega
   obtain⟨b1,b2,b3⟩:=aMn hok hk
   have hcvh:=hcv.sub ((hs1.trans hsC).trans hsh) fun _ _ h=>h
   have hix:=hcvh.ix .i64 hk
   obtain⟨y,hy1,hy2,hy3,hy4,hy5⟩:=hcvh.at hk
   have hck:d.counts[k]?=some d.counts[k]:=List.getElem?_eq_getElem _
   generalize d.counts[k]=cc at b1 b2 b3 hy1 hck
   obtain rfl:y=[.int .i64 cc.1,.int .i64 cc.2]:=hy1
   (repeat refine zzC ?_)
   refine aB hix (aB hy3 ?_)
   refine gP (x:=[.int .i64 cc.1,.int .i64 cc.2]) aNm rfl rfl rfl rfl hfh (by omega) fun h3 hs3 hf3 g3 _=>?_
   (have zy:=g3;repeat refine zzCz ?_)
   rw[← b3]
   refine aN6 (hf3.mono (by omega)) b1 b2 fun p' a' h4 n4 hp' ha' hn4 hs4 hf4 hR4=>?_
   refine aB (aVa _ _) (aB (aVb _ _) ?_)
   have hi4:=hi.sub (n':=n4) nE (hs3.trans hs4) hf4 (by omega)
   have m0:=yN (n:=d.many) (cv:=cv2) (sv:=sv2) (cur:=0) (rv:=rv) (steps:=0) hc
   refine aRo rfl ?_
   (have zy:=@bJ;repeat refine zzCz ?_)
   refine aB (bE hi4.1 m0) ?_
   obtain⟨i,t1,t2,t3⟩:=aVx
   have hplen:ps.length≤1000000:=by have:=hi.2.2.1; omega
   refine aMa (z:=1) (l:=pA ps) (y:=[ptr p']) (aV6 _ _) rfl hi4.2.1 aUj t1 (by omega) (by omega) aWC rfl rfl (by rw[rL,t3]; unfold oB; omega) (by rw[rL]; unfold oB; omega) (hf4.mono (by omega)) (by omega) (by omega) (fun e=>by have:=hf4.lt' (hi4.2.1.blk e).2; omega) fun h5 ho5 hk5 hf5=>?_
   generalize hnv:Value.slice (some (own (n4+15) 1)) (pA ps++[[ptr p']]).length (pA ps++[[ptr p']]).length=rv2 at ho5
   have hsb:lK rv2=some (n4+15):=by rw[← hnv]; rfl
   have g5:=hk5 _ _ hi4.1 (by have:=hf4.lt' hi4.1; omega) (hi4.2.1.ne hi4.1 (by decide))
   have hlt4:=hi.2.2.2.1.lt nE hfh
   have hfin:=hi4.step (h':=h5) (q:=(p',a')) (cc:=cc) (rv2:=rv2) (n1:=n4+13) (n2:=n4+15) (lo:=nC) nE (by decide) (by decide) (by decide) (by decide) (by decide) hc hck hR4 (fun r hr=>by have:=hlt4 r hr; show r.1 < p'∧r.2 < a'; omega) (by show nC≤p'∧nC≤a'; omega) ⟨by have:=hf4.lt' hi4.1; omega,fun r hr=>by
    rcases List.mem_append.1 hr with hr | hr
    ·have:=hlt4 r hr; omega
    ·simp at hr; subst hr; have:=nE.p hR4; have:=nE.a hR4; obtain⟨c1,t8⟩:=nE.p hR4; obtain⟨c2,t9⟩:=nE.a hR4; have:=hf4.lt' t8; have:=hf4.lt' t9; show p'≠_∧a'≠_; omega,by omega⟩ ho5 hsb (by omega) hk5 hf5
   dsimp only
   (have zy:=@bJ;repeat refine zzCz ?_)
   refine aB (cE g5 (by rw[yO hc]; omega) ho5.ok (by rw[← hnv]; rfl)) ?_
   rw[aJ5 hc]
   (repeat refine zzC ?_)
   exact hq (j - 1) _ _ _ _ (by omega) ⟨k+1,ps++[(p',a')],rv2,by omega,by omega,e4,e17,e18,rfl,hfin.mono (by omega)⟩ (aU.refl _)
  ·(repeat refine zzC ?_)
   refine hx _ _ _ _ (fun e=>by cases e) (d3 (cU ?_))
   obtain rfl:k=d.counts.length:=by omega
   have hMX:=NI.fin (ro:=ro) (d:=er d) (X0:=X0) nE (by decide) (by decide) (by decide) (fun k hk=>by have:=hX0 k hk; omega) hi hAC
   have hend:∀ (e':dF) n',e' 4=ptr (nC+1)→nx'≤n'→wG ro K e' h' n':=by
    intro e' n' f4 hn'
    unfold wG
    rw[f4]
    refine⟨h',aU.refl _,hK1 hok _ ps _ h' _ (by omega) (hfh.mono (by omega)) ((hs1.trans hsC).trans hsh) (fun k hk=>?_) rfl hMX⟩
    have hlt9:=hMX.lt nE hfh
    rcases List.mem_cons.1 hk with rfl | hk
    ·have:=hlt9.1; omega
    ·have:=hi.2.2.2.2.2.1 k hk; have:=hlt9.2 k hk; omega
   exact hend _ _ e4 (by omega)
theorem aMv {X0:List Nat} (hf:Fr h nx) (hd:qF ro h x d) (hK0:gU d=false→∀ nx',nx≤nx'→K (.tuple #[.pointer none,.int .i64 1]) h nx') (hX0:∀ k∈X0,k < nx)
  (hK1:gU d=true→∀ p ps X h' nx',nx≤nx'→Fr h' nx'→aU h h'→(∀ k∈X,nx≤k∧k < nx')→MI ro h' (X0++X) p ps (er d) (aJa d)→K (.tuple #[ptr p,.int .i64 0]) h' nx'):aN Tryz.prog ro zG [.agg x.toArray] h nx K :=
 aMw hf hd hK0 hX0 fun h1 p ps X h' n' h2 h3 h4 h5 _ h6=>hK1 h1 p ps X h' n' h2 h3 h4 h5 h6
end
end V
end Go.Proofs.YtjndkdmkecpllaaGreat
namespace Go.Proofs.YtjndkdmkecpllaaGreat
namespace V
attribute [local irreducible] aA bF aV dL eJ iM dE
def aKU:AutoD:=⟨List.replicate 256 0,0,[],[]⟩
section
variable {ro:Ro}{h:T Obj}{nx:Nat}{K:KV}
end
section
variable {ro:Ro}{h h':T Obj}{X X':List Nat}{p q:Nat}{ps qs qs':List (Nat × Nat)}{d1 d2:AutoD}{m1 m2 m2':MacD}{nx n':Nat}
end
end V
end Go.Proofs.YtjndkdmkecpllaaGreat
namespace Go.Proofs.YtjndkdmkecpllaaGreat
namespace V
set_option maxRecDepth 1000000 in
theorem aQL:Orc Tryz.prog xJ (.bool true):=aVl okZ okN okM aUO (k:=200) rfl (by kernel_rfl) fun ro=>by kernel_rfl
theorem aU8 {ro:Ro}{h:T Obj}{nx:Nat}{K:KV} (hK:K (.bool true) h nx):aN Tryz.prog ro xJ [] h nx K:=aOs aQL hK
end V
end Go.Proofs.YtjndkdmkecpllaaGreat
namespace Go.Proofs.YtjndkdmkecpllaaGreat
namespace V
attribute [local irreducible] rR aN aA
end V
end Go.Proofs.YtjndkdmkecpllaaGreat
namespace Go.Proofs.YtjndkdmkecpllaaGreat
namespace V
attribute [local irreducible] aA bF aV dL eJ iM dE
theorem aTv (h:T Obj) (ts:Array TypeId) (a b:Int):iT Tryz.prog h .min ts [.int .i64 a,.int .i64 b]=some (.int .i64 (min a b)):=by
 unfold iT
 simp only[aJ8,aRd,aP7]
 by_cases e:b < a
 ·simp only[e,decide_true]; congr 2; omega
 ·simp only[e,decide_false]; congr 2; omega
theorem qF.len {ro:Ro}{h:T Obj}{x:List Value}{d:AutoD} (hd:qF ro h x d):x.length=259:=by
 obtain⟨cv,sv,rfl,hc,_⟩:=hd; exact cV hc
theorem qF.okL {ro:Ro}{h:T Obj}{x:List Value}{d:AutoD} (hd:qF ro h x d):x.all bV=true:=by
 obtain⟨cv,sv,rfl,hc,_,h1,h2,_⟩:=hd; exact aB0 (gD.okC h1) (gD.okC h2)
theorem aU.e' (h:T Obj):aU .e h:=fun k o e=>by rw[T.get_e] at e; cases e
theorem aWb (id off z:Nat):aEX .eql (at_ id off z) (.pointer none)=some (.bool false):=rfl
section
variable {ro:Ro}{h:T Obj}{nx:Nat}{K:KV}
end
end V
end Go.Proofs.YtjndkdmkecpllaaGreat
set_option maxRecDepth 8000
namespace Go.Proofs.YtjndkdmkecpllaaGreat
namespace V
open Go.ChangeShapes Go.WideShapes Go.ChangeAt Go.RowKit Go.Deep
set_option maxRecDepth 8000
section
variable {H:Type}{enc:TypeId × Value→H}{W:World}
def fieldsOf (P:Program) (t:TypeId):Option (List (Nat × TypeId)):=match gG P t with
 | some (.struct fs)=>some (fs.toList.map fun f=>(f.offset,f.type))
 | _=>none
theorem aM5 {t:TypeId}{L:List (Nat × TypeId)} (hL:fieldsOf Tryz.prog t=some L) {fuel:Nat}{cs:List Value}{x:DataW H × List MemPlace} (h:DataW.trod enc Tryz.prog W 0 (fun _=>true) true fuel t cs=some x) :
  cs.length=Tryz.prog.cellsOf t∧∃ n,∀ (i o:Nat) (ty:TypeId),L[i]?=some (o,ty)→∃ y,DataW.trod enc Tryz.prog W 0 (fun _=>true) true n ty ((cs.drop o).take (Tryz.prog.cellsOf ty))=some y:=by
 unfold fieldsOf at hL
 split at hL
 ·rename_i fs hu
  cases hL
  obtain⟨xs,n,_,_,hlen,hxs,hf⟩:=DataW.trod_struct (gB hu) h
  refine⟨hlen,n,fun i o ty hi=>?_⟩
  rw[List.getElem?_map] at hi
  cases hq:fs.toList[i]? with
  | none=>rw[hq] at hi; cases hi
  | some f =>
   rw[hq] at hi
   cases hi
   have hfs:fs[i]?=some f:=by simpa using hq
   have hil:=(List.getElem?_eq_some_iff.1 hq).1
   have hx:xs[i]?=some (xs[i]'(by rw[hxs]; simpa using hil)):=List.getElem?_eq_getElem _
   exact⟨_,by rw[hf i f hfs,hx]⟩
 ·cases hL
theorem aGY {n:Nat}{cs:List Value}{y:DataW H × List MemPlace} (h:DataW.trod enc Tryz.prog W 0 (fun _=>true) true n cI cs=some y):∃ a:Int,cs=[.int .i64 a]:=by
 have hu:Tryz.prog.underlying cI=some (.int .i64):=by kernel_rfl
 obtain⟨a,rfl,_⟩:=DataW.trod_int hu h
 exact⟨a,rfl⟩
end
section
variable {H:Type}{enc:TypeId × Value→H}{W:World}
end
end V
end Go.Proofs.YtjndkdmkecpllaaGreat