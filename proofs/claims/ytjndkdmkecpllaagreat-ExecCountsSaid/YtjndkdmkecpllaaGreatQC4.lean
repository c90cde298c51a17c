/- Texts laid one behind the other: XB, XF, XS, XQ, XK, GE, XR, XA, XC, XD.
   No condition. -/
import Derived.Test.YtjndkdmkecpllaaGreatRows
import Derived.OpenShut
import Derived.ChangeMaps5
import Derived.KernelRfl
import Derived.Test.YtjndkdmkecpllaaGreatQC3
set_option linter.unusedVariables false
set_option linter.unusedSimpArgs false
set_option linter.unusedVariables false
set_option linter.unusedSimpArgs false
namespace Go.Proofs.YtjndkdmkecpllaaGreat
namespace V
attribute [local irreducible] aA ifP aZ d4 eG exP d8
def jG (m i:Nat):Nat:=m / 2 ^ (64*i) % 2 ^ 64
theorem aJU (m i:Nat):jG m i < 18446744073709551616:=by unfold jG; exact Nat.mod_lt _ (by decide)
theorem jF (m i j:Nat):(jG m i).testBit j=(decide (j < 64)&&m.testBit (64*i+j)):=by
  unfold jG
  rw [Nat.testBit_mod_two_pow,Nat.testBit_div_two_pow,Nat.add_comm]
theorem aM0 (m b:Nat):(jG m (b / 64) / 2 ^ (b % 64) % 2=1) ↔ m.testBit b=true:=by
  have h:=jF m (b / 64) (b % 64)
  rw [Nat.testBit_eq_decide_div_mod_eq] at h
  have h1:b % 64 < 64:=Nat.mod_lt _ (by decide)
  rw [Nat.div_add_mod] at h
  simp only [h1,decide_true,Bool.true_and] at h
  rw [← h]; simp
section
variable {α β:Type} [DecidableEq α] [DecidableEq β]
def sA (s:List α) (p:α):List α:=if p∈s then s else s++[p]
def dd (l:List α):List α:=l.foldl sA []
def pos (s:List α) (p:α):Nat:=s.idxOf p
def ix (l:List α) (p:α):Nat:=pos (dd l) p
end
@[irreducible] def bs:List Nat:=List.range 256
def sig (l:List Nat) (b:Nat):List Bool:=l.map fun s=>s.testBit b
def gB (l:List Nat):List (List Bool):=bs.map (sig l)
def many (l:List Nat):Nat:=(dd (gB l)).length
def gK (m:Nat):List Value:=[.int .u64 (jG m 0),.int .u64 (jG m 1),.int .u64 (jG m 2),.int .u64 (jG m 3)]
def pX (m:Nat):Value:=.agg #[.int .u64 (jG m 0),.int .u64 (jG m 1),.int .u64 (jG m 2),.int .u64 (jG m 3)]
theorem fW (m:Nat):Value.cells (pX m)=(gK m).toArray:=rfl
theorem aAn {m i:Nat} (hi:i < 4):(gK m)[i]?=some (.int .u64 (jG m i)):=by
  match i,hi with
  | 0,_=>rfl
  | 1,_=>rfl
  | 2,_=>rfl
  | 3,_=>rfl
theorem aIo {q:Nat} (h:q < 18446744073709551616):(q:Int)≤18446744073709551615:=by omega
theorem o8 {ro:Ro} {m b:Nat} (hb:b < 256) {h:T Obj} {nx:Nat} {K:KV} (hf:Fr h nx) (hK:∀ nx',nx≤nx'→K (.bool (m.testBit b)) h nx'):aN Tryz.prog ro kN [pX m,.int .u8 b] h nx K:=by
  apply aF1
  unfold aBK
  have h1:((b:Int) / 64).toNat=b / 64:=by omega
  have h2:((b:Int) % 64).toNat=b % 64:=by omega
  have h3:=aJU m (b / 64)
  have h4:b / 64 < 4:=by omega
  have h5:=aAn (m:=m) h4
  have h6:jG m (b / 64) / 2 ^ (b % 64)≤jG m (b / 64):=Nat.div_le_self _ _
  have h7:((jG m (b / 64) / 2 ^ (b % 64):Nat):Int)≤18446744073709551615:=aIo (Nat.lt_of_le_of_lt h6 h3)
  simp (disch:=first | omega | exact Int.natCast_nonneg _ | assumption) only [dP,fW,bL,c8,cW,bH,aR,gJ,eP,eR,dA,cI,T.get_upd_same,bA,Option.bind,h1,h2,Nat.zero_add,Nat.mul_one,h5]
  refine ⟨h,(Sub.refl h).new hf (Nat.le_refl _),?_⟩
  have e:(decide ((((jG m (b / 64) / 2 ^ (b % 64):Nat):Int) % 2)=1))=m.testBit b:=by
    have h9:=aM0 m b
    cases hm:m.testBit b with
    | true=>rw [hm] at h9; have:=h9.2 rfl; apply decide_eq_true; omega
    | false =>
      rw [hm] at h9
      have:¬ (jG m (b / 64) / 2 ^ (b % 64) % 2=1):=fun e=>by have:=h9.1 e; cases this
      apply decide_eq_false; omega
  rw [e]
  exact hK _ (by omega)
structure PosD where
  s:Nat
  lo:Int
  hi:Int
  rule:Int
  last:Bool
  next:List Int
structure GlD where
  first:List Int
  p:List PosD
def rz (last many:Int):List Int→Bool
  | []=>true
  | x::r=>decide (last < x)&&(decide (x < many)&&rz x many r)
def aBc:PosD:=⟨0,0,0,0,false,[]⟩
def GlD.at (g:GlD) (i:Int):PosD:=g.p.getD i.toNat aBc
theorem aFg (a m x:Int) (r:List Int):rz a m (x::r)=(decide (a < x)&&(decide (x < m)&&rz x m r)):=rfl
theorem xS:∀ {l:List Int} {a m:Int},rz a m l=true→∀ x∈l,a < x∧x < m
  | [],a,m,h,x,hx=>by cases hx
  | y::r,a,m,h,x,hx=>by
    simp only [rz,Bool.and_eq_true,decide_eq_true_eq] at h
    rcases List.mem_cons.1 hx with rfl | hx
    · exact ⟨h.1,h.2.1⟩
    · have:=xS h.2.2 x hx; omega
def nU (p:PosD) (nv:Value):List Value:=gK p.s++[.int .i64 p.lo,.int .i64 p.hi,.int .i64 p.rule,.bool p.last,nv]
def mV (ro:Ro) (h:T Obj) (x:List Value) (p:PosD):Prop:=∃ nv,x=nU p nv∧ZI ro h nv p.next∧p.s < 2 ^ 256
theorem mV.sub {ro:Ro} {h h':T Obj} (hs:Sub h h'):∀ x d,mV ro h x d→mV ro h' x d:=fun x d ⟨nv,h1,h2,h3⟩=>⟨nv,h1,h2.sub hs,h3⟩
def RG (ro:Ro) (h:T Obj) (v:Value) (g:GlD):Prop:=∃ a b,v=.agg #[a,b]∧ZI ro h a g.first∧SlR ro h b 9 (mV ro h) g.p
theorem RG.sub {ro:Ro} {h h':T Obj} {v:Value} {g:GlD} (hs:Sub h h') (hg:RG ro h v g):RG ro h' v g:=by
  obtain ⟨a,b,h1,h2,h3⟩:=hg
  exact ⟨a,b,h1,h2.sub hs,h3.sub hs (mV.sub hs)⟩
def yX {D:Type} (q:D→Bool) (k:Int):List D→Int
  | []=>-1
  | x::r=>if q x then k else yX q (k+1) r
theorem zR {D:Type} (q:D→Bool) (k:Int) (x:D) (r:List D):yX q k (x::r)=if q x then k else yX q (k+1) r:=rfl
theorem aAy {D:Type} (q:D→Bool):∀ (l:List D) (k:Int),0≤k→decide (0≤yX q k l)=l.any q
  | [],k,hk=>rfl
  | x::r,k,hk=>by
    rw [zR,List.any_cons]
    by_cases h:q x=true
    · rw [if_pos h,h]; simp [hk]
    · rw [if_neg h,aAy q r (k+1) (by omega)]; simp [h]
theorem aIm {D:Type} (q:D→Bool) (l:List D):(!(l.any fun x=>!q x))=l.all q:=by
  induction l with
  | nil=>rfl
  | cons x r ih=>rw [List.any_cons,List.all_cons,Bool.not_or,ih,Bool.not_not]
def u8s (l:List Nat):List Value:=l.map fun b:Nat=>Value.int .u8 (b:Int)
theorem oR (l:List Nat):(u8s l).length=l.length:=by simp [u8s]
def eN (c:List Nat) (n:Int):List Value:=u8s c++[.int .i64 n]
def j5 (c:List Nat) (n:Int):Value:=.agg (eN c n).toArray
theorem lH (c:List Nat) (n:Int):(j5 c n).cells=(eN c n).toArray:=rfl
theorem dB {c:List Nat} {n:Int} (hc:c.length=256):(eN c n).length=257:=by simp [eN,oR,hc]
theorem aDW (c:List Nat) (n:Int):(eN c n).all bT=true:=by simp [eN,u8s,bT]
theorem aBq {c:List Nat} {n:Int} {i:Nat} (hi:i < c.length):(eN c n)[i]?=some (.int .u8 (c[i]:Nat)):=by
  unfold eN
  rw [List.getElem?_append_left (by rw [oR]; exact hi)]
  simp [u8s,hi]
theorem uX {c:List Nat} {n:Int} (hc:c.length=256):(eN c n)[256]?=some (.int .i64 n):=by
  unfold eN
  rw [List.getElem?_append_right (by rw [oR]; omega)]
  simp [oR,hc]
theorem aLV {ro:Ro} {h:T Obj} {id z n:Nat} {c:List Nat} {m:Int} {e:TypeId} {f:Nat × Nat} (hg:h.get id=some (.cells (eN c m).toArray e f)) (hc:c.length=256):loadA ro h 256 (at_ id 0 z)=some (.agg (u8s c).toArray):=by
  rw [bZ,hg,bA]
  simp only [Option.bind_some,tl]
  rw [if_pos (by rw [dB hc]; omega),List.drop_zero]
  unfold eN
  rw [List.take_append_of_le_length (by rw [oR]; omega),List.take_of_length_le (by rw [oR]; omega)]
theorem aLK {c:List Nat} {i:Nat} (k:IntKind) (hi:i < c.length) (hc:c.length=256):aMs 256 1 (.agg (u8s c).toArray) (.int k (i:Int))=some (.int .u8 (c[i]:Nat)):=by
  have hn:mE (.int k (i:Int))=some i:=by simp [mE]
  have hb:Nat.blt i 256=true:=by simp [Nat.blt]; omega
  unfold aMs
  rw [hn]
  simp only [Option.bind_some,asAgg,hb,Nat.mul_one,List.getElem?_toArray]
  simp [u8s,hi]
def rt (c:List Nat):Nat→Option Nat
  | 0=>some 0
  | i+1=>(rt c i).bind fun m=>if m < c.getD i 0 then none else if c.getD i 0=m then some (m+1) else some m
def pG (c:List Nat) (n:Int):Bool:=match rt c 256 with
  | some m=>decide ((m:Int)=n)
  | none=>false
theorem aMK {c:List Nat}:∀ {i m:Nat},rt c i=some m→m≤i
  | 0,m,h=>by cases h; exact Nat.le_refl _
  | i+1,m,h=>by
    obtain ⟨m0,h1,h2⟩:=aM h
    have:=aMK h1
    split at h2
    · cases h2
    · split at h2<;>cases h2<;>omega
theorem aN2 {c:List Nat} {i:Nat} (h:rt c i=none):∀ j,i≤j→rt c j=none:=by
  intro j hj
  induction hj with
  | refl=>exact h
  | step _ ih=>simp only [rt,ih,Option.bind]
set_option maxRecDepth 4000 in
theorem aDy {ro:Ro} {c:List Nat} {n:Int} (hc:c.length=256) (hcl:∀ x∈c,x < 256) {h:T Obj} {nx:Nat} {K:KV} (hf:Fr h nx) (hK:∀ nx',nx≤nx'→K (.bool (pG c n)) h nx'):aN Tryz.prog ro sK [j5 c n] h nx K:=by
  apply aDY
  unfold xU
  refine aD ?_
  (repeat (first | refine aB (by simp (disch:=first | omega | exact Int.natCast_nonneg _ | assumption) only [BB,B2,↓reduceIte,Nat.reduceLeDiff,Nat.reduceAdd,aR,aS,aW,aV,aU,aT]<;>rfl) ?_ | refine aD ?_ | refine aE ?_ | with_reducible first | refine aG ?_ | refine aF ?_ | refine aH ?_ | refine aI ?_ | refine aK ?_ | refine aJ ?_ | refine aL ?_ | refine aC ?_))
  refine aB (aLV (n:=0) (c:=c) (m:=n) (e:=cG) (f:=(0,0)) (by simp (disch:=first | omega | exact Int.natCast_nonneg _ | assumption) only [BB,B2,↓reduceIte,Nat.reduceLeDiff,Nat.reduceAdd,aR,aS,aW,aV,aU,aT,lH]) hc) ?_
  refine bI (fun j e h' nx'=>∃ (i m:Nat),i+j=256∧nx+1≤nx'∧e 1=ptr nx∧e 3=.int .i64 m∧e 7=.agg (u8s c).toArray∧e 8=.int .i64 i∧Sub h h'∧Fr h' nx' ∧
    h'.get nx=some (.cells (eN c n).toArray cG)∧rt c i=some m) ?_ (n:=256) ⟨0,0,by omega,by omega,rfl,rfl,rfl,rfl,?_,?_,?_,rfl⟩
  · rintro j e h' nx' ⟨i,m,hij,hnx,e1,e3,e7,e8,hs,hf',g0,hr⟩ Q' hq hx
    have hm:=aMK hr
    unfold xV
    rw [e3,e7,e8]
    (repeat (first | refine aB (by simp (disch:=first | omega | exact Int.natCast_nonneg _ | assumption) only [BB,B2,↓reduceIte,Nat.reduceLeDiff,Nat.reduceAdd,aR,aS,aW,aV,aU,aT]<;>rfl) ?_ | refine aD ?_ | refine aE ?_ | with_reducible first | refine aG ?_ | refine aF ?_ | refine aH ?_ | refine aI ?_ | refine aK ?_ | refine aJ ?_ | refine aL ?_ | refine aC ?_))
    by_cases hi:i < 256
    · refine fS (by simp; omega) ?_
      have hic:i < c.length:=by omega
      refine aB (aLK _ hic hc) ?_
      have hci:=hcl _ (List.getElem_mem hic)
      have hgd:c.getD i 0=c[i]:=by rw [List.getD_eq_getElem?_getD,List.getElem?_eq_getElem hic]; rfl
      have hrs:rt c (i+1)=if m < c[i] then none else if c[i]=m then some (m+1) else some m:=by simp only [rt,hr,Option.bind_some,hgd]
      (repeat (first | refine aB (by simp (disch:=first | omega | exact Int.natCast_nonneg _ | assumption) only [BB,B2,↓reduceIte,Nat.reduceLeDiff,Nat.reduceAdd,aR,aS,aW,aV,aU,aT]<;>rfl) ?_ | refine aD ?_ | refine aE ?_ | with_reducible first | refine aG ?_ | refine aF ?_ | refine aH ?_ | refine aI ?_ | refine aK ?_ | refine aJ ?_ | refine aL ?_ | refine aC ?_))
      by_cases h1:m < c[i]
      · refine fS (by simp; omega) ?_
        refine hx _ _ _ _ (fun e=>by cases e) (mM ?_)
        refine ⟨h,hs,?_⟩
        have hn:rt c 256=none:=aN2 (i:=i+1) (by rw [hrs,if_pos h1]) 256 (by omega)
        have:=hK (nx'+9) (by omega)
        unfold pG at this
        rw [hn] at this
        exact this
      · refine fR (by simp; omega) ?_
        rw [if_neg h1] at hrs
        (repeat (first | refine aB (by simp (disch:=first | omega | exact Int.natCast_nonneg _ | assumption) only [BB,B2,↓reduceIte,Nat.reduceLeDiff,Nat.reduceAdd,aR,aS,aW,aV,aU,aT]<;>rfl) ?_ | refine aD ?_ | refine aE ?_ | with_reducible first | refine aG ?_ | refine aF ?_ | refine aH ?_ | refine aI ?_ | refine aK ?_ | refine aJ ?_ | refine aL ?_ | refine aC ?_))
        have hj2:∀ (e:Env) (n2 m':Nat),nx'≤n2→e 1=ptr nx→e 3=.int .i64 m'→e 7=.agg (u8s c).toArray→e 8=.int .i64 i→rt c (i+1)=some m'→nS ro Q' e h' n2:=by
          intro e n2 m' hn2 e1 e3 e7 e8 hr'
          unfold nS
          rw [e8]
          (repeat (first | refine aB (by simp (disch:=first | omega | exact Int.natCast_nonneg _ | assumption) only [BB,B2,↓reduceIte,Nat.reduceLeDiff,Nat.reduceAdd,aR,aS,aW,aV,aU,aT]<;>rfl) ?_ | refine aD ?_ | refine aE ?_ | with_reducible first | refine aG ?_ | refine aF ?_ | refine aH ?_ | refine aI ?_ | refine aK ?_ | refine aJ ?_ | refine aL ?_ | refine aC ?_))
          exact hq (j - 1) _ _ _ _ (by omega) ⟨i+1,m',by omega,by omega,e1,e3,e7,rfl,hs,hf'.mono (by omega),g0,hr'⟩ (Sub.refl _)
        by_cases h2:c[i]=m
        · refine fS (by simp; omega) ?_
          (repeat (first | refine aB (by simp (disch:=first | omega | exact Int.natCast_nonneg _ | assumption) only [BB,B2,↓reduceIte,Nat.reduceLeDiff,Nat.reduceAdd,aR,aS,aW,aV,aU,aT]<;>rfl) ?_ | refine aD ?_ | refine aE ?_ | with_reducible first | refine aG ?_ | refine aF ?_ | refine aH ?_ | refine aI ?_ | refine aK ?_ | refine aJ ?_ | refine aL ?_ | refine aC ?_))
          rw [if_pos h2] at hrs
          exact hj2 _ _ (m+1) (by omega) e1 rfl e7 e8 hrs
        · refine fR (by simp; omega) ?_
          rw [if_neg h2] at hrs
          exact hj2 _ _ m (by omega) e1 e3 e7 e8 hrs
    · refine fR (by simp; omega) ?_
      refine hx _ _ _ _ (fun e=>by cases e) (fG (dR ?_))
      have hi2:i=256:=by omega
      subst hi2
      unfold rI
      have f1:∀ a,Env.put e 9 a 1=ptr nx:=fun a=>e1
      have f3:∀ a,Env.put e 9 a 3=.int .i64 m:=fun a=>e3
      simp only [puts,f1,f3]
      have hg:=uX (n:=n) hc
      (repeat (first | refine aB (by simp (disch:=first | omega | exact Int.natCast_nonneg _ | assumption) only [BB,B2,↓reduceIte,Nat.reduceLeDiff,Nat.reduceAdd,aR,aS,aW,aV,aU,aT,g0,hg]<;>rfl) ?_ | refine aD ?_ | refine aE ?_ | with_reducible first | refine aG ?_ | refine aF ?_ | refine aH ?_ | refine aI ?_ | refine aK ?_ | refine aJ ?_ | refine aL ?_ | refine aC ?_))
      refine ⟨h,hs,?_⟩
      have:=hK (nx'+1+5) (by omega)
      unfold pG at this
      rw [hr] at this
      exact this
  · exact (Sub.refl h).new hf (Nat.le_refl _)
  · exact hf.upd (m:=nx+6) (by omega) (by omega)
  · simp (disch:=first | omega | exact Int.natCast_nonneg _ | assumption) only [BB,B2,↓reduceIte,Nat.reduceLeDiff,Nat.reduceAdd,aR,aS,aW,aV,aU,aT,lH]
def eD (m:Int):Int:=if m=0 then 1 else if m=1 then 3 else if m=2 then 9 else if m=3 then 27 else 0
theorem aGO {m p:Int} (h:m=0∧p=1∨m=1∧p=3∨m=2∧p=9∨m=3∧p=27):eD m=p:=by
  unfold eD
  rcases h with ⟨h,rfl⟩ | ⟨h,rfl⟩ | ⟨h,rfl⟩ | ⟨h,rfl⟩<;>subst h<;>rfl
theorem tB {m:Int} (h:m < 0∨3 < m):eD m=0:=by
  unfold eD
  rw [if_neg (by omega),if_neg (by omega),if_neg (by omega),if_neg (by omega)]
theorem aCY (m:Int):0≤eD m∧eD m≤27:=by
  unfold eD
  repeat' split
  all_goals omega
theorem aEO {m:Int} (h:eD m≠0):0≤m∧m≤3:=by
  rcases Int.lt_or_le m 0 with h1 | h1
  · exact absurd (tB (.inl h1)) h
  · rcases Int.lt_or_le 3 m with h2 | h2
    · exact absurd (tB (.inr h2)) h
    · exact ⟨h1,h2⟩
set_option maxRecDepth 4000 in
theorem aEr {ro:Ro} {m:Int} {h:T Obj} {nx:Nat} {K:KV} (hK:∀ nx',nx≤nx'→K (.int .i64 (eD m)) h nx'):aN Tryz.prog ro uD [.int .i64 m] h nx K:=by
  apply aD8
  unfold zJ
  refine dO (fun h1=>?_) (fun h1=>?_)
  · (repeat (first | refine aB (by simp (disch:=first | omega | exact Int.natCast_nonneg _ | assumption) only [BB,B2,↓reduceIte,Nat.reduceLeDiff,Nat.reduceAdd,CC]<;>rfl) ?_ | refine aD ?_ | refine aE ?_ | with_reducible first | refine aG ?_ | refine aF ?_ | refine aH ?_ | refine aI ?_ | refine aK ?_ | refine aJ ?_ | refine aL ?_ | refine aC ?_))
    exact ⟨_,Sub.refl _,ki hK (tB (.inl h1)) (by omega)⟩
  · (repeat (first | refine aB (by simp (disch:=first | omega | exact Int.natCast_nonneg _ | assumption) only [BB,B2,↓reduceIte,Nat.reduceLeDiff,Nat.reduceAdd,CC]<;>rfl) ?_ | refine aD ?_ | refine aE ?_ | with_reducible first | refine aG ?_ | refine aF ?_ | refine aH ?_ | refine aI ?_ | refine aK ?_ | refine aJ ?_ | refine aL ?_ | refine aC ?_))
    refine nX (fun h2=>?_) (fun h2=>?_)
    · (repeat (first | refine aB (by simp (disch:=first | omega | exact Int.natCast_nonneg _ | assumption) only [BB,B2,↓reduceIte,Nat.reduceLeDiff,Nat.reduceAdd,CC]<;>rfl) ?_ | refine aD ?_ | refine aE ?_ | with_reducible first | refine aG ?_ | refine aF ?_ | refine aH ?_ | refine aI ?_ | refine aK ?_ | refine aJ ?_ | refine aL ?_ | refine aC ?_))
      exact ⟨_,Sub.refl _,ki hK (tB (.inr h2)) (by omega)⟩
    · (repeat (first | refine aB (by simp (disch:=first | omega | exact Int.natCast_nonneg _ | assumption) only [BB,B2,↓reduceIte,Nat.reduceLeDiff,Nat.reduceAdd,CC]<;>rfl) ?_ | refine aD ?_ | refine aE ?_ | with_reducible first | refine aG ?_ | refine aF ?_ | refine aH ?_ | refine aI ?_ | refine aK ?_ | refine aJ ?_ | refine aL ?_ | refine aC ?_))
      refine bI (fun j e h' nx'=>∃ (k:Nat) (p:Int),(k:Int)+j=m∧nx≤nx'∧h'=h∧e 3=.int .i64 p∧e 10=.int .i64 m∧e 11=.int .i64 k∧(k=0∧p=1∨k=1∧p=3∨k=2∧p=9∨k=3∧p=27)) ?_ (n:=m.toNat) ⟨0,1,by omega,by omega,rfl,rfl,rfl,rfl,by omega⟩
      rintro j e h' nx' ⟨k,p,hj,hnx,rfl,e3,e10,e11,hp⟩ Q' hq hx
      unfold yR
      rw [e3,e10,e11]
      refine dO (fun hk=>?_) (fun hk=>?_)
      · (repeat (first | refine aB (by simp (disch:=first | omega | exact Int.natCast_nonneg _ | assumption) only [BB,B2,↓reduceIte,Nat.reduceLeDiff,Nat.reduceAdd,CC]<;>rfl) ?_ | refine aD ?_ | refine aE ?_ | with_reducible first | refine aG ?_ | refine aF ?_ | refine aH ?_ | refine aI ?_ | refine aK ?_ | refine aJ ?_ | refine aL ?_ | refine aC ?_))
        exact hq (j - 1) _ _ _ _ (by omega) ⟨k+1,p*3,by omega,by omega,rfl,rfl,e10,rfl,by omega⟩ (Sub.refl _)
      · (repeat (first | refine aB (by simp (disch:=first | omega | exact Int.natCast_nonneg _ | assumption) only [BB,B2,↓reduceIte,Nat.reduceLeDiff,Nat.reduceAdd,CC]<;>rfl) ?_ | refine aD ?_ | refine aE ?_ | with_reducible first | refine aG ?_ | refine aF ?_ | refine aH ?_ | refine aI ?_ | refine aK ?_ | refine aJ ?_ | refine aL ?_ | refine aC ?_))
        refine hx _ _ _ _ (fun e=>by cases e) (fG (dR ?_))
        unfold sB
        have f3:∀ (e':Env) n,e' 3=.int .i64 p→nx≤n→∃ h13,Sub h13 h'∧K (e' 3) h13 n:=fun e' n h3 hn=>by
          rw [h3]
          exact ⟨_,Sub.refl _,ki hK (aGO (by omega)) hn⟩
        exact f3 _ _ e3 (by omega)
set_option maxRecDepth 4000 in
theorem aDv {ro:Ro} {m:Int} {h:T Obj} {nx:Nat} {K:KV} (hK:∀ nx',nx≤nx'→K (.int .i64 (eD m)) h nx'):aN Tryz.prog ro sJ [.int .i64 m] h nx K:=by
  apply aDJ
  unfold xF
  refine dO (fun h1=>?_) (fun h1=>?_)
  · (repeat (first | refine aB (by simp (disch:=first | omega | exact Int.natCast_nonneg _ | assumption) only [BB,B2,↓reduceIte,Nat.reduceLeDiff,Nat.reduceAdd,CC]<;>rfl) ?_ | refine aD ?_ | refine aE ?_ | with_reducible first | refine aG ?_ | refine aF ?_ | refine aH ?_ | refine aI ?_ | refine aK ?_ | refine aJ ?_ | refine aL ?_ | refine aC ?_))
    exact ⟨_,Sub.refl _,ki hK (tB (.inl h1)) (by omega)⟩
  · (repeat (first | refine aB (by simp (disch:=first | omega | exact Int.natCast_nonneg _ | assumption) only [BB,B2,↓reduceIte,Nat.reduceLeDiff,Nat.reduceAdd,CC]<;>rfl) ?_ | refine aD ?_ | refine aE ?_ | with_reducible first | refine aG ?_ | refine aF ?_ | refine aH ?_ | refine aI ?_ | refine aK ?_ | refine aJ ?_ | refine aL ?_ | refine aC ?_))
    refine nX (fun h2=>?_) (fun h2=>?_)
    · (repeat (first | refine aB (by simp (disch:=first | omega | exact Int.natCast_nonneg _ | assumption) only [BB,B2,↓reduceIte,Nat.reduceLeDiff,Nat.reduceAdd,CC]<;>rfl) ?_ | refine aD ?_ | refine aE ?_ | with_reducible first | refine aG ?_ | refine aF ?_ | refine aH ?_ | refine aI ?_ | refine aK ?_ | refine aJ ?_ | refine aL ?_ | refine aC ?_))
      exact ⟨_,Sub.refl _,ki hK (tB (.inr h2)) (by omega)⟩
    · (repeat (first | refine aB (by simp (disch:=first | omega | exact Int.natCast_nonneg _ | assumption) only [BB,B2,↓reduceIte,Nat.reduceLeDiff,Nat.reduceAdd,CC]<;>rfl) ?_ | refine aD ?_ | refine aE ?_ | with_reducible first | refine aG ?_ | refine aF ?_ | refine aH ?_ | refine aI ?_ | refine aK ?_ | refine aJ ?_ | refine aL ?_ | refine aC ?_))
      refine bI (fun j e h' nx'=>∃ (k:Nat) (p:Int),(k:Int)+j=m∧nx≤nx'∧h'=h∧e 3=.int .i64 p∧e 0=.int .i64 m∧e 4=.int .i64 k∧(k=0∧p=1∨k=1∧p=3∨k=2∧p=9∨k=3∧p=27)) ?_ (n:=m.toNat) ⟨0,1,by omega,by omega,rfl,rfl,rfl,rfl,by omega⟩
      rintro j e h' nx' ⟨k,p,hj,hnx,rfl,e3,e10,e11,hp⟩ Q' hq hx
      unfold xG
      rw [e3,e10,e11]
      refine dO (fun hk=>?_) (fun hk=>?_)
      · (repeat (first | refine aB (by simp (disch:=first | omega | exact Int.natCast_nonneg _ | assumption) only [BB,B2,↓reduceIte,Nat.reduceLeDiff,Nat.reduceAdd,CC]<;>rfl) ?_ | refine aD ?_ | refine aE ?_ | with_reducible first | refine aG ?_ | refine aF ?_ | refine aH ?_ | refine aI ?_ | refine aK ?_ | refine aJ ?_ | refine aL ?_ | refine aC ?_))
        exact hq (j - 1) _ _ _ _ (by omega) ⟨k+1,p*3,by omega,by omega,rfl,rfl,e10,rfl,by omega⟩ (Sub.refl _)
      · (repeat (first | refine aB (by simp (disch:=first | omega | exact Int.natCast_nonneg _ | assumption) only [BB,B2,↓reduceIte,Nat.reduceLeDiff,Nat.reduceAdd,CC]<;>rfl) ?_ | refine aD ?_ | refine aE ?_ | with_reducible first | refine aG ?_ | refine aF ?_ | refine aH ?_ | refine aI ?_ | refine aK ?_ | refine aJ ?_ | refine aL ?_ | refine aC ?_))
        refine hx _ _ _ _ (fun e=>by cases e) (fG (dR ?_))
        unfold rA
        have f3:∀ (e':Env) n,e' 3=.int .i64 p→nx≤n→∃ h13,Sub h13 h'∧K (e' 3) h13 n:=fun e' n h3 hn=>by
          rw [h3]
          exact ⟨_,Sub.refl _,ki hK (aGO (by omega)) hn⟩
        exact f3 _ _ e3 (by omega)
structure MoveD where
  to:Int
  ops:List Nat
structure StateD where
  l:List Int
  r:List Int
  rule:List Int
  next:List (List MoveD)
structure AutoD where
  c:List Nat
  many:Int
  counts:List (Int × Int)
  states:List StateD
def noS:StateD:=⟨[],[],[],[]⟩
def aGm (R:List Int) (o:Nat) (r:Int):Bool:=decide (1≤o)&&(decide (o≤3)&&(decide (o=3) || R.contains r))
def y6 (R:List Int):List Nat→List Int→Bool
  | o::os,r::rs=>aGm R o r&&y6 R os rs
  | _,_=>true
def iV (S:List StateD) (R:List Int) (m:MoveD):Bool :=
  if m.to=-1 then decide (m.ops.length=0) else decide (1≤m.to)&&(decide (m.to < S.length)&&(decide (m.ops.length=(S.getD m.to.toNat noS).r.length)&&y6 R m.ops (S.getD m.to.toNat noS).r))
def vL:Nat:=9223372036854775807
def RU8 (x:List Value) (d:Nat):Prop:=x=[.int .u8 (d:Int)]∧d < 256
def yQ (ro:Ro) (h:T Obj) (x:List Value) (d:MoveD):Prop:=∃ ov,x=[.int .i64 d.to,ov]∧SlR ro h ov 1 RU8 d.ops∧d.ops.length≤vL
def rJ (ro:Ro) (h:T Obj) (x:List Value) (d:List MoveD):Prop:=∃ w,x=[w]∧SlR ro h w 2 (yQ ro h) d∧d.length≤vL
def eA (ro:Ro) (h:T Obj) (x:List Value) (d:StateD):Prop:=∃ lv rv uv nv,x=[lv,rv,uv,nv]∧ZI ro h lv d.l∧ZI ro h rv d.r∧ZI ro h uv d.rule∧SlR ro h nv 1 (rJ ro h) d.next∧d.r.length≤vL
def zH (x:List Value) (d:Int × Int):Prop:=x=[.int .i64 d.1,.int .i64 d.2]
theorem yQ.sub {ro:Ro} {h h':T Obj} (hs:Sub h h'):∀ x d,yQ ro h x d→yQ ro h' x d:=fun x d ⟨ov,h1,h2,h3⟩=>⟨ov,h1,h2.sub hs fun _ _ h=>h,h3⟩
theorem rJ.sub {ro:Ro} {h h':T Obj} (hs:Sub h h'):∀ x d,rJ ro h x d→rJ ro h' x d:=fun x d ⟨ov,h1,h2,h3⟩=>⟨ov,h1,h2.sub hs (yQ.sub hs),h3⟩
theorem eA.sub {ro:Ro} {h h':T Obj} (hs:Sub h h'):∀ x d,eA ro h x d→eA ro h' x d:=fun x d ⟨lv,rv,uv,nv,h1,h2,h3,h4,h5,h6⟩=>⟨lv,rv,uv,nv,h1,h2.sub hs,h3.sub hs,h4.sub hs,h5.sub hs (rJ.sub hs),h6⟩
def dQ (c:List Nat) (n:Int) (cv sv:Value):List Value:=eN c n++[cv,sv]
section
variable {c:List Nat} {n:Int} {cv sv:Value}
theorem cJ (hc:c.length=256):(dQ c n cv sv).length=259:=by simp [dQ,dB hc]
theorem aEI (hc:c.length=256):(dQ c n cv sv)[256]?=some (.int .i64 n):=by
  unfold dQ
  rw [List.getElem?_append_left (by rw [dB hc]; omega)]
  exact uX hc
theorem mK (hc:c.length=256):(dQ c n cv sv)[257]?=some cv:=by
  unfold dQ
  rw [List.getElem?_append_right (by rw [dB hc]; omega),dB hc]; rfl
theorem kC (hc:c.length=256):(dQ c n cv sv)[258]?=some sv:=by
  unfold dQ
  rw [List.getElem?_append_right (by rw [dB hc]; omega),dB hc]; rfl
theorem x9 (h1:bT cv=true) (h2:bT sv=true):(dQ c n cv sv).all bT=true:=by
  unfold dQ
  rw [List.all_append,aDW,Bool.true_and]
  simp [h1,h2]
theorem aNw {ro:Ro} {h:T Obj} {id z:Nat} {e:TypeId} {f:Nat × Nat} (hg:h.get id=some (.cells (dQ c n cv sv).toArray e f)) (hc:c.length=256):loadA ro h 257 (at_ id 0 z)=some (j5 c n):=by
  rw [bZ,hg,bA]
  simp only [Option.bind_some,tl]
  rw [if_pos (by rw [cJ hc]; omega),List.drop_zero]
  unfold dQ
  rw [List.take_append_of_le_length (by rw [dB hc]; omega),List.take_of_length_le (by rw [dB hc]; omega)]
  rfl
end
def mJ (ro:Ro) (h:T Obj) (x:List Value) (d:AutoD):Prop:=∃ cv sv,x=dQ d.c d.many cv sv∧d.c.length=256∧(∀ x∈d.c,x < 256)∧SlR ro h cv 2 zH d.counts∧SlR ro h sv 4 (eA ro h) d.states∧d.counts.length≤vL∧d.states.length≤vL
theorem z8 (R:List Int) (o:Nat) (os:List Nat) (r:Int) (rs:List Int):y6 R (o::os) (r::rs)=(aGm R o r&&y6 R os rs):=rfl
theorem aKJ (R:List Int) (rs:List Int):y6 R [] rs=true:=by cases rs<;>rfl
set_option maxRecDepth 4000 in
theorem aAO {ro:Ro} {v:Value} {l:List Int} {many:Int} (hm:many≤1000000) {h:T Obj} {nx:Nat} {K:KV} (hv:ZI ro h v l) (hK:∀ nx',nx≤nx'→K (.bool (rz (-1) many l)) h nx'):aN Tryz.prog ro pS [v,.int .i64 many] h nx K:=by
  apply aDc
  unfold zL
  generalize hR:rz (-1) many l=R at hK
  refine aB hv.len ?_
  refine bI (fun j e h' nx'=>∃ (k:Nat) (last:Int),k+j=l.length∧nx≤nx'∧h'=h∧e 1=.int .i64 many∧e 5=.int .i64 last∧e 8=v∧e 9=.int .i64 l.length∧e 10=.int .i64 k∧(k:Int)≤last+1∧rz last many (l.drop k)=R) ?_ (n:=l.length) ⟨0,-1,by omega,by omega,rfl,rfl,rfl,rfl,rfl,rfl,by omega,hR⟩
  rintro j e h' nx' ⟨k,last,hj,hnx,rfl,e1,e5,e8,e9,e10,hk1,hr⟩ Q' hq hx
  unfold yS
  rw [e1,e5,e8,e9,e10]
  (repeat (first | refine aB (by simp (disch:=first | omega | exact Int.natCast_nonneg _ | assumption) only [BB,B2,↓reduceIte,Nat.reduceLeDiff,Nat.reduceAdd,aR,aS,aW,aV,aU,aT]<;>rfl) ?_ | refine aD ?_ | refine aE ?_ | with_reducible first | refine aG ?_ | refine aF ?_ | refine aH ?_ | refine aI ?_ | refine aK ?_ | refine aJ ?_ | refine aL ?_ | refine aC ?_))
  refine aMi (fun hk=>?_) (fun hk=>?_)
  · have hk:k < l.length:=by omega
    rw [eL hk,aFg] at hr
    refine aB (hv.ix _ hk) (aB (hv.load hk) ?_)
    generalize l[k]=x at hr
    (repeat (first | refine aB (by simp (disch:=first | omega | exact Int.natCast_nonneg _ | assumption) only [BB,B2,↓reduceIte,Nat.reduceLeDiff,Nat.reduceAdd,aR,aS,aW,aV,aU,aT]<;>rfl) ?_ | refine aD ?_ | refine aE ?_ | with_reducible first | refine aG ?_ | refine aF ?_ | refine aH ?_ | refine aI ?_ | refine aK ?_ | refine aJ ?_ | refine aL ?_ | refine aC ?_))
    by_cases h1:x≤last
    · rw [decide_eq_true h1]
      (repeat (first | refine aB (by simp (disch:=first | omega | exact Int.natCast_nonneg _ | assumption) only [BB,B2,↓reduceIte,Nat.reduceLeDiff,Nat.reduceAdd,aR,aS,aW,aV,aU,aT]<;>rfl) ?_ | refine aD ?_ | refine aE ?_ | with_reducible first | refine aG ?_ | refine aF ?_ | refine aH ?_ | refine aI ?_ | refine aK ?_ | refine aJ ?_ | refine aL ?_ | refine aC ?_))
      refine hx _ _ _ _ (fun e=>by cases e) (mM ?_)
      refine ⟨_,Sub.refl _,kb hK ?_ (by omega)⟩
      rw [← hr,decide_eq_false (by omega)]; rfl
    · rw [decide_eq_false h1]
      (repeat (first | refine aB (by simp (disch:=first | omega | exact Int.natCast_nonneg _ | assumption) only [BB,B2,↓reduceIte,Nat.reduceLeDiff,Nat.reduceAdd,aR,aS,aW,aV,aU,aT]<;>rfl) ?_ | refine aD ?_ | refine aE ?_ | with_reducible first | refine aG ?_ | refine aF ?_ | refine aH ?_ | refine aI ?_ | refine aK ?_ | refine aJ ?_ | refine aL ?_ | refine aC ?_))
      by_cases h2:many≤x
      · rw [decide_eq_true h2]
        (repeat (first | refine aB (by simp (disch:=first | omega | exact Int.natCast_nonneg _ | assumption) only [BB,B2,↓reduceIte,Nat.reduceLeDiff,Nat.reduceAdd,aR,aS,aW,aV,aU,aT]<;>rfl) ?_ | refine aD ?_ | refine aE ?_ | with_reducible first | refine aG ?_ | refine aF ?_ | refine aH ?_ | refine aI ?_ | refine aK ?_ | refine aJ ?_ | refine aL ?_ | refine aC ?_))
        refine hx _ _ _ _ (fun e=>by cases e) (mM ?_)
        refine ⟨_,Sub.refl _,kb hK ?_ (by omega)⟩
        rw [← hr,decide_eq_false (show ¬ x < many by omega)]; simp
      · rw [decide_eq_false h2]
        (repeat (first | refine aB (by simp (disch:=first | omega | exact Int.natCast_nonneg _ | assumption) only [BB,B2,↓reduceIte,Nat.reduceLeDiff,Nat.reduceAdd,aR,aS,aW,aV,aU,aT]<;>rfl) ?_ | refine aD ?_ | refine aE ?_ | with_reducible first | refine aG ?_ | refine aF ?_ | refine aH ?_ | refine aI ?_ | refine aK ?_ | refine aJ ?_ | refine aL ?_ | refine aC ?_))
        refine hq (j - 1) _ _ _ _ (by omega) ⟨k+1,x,by omega,by omega,rfl,e1,rfl,e8,e9,rfl,by omega,?_⟩ (Sub.refl _)
        rw [← hr,decide_eq_true (show last < x by omega),decide_eq_true (show x < many by omega)]; rfl
  · refine hx _ _ _ _ (fun e=>by cases e) (fG (dR ?_))
    unfold sD
    rw [iH (by omega)] at hr
    exact ⟨_,Sub.refl _,kb hK hr.symm (by omega)⟩
theorem aAC {ro:Ro} {v:Value} {l:List Int} {p:Int} (hlen:l.length≤1000000) {h:T Obj} {nx:Nat} {K:KV} (hv:ZI ro h v l) (hK:∀ nx',nx≤nx'→K (.bool (l.contains p)) h nx'):aN Tryz.prog ro qQ [v,.int .i64 p] h nx K:=by
  apply aHM
  unfold aDM
  generalize hR:l.contains p=R at hK
  refine bI (fun j e h' nx'=>∃ (k:Nat),k+j=l.length∧nx≤nx'∧h'=h∧e 0=v∧e 1=.int .i64 p∧e 5=.int .i64 k∧(l.drop k).contains p=R) ?_ (n:=l.length) ⟨0,by omega,by omega,rfl,rfl,rfl,rfl,hR⟩
  rintro j e h' nx' ⟨k,hj,hnx,rfl,e0,e1,e5,hr⟩ Q' hq hx
  unfold aBn
  rw [e0,e1,e5]
  refine aB hv.len ?_
  refine dO (fun hk=>?_) (fun hk=>?_)
  · have hk:k < l.length:=by omega
    rw [eL hk] at hr
    (repeat (first | refine aB (by simp (disch:=first | omega | exact Int.natCast_nonneg _ | assumption) only [BB,B2,↓reduceIte,Nat.reduceLeDiff,Nat.reduceAdd,CC]<;>rfl) ?_ | refine aD ?_ | refine aE ?_ | with_reducible first | refine aG ?_ | refine aF ?_ | refine aH ?_ | refine aI ?_ | refine aK ?_ | refine aJ ?_ | refine aL ?_ | refine aC ?_))
    refine aB (hv.ix _ hk) (aB (hv.load hk) ?_)
    generalize l[k]=x at hr
    refine nB (fun he=>?_) (fun he=>?_)
    · (repeat (first | refine aB (by simp (disch:=first | omega | exact Int.natCast_nonneg _ | assumption) only [BB,B2,↓reduceIte,Nat.reduceLeDiff,Nat.reduceAdd,CC]<;>rfl) ?_ | refine aD ?_ | refine aE ?_ | with_reducible first | refine aG ?_ | refine aF ?_ | refine aH ?_ | refine aI ?_ | refine aK ?_ | refine aJ ?_ | refine aL ?_ | refine aC ?_))
      refine hx _ _ _ _ (fun e=>by cases e) (mM ?_)
      exact ⟨_,Sub.refl _,kb hK (by rw [← hr,he]; simp) (by omega)⟩
    · (repeat (first | refine aB (by simp (disch:=first | omega | exact Int.natCast_nonneg _ | assumption) only [BB,B2,↓reduceIte,Nat.reduceLeDiff,Nat.reduceAdd,CC]<;>rfl) ?_ | refine aD ?_ | refine aE ?_ | with_reducible first | refine aG ?_ | refine aF ?_ | refine aH ?_ | refine aI ?_ | refine aK ?_ | refine aJ ?_ | refine aL ?_ | refine aC ?_))
      refine hq (j - 1) _ _ _ _ (by omega) ⟨k+1,by omega,by omega,rfl,e0,e1,rfl,?_⟩ (Sub.refl _)
      rw [← hr,List.contains_cons,beq_eq_false_iff_ne.2 (Ne.symm he),Bool.false_or]
  · (repeat (first | refine aB (by simp (disch:=first | omega | exact Int.natCast_nonneg _ | assumption) only [BB,B2,↓reduceIte,Nat.reduceLeDiff,Nat.reduceAdd,CC]<;>rfl) ?_ | refine aD ?_ | refine aE ?_ | with_reducible first | refine aG ?_ | refine aF ?_ | refine aH ?_ | refine aI ?_ | refine aK ?_ | refine aJ ?_ | refine aL ?_ | refine aC ?_))
    refine hx _ _ _ _ (fun e=>by cases e) (fG (dR ?_))
    unfold xQ
    rw [iH (by omega)] at hr
    exact ⟨_,Sub.refl _,kb hK hr.symm (by omega)⟩
theorem rY {ro:Ro} {v:Value} {l:List Int} {p:Int} (hlen:l.length≤1000000) {h:T Obj} {nx:Nat} {K:KV} (hv:ZI ro h v l) (hK:∀ nx',nx≤nx'→K (.bool (l.contains p)) h nx'):aN Tryz.prog ro fQ [v,.int .i64 p] h nx K:=by
  apply rH
  unfold iY
  apply tP
  unfold kZ
  refine aB hv.len ?_
  have hyes:∀ (k:Nat) n,p∈l→nx≤n→aA (aX .geq (.int .i64 (k:Int)) (.int .i64 0)) fun t8_4=>∃ h5,Sub h5 h∧K t8_4 h5 (n+2):=fun k n hp hn=>by
    refine pL (fun hg=>?_) (fun hg=>by omega)
    exact ⟨_,Sub.refl _,kb hK (by simpa using hp) (by omega)⟩
  generalize hR:l.contains p=R at hK
  refine bI (fun j e h' nx'=>∃ (k:Nat),k+j=l.length∧nx≤nx'∧h'=h∧e 0=v∧e 1=.int .i64 p∧e 7=.int .i64 l.length∧e 8=.int .i64 k∧(l.drop k).contains p=R) ?_ (n:=l.length) ⟨0,by omega,by omega,rfl,rfl,rfl,rfl,rfl,hR⟩
  rintro j e h' nx' ⟨k,hj,hnx,rfl,e0,e1,e7,e8,hr⟩ Q' hq hx
  unfold mT
  rw [e0,e1,e7,e8]
  refine dO (fun hk=>?_) (fun hk=>?_)
  · have hk:k < l.length:=by omega
    have hmem:l[k]∈l:=List.getElem_mem hk
    rw [eL hk] at hr
    (repeat (first | refine aB (by simp (disch:=first | omega | exact Int.natCast_nonneg _ | assumption) only [BB,B2,↓reduceIte,Nat.reduceLeDiff,Nat.reduceAdd,CC]<;>rfl) ?_ | refine aD ?_ | refine aE ?_ | with_reducible first | refine aG ?_ | refine aF ?_ | refine aH ?_ | refine aI ?_ | refine aK ?_ | refine aJ ?_ | refine aL ?_ | refine aC ?_))
    refine aB (hv.ix _ hk) (aB (hv.load hk) ?_)
    generalize l[k]=x at hr hmem
    refine nB (fun he=>?_) (fun he=>?_)
    · (repeat (first | refine aB (by simp (disch:=first | omega | exact Int.natCast_nonneg _ | assumption) only [BB,B2,↓reduceIte,Nat.reduceLeDiff,Nat.reduceAdd,CC]<;>rfl) ?_ | refine aD ?_ | refine aE ?_ | with_reducible first | refine aG ?_ | refine aF ?_ | refine aH ?_ | refine aI ?_ | refine aK ?_ | refine aJ ?_ | refine aL ?_ | refine aC ?_))
      refine hx _ _ _ _ (fun e=>by cases e) (mM ?_)
      refine ⟨_,Sub.refl _,hyes _ _ (by rw [he]; exact hmem) (by omega)⟩
    · (repeat (first | refine aB (by simp (disch:=first | omega | exact Int.natCast_nonneg _ | assumption) only [BB,B2,↓reduceIte,Nat.reduceLeDiff,Nat.reduceAdd,CC]<;>rfl) ?_ | refine aD ?_ | refine aE ?_ | with_reducible first | refine aG ?_ | refine aF ?_ | refine aH ?_ | refine aI ?_ | refine aK ?_ | refine aJ ?_ | refine aL ?_ | refine aC ?_))
      refine hq (j - 1) _ _ _ _ (by omega) ⟨k+1,by omega,by omega,rfl,e0,e1,e7,rfl,?_⟩ (Sub.refl _)
      rw [← hr,List.contains_cons,beq_eq_false_iff_ne.2 he,Bool.false_or]
  · (repeat (first | refine aB (by simp (disch:=first | omega | exact Int.natCast_nonneg _ | assumption) only [BB,B2,↓reduceIte,Nat.reduceLeDiff,Nat.reduceAdd,CC]<;>rfl) ?_ | refine aD ?_ | refine aE ?_ | with_reducible first | refine aG ?_ | refine aF ?_ | refine aH ?_ | refine aI ?_ | refine aK ?_ | refine aJ ?_ | refine aL ?_ | refine aC ?_))
    refine hx _ _ _ _ (fun e=>by cases e) (fG (dR ?_))
    unfold iZ
    rw [iH (by omega)] at hr
    refine ⟨_,Sub.refl _,?_⟩
    refine pL (fun hg=>by omega) (fun hg=>?_)
    exact ⟨_,Sub.refl _,kb hK hr.symm (by omega)⟩
set_option maxRecDepth 8000 in
set_option maxHeartbeats 1000000 in
theorem aCV {ro:Ro} {c:List Nat} {n:Int} {cv sv lv rv uv nv ov:Value} {S:List StateD} {R:List Int} {m:MoveD} (hc:c.length=256) (hSl:S.length≤256) (hR:R.length≤3) (hmo:m.ops.length≤vL) {h:T Obj} {nx:Nat} {K:KV} (hf:Fr h nx)
    (hS:SlR ro h sv 4 (eA ro h) S) (hrv:ZI ro h rv R) (hov:SlR ro h ov 1 RU8 m.ops) (hK:∀ nx',nx≤nx'→K (.bool (iV S R m)) h nx'):aN Tryz.prog ro lK [.agg (dQ c n cv sv).toArray,.agg #[lv,rv,uv,nv],.agg #[.int .i64 m.to,ov]] h nx K:=by
  apply vZ
  unfold mZ
  refine fT hf (Nat.le_refl _) fun h1 hs1 hf1 g1 _=>?_
  refine fT hf1 (Nat.le_refl _) fun h2 hs2 hf2 g2 _=>?_
  refine fT hf2 (Nat.le_refl _) fun h3 hs3 hf3 g3 _=>?_
  have g1:h3.get nx=some (.cells (dQ c n cv sv).toArray dM):=hs3 _ _ (hs2 _ _ g1)
  have g2:h3.get (nx+1)=some (.cells #[lv,rv,uv,nv] aP):=hs3 _ _ g2
  have g3:h3.get (nx+2)=some (.cells #[.int .i64 m.to,ov] bC):=g3
  have hs:=(hs1.trans hs2).trans hs3
  have hS:=hS.sub hs (eA.sub hs)
  have hrv:=hrv.sub hs
  have hov:=hov.sub hs fun _ _ h=>h
  have hsg:=kC (n:=n) (cv:=cv) (sv:=sv) hc
  have hol:=hov.len
  have hsl:=hS.len
  have hmb:m.ops.length≤9223372036854775807:=hmo
  have hno:∀ n,iV S R m=false→nx≤n→∃ h',Sub h' h3∧K (.bool false) h' n:=fun n e hn=>⟨h,hs,kb hK e hn⟩
  (repeat (first | refine aB (by simp (disch:=first | omega | exact Int.natCast_nonneg _ | assumption) only [BB,B2,↓reduceIte,Nat.reduceLeDiff,Nat.reduceAdd,CC,g3]<;>rfl) ?_ | refine aD ?_ | refine aE ?_ | with_reducible first | refine aG ?_ | refine aF ?_ | refine aH ?_ | refine aI ?_ | refine aK ?_ | refine aJ ?_ | refine aL ?_ | refine aC ?_))
  refine nB (fun ht=>?_) (fun ht=>?_)
  · (repeat (first | refine aB (by simp (disch:=first | omega | exact Int.natCast_nonneg _ | assumption) only [BB,B2,↓reduceIte,Nat.reduceLeDiff,Nat.reduceAdd,CC,g3,hol]<;>rfl) ?_ | refine aD ?_ | refine aE ?_ | with_reducible first | refine aG ?_ | refine aF ?_ | refine aH ?_ | refine aI ?_ | refine aK ?_ | refine aJ ?_ | refine aL ?_ | refine aC ?_))
    refine aB (aR _ _ _) ?_
    refine ⟨h,hs,kb hK ?_ (by omega)⟩
    unfold iV
    rw [if_pos ht,decide_eq_decide]
    omega
  · unfold iV at hno hK
    rw [if_neg ht] at hno hK
    (repeat (first | refine aB (by simp (disch:=first | omega | exact Int.natCast_nonneg _ | assumption) only [BB,B2,↓reduceIte,Nat.reduceLeDiff,Nat.reduceAdd,CC,g3]<;>rfl) ?_ | refine aD ?_ | refine aE ?_ | with_reducible first | refine aG ?_ | refine aF ?_ | refine aH ?_ | refine aI ?_ | refine aK ?_ | refine aJ ?_ | refine aL ?_ | refine aC ?_))
    refine dO (fun h1=>?_) (fun h1=>?_)
    · (repeat (first | refine aB (by simp (disch:=first | omega | exact Int.natCast_nonneg _ | assumption) only [BB,B2,↓reduceIte,Nat.reduceLeDiff,Nat.reduceAdd,CC]<;>rfl) ?_ | refine aD ?_ | refine aE ?_ | with_reducible first | refine aG ?_ | refine aF ?_ | refine aH ?_ | refine aI ?_ | refine aK ?_ | refine aJ ?_ | refine aL ?_ | refine aC ?_))
      exact hno _ (by rw [decide_eq_false (by omega)]; rfl) (by omega)
    · rw [decide_eq_true h1,Bool.true_and] at hno hK
      (repeat (first | refine aB (by simp (disch:=first | omega | exact Int.natCast_nonneg _ | assumption) only [BB,B2,↓reduceIte,Nat.reduceLeDiff,Nat.reduceAdd,CC,g1,g3,hsg,hsl]<;>rfl) ?_ | refine aD ?_ | refine aE ?_ | with_reducible first | refine aG ?_ | refine aF ?_ | refine aH ?_ | refine aI ?_ | refine aK ?_ | refine aJ ?_ | refine aL ?_ | refine aC ?_))
      refine pL (fun h2=>?_) (fun h2=>?_)
      · (repeat (first | refine aB (by simp (disch:=first | omega | exact Int.natCast_nonneg _ | assumption) only [BB,B2,↓reduceIte,Nat.reduceLeDiff,Nat.reduceAdd,CC]<;>rfl) ?_ | refine aD ?_ | refine aE ?_ | with_reducible first | refine aG ?_ | refine aF ?_ | refine aH ?_ | refine aI ?_ | refine aK ?_ | refine aJ ?_ | refine aL ?_ | refine aC ?_))
        exact hno _ (by rw [decide_eq_false (by omega)]; rfl) (by omega)
      · rw [decide_eq_true h2,Bool.true_and] at hno hK
        have hti:m.to.toNat < S.length:=by omega
        have hgd:S.getD m.to.toNat noS=S[m.to.toNat]:=by rw [List.getD_eq_getElem?_getD,List.getElem?_eq_getElem hti]; rfl
        rw [hgd] at hno hK
        have hix:=hS.ixI .i64 (i:=m.to) (by omega) h2
        obtain ⟨x,⟨lv',rv',uv',nv',rfl,y1,y2,y3,y4,y5⟩,hx2,hx3,hx4,hx5⟩:=hS.at hti
        have hx1:=hx5 1 rv' rfl
        have hrl:=y2.len
        generalize S[m.to.toNat]=s at hno hK y1 y2 y3 y4 y5 hrl
        have y5:s.r.length≤9223372036854775807:=y5
        (repeat (first | refine aB (by simp (disch:=first | omega | exact Int.natCast_nonneg _ | assumption) only [BB,B2,↓reduceIte,Nat.reduceLeDiff,Nat.reduceAdd,CC,g1,g3,hsg,hol,hix,hx4,hx1,hrl]<;>rfl) ?_ | refine aD ?_ | refine aE ?_ | with_reducible first | refine aG ?_ | refine aF ?_ | refine aH ?_ | refine aI ?_ | refine aK ?_ | refine aJ ?_ | refine aL ?_ | refine aC ?_))
        refine tH (fun u9=>?_) (fun u9=>?_)
        · (repeat (first | refine aB (by simp (disch:=first | omega | exact Int.natCast_nonneg _ | assumption) only [BB,B2,↓reduceIte,Nat.reduceLeDiff,Nat.reduceAdd,CC]<;>rfl) ?_ | refine aD ?_ | refine aE ?_ | with_reducible first | refine aG ?_ | refine aF ?_ | refine aH ?_ | refine aI ?_ | refine aK ?_ | refine aJ ?_ | refine aL ?_ | refine aC ?_))
          exact hno _ (by rw [decide_eq_false (by omega)]; rfl) (by omega)
        · have u9:m.ops.length=s.r.length:=by omega
          rw [decide_eq_true u9,Bool.true_and] at hno hK
          (repeat (first | refine aB (by simp (disch:=first | omega | exact Int.natCast_nonneg _ | assumption) only [BB,B2,↓reduceIte,Nat.reduceLeDiff,Nat.reduceAdd,CC,g3,hol]<;>rfl) ?_ | refine aD ?_ | refine aE ?_ | with_reducible first | refine aG ?_ | refine aF ?_ | refine aH ?_ | refine aI ?_ | refine aK ?_ | refine aJ ?_ | refine aL ?_ | refine aC ?_))
          generalize hB:y6 R m.ops s.r=B at hno hK
          refine bI (fun j e h' nx'=>∃ (k:Nat),k+j=m.ops.length∧nx≤nx'∧h'=h3∧e 3=ptr nx∧e 4=ptr (nx+1)∧e 5=ptr (nx+2)∧e 44=ov∧e 45=.int .i64 m.ops.length∧e 46=.int .i64 k∧y6 R (m.ops.drop k) (s.r.drop k)=B) ?_ (n:=m.ops.length) ⟨0,by omega,by omega,rfl,rfl,rfl,rfl,rfl,rfl,rfl,hB⟩
          rintro j e h' nx' ⟨k,hj,hnx,rfl,e3,e4,e5,e44,e45,e46,hr⟩ Q' hq hx
          unfold oS
          rw [e3,e4,e5,e44,e45,e46]
          refine dO (fun hk=>?_) (fun hk=>?_)
          · have hk:k < m.ops.length:=by omega
            have hk2:k < s.r.length:=by omega
            rw [eL hk,eL hk2,z8] at hr
            have oix:=hov.ix .i64 hk
            obtain ⟨w,⟨ow,olt⟩,o1⟩:=hov.at1 hk
            simp only [List.cons.injEq,and_true] at ow
            subst ow
            have rix:=y2.ix .i64 hk2
            have rld:=y2.load hk2
            generalize m.ops[k]=o at hr o1 olt
            generalize s.r[k]=r at hr rld
            have hfin:∀ (e':Env) n,e' 6=.bool false→aGm R o r=false→nx≤n→Q' .ret e' h' n:=fun e' n h6 hc hn=>by
              refine hx _ _ _ _ (fun e=>by cases e) (mM ?_)
              rw [h6]
              refine ⟨h,hs,kb hK ?_ hn⟩
              rw [← hr,hc]; rfl
            have hok:∀ (e':Env) n,e' 3=ptr nx→e' 4=ptr (nx+1)→e' 5=ptr (nx+2)→e' 44=ov→e' 45=.int .i64 m.ops.length→e' 46=.int .i64 ((k:Int)+1)→aGm R o r=true→nx≤n→Q' .normal e' h' n:=fun e' n f3 f4 f5 f44 f45 f46 hc hn =>
              hq (j - 1) _ _ _ _ (by omega) ⟨k+1,by omega,hn,rfl,f3,f4,f5,f44,f45,f46,by rw [← hr,hc]; rfl⟩ (Sub.refl _)
            unfold aGm at hfin hok
            (repeat (first | refine aB (by simp (disch:=first | omega | exact Int.natCast_nonneg _ | assumption) only [BB,B2,↓reduceIte,Nat.reduceLeDiff,Nat.reduceAdd,CC,oix,o1]<;>rfl) ?_ | refine aD ?_ | refine aE ?_ | with_reducible first | refine aG ?_ | refine aF ?_ | refine aH ?_ | refine aI ?_ | refine aK ?_ | refine aJ ?_ | refine aL ?_ | refine aC ?_))
            refine dO (fun u1=>?_) (fun u1=>?_)
            · (repeat (first | refine aB (by simp (disch:=first | omega | exact Int.natCast_nonneg _ | assumption) only [BB,B2,↓reduceIte,Nat.reduceLeDiff,Nat.reduceAdd,CC]<;>rfl) ?_ | refine aD ?_ | refine aE ?_ | with_reducible first | refine aG ?_ | refine aF ?_ | refine aH ?_ | refine aI ?_ | refine aK ?_ | refine aJ ?_ | refine aL ?_ | refine aC ?_))
              exact hfin _ _ rfl (by rw [decide_eq_false (by omega)]; rfl) (by omega)
            · rw [decide_eq_true (by omega),Bool.true_and] at hfin hok
              (repeat (first | refine aB (by simp (disch:=first | omega | exact Int.natCast_nonneg _ | assumption) only [BB,B2,↓reduceIte,Nat.reduceLeDiff,Nat.reduceAdd,CC]<;>rfl) ?_ | refine aD ?_ | refine aE ?_ | with_reducible first | refine aG ?_ | refine aF ?_ | refine aH ?_ | refine aI ?_ | refine aK ?_ | refine aJ ?_ | refine aL ?_ | refine aC ?_))
              refine nX (fun u2=>?_) (fun u2=>?_)
              · (repeat (first | refine aB (by simp (disch:=first | omega | exact Int.natCast_nonneg _ | assumption) only [BB,B2,↓reduceIte,Nat.reduceLeDiff,Nat.reduceAdd,CC]<;>rfl) ?_ | refine aD ?_ | refine aE ?_ | with_reducible first | refine aG ?_ | refine aF ?_ | refine aH ?_ | refine aI ?_ | refine aK ?_ | refine aJ ?_ | refine aL ?_ | refine aC ?_))
                exact hfin _ _ rfl (by rw [decide_eq_false (by omega)]; rfl) (by omega)
              · rw [decide_eq_true (by omega),Bool.true_and] at hfin hok
                (repeat (first | refine aB (by simp (disch:=first | omega | exact Int.natCast_nonneg _ | assumption) only [BB,B2,↓reduceIte,Nat.reduceLeDiff,Nat.reduceAdd,CC]<;>rfl) ?_ | refine aD ?_ | refine aE ?_ | with_reducible first | refine aG ?_ | refine aF ?_ | refine aH ?_ | refine aI ?_ | refine aK ?_ | refine aJ ?_ | refine aL ?_ | refine aC ?_))
                refine tH (fun u3=>?_) (fun u3=>?_)
                · rw [decide_eq_false (by omega),Bool.false_or] at hfin hok
                  (repeat (first | refine aB (by simp (disch:=first | omega | exact Int.natCast_nonneg _ | assumption) only [BB,B2,↓reduceIte,Nat.reduceLeDiff,Nat.reduceAdd,CC,g1,g2,g3,hsg,hix,hx4,hx1,rix,rld]<;>rfl) ?_ | refine aD ?_ | refine aE ?_ | with_reducible first | refine aG ?_ | refine aF ?_ | refine aH ?_ | refine aI ?_ | refine aK ?_ | refine aJ ?_ | refine aL ?_ | refine aC ?_))
                  refine rY (by omega) hrv fun n9 hn9=>?_
                  cases hcn:R.contains r with
                  | true =>
                    rw [hcn] at hok
                    (repeat (first | refine aB (by simp (disch:=first | omega | exact Int.natCast_nonneg _ | assumption) only [BB,B2,↓reduceIte,Nat.reduceLeDiff,Nat.reduceAdd,CC]<;>rfl) ?_ | refine aD ?_ | refine aE ?_ | with_reducible first | refine aG ?_ | refine aF ?_ | refine aH ?_ | refine aI ?_ | refine aK ?_ | refine aJ ?_ | refine aL ?_ | refine aC ?_))
                    exact hok _ _ e3 e4 e5 e44 e45 rfl rfl (by omega)
                  | false =>
                    rw [hcn] at hfin
                    (repeat (first | refine aB (by simp (disch:=first | omega | exact Int.natCast_nonneg _ | assumption) only [BB,B2,↓reduceIte,Nat.reduceLeDiff,Nat.reduceAdd,CC]<;>rfl) ?_ | refine aD ?_ | refine aE ?_ | with_reducible first | refine aG ?_ | refine aF ?_ | refine aH ?_ | refine aI ?_ | refine aK ?_ | refine aJ ?_ | refine aL ?_ | refine aC ?_))
                    exact hfin _ _ rfl rfl (by omega)
                · rw [decide_eq_true (by omega),Bool.true_or] at hfin hok
                  (repeat (first | refine aB (by simp (disch:=first | omega | exact Int.natCast_nonneg _ | assumption) only [BB,B2,↓reduceIte,Nat.reduceLeDiff,Nat.reduceAdd,CC]<;>rfl) ?_ | refine aD ?_ | refine aE ?_ | with_reducible first | refine aG ?_ | refine aF ?_ | refine aH ?_ | refine aI ?_ | refine aK ?_ | refine aJ ?_ | refine aL ?_ | refine aC ?_))
                  exact hok _ _ e3 e4 e5 e44 e45 rfl rfl (by omega)
          · (repeat (first | refine aB (by simp (disch:=first | omega | exact Int.natCast_nonneg _ | assumption) only [BB,B2,↓reduceIte,Nat.reduceLeDiff,Nat.reduceAdd,CC]<;>rfl) ?_ | refine aD ?_ | refine aE ?_ | with_reducible first | refine aG ?_ | refine aF ?_ | refine aH ?_ | refine aI ?_ | refine aK ?_ | refine aJ ?_ | refine aL ?_ | refine aC ?_))
            refine hx _ _ _ _ (fun e=>by cases e) (fG (dR ?_))
            unfold kE
            rw [iH (by omega),aKJ] at hr
            exact ⟨h,hs,kb hK hr.symm (by omega)⟩
def xR (S:List StateD) (R:List Int) (many ru:Int) (row:List MoveD):Bool:=decide (-1≤ru)&&(decide (ru < 512)&&(decide ((row.length:Int)=many)&&row.all (iV S R)))
def oJ (S:List StateD) (R:List Int) (many:Int):List Int→List (List MoveD)→Bool
  | ru::rus,row::rows=>xR S R many ru row&&oJ S R many rus rows
  | _,_=>true
def iO (S:List StateD) (many:Int) (cn:Nat) (s:StateD):Bool:=decide (eD s.r.length≠0)&&(decide ((s.rule.length:Int)=eD s.r.length)&&(decide ((s.next.length:Int)=eD s.r.length)&&(rz (-1) 512 s.l&&(rz (-1) cn s.r&&oJ S s.r many s.rule s.next))))
theorem o9 (S:List StateD) (R:List Int) (many ru:Int) (row:List MoveD) (rus:List Int) (rows:List (List MoveD)):oJ S R many (ru::rus) (row::rows)=(xR S R many ru row&&oJ S R many rus rows):=rfl
theorem aAI (S:List StateD) (R:List Int) (many:Int) (l:List Int):oJ S R many l []=true:=by cases l<;>rfl
theorem aBI {ro:Ro} {v f:Value} {D:Type} {l:List D} {R:List Value→D→Prop} {q:D→Bool} (hlen:l.length≤1000000) {h:T Obj} {nx:Nat} {K:KV} (hv:SlR ro h v 2 R l)
    (hf:∀ (i:Nat) (hi:i < l.length) x n K',R x l[i]→nx≤n→(∀ n',n≤n'→K' (.bool (q l[i])) h n')→aB7 (aN Tryz.prog ro) f [.agg x.toArray] h n K')
    (hK:∀ nx',nx≤nx'→K (.int .i64 (yX q 0 l)) h nx'):aN Tryz.prog ro eU [v,f] h nx K:=by
  apply lG
  unfold fH
  generalize hR:yX q 0 l=r at hK
  refine aB hv.len ?_
  refine bI (fun j e h' nx'=>∃ (k:Nat),k+j=l.length∧nx≤nx'∧h'=h∧e 0=v∧e 1=f∧e 7=.int .i64 l.length∧e 8=.int .i64 k∧yX q k (l.drop k)=r) ?_ (n:=l.length) ⟨0,by omega,by omega,rfl,rfl,rfl,rfl,rfl,hR⟩
  rintro j e h' nx' ⟨k,hj,hnx,rfl,e0,e1,e7,e8,hr⟩ Q' hq hx
  unfold gI
  rw [e0,e1,e7,e8]
  refine dO (fun hk=>?_) (fun hk=>?_)
  · have hk:k < l.length:=by omega
    rw [eL hk,zR] at hr
    obtain ⟨x,hx1,hx2,hx3,hx4,hx5⟩:=hv.at hk
    (repeat (first | refine aB (by simp (disch:=first | omega | exact Int.natCast_nonneg _ | assumption) only [BB,B2,↓reduceIte,Nat.reduceLeDiff,Nat.reduceAdd,CC]<;>rfl) ?_ | refine aD ?_ | refine aE ?_ | with_reducible first | refine aG ?_ | refine aF ?_ | refine aH ?_ | refine aI ?_ | refine aK ?_ | refine aJ ?_ | refine aL ?_ | refine aC ?_))
    refine aB (hv.ix _ hk) (aB hx3 ?_)
    refine hf k hk x _ _ hx1 (by omega) fun n hn=>?_
    cases hc:q l[k] with
    | true =>
      rw [hc,if_pos rfl] at hr
      (repeat (first | refine aB (by simp (disch:=first | omega | exact Int.natCast_nonneg _ | assumption) only [BB,B2,↓reduceIte,Nat.reduceLeDiff,Nat.reduceAdd,CC]<;>rfl) ?_ | refine aD ?_ | refine aE ?_ | with_reducible first | refine aG ?_ | refine aF ?_ | refine aH ?_ | refine aI ?_ | refine aK ?_ | refine aJ ?_ | refine aL ?_ | refine aC ?_))
      refine hx _ _ _ _ (fun e=>by cases e) (mM ?_)
      exact ⟨_,Sub.refl _,ki hK hr.symm (by omega)⟩
    | false =>
      rw [hc,if_neg (by decide)] at hr
      (repeat (first | refine aB (by simp (disch:=first | omega | exact Int.natCast_nonneg _ | assumption) only [BB,B2,↓reduceIte,Nat.reduceLeDiff,Nat.reduceAdd,CC]<;>rfl) ?_ | refine aD ?_ | refine aE ?_ | with_reducible first | refine aG ?_ | refine aF ?_ | refine aH ?_ | refine aI ?_ | refine aK ?_ | refine aJ ?_ | refine aL ?_ | refine aC ?_))
      exact hq (j - 1) _ _ _ _ (by omega) ⟨k+1,by omega,by omega,rfl,e0,e1,e7,rfl,hr⟩ (Sub.refl _)
  · (repeat (first | refine aB (by simp (disch:=first | omega | exact Int.natCast_nonneg _ | assumption) only [BB,B2,↓reduceIte,Nat.reduceLeDiff,Nat.reduceAdd,CC]<;>rfl) ?_ | refine aD ?_ | refine aE ?_ | with_reducible first | refine aG ?_ | refine aF ?_ | refine aH ?_ | refine aI ?_ | refine aK ?_ | refine aJ ?_ | refine aL ?_ | refine aC ?_))
    refine hx _ _ _ _ (fun e=>by cases e) (fG (dR ?_))
    unfold eT
    rw [iH (by omega)] at hr
    exact ⟨_,Sub.refl _,ki hK hr.symm (by omega)⟩
theorem yN {ro:Ro} {v f:Value} {D:Type} {l:List D} {R:List Value→D→Prop} {q:D→Bool} (hlen:l.length≤1000000) {h:T Obj} {nx:Nat} {K:KV} (hv:SlR ro h v 2 R l)
    (hf:∀ (i:Nat) (hi:i < l.length) x n K',R x l[i]→nx≤n→(∀ n',n≤n'→K' (.bool (q l[i])) h n')→aB7 (aN Tryz.prog ro) f [.agg x.toArray] h n K')
    (hK:∀ nx',nx≤nx'→K (.bool (l.any q)) h nx'):aN Tryz.prog ro eI [v,f] h nx K:=by
  apply j4
  unfold eS
  refine aBI hlen hv (fun i hi x n K' hx hn hk=>hf i hi x n K' hx (by omega) hk) fun n hn=>?_
  rw [← aAy q l 0 (by omega)] at hK
  (first | refine dO (fun hb=>?_) (fun hb=>?_) | refine aA4 (fun hb=>?_) (fun hb=>?_) | refine nX (fun hb=>?_) (fun hb=>?_) | refine pL (fun hb=>?_) (fun hb=>?_) | refine nB (fun hb=>?_) (fun hb=>?_) | refine tH (fun hb=>?_) (fun hb=>?_))
  · exact ⟨_,Sub.refl _,kb hK (decide_eq_true hb) (by omega)⟩
  · exact ⟨_,Sub.refl _,kb hK (decide_eq_false (by omega)) (by omega)⟩
theorem aAq {ro:Ro} {v f:Value} {D:Type} {l:List D} {R:List Value→D→Prop} {q:D→Bool} (hlen:l.length≤1000000) {h:T Obj} {nx:Nat} {K:KV} (hv:SlR ro h v 4 R l)
    (hf:∀ (i:Nat) (hi:i < l.length) x n K',R x l[i]→nx≤n→(∀ n',n≤n'→K' (.bool (q l[i])) h n')→aB7 (aN Tryz.prog ro) f [.agg x.toArray] h n K')
    (hK:∀ nx',nx≤nx'→K (.int .i64 (yX q 0 l)) h nx'):aN Tryz.prog ro eO [v,f] h nx K:=by
  apply kA
  unfold fA
  generalize hR:yX q 0 l=r at hK
  refine aB hv.len ?_
  refine bI (fun j e h' nx'=>∃ (k:Nat),k+j=l.length∧nx≤nx'∧h'=h∧e 0=v∧e 1=f∧e 7=.int .i64 l.length∧e 8=.int .i64 k∧yX q k (l.drop k)=r) ?_ (n:=l.length) ⟨0,by omega,by omega,rfl,rfl,rfl,rfl,rfl,hR⟩
  rintro j e h' nx' ⟨k,hj,hnx,rfl,e0,e1,e7,e8,hr⟩ Q' hq hx
  unfold gA
  rw [e0,e1,e7,e8]
  refine dO (fun hk=>?_) (fun hk=>?_)
  · have hk:k < l.length:=by omega
    rw [eL hk,zR] at hr
    obtain ⟨x,hx1,hx2,hx3,hx4,hx5⟩:=hv.at hk
    (repeat (first | refine aB (by simp (disch:=first | omega | exact Int.natCast_nonneg _ | assumption) only [BB,B2,↓reduceIte,Nat.reduceLeDiff,Nat.reduceAdd,CC]<;>rfl) ?_ | refine aD ?_ | refine aE ?_ | with_reducible first | refine aG ?_ | refine aF ?_ | refine aH ?_ | refine aI ?_ | refine aK ?_ | refine aJ ?_ | refine aL ?_ | refine aC ?_))
    refine aB (hv.ix _ hk) (aB hx3 ?_)
    refine hf k hk x _ _ hx1 (by omega) fun n hn=>?_
    cases hc:q l[k] with
    | true =>
      rw [hc,if_pos rfl] at hr
      (repeat (first | refine aB (by simp (disch:=first | omega | exact Int.natCast_nonneg _ | assumption) only [BB,B2,↓reduceIte,Nat.reduceLeDiff,Nat.reduceAdd,CC]<;>rfl) ?_ | refine aD ?_ | refine aE ?_ | with_reducible first | refine aG ?_ | refine aF ?_ | refine aH ?_ | refine aI ?_ | refine aK ?_ | refine aJ ?_ | refine aL ?_ | refine aC ?_))
      refine hx _ _ _ _ (fun e=>by cases e) (mM ?_)
      exact ⟨_,Sub.refl _,ki hK hr.symm (by omega)⟩
    | false =>
      rw [hc,if_neg (by decide)] at hr
      (repeat (first | refine aB (by simp (disch:=first | omega | exact Int.natCast_nonneg _ | assumption) only [BB,B2,↓reduceIte,Nat.reduceLeDiff,Nat.reduceAdd,CC]<;>rfl) ?_ | refine aD ?_ | refine aE ?_ | with_reducible first | refine aG ?_ | refine aF ?_ | refine aH ?_ | refine aI ?_ | refine aK ?_ | refine aJ ?_ | refine aL ?_ | refine aC ?_))
      exact hq (j - 1) _ _ _ _ (by omega) ⟨k+1,by omega,by omega,rfl,e0,e1,e7,rfl,hr⟩ (Sub.refl _)
  · (repeat (first | refine aB (by simp (disch:=first | omega | exact Int.natCast_nonneg _ | assumption) only [BB,B2,↓reduceIte,Nat.reduceLeDiff,Nat.reduceAdd,CC]<;>rfl) ?_ | refine aD ?_ | refine aE ?_ | with_reducible first | refine aG ?_ | refine aF ?_ | refine aH ?_ | refine aI ?_ | refine aK ?_ | refine aJ ?_ | refine aL ?_ | refine aC ?_))
    refine hx _ _ _ _ (fun e=>by cases e) (fG (dR ?_))
    unfold eK
    rw [iH (by omega)] at hr
    exact ⟨_,Sub.refl _,ki hK hr.symm (by omega)⟩
theorem xW {ro:Ro} {v f:Value} {D:Type} {l:List D} {R:List Value→D→Prop} {q:D→Bool} (hlen:l.length≤1000000) {h:T Obj} {nx:Nat} {K:KV} (hv:SlR ro h v 4 R l)
    (hf:∀ (i:Nat) (hi:i < l.length) x n K',R x l[i]→nx≤n→(∀ n',n≤n'→K' (.bool (q l[i])) h n')→aB7 (aN Tryz.prog ro) f [.agg x.toArray] h n K')
    (hK:∀ nx',nx≤nx'→K (.bool (l.any q)) h nx'):aN Tryz.prog ro eE [v,f] h nx K:=by
  apply jE
  unfold eJ
  refine aAq hlen hv (fun i hi x n K' hx hn hk=>hf i hi x n K' hx (by omega) hk) fun n hn=>?_
  rw [← aAy q l 0 (by omega)] at hK
  (first | refine dO (fun hb=>?_) (fun hb=>?_) | refine aA4 (fun hb=>?_) (fun hb=>?_) | refine nX (fun hb=>?_) (fun hb=>?_) | refine pL (fun hb=>?_) (fun hb=>?_) | refine nB (fun hb=>?_) (fun hb=>?_) | refine tH (fun hb=>?_) (fun hb=>?_))
  · exact ⟨_,Sub.refl _,kb hK (decide_eq_true hb) (by omega)⟩
  · exact ⟨_,Sub.refl _,kb hK (decide_eq_false (by omega)) (by omega)⟩
set_option maxRecDepth 8000 in
theorem aAR {ro:Ro} {c:List Nat} {n:Int} {cv sv lv rv uv nv ov:Value} {S:List StateD} {R:List Int} {m:MoveD} {i1 i2:Nat} (hc:c.length=256) (hSl:S.length≤256) (hR:R.length≤3) (hmo:m.ops.length≤vL) {h:T Obj} {nx:Nat} {K:KV} (hf:Fr h nx)
    (g1:h.get i1=some (.cells (dQ c n cv sv).toArray dM)) (g2:h.get i2=some (.cells #[lv,rv,uv,nv] aP)) (hS:SlR ro h sv 4 (eA ro h) S) (hrv:ZI ro h rv R) (hov:SlR ro h ov 1 RU8 m.ops) (hK:∀ nx',nx≤nx'→K (.bool (!iV S R m)) h nx'):aN Tryz.prog ro fJ [.agg #[.int .i64 m.to,ov],ptr i1,ptr i2] h nx K:=by
  apply sY
  unfold kF
  refine fT hf (Nat.le_refl _) fun h1 hs1 hf1 g3 _=>?_
  have g3:h1.get nx=some (.cells #[.int .i64 m.to,ov] bC):=g3
  refine aB (cR (hs1 _ _ g1) (cJ hc)) ?_
  refine aB (cR (l:=[lv,rv,uv,nv]) (hs1 _ _ g2) rfl) ?_
  refine aB (cR (l:=[.int .i64 m.to,ov]) g3 rfl) ?_
  refine aCV hc hSl hR hmo (hf1.mono (by omega)) (hS.sub hs1 (eA.sub hs1)) (hrv.sub hs1) (hov.sub hs1 fun _ _ h=>h) fun n hn=>?_
  (repeat (first | refine aB (by simp (disch:=first | omega | exact Int.natCast_nonneg _ | assumption) only [BB,B2,↓reduceIte,Nat.reduceLeDiff,Nat.reduceAdd,CC]<;>rfl) ?_ | refine aD ?_ | refine aE ?_ | with_reducible first | refine aG ?_ | refine aF ?_ | refine aH ?_ | refine aI ?_ | refine aK ?_ | refine aJ ?_ | refine aL ?_ | refine aC ?_))
  exact ⟨h,hs1,hK _ (by omega)⟩
set_option maxRecDepth 8000 in
set_option maxHeartbeats 1000000 in
theorem aBv {ro:Ro} {c:List Nat} {n:Int} {cv sv lv rv uv nv:Value} {S:List StateD} {C:List (Int × Int)} {s:StateD} (hc:c.length=256) (hn:n≤256) (hSl:S.length≤256) (hC:C.length≤512) (hsr:s.r.length≤vL) {h:T Obj} {nx:Nat} {K:KV} (hf:Fr h nx)
    (hcv:SlR ro h cv 2 zH C) (hS:SlR ro h sv 4 (eA ro h) S) (h1:ZI ro h lv s.l) (h2:ZI ro h rv s.r) (h3:ZI ro h uv s.rule) (h4:SlR ro h nv 1 (rJ ro h) s.next)
    (hK:∀ nx',nx≤nx'→K (.bool (iO S n C.length s)) h nx'):aN Tryz.prog ro kK [.agg (dQ c n cv sv).toArray,.agg #[lv,rv,uv,nv]] h nx K:=by
  apply vD
  unfold lY
  refine fT hf (Nat.le_refl _) fun p1 hs1 hf1 g1 _=>?_
  refine fT hf1 (Nat.le_refl _) fun p2 hs2 hf2 g2 _=>?_
  have g1:p2.get nx=some (.cells (dQ c n cv sv).toArray dM):=hs2 _ _ g1
  have g2:p2.get (nx+1)=some (.cells #[lv,rv,uv,nv] aP):=g2
  have hs:=hs1.trans hs2
  have hS:=hS.sub hs (eA.sub hs)
  have hcv:=hcv.sub hs fun _ _ h=>h
  have h1:=h1.sub hs
  have h2:=h2.sub hs
  have h3:=h3.sub hs
  have h4:=h4.sub hs (rJ.sub hs)
  have hsg:=kC (n:=n) (cv:=cv) (sv:=sv) hc
  have hcg:=mK (n:=n) (cv:=cv) (sv:=sv) hc
  have hmg:=aEI (n:=n) (cv:=cv) (sv:=sv) hc
  have l1:=h1.len
  have l2:=h2.len
  have l3:=h3.len
  have l4:=h4.len
  have lc:=hcv.len
  have hno:∀ n',iO S n C.length s=false→nx≤n'→∃ h',Sub h' p2∧K (.bool false) h' n':=fun n' e hn=>⟨h,hs,kb hK e hn⟩
  unfold iO at hno hK
  (repeat (first | refine aB (by simp (disch:=first | omega | exact Int.natCast_nonneg _ | assumption) only [BB,B2,↓reduceIte,Nat.reduceLeDiff,Nat.reduceAdd,CC,g2,l2]<;>rfl) ?_ | refine aD ?_ | refine aE ?_ | with_reducible first | refine aG ?_ | refine aF ?_ | refine aH ?_ | refine aI ?_ | refine aK ?_ | refine aJ ?_ | refine aL ?_ | refine aC ?_))
  refine aEr fun n1 hn1=>?_
  have hcl:=aCY s.r.length
  have hcf:=aEO (m:=s.r.length)
  generalize eD s.r.length=cd at hno hK hcl hcf
  refine nB (fun u1=>?_) (fun u1=>?_)
  · (repeat (first | refine aB (by simp (disch:=first | omega | exact Int.natCast_nonneg _ | assumption) only [BB,B2,↓reduceIte,Nat.reduceLeDiff,Nat.reduceAdd,CC]<;>rfl) ?_ | refine aD ?_ | refine aE ?_ | with_reducible first | refine aG ?_ | refine aF ?_ | refine aH ?_ | refine aI ?_ | refine aK ?_ | refine aJ ?_ | refine aL ?_ | refine aC ?_))
    exact hno _ (by rw [decide_eq_false (by omega)]; rfl) (by omega)
  · rw [decide_eq_true u1,Bool.true_and] at hno hK
    have hcf:=hcf u1
    (repeat (first | refine aB (by simp (disch:=first | omega | exact Int.natCast_nonneg _ | assumption) only [BB,B2,↓reduceIte,Nat.reduceLeDiff,Nat.reduceAdd,CC,g2,l3]<;>rfl) ?_ | refine aD ?_ | refine aE ?_ | with_reducible first | refine aG ?_ | refine aF ?_ | refine aH ?_ | refine aI ?_ | refine aK ?_ | refine aJ ?_ | refine aL ?_ | refine aC ?_))
    refine tH (fun u2=>?_) (fun u2=>?_)
    · (repeat (first | refine aB (by simp (disch:=first | omega | exact Int.natCast_nonneg _ | assumption) only [BB,B2,↓reduceIte,Nat.reduceLeDiff,Nat.reduceAdd,CC]<;>rfl) ?_ | refine aD ?_ | refine aE ?_ | with_reducible first | refine aG ?_ | refine aF ?_ | refine aH ?_ | refine aI ?_ | refine aK ?_ | refine aJ ?_ | refine aL ?_ | refine aC ?_))
      exact hno _ (by rw [decide_eq_false (by omega)]; rfl) (by omega)
    · rw [decide_eq_true u2,Bool.true_and] at hno hK
      (repeat (first | refine aB (by simp (disch:=first | omega | exact Int.natCast_nonneg _ | assumption) only [BB,B2,↓reduceIte,Nat.reduceLeDiff,Nat.reduceAdd,CC,g2,l4]<;>rfl) ?_ | refine aD ?_ | refine aE ?_ | with_reducible first | refine aG ?_ | refine aF ?_ | refine aH ?_ | refine aI ?_ | refine aK ?_ | refine aJ ?_ | refine aL ?_ | refine aC ?_))
      refine tH (fun u3=>?_) (fun u3=>?_)
      · (repeat (first | refine aB (by simp (disch:=first | omega | exact Int.natCast_nonneg _ | assumption) only [BB,B2,↓reduceIte,Nat.reduceLeDiff,Nat.reduceAdd,CC]<;>rfl) ?_ | refine aD ?_ | refine aE ?_ | with_reducible first | refine aG ?_ | refine aF ?_ | refine aH ?_ | refine aI ?_ | refine aK ?_ | refine aJ ?_ | refine aL ?_ | refine aC ?_))
        exact hno _ (by rw [decide_eq_false (by omega)]; rfl) (by omega)
      · rw [decide_eq_true u3,Bool.true_and] at hno hK
        (repeat (first | refine aB (by simp (disch:=first | omega | exact Int.natCast_nonneg _ | assumption) only [BB,B2,↓reduceIte,Nat.reduceLeDiff,Nat.reduceAdd,CC,g2]<;>rfl) ?_ | refine aD ?_ | refine aE ?_ | with_reducible first | refine aG ?_ | refine aF ?_ | refine aH ?_ | refine aI ?_ | refine aK ?_ | refine aJ ?_ | refine aL ?_ | refine aC ?_))
        refine aAO (by omega) h1 fun n2 hn2=>?_
        cases u4:rz (-1) 512 s.l with
        | false =>
          (repeat (first | refine aB (by simp (disch:=first | omega | exact Int.natCast_nonneg _ | assumption) only [BB,B2,↓reduceIte,Nat.reduceLeDiff,Nat.reduceAdd,CC]<;>rfl) ?_ | refine aD ?_ | refine aE ?_ | with_reducible first | refine aG ?_ | refine aF ?_ | refine aH ?_ | refine aI ?_ | refine aK ?_ | refine aJ ?_ | refine aL ?_ | refine aC ?_))
          exact hno _ (by rw [u4]; rfl) (by omega)
        | true =>
          rw [u4,Bool.true_and] at hno hK
          (repeat (first | refine aB (by simp (disch:=first | omega | exact Int.natCast_nonneg _ | assumption) only [BB,B2,↓reduceIte,Nat.reduceLeDiff,Nat.reduceAdd,CC,g1,g2,hcg,lc]<;>rfl) ?_ | refine aD ?_ | refine aE ?_ | with_reducible first | refine aG ?_ | refine aF ?_ | refine aH ?_ | refine aI ?_ | refine aK ?_ | refine aJ ?_ | refine aL ?_ | refine aC ?_))
          refine aAO (by omega) h2 fun n3 hn3=>?_
          cases u5:rz (-1) C.length s.r with
          | false =>
            (repeat (first | refine aB (by simp (disch:=first | omega | exact Int.natCast_nonneg _ | assumption) only [BB,B2,↓reduceIte,Nat.reduceLeDiff,Nat.reduceAdd,CC]<;>rfl) ?_ | refine aD ?_ | refine aE ?_ | with_reducible first | refine aG ?_ | refine aF ?_ | refine aH ?_ | refine aI ?_ | refine aK ?_ | refine aJ ?_ | refine aL ?_ | refine aC ?_))
            exact hno _ (by rw [u5]; rfl) (by omega)
          | true =>
            rw [u5,Bool.true_and] at hno hK
            (repeat (first | refine aB (by simp (disch:=first | omega | exact Int.natCast_nonneg _ | assumption) only [BB,B2,↓reduceIte,Nat.reduceLeDiff,Nat.reduceAdd,CC,g2,l4]<;>rfl) ?_ | refine aD ?_ | refine aE ?_ | with_reducible first | refine aG ?_ | refine aF ?_ | refine aH ?_ | refine aI ?_ | refine aK ?_ | refine aJ ?_ | refine aL ?_ | refine aC ?_))
            generalize hB:oJ S s.r n s.rule s.next=B at hno hK
            refine bI (fun j e h' nx'=>∃ (k:Nat),k+j=s.next.length∧n3≤nx'∧h'=p2∧e 2=ptr nx∧e 3=ptr (nx+1)∧e 45=nv∧e 46=.int .i64 s.next.length∧e 47=.int .i64 k∧oJ S s.r n (s.rule.drop k) (s.next.drop k)=B) ?_ (n:=s.next.length) ⟨0,by omega,by omega,rfl,rfl,rfl,rfl,rfl,rfl,hB⟩
            rintro j e h' nx' ⟨k,hj,hnx,rfl,e2,e3,e45,e46,e47,hr⟩ Q' hq hx
            unfold nW
            rw [e2,e3,e45,e46,e47]
            refine dO (fun hk=>?_) (fun hk=>?_)
            · have hk:k < s.next.length:=by omega
              have hk2:k < s.rule.length:=by omega
              rw [eL hk,eL hk2,o9] at hr
              have nix:=h4.ix .i64 hk
              obtain ⟨w,⟨w',ow,orow,olen⟩,o1⟩:=h4.at1 hk
              simp only [List.cons.injEq,and_true] at ow
              subst ow
              have uix:=h3.ix .i64 hk2
              have uld:=h3.load hk2
              generalize s.next[k]=row at hr o1 orow olen
              generalize s.rule[k]=ru at hr uld
              have rl:=orow.len
              have hfin:∀ (e':Env) n',e' 4=.bool false→xR S s.r n ru row=false→nx≤n'→Q' .ret e' h' n':=fun e' n' h6 hc hn=>by
                refine hx _ _ _ _ (fun e=>by cases e) (mM ?_)
                rw [h6]
                refine ⟨h,hs,kb hK ?_ hn⟩
                rw [← hr,hc]; rfl
              have hok:∀ (e':Env) n',e' 2=ptr nx→e' 3=ptr (nx+1)→e' 45=nv→e' 46=.int .i64 s.next.length→e' 47=.int .i64 ((k:Int)+1)→xR S s.r n ru row=true→n3≤n'→Q' .normal e' h' n':=fun e' n' f2 f3 f45 f46 f47 hc hn =>
                hq (j - 1) _ _ _ _ (by omega) ⟨k+1,by omega,hn,rfl,f2,f3,f45,f46,f47,by rw [← hr,hc]; rfl⟩ (Sub.refl _)
              unfold xR at hfin hok
              (repeat (first | refine aB (by simp (disch:=first | omega | exact Int.natCast_nonneg _ | assumption) only [BB,B2,↓reduceIte,Nat.reduceLeDiff,Nat.reduceAdd,CC,g2,nix,o1,uix,uld]<;>rfl) ?_ | refine aD ?_ | refine aE ?_ | with_reducible first | refine aG ?_ | refine aF ?_ | refine aH ?_ | refine aI ?_ | refine aK ?_ | refine aJ ?_ | refine aL ?_ | refine aC ?_))
              refine dO (fun v1=>?_) (fun v1=>?_)
              · (repeat (first | refine aB (by simp (disch:=first | omega | exact Int.natCast_nonneg _ | assumption) only [BB,B2,↓reduceIte,Nat.reduceLeDiff,Nat.reduceAdd,CC]<;>rfl) ?_ | refine aD ?_ | refine aE ?_ | with_reducible first | refine aG ?_ | refine aF ?_ | refine aH ?_ | refine aI ?_ | refine aK ?_ | refine aJ ?_ | refine aL ?_ | refine aC ?_))
                exact hfin _ _ rfl (by rw [decide_eq_false (by omega)]; rfl) (by omega)
              · rw [decide_eq_true v1,Bool.true_and] at hfin hok
                (repeat (first | refine aB (by simp (disch:=first | omega | exact Int.natCast_nonneg _ | assumption) only [BB,B2,↓reduceIte,Nat.reduceLeDiff,Nat.reduceAdd,CC,g2,uix,uld]<;>rfl) ?_ | refine aD ?_ | refine aE ?_ | with_reducible first | refine aG ?_ | refine aF ?_ | refine aH ?_ | refine aI ?_ | refine aK ?_ | refine aJ ?_ | refine aL ?_ | refine aC ?_))
                refine pL (fun v2=>?_) (fun v2=>?_)
                · (repeat (first | refine aB (by simp (disch:=first | omega | exact Int.natCast_nonneg _ | assumption) only [BB,B2,↓reduceIte,Nat.reduceLeDiff,Nat.reduceAdd,CC]<;>rfl) ?_ | refine aD ?_ | refine aE ?_ | with_reducible first | refine aG ?_ | refine aF ?_ | refine aH ?_ | refine aI ?_ | refine aK ?_ | refine aJ ?_ | refine aL ?_ | refine aC ?_))
                  exact hfin _ _ rfl (by rw [decide_eq_false (by omega)]; rfl) (by omega)
                · rw [decide_eq_true v2,Bool.true_and] at hfin hok
                  (repeat (first | refine aB (by simp (disch:=first | omega | exact Int.natCast_nonneg _ | assumption) only [BB,B2,↓reduceIte,Nat.reduceLeDiff,Nat.reduceAdd,CC,g1,rl,hmg]<;>rfl) ?_ | refine aD ?_ | refine aE ?_ | with_reducible first | refine aG ?_ | refine aF ?_ | refine aH ?_ | refine aI ?_ | refine aK ?_ | refine aJ ?_ | refine aL ?_ | refine aC ?_))
                  refine tH (fun v3=>?_) (fun v3=>?_)
                  · (repeat (first | refine aB (by simp (disch:=first | omega | exact Int.natCast_nonneg _ | assumption) only [BB,B2,↓reduceIte,Nat.reduceLeDiff,Nat.reduceAdd,CC]<;>rfl) ?_ | refine aD ?_ | refine aE ?_ | with_reducible first | refine aG ?_ | refine aF ?_ | refine aH ?_ | refine aI ?_ | refine aK ?_ | refine aJ ?_ | refine aL ?_ | refine aC ?_))
                    exact hfin _ _ rfl (by rw [decide_eq_false (by omega)]; rfl) (by omega)
                  · rw [decide_eq_true (by omega),Bool.true_and] at hfin hok
                    (repeat (first | refine aB (by simp (disch:=first | omega | exact Int.natCast_nonneg _ | assumption) only [BB,B2,↓reduceIte,Nat.reduceLeDiff,Nat.reduceAdd,CC]<;>rfl) ?_ | refine aD ?_ | refine aE ?_ | with_reducible first | refine aG ?_ | refine aF ?_ | refine aH ?_ | refine aI ?_ | refine aK ?_ | refine aJ ?_ | refine aL ?_ | refine aC ?_))
                    refine yN (q:=fun m=>!iV S s.r m) (by omega) orow (fun i hi x n' K' hx hn' hk'=>?_) fun n' hn'=>?_
                    · obtain ⟨ov,rfl,y1,y2⟩:=hx
                      exact aAR hc hSl (by omega) y2 (hf2.mono (by omega)) g1 g2 hS h2 y1 hk'
                    · rw [← aIm] at hfin hok
                      cases hany:row.any fun m=>!iV S s.r m with
                      | true =>
                        rw [hany] at hfin
                        (repeat (first | refine aB (by simp (disch:=first | omega | exact Int.natCast_nonneg _ | assumption) only [BB,B2,↓reduceIte,Nat.reduceLeDiff,Nat.reduceAdd,CC]<;>rfl) ?_ | refine aD ?_ | refine aE ?_ | with_reducible first | refine aG ?_ | refine aF ?_ | refine aH ?_ | refine aI ?_ | refine aK ?_ | refine aJ ?_ | refine aL ?_ | refine aC ?_))
                        exact hfin _ _ rfl rfl (by omega)
                      | false =>
                        rw [hany] at hok
                        (repeat (first | refine aB (by simp (disch:=first | omega | exact Int.natCast_nonneg _ | assumption) only [BB,B2,↓reduceIte,Nat.reduceLeDiff,Nat.reduceAdd,CC]<;>rfl) ?_ | refine aD ?_ | refine aE ?_ | with_reducible first | refine aG ?_ | refine aF ?_ | refine aH ?_ | refine aI ?_ | refine aK ?_ | refine aJ ?_ | refine aL ?_ | refine aC ?_))
                        exact hok _ _ e2 e3 e45 e46 rfl rfl (by omega)
            · (repeat (first | refine aB (by simp (disch:=first | omega | exact Int.natCast_nonneg _ | assumption) only [BB,B2,↓reduceIte,Nat.reduceLeDiff,Nat.reduceAdd,CC]<;>rfl) ?_ | refine aD ?_ | refine aE ?_ | with_reducible first | refine aG ?_ | refine aF ?_ | refine aH ?_ | refine aI ?_ | refine aK ?_ | refine aJ ?_ | refine aL ?_ | refine aC ?_))
              refine hx _ _ _ _ (fun e=>by cases e) (fG (dR ?_))
              unfold jS
              rw [iH (l:=s.next) (by omega),aAI] at hr
              exact ⟨h,hs,kb hK hr.symm (by omega)⟩
theorem SlR.okC {D:Type} {ro:Ro} {h:T Obj} {v:Value} {z:Nat} {R:List Value→D→Prop} {l:List D} (hl:SlR ro h v z R l):bT v=true:=by obtain ⟨cs,h9,_⟩:=hl; exact h9.ok
def pQ (p:Int × Int):Bool:=decide (1≤p.1)&&(decide (p.1≤p.2)&&(decide (2≤p.2)&&decide (p.2≤4096)))
def yD (S:List StateD):Bool:=decide ((S.getD 0 noS).l.length=0)&&decide ((S.getD 0 noS).r.length=0)
def fV (d:AutoD):Bool:=pG d.c d.many&&(decide (d.counts.length≤512)&&(decide (1≤d.states.length)&&(decide (d.states.length≤256)&&(yD d.states&&(d.counts.all pQ&&d.states.all (iO d.states d.many d.counts.length))))))
theorem aDN {c:List Nat} {n:Int} (h:pG c n=true):n≤256:=by
  unfold pG at h
  split at h
  · rename_i m hm
    have:=aMK hm
    simp only [decide_eq_true_eq] at h
    omega
  · cases h
theorem uW:∀ {l:List Int} {a m:Int},rz a m l=true→(l.length:Int)≤max 0 (m - a - 1)
  | [],a,m,_=>by simp only [List.length_nil]; omega
  | x::r,a,m,h=>by
    rw [aFg] at h
    simp only [Bool.and_eq_true,decide_eq_true_eq] at h
    have:=uW h.2.2
    rw [List.length_cons]
    omega
theorem aEh {S:List StateD} {n:Int} {cn:Nat} {s:StateD} (h:iO S n cn s=true):s.l.length≤512∧s.r.length≤3:=by
  unfold iO at h
  simp only [Bool.and_eq_true,decide_eq_true_eq] at h
  have h1:=uW h.2.2.2.1
  have h2:=aEO h.1
  omega
theorem aOk {a b:Nat} (h:wr .i64 ((a:Int)+b)≤0):a+b=0∨9223372036854775807 < a+b:=by
  rcases Nat.lt_or_ge 9223372036854775807 (a+b) with h1 | h1
  · exact .inr h1
  · rw [dJ (by omega) (by omega)] at h
    exact .inl (by omega)
theorem aNq {a b:Nat} (h:0 < wr .i64 ((a:Int)+b)):a≠0∨b≠0:=by
  rcases Nat.eq_zero_or_pos (a+b) with h1 | h1
  · rw [show (a:Int)+b=0 by omega] at h
    exact absurd h (by decide)
  · omega
theorem aDf {c:List Nat} {n:Int} {cv sv:Value} (hc:c.length=256):dF Tryz.prog dM [(0,.agg (dQ c n cv sv).toArray)]=some (.agg (dQ c n cv sv).toArray):=by
  have h1:((zer Tryz.prog dM).bind fun z=>match z with
    | .agg a=>if a.size=259 then some true else none
    | _=>none)=some true:=by kernel_rfl
  have h2:((und Tryz.prog dM).bind fun d=>match d with
    | .struct fs=>lD Tryz.prog fs.toList
    | _=>none)=some [(0,259)]:=by kernel_rfl
  obtain ⟨z,h1,h4⟩:=aM h1
  cases z<;>try (cases h4; done)
  rename_i z
  simp only at h4
  split at h4
  · rename_i h5
    obtain ⟨d,h2,h3⟩:=aM h2
    cases d<;>try (cases h3; done)
    rename_i fs
    simp only at h3
    unfold dF
    rw [h1]
    simp only [Option.bind,h2,h3]
    have hl:=cJ (n:=n) (cv:=cv) (sv:=sv) hc
    have hz:z.toList.length=259:=by simpa using h5
    have e1:Nat.beq (dQ c n cv sv).toArray.size 259=true:=by simp [hl]
    have e2:Nat.ble (0+259) z.toList.length=true:=by rw [hz]; rfl
    simp only [kJ,List.getElem?_cons_zero,Option.bind,Value.cells_agg,e1,e2]
    rw [aGs (by rw [hz]; simpa using hl)]
  · cases h4
theorem aHd:∃ z,zer Tryz.prog dM=some z∧z.cells.size=259:=by
  have h1:((zer Tryz.prog dM).bind fun z=>if z.cells.size=259 then some true else none)=some true:=by kernel_rfl
  obtain ⟨z,h1,h4⟩:=aM h1
  split at h4
  · exact ⟨z,h1,by assumption⟩
  · cases h4
theorem aIj:zer Tryz.prog d3=some (.agg #[.int .i64 0,.int .i64 0]):=by kernel_rfl
set_option maxRecDepth 8000 in
theorem aCO {ro:Ro} {c:List Nat} {n:Int} {cv sv lv rv uv nv:Value} {S:List StateD} {C:List (Int × Int)} {s:StateD} {i1:Nat} (hc:c.length=256) (hn:n≤256) (hSl:S.length≤256) (hC:C.length≤512) (hsr:s.r.length≤vL) {h:T Obj} {nx:Nat} {K:KV} (hf:Fr h nx)
    (g1:h.get i1=some (.cells (dQ c n cv sv).toArray dM)) (hcv:SlR ro h cv 2 zH C) (hS:SlR ro h sv 4 (eA ro h) S) (h1:ZI ro h lv s.l) (h2:ZI ro h rv s.r) (h3:ZI ro h uv s.rule) (h4:SlR ro h nv 1 (rJ ro h) s.next)
    (hK:∀ nx',nx≤nx'→K (.bool (!iO S n C.length s)) h nx'):aN Tryz.prog ro qO [.agg #[lv,rv,uv,nv],ptr i1] h nx K:=by
  apply aBu
  unfold tW
  refine fT hf (Nat.le_refl _) fun p1 hs1 hf1 g3 _=>?_
  have g3:p1.get nx=some (.cells #[lv,rv,uv,nv] aP):=g3
  refine aB (cR (hs1 _ _ g1) (cJ hc)) ?_
  refine aB (cR (l:=[lv,rv,uv,nv]) g3 rfl) ?_
  refine aBv hc hn hSl hC hsr (hf1.mono (by omega)) (hcv.sub hs1 fun _ _ h=>h) (hS.sub hs1 (eA.sub hs1)) (h1.sub hs1) (h2.sub hs1) (h3.sub hs1) (h4.sub hs1 (rJ.sub hs1)) fun n hn=>?_
  (repeat (first | refine aB (by simp (disch:=first | omega | exact Int.natCast_nonneg _ | assumption) only [BB,B2,↓reduceIte,Nat.reduceLeDiff,Nat.reduceAdd,CC]<;>rfl) ?_ | refine aD ?_ | refine aE ?_ | with_reducible first | refine aG ?_ | refine aF ?_ | refine aH ?_ | refine aI ?_ | refine aK ?_ | refine aJ ?_ | refine aL ?_ | refine aC ?_))
  exact ⟨h,hs1,hK _ (by omega)⟩
set_option maxRecDepth 8000 in
set_option maxHeartbeats 2000000 in
theorem aEs {ro:Ro} {x:List Value} {d:AutoD} {h:T Obj} {nx:Nat} {K:KV} (hf:Fr h nx) (hd:mJ ro h x d) (hK:∀ nx',nx≤nx'→K (.bool (fV d)) h nx'):aN Tryz.prog ro uE [.agg x.toArray] h nx K:=by
  obtain ⟨cv,sv,rfl,hc,hcl,hcv,hS,hb1,hb2⟩:=hd
  obtain ⟨c,n,C,S⟩:=d
  simp only at hc hcl hcv hS hb1 hb2
  dsimp only
  apply aDa
  unfold zK
  refine fT hf (Nat.le_refl _) fun p1 hs hf1 g1 _=>?_
  have g1:p1.get nx=some (.cells (dQ c n cv sv).toArray a9):=g1
  have hS:=hS.sub hs (eA.sub hs)
  have hcv:=hcv.sub hs fun _ _ h=>h
  have hsg:=kC (n:=n) (cv:=cv) (sv:=sv) hc
  have hcg:=mK (n:=n) (cv:=cv) (sv:=sv) hc
  have lc:=hcv.len
  have ls:=hS.len
  have hno:∀ n',fV ⟨c,n,C,S⟩=false→nx≤n'→∃ h',Sub h' p1∧K (.bool false) h' n':=fun n' e hn=>⟨h,hs,kb hK e hn⟩
  unfold fV at hno hK
  dsimp only at hno hK
  (repeat (first | refine aB (by simp (disch:=first | omega | exact Int.natCast_nonneg _ | assumption) only [BB,B2,↓reduceIte,Nat.reduceLeDiff,Nat.reduceAdd,CC]<;>rfl) ?_ | refine aD ?_ | refine aE ?_ | with_reducible first | refine aG ?_ | refine aF ?_ | refine aH ?_ | refine aI ?_ | refine aK ?_ | refine aJ ?_ | refine aL ?_ | refine aC ?_))
  refine aB (aNw g1 hc) ?_
  refine aDy hc hcl (hf1.mono (by omega)) fun n1 hn1=>?_
  cases hr:pG c n with
  | false =>
    (repeat (first | refine aB (by simp (disch:=first | omega | exact Int.natCast_nonneg _ | assumption) only [BB,B2,↓reduceIte,Nat.reduceLeDiff,Nat.reduceAdd,CC]<;>rfl) ?_ | refine aD ?_ | refine aE ?_ | with_reducible first | refine aG ?_ | refine aF ?_ | refine aH ?_ | refine aI ?_ | refine aK ?_ | refine aJ ?_ | refine aL ?_ | refine aC ?_))
    exact hno _ (by rw [hr]; rfl) (by omega)
  | true =>
    have hn:=aDN hr
    rw [hr,Bool.true_and] at hno hK
    (repeat (first | refine aB (by simp (disch:=first | omega | exact Int.natCast_nonneg _ | assumption) only [BB,B2,↓reduceIte,Nat.reduceLeDiff,Nat.reduceAdd,CC,g1,hcg,lc]<;>rfl) ?_ | refine aD ?_ | refine aE ?_ | with_reducible first | refine aG ?_ | refine aF ?_ | refine aH ?_ | refine aI ?_ | refine aK ?_ | refine aJ ?_ | refine aL ?_ | refine aC ?_))
    refine nX (fun u1=>?_) (fun u1=>?_)
    · (repeat (first | refine aB (by simp (disch:=first | omega | exact Int.natCast_nonneg _ | assumption) only [BB,B2,↓reduceIte,Nat.reduceLeDiff,Nat.reduceAdd,CC]<;>rfl) ?_ | refine aD ?_ | refine aE ?_ | with_reducible first | refine aG ?_ | refine aF ?_ | refine aH ?_ | refine aI ?_ | refine aK ?_ | refine aJ ?_ | refine aL ?_ | refine aC ?_))
      exact hno _ (by rw [decide_eq_false (by omega)]; rfl) (by omega)
    · have u1:C.length≤512:=by omega
      rw [decide_eq_true u1,Bool.true_and] at hno hK
      (repeat (first | refine aB (by simp (disch:=first | omega | exact Int.natCast_nonneg _ | assumption) only [BB,B2,↓reduceIte,Nat.reduceLeDiff,Nat.reduceAdd,CC,g1,hsg,ls]<;>rfl) ?_ | refine aD ?_ | refine aE ?_ | with_reducible first | refine aG ?_ | refine aF ?_ | refine aH ?_ | refine aI ?_ | refine aK ?_ | refine aJ ?_ | refine aL ?_ | refine aC ?_))
      refine dO (fun u2=>?_) (fun u2=>?_)
      · (repeat (first | refine aB (by simp (disch:=first | omega | exact Int.natCast_nonneg _ | assumption) only [BB,B2,↓reduceIte,Nat.reduceLeDiff,Nat.reduceAdd,CC]<;>rfl) ?_ | refine aD ?_ | refine aE ?_ | with_reducible first | refine aG ?_ | refine aF ?_ | refine aH ?_ | refine aI ?_ | refine aK ?_ | refine aJ ?_ | refine aL ?_ | refine aC ?_))
        exact hno _ (by rw [decide_eq_false (by omega)]; rfl) (by omega)
      · have u2:1≤S.length:=by omega
        rw [decide_eq_true u2,Bool.true_and] at hno hK
        (repeat (first | refine aB (by simp (disch:=first | omega | exact Int.natCast_nonneg _ | assumption) only [BB,B2,↓reduceIte,Nat.reduceLeDiff,Nat.reduceAdd,CC,g1,hsg,ls]<;>rfl) ?_ | refine aD ?_ | refine aE ?_ | with_reducible first | refine aG ?_ | refine aF ?_ | refine aH ?_ | refine aI ?_ | refine aK ?_ | refine aJ ?_ | refine aL ?_ | refine aC ?_))
        refine nX (fun u3=>?_) (fun u3=>?_)
        · (repeat (first | refine aB (by simp (disch:=first | omega | exact Int.natCast_nonneg _ | assumption) only [BB,B2,↓reduceIte,Nat.reduceLeDiff,Nat.reduceAdd,CC]<;>rfl) ?_ | refine aD ?_ | refine aE ?_ | with_reducible first | refine aG ?_ | refine aF ?_ | refine aH ?_ | refine aI ?_ | refine aK ?_ | refine aJ ?_ | refine aL ?_ | refine aC ?_))
          exact hno _ (by rw [decide_eq_false (by omega)]; rfl) (by omega)
        · have u3:S.length≤256:=by omega
          rw [decide_eq_true u3,Bool.true_and] at hno hK
          have h0:0 < S.length:=by omega
          have six:dI 4 sv (.int .i64 0)=some (gP 4 sv 0):=hS.ix .i64 (i:=0) h0
          obtain ⟨x,⟨lv,rv,uv,nv,rfl,y1,y2,y3,y4,y5⟩,hx2,hx3,hx4,hx5⟩:=hS.at h0
          have q0:=hx5 0 lv rfl
          have q1:=hx5 1 rv rfl
          have ll:=y1.len
          have lr:=y2.len
          have hgd:S.getD 0 noS=S[0]:=by rw [List.getD_eq_getElem?_getD,List.getElem?_eq_getElem h0]; rfl
          have hfst:yD S=(decide (S[0].l.length=0)&&decide (S[0].r.length=0)):=by unfold yD; rw [hgd]
          have hall:S.all (iO S n C.length)=true→S[0].l.length≤512∧S[0].r.length≤3:=fun h=>aEh (List.all_eq_true.1 h _ (List.getElem_mem h0))
          (repeat (first | refine aB (by simp (disch:=first | omega | exact Int.natCast_nonneg _ | assumption) only [BB,B2,↓reduceIte,Nat.reduceLeDiff,Nat.reduceAdd,CC,g1,hsg,six,hx4,q0,q1,ll,lr]<;>rfl) ?_ | refine aD ?_ | refine aE ?_ | with_reducible first | refine aG ?_ | refine aF ?_ | refine aH ?_ | refine aI ?_ | refine aK ?_ | refine aJ ?_ | refine aL ?_ | refine aC ?_))
          first
          | refine aB (cK _ _ _) ?_
          | skip
          (repeat (first | refine aB (by simp (disch:=first | omega | exact Int.natCast_nonneg _ | assumption) only [BB,B2,↓reduceIte,Nat.reduceLeDiff,Nat.reduceAdd,CC]<;>rfl) ?_ | refine aD ?_ | refine aE ?_ | with_reducible first | refine aG ?_ | refine aF ?_ | refine aH ?_ | refine aI ?_ | refine aK ?_ | refine aJ ?_ | refine aL ?_ | refine aC ?_))
          have hrest:(S[0].l.length=0∧S[0].r.length=0∨9223372036854775807 < S[0].l.length+S[0].r.length)→∀ (e':Env) n',e' 1=ptr nx→e' 2=.bool false→e' 45=cv→e' 46=.int .i64 C.length→e' 47=.int .i64 0→nx+1≤n' →
              d5 (sC ro) e' p1 n' fun x229 e226 h227 n228=>exP x229 (jP ro K e226 h227 n228) (fun i230=>d8 (Nat.beq i230 0) (jP ro K e226 h227 n228) (False)) (∃ h231,Sub h231 h227∧K (e226 2) h231 n228):=by
            intro hlen e' n' f1 f2 f45 f46 f47 hn'
            generalize hB:C.all pQ=B at hno hK
            refine bI (fun j e h' nx'=>∃ (k:Nat),k+j=C.length∧nx+1≤nx'∧h'=p1∧e 1=ptr nx∧e 2=.bool false∧e 45=cv∧e 46=.int .i64 C.length∧e 47=.int .i64 k∧(C.drop k).all pQ=B) ?_ (n:=C.length) ⟨0,by omega,hn',rfl,f1,f2,f45,f46,f47,hB⟩
            rintro j e h' nx' ⟨k,hj,hnx,rfl,e1,e2,e45,e46,e47,hr2⟩ Q' hq hx
            unfold sC
            rw [e45,e46,e47]
            refine dO (fun hk=>?_) (fun hk=>?_)
            · have hk:k < C.length:=by omega
              rw [eL hk,List.all_cons] at hr2
              have cix:=hcv.ix .i64 hk
              obtain ⟨x,hx1,hx2,hx3,hx4,hx5⟩:=hcv.at hk
              generalize C[k]=p at hr2 hx1
              obtain rfl:x=[.int .i64 p.1,.int .i64 p.2]:=hx1
              (repeat (first | refine aB (by simp (disch:=first | omega | exact Int.natCast_nonneg _ | assumption) only [BB,B2,↓reduceIte,Nat.reduceLeDiff,Nat.reduceAdd,CC,cix,hx3]<;>rfl) ?_ | refine aD ?_ | refine aE ?_ | with_reducible first | refine aG ?_ | refine aF ?_ | refine aH ?_ | refine aI ?_ | refine aK ?_ | refine aJ ?_ | refine aL ?_ | refine aC ?_))
              refine kR (x:=[.int .i64 p.1,.int .i64 p.2]) aIj rfl rfl rfl rfl hf1 (by omega) fun h6 hs6 hf6 g6 _=>?_
              have hfin:∀ (e':Env) n',e' 2=.bool false→pQ p=false→nx≤n'→Q' .ret e' h6 n':=fun e' n' h6 hc hn=>by
                refine hx _ _ _ _ (fun e=>by cases e) (mM ?_)
                rw [h6]
                rw [hc,Bool.false_and] at hr2
                subst hr2
                obtain ⟨h9,z1,z2⟩:=hno n' (by simp) hn
                exact ⟨h9,z1.trans hs6,z2⟩
              have hok:∀ (e':Env) n',e' 1=ptr nx→e' 2=.bool false→e' 45=cv→e' 46=.int .i64 C.length→e' 47=.int .i64 ((k:Int)+1)→pQ p=true→nx+1≤n'→Q' .normal e' h6 n':=fun e' n' f1 f2 f45 f46 f47 hc hn =>
                hq (j - 1) _ h' _ _ (by omega) ⟨k+1,by omega,hn,rfl,f1,f2,f45,f46,f47,by rw [← hr2,hc]; rfl⟩ hs6
              unfold pQ at hfin hok
              (repeat (first | refine aB (by simp (disch:=first | omega | exact Int.natCast_nonneg _ | assumption) only [BB,B2,↓reduceIte,Nat.reduceLeDiff,Nat.reduceAdd,CC,g6]<;>rfl) ?_ | refine aD ?_ | refine aE ?_ | with_reducible first | refine aG ?_ | refine aF ?_ | refine aH ?_ | refine aI ?_ | refine aK ?_ | refine aJ ?_ | refine aL ?_ | refine aC ?_))
              refine dO (fun v1=>?_) (fun v1=>?_)
              · (repeat (first | refine aB (by simp (disch:=first | omega | exact Int.natCast_nonneg _ | assumption) only [BB,B2,↓reduceIte,Nat.reduceLeDiff,Nat.reduceAdd,CC]<;>rfl) ?_ | refine aD ?_ | refine aE ?_ | with_reducible first | refine aG ?_ | refine aF ?_ | refine aH ?_ | refine aI ?_ | refine aK ?_ | refine aJ ?_ | refine aL ?_ | refine aC ?_))
                exact hfin _ _ rfl (by rw [decide_eq_false (by omega)]; rfl) (by omega)
              · rw [decide_eq_true v1,Bool.true_and] at hfin hok
                (repeat (first | refine aB (by simp (disch:=first | omega | exact Int.natCast_nonneg _ | assumption) only [BB,B2,↓reduceIte,Nat.reduceLeDiff,Nat.reduceAdd,CC,g6]<;>rfl) ?_ | refine aD ?_ | refine aE ?_ | with_reducible first | refine aG ?_ | refine aF ?_ | refine aH ?_ | refine aI ?_ | refine aK ?_ | refine aJ ?_ | refine aL ?_ | refine aC ?_))
                refine nX (fun v2=>?_) (fun v2=>?_)
                · (repeat (first | refine aB (by simp (disch:=first | omega | exact Int.natCast_nonneg _ | assumption) only [BB,B2,↓reduceIte,Nat.reduceLeDiff,Nat.reduceAdd,CC]<;>rfl) ?_ | refine aD ?_ | refine aE ?_ | with_reducible first | refine aG ?_ | refine aF ?_ | refine aH ?_ | refine aI ?_ | refine aK ?_ | refine aJ ?_ | refine aL ?_ | refine aC ?_))
                  exact hfin _ _ rfl (by rw [decide_eq_false (by omega)]; rfl) (by omega)
                · rw [decide_eq_true v2,Bool.true_and] at hfin hok
                  (repeat (first | refine aB (by simp (disch:=first | omega | exact Int.natCast_nonneg _ | assumption) only [BB,B2,↓reduceIte,Nat.reduceLeDiff,Nat.reduceAdd,CC,g6]<;>rfl) ?_ | refine aD ?_ | refine aE ?_ | with_reducible first | refine aG ?_ | refine aF ?_ | refine aH ?_ | refine aI ?_ | refine aK ?_ | refine aJ ?_ | refine aL ?_ | refine aC ?_))
                  refine dO (fun v3=>?_) (fun v3=>?_)
                  · (repeat (first | refine aB (by simp (disch:=first | omega | exact Int.natCast_nonneg _ | assumption) only [BB,B2,↓reduceIte,Nat.reduceLeDiff,Nat.reduceAdd,CC]<;>rfl) ?_ | refine aD ?_ | refine aE ?_ | with_reducible first | refine aG ?_ | refine aF ?_ | refine aH ?_ | refine aI ?_ | refine aK ?_ | refine aJ ?_ | refine aL ?_ | refine aC ?_))
                    exact hfin _ _ rfl (by rw [decide_eq_false (by omega)]; rfl) (by omega)
                  · rw [decide_eq_true v3,Bool.true_and] at hfin hok
                    (repeat (first | refine aB (by simp (disch:=first | omega | exact Int.natCast_nonneg _ | assumption) only [BB,B2,↓reduceIte,Nat.reduceLeDiff,Nat.reduceAdd,CC,g6]<;>rfl) ?_ | refine aD ?_ | refine aE ?_ | with_reducible first | refine aG ?_ | refine aF ?_ | refine aH ?_ | refine aI ?_ | refine aK ?_ | refine aJ ?_ | refine aL ?_ | refine aC ?_))
                    refine nX (fun v4=>?_) (fun v4=>?_)
                    · (repeat (first | refine aB (by simp (disch:=first | omega | exact Int.natCast_nonneg _ | assumption) only [BB,B2,↓reduceIte,Nat.reduceLeDiff,Nat.reduceAdd,CC]<;>rfl) ?_ | refine aD ?_ | refine aE ?_ | with_reducible first | refine aG ?_ | refine aF ?_ | refine aH ?_ | refine aI ?_ | refine aK ?_ | refine aJ ?_ | refine aL ?_ | refine aC ?_))
                      exact hfin _ _ rfl (by rw [decide_eq_false (by omega)]) (by omega)
                    · rw [decide_eq_true v4] at hok
                      (repeat (first | refine aB (by simp (disch:=first | omega | exact Int.natCast_nonneg _ | assumption) only [BB,B2,↓reduceIte,Nat.reduceLeDiff,Nat.reduceAdd,CC]<;>rfl) ?_ | refine aD ?_ | refine aE ?_ | with_reducible first | refine aG ?_ | refine aF ?_ | refine aH ?_ | refine aI ?_ | refine aK ?_ | refine aJ ?_ | refine aL ?_ | refine aC ?_))
                      exact hok _ _ e1 e2 e45 e46 rfl rfl (by omega)
            · rw [iH (by omega)] at hr2
              have hr2:true=B:=hr2
              subst hr2
              rw [Bool.true_and] at hno hK
              (repeat (first | refine aB (by simp (disch:=first | omega | exact Int.natCast_nonneg _ | assumption) only [BB,B2,↓reduceIte,Nat.reduceLeDiff,Nat.reduceAdd,CC]<;>rfl) ?_ | refine aD ?_ | refine aE ?_ | with_reducible first | refine aG ?_ | refine aF ?_ | refine aH ?_ | refine aI ?_ | refine aK ?_ | refine aJ ?_ | refine aL ?_ | refine aC ?_))
              refine hx _ _ _ _ (fun e=>by cases e) (fG (dR ?_))
              have hend:∀ (e':Env) n',e' 1=ptr nx→nx+1≤n'→jP ro K e' h' n':=by
                intro e' n' z1 hn'
                unfold jP
                rw [z1]
                refine aB (cR g1 (cJ hc)) ?_
                refine aB (aDf hc) ?_
                obtain ⟨z,hz,hzs⟩:=aHd
                refine kR (x:=dQ c n cv sv) hz hzs rfl (cJ hc) (x9 (SlR.okC hcv) (SlR.okC hS)) hf1 (by omega) fun h6 hs6 hf6 g6 _=>?_
                have g16:=hs6 _ _ g1
                (repeat (first | refine aB (by simp (disch:=first | omega | exact Int.natCast_nonneg _ | assumption) only [BB,B2,↓reduceIte,Nat.reduceLeDiff,Nat.reduceAdd,CC,g16,hsg]<;>rfl) ?_ | refine aD ?_ | refine aE ?_ | with_reducible first | refine aG ?_ | refine aF ?_ | refine aH ?_ | refine aI ?_ | refine aK ?_ | refine aJ ?_ | refine aL ?_ | refine aC ?_))
                refine xW (q:=fun s=>!iO S n C.length s) (by omega) (hS.sub hs6 (eA.sub hs6)) (fun i hi x n' K' hx hn' hk'=>?_) fun n' hn'=>?_
                · obtain ⟨lv,rv,uv,nv,rfl,w1,w2,w3,w4,w5⟩:=hx
                  exact aCO hc hn u3 u1 w5 (hf6.mono (by omega)) g6 (hcv.sub hs6 fun _ _ h=>h) (hS.sub hs6 (eA.sub hs6)) w1 w2 w3 w4 hk'
                · (repeat (first | refine aB (by simp (disch:=first | omega | exact Int.natCast_nonneg _ | assumption) only [BB,B2,↓reduceIte,Nat.reduceLeDiff,Nat.reduceAdd,CC]<;>rfl) ?_ | refine aD ?_ | refine aE ?_ | with_reducible first | refine aG ?_ | refine aF ?_ | refine aH ?_ | refine aI ?_ | refine aK ?_ | refine aJ ?_ | refine aL ?_ | refine aC ?_))
                  refine ⟨h,hs.trans hs6,kb hK ?_ (by omega)⟩
                  rw [aIm]
                  rcases hlen with hlen | hlen
                  · rw [hfst,decide_eq_true hlen.1,decide_eq_true hlen.2]; rfl
                  · cases ha:S.all (iO S n C.length) with
                    | false=>simp
                    | true=>have:=hall ha; omega
              exact hend _ _ e1 (by omega)
          refine nX (fun u4=>?_) (fun u4=>?_)
          · (repeat (first | refine aB (by simp (disch:=first | omega | exact Int.natCast_nonneg _ | assumption) only [BB,B2,↓reduceIte,Nat.reduceLeDiff,Nat.reduceAdd,CC]<;>rfl) ?_ | refine aD ?_ | refine aE ?_ | with_reducible first | refine aG ?_ | refine aF ?_ | refine aH ?_ | refine aI ?_ | refine aK ?_ | refine aJ ?_ | refine aL ?_ | refine aC ?_))
            have:=aNq u4
            refine hno _ ?_ (by omega)
            rw [hfst]
            rcases this with h | h
            · rw [decide_eq_false h]; simp
            · rw [decide_eq_false h]; simp
          · (repeat (first | refine aB (by simp (disch:=first | omega | exact Int.natCast_nonneg _ | assumption) only [BB,B2,↓reduceIte,Nat.reduceLeDiff,Nat.reduceAdd,CC,g1,hcg,lc]<;>rfl) ?_ | refine aD ?_ | refine aE ?_ | with_reducible first | refine aG ?_ | refine aF ?_ | refine aH ?_ | refine aI ?_ | refine aK ?_ | refine aJ ?_ | refine aL ?_ | refine aC ?_))
            exact hrest (by rcases aOk u4 with h | h<;>omega) _ _ rfl rfl rfl rfl rfl (by omega)
end V
end Go.Proofs.YtjndkdmkecpllaaGreat
set_option linter.unusedVariables false
set_option linter.unusedSimpArgs false
namespace Go.Proofs.YtjndkdmkecpllaaGreat
namespace V
theorem aCI (m b i:Nat):jG (m ||| 2 ^ b) i=if i=b / 64 then jG m i ||| 2 ^ (b % 64) else jG m i:=by
  apply Nat.eq_of_testBit_eq
  intro j
  rw [jF,Nat.testBit_or,Nat.testBit_two_pow]
  by_cases h:i=b / 64
  · rw [if_pos h,Nat.testBit_or,jF,Nat.testBit_two_pow]
    subst h
    by_cases hj:j < 64
    · have:(b=64*(b / 64)+j) ↔ (b % 64=j):=by omega
      simp [hj,this]
    · have:¬ (b % 64=j):=by have:=Nat.mod_lt b (show 64 > 0 by decide); omega
      simp [hj,this]
  · rw [if_neg h,jF]
    by_cases hj:j < 64
    · have:¬ (b=64*i+j):=by omega
      simp [hj,this]
    · simp [hj]
theorem aIT (k a b:Nat):2 ^ k*(a ||| b)=2 ^ k*a ||| 2 ^ k*b:=by
  apply Nat.eq_of_testBit_eq
  intro j
  simp only [Nat.testBit_or,Nat.testBit_two_pow_mul]
  cases decide (j ≥ k)<;>simp
theorem aGS {a:Nat} (h:a % 2=0):a ||| 1=a+1:=by
  have h2:a=2 ^ 1*(a / 2):=by omega
  have:=Nat.two_pow_add_eq_or_of_lt (show 1 < 2 ^ 1 by decide) (a / 2)
  rw [← h2] at this; exact this.symm
theorem aM8 {x k:Nat} (h:x.testBit k=false):x+2 ^ k=x ||| 2 ^ k:=by
  have hr:x % 2 ^ k < 2 ^ k:=Nat.mod_lt _ (Nat.two_pow_pos k)
  have ha:(x / 2 ^ k) % 2=0:=by
    rw [Nat.testBit_eq_decide_div_mod_eq] at h
    have:¬ (x / 2 ^ k % 2=1):=by simpa using h
    omega
  have e1:=Nat.two_pow_add_eq_or_of_lt hr (x / 2 ^ k)
  have e2:=Nat.two_pow_add_eq_or_of_lt hr (x / 2 ^ k+1)
  have e0:2 ^ k*(x / 2 ^ k)+x % 2 ^ k=x:=Nat.div_add_mod _ _
  have e3:x+2 ^ k=2 ^ k*(x / 2 ^ k+1)+x % 2 ^ k:=by rw [Nat.mul_add,Nat.mul_one]; omega
  have e4:2 ^ k*(x / 2 ^ k+1)=2 ^ k*(x / 2 ^ k) ||| 2 ^ k:=by
    rw [← aGS ha,aIT,Nat.mul_one]
  have hx:x ||| 2 ^ k=(2 ^ k*(x / 2 ^ k) ||| x % 2 ^ k) ||| 2 ^ k:=by rw [← e1,e0]
  rw [e3,e2,e4,hx,Nat.or_assoc,Nat.or_comm (2 ^ k) (x % 2 ^ k),← Nat.or_assoc]
theorem aGr {x k:Nat} (h:x.testBit k=true):x ||| 2 ^ k=x:=by
  apply Nat.eq_of_testBit_eq
  intro j
  rw [Nat.testBit_or,Nat.testBit_two_pow]
  by_cases e:k=j
  · subst e; simp [h]
  · simp [e]
theorem aJV:zer Tryz.prog bN=some (pX 0):=by kernel_rfl
set_option maxRecDepth 20000
theorem aDV (m:Nat):(gK m).length=4:=rfl
theorem aN4 (m:Nat):(gK m).all bT=true:=rfl
theorem aJS (m:Nat):List.take 4 (List.drop 0 (gK m))=gK m:=rfl
theorem uZ {K:Value→Prop} (k:K (pX 0)):aA (zer Tryz.prog bN) K:=by rw [aJV]; exact k
theorem aLq (m n:Nat):over (gK m) 0 (gK n)=gK n:=rfl
theorem aKX (m:Nat):(pX m).cells.size=4:=rfl
theorem aH2 (m:Nat):Value.agg (gK m).toArray=pX m:=rfl
theorem aMM {m b:Nat} (hb:b < 256):(gK m).set (b / 64) (.int .u64 ((jG m (b / 64) ||| 2 ^ (b % 64):Nat):Int))=gK (m ||| 2 ^ b):=by
  have h0:=aCI m b 0
  have h1:=aCI m b 1
  have h2:=aCI m b 2
  have h3:=aCI m b 3
  have hq:b / 64=0∨b / 64=1∨b / 64=2∨b / 64=3:=by omega
  unfold gK
  rcases hq with hq | hq | hq | hq<;>rw [hq] at h0 h1 h2 h3 ⊢<;>simp at h0 h1 h2 h3<;>simp [h0,h1,h2,h3]
theorem wT {ro:Ro} {m w:Nat} {e:Env} {h h0:T Obj} {id nx nx0:Nat} {K:KV} (h2:e 2=at_ id 0 0) (h4:e 4=at_ (id+1) 0 0) (g1:h.get id=some (.cells (gK m).toArray bN)) (g2:h.get (id+1)=some (.cells (gK w).toArray bN))
    (hf:Fr h0 nx0) (hs:Sub h0 h) (hid:nx0≤id) (hK:K (pX m) h0 (nx+2)):oQ ro K e h nx:=by
  unfold oQ
  (repeat (first | refine aB (by simp (disch:=first | omega | exact Int.natCast_nonneg _ | assumption) only [BB,B2,↓reduceIte,Nat.reduceLeDiff,Nat.reduceAdd,aR,aS,aW,aV,aU,aT,fW,aDV,aJS,aH2,h2,h4,g1,g2,aKX,aN4,aLq]<;>rfl) ?_ | refine aD ?_ | refine aE ?_ | with_reducible first | refine aG ?_ | refine aF ?_ | refine aH ?_ | refine aI ?_ | refine aK ?_ | refine aJ ?_ | refine aL ?_ | refine aC ?_))
  exact ⟨h0,hs.new hf (by omega),hK⟩
section
theorem aF3 {ro:Ro} {m b:Nat} (hb:b < 256) {h:T Obj} {nx:Nat} {K:KV} (hf:Fr h nx) (hK:∀ nx',nx≤nx'→K (pX (m ||| 2 ^ b)) h nx'):aN Tryz.prog ro uI [pX m,.int .u8 b] h nx K:=by
  apply aDs
  unfold aAB
  refine aD (uZ ?_)
  (repeat (first | refine aB (by simp (disch:=first | omega | exact Int.natCast_nonneg _ | assumption) only [BB,B2,↓reduceIte,Nat.reduceLeDiff,Nat.reduceAdd,aR,aS,aW,aV,aU,aT,fW,aDV,aJS,aH2]<;>rfl) ?_ | refine aD ?_ | refine aE ?_ | with_reducible first | refine aG ?_ | refine aF ?_ | refine aH ?_ | refine aI ?_ | refine aK ?_ | refine aJ ?_ | refine aL ?_ | refine aC ?_))
  refine o8 hb ((hf.mono (Nat.le_add_right nx 5)).upd (n:=nx+5) (Nat.le_refl _) (by omega) |>.upd (Nat.le_refl _) (by omega)) fun n hn=>?_
  (repeat (first | refine aB (by simp (disch:=first | omega | exact Int.natCast_nonneg _ | assumption) only [BB,B2,↓reduceIte,Nat.reduceLeDiff,Nat.reduceAdd,aR,aS,aW,aV,aU,aT]<;>rfl) ?_ | refine aD ?_ | refine aE ?_ | with_reducible first | refine aG ?_ | refine aF ?_ | refine aH ?_ | refine aI ?_ | refine aK ?_ | refine aJ ?_ | refine aL ?_ | refine aC ?_))
  have h1:((b:Int) / 64).toNat=b / 64:=by omega
  have h2:((b:Int) % 64).toNat=b % 64:=by omega
  have h3:=aJU m (b / 64)
  have h4:b / 64 < 4:=by omega
  have h5:=aAn (m:=m) h4
  cases hm:m.testBit b with
  | true =>
    simp only [Bool.not_true]
    (repeat (first | refine aB (by simp (disch:=first | omega | exact Int.natCast_nonneg _ | assumption) only [BB,B2,↓reduceIte,Nat.reduceLeDiff,Nat.reduceAdd,aR,aS,aW,aV,aU,aT]<;>rfl) ?_ | refine aD ?_ | refine aE ?_ | with_reducible first | refine aG ?_ | refine aF ?_ | refine aH ?_ | refine aI ?_ | refine aK ?_ | refine aJ ?_ | refine aL ?_ | refine aC ?_))
    refine wT (m:=m) (w:=0) (id:=nx) rfl rfl ?_ ?_ hf ?_ (Nat.le_refl _) ?_
    · simp (disch:=first | omega | exact Int.natCast_nonneg _ | assumption) only [BB,B2,↓reduceIte,Nat.reduceLeDiff,Nat.reduceAdd,aR,aS,aW,aV,aU,aT,fW]
    · simp (disch:=first | omega | exact Int.natCast_nonneg _ | assumption) only [BB,B2,↓reduceIte,Nat.reduceLeDiff,Nat.reduceAdd,aR,aS,aW,aV,aU,aT,fW]
    · exact ((Sub.refl h).new hf (Nat.le_refl _)).new hf (by omega)
    · have:=hK (n+1+2) (by omega)
      rw [aGr hm] at this; exact this
  | false =>
    simp only [Bool.not_false]
    have h6:(jG m (b / 64)).testBit (b % 64)=false:=by
      rw [jF,Nat.div_add_mod,hm]; simp
    have h7:=aM8 h6
    have h8:jG m (b / 64)+2 ^ (b % 64) < 18446744073709551616:=by
      rw [h7]; exact Nat.or_lt_two_pow (n:=64) h3 (Nat.pow_lt_pow_right (by decide) (by omega))
    have h9:((jG m (b / 64):Nat):Int)+((2 ^ (b % 64):Nat):Int)=((jG m (b / 64) ||| 2 ^ (b % 64):Nat):Int):=by rw [← h7]; exact (Int.natCast_add _ _).symm
    have h10:((jG m (b / 64) ||| 2 ^ (b % 64):Nat):Int)≤18446744073709551615:=aIo (by rw [← h7]; exact h8)
    have h11:=aCt (.int .u64 ((jG m (b / 64) ||| 2 ^ (b % 64):Nat):Int)) (l:=gK m) (off:=b / 64) (by rw [aDV]; omega)
    (repeat (first | refine aB (by simp (disch:=first | omega | exact Int.natCast_nonneg _ | assumption) only [BB,B2,↓reduceIte,Nat.reduceLeDiff,Nat.reduceAdd,aR,aS,aW,aV,aU,aT,fW,h1,h2,h5,h9]<;>rfl) ?_ | refine aD ?_ | refine aE ?_ | with_reducible first | refine aG ?_ | refine aF ?_ | refine aH ?_ | refine aI ?_ | refine aK ?_ | refine aJ ?_ | refine aL ?_ | refine aC ?_))
    refine aB (dZ (l:=gK m) (by simp (disch:=first | omega | exact Int.natCast_nonneg _ | assumption) only [BB,B2,↓reduceIte,Nat.reduceLeDiff,Nat.reduceAdd,aR,aS,aW,aV,aU,aT,fW]<;>rfl) h4 rfl rfl) ?_
    rw [aMM hb]
    refine wT (m:=m ||| 2 ^ b) (w:=0) (id:=nx) rfl rfl ?_ ?_ hf ?_ (Nat.le_refl _) (hK _ (by omega))
    · simp (disch:=first | omega | exact Int.natCast_nonneg _ | assumption) only [BB,B2,↓reduceIte,Nat.reduceLeDiff,Nat.reduceAdd,aR,aS,aW,aV,aU,aT,fW]
    · simp (disch:=first | omega | exact Int.natCast_nonneg _ | assumption) only [BB,B2,↓reduceIte,Nat.reduceLeDiff,Nat.reduceAdd,aR,aS,aW,aV,aU,aT,fW]
    · exact (((Sub.refl h).new hf (Nat.le_refl _)).new hf (by omega)).new hf (Nat.le_refl _)
end
set_option maxRecDepth 20000
def oO (m:Nat) (l:List Nat):Nat:=l.foldl (fun m b=>m ||| 2 ^ b) m
def eB (l:List Nat):List (List Value):=l.map fun b:Nat=>[Value.int .u8 (b:Int)]
theorem gR (l:List Nat):(eB l).length=l.length:=by simp [eB]
theorem tX {l:List Nat} {i:Nat} (hi:i < l.length):(eB l)[i]?=some [.int .u8 (l[i]:Nat)]:=by simp [eB,hi]
theorem aHk:dF Tryz.prog bN []=some (pX 0):=by kernel_rfl
theorem aDd {K:Value→Prop} (k:K (pX 0)):aA (dF Tryz.prog bN []) K:=by rw [aHk]; exact k
theorem aFT {m:Nat} {l:List Nat} {i:Nat} (hi:i < l.length):oO m (l.take (i+1))=oO m (l.take i) ||| 2 ^ l[i]:=by
  rw [List.take_succ_eq_append_getElem hi,oO,List.foldl_append]; rfl
theorem aIW {ro:Ro} {v:Value} {l:List Nat} (hl:∀ b∈l,b < 256) (hlen:l.length≤1000000) {h:T Obj} {nx:Nat} {K:KV} (hf:Fr h nx) (hv:Sl ro h v 1 (eB l)) (hK:∀ nx',nx≤nx'→K (pX (oO 0 l)) h nx'):aN Tryz.prog ro zS [v] h nx K:=by
  apply aHF
  unfold aCy
  refine uZ (aD (aDd (uZ (aD ?_))))
  refine aB (fB (l:=gK 0) (vs:=gK 0) (by simp (disch:=first | omega | exact Int.natCast_nonneg _ | assumption) only [BB,B2,↓reduceIte,Nat.reduceLeDiff,Nat.reduceAdd,aR,aS,aW,aV,aU,aT,fW]<;>rfl) rfl rfl rfl rfl) ?_
  refine bI (fun n e h' nx'=>∃ i:Nat,i+n=l.length∧nx+3≤nx'∧e 0=v∧e 2=ptr nx∧e 3=ptr (nx+2)∧e 4=.int .i64 i∧Sub h h'∧Fr h' nx' ∧
    h'.get nx=some (.cells (gK 0).toArray bN)∧h'.get (nx+2)=some (.cells (gK (oO 0 (l.take i))).toArray bN)) ?_ (n:=l.length) ⟨0,by omega,by omega,rfl,rfl,rfl,rfl,?_,?_,?_,?_⟩
  · rintro n e h' nx' ⟨i,hin,hnx,e0,e2,e3,e4,hs,hf',g1,g2⟩ Q' hc hx
    unfold aBk
    rw [e0,e3,e4]
    have hlenv:=(hv.sub hs).len
    rw [gR] at hlenv
    refine aB hlenv ?_
    (repeat (first | refine aB (by simp (disch:=first | omega | exact Int.natCast_nonneg _ | assumption) only [BB,B2,↓reduceIte,Nat.reduceLeDiff,Nat.reduceAdd,aR,aS,aW,aV,aU,aT]<;>rfl) ?_ | refine aD ?_ | refine aE ?_ | with_reducible first | refine aG ?_ | refine aF ?_ | refine aH ?_ | refine aI ?_ | refine aK ?_ | refine aJ ?_ | refine aL ?_ | refine aC ?_))
    by_cases hi:i < l.length
    · refine fS (by simp; omega) ?_
      refine aB (cR g2 rfl) ?_
      refine aB ((hv.sub hs).ix _ (by rw [gR]; exact hi)) ?_
      refine aB ((hv.sub hs).load1 (tX hi)) ?_
      refine aF3 (hl _ (List.getElem_mem hi)) (hf'.mono (by omega)) fun n1 hn1=>?_
      refine aB (fB (l:=gK _) (vs:=gK _) g2 rfl rfl rfl rfl) ?_
      (repeat (first | refine aB (by simp (disch:=first | omega | exact Int.natCast_nonneg _ | assumption) only [BB,B2,↓reduceIte,Nat.reduceLeDiff,Nat.reduceAdd,aR,aS,aW,aV,aU,aT]<;>rfl) ?_ | refine aD ?_ | refine aE ?_ | with_reducible first | refine aG ?_ | refine aF ?_ | refine aH ?_ | refine aI ?_ | refine aK ?_ | refine aJ ?_ | refine aL ?_ | refine aC ?_))
      refine hc (n - 1) _ _ _ _ (by omega) ⟨i+1,by omega,?_,e0,e2,e3,rfl,hs.new hf (by omega),(hf'.mono (by omega)).upd (Nat.le_refl _) (by omega),?_,?_⟩ (Sub.refl _)
      · omega
      · simp (disch:=first | omega | exact Int.natCast_nonneg _ | assumption) only [BB,B2,↓reduceIte,Nat.reduceLeDiff,Nat.reduceAdd,aR,aS,aW,aV,aU,aT,g1]
      · rw [T.get_upd_same,aFT hi]
    · refine fR (by simp; omega) ?_
      refine hx _ _ _ _ (fun e=>by cases e) ?_
      show exP _ _ _ _
      rw [c7]
      show rS ro K _ _ _
      unfold rS
      show aA (loadA ro h' 4 (e 3)) _
      rw [e3]
      refine aB (cR g2 rfl) ?_
      show aA (bY 4 h' (e 2) _) _
      rw [e2]
      refine aB (fB (l:=gK _) (vs:=gK _) g1 rfl rfl rfl rfl) ?_
      show aA (loadA ro _ 4 (e 2)) _
      rw [e2]
      refine aB (cR (by rw [T.get_upd_same]) rfl) ?_
      refine ⟨h,hs.new hf (Nat.le_refl _),?_⟩
      have:l.take i=l:=List.take_of_length_le (by omega)
      rw [this]
      exact hK _ (by omega)
  · exact (((Sub.refl h).new hf (Nat.le_refl _)).new hf (by omega)).new hf (by omega)
  · exact ((hf.upd (m:=nx+5) (by omega) (by omega)).upd (Nat.le_refl _) (by omega)).upd (Nat.le_refl _) (by omega)
  · simp (disch:=first | omega | exact Int.natCast_nonneg _ | assumption) only [BB,B2,↓reduceIte,Nat.reduceLeDiff,Nat.reduceAdd,aR,aS,aW,aV,aU,aT,fW]
  · rw [T.get_upd_same]; rfl
set_option maxRecDepth 20000
set_option maxRecDepth 20000
set_option maxRecDepth 20000
set_option maxRecDepth 20000
theorem aLU (aid:Nat) (b:Int):a7 Tryz.prog bS aid 1 [(0,.int .u8 b)]=some (.slice (some (own aid 1)) 1 1,some (.cells #[.int .u8 b] bR)):=by kernel_rfl
theorem aNm:und Tryz.prog bS=some (.slice bR):=by kernel_rfl
theorem aOi:∃ i,tin Tryz.prog bR=some i∧i.size=1∧i.bytes=1:=by
  have h:(tin Tryz.prog bR).map (fun i=>(i.size,i.bytes))=some (1,1):=by kernel_rfl
  cases hi:tin Tryz.prog bR with
  | none=>rw [hi] at h; cases h
  | some i=>rw [hi] at h; simp at h; exact ⟨i,rfl,h.1,h.2⟩
theorem aOn:zer Tryz.prog bR=some (.int .u8 0):=by kernel_rfl
theorem aEH {ro:Ro} {h:T Obj} {v x:Value} {nx lo hi:Nat} {l:List Nat} {b:Nat} (ho:Own h v 1 bR (eB l) lo hi) (hx:Sl ro h x 1 (eB [b])) (hb:l.length≤1000000) (hlo:lo≤nx) (hnx:hi≤nx) :
    ∃ h' r,bX Tryz.prog ro h nx #[bS,bS] [v,x]=some (r,h',nx+1)∧Own h' r 1 bR (eB (l++[b])) lo (nx+1)∧(∀ k,(k < lo∨hi≤k)→k≠nx→h'.get k=h.get k)∧(∀ k,k≠nx→h'.get k=h.get k∨h'.get k=none):=by
  obtain ⟨i,h1,h2,h3⟩:=aOi
  have hcat:eB l++eB [b]=eB (l++[b]):=by simp [eB]
  have hl1:(eB l).length=l.length:=gR l
  have hl2:(eB [b]).length=1:=rfl
  obtain ⟨h',q1,q2,q3,q4⟩:=tU (P:=Tryz.prog) (t:=bS) ho hx aNm h1 h2 (by omega) aOn rfl (by simp [eB]) rfl (by rw [hl1,hl2,h3]; unfold big; omega) (by rw [hl1,hl2]; unfold big; omega) hlo hnx
  rw [hcat] at q1 q2
  exact ⟨h',_,q1,q2,q3,q4⟩
set_option maxRecDepth 20000
set_option maxRecDepth 20000
theorem aCB (m:Nat) (l:List Nat) (b:Nat):(oO m l).testBit b=(m.testBit b || decide (b∈l)):=by
  induction l generalizing m with
  | nil=>simp [oO]
  | cons a l ih =>
    have:oO m (a::l)=oO (m ||| 2 ^ a) l:=rfl
    rw [this,ih,Nat.testBit_or,Nat.testBit_two_pow]
    by_cases e:a=b
    · subst e; simp
    · have:¬ b=a:=fun h=>e h.symm
      simp [e,this]
def mem (c:List Nat) (k:Int) (i:Nat):List Nat:=(List.range i).filter fun b=>decide (((c.getD b 0:Nat):Int)=k)
def aMf (c:List Nat) (k:Int):Nat:=oO 0 (mem c k 256)
theorem aCb (p:Nat→Bool) (i:Nat):[i].filter p=if p i=true then [i] else []:=by
  cases h:p i<;>simp [h]
theorem aGg (c:List Nat) (k:Int) (i:Nat):mem c k (i+1)=mem c k i++(if ((c.getD i 0:Nat):Int)=k then [i] else []):=by
  unfold mem
  rw [List.range_succ,List.filter_append,aCb]
  simp only [decide_eq_true_eq]
theorem aOR {c:List Nat} {k:Int} {i b:Nat} (h:b∈mem c k i):b < i:=by
  unfold mem at h
  exact List.mem_range.1 (List.mem_filter.1 h).1
theorem aJC (c:List Nat) (k:Int) (i:Nat):(mem c k i).length≤i:=by
  unfold mem
  refine Nat.le_trans (List.length_filter_le _ _) ?_
  simp
theorem rK {ro:Ro} {h h0:T Obj} {v:Value} {n1 lo hi nx nx0:Nat} {l:List Nat} {b:Nat} {K:Value × T Obj × Nat→Prop} (ho:Own h v 1 bR (eB l) lo hi) (hl:l.length≤1000000) (hf:Fr h nx) (hs:Sub h0 h) (hf0:Fr h0 nx0) (hlo0:nx0≤lo) (hlo:lo≤hi) (hn:hi≤n1) (hnx:nx≤n1) (h2:n1+1≤nx+1000)
    {n2:Nat} (hn2:n1 < n2)
    (hK:∀ h' r,Own h' r 1 bR (eB (l++[b])) lo (n2+1)→Sub h0 h'→Fr h' (n2+1)→(∀ k,(k < lo∨hi≤k)→k≠n2→k≠n1→h'.get k=h.get k)→K (r,h',n2+1)) :
    aA (a7 Tryz.prog bS n1 1 [(0,.int .u8 (b:Int))]) fun r=>eG h n1 r.2 fun h'=>aA (bX Tryz.prog ro h' n2 #[bS,bS] [v,r.1]) K:=by
  refine aB (aLU _ _) (aE ?_)
  have ho2:Own (h.upd n1 (some (.cells #[.int .u8 (b:Int)] bR))) v 1 bR (eB l) lo hi:=ho.keep (Nat.le_refl _) fun id h1 h2 o hg=>by rw [T.get_upd_ne _ _ (by omega)]; exact hg
  have hx1:Sl ro (h.upd n1 (some (.cells #[.int .u8 (b:Int)] bR))) (.slice (some (own n1 1)) 1 1) 1 (eB [b]):=Sl.own (l:=eB [b]) (by rw [T.get_upd_same]; rfl) (by simp [eB]) (Nat.le_refl _)
  obtain ⟨h2,r,q1,q2,q3,q4⟩:=aEH (nx:=n2) ho2 hx1 hl (by omega) (by omega)
  refine aB q1 (hK h2 r q2 ?_ ?_ ?_)
  · intro k o hk
    have hkn:k < nx0:=by
      rcases Nat.lt_or_ge k nx0 with h9 | h9
      · exact h9
      · rw [hf0 k h9] at hk; cases hk
    rw [q3 k (.inl (by omega)) (by omega),T.get_upd_ne _ _ (by omega)]
    exact hs k o hk
  · intro k hk
    rw [q3 k (.inr (by omega)) (by omega),T.get_upd_ne _ _ (by omega)]
    exact hf k (by omega)
  · intro k hk h3 h4
    rw [q3 k hk h3,T.get_upd_ne _ _ h4]
set_option maxRecDepth 20000
set_option maxRecDepth 4000 in
theorem aHI {ro:Ro} {c:List Nat} {n k:Int} (hc:c.length=256) (hcl:∀ x∈c,x < 256) {h:T Obj} {nx:Nat} {K:KV} (hf:Fr h nx) (hK:∀ nx',nx≤nx'→K (pX (aMf c k)) h nx'):aN Tryz.prog ro wO [j5 c n,.int .i64 k] h nx K:=by
  apply aF5
  unfold aBL
  refine aD (uZ (aD ?_))
  refine bI (fun j e h' nx'=>∃ (i:Nat) (lv:Value),i+j=256∧nx+2≤nx'∧e 1=.int .i64 k∧e 2=ptr nx∧e 4=ptr (nx+1)∧e 5=lv∧e 6=.int .i64 i∧Sub h h'∧Fr h' nx' ∧
    h'.get nx=some (.cells (eN c n).toArray cG)∧h'.get (nx+1)=some (.cells (gK 0).toArray bN)∧Own h' lv 1 bR (eB (mem c k i)) (nx+2) nx') ?_ (n:=256) ⟨0,_,by omega,by omega,rfl,rfl,rfl,rfl,rfl,?_,?_,?_,?_,Own.nil⟩
  · rintro j e h' nx' ⟨i,lv,hij,hnx,e1,e2,e4,e5,e6,hs,hf',g0,g1,ho⟩ Q' hq hx
    unfold aAe
    rw [e1,e2,e5,e6]
    (repeat (first | refine aB (by simp (disch:=first | omega | exact Int.natCast_nonneg _ | assumption) only [BB,B2,↓reduceIte,Nat.reduceLeDiff,Nat.reduceAdd,aR,aS,aW,aV,aU,aT]<;>rfl) ?_ | refine aD ?_ | refine aE ?_ | with_reducible first | refine aG ?_ | refine aF ?_ | refine aH ?_ | refine aI ?_ | refine aK ?_ | refine aJ ?_ | refine aL ?_ | refine aC ?_))
    by_cases hi:i < 256
    · refine fS (by simp; omega) ?_
      have hic:i < c.length:=by omega
      have hci:=hcl _ (List.getElem_mem hic)
      have hg:=aBq (n:=n) hic
      have hgd:c.getD i 0=c[i]:=by rw [List.getD_eq_getElem?_getD,List.getElem?_eq_getElem hic]; rfl
      (repeat (first | refine aB (by simp (disch:=first | omega | exact Int.natCast_nonneg _ | assumption) only [BB,B2,↓reduceIte,Nat.reduceLeDiff,Nat.reduceAdd,aR,aS,aW,aV,aU,aT,g0,hg]<;>rfl) ?_ | refine aD ?_ | refine aE ?_ | with_reducible first | refine aG ?_ | refine aF ?_ | refine aH ?_ | refine aI ?_ | refine aK ?_ | refine aJ ?_ | refine aL ?_ | refine aC ?_))
      have hj2:∀ (e:Env) (h1:T Obj) (n2:Nat) (lv:Value),nx'≤n2→e 1=.int .i64 k→e 2=ptr nx→e 4=ptr (nx+1)→e 5=lv→e 6=.int .i64 i→Sub h h1→Fr h1 n2→h1.get nx=some (.cells (eN c n).toArray cG)→h1.get (nx+1)=some (.cells (gK 0).toArray bN) →
          Own h1 lv 1 bR (eB (mem c k (i+1))) (nx+2) n2→pV ro Q' e h1 n2:=by
        intro e h1 n2 lv hn2 e1 e2 e4 e5 e6 hs1 hf1 g0 g1 ho1
        unfold pV
        rw [e6]
        (repeat (first | refine aB (by simp (disch:=first | omega | exact Int.natCast_nonneg _ | assumption) only [BB,B2,↓reduceIte,Nat.reduceLeDiff,Nat.reduceAdd,aR,aS,aW,aV,aU,aT]<;>rfl) ?_ | refine aD ?_ | refine aE ?_ | with_reducible first | refine aG ?_ | refine aF ?_ | refine aH ?_ | refine aI ?_ | refine aK ?_ | refine aJ ?_ | refine aL ?_ | refine aC ?_))
        exact hq (j - 1) _ _ _ _ (by omega) ⟨i+1,lv,by omega,by omega,e1,e2,e4,e5,rfl,hs1,hf1.mono (by omega),g0,g1,ho1.keep (by omega) fun _ _ _ _ hg=>hg⟩ (Sub.refl _)
      by_cases hk:((c[i]:Nat):Int)=k
      · refine fS (by simp [hk]) ?_
        (repeat (first | refine aB (by simp (disch:=first | omega | exact Int.natCast_nonneg _ | assumption) only [BB,B2,↓reduceIte,Nat.reduceLeDiff,Nat.reduceAdd,aR,aS,aW,aV,aU,aT]<;>rfl) ?_ | refine aD ?_ | refine aE ?_ | with_reducible first | refine aG ?_ | refine aF ?_ | refine aH ?_ | refine aI ?_ | refine aK ?_ | refine aJ ?_ | refine aL ?_ | refine aC ?_))
        refine rK (h0:=h) (nx0:=nx) (nx:=nx') (lo:=nx+2) (hi:=nx') ho (Nat.le_trans (aJC _ _ _) (by omega)) hf' hs hf (by omega) (by omega) (by omega) (by omega) (by omega) (by omega) fun h2 r q1 q2 q3 q4=>?_
        dsimp only
        refine hj2 _ _ _ r (by omega) e1 e2 e4 rfl e6 q2 (q3.mono (by omega)) ?_ ?_ ?_
        · rw [q4 _ (.inl (by omega)) (by omega) (by omega)]; exact g0
        · rw [q4 _ (.inl (by omega)) (by omega) (by omega)]; exact g1
        · rw [aGg,hgd,if_pos hk]; exact q1.keep (by omega) fun _ _ _ _ hg=>hg
      · refine fR (by simp [hk]) ?_
        refine hj2 _ _ _ lv (by omega) e1 e2 e4 e5 e6 hs (hf'.mono (by omega)) g0 g1 ?_
        rw [aGg,hgd,if_neg hk,List.append_nil]; exact ho.keep (by omega) fun _ _ _ _ hg=>hg
    · refine fR (by simp; omega) ?_
      refine hx _ _ _ _ (fun e=>by cases e) (fG (dR ?_))
      have hi2:i=256:=by omega
      subst hi2
      unfold uQ
      have f4:∀ a b,Env.put (Env.put e 7 a) 8 b 4=ptr (nx+1):=fun a b=>e4
      have f5:∀ a b,Env.put (Env.put e 7 a) 8 b 5=lv:=fun a b=>e5
      simp only [puts,f4,f5]
      refine aIW (fun b hb=>aOR hb) (Nat.le_trans (aJC c k 256) (by omega)) (hf'.mono (by omega)) ho.sl fun n2 hn2=>?_
      refine aB (fB (l:=gK 0) (vs:=gK (aMf c k)) g1 rfl rfl rfl rfl) ?_
      refine aB (cR (by rw [T.get_upd_same]) rfl) ?_
      exact ⟨h,hs.new hf (by omega),hK _ (by omega)⟩
  · exact ((Sub.refl h).new hf (Nat.le_refl _)).new hf (by omega)
  · exact (hf.upd (m:=nx+4) (by omega) (by omega)).upd (Nat.le_refl _) (by omega)
  · simp (disch:=first | omega | exact Int.natCast_nonneg _ | assumption) only [BB,B2,↓reduceIte,Nat.reduceLeDiff,Nat.reduceAdd,aR,aS,aW,aV,aU,aT,lH]
  · simp (disch:=first | omega | exact Int.natCast_nonneg _ | assumption) only [BB,B2,↓reduceIte,Nat.reduceLeDiff,Nat.reduceAdd,aR,aS,aW,aV,aU,aT,fW]
def lst (m i:Nat):List Nat:=(List.range i).filter fun b=>m.testBit b
def aLR (m:Nat):List Nat:=lst m 256
theorem aGd (m i:Nat):lst m (i+1)=lst m i++(if m.testBit i=true then [i] else []):=by
  unfold lst
  rw [List.range_succ,List.filter_append,aCb]
theorem aND (m i:Nat):(lst m i).length≤i:=by
  unfold lst
  refine Nat.le_trans (List.length_filter_le _ _) ?_
  simp
set_option maxRecDepth 4000 in
theorem aF2 {ro:Ro} {m:Nat} {h:T Obj} {nx:Nat} {K:KV} (hf:Fr h nx) (hK:∀ r h' nx',nx≤nx'→Sub h h'→Fr h' nx'→Own h' r 1 bR (eB (aLR m)) nx nx'→K r h' nx'):aN Tryz.prog ro uH [pX m] h nx K:=by
  apply aDq
  unfold aAA
  refine aD ?_
  refine bI (fun j e h' nx'=>∃ (i:Nat) (lv:Value),i+j=256∧nx+1≤nx'∧e 1=ptr nx∧e 3=lv∧e 4=.int .i64 i∧Sub h h'∧Fr h' nx' ∧
    h'.get nx=some (.cells (gK m).toArray bN)∧Own h' lv 1 bR (eB (lst m i)) (nx+1) nx') ?_ (n:=256) ⟨0,_,by omega,by omega,rfl,rfl,rfl,?_,?_,?_,Own.nil⟩
  · rintro j e h' nx' ⟨i,lv,hij,hnx,e1,e3,e4,hs,hf',g0,ho⟩ Q' hq hx
    unfold zA
    rw [e1,e3,e4]
    (repeat (first | refine aB (by simp (disch:=first | omega | exact Int.natCast_nonneg _ | assumption) only [BB,B2,↓reduceIte,Nat.reduceLeDiff,Nat.reduceAdd,aR,aS,aW,aV,aU,aT]<;>rfl) ?_ | refine aD ?_ | refine aE ?_ | with_reducible first | refine aG ?_ | refine aF ?_ | refine aH ?_ | refine aI ?_ | refine aK ?_ | refine aJ ?_ | refine aL ?_ | refine aC ?_))
    by_cases hi:i < 256
    · refine fS (by simp; omega) ?_
      refine aB (cR g0 rfl) ?_
      (repeat (first | refine aB (by simp (disch:=first | omega | exact Int.natCast_nonneg _ | assumption) only [BB,B2,↓reduceIte,Nat.reduceLeDiff,Nat.reduceAdd,aR,aS,aW,aV,aU,aT]<;>rfl) ?_ | refine aD ?_ | refine aE ?_ | with_reducible first | refine aG ?_ | refine aF ?_ | refine aH ?_ | refine aI ?_ | refine aK ?_ | refine aJ ?_ | refine aL ?_ | refine aC ?_))
      refine o8 hi (hf'.mono (by omega)) fun n1 hn1=>?_
      have hj2:∀ (e:Env) (h1:T Obj) (n2:Nat) (lv:Value),nx'≤n2→e 1=ptr nx→e 3=lv→e 4=.int .i64 i→Sub h h1→Fr h1 n2→h1.get nx=some (.cells (gK m).toArray bN) →
          Own h1 lv 1 bR (eB (lst m (i+1))) (nx+1) n2→oP ro Q' e h1 n2:=by
        intro e h1 n2 lv hn2 e1 e3 e4 hs1 hf1 g0 ho1
        unfold oP
        rw [e4]
        (repeat (first | refine aB (by simp (disch:=first | omega | exact Int.natCast_nonneg _ | assumption) only [BB,B2,↓reduceIte,Nat.reduceLeDiff,Nat.reduceAdd,aR,aS,aW,aV,aU,aT]<;>rfl) ?_ | refine aD ?_ | refine aE ?_ | with_reducible first | refine aG ?_ | refine aF ?_ | refine aH ?_ | refine aI ?_ | refine aK ?_ | refine aJ ?_ | refine aL ?_ | refine aC ?_))
        exact hq (j - 1) _ _ _ _ (by omega) ⟨i+1,lv,by omega,by omega,e1,e3,rfl,hs1,hf1.mono (by omega),g0,ho1.keep (by omega) fun _ _ _ _ hg=>hg⟩ (Sub.refl _)
      cases hb:m.testBit i with
      | true =>
        refine fS rfl ?_
        (repeat (first | refine aB (by simp (disch:=first | omega | exact Int.natCast_nonneg _ | assumption) only [BB,B2,↓reduceIte,Nat.reduceLeDiff,Nat.reduceAdd,aR,aS,aW,aV,aU,aT]<;>rfl) ?_ | refine aD ?_ | refine aE ?_ | with_reducible first | refine aG ?_ | refine aF ?_ | refine aH ?_ | refine aI ?_ | refine aK ?_ | refine aJ ?_ | refine aL ?_ | refine aC ?_))
        refine rK (h0:=h) (nx0:=nx) (nx:=n1) (lo:=nx+1) (hi:=nx') ho (Nat.le_trans (aND _ _) (by omega)) (hf'.mono (by omega)) hs hf (by omega) (by omega) (by omega) (by omega) (by omega) (by omega) fun h2 r q1 q2 q3 q4=>?_
        dsimp only
        refine hj2 _ _ _ r (by omega) e1 rfl e4 q2 (q3.mono (by omega)) ?_ ?_
        · rw [q4 _ (.inl (by omega)) (by omega) (by omega)]; exact g0
        · rw [aGd,hb,if_pos rfl]; exact q1.keep (by omega) fun _ _ _ _ hg=>hg
      | false =>
        refine fR rfl ?_
        refine hj2 _ _ _ lv (by omega) e1 e3 e4 hs (hf'.mono (by omega)) g0 ?_
        rw [aGd,hb,if_neg (by simp),List.append_nil]; exact ho.keep (by omega) fun _ _ _ _ hg=>hg
    · refine fR (by simp; omega) ?_
      refine hx _ _ _ _ (fun e=>by cases e) (fG (dR ?_))
      have hi2:i=256:=by omega
      subst hi2
      unfold sO
      have f3:∀ a b,Env.put (Env.put e 5 a) 6 b 3=lv:=fun a b=>e3
      simp only [puts,f3]
      refine ⟨h',Sub.refl _,hK _ _ _ (by omega) hs (hf'.mono (by omega)) ?_⟩
      rcases ho with ho | ⟨id,h1,h2,h3⟩
      · exact .inl ho
      · exact .inr ⟨id,by omega,by omega,h3⟩
  · exact (Sub.refl h).new hf (Nat.le_refl _)
  · exact hf.upd (m:=nx+4) (by omega) (by omega)
  · simp (disch:=first | omega | exact Int.natCast_nonneg _ | assumption) only [BB,B2,↓reduceIte,Nat.reduceLeDiff,Nat.reduceAdd,aR,aS,aW,aV,aU,aT,fW]
set_option maxRecDepth 20000
def lb (c:List Nat) (k i:Nat):Nat:=((List.range' i (256 - i)).find? fun b=>decide (c.getD b 0=k)).getD 0
def i8 (c:List Nat) (n:Int):List Nat:=if n < 1∨256 < n then [] else (List.range n.toNat).map fun k=>lb c k 0
theorem aJz {c:List Nat} {k:Int}:aLR (aMf c k)=mem c k 256:=by
  unfold aLR lst mem
  apply List.filter_congr
  intro b hb
  have hb:=List.mem_range.1 hb
  unfold aMf
  rw [aCB]
  simp [mem,hb]
theorem aL4 {c:List Nat} {k:Nat}:(mem c (k:Int) 256).head?.getD 0=lb c k 0:=by
  unfold mem lb
  rw [List.head?_filter]
  have:(fun b=>decide (((c.getD b 0:Nat):Int)=(k:Int)))=fun b=>decide (c.getD b 0=k):=by
    funext b
    by_cases h:c.getD b 0=k
    · rw [decide_eq_true h,decide_eq_true (by rw [h])]
    · rw [decide_eq_false h,decide_eq_false (by omega)]
  rw [this,← List.range_eq_range']
set_option maxRecDepth 4000 in
theorem zB {ro:Ro} {c:List Nat} {n:Int} (hc:c.length=256) (hcl:∀ x∈c,x < 256) {h:T Obj} {nx:Nat} {K:KV} (hf:Fr h nx) (hK:∀ r h' nx',nx≤nx'→Sub h h'→Fr h' nx'→Own h' r 1 bR (eB (i8 c n)) nx nx'→K r h' nx'):aN Tryz.prog ro lS [j5 c n] h nx K:=by
  apply aDA
  unfold wU
  refine aD ?_
  have hg:=uX (n:=n) hc
  have g0:(h.upd nx (some (.cells (Value.cells (j5 c n)) cG))).get nx=some (.cells (eN c n).toArray cG):=by rw [T.get_upd_same]; rfl
  have hs0:Sub h (h.upd nx (some (.cells (Value.cells (j5 c n)) cG))):=(Sub.refl h).new hf (Nat.le_refl _)
  have hf0:Fr (h.upd nx (some (.cells (Value.cells (j5 c n)) cG))) (nx+1):=(hf.mono (Nat.le_succ _)).upd (Nat.le_refl _) (by omega)
  generalize (h.upd nx (some (.cells (Value.cells (j5 c n)) cG)))=h0 at g0 hs0 hf0
  (repeat (first | refine aB (by simp (disch:=first | omega | exact Int.natCast_nonneg _ | assumption) only [BB,B2,↓reduceIte,Nat.reduceLeDiff,Nat.reduceAdd,aR,aS,aW,aV,aU,aT,g0,hg]<;>rfl) ?_ | refine aD ?_ | refine aE ?_ | with_reducible first | refine aG ?_ | refine aF ?_ | refine aH ?_ | refine aI ?_ | refine aK ?_ | refine aJ ?_ | refine aL ?_ | refine aC ?_))
  by_cases h1:n < 1
  · rw [decide_eq_true h1]
    (repeat (first | refine aB (by simp (disch:=first | omega | exact Int.natCast_nonneg _ | assumption) only [BB,B2,↓reduceIte,Nat.reduceLeDiff,Nat.reduceAdd,aR,aS,aW,aV,aU,aT,g0,hg]<;>rfl) ?_ | refine aD ?_ | refine aE ?_ | with_reducible first | refine aG ?_ | refine aF ?_ | refine aH ?_ | refine aI ?_ | refine aK ?_ | refine aJ ?_ | refine aL ?_ | refine aC ?_))
    exact ⟨h0,Sub.refl _,hK _ _ _ (by omega) hs0 (hf0.mono (by omega)) (by unfold i8; rw [if_pos (.inl h1)]; exact Own.nil)⟩
  rw [decide_eq_false h1]
  (repeat (first | refine aB (by simp (disch:=first | omega | exact Int.natCast_nonneg _ | assumption) only [BB,B2,↓reduceIte,Nat.reduceLeDiff,Nat.reduceAdd,aR,aS,aW,aV,aU,aT,g0,hg]<;>rfl) ?_ | refine aD ?_ | refine aE ?_ | with_reducible first | refine aG ?_ | refine aF ?_ | refine aH ?_ | refine aI ?_ | refine aK ?_ | refine aJ ?_ | refine aL ?_ | refine aC ?_))
  by_cases h2:256 < n
  · rw [decide_eq_true h2]
    (repeat (first | refine aB (by simp (disch:=first | omega | exact Int.natCast_nonneg _ | assumption) only [BB,B2,↓reduceIte,Nat.reduceLeDiff,Nat.reduceAdd,aR,aS,aW,aV,aU,aT,g0,hg]<;>rfl) ?_ | refine aD ?_ | refine aE ?_ | with_reducible first | refine aG ?_ | refine aF ?_ | refine aH ?_ | refine aI ?_ | refine aK ?_ | refine aJ ?_ | refine aL ?_ | refine aC ?_))
    exact ⟨h0,Sub.refl _,hK _ _ _ (by omega) hs0 (hf0.mono (by omega)) (by unfold i8; rw [if_pos (.inr h2)]; exact Own.nil)⟩
  rw [decide_eq_false h2]
  obtain ⟨k0,rfl⟩:∃ k0:Nat,n=(k0:Int):=⟨n.toNat,by omega⟩
  (repeat (first | refine aB (by simp (disch:=first | omega | exact Int.natCast_nonneg _ | assumption) only [BB,B2,↓reduceIte,Nat.reduceLeDiff,Nat.reduceAdd,aR,aS,aW,aV,aU,aT,g0,hg]<;>rfl) ?_ | refine aD ?_ | refine aE ?_ | with_reducible first | refine aG ?_ | refine aF ?_ | refine aH ?_ | refine aI ?_ | refine aK ?_ | refine aJ ?_ | refine aL ?_ | refine aC ?_))
  refine bI (fun j e h' nx'=>∃ (i:Nat) (lv:Value),i+j=k0∧nx+1≤nx'∧e 1=ptr nx∧e 3=lv∧e 4=.int .i64 (i:Int)∧Sub h h'∧Fr h' nx' ∧
    h'.get nx=some (.cells (eN c k0).toArray cG)∧Own h' lv 1 bR (eB ((List.range i).map fun k=>lb c k 0)) (nx+1) nx') ?_ (n:=k0) ⟨0,_,by omega,by omega,rfl,rfl,rfl,hs0,hf0.mono (by omega),g0,Own.nil⟩
  rintro j e h' nx' ⟨i,lv,hij,hnx,e1,e3,e4,hs,hf',g0,ho⟩ Q' hq hx
  unfold wV
  rw [e1,e3,e4]
  (repeat (first | refine aB (by simp (disch:=first | omega | exact Int.natCast_nonneg _ | assumption) only [BB,B2,↓reduceIte,Nat.reduceLeDiff,Nat.reduceAdd,aR,aS,aW,aV,aU,aT,g0,hg]<;>rfl) ?_ | refine aD ?_ | refine aE ?_ | with_reducible first | refine aG ?_ | refine aF ?_ | refine aH ?_ | refine aI ?_ | refine aK ?_ | refine aJ ?_ | refine aL ?_ | refine aC ?_))
  by_cases hi:i < k0
  · refine fS (by simp; omega) ?_
    refine aB (cR g0 (dB hc)) ?_
    refine aHI (n:=(k0:Int)) hc hcl (hf'.mono (by omega)) fun n1 hn1=>?_
    refine aF2 (hf'.mono (by omega)) fun r h2 n2 hn2 hs2 hf2 hr=>?_
    rw [aJz] at hr
    have hlen:=(hr.sl (ro:=ro)).len
    rw [gR] at hlen
    refine aB hlen ?_
    (repeat (first | refine aB (by simp (disch:=first | omega | exact Int.natCast_nonneg _ | assumption) only [BB,B2,↓reduceIte,Nat.reduceLeDiff,Nat.reduceAdd,aR,aS,aW,aV,aU,aT]<;>rfl) ?_ | refine aD ?_ | refine aE ?_ | with_reducible first | refine aG ?_ | refine aF ?_ | refine aH ?_ | refine aI ?_ | refine aK ?_ | refine aJ ?_ | refine aL ?_ | refine aC ?_))
    have hrange:(List.range (i+1)).map (fun k=>lb c k 0)=(List.range i).map (fun k=>lb c k 0)++[lb c i 0]:=by rw [List.range_succ,List.map_append]; rfl
    have hol:((List.range i).map fun k=>lb c k 0).length≤1000000:=by rw [List.length_map,List.length_range]; omega
    have ho2:Own h2 lv 1 bR (eB ((List.range i).map fun k=>lb c k 0)) (nx+1) nx':=ho.keep (Nat.le_refl _) fun id _ _ o hg=>hs2 _ _ hg
    have hj2:∀ (e:Env) (h3:T Obj) (n3:Nat) (lv:Value),nx'≤n3→e 1=ptr nx→e 3=lv→e 4=.int .i64 (i:Int)→Sub h h3→Fr h3 n3→h3.get nx=some (.cells (eN c k0).toArray cG) →
        Own h3 lv 1 bR (eB ((List.range (i+1)).map fun k=>lb c k 0)) (nx+1) n3→nO ro Q' e h3 n3:=by
      intro e h3 n3 lv hn3 e1 e3 e4 hs3 hf3 g0 ho3
      unfold nO
      rw [e4]
      (repeat (first | refine aB (by simp (disch:=first | omega | exact Int.natCast_nonneg _ | assumption) only [BB,B2,↓reduceIte,Nat.reduceLeDiff,Nat.reduceAdd,aR,aS,aW,aV,aU,aT]<;>rfl) ?_ | refine aD ?_ | refine aE ?_ | with_reducible first | refine aG ?_ | refine aF ?_ | refine aH ?_ | refine aI ?_ | refine aK ?_ | refine aJ ?_ | refine aL ?_ | refine aC ?_))
      exact hq (j - 1) _ _ _ _ (by omega) ⟨i+1,lv,by omega,by omega,e1,e3,rfl,hs3,hf3.mono (by omega),g0,ho3.keep (by omega) fun _ _ _ _ hg=>hg⟩ (Sub.refl _)
    have hhd:=aL4 (c:=c) (k:=i)
    by_cases hm:(mem c (i:Int) 256)=[]
    · refine fS (by rw [hm]; rfl) ?_
      have hl0:lb c i 0=0:=by rw [← hhd,hm]; rfl
      refine rK (b:=0) (h0:=h) (nx0:=nx) (nx:=n2) (lo:=nx+1) (hi:=nx') ho2 hol hf2 (hs.trans hs2) hf (by omega) (by omega) (by omega) (by omega) (by omega) (by omega) fun h3 r3 q1 q2 q3 q4=>?_
      dsimp only
      refine hj2 _ _ _ r3 (by omega) e1 rfl e4 q2 (q3.mono (by omega)) ?_ ?_
      · rw [q4 _ (.inl (by omega)) (by omega) (by omega)]; exact hs2 _ _ g0
      · rw [hrange,hl0]; exact q1.keep (by omega) fun _ _ _ _ hg=>hg
    · have hpos:0 < (mem c (i:Int) 256).length:=List.length_pos_iff.2 hm
      refine fR (by simp; exact hm) ?_
      have hix:=(hr.sl (ro:=ro)).ix .i64 (i:=0) (by rw [gR]; exact hpos)
      refine aB hix ?_
      refine aB ((hr.sl (ro:=ro)).load1 (tX hpos)) ?_
      have hl0:(mem c (i:Int) 256)[0]=lb c i 0:=by rw [← hhd,List.head?_eq_getElem?,List.getElem?_eq_getElem hpos]; rfl
      rw [hl0]
      refine rK (h0:=h) (nx0:=nx) (nx:=n2) (lo:=nx+1) (hi:=nx') ho2 hol hf2 (hs.trans hs2) hf (by omega) (by omega) (by omega) (by omega) (by omega) (by omega) fun h3 r3 q1 q2 q3 q4=>?_
      dsimp only
      refine hj2 _ _ _ r3 (by omega) e1 rfl e4 q2 (q3.mono (by omega)) ?_ ?_
      · rw [q4 _ (.inl (by omega)) (by omega) (by omega)]; exact hs2 _ _ g0
      · rw [hrange]; exact q1.keep (by omega) fun _ _ _ _ hg=>hg
  · refine fR (by simp; omega) ?_
    refine hx _ _ _ _ (fun e=>by cases e) (fG (dR ?_))
    have hi2:i=k0:=by omega
    subst hi2
    unfold qW
    have f3:∀ a b c d,Env.put (Env.put (Env.put (Env.put e 14 a) 15 b) 16 c) 17 d 3=lv:=fun a b c d=>e3
    simp only [puts,f3]
    have hfz:i8 c (i:Int)=(List.range i).map fun k=>lb c k 0:=by unfold i8; rw [if_neg (by omega)]; simp
    refine ⟨h',Sub.refl _,hK _ _ _ (by omega) hs (hf'.mono (by omega)) ?_⟩
    rw [hfz]
    rcases ho with ho | ⟨id,q1,q2,q3⟩
    · exact .inl ho
    · exact .inr ⟨id,by omega,by omega,q3⟩
end V
end Go.Proofs.YtjndkdmkecpllaaGreat
set_option linter.unusedVariables false
set_option linter.unusedSimpArgs false
namespace Go.Proofs.YtjndkdmkecpllaaGreat
namespace V
attribute [local irreducible] aA ifP aZ d4 eG exP d8
theorem okZ:fL Tryz.prog=true:=by kernel_rfl
theorem okN:lB Tryz.prog=true:=by kernel_rfl
theorem okM:Tryz.prog.follows .mixedOrders=true:=by kernel_rfl
def aJg:Nat→List Value→Option (List Nat × Int)
  | 0,[.int .i64 n]=>some ([],n)
  | k+1,.int .u8 x::r=>match decide (0≤x),decide (x < 256) with
    | true,true=>(aJg k r).bind fun p=>some (x.toNat::p.1,p.2)
    | _,_=>none
  | _,_=>none
theorem aJh (k:Nat) (x:Int) (r:List Value):aJg (k+1) (.int .u8 x::r)=match decide (0≤x),decide (x < 256) with
    | true,true=>(aJg k r).bind fun p=>some (x.toNat::p.1,p.2)
    | _,_=>none:=rfl
theorem aMj:∀ {k:Nat} {l:List Value} {c:List Nat} {n:Int},aJg k l=some (c,n)→l=eN c n∧c.length=k∧∀ x∈c,x < 256:=by
  intro k
  induction k with
  | zero =>
    intro l c n h
    unfold aJg at h
    split at h<;>first
      | (cases h; exact ⟨rfl,rfl,by simp⟩)
      | (cases h; done)
      | contradiction
  | succ k ih =>
    intro l c n h
    cases l with
    | nil=>cases h
    | cons v r =>
      have hv:∃ x,v=.int .u8 x:=by
        cases v with
        | int kd x =>
          cases kd with
          | u8=>exact ⟨x,rfl⟩
          | _=>cases (show (none:Option (List Nat × Int))=some (c,n) from h)
        | _=>cases (show (none:Option (List Nat × Int))=some (c,n) from h)
      obtain ⟨x,rfl⟩:=hv
      rw [aJh] at h
      split at h
      · rename_i h1 h2
        obtain ⟨p,h3,h4⟩:=aM h
        obtain ⟨p1,p2⟩:=p
        simp only [Option.some.injEq,Prod.mk.injEq] at h4
        obtain ⟨rfl,rfl⟩:=h4
        obtain ⟨h5,h6,h7⟩:=ih h3
        simp only [decide_eq_true_eq] at h1 h2
        refine ⟨?_,by simp [h6],fun y hy=>?_⟩
        · rw [h5]
          simp only [eN,u8s,List.map_cons,List.cons_append]
          rw [Int.toNat_of_nonneg h1]
        · rcases List.mem_cons.1 hy with rfl | hy
          · omega
          · exact h7 y hy
      · cases h
def aPK:aJX:=fun f args=>match Nat.beq f lS,args with
  | true,[.agg cs]=>match aJg 256 cs.toList with
    | some (c,n)=>match i8 c n with
      | []=>none
      | x::r=>some (1,(x::r).length,(x::r).length,bR,(x::r).map fun b:Nat=>Value.int .u8 (b:Int))
    | none=>none
  | _,_=>none
theorem yY:∀ l:List Nat,(eB l).flatten=l.map fun b:Nat=>Value.int .u8 (b:Int)
  | []=>rfl
  | x::r=>by
    have:=yY r
    simp only [eB,List.map_cons,List.flatten_cons] at this ⊢
    rw [this]; rfl
theorem aNT:∀ f args z l c e cs,aPK f args=some (z,l,c,e,cs)→aFn Tryz.prog f args z l c cs:=by
  intro f args z l c e cs h
  unfold aPK at h
  split at h
  · rename_i cells hf
    split at h
    · rename_i c' n hd
      obtain ⟨h1,h2,h3⟩:=aMj hd
      split at h
      · cases h
      · rename_i x r hx
        have hne:i8 c' n≠[]:=by rw [hx]; simp
        rw [← hx] at h
        simp only [Option.some.injEq,Prod.mk.injEq] at h
        obtain ⟨rfl,rfl,rfl,rfl,rfl⟩:=h
        have hfe:f=lS:=Nat.eq_of_beq_eq_true hf
        subst hfe
        have hc:(Value.agg cells)=j5 c' n:=by
          unfold j5
          rw [← h1]
        rw [hc]
        have hlen:0 < (i8 c' n).length:=List.length_pos_iff.2 hne
        refine aNU okZ okN okM ?_ ?_ (by kernel_rfl) (Nat.le_refl _) (by simp) hlen fun ro=>?_
        · simp [rigid,j5,eN,u8s,V.flat]
        · simp [V.flat]
        · refine zB h2 h3 Fr.e fun r h' nx' hn hs hf' ho=>?_
          rcases ho with ⟨_,he⟩ | ⟨id,_,_,rfl,_,hg⟩
          · exact absurd (List.map_eq_nil_iff.1 he) hne
          · refine ⟨id,bR,?_,?_⟩
            · rw [gR]; rfl
            · rw [hg,yY]
    · cases h
  · cases h
end V
end Go.Proofs.YtjndkdmkecpllaaGreat
set_option linter.unusedVariables false
set_option linter.unusedSimpArgs false
set_option maxRecDepth 8000
namespace Go.Proofs.YtjndkdmkecpllaaGreat
namespace V
open Go.ChangeShapes Go.WideShapes Go.ChangeAt Go.RowKit
set_option maxRecDepth 8000
theorem aPG:ownKnob Tryz.prog.godebug=none:=by kernel_rfl
theorem aOW:laidOutB Tryz.prog=true:=by kernel_rfl
section
variable {H:Type} {enc:TypeId × Value→H} {W:World}
theorem aOj {n:Int} (h:(Lit.int .u16 n).wf=true):0≤n∧n≤65535:=by
  simp only [Lit.wf,Bool.and_eq_true,decide_eq_true_eq] at h
  have h1:IntKind.u16.min=0:=rfl
  have h2:IntKind.u16.max=65535:=rfl
  rw [h1,h2] at h; exact h
theorem aCr {v:Value} {d:DataW H} {p:List MemPlace} (h:DataW.Trod enc Tryz.prog W 0 (fun _=>true) true nT v d p) {base:Nat} (hval:Value.okWide Tryz.prog W .any base nT v):∃ b:Nat,b < 65536∧Arg W.heap.size (.int .u16 (b:Int)) v:=by
  have hu:Tryz.prog.underlying nT=some (.int .u16):=by kernel_rfl
  obtain ⟨x,rfl,_,_,hw⟩:=open_int hu hval h
  have:=aOj hw
  refine ⟨x.toNat,by omega,.one ?_⟩
  rw [Int.toNat_of_nonneg this.1]; rfl
end
end V
end Go.Proofs.YtjndkdmkecpllaaGreat
set_option linter.unusedVariables false
set_option linter.unusedSimpArgs false
namespace Go.Proofs.YtjndkdmkecpllaaGreat
namespace V
attribute [local irreducible] aA ifP aZ d4 eG exP d8
theorem aOU (a b:Value):nth 0 (.tuple #[a,b])=some a:=rfl
theorem aOV (a b:Value):nth 1 (.tuple #[a,b])=some b:=rfl
theorem xZ {t:TypeId} {s b:Nat} (h:(tin Tryz.prog t).map (fun i=>(i.size,i.bytes))=some (s,b)):∃ i,tin Tryz.prog t=some i∧i.size=s∧i.bytes=b:=by
  cases hi:tin Tryz.prog t with
  | none=>rw [hi] at h; cases h
  | some i=>rw [hi] at h; simp at h; exact ⟨i,rfl,h.1,h.2⟩
theorem aPQ:zer Tryz.prog cF=some (.int .i64 0):=by kernel_rfl
section
variable {av bv nv fv:Value} {c:List Nat} {n:Int} {cv sv kv ev yv:Value}
theorem aFx (hc:c.length=256) (v:Value):(dQ c n cv sv).set 258 v=dQ c n cv v:=by
  unfold dQ
  rw [List.set_append_right _ _ (by rw [dB hc]; omega),dB hc]; rfl
theorem aB5 (hc:c.length=256) (v:Value):(dQ c n cv sv).set 257 v=dQ c n v sv:=by
  unfold dQ
  rw [List.set_append_right _ _ (by rw [dB hc]; omega),dB hc]; rfl
end
def dY (ids:List Nat) (h h':T Obj):Prop:=∀ k o,h.get k=some o→k ∉ ids→h'.get k=some o
theorem Sub.keepL {ids:List Nat} {h h':T Obj} (hs:Sub h h'):dY ids h h':=fun k o hk _=>hs k o hk
theorem dY.trans {ids:List Nat} {a b c:T Obj} (h1:dY ids a b) (h2:dY ids b c):dY ids a c:=fun k o hk hi=>h2 k o (h1 k o hk hi) hi
theorem dY.mono {ids ids':List Nat} {a b:T Obj} (h1:dY ids a b) (h2:∀ k,k∈ids→k∈ids'):dY ids' a b:=fun k o hk hi=>h1 k o hk fun h=>hi (h2 k h)
theorem dY.upd {ids:List Nat} {a b:T Obj} {i:Nat} {o:Option Obj} (h1:dY ids a b) (hi:i∈ids):dY ids a (b.upd i o):=fun k x hk hn=>by
  rw [T.get_upd_ne _ _ (fun e=>hn (by rw [e]; exact hi))]; exact h1 k x hk hn
theorem dY.updN {ids:List Nat} {a b:T Obj} {i n:Nat} {o:Option Obj} (h1:dY ids a b) (hf:Fr a n) (hi:n≤i):dY ids a (b.upd i o):=fun k x hk hn=>by
  have:=hf.lt' hk
  rw [T.get_upd_ne _ _ (by omega)]; exact h1 k x hk hn
def del (h:T Obj):List Nat→T Obj
  | []=>h
  | i::l=>(del h l).upd i none
theorem iG {h:T Obj}:∀ {l:List Nat} {k:Nat},(del h l).get k=if k∈l then none else h.get k
  | [],k=>by simp [del]
  | i::l,k=>by
    show ((del h l).upd i none).get k=_
    by_cases hk:k=i
    · subst hk; rw [T.get_upd_same]; simp
    · rw [T.get_upd_ne _ _ hk,iG]; simp [hk]
theorem gM (h:T Obj) (l:List Nat):Sub (del h l) h:=fun k o hk=>by
  rw [iG] at hk
  split at hk
  · cases hk
  · exact hk
theorem jI {h:T Obj} {l:List Nat} {k:Nat} {o:Obj} (hk:h.get k=some o) (hn:k ∉ l):(del h l).get k=some o:=by rw [iG,if_neg hn]; exact hk
theorem dY.del {ids l l':List Nat} {h h':T Obj} (hk:dY ids h h') (h1:∀ k,k∈ids→k∈l) (h2:∀ k,k∈l'→k∈l∨h.get k=none):Sub (del h l) (del h' l'):=fun k o hg=>by
  rw [iG] at hg
  split at hg
  · cases hg
  · rename_i hn
    refine jI (hk k o hg fun h=>hn (h1 k h)) fun hm=>?_
    rcases h2 k hm with h3 | h3
    · exact hn h3
    · rw [h3] at hg; cases hg
theorem bV.keepK {ids:List Nat} {h h':T Obj} {v:Value} {z:Nat} {e:TypeId} {l:List (List Value)} {lo:Nat} (ho:bV h v z e l lo) (hk:dY ids h h') (hne:∀ id,jC v=some id→id ∉ ids):bV h' v z e l lo:=by
  rcases ho with ho | ⟨id,h1,rfl,h4,h5⟩
  · exact .inl ho
  · exact .inr ⟨id,h1,rfl,h4,hk id _ h5 (hne id rfl)⟩
theorem bV.del {h:T Obj} {v:Value} {z:Nat} {e:TypeId} {l:List (List Value)} {lo:Nat} {ids:List Nat} (ho:bV h v z e l lo) (hne:∀ id,jC v=some id→id ∉ ids):bV (del h ids) v z e l lo:=by
  rcases ho with ho | ⟨id,h1,rfl,h4,h5⟩
  · exact .inl ho
  · exact .inr ⟨id,h1,rfl,h4,jI h5 (hne id rfl)⟩
theorem Kp.keepL {v:Value} {h h':T Obj} {ids:List Nat} (hk:Kp v h h') (hv:∀ id,jC v=some id→id∈ids):dY ids h h':=fun k o h1 h2=>hk k o h1 fun e=>h2 (hv k e)
theorem bV.blk {h:T Obj} {v:Value} {z:Nat} {e:TypeId} {l:List (List Value)} {lo id:Nat} (ho:bV h v z e l lo) (hb:jC v=some id):lo≤id∧h.get id=some (.cells l.flatten.toArray e):=by
  rcases ho with ⟨rfl,_⟩ | ⟨i,h1,rfl,h4,h5⟩
  · cases hb
  · have:i=id:=Option.some.inj hb
    subst this; exact ⟨h1,h5⟩
theorem bV.ok {h:T Obj} {v:Value} {z:Nat} {e:TypeId} {l:List (List Value)} {lo:Nat} (ho:bV h v z e l lo):bT v=true:=(ho.sl (ro:=fun _=>none)).ok
abbrev bG:Value:=.slice none 0 0
theorem aCF (aid:Nat) (b:Int):a7 Tryz.prog dD aid 1 [(0,.int .i64 b)]=some (.slice (some (own aid 1)) 1 1,some (.cells [Value.int .i64 b].toArray cF)):=by kernel_rfl
theorem aHb:und Tryz.prog dD=some (.slice cF):=by kernel_rfl
theorem aH9:∃ i,tin Tryz.prog cF=some i∧i.size=1∧i.bytes=8:=xZ (by kernel_rfl)
theorem tT {ro:Ro} {h:T Obj} {v:Value} {nx n1 n2 lo:Nat} {l:List Int} {b:Int} {K:Value × Option Obj→T Obj→Value × T Obj × Nat→Prop} (ho:bV h v 1 cF (gL l) lo) (hl:l.length≤1000000) (hf:Fr h nx) (hlo:lo≤nx) (hn1:nx≤n1) (hn2:n1 < n2)
    (hK:∀ h' w,bV h' w 1 cF (gL (l++[b])) lo→w=.slice (some (own n2 1)) (l.length+1) (l.length+1)→Kp v h h'→Fr h' (n2+1)→K (.slice (some (own n1 1)) 1 1,some (.cells [Value.int .i64 b].toArray cF)) (h.upd n1 (some (.cells [Value.int .i64 b].toArray cF))) (w,h',n2+1)) :
    aA (a7 Tryz.prog dD n1 1 [(0,.int .i64 b)]) fun r=>eG h n1 r.2 fun h'=>aA (bX Tryz.prog ro h' n2 #[dD,dD] [v,r.1]) (K r h'):=by
  obtain ⟨i,g1,g2,g3⟩:=aH9
  have e:gL l++[[Value.int .i64 b]]=gL (l++[b]):=by simp [gL]
  have el:=mO l
  refine lX (z:=1) (l:=gL l) (y:=[.int .i64 b]) (aCF _ _) rfl ho aHb g1 g2 (by omega) aPQ rfl rfl (by rw [el,g3]; unfold big; omega) (by rw [el]; unfold big; omega) hf hlo hn1 hn2 fun h' q1 q2 q3=>?_
  rw [e] at q1 ⊢
  refine hK h' _ q1 ?_ q2 q3
  rw [mO,List.length_append]; rfl
theorem lI:zer Tryz.prog aP=some (.agg #[bG,bG,bG,bG]):=by kernel_rfl
theorem aBD (aid:Nat) (a b c d:Value):a7 Tryz.prog eQ aid 1 [(0,.agg #[a,b,c,d])]=some (.slice (some (own aid 4)) 1 1,some (.cells [a,b,c,d].toArray aP)):=by kernel_rfl
theorem aD2:und Tryz.prog eQ=some (.slice aP):=by kernel_rfl
theorem aEj:∃ i,tin Tryz.prog aP=some i∧i.size=4∧i.bytes=96:=xZ (by kernel_rfl)
def oG (l:List Nat):List (List Value):=l.map fun b:Nat=>[Value.int .u8 (b:Int)]
theorem qT (l:List Nat):(oG l).length=l.length:=by simp [oG]
theorem bV.updNe {h:T Obj} {v:Value} {z:Nat} {e e':TypeId} {l:List (List Value)} {lo i:Nat} {c:Array Value} {f:Nat × Nat} {o:Option Obj} (ho:bV h v z e l lo) (hg:h.get i=some (.cells c e' f)) (he:e'≠e):bV (h.upd i o) v z e l lo:=by
  rcases ho with ho | ⟨id,h1,rfl,h4,h5⟩
  · exact .inl ho
  · refine .inr ⟨id,h1,rfl,h4,?_⟩
    rw [T.get_upd_ne _ _ (by
      rintro rfl
      rw [hg] at h5
      simp only [Option.some.injEq,Obj.cells.injEq] at h5
      exact he h5.2.1)]
    exact h5
theorem tQ:zer Tryz.prog bC=some (.agg #[.int .i64 0,bG]):=by kernel_rfl
def cY (e:TypeId) (h h':T Obj):Prop:=∀ (k:Nat) c f,h.get k=some (.cells c e f)→h'.get k=some (.cells c e f)
theorem cY.refl {e:TypeId} {h:T Obj}:cY e h h:=fun _ _ _ hg=>hg
theorem cY.trans {e:TypeId} {a b c:T Obj} (h1:cY e a b) (h2:cY e b c):cY e a c:=fun k x f hg=>h2 k x f (h1 k x f hg)
theorem Sub.ty {e:TypeId} {h h':T Obj} (hs:Sub h h'):cY e h h':=fun k c f hg=>hs _ _ hg
theorem cY.upd {e e':TypeId} {a h:T Obj} {i:Nat} {o:Option Obj} {c:Array Value} {f:Nat × Nat} (h1:cY e a h) (hg:h.get i=some (.cells c e' f)) (he:e'≠e):cY e a (h.upd i o):=fun k x q hk=>by
  have:=h1 k x q hk
  rw [T.get_upd_ne _ _ (by
    rintro rfl
    rw [hg] at this
    simp only [Option.some.injEq,Obj.cells.injEq] at this
    exact he this.2.1)]
  exact this
theorem bV.ty {h h':T Obj} {v:Value} {z:Nat} {e:TypeId} {l:List (List Value)} {lo:Nat} (ho:bV h v z e l lo) (hk:cY e h h'):bV h' v z e l lo:=by
  rcases ho with ho | ⟨id,h1,rfl,h4,h5⟩
  · exact .inl ho
  · exact .inr ⟨id,h1,rfl,h4,hk _ _ _ h5⟩
theorem bV.neB {h:T Obj} {v:Value} {z:Nat} {e:TypeId} {l:List (List Value)} {lo k:Nat} {o:Obj} (ho:bV h v z e l lo) (hk:h.get k=some o) (he:∀ c f,o≠.cells c e f):jC v≠some k:=fun hb=>by
  obtain ⟨_,h5⟩:=ho.blk hb
  rw [hk] at h5
  exact he _ _ (Option.some.inj h5)
theorem Kp.ty {h h':T Obj} {v:Value} {z:Nat} {e e':TypeId} {l:List (List Value)} {lo:Nat} (hk:Kp v h h') (ho:bV h v z e' l lo) (he:e'≠e):cY e h h':=fun k c f hg=>hk k _ hg (ho.neB hg (by
  intro c f h
  simp only [Obj.cells.injEq] at h
  exact he h.2.1.symm))
theorem aLT (aid:Nat) (a b:Value):a7 Tryz.prog bE aid 1 [(0,.agg #[a,b])]=some (.slice (some (own aid 2)) 1 1,some (.cells [a,b].toArray bC)):=by kernel_rfl
theorem aEk:und Tryz.prog bE=some (.slice bC):=by kernel_rfl
theorem aH8:∃ i,tin Tryz.prog bC=some i∧i.size=2∧i.bytes=32:=xZ (by kernel_rfl)
theorem aFr {ro:Ro} {h:T Obj} {v a b:Value} {nx n1 n2 lo:Nat} {l:List (List Value)} {K:Value × Option Obj→T Obj→Value × T Obj × Nat→Prop} (ha:bT a=true) (hb:bT b=true) (ho:bV h v 2 bC l lo) (hl:l.length≤1000000) (hf:Fr h nx) (hlo:lo≤nx) (hn1:nx≤n1) (hn2:n1 < n2)
    (hK:∀ h' w,bV h' w 2 bC (l++[[a,b]]) lo→w=.slice (some (own n2 2)) (l++[[a,b]]).length (l++[[a,b]]).length→Kp v h h'→Fr h' (n2+1)→K (.slice (some (own n1 2)) 1 1,some (.cells [a,b].toArray bC)) (h.upd n1 (some (.cells [a,b].toArray bC))) (w,h',n2+1)) :
    aA (a7 Tryz.prog bE n1 1 [(0,.agg #[a,b])]) fun r=>eG h n1 r.2 fun h'=>aA (bX Tryz.prog ro h' n2 #[bE,bE] [v,r.1]) (K r h'):=by
  obtain ⟨i,g1,g2,g3⟩:=aH8
  exact lX (z:=2) (l:=l) (y:=[a,b]) (aLT _ _ _) rfl ho aEk g1 g2 (by omega) tQ rfl (by simp [ha,hb]) (by rw [g3]; unfold big; omega) (by unfold big; omega) hf hlo hn1 hn2 fun h' q1 q2 q3=>hK h' _ q1 rfl q2 q3
theorem wA {h:T Obj} {l l':List Nat} (hl:∀ k,k∈l→k∈l'):Sub (del h l') (del h l):=fun k o hk=>by
  rw [iG] at hk
  split at hk
  · cases hk
  · rename_i hn
    exact jI hk fun h=>hn (hl k h)
theorem dY.delS {ids l:List Nat} {h h':T Obj} (hk:dY ids h h') (hl:∀ k,k∈ids→k∈l):Sub (V.del h l) h':=fun k o hg=>by
  rw [iG] at hg
  split at hg
  · cases hg
  · rename_i hn; exact hk k o hg fun h=>hn (hl k h)
def j8:List Value:=dQ (List.replicate 256 0) 0 bG bG
theorem x0:zer Tryz.prog a9=some (.agg j8.toArray):=by kernel_rfl
theorem aB6:dF Tryz.prog a9 []=some (.agg j8.toArray):=by kernel_rfl
theorem kD:j8.length=259:=cJ List.length_replicate
theorem aIn:j8.all bT=true:=x9 rfl rfl
theorem Sub.delN {h h':T Obj} {ids:List Nat} {n:Nat} (hs:Sub h h') (hf:Fr h n) (hi:∀ i∈ids,n≤i):Sub h (V.del h' ids):=fun k o hk=>jI (hs k o hk) fun hm=>by
  have:=hf.lt' hk
  have:=hi k hm
  omega
theorem aEv:dF Tryz.prog aP []=some (.agg #[bG,bG,bG,bG]):=by kernel_rfl
def t7 (l:List (Int × Int)):List (List Value):=l.map fun p=>[.int .i64 p.1,.int .i64 p.2]
theorem s9 (l:List (Int × Int)):(t7 l).length=l.length:=by simp [t7]
theorem aNv {ro:Ro} {h:T Obj} {v:Value} {l:List (Int × Int)} {lo:Nat} (ho:bV h v 2 d3 (t7 l) lo):SlR ro h v 2 zH l:=⟨t7 l,ho.sl,s9 l,fun i x d hx hd=>by
  unfold t7 at hx
  rw [List.getElem?_map,hd] at hx
  exact (Option.some.inj hx).symm⟩
end V
end Go.Proofs.YtjndkdmkecpllaaGreat
set_option linter.unusedVariables false
set_option linter.unusedSimpArgs false
namespace Go.Proofs.YtjndkdmkecpllaaGreat
namespace V
attribute [local irreducible] bJ aN aA
abbrev lM:FuncId:=19
abbrev iL:FuncId:=21
abbrev lL:FuncId:=22
abbrev kL:FuncId:=27
abbrev iS:FuncId:=30
abbrev iT:FuncId:=52
abbrev j7:FuncId:=54
abbrev jJ:FuncId:=56
abbrev oD:FuncId:=64
abbrev oE:FuncId:=66
abbrev kM:FuncId:=101
abbrev lV:FuncId:=103
abbrev lU:FuncId:=104
abbrev fD:FuncId:=109
abbrev pD:FuncId:=131
abbrev pC:FuncId:=132
@[irreducible] def rN (ro:Ro) (K:KV):Env→T Obj→Nat→Prop:=fun e h nx=>∃ h14,Sub h14 h∧K (.tuple #[(e 4),(Value.int IntKind.i64 0)]) h14 (nx+3)
@[irreducible] def aBe (ro:Ro):PT:=fun e h nx Q=>aA (aX .lss (e 19) (e 18)) fun t20_18=>aZ t20_18 (aA (dI 2 (e 17) (e 19)) fun t21_19=>aA (loadA ro h 2 t21_19) fun t22_20=>aA (zer Tryz.prog d3) fun z21=>d4 h (nx+3) (.cells z21.cells d3) fun h22=>aA (bY 2 h22 (ptr (nx+3)) t22_20) fun h23=>aA (ixArr 2 1 (ptr (nx+3)) (Value.int IntKind.i64 1)) fun t24_24=>aA (load1 ro h23 t24_24) fun t25_25=>aN Tryz.prog ro zV [t25_25] h23 (nx+8) fun t26_26 h27 n28=>aA (nth 0 t26_26) fun t27_29=>aA (nth 1 t26_26) fun t28_30=>aA (aX .neq t28_30 (Value.int IntKind.i64 0)) fun t30_31=>aZ t30_31 (Q .ret (puts e [(20,t20_18),(21,t21_19),(22,t22_20),(6,(ptr (nx+3))),(24,t24_24),(25,t25_25),(26,t26_26),(23,t26_26),(27,t27_29),(28,t28_30),(7,t27_29),(8,t28_30),(29,t28_30),(30,t30_31),(31,t28_30),(2,(Value.pointer none)),(3,t28_30)]) h27 (n28+10)) (aA (bW (e 4)) fun t34_32=>aA (aY 260 t34_32) fun t35_33=>aA (load1 ro h27 t35_33) fun t36_34=>aA (a7 Tryz.prog jO (n28+13) 1 [(0,t27_29)]) fun r35=>eG h27 (n28+13) r35.2 fun h36=>aA (bX Tryz.prog ro h36 (n28+15) #[jO,jO] [t36_34,r35.1]) fun r37=>aA (bW (e 4)) fun t40_38=>aA (aY 260 t40_38) fun t41_39=>aA (bY 1 r37.2.1 t41_39 r37.1) fun h40=>aA (aX .add (e 19) (Value.int IntKind.i64 1)) fun t42_41=>Q .normal (puts e [(20,t20_18),(21,t21_19),(22,t22_20),(6,(ptr (nx+3))),(24,t24_24),(25,t25_25),(26,t26_26),(23,t26_26),(27,t27_29),(28,t28_30),(7,t27_29),(8,t28_30),(29,t28_30),(30,t30_31),(32,(e 4)),(33,(e 4)),(34,t34_32),(35,t35_33),(36,t36_34),(37,t27_29),(38,r35.1),(39,r37.1),(40,t40_38),(41,t41_39),(42,t42_41),(19,t42_41)]) h40 (r37.2.2+5))) (Q (.exit 0) (puts e [(20,t20_18)]) h (nx+1))
@[irreducible] def aC6 (ro:Ro) (v0:Value) (h:T Obj) (nx:Nat) (K:KV):Prop:=d4 h nx (.cells (Value.cells v0) a9) fun h1=>aA (loadA ro h1 259 (ptr nx)) fun t9_2=>aN Tryz.prog ro uE [t9_2] h1 (nx+5) fun t10_3 h4 n5=>aA (unV .not t10_3) fun t11_6=>aZ t11_6 (∃ h7,Sub h7 h4∧K (.tuple #[(Value.pointer none),(Value.int IntKind.i64 1)]) h7 (n5+3)) (aA (loadA ro h4 259 (ptr nx)) fun t12_8=>aN Tryz.prog ro sF [t12_8] h4 (n5+3) fun t13_9 h10 n11=>aA (dF Tryz.prog cL [(0,t13_9)]) fun t14_12=>d4 h10 (n11+1) (.cells (Value.cells t14_12) cL) fun h13=>aA (aY 257 (ptr nx)) fun t16_15=>aA (load1 ro h13 t16_15) fun t17_16=>aA (cU t17_16) fun t18_17=>d5 (aBe ro) (puts (i3 [v0]) [(1,(ptr nx)),(2,(Value.pointer none)),(3,(Value.int IntKind.i64 0)),(9,t9_2),(10,t10_3),(11,t11_6),(12,t12_8),(13,t13_9),(14,t14_12),(15,(ptr (n11+1))),(4,(ptr (n11+1))),(16,t16_15),(17,t17_16),(18,t18_17),(19,(Value.int IntKind.i64 0))]) h13 (n11+7) fun x45 e42 h43 n44=>exP x45 (rN ro K e42 h43 n44) (fun i46=>d8 (Nat.beq i46 0) (rN ro K e42 h43 n44) (False)) (∃ h47,Sub h47 h43∧K (.tuple #[(e42 2),(e42 3)]) h47 n44))
theorem aGV (ro:Ro) (v0:Value) (h:T Obj) (nx:Nat) (K:KV):bJ Tryz.prog ro (aN Tryz.prog ro) Tryz.f15 [v0] h nx K=aC6 ro v0 h nx K:=by kernel_rfl
theorem aGW {ro:Ro} {v0:Value} {h:T Obj} {nx:Nat} {K:KV} (hw:aC6 ro v0 h nx K):aN Tryz.prog ro uF [v0] h nx K:=bF (P:=Tryz.prog) (fn:=Tryz.f15) (by kernel_rfl) (by kernel_rfl) (by kernel_rfl) (Eq.mpr (aGV ro v0 h nx K) hw)
@[irreducible] def iI (ro:Ro) (K:KV):Env→T Obj→Nat→Prop:=fun e h nx=>aA (aY 0 (e 6)) fun t113_53=>aA (load1 ro h t113_53) fun t114_54=>aA (aX .neq t114_54 (Value.int IntKind.i64 (-1))) fun t115_55=>∃ h56,Sub h56 h∧K t115_55 h56 (nx+4)
@[irreducible] def oW (ro:Ro):PT:=fun e h nx Q=>aA (aX .lss (e 94) (e 93)) fun t95_58=>aZ t95_58 (aA (dI 1 (e 92) (e 94)) fun t97_59=>aA (load1 ro h t97_59) fun t98_60=>aA (bW (e 0)) fun t100_61=>aA (aY 260 t100_61) fun t101_62=>aA (load1 ro h t101_62) fun t102_63=>aA (dI 1 t102_63 t98_60) fun t104_64=>aA (load1 ro h t104_64) fun t105_65=>aA (aY 1 (e 6)) fun t106_66=>aA (load1 ro h t106_66) fun t107_67=>aA (dI 1 t107_67 (e 94)) fun t109_68=>aA (load1 ro h t109_68) fun t110_69=>aN Tryz.prog ro sE [t105_65,t110_69] h (nx+19) fun t111_70 h71 n72=>aA (aX .add (e 94) (Value.int IntKind.i64 1)) fun t112_73=>Q .normal (puts e [(95,t95_58),(96,(e 94)),(97,t97_59),(98,t98_60),(10,(e 94)),(11,t98_60),(99,(e 0)),(100,t100_61),(101,t101_62),(102,t102_63),(103,t98_60),(104,t104_64),(105,t105_65),(106,t106_66),(107,t107_67),(108,(e 94)),(109,t109_68),(110,t110_69),(111,t111_70),(112,t112_73),(94,t112_73)]) h71 (n72+2)) (Q (.exit 2) (puts e [(95,t95_58)]) h (nx+1))
@[irreducible] def gF (ro:Ro) (K:KV):Env→T Obj→Nat→Prop:=fun e h nx=>aA (cU (e 7)) fun t93_57=>d5 (oW ro) (puts e [(92,(e 7)),(93,t93_57),(94,(Value.int IntKind.i64 0))]) h (nx+3) fun x77 e74 h75 n76=>exP x77 (iI ro K e74 h75 n76) (fun i78=>d8 (Nat.beq i78 2) (iI ro K e74 h75 n76) (False)) (∃ h79,Sub h79 h75∧K (e74 4) h79 n76)
@[irreducible] def iJ (ro:Ro) (Q:KE):Env→T Obj→Nat→Prop:=fun e h nx=>aA (aX .add (e 75) (Value.int IntKind.i64 1)) fun t91_84=>Q .normal (puts e [(91,t91_84),(75,t91_84)]) h (nx+2)
@[irreducible] def oX (ro:Ro):PT:=fun e h nx Q=>aA (aX .lss (e 75) (e 74)) fun t76_83=>aZ t76_83 (aA (dI 1 (e 73) (e 75)) fun t77_85=>aA (load1 ro h t77_85) fun t78_86=>aN Tryz.prog ro fQ [(e 7),t78_86] h (nx+7) fun t81_87 h88 n89=>aA (unV .not t81_87) fun t82_90=>aZ t82_90 (aA (bW (e 0)) fun t84_91=>aA (aY 260 t84_91) fun t85_92=>aA (load1 ro h88 t85_92) fun t86_93=>aA (dI 1 t86_93 t78_86) fun t88_94=>aA (load1 ro h88 t88_94) fun t89_95=>aN Tryz.prog ro j7 [t89_95] h88 (n89+9) fun t90_96 h97 n98=>iJ ro Q (puts e [(76,t76_83),(77,t77_85),(78,t78_86),(9,t78_86),(79,(e 7)),(80,t78_86),(81,t81_87),(82,t82_90),(83,(e 0)),(84,t84_91),(85,t85_92),(86,t86_93),(87,t78_86),(88,t88_94),(89,t89_95),(90,t90_96)]) h97 n98) (iJ ro Q (puts e [(76,t76_83),(77,t77_85),(78,t78_86),(9,t78_86),(79,(e 7)),(80,t78_86),(81,t81_87),(82,t82_90)]) h88 (n89+1))) (Q (.exit 0) (puts e [(76,t76_83)]) h (nx+1))
@[irreducible] def gE (ro:Ro) (K:KV):Env→T Obj→Nat→Prop:=fun e h nx=>aA (aY 1 (e 5)) fun t72_80=>aA (load1 ro h t72_80) fun t73_81=>aA (cU t73_81) fun t74_82=>d5 (oX ro) (puts e [(72,t72_80),(73,t73_81),(74,t74_82),(75,(Value.int IntKind.i64 0))]) h (nx+4) fun x102 e99 h100 n101=>exP x102 (gF ro K e99 h100 n101) (fun i103=>d8 (Nat.beq i103 0) (gF ro K e99 h100 n101) (False)) (∃ h104,Sub h104 h100∧K (e99 4) h104 n101)
@[irreducible] def nE (ro:Ro) (v0 v1:Value) (h:T Obj) (nx:Nat) (K:KV):Prop:=aN Tryz.prog ro iL [v0] h (nx+3) fun t13_1 h2 n3=>aA (aX .eql t13_1 (Value.int IntKind.i64 (-1))) fun t14_4=>aZ t14_4 (∃ h5,Sub h5 h2∧K (Value.bool false) h5 (n3+2)) (aA (bW v0) fun t16_6=>aA (aY 0 t16_6) fun t17_7=>aA (aY 258 t17_7) fun t18_8=>aA (load1 ro h2 t18_8) fun t19_9=>aA (bW v0) fun t21_10=>aA (aY 259 t21_10) fun t22_11=>aA (load1 ro h2 t22_11) fun t23_12=>aA (dI 4 t19_9 t23_12) fun t24_13=>aA (loadA ro h2 4 t24_13) fun t25_14=>aA (zer Tryz.prog aP) fun z15=>d4 h2 (n3+12) (.cells z15.cells aP) fun h16=>aA (bY 4 h16 (ptr (n3+12)) t25_14) fun h17=>aA (aY 3 (ptr (n3+12))) fun t26_18=>aA (load1 ro h17 t26_18) fun t27_19=>aA (loadA ro h17 4 (ptr (n3+12))) fun t29_20=>aN Tryz.prog ro iT [v0,t29_20] h17 (n3+33) fun t30_21 h22 n23=>(nR t26_18 h17 h22)∧(aA (dI 1 t27_19 t30_21) fun t31_24=>aA (load1 ro h22 t31_24) fun t32_25=>aA (bW v0) fun t35_26=>aA (aY 0 t35_26) fun t36_27=>aA (aY 0 t36_27) fun t37_28=>aA (aY 0 t37_28) fun t38_29=>aA (ixArr 256 1 t38_29 v1) fun t39_30=>aA (load1 ro h22 t39_30) fun t40_31=>(nR t39_30 h17 h22)∧(aA (dI 2 t32_25 t40_31) fun t41_32=>aA (loadA ro h22 2 t41_32) fun t42_33=>aA (zer Tryz.prog bC) fun z34=>d4 h22 (n3+31) (.cells z34.cells bC) fun h35=>aA (bY 2 h35 (ptr (n3+31)) t42_33) fun h36=>aA (bW v0) fun t44_37=>aA (aY 261 t44_37) fun t45_38=>aA (load1 ro h36 t45_38) fun t46_39=>aA (aY 1 (ptr (n3+12))) fun t47_40=>aA (load1 ro h36 t47_40) fun t48_41=>aA (cU t48_41) fun t49_42=>aA (aX .add (Value.int IntKind.i64 1) t49_42) fun t50_43=>aA (aX .add t46_39 t50_43) fun t51_44=>aA (bW v0) fun t52_45=>aA (aY 261 t52_45) fun t53_46=>aA (bY 1 h36 t53_46 t51_44) fun h47=>aA (aY 0 (ptr (n3+31))) fun t55_48=>aA (load1 ro h47 t55_48) fun t56_49=>aA (bW v0) fun t57_50=>aA (aY 259 t57_50) fun t58_51=>aA (bY 1 h47 t58_51 t56_49) fun h52=>aA (aY 0 (ptr (n3+31))) fun t59_105=>aA (load1 ro h52 t59_105) fun t60_106=>aA (aX .neq t60_106 (Value.int IntKind.i64 (-1))) fun t61_107=>aZ t61_107 (aA (bW v0) fun t63_108=>aA (aY 0 t63_108) fun t64_109=>aA (aY 258 t64_109) fun t65_110=>aA (load1 ro h52 t65_110) fun t66_111=>aA (aY 0 (ptr (n3+31))) fun t67_112=>aA (load1 ro h52 t67_112) fun t68_113=>aA (dI 4 t66_111 t68_113) fun t69_114=>aA (aY 1 t69_114) fun t70_115=>aA (load1 ro h52 t70_115) fun t71_116=>gE ro K (puts (i3 [v0,v1]) [(4,(Value.bool false)),(12,v0),(13,t13_1),(14,t14_4),(15,v0),(16,t16_6),(17,t17_7),(18,t18_8),(19,t19_9),(20,v0),(21,t21_10),(22,t22_11),(23,t23_12),(24,t24_13),(25,t25_14),(5,(ptr (n3+12))),(26,t26_18),(27,t27_19),(28,v0),(29,t29_20),(30,t30_21),(31,t31_24),(32,t32_25),(33,v0),(34,v1),(35,t35_26),(36,t36_27),(37,t37_28),(38,t38_29),(39,t39_30),(40,t40_31),(41,t41_32),(42,t42_33),(6,(ptr (n3+31))),(43,v0),(44,t44_37),(45,t45_38),(46,t46_39),(47,t47_40),(48,t48_41),(49,t49_42),(50,t50_43),(51,t51_44),(52,t52_45),(53,t53_46),(54,v0),(55,t55_48),(56,t56_49),(57,t57_50),(58,t58_51),(7,(Value.slice none 0 0)),(59,t59_105),(60,t60_106),(61,t61_107),(62,v0),(63,t63_108),(64,t64_109),(65,t65_110),(66,t66_111),(67,t67_112),(68,t68_113),(69,t69_114),(70,t70_115),(71,t71_116),(7,t71_116)]) h52 (n23+33)) (gE ro K (puts (i3 [v0,v1]) [(4,(Value.bool false)),(12,v0),(13,t13_1),(14,t14_4),(15,v0),(16,t16_6),(17,t17_7),(18,t18_8),(19,t19_9),(20,v0),(21,t21_10),(22,t22_11),(23,t23_12),(24,t24_13),(25,t25_14),(5,(ptr (n3+12))),(26,t26_18),(27,t27_19),(28,v0),(29,t29_20),(30,t30_21),(31,t31_24),(32,t32_25),(33,v0),(34,v1),(35,t35_26),(36,t36_27),(37,t37_28),(38,t38_29),(39,t39_30),(40,t40_31),(41,t41_32),(42,t42_33),(6,(ptr (n3+31))),(43,v0),(44,t44_37),(45,t45_38),(46,t46_39),(47,t47_40),(48,t48_41),(49,t49_42),(50,t50_43),(51,t51_44),(52,t52_45),(53,t53_46),(54,v0),(55,t55_48),(56,t56_49),(57,t57_50),(58,t58_51),(7,(Value.slice none 0 0)),(59,t59_105),(60,t60_106),(61,t61_107)]) h52 (n23+22)))))
theorem wF (ro:Ro) (v0 v1:Value) (h:T Obj) (nx:Nat) (K:KV):bJ Tryz.prog ro (aN Tryz.prog ro) Tryz.f19 [v0,v1] h nx K=nE ro v0 v1 h nx K:=by kernel_rfl
theorem wG {ro:Ro} {v0 v1:Value} {h:T Obj} {nx:Nat} {K:KV} (hw:nE ro v0 v1 h nx K):aN Tryz.prog ro lM [v0,v1] h nx K:=bF (P:=Tryz.prog) (fn:=Tryz.f19) (by kernel_rfl) (by kernel_rfl) (by kernel_rfl) (Eq.mpr (wF ro v0 v1 h nx K) hw)
@[irreducible] def mA (ro:Ro) (v0:Value) (h:T Obj) (nx:Nat) (K:KV):Prop:=aA (aAd .eql v0 (Value.pointer none)) fun t4_1=>aZ t4_1 (∃ h2,Sub h2 h∧K (Value.int IntKind.i64 (-1)) h2 (nx+4)) (aA (bW v0) fun t6_3=>aA (aY 259 t6_3) fun t7_4=>aA (load1 ro h t7_4) fun t8_5=>∃ h6,Sub h6 h∧K t8_5 h6 (nx+8))
theorem vH (ro:Ro) (v0:Value) (h:T Obj) (nx:Nat) (K:KV):bJ Tryz.prog ro (aN Tryz.prog ro) Tryz.f21 [v0] h nx K=mA ro v0 h nx K:=by kernel_rfl
theorem vI {ro:Ro} {v0:Value} {h:T Obj} {nx:Nat} {K:KV} (hw:mA ro v0 h nx K):aN Tryz.prog ro iL [v0] h nx K:=bF (P:=Tryz.prog) (fn:=Tryz.f21) (by kernel_rfl) (by kernel_rfl) (by kernel_rfl) (Eq.mpr (vH ro v0 h nx K) hw)
@[irreducible] def nD (ro:Ro) (v0:Value) (h:T Obj) (nx:Nat) (K:KV):Prop:=aN Tryz.prog ro iL [v0] h (nx+3) fun t5_1 h2 n3=>aA (aX .eql t5_1 (Value.int IntKind.i64 (-1))) fun t6_4=>aZ t6_4 (∃ h5,Sub h5 h2∧K (Value.int IntKind.i64 (-1)) h5 (n3+2)) (aA (bW v0) fun t8_6=>aA (aY 0 t8_6) fun t9_7=>aA (aY 258 t9_7) fun t10_8=>aA (load1 ro h2 t10_8) fun t11_9=>aA (bW v0) fun t13_10=>aA (aY 259 t13_10) fun t14_11=>aA (load1 ro h2 t14_11) fun t15_12=>aA (dI 4 t11_9 t15_12) fun t16_13=>aA (loadA ro h2 4 t16_13) fun t17_14=>aA (zer Tryz.prog aP) fun z15=>d4 h2 (n3+12) (.cells z15.cells aP) fun h16=>aA (bY 4 h16 (ptr (n3+12)) t17_14) fun h17=>aA (aY 2 (ptr (n3+12))) fun t18_18=>aA (load1 ro h17 t18_18) fun t19_19=>aA (loadA ro h17 4 (ptr (n3+12))) fun t21_20=>aN Tryz.prog ro iT [v0,t21_20] h17 (n3+22) fun t22_21 h22 n23=>(nR t18_18 h17 h22)∧(aA (dI 1 t19_19 t22_21) fun t23_24=>aA (load1 ro h22 t23_24) fun t24_25=>∃ h26,Sub h26 h22∧K t24_25 h26 n23))
theorem wD (ro:Ro) (v0:Value) (h:T Obj) (nx:Nat) (K:KV):bJ Tryz.prog ro (aN Tryz.prog ro) Tryz.f22 [v0] h nx K=nD ro v0 h nx K:=by kernel_rfl
theorem wE {ro:Ro} {v0:Value} {h:T Obj} {nx:Nat} {K:KV} (hw:nD ro v0 h nx K):aN Tryz.prog ro lL [v0] h nx K:=bF (P:=Tryz.prog) (fn:=Tryz.f22) (by kernel_rfl) (by kernel_rfl) (by kernel_rfl) (Eq.mpr (wD ro v0 h nx K) hw)
@[irreducible] def sL (ro:Ro) (K:KV):Env→T Obj→Nat→Prop:=fun e h nx=>∃ h5,Sub h5 h∧K (Value.bool true) h5 (nx+1)
@[irreducible] def yZ (ro:Ro):PT:=fun e h nx Q=>aA (aX .lss (e 13) (e 12)) fun t14_7=>aZ t14_7 (aA (dI 1 (e 0) (e 13)) fun t18_8=>aA (load1 ro h t18_8) fun t19_9=>aA (dI 1 (e 1) (e 13)) fun t22_10=>aA (load1 ro h t22_10) fun t23_11=>aA (aX .neq t19_9 t23_11) fun t24_12=>aZ t24_12 (Q .ret (puts e [(14,t14_7),(15,(e 13)),(5,(e 13)),(16,(e 0)),(17,(e 13)),(18,t18_8),(19,t19_9),(20,(e 1)),(21,(e 13)),(22,t22_10),(23,t23_11),(24,t24_12),(4,(Value.bool false))]) h (nx+13)) (aA (aX .add (e 13) (Value.int IntKind.i64 1)) fun t25_13=>Q .normal (puts e [(14,t14_7),(15,(e 13)),(5,(e 13)),(16,(e 0)),(17,(e 13)),(18,t18_8),(19,t19_9),(20,(e 1)),(21,(e 13)),(22,t22_10),(23,t23_11),(24,t24_12),(25,t25_13),(13,t25_13)]) h (nx+14))) (Q (.exit 0) (puts e [(14,t14_7)]) h (nx+1))
@[irreducible] def zZ (ro:Ro) (v0 v1:Value) (h:T Obj) (nx:Nat) (K:KV):Prop:=aA (cU v0) fun t7_1=>aA (cU v1) fun t9_2=>aA (aX .neq t7_1 t9_2) fun t10_3=>aZ t10_3 (∃ h4,Sub h4 h∧K (Value.bool false) h4 (nx+7)) (aA (cU v0) fun t12_6=>d5 (yZ ro) (puts (i3 [v0,v1]) [(4,(Value.bool false)),(6,v0),(7,t7_1),(8,v1),(9,t9_2),(10,t10_3),(11,v0),(12,t12_6),(13,(Value.int IntKind.i64 0))]) h (nx+9) fun x17 e14 h15 n16=>exP x17 (sL ro K e14 h15 n16) (fun i18=>d8 (Nat.beq i18 0) (sL ro K e14 h15 n16) (False)) (∃ h19,Sub h19 h15∧K (e14 4) h19 n16))
theorem aDl (ro:Ro) (v0 v1:Value) (h:T Obj) (nx:Nat) (K:KV):bJ Tryz.prog ro (aN Tryz.prog ro) Tryz.f26 [v0,v1] h nx K=zZ ro v0 v1 h nx K:=by kernel_rfl
theorem aDm {ro:Ro} {v0 v1:Value} {h:T Obj} {nx:Nat} {K:KV} (hw:zZ ro v0 v1 h nx K):aN Tryz.prog ro uG [v0,v1] h nx K:=bF (P:=Tryz.prog) (fn:=Tryz.f26) (by kernel_rfl) (by kernel_rfl) (by kernel_rfl) (Eq.mpr (aDl ro v0 v1 h nx K) hw)
@[irreducible] def l7 (ro:Ro) (v0 v1:Value) (h:T Obj) (nx:Nat) (K:KV):Prop:=aA (aAd .eql v0 (Value.pointer none)) fun t6_1=>ifP t6_1 false h (nx+4) (fun k2=>k2 v1 h (nx+5)) fun t8_3 h4 n5=>ifP t6_1 false h4 n5 (fun k6=>aA (aX .lss t8_3 (Value.int IntKind.i64 0)) fun t9_10=>k6 t9_10 h4 (n5+1)) fun t9_7 h8 n9=>aA (dK t6_1 (Value.bool true) t9_7) fun t10_11=>ifP t10_11 false h8 (n9+2) (fun k12=>k12 v1 h8 (n9+3)) fun t12_13 h14 n15=>ifP t10_11 false h14 n15 (fun k16=>k16 v0 h14 (n15+1)) fun t13_17 h18 n19=>ifP t10_11 false h18 n19 (fun k20=>aA (bW t13_17) fun t14_24=>k20 t14_24 h18 (n19+1)) fun t14_21 h22 n23=>ifP t10_11 false h22 n23 (fun k25=>aA (aY 260 t14_21) fun t15_29=>k25 t15_29 h22 (n23+1)) fun t15_26 h27 n28=>ifP t10_11 false h27 n28 (fun k30=>aA (load1 ro h27 t15_26) fun t16_34=>k30 t16_34 h27 (n28+1)) fun t16_31 h32 n33=>ifP t10_11 false h32 n33 (fun k35=>aA (cU t16_31) fun t17_39=>k35 t17_39 h32 (n33+1)) fun t17_36 h37 n38=>ifP t10_11 false h37 n38 (fun k40=>aA (aX .geq t12_13 t17_36) fun t18_44=>k40 t18_44 h37 (n38+1)) fun t18_41 h42 n43=>aA (dK t10_11 (Value.bool true) t18_41) fun t19_45=>aZ t19_45 (∃ h46,Sub h46 h42∧K (Value.slice none 0 0) h46 (n43+2)) (aA (bW v0) fun t21_47=>aA (aY 260 t21_47) fun t22_48=>aA (load1 ro h42 t22_48) fun t23_49=>aA (dI 1 t23_49 v1) fun t25_50=>aA (load1 ro h42 t25_50) fun t26_51=>aN Tryz.prog ro oD [t26_51] h42 (n43+9) fun t27_52 h53 n54=>∃ h55,Sub h55 h53∧K t27_52 h55 (n54+1))
theorem vF (ro:Ro) (v0 v1:Value) (h:T Obj) (nx:Nat) (K:KV):bJ Tryz.prog ro (aN Tryz.prog ro) Tryz.f27 [v0,v1] h nx K=l7 ro v0 v1 h nx K:=by kernel_rfl
theorem vG {ro:Ro} {v0 v1:Value} {h:T Obj} {nx:Nat} {K:KV} (hw:l7 ro v0 v1 h nx K):aN Tryz.prog ro kL [v0,v1] h nx K:=bF (P:=Tryz.prog) (fn:=Tryz.f27) (by kernel_rfl) (by kernel_rfl) (by kernel_rfl) (Eq.mpr (vF ro v0 v1 h nx K) hw)
@[irreducible] def kH (ro:Ro) (K:KV):Env→T Obj→Nat→Prop:=fun e h nx=>∃ h6,Sub h6 h∧K (e 3) h6 (nx+2)
@[irreducible] def oY (ro:Ro):PT:=fun e h nx Q=>aA (aX .lss (e 17) (e 16)) fun t18_11=>aZ t18_11 (aA (dI 1 (e 15) (e 17)) fun t19_12=>aA (load1 ro h t19_12) fun t20_13=>aN Tryz.prog ro oE [t20_13] h (nx+7) fun t23_14 h15 n16=>aA (aX .add (e 3) t23_14) fun t24_17=>aA (aX .add (e 17) (Value.int IntKind.i64 1)) fun t25_18=>Q .normal (puts e [(18,t18_11),(19,t19_12),(20,t20_13),(5,t20_13),(21,(e 3)),(22,t20_13),(23,t23_14),(24,t24_17),(3,t24_17),(25,t25_18),(17,t25_18)]) h15 (n16+4)) (Q (.exit 0) (puts e [(18,t18_11)]) h (nx+1))
@[irreducible] def nF (ro:Ro) (v0:Value) (h:T Obj) (nx:Nat) (K:KV):Prop:=aA (aAd .eql v0 (Value.pointer none)) fun t7_1=>aZ t7_1 (∃ h2,Sub h2 h∧K (Value.int IntKind.i64 0) h2 (nx+4)) (aA (bW v0) fun t9_3=>aA (aY 261 t9_3) fun t10_4=>aA (load1 ro h t10_4) fun t11_5=>aA (bW v0) fun t13_7=>aA (aY 260 t13_7) fun t14_8=>aA (load1 ro h t14_8) fun t15_9=>aA (cU t15_9) fun t16_10=>d5 (oY ro) (puts (i3 [v0]) [(2,(Value.int IntKind.i64 0)),(6,v0),(7,t7_1),(8,v0),(9,t9_3),(10,t10_4),(11,t11_5),(3,t11_5),(12,v0),(13,t13_7),(14,t14_8),(15,t15_9),(16,t16_10),(17,(Value.int IntKind.i64 0))]) h (nx+14) fun x22 e19 h20 n21=>exP x22 (kH ro K e19 h20 n21) (fun i23=>d8 (Nat.beq i23 0) (kH ro K e19 h20 n21) (False)) (∃ h24,Sub h24 h20∧K (e19 2) h24 n21))
theorem wH (ro:Ro) (v0:Value) (h:T Obj) (nx:Nat) (K:KV):bJ Tryz.prog ro (aN Tryz.prog ro) Tryz.f30 [v0] h nx K=nF ro v0 h nx K:=by kernel_rfl
theorem wI {ro:Ro} {v0:Value} {h:T Obj} {nx:Nat} {K:KV} (hw:nF ro v0 h nx K):aN Tryz.prog ro iS [v0] h nx K:=bF (P:=Tryz.prog) (fn:=Tryz.f30) (by kernel_rfl) (by kernel_rfl) (by kernel_rfl) (Eq.mpr (wH ro v0 h nx K) hw)
@[irreducible] def nH (ro:Ro) (K:KV):Env→T Obj→Nat→Prop:=fun e h nx=>aA (loadA ro h 259 (e 3)) fun t70_15=>aA (bY 259 h (e 2) t70_15) fun h16=>aA (loadA ro h16 259 (e 2)) fun r17=>∃ h18,Sub h18 h16∧K r17 h18 (nx+2)
@[irreducible] def nI (ro:Ro) (Q:KE):Env→T Obj→Nat→Prop:=fun e h nx=>aA (aX .add (e 21) (Value.int IntKind.i64 1)) fun t69_23=>Q .normal (puts e [(69,t69_23),(21,t69_23)]) h (nx+2)
@[irreducible] def nJ (ro:Ro) (Q:KE):Env→T Obj→Nat→Prop:=fun e h nx=>aA (aY 258 (e 3)) fun t63_43=>aA (load1 ro h t63_43) fun t64_44=>aA (loadA ro h 4 (e 6)) fun t65_45=>aA (a7 Tryz.prog eQ (nx+3) 1 [(0,t65_45)]) fun r46=>eG h (nx+3) r46.2 fun h47=>aA (bX Tryz.prog ro h47 (nx+5) #[eQ,eQ] [t64_44,r46.1]) fun r48=>aA (aY 258 (e 3)) fun t68_49=>aA (bY 1 r48.2.1 t68_49 r48.1) fun h50=>nI ro Q (puts e [(63,t63_43),(64,t64_44),(65,t65_45),(66,r46.1),(67,r48.1),(68,t68_49)]) h50 (r48.2.2+2)
@[irreducible] def nK (ro:Ro) (Q:KE):Env→T Obj→Nat→Prop:=fun e h nx=>aA (aX .add (e 35) (Value.int IntKind.i64 1)) fun t62_55=>Q .normal (puts e [(62,t62_55),(35,t62_55)]) h (nx+2)
@[irreducible] def nL (ro:Ro) (Q:KE):Env→T Obj→Nat→Prop:=fun e h nx=>aA (aY 3 (e 6)) fun t56_61=>aA (load1 ro h t56_61) fun t57_62=>aA (a7 Tryz.prog dN (nx+3) 1 [(0,(e 9))]) fun r63=>eG h (nx+3) r63.2 fun h64=>aA (bX Tryz.prog ro h64 (nx+5) #[dN,dN] [t57_62,r63.1]) fun r65=>aA (aY 3 (e 6)) fun t61_66=>aA (bY 1 r65.2.1 t61_66 r65.1) fun h67=>nK ro Q (puts e [(56,t56_61),(57,t57_62),(58,(e 9)),(59,r63.1),(60,r65.1),(61,t61_66)]) h67 (r65.2.2+2)
@[irreducible] def qM (ro:Ro):PT:=fun e h nx Q=>aA (aX .lss (e 43) (e 42)) fun t44_69=>aZ t44_69 (aA (dI 2 (e 41) (e 43)) fun t46_70=>aA (loadA ro h 2 t46_70) fun t47_71=>aA (zer Tryz.prog bC) fun z72=>d4 h (nx+4) (.cells z72.cells bC) fun h73=>aA (bY 2 h73 (ptr (nx+4)) t47_71) fun h74=>aA (aY 1 (ptr (nx+4))) fun t50_75=>aA (load1 ro h74 t50_75) fun t51_76=>aN Tryz.prog ro gT [t51_76] h74 (nx+12) fun t52_77 h78 n79=>aA (dI 2 (e 9) (e 43)) fun t53_80=>aA (aY 1 t53_80) fun t54_81=>aA (bY 1 h78 t54_81 t52_77) fun h82=>aA (aX .add (e 43) (Value.int IntKind.i64 1)) fun t55_83=>Q .normal (puts e [(44,t44_69),(45,(e 43)),(46,t46_70),(47,t47_71),(11,(ptr (nx+4))),(10,(e 43)),(48,(e 9)),(49,(e 43)),(50,t50_75),(51,t51_76),(52,t52_77),(53,t53_80),(54,t54_81),(55,t55_83),(43,t55_83)]) h82 (n79+5)) (Q (.exit 4) (puts e [(44,t44_69)]) h (nx+1))
@[irreducible] def qL (ro:Ro):PT:=fun e h nx Q=>aA (aX .lss (e 35) (e 34)) fun t36_54=>aZ t36_54 (aA (dI 1 (e 33) (e 35)) fun t37_56=>aA (load1 ro h t37_56) fun t38_57=>aN Tryz.prog ro fK [t38_57] h (nx+6) fun t40_58 h59 n60=>aA (cU t40_58) fun t42_68=>d5 (qM ro) (puts e [(36,t36_54),(37,t37_56),(38,t38_57),(8,t38_57),(39,t38_57),(40,t40_58),(9,t40_58),(41,t40_58),(42,t42_68),(43,(Value.int IntKind.i64 0))]) h59 (n60+4) fun x87 e84 h85 n86=>exP x87 (nL ro Q e84 h85 n86) (fun i88=>d8 (Nat.beq i88 4) (nL ro Q e84 h85 n86) (d8 (Nat.beq i88 3) (nK ro Q e84 h85 n86) (Q (.exit i88) e84 h85 n86))) (Q .ret e84 h85 n86)) (Q (.exit 2) (puts e [(36,t36_54)]) h (nx+1))
@[irreducible] def qK (ro:Ro):PT:=fun e h nx Q=>aA (aX .lss (e 21) (e 20)) fun t22_22=>aZ t22_22 (aA (dI 4 (e 19) (e 21)) fun t23_24=>aA (loadA ro h 4 t23_24) fun t24_25=>aA (zer Tryz.prog aP) fun z26=>d4 h (nx+3) (.cells z26.cells aP) fun h27=>aA (bY 4 h27 (ptr (nx+3)) t24_25) fun h28=>aA (aY 1 (ptr (nx+3))) fun t25_29=>aA (load1 ro h28 t25_29) fun t26_30=>aN Tryz.prog ro gN [t26_30] h28 (nx+14) fun t27_31 h32 n33=>aA (aY 2 (ptr (nx+3))) fun t28_34=>aA (load1 ro h32 t28_34) fun t29_35=>(nR t28_34 h28 h32)∧(aN Tryz.prog ro gN [t29_35] h32 n33 fun t30_36 h37 n38=>aA (dF Tryz.prog aP [(1,t27_31),(2,t30_36)]) fun t31_39=>aA (zer Tryz.prog aP) fun z40=>d4 h37 (nx+12) (.cells z40.cells aP) fun h41=>aA (bY 4 h41 (ptr (nx+12)) t31_39) fun h42=>aA (aY 3 (ptr (nx+3))) fun t32_51=>aA (load1 ro h42 t32_51) fun t33_52=>aA (cU t33_52) fun t34_53=>d5 (qL ro) (puts e [(22,t22_22),(23,t23_24),(24,t24_25),(5,(ptr (nx+3))),(25,t25_29),(26,t26_30),(27,t27_31),(28,t28_34),(29,t29_35),(30,t30_36),(31,t31_39),(6,(ptr (nx+12))),(32,t32_51),(33,t33_52),(34,t34_53),(35,(Value.int IntKind.i64 0))]) h42 (n38+4) fun x92 e89 h90 n91=>exP x92 (nJ ro Q e89 h90 n91) (fun i93=>d8 (Nat.beq i93 2) (nJ ro Q e89 h90 n91) (d8 (Nat.beq i93 1) (nI ro Q e89 h90 n91) (Q (.exit i93) e89 h90 n91))) (Q .ret e89 h90 n91))) (Q (.exit 0) (puts e [(22,t22_22)]) h (nx+1))
@[irreducible] def wM (ro:Ro) (v0:Value) (h:T Obj) (nx:Nat) (K:KV):Prop:=d4 h nx (.cells (Value.cells v0) a9) fun h1=>aA (zer Tryz.prog a9) fun z2=>d4 h1 (nx+1) (.cells z2.cells a9) fun h3=>aA (aY 0 (ptr nx)) fun t12_4=>aA (loadA ro h3 257 t12_4) fun t13_5=>aA (aY 257 (ptr nx)) fun t14_6=>aA (load1 ro h3 t14_6) fun t15_7=>aN Tryz.prog ro gS [t15_7] h3 (nx+10) fun t16_8 h9 n10=>(nR t12_4 h3 h9)∧(aA (dF Tryz.prog a9 [(0,t13_5),(1,t16_8)]) fun t17_11=>aA (zer Tryz.prog a9) fun z12=>d4 h9 (nx+8) (.cells z12.cells a9) fun h13=>aA (bY 259 h13 (ptr (nx+8)) t17_11) fun h14=>aA (aY 258 (ptr nx)) fun t18_19=>aA (load1 ro h14 t18_19) fun t19_20=>aA (cU t19_20) fun t20_21=>d5 (qK ro) (puts (i3 [v0]) [(1,(ptr nx)),(2,(ptr (nx+1))),(12,t12_4),(13,t13_5),(14,t14_6),(15,t15_7),(16,t16_8),(17,t17_11),(3,(ptr (nx+8))),(18,t18_19),(19,t19_20),(20,t20_21),(21,(Value.int IntKind.i64 0))]) h14 (n10+4) fun x97 e94 h95 n96=>exP x97 (nH ro K e94 h95 n96) (fun i98=>d8 (Nat.beq i98 0) (nH ro K e94 h95 n96) (False)) (aA (loadA ro h95 259 (e94 2)) fun r99=>∃ h100,Sub h100 h95∧K r99 h100 n96))
theorem aC9 (ro:Ro) (v0:Value) (h:T Obj) (nx:Nat) (K:KV):bJ Tryz.prog ro (aN Tryz.prog ro) Tryz.f49 [v0] h nx K=wM ro v0 h nx K:=by kernel_rfl
theorem aCa {ro:Ro} {v0:Value} {h:T Obj} {nx:Nat} {K:KV} (hw:wM ro v0 h nx K):aN Tryz.prog ro sF [v0] h nx K:=bF (P:=Tryz.prog) (fn:=Tryz.f49) (by kernel_rfl) (by kernel_rfl) (by kernel_rfl) (Eq.mpr (aC9 ro v0 h nx K) hw)
@[irreducible] def aDP (ro:Ro) (v0:Value) (h:T Obj) (nx:Nat) (K:KV):Prop:=aA (aX .lss v0 (Value.int IntKind.i64 1)) fun t5_1=>ifP t5_1 false h (nx+5) (fun k2=>k2 v0 h (nx+6)) fun t7_3 h4 n5=>ifP t5_1 false h4 n5 (fun k6=>aA (aX .gtr t7_3 (Value.int IntKind.i64 4096)) fun t8_10=>k6 t8_10 h4 (n5+1)) fun t8_7 h8 n9=>aA (dK t5_1 (Value.bool true) t8_7) fun t9_11=>aZ t9_11 (∃ h12,Sub h12 h8∧K (.tuple #[(Value.pointer none),(Value.int IntKind.i64 1)]) h12 (n9+3)) (aA (aCm Tryz.prog dD (n9+2) v0 v0) fun r13=>eG h8 (n9+2) r13.2 fun h14=>aA (dF Tryz.prog cE [(0,r13.1)]) fun t12_15=>d4 h14 (n9+4) (.cells (Value.cells t12_15) cE) fun h16=>∃ h17,Sub h17 h16∧K (.tuple #[(ptr (n9+4)),(Value.int IntKind.i64 0)]) h17 (n9+7))
theorem aHQ (ro:Ro) (v0:Value) (h:T Obj) (nx:Nat) (K:KV):bJ Tryz.prog ro (aN Tryz.prog ro) Tryz.f50 [v0] h nx K=aDP ro v0 h nx K:=by kernel_rfl
theorem aHR {ro:Ro} {v0:Value} {h:T Obj} {nx:Nat} {K:KV} (hw:aDP ro v0 h nx K):aN Tryz.prog ro zV [v0] h nx K:=bF (P:=Tryz.prog) (fn:=Tryz.f50) (by kernel_rfl) (by kernel_rfl) (by kernel_rfl) (Eq.mpr (aHQ ro v0 h nx K) hw)
@[irreducible] def kI (ro:Ro) (K:KV):Env→T Obj→Nat→Prop:=fun e h nx=>∃ h2,Sub h2 h∧K (e 5) h2 (nx+2)
@[irreducible] def oZ (ro:Ro):PT:=fun e h nx Q=>aA (aX .lss (e 12) (e 11)) fun t13_6=>aZ t13_6 (aA (dI 1 (e 10) (e 12)) fun t14_7=>aA (load1 ro h t14_7) fun t15_8=>aN Tryz.prog ro kM [(e 0),t15_8] h (nx+9) fun t20_9 h10 n11=>aA (aX .mul (e 6) t20_9) fun t21_12=>aA (aX .add (e 5) t21_12) fun t22_13=>aA (aX .mul (e 6) (Value.int IntKind.i64 3)) fun t24_14=>aA (aX .add (e 12) (Value.int IntKind.i64 1)) fun t25_15=>Q .normal (puts e [(13,t13_6),(14,t14_7),(15,t15_8),(8,t15_8),(16,(e 5)),(17,(e 6)),(18,(e 0)),(19,t15_8),(20,t20_9),(21,t21_12),(22,t22_13),(5,t22_13),(23,(e 6)),(24,t24_14),(6,t24_14),(25,t25_15),(12,t25_15)]) h10 (n11+8)) (Q (.exit 0) (puts e [(13,t13_6)]) h (nx+1))
@[irreducible] def nG (ro:Ro) (v0 v1:Value) (h:T Obj) (nx:Nat) (K:KV):Prop:=d4 h nx (.cells (Value.cells v1) aP) fun h1=>aA (aY 1 (ptr nx)) fun t9_3=>aA (load1 ro h1 t9_3) fun t10_4=>aA (cU t10_4) fun t11_5=>d5 (oZ ro) (puts (i3 [v0,v1]) [(3,(ptr nx)),(4,(Value.int IntKind.i64 0)),(5,(Value.int IntKind.i64 0)),(6,(Value.int IntKind.i64 1)),(9,t9_3),(10,t10_4),(11,t11_5),(12,(Value.int IntKind.i64 0))]) h1 (nx+8) fun x19 e16 h17 n18=>exP x19 (kI ro K e16 h17 n18) (fun i20=>d8 (Nat.beq i20 0) (kI ro K e16 h17 n18) (False)) (∃ h21,Sub h21 h17∧K (e16 4) h21 n18)
theorem wJ (ro:Ro) (v0 v1:Value) (h:T Obj) (nx:Nat) (K:KV):bJ Tryz.prog ro (aN Tryz.prog ro) Tryz.f52 [v0,v1] h nx K=nG ro v0 v1 h nx K:=by kernel_rfl
theorem wK {ro:Ro} {v0 v1:Value} {h:T Obj} {nx:Nat} {K:KV} (hw:nG ro v0 v1 h nx K):aN Tryz.prog ro iT [v0,v1] h nx K:=bF (P:=Tryz.prog) (fn:=Tryz.f52) (by kernel_rfl) (by kernel_rfl) (by kernel_rfl) (Eq.mpr (wJ ro v0 v1 h nx K) hw)
@[irreducible] def pH (ro:Ro) (v0:Value) (h:T Obj) (nx:Nat) (K:KV):Prop:=aA (aAd .neq v0 (Value.pointer none)) fun t3_1=>aZ t3_1 (aA (bW v0) fun t6_2=>aA (aY 1 t6_2) fun t7_3=>aA (bY 1 h t7_3 (Value.int IntKind.i64 0)) fun h4=>aA (bW v0) fun t8_5=>aA (aY 2 t8_5) fun t9_6=>aA (bY 1 h4 t9_6 (Value.int IntKind.i64 0)) fun h7=>aA (bW v0) fun t11_8=>aA (aY 4 t11_8) fun t12_9=>aA (load1 ro h7 t12_9) fun t13_10=>aA (aX .add t13_10 (Value.int IntKind.i64 1)) fun t14_11=>aA (bW v0) fun t15_12=>aA (aY 4 t15_12) fun t16_13=>aA (bY 1 h7 t16_13 t14_11) fun h14=>∃ h15,Sub h15 h14∧K (.tuple #[]) h15 (nx+18)) (∃ h16,Sub h16 h∧K (.tuple #[]) h16 (nx+2))
theorem aAF (ro:Ro) (v0:Value) (h:T Obj) (nx:Nat) (K:KV):bJ Tryz.prog ro (aN Tryz.prog ro) Tryz.f54 [v0] h nx K=pH ro v0 h nx K:=by kernel_rfl
theorem aAG {ro:Ro} {v0:Value} {h:T Obj} {nx:Nat} {K:KV} (hw:pH ro v0 h nx K):aN Tryz.prog ro j7 [v0] h nx K:=bF (P:=Tryz.prog) (fn:=Tryz.f54) (by kernel_rfl) (by kernel_rfl) (by kernel_rfl) (Eq.mpr (aAF ro v0 h nx K) hw)
@[irreducible] def wL (ro:Ro) (v0 v1:Value) (h:T Obj) (nx:Nat) (K:KV):Prop:=aA (aX .eql v1 (Value.int IntKind.u8 3)) fun t6_1=>aZ t6_1 (aN Tryz.prog ro j7 [v0] h (nx+5) fun t8_2 h3 n4=>aN Tryz.prog ro lV [v0] h3 (n4+2) fun t10_5 h6 n7=>∃ h8,Sub h8 h6∧K (.tuple #[]) h8 n7) (aA (aX .eql v1 (Value.int IntKind.u8 2)) fun t12_9=>aZ t12_9 (aN Tryz.prog ro lU [v0] h (nx+7) fun t14_10 h11 n12=>aN Tryz.prog ro lV [v0] h11 (n12+2) fun t16_13 h14 n15=>∃ h16,Sub h16 h14∧K (.tuple #[]) h16 n15) (aA (aX .eql v1 (Value.int IntKind.u8 1)) fun t18_17=>aZ t18_17 (aN Tryz.prog ro lU [v0] h (nx+9) fun t20_18 h19 n20=>∃ h21,Sub h21 h19∧K (.tuple #[]) h21 n20) (∃ h22,Sub h22 h∧K (.tuple #[]) h22 (nx+7))))
theorem aC7 (ro:Ro) (v0 v1:Value) (h:T Obj) (nx:Nat) (K:KV):bJ Tryz.prog ro (aN Tryz.prog ro) Tryz.f55 [v0,v1] h nx K=wL ro v0 v1 h nx K:=by kernel_rfl
theorem aC8 {ro:Ro} {v0 v1:Value} {h:T Obj} {nx:Nat} {K:KV} (hw:wL ro v0 v1 h nx K):aN Tryz.prog ro sE [v0,v1] h nx K:=bF (P:=Tryz.prog) (fn:=Tryz.f55) (by kernel_rfl) (by kernel_rfl) (by kernel_rfl) (Eq.mpr (aC7 ro v0 v1 h nx K) hw)
@[irreducible] def sQ (ro:Ro) (v0:Value) (h:T Obj) (nx:Nat) (K:KV):Prop:=aA (aAd .eql v0 (Value.pointer none)) fun t4_1=>aZ t4_1 (∃ h2,Sub h2 h∧K (Value.int IntKind.i64 0) h2 (nx+4)) (aA (bW v0) fun t6_3=>aA (aY 2 t6_3) fun t7_4=>aA (load1 ro h t7_4) fun t8_5=>∃ h6,Sub h6 h∧K t8_5 h6 (nx+8))
theorem aBP (ro:Ro) (v0:Value) (h:T Obj) (nx:Nat) (K:KV):bJ Tryz.prog ro (aN Tryz.prog ro) Tryz.f56 [v0] h nx K=sQ ro v0 h nx K:=by kernel_rfl
theorem aBQ {ro:Ro} {v0:Value} {h:T Obj} {nx:Nat} {K:KV} (hw:sQ ro v0 h nx K):aN Tryz.prog ro jJ [v0] h nx K:=bF (P:=Tryz.prog) (fn:=Tryz.f56) (by kernel_rfl) (by kernel_rfl) (by kernel_rfl) (Eq.mpr (aBP ro v0 h nx K) hw)
@[irreducible] def nQ (ro:Ro) (K:KV):Env→T Obj→Nat→Prop:=fun e h nx=>∃ h1,Sub h1 h∧K (e 3) h1 (nx+2)
@[irreducible] def rX (ro:Ro):PT:=fun e h nx Q=>aA (aX .geq (e 4) (Value.int IntKind.i64 0)) fun t9_6=>aZ t9_6 (aN Tryz.prog ro fD [(e 0),(e 4)] h (nx+6) fun t15_7 h8 n9=>aA (a7 Tryz.prog dD n9 1 [(0,t15_7)]) fun r10=>eG h8 n9 r10.2 fun h11=>aA (bX Tryz.prog ro h11 (n9+2) #[dD,dD] [(e 3),r10.1]) fun r12=>aA (aX .sub (e 4) (Value.int IntKind.i64 1)) fun t11_13=>Q .normal (puts e [(8,(e 4)),(9,t9_6),(12,(e 3)),(13,(e 0)),(14,(e 4)),(15,t15_7),(16,r10.1),(17,r12.1),(3,r12.1),(10,(e 4)),(11,t11_13),(4,t11_13)]) r12.2.1 (r12.2.2+4)) (Q (.exit 0) (puts e [(8,(e 4)),(9,t9_6)]) h (nx+2))
@[irreducible] def rB (ro:Ro) (v0:Value) (h:T Obj) (nx:Nat) (K:KV):Prop:=aN Tryz.prog ro jJ [v0] h (nx+4) fun t6_2 h3 n4=>aA (aX .sub t6_2 (Value.int IntKind.i64 1)) fun t7_5=>d5 (rX ro) (puts (i3 [v0]) [(2,(Value.slice none 0 0)),(3,(Value.slice none 0 0)),(5,v0),(6,t6_2),(7,t7_5),(4,t7_5)]) h3 (n4+2) fun x17 e14 h15 n16=>exP x17 (nQ ro K e14 h15 n16) (fun i18=>d8 (Nat.beq i18 0) (nQ ro K e14 h15 n16) (False)) (∃ h19,Sub h19 h15∧K (e14 2) h19 n16)
theorem aAi (ro:Ro) (v0:Value) (h:T Obj) (nx:Nat) (K:KV):bJ Tryz.prog ro (aN Tryz.prog ro) Tryz.f64 [v0] h nx K=rB ro v0 h nx K:=by kernel_rfl
theorem aAj {ro:Ro} {v0:Value} {h:T Obj} {nx:Nat} {K:KV} (hw:rB ro v0 h nx K):aN Tryz.prog ro oD [v0] h nx K:=bF (P:=Tryz.prog) (fn:=Tryz.f64) (by kernel_rfl) (by kernel_rfl) (by kernel_rfl) (Eq.mpr (aAi ro v0 h nx K) hw)
@[irreducible] def rC (ro:Ro) (v0:Value) (h:T Obj) (nx:Nat) (K:KV):Prop:=aA (aAd .eql v0 (Value.pointer none)) fun t4_1=>aZ t4_1 (∃ h2,Sub h2 h∧K (Value.int IntKind.i64 0) h2 (nx+4)) (aA (bW v0) fun t6_3=>aA (aY 4 t6_3) fun t7_4=>aA (load1 ro h t7_4) fun t8_5=>∃ h6,Sub h6 h∧K t8_5 h6 (nx+8))
theorem aAk (ro:Ro) (v0:Value) (h:T Obj) (nx:Nat) (K:KV):bJ Tryz.prog ro (aN Tryz.prog ro) Tryz.f66 [v0] h nx K=rC ro v0 h nx K:=by kernel_rfl
theorem aAl {ro:Ro} {v0:Value} {h:T Obj} {nx:Nat} {K:KV} (hw:rC ro v0 h nx K):aN Tryz.prog ro oE [v0] h nx K:=bF (P:=Tryz.prog) (fn:=Tryz.f66) (by kernel_rfl) (by kernel_rfl) (by kernel_rfl) (Eq.mpr (aAk ro v0 h nx K) hw)
@[irreducible] def mB (ro:Ro) (v0 v1:Value) (h:T Obj) (nx:Nat) (K:KV):Prop:=aA (bW v0) fun t11_1=>aA (aY 260 t11_1) fun t12_2=>aA (load1 ro h t12_2) fun t13_3=>aA (dI 1 t13_3 v1) fun t15_4=>aA (load1 ro h t15_4) fun t16_5=>aN Tryz.prog ro pD [t16_5] h (nx+9) fun t17_6 h7 n8=>aA (nth 0 t17_6) fun t18_9=>aA (nth 1 t17_6) fun t19_10=>aA (bW v0) fun t22_11=>aA (aY 260 t22_11) fun t23_12=>aA (load1 ro h7 t23_12) fun t24_13=>aA (dI 1 t24_13 v1) fun t26_14=>aA (load1 ro h7 t26_14) fun t27_15=>aN Tryz.prog ro pC [t27_15] h7 (n8+13) fun t28_16 h17 n18=>aA (nth 0 t28_16) fun t29_19=>aA (nth 1 t28_16) fun t30_20=>aA (unV .not t30_20) fun t33_21=>ifP t33_21 false h17 (n18+8) (fun k22=>k22 t29_19 h17 (n18+9)) fun t35_23 h24 n25=>ifP t33_21 false h24 n25 (fun k26=>k26 v0 h24 (n25+1)) fun t36_27 h28 n29=>ifP t33_21 false h28 n29 (fun k30=>aA (bW t36_27) fun t37_34=>k30 t37_34 h28 (n29+1)) fun t37_31 h32 n33=>ifP t33_21 false h32 n33 (fun k35=>aA (aY 0 t37_31) fun t38_39=>k35 t38_39 h32 (n33+1)) fun t38_36 h37 n38=>ifP t33_21 false h37 n38 (fun k40=>aA (aY 257 t38_36) fun t39_44=>k40 t39_44 h37 (n38+1)) fun t39_41 h42 n43=>ifP t33_21 false h42 n43 (fun k45=>aA (load1 ro h42 t39_41) fun t40_49=>k45 t40_49 h42 (n43+1)) fun t40_46 h47 n48=>ifP t33_21 false h47 n48 (fun k50=>k50 v1 h47 (n48+1)) fun t41_51 h52 n53=>ifP t33_21 false h52 n53 (fun k54=>aA (dI 2 t40_46 t41_51) fun t42_58=>k54 t42_58 h52 (n53+1)) fun t42_55 h56 n57=>ifP t33_21 false h56 n57 (fun k59=>aA (ixArr 2 1 t42_55 (Value.int IntKind.i64 0)) fun t43_63=>k59 t43_63 h56 (n57+1)) fun t43_60 h61 n62=>ifP t33_21 false h61 n62 (fun k64=>aA (load1 ro h61 t43_60) fun t44_68=>k64 t44_68 h61 (n62+1)) fun t44_65 h66 n67=>ifP t33_21 false h66 n67 (fun k69=>aA (aX .lss t35_23 t44_65) fun t45_73=>k69 t45_73 h66 (n67+1)) fun t45_70 h71 n72=>aA (dK t33_21 (Value.bool true) t45_70) fun t46_74=>aZ t46_74 (∃ h75,Sub h75 h71∧K (Value.int IntKind.i64 0) h75 (n72+3)) (aA (bW v0) fun t50_76=>aA (aY 0 t50_76) fun t51_77=>aA (aY 257 t51_77) fun t52_78=>aA (load1 ro h71 t52_78) fun t53_79=>aA (dI 2 t53_79 v1) fun t55_80=>aA (ixArr 2 1 t55_80 (Value.int IntKind.i64 1)) fun t56_81=>aA (load1 ro h71 t56_81) fun t57_82=>aA (aX .lss t18_9 t57_82) fun t58_83=>aZ t58_83 (∃ h84,Sub h84 h71∧K (Value.int IntKind.i64 2) h84 (n72+15)) (∃ h85,Sub h85 h71∧K (Value.int IntKind.i64 1) h85 (n72+15)))
theorem vJ (ro:Ro) (v0 v1:Value) (h:T Obj) (nx:Nat) (K:KV):bJ Tryz.prog ro (aN Tryz.prog ro) Tryz.f101 [v0,v1] h nx K=mB ro v0 v1 h nx K:=by kernel_rfl
theorem vK {ro:Ro} {v0 v1:Value} {h:T Obj} {nx:Nat} {K:KV} (hw:mB ro v0 v1 h nx K):aN Tryz.prog ro kM [v0,v1] h nx K:=bF (P:=Tryz.prog) (fn:=Tryz.f101) (by kernel_rfl) (by kernel_rfl) (by kernel_rfl) (Eq.mpr (vJ ro v0 v1 h nx K) hw)
@[irreducible] def sT (ro:Ro) (v0:Value) (h:T Obj) (nx:Nat) (K:KV):Prop:=aA (aAd .eql v0 (Value.pointer none)) fun t3_1=>aZ t3_1 (∃ h2,Sub h2 h∧K (.tuple #[]) h2 (nx+2)) (aA (bW v0) fun t5_3=>aA (aY 4 t5_3) fun t6_4=>aA (load1 ro h t6_4) fun t7_5=>aA (aX .add t7_5 (Value.int IntKind.i64 1)) fun t8_6=>aA (bW v0) fun t9_7=>aA (aY 4 t9_7) fun t10_8=>aA (bY 1 h t10_8 t8_6) fun h9=>aA (bW v0) fun t12_10=>aA (aY 2 t12_10) fun t13_11=>aA (load1 ro h9 t13_11) fun t14_12=>aA (aX .gtr t14_12 (Value.int IntKind.i64 0)) fun t15_13=>ifP t15_13 true h9 (nx+16) (fun k14=>k14 v0 h9 (nx+17)) fun t17_15 h16 n17=>ifP t15_13 true h16 n17 (fun k18=>k18 v0 h16 (n17+1)) fun t18_19 h20 n21=>ifP t15_13 true h20 n21 (fun k22=>aA (bW t18_19) fun t19_26=>k22 t19_26 h20 (n21+1)) fun t19_23 h24 n25=>ifP t15_13 true h24 n25 (fun k27=>aA (aY 2 t19_23) fun t20_31=>k27 t20_31 h24 (n25+1)) fun t20_28 h29 n30=>ifP t15_13 true h29 n30 (fun k32=>aA (load1 ro h29 t20_28) fun t21_36=>k32 t21_36 h29 (n30+1)) fun t21_33 h34 n35=>ifP t15_13 true h34 n35 (fun k37=>aA (aX .sub t21_33 (Value.int IntKind.i64 1)) fun t22_41=>k37 t22_41 h34 (n35+1)) fun t22_38 h39 n40=>ifP t15_13 true h39 n40 (fun k42=>aN Tryz.prog ro fD [t17_15,t22_38] h39 (n40+1) fun t23_46 h47 n48=>k42 t23_46 h47 n48) fun t23_43 h44 n45=>ifP t15_13 true h44 n45 (fun k49=>aA (aX .eql t23_43 (Value.int IntKind.i64 1)) fun t24_53=>k49 t24_53 h44 (n45+1)) fun t24_50 h51 n52=>aA (dK t15_13 t24_50 (Value.bool false)) fun t25_54=>aZ t25_54 (∃ h55,Sub h55 h51∧K (.tuple #[]) h55 (n52+1)) (aA (bW v0) fun t27_56=>aA (aY 0 t27_56) fun t28_57=>aA (load1 ro h51 t28_57) fun t29_58=>aA (bW v0) fun t31_59=>aA (aY 1 t31_59) fun t32_60=>aA (load1 ro h51 t32_60) fun t33_61=>aA (bW v0) fun t35_62=>aA (aY 2 t35_62) fun t36_63=>aA (load1 ro h51 t36_63) fun t37_64=>aA (aX .add t33_61 t37_64) fun t38_65=>aA (bW v0) fun t40_66=>aA (aY 0 t40_66) fun t41_67=>aA (load1 ro h51 t41_67) fun t42_68=>aA (cU t42_68) fun t43_69=>aA (aX .rem t38_65 t43_69) fun t44_70=>aA (bW v0) fun t46_71=>aA (aY 3 t46_71) fun t47_72=>aA (load1 ro h51 t47_72) fun t48_73=>aA (dI 1 t29_58 t44_70) fun t49_74=>aA (bY 1 h51 t49_74 t48_73) fun h75=>aA (bW v0) fun t51_76=>aA (aY 2 t51_76) fun t52_77=>aA (load1 ro h75 t52_77) fun t53_78=>aA (aX .add t53_78 (Value.int IntKind.i64 1)) fun t54_79=>aA (bW v0) fun t55_80=>aA (aY 2 t55_80) fun t56_81=>aA (bY 1 h75 t56_81 t54_79) fun h82=>∃ h83,Sub h83 h82∧K (.tuple #[]) h83 (n52+34)))
theorem aBV (ro:Ro) (v0:Value) (h:T Obj) (nx:Nat) (K:KV):bJ Tryz.prog ro (aN Tryz.prog ro) Tryz.f103 [v0] h nx K=sT ro v0 h nx K:=by kernel_rfl
theorem aBW {ro:Ro} {v0:Value} {h:T Obj} {nx:Nat} {K:KV} (hw:sT ro v0 h nx K):aN Tryz.prog ro lV [v0] h nx K:=bF (P:=Tryz.prog) (fn:=Tryz.f103) (by kernel_rfl) (by kernel_rfl) (by kernel_rfl) (Eq.mpr (aBV ro v0 h nx K) hw)
@[irreducible] def sP (ro:Ro) (v0:Value) (h:T Obj) (nx:Nat) (K:KV):Prop:=aA (aAd .eql v0 (Value.pointer none)) fun t3_1=>aZ t3_1 (∃ h2,Sub h2 h∧K (.tuple #[]) h2 (nx+2)) (aA (bW v0) fun t5_3=>aA (aY 4 t5_3) fun t6_4=>aA (load1 ro h t6_4) fun t7_5=>aA (aX .add t7_5 (Value.int IntKind.i64 1)) fun t8_6=>aA (bW v0) fun t9_7=>aA (aY 4 t9_7) fun t10_8=>aA (bY 1 h t10_8 t8_6) fun h9=>aA (bW v0) fun t12_10=>aA (aY 3 t12_10) fun t13_11=>aA (load1 ro h9 t13_11) fun t14_12=>aA (aX .add t14_12 (Value.int IntKind.i64 1)) fun t15_13=>aA (bW v0) fun t16_14=>aA (aY 3 t16_14) fun t17_15=>aA (bY 1 h9 t17_15 t15_13) fun h16=>aA (bW v0) fun t19_17=>aA (aY 2 t19_17) fun t20_18=>aA (load1 ro h16 t20_18) fun t21_19=>aA (aX .gtr t21_19 (Value.int IntKind.i64 0)) fun t22_20=>ifP t22_20 true h16 (nx+33) (fun k21=>k21 v0 h16 (nx+33)) fun t24_22 h23 n24=>ifP t22_20 true h23 n24 (fun k25=>aN Tryz.prog ro fD [t24_22,(Value.int IntKind.i64 0)] h23 n24 fun t25_29 h30 n31=>k25 t25_29 h30 n31) fun t25_26 h27 n28=>ifP t22_20 true h27 n28 (fun k32=>k32 v0 h27 n28) fun t26_33 h34 n35=>ifP t22_20 true h34 n35 (fun k36=>aA (bW t26_33) fun t27_40=>k36 t27_40 h34 n35) fun t27_37 h38 n39=>ifP t22_20 true h38 n39 (fun k41=>aA (aY 0 t27_37) fun t28_45=>k41 t28_45 h38 n39) fun t28_42 h43 n44=>ifP t22_20 true h43 n44 (fun k46=>aA (load1 ro h43 t28_42) fun t29_50=>(onP (some (t22_20,true)) (nR t28_42 h23 h27))∧(k46 t29_50 h43 n44)) fun t29_47 h48 n49=>ifP t22_20 true h48 n49 (fun k51=>aA (cU t29_47) fun t30_55=>k51 t30_55 h48 n49) fun t30_52 h53 n54=>ifP t22_20 true h53 n54 (fun k56=>aA (aX .gtr t25_26 t30_52) fun t31_60=>k56 t31_60 h53 n54) fun t31_57 h58 n59=>aA (dK t22_20 t31_57 (Value.bool false)) fun t32_61=>aZ t32_61 (aA (bW v0) fun t35_62=>aA (aY 1 t35_62) fun t36_63=>aA (load1 ro h58 t36_63) fun t37_64=>aA (aX .add t37_64 (Value.int IntKind.i64 1)) fun t38_65=>aA (bW v0) fun t40_66=>aA (aY 0 t40_66) fun t41_67=>aA (load1 ro h58 t41_67) fun t42_68=>aA (cU t42_68) fun t43_69=>aA (aX .rem t38_65 t43_69) fun t44_70=>aA (bW v0) fun t45_71=>aA (aY 1 t45_71) fun t46_72=>aA (bY 1 h58 t46_72 t44_70) fun h73=>aA (bW v0) fun t48_74=>aA (aY 2 t48_74) fun t49_75=>aA (load1 ro h73 t49_75) fun t50_76=>aA (aX .sub t50_76 (Value.int IntKind.i64 1)) fun t51_77=>aA (bW v0) fun t52_78=>aA (aY 2 t52_78) fun t53_79=>aA (bY 1 h73 t53_79 t51_77) fun h80=>∃ h81,Sub h81 h80∧K (.tuple #[]) h81 (n59+23)) (∃ h82,Sub h82 h58∧K (.tuple #[]) h82 n59))
theorem aBN (ro:Ro) (v0:Value) (h:T Obj) (nx:Nat) (K:KV):bJ Tryz.prog ro (aN Tryz.prog ro) Tryz.f104 [v0] h nx K=sP ro v0 h nx K:=by kernel_rfl
theorem aBO {ro:Ro} {v0:Value} {h:T Obj} {nx:Nat} {K:KV} (hw:sP ro v0 h nx K):aN Tryz.prog ro lU [v0] h nx K:=bF (P:=Tryz.prog) (fn:=Tryz.f104) (by kernel_rfl) (by kernel_rfl) (by kernel_rfl) (Eq.mpr (aBN ro v0 h nx K) hw)
@[irreducible] def lW (ro:Ro) (v0 v1:Value) (h:T Obj) (nx:Nat) (K:KV):Prop:=aA (bW v0) fun t6_1=>aA (aY 3 t6_1) fun t7_2=>aA (load1 ro h t7_2) fun t8_3=>aA (bW v0) fun t10_4=>aA (aY 0 t10_4) fun t11_5=>aA (load1 ro h t11_5) fun t12_6=>aA (bW v0) fun t14_7=>aA (aY 1 t14_7) fun t15_8=>aA (load1 ro h t15_8) fun t16_9=>aA (aX .add t16_9 v1) fun t18_10=>aA (bW v0) fun t20_11=>aA (aY 0 t20_11) fun t21_12=>aA (load1 ro h t21_12) fun t22_13=>aA (cU t22_13) fun t23_14=>aA (aX .rem t18_10 t23_14) fun t24_15=>aA (dI 1 t12_6 t24_15) fun t25_16=>aA (load1 ro h t25_16) fun t26_17=>aA (aX .sub t8_3 t26_17) fun t27_18=>aA (aX .add t27_18 (Value.int IntKind.i64 1)) fun t28_19=>∃ h20,Sub h20 h∧K t28_19 h20 (nx+26)
theorem aAH (ro:Ro) (v0 v1:Value) (h:T Obj) (nx:Nat) (K:KV):bJ Tryz.prog ro (aN Tryz.prog ro) Tryz.f109 [v0,v1] h nx K=lW ro v0 v1 h nx K:=by kernel_rfl
theorem rD {ro:Ro} {v0 v1:Value} {h:T Obj} {nx:Nat} {K:KV} (hw:lW ro v0 v1 h nx K):aN Tryz.prog ro fD [v0,v1] h nx K:=bF (P:=Tryz.prog) (fn:=Tryz.f109) (by kernel_rfl) (by kernel_rfl) (by kernel_rfl) (Eq.mpr (aAH ro v0 v1 h nx K) hw)
@[irreducible] def sS (ro:Ro) (v0:Value) (h:T Obj) (nx:Nat) (K:KV):Prop:=aN Tryz.prog ro jJ [v0] h (nx+4) fun t5_1 h2 n3=>aA (aX .eql t5_1 (Value.int IntKind.i64 0)) fun t6_4=>aZ t6_4 (∃ h5,Sub h5 h2∧K (.tuple #[(Value.int IntKind.i64 0),(Value.bool false)]) h5 (n3+3)) (aA (bW v0) fun t9_6=>aA (aY 2 t9_6) fun t10_7=>aA (load1 ro h2 t10_7) fun t11_8=>aA (aX .sub t11_8 (Value.int IntKind.i64 1)) fun t12_9=>aN Tryz.prog ro fD [v0,t12_9] h2 (n3+8) fun t13_10 h11 n12=>∃ h13,Sub h13 h11∧K (.tuple #[t13_10,(Value.bool true)]) h13 (n12+2))
theorem aBT (ro:Ro) (v0:Value) (h:T Obj) (nx:Nat) (K:KV):bJ Tryz.prog ro (aN Tryz.prog ro) Tryz.f131 [v0] h nx K=sS ro v0 h nx K:=by kernel_rfl
theorem aBU {ro:Ro} {v0:Value} {h:T Obj} {nx:Nat} {K:KV} (hw:sS ro v0 h nx K):aN Tryz.prog ro pD [v0] h nx K:=bF (P:=Tryz.prog) (fn:=Tryz.f131) (by kernel_rfl) (by kernel_rfl) (by kernel_rfl) (Eq.mpr (aBT ro v0 h nx K) hw)
@[irreducible] def sR (ro:Ro) (v0:Value) (h:T Obj) (nx:Nat) (K:KV):Prop:=aN Tryz.prog ro jJ [v0] h (nx+4) fun t5_1 h2 n3=>aA (aX .eql t5_1 (Value.int IntKind.i64 0)) fun t6_4=>aZ t6_4 (∃ h5,Sub h5 h2∧K (.tuple #[(Value.int IntKind.i64 0),(Value.bool false)]) h5 (n3+3)) (aN Tryz.prog ro fD [v0,(Value.int IntKind.i64 0)] h2 (n3+3) fun t8_6 h7 n8=>∃ h9,Sub h9 h7∧K (.tuple #[t8_6,(Value.bool true)]) h9 (n8+2))
theorem aBR (ro:Ro) (v0:Value) (h:T Obj) (nx:Nat) (K:KV):bJ Tryz.prog ro (aN Tryz.prog ro) Tryz.f132 [v0] h nx K=sR ro v0 h nx K:=by kernel_rfl
theorem aBS {ro:Ro} {v0:Value} {h:T Obj} {nx:Nat} {K:KV} (hw:sR ro v0 h nx K):aN Tryz.prog ro pC [v0] h nx K:=bF (P:=Tryz.prog) (fn:=Tryz.f132) (by kernel_rfl) (by kernel_rfl) (by kernel_rfl) (Eq.mpr (aBR ro v0 h nx K) hw)
end V
end Go.Proofs.YtjndkdmkecpllaaGreat
set_option linter.unusedVariables false
set_option linter.unusedSimpArgs false
namespace Go.Proofs.YtjndkdmkecpllaaGreat
set_option maxRecDepth 20000
namespace V
theorem kT (id off z:Nat):aAd .eql (at_ id off z) (.pointer none)=some (.bool false):=rfl
theorem aGx (id off z:Nat):aAd .neq (at_ id off z) (.pointer none)=some (.bool true):=rfl
theorem a8 (id off z:Nat):bW (at_ id off z)=some (at_ id off z):=rfl
theorem aCL (a b n:Nat):((a:Int)+(b:Int)) % (n:Int)=(((a+b) % n:Nat):Int):=by rw [Int.natCast_emod,Int.natCast_add]
theorem aCE (a n c:Nat) (k:IntKind) {i:Nat} (hi:i < n):dI 1 (.slice (some (V.own a 1)) n c) (.int k (i:Int))=some (at_ a i 0):=by
  have h1:mE (Value.int k (i:Int))=some i:=by simp [mE]
  have h2:Nat.blt i n=true:=by simpa using hi
  simp [dI,h1,h2,V.own,elt]
def kW (a n first many now w:Nat):List Value:=[.slice (some (V.own a 1)) n n,.int .i64 first,.int .i64 many,.int .i64 now,.int .i64 w]
def oH (put:List Nat):List Value:=put.map fun (x:Nat)=>.int .i64 (x:Int)
theorem aGz (put:List Nat):(oH put).length=put.length:=by simp [oH]
theorem aGy {put:List Nat} {k:Nat} (hk:k < put.length):(oH put)[k]?=some (.int .i64 (put.getD k 0:Nat)):=by
  simp [oH,hk]
theorem aHA (put:List Nat) (k x:Nat):(oH put).set k (.int .i64 (x:Int))=oH (put.set k x):=by
  simp [oH,List.map_set]
def RI (h:T Obj) (p a n:Nat) (L:List Nat) (w:Nat):Prop:=∃ (put:List Nat) (first now:Nat),
  h.get p=some (.cells (kW a n first L.length now w).toArray cE)∧h.get a=some (.cells (oH put).toArray cF)∧p≠a∧put.length=n∧1≤n∧n≤4096∧first < n∧now≤w∧w≤1000000 ∧
  (∀ i,i < L.length→put.getD ((first+i) % n) 0+L.getD i 0=now+1)∧L.Pairwise (fun x y=>y < x)∧(∀ x∈L,1≤x∧x≤n)
def qG (h h':T Obj) (p a:Nat):Prop:=∀ k,k≠p→k≠a→h'.get k=h.get k
theorem Fr.lt {h:T Obj} {nx k:Nat} {o:Obj} (hf:Fr h nx) (hg:h.get k=some o):k < nx:=by
  rcases Nat.lt_or_ge k nx with h9 | h9
  · exact h9
  · rw [hf k h9] at hg; cases hg
theorem aIq {L:List Nat}:∀ {lo hi:Nat},1≤lo→L.Pairwise (fun x y=>y < x)→(∀ x∈L,lo≤x∧x≤hi)→L.length+lo≤hi+1∨L=[]:=by
  induction L with
  | nil=>intro lo hi _ _ _; exact .inr rfl
  | cons x r ih =>
    intro lo hi hlo hp hb
    left
    have hx:=hb x (List.mem_cons_self ..)
    rw [List.pairwise_cons] at hp
    rcases ih (lo:=lo) (hi:=x - 1) hlo hp.2 fun y hy=>⟨(hb y (List.mem_cons_of_mem _ hy)).1,by have:=hp.1 y hy; omega⟩ with h1 | h1
    · rw [List.length_cons]; omega
    · subst h1; simp; omega
theorem RI.len {h:T Obj} {p a n w:Nat} {L:List Nat} (hR:RI h p a n L w):L.length≤n:=by
  obtain ⟨put,first,now,_,_,_,_,h1,_,_,_,_,_,hp,hb⟩:=hR
  rcases aIq (Nat.le_refl 1) hp hb with h9 | h9
  · omega
  · subst h9; simp
theorem pW {ro:Ro} {h:T Obj} {p a n w i nx:Nat} {L:List Nat} {K:KV} (hR:RI h p a n L w) (hi:i < L.length) (hK:∀ nx',nx≤nx'→K (.int .i64 (L.getD i 0:Nat)) h nx'):aN Tryz.prog ro fD [ptr p,.int .i64 (i:Int)] h nx K:=by
  have hln:=hR.len
  obtain ⟨put,first,now,gp,ga,hne,hpl,h1,h2,h3,h4,h5,hrel,hpw,hb⟩:=hR
  apply rD
  unfold lW
  have hm:(first+i) % n < n:=Nat.mod_lt _ (by omega)
  have hm2:(first+i) % n < put.length:=by omega
  have hr:=hrel i hi
  (repeat (first | refine aB (by simp (disch:=first | omega | exact Int.natCast_nonneg _ | assumption) only [decide_true,decide_false,Bool.not_true,Bool.not_false,dP,cT,cS,bL,b9,bO,eY,eV,eX,eW,cA,c7,dV,cM,b7,Option.bind_some,Value.cells_agg,cP,b8,cK,dC,cX,c8,cW,aR,aS,aW,aV,aU,aT,bH,bD,cB,cQ,cC,dJ,gJ,eP,cH,dX,cN,cO,cD,bQ,bP,eR,dW,dA,cI,bZ,bU,T.get_upd_same,T.get_upd_ne,bA,bK,tl,ts,if_pos,Nat.zero_add,Nat.mul_one,Nat.add_zero,Int.toNat_natCast,↓reduceIte,Nat.reduceLeDiff,Nat.reduceAdd,Nat.le_refl,a8,gp,ga,aCL,aCE,aGy]<;>rfl) ?_ | refine aD ?_ | refine aE ?_ | with_reducible refine aG ?_ | with_reducible refine aF ?_ | with_reducible refine aH ?_ | with_reducible refine aI ?_ | with_reducible refine aK ?_ | with_reducible refine aJ ?_ | with_reducible refine aL ?_ | refine aC ?_))
  refine ⟨h,Sub.refl _,?_⟩
  have e:(now:Int) - (put.getD ((first+i) % n) 0:Nat)+1=(L.getD i 0:Nat):=by omega
  rw [e]
  exact hK _ (by omega)
theorem aAE {ro:Ro} {h:T Obj} {p a n w nx:Nat} {L:List Nat} {K:KV} (hR:RI h p a n L w) (hK:∀ nx',nx≤nx'→K (.int .i64 (L.length:Nat)) h nx'):aN Tryz.prog ro jJ [ptr p] h nx K:=by
  obtain ⟨put,first,now,gp,ga,hne,hpl,h1,h2,h3,h4,h5,hrel,hpw,hb⟩:=hR
  apply aBQ
  unfold sQ
  (repeat (first | refine aB (by simp (disch:=first | omega | exact Int.natCast_nonneg _ | assumption) only [decide_true,decide_false,Bool.not_true,Bool.not_false,dP,cT,cS,bL,b9,bO,eY,eV,eX,eW,cA,c7,dV,cM,b7,Option.bind_some,Value.cells_agg,cP,b8,cK,dC,cX,c8,cW,aR,aS,aW,aV,aU,aT,bH,bD,cB,cQ,cC,dJ,gJ,eP,cH,dX,cN,cO,cD,bQ,bP,eR,dW,dA,cI,bZ,bU,T.get_upd_same,T.get_upd_ne,bA,bK,tl,ts,if_pos,Nat.zero_add,Nat.mul_one,Nat.add_zero,Int.toNat_natCast,↓reduceIte,Nat.reduceLeDiff,Nat.reduceAdd,Nat.le_refl,kT,a8,gp,ga]<;>rfl) ?_ | refine aD ?_ | refine aE ?_ | with_reducible refine aG ?_ | with_reducible refine aF ?_ | with_reducible refine aH ?_ | with_reducible refine aI ?_ | with_reducible refine aK ?_ | with_reducible refine aJ ?_ | with_reducible refine aL ?_ | refine aC ?_))
  exact ⟨h,Sub.refl _,hK _ (by omega)⟩
theorem aHS {ro:Ro} {h:T Obj} {p a n w nx:Nat} {L:List Nat} {K:KV} (hR:RI h p a n L w) (hK:∀ nx',nx≤nx'→K (.int .i64 (w:Nat)) h nx'):aN Tryz.prog ro oE [ptr p] h nx K:=by
  obtain ⟨put,first,now,gp,ga,hne,hpl,h1,h2,h3,h4,h5,hrel,hpw,hb⟩:=hR
  apply aAl
  unfold rC
  (repeat (first | refine aB (by simp (disch:=first | omega | exact Int.natCast_nonneg _ | assumption) only [decide_true,decide_false,Bool.not_true,Bool.not_false,dP,cT,cS,bL,b9,bO,eY,eV,eX,eW,cA,c7,dV,cM,b7,Option.bind_some,Value.cells_agg,cP,b8,cK,dC,cX,c8,cW,aR,aS,aW,aV,aU,aT,bH,bD,cB,cQ,cC,dJ,gJ,eP,cH,dX,cN,cO,cD,bQ,bP,eR,dW,dA,cI,bZ,bU,T.get_upd_same,T.get_upd_ne,bA,bK,tl,ts,if_pos,Nat.zero_add,Nat.mul_one,Nat.add_zero,Int.toNat_natCast,↓reduceIte,Nat.reduceLeDiff,Nat.reduceAdd,Nat.le_refl,kT,a8,gp,ga]<;>rfl) ?_ | refine aD ?_ | refine aE ?_ | with_reducible refine aG ?_ | with_reducible refine aF ?_ | with_reducible refine aH ?_ | with_reducible refine aI ?_ | with_reducible refine aK ?_ | with_reducible refine aJ ?_ | with_reducible refine aL ?_ | refine aC ?_))
  exact ⟨h,Sub.refl _,hK _ (by omega)⟩
def aBA (L:List Nat):Value:=if L.length=0 then .tuple #[.int .i64 0,.bool false] else .tuple #[.int .i64 (L.getD 0 0:Nat),.bool true]
def aBC (L:List Nat):Value:=if L.length=0 then .tuple #[.int .i64 0,.bool false] else .tuple #[.int .i64 (L.getD (L.length - 1) 0:Nat),.bool true]
theorem aI2 {ro:Ro} {h:T Obj} {p a n w nx:Nat} {L:List Nat} {K:KV} (hR:RI h p a n L w) (hK:∀ nx',nx≤nx'→K (aBA L) h nx'):aN Tryz.prog ro pC [ptr p] h nx K:=by
  apply aBS
  unfold sR
  refine aAE hR fun n2 hn2=>?_
  (repeat (first | refine aB (by simp (disch:=first | omega | exact Int.natCast_nonneg _ | assumption) only [decide_true,decide_false,Bool.not_true,Bool.not_false,dP,cT,cS,bL,b9,bO,eY,eV,eX,eW,cA,c7,dV,cM,b7,Option.bind_some,Value.cells_agg,cP,b8,cK,dC,cX,c8,cW,aR,aS,aW,aV,aU,aT,bH,bD,cB,cQ,cC,dJ,gJ,eP,cH,dX,cN,cO,cD,bQ,bP,eR,dW,dA,cI,bZ,bU,T.get_upd_same,T.get_upd_ne,bA,bK,tl,ts,if_pos,Nat.zero_add,Nat.mul_one,Nat.add_zero,Int.toNat_natCast,↓reduceIte,Nat.reduceLeDiff,Nat.reduceAdd,Nat.le_refl]<;>rfl) ?_ | refine aD ?_ | refine aE ?_ | with_reducible refine aG ?_ | with_reducible refine aF ?_ | with_reducible refine aH ?_ | with_reducible refine aI ?_ | with_reducible refine aK ?_ | with_reducible refine aJ ?_ | with_reducible refine aL ?_ | refine aC ?_))
  unfold aBA at hK
  by_cases h0:L.length=0
  · refine fS (by simp [h0]) ?_
    rw [if_pos h0] at hK
    exact ⟨h,Sub.refl _,hK _ (by omega)⟩
  · refine fR (decide_eq_false (by omega)) ?_
    rw [if_neg h0] at hK
    refine pW (i:=0) hR (by omega) fun n3 hn3=>?_
    exact ⟨h,Sub.refl _,hK _ (by omega)⟩
theorem aI3 {ro:Ro} {h:T Obj} {p a n w nx:Nat} {L:List Nat} {K:KV} (hR:RI h p a n L w) (hK:∀ nx',nx≤nx'→K (aBC L) h nx'):aN Tryz.prog ro pD [ptr p] h nx K:=by
  apply aBU
  unfold sS
  refine aAE hR fun n2 hn2=>?_
  (repeat (first | refine aB (by simp (disch:=first | omega | exact Int.natCast_nonneg _ | assumption) only [decide_true,decide_false,Bool.not_true,Bool.not_false,dP,cT,cS,bL,b9,bO,eY,eV,eX,eW,cA,c7,dV,cM,b7,Option.bind_some,Value.cells_agg,cP,b8,cK,dC,cX,c8,cW,aR,aS,aW,aV,aU,aT,bH,bD,cB,cQ,cC,dJ,gJ,eP,cH,dX,cN,cO,cD,bQ,bP,eR,dW,dA,cI,bZ,bU,T.get_upd_same,T.get_upd_ne,bA,bK,tl,ts,if_pos,Nat.zero_add,Nat.mul_one,Nat.add_zero,Int.toNat_natCast,↓reduceIte,Nat.reduceLeDiff,Nat.reduceAdd,Nat.le_refl]<;>rfl) ?_ | refine aD ?_ | refine aE ?_ | with_reducible refine aG ?_ | with_reducible refine aF ?_ | with_reducible refine aH ?_ | with_reducible refine aI ?_ | with_reducible refine aK ?_ | with_reducible refine aJ ?_ | with_reducible refine aL ?_ | refine aC ?_))
  unfold aBC at hK
  by_cases h0:L.length=0
  · refine fS (by simp [h0]) ?_
    rw [if_pos h0] at hK
    exact ⟨h,Sub.refl _,hK _ (by omega)⟩
  · refine fR (decide_eq_false (by omega)) ?_
    rw [if_neg h0] at hK
    have hR':=hR
    have hln:=hR.len
    obtain ⟨put,first,now,gp,ga,hne,hpl,h1,h2,h3,h4,h5,hrel,hpw,hb⟩:=hR
    (repeat (first | refine aB (by simp (disch:=first | omega | exact Int.natCast_nonneg _ | assumption) only [decide_true,decide_false,Bool.not_true,Bool.not_false,dP,cT,cS,bL,b9,bO,eY,eV,eX,eW,cA,c7,dV,cM,b7,Option.bind_some,Value.cells_agg,cP,b8,cK,dC,cX,c8,cW,aR,aS,aW,aV,aU,aT,bH,bD,cB,cQ,cC,dJ,gJ,eP,cH,dX,cN,cO,cD,bQ,bP,eR,dW,dA,cI,bZ,bU,T.get_upd_same,T.get_upd_ne,bA,bK,tl,ts,if_pos,Nat.zero_add,Nat.mul_one,Nat.add_zero,Int.toNat_natCast,↓reduceIte,Nat.reduceLeDiff,Nat.reduceAdd,Nat.le_refl,a8,gp]<;>rfl) ?_ | refine aD ?_ | refine aE ?_ | with_reducible refine aG ?_ | with_reducible refine aF ?_ | with_reducible refine aH ?_ | with_reducible refine aI ?_ | with_reducible refine aK ?_ | with_reducible refine aJ ?_ | with_reducible refine aL ?_ | refine aC ?_))
    have e:(L.length:Int) - 1=((L.length - 1:Nat):Int):=by omega
    rw [e]
    refine pW (i:=L.length - 1) hR' (by omega) fun n3 hn3=>?_
    exact ⟨h,Sub.refl _,hK _ (by omega)⟩
def aNW (L:List Nat):List Nat:=if L.getD (L.length - 1) 0=1 then L else L++[1]
theorem aE9 {L:List Nat} (h:L.getD (L.length - 1) 0≠1):aNW L=L++[1]:=if_neg h
theorem aLO {L:List Nat} {x:Nat} (hx:x∈L) (hp:L.Pairwise (fun x y=>y < x)):L.getD (L.length - 1) 0≤x:=by
  obtain ⟨i,hi,rfl⟩:=List.getElem_of_mem hx
  have h1:L.getD (L.length - 1) 0=L[L.length - 1]:=by simp [List.getD,List.getElem?_eq_getElem (show L.length - 1 < L.length by omega)]
  rw [h1]
  rcases Nat.lt_or_ge i (L.length - 1) with h2 | h2
  · exact Nat.le_of_lt (List.pairwise_iff_getElem.1 hp i (L.length - 1) hi (by omega) h2)
  · have:i=L.length - 1:=by omega
    subst this; exact Nat.le_refl _
theorem aJL {L:List Nat} {n:Nat} (h:L.getD (L.length - 1) 0≠1) (hp:L.Pairwise (fun x y=>y < x)) (hb:∀ x∈L,1≤x∧x≤n):∀ x∈L,2≤x∧x≤n:=fun x hx=>by
  have h1:=aLO hx hp
  have h2:=hb x hx
  have h3:L.getD (L.length - 1) 0∈L:=by
    obtain ⟨i,hi,_⟩:=List.getElem_of_mem hx
    have h1:L.getD (L.length - 1) 0=L[L.length - 1]:=by simp [List.getD,List.getElem?_eq_getElem (show L.length - 1 < L.length by omega)]
    rw [h1]; exact List.getElem_mem _
  have:=hb _ h3
  omega
theorem aHC {L:List Nat} {n:Nat} (hn:1≤n) (h:L.getD (L.length - 1) 0≠1) (hp:L.Pairwise (fun x y=>y < x)) (hb:∀ x∈L,1≤x∧x≤n):L.length < n:=by
  rcases aIq (lo:=2) (by omega) hp (aJL h hp hb) with h9 | h9
  · omega
  · subst h9; exact hn
theorem aJJ {L:List Nat} {n:Nat} (h:L.getD (L.length - 1) 0≠1) (hp:L.Pairwise (fun x y=>y < x)) (hb:∀ x∈L,1≤x∧x≤n):(L++[1]).Pairwise (fun x y=>y < x):=by
  rw [List.pairwise_append]
  refine ⟨hp,List.pairwise_singleton ..,fun x hx y hy=>?_⟩
  have:=aJL h hp hb x hx
  rw [List.mem_singleton] at hy
  omega
theorem aLz {L:List Nat} {n:Nat} (hn:1≤n) (hb:∀ x∈L,1≤x∧x≤n):∀ x∈L++[1],1≤x∧x≤n:=fun x hx=>by
  rw [List.mem_append,List.mem_singleton] at hx
  rcases hx with hx | rfl
  · exact hb x hx
  · omega
theorem aNJ {f i j n:Nat} (hi:i < n) (hj:j < n) (he:(f+i) % n=(f+j) % n):i=j:=by
  have h1:=Nat.div_add_mod (f+i) n
  have h2:=Nat.div_add_mod (f+j) n
  rcases Nat.lt_trichotomy ((f+i) / n) ((f+j) / n) with h | h | h
  · have:=Nat.mul_le_mul_left n (show (f+i) / n+1≤(f+j) / n from h)
    rw [Nat.mul_add] at this; omega
  · rw [h] at h1; omega
  · have:=Nat.mul_le_mul_left n (show (f+j) / n+1≤(f+i) / n from h)
    rw [Nat.mul_add] at this; omega
theorem aJK {L put:List Nat} {n first now:Nat} (hpl:put.length=n) (hf:first < n) (hr:L.length < n) (hrel:∀ i,i < L.length→put.getD ((first+i) % n) 0+L.getD i 0=now+1) :
    ∀ i,i < (L++[1]).length→(put.set ((first+L.length) % n) now).getD ((first+i) % n) 0+(L++[1]).getD i 0=now+1:=fun i hi=>by
  have hm:(first+i) % n < n:=Nat.mod_lt _ (by omega)
  rw [List.length_append,List.length_singleton] at hi
  rcases Nat.lt_or_ge i L.length with h1 | h1
  · have hne:(first+L.length) % n≠(first+i) % n:=fun e=>by have:=aNJ hr (by omega) e; omega
    have e1:(put.set ((first+L.length) % n) now).getD ((first+i) % n) 0=put.getD ((first+i) % n) 0:=by simp [List.getD,List.getElem?_set_ne hne]
    have e2:(L++[1]).getD i 0=L.getD i 0:=by simp [List.getD,List.getElem?_append_left h1]
    rw [e1,e2]; exact hrel i h1
  · have:i=L.length:=by omega
    subst this
    have e1:(put.set ((first+L.length) % n) now).getD ((first+L.length) % n) 0=now:=by simp [List.getD,List.getElem?_set_self,hpl,hm]
    have e2:(L++[1]).getD L.length 0=1:=by simp [List.getD]
    rw [e1,e2]
set_option maxRecDepth 4000 in
theorem aDQ {ro:Ro} {h:T Obj} {p a n w nx:Nat} {L:List Nat} {K:KV} (hR:RI h p a n L w) (hw:w+1≤1000000) (hK:∀ h' nx',nx≤nx'→RI h' p a n (aNW L) (w+1)→qG h h' p a→K (.tuple #[]) h' nx'):aN Tryz.prog ro lV [ptr p] h nx K:=by
  have hln:=hR.len
  obtain ⟨put,first,now,gp,ga,hne,hpl,b1,b2,b3,b4,b5,hrel,hpw,hb⟩:=hR
  apply aBW
  unfold sT
  (repeat (first | refine aB (by simp (disch:=first | omega | exact Int.natCast_nonneg _ | assumption) only [decide_true,decide_false,Bool.not_true,Bool.not_false,dP,cT,cS,bL,b9,bO,eY,eV,eX,eW,cA,c7,dV,cM,b7,Option.bind_some,Value.cells_agg,cP,b8,cK,dC,cX,c8,cW,aR,aS,aW,aV,aU,aT,bH,bD,cB,cQ,cC,dJ,gJ,eP,cH,dX,cN,cO,cD,bQ,bP,eR,dW,dA,cI,bZ,bU,T.get_upd_same,T.get_upd_ne,bA,bK,tl,ts,if_pos,Nat.zero_add,Nat.mul_one,Nat.add_zero,Int.toNat_natCast,↓reduceIte,Nat.reduceLeDiff,Nat.reduceAdd,Nat.le_refl,kT,a8,gp,ga]<;>rfl) ?_ | refine aD ?_ | refine aE ?_ | with_reducible refine aG ?_ | with_reducible refine aF ?_ | with_reducible refine aH ?_ | with_reducible refine aI ?_ | with_reducible refine aK ?_ | with_reducible refine aJ ?_ | with_reducible refine aL ?_ | refine aC ?_))
  have gp1:(h.upd p (some (.cells (over (kW a n first L.length now w).toArray.toList 4 [.int .i64 ((w:Int)+1)]).toArray cE))).get p=some (.cells (kW a n first L.length now (w+1)).toArray cE):=by
    rw [T.get_upd_same]; rfl
  have ga1:(h.upd p (some (.cells (over (kW a n first L.length now w).toArray.toList 4 [.int .i64 ((w:Int)+1)]).toArray cE))).get a=some (.cells (oH put).toArray cF):=by rw [T.get_upd_ne _ _ (Ne.symm hne)]; exact ga
  have ho1:qG h (h.upd p (some (.cells (over (kW a n first L.length now w).toArray.toList 4 [.int .i64 ((w:Int)+1)]).toArray cE))) p a:=fun k k1 k2=>by rw [T.get_upd_ne _ _ k1]
  generalize (h.upd p (some (.cells (over (kW a n first L.length now w).toArray.toList 4 [.int .i64 ((w:Int)+1)]).toArray cE)))=h1 at gp1 ga1 ho1
  have hR1:RI h1 p a n L (w+1):=⟨put,first,now,gp1,ga1,hne,hpl,b1,b2,b3,by omega,hw,hrel,hpw,hb⟩
  (repeat (first | refine aB (by simp (disch:=first | omega | exact Int.natCast_nonneg _ | assumption) only [decide_true,decide_false,Bool.not_true,Bool.not_false,dP,cT,cS,bL,b9,bO,eY,eV,eX,eW,cA,c7,dV,cM,b7,Option.bind_some,Value.cells_agg,cP,b8,cK,dC,cX,c8,cW,aR,aS,aW,aV,aU,aT,bH,bD,cB,cQ,cC,dJ,gJ,eP,cH,dX,cN,cO,cD,bQ,bP,eR,dW,dA,cI,bZ,bU,T.get_upd_same,T.get_upd_ne,bA,bK,tl,ts,if_pos,Nat.zero_add,Nat.mul_one,Nat.add_zero,Int.toNat_natCast,↓reduceIte,Nat.reduceLeDiff,Nat.reduceAdd,Nat.le_refl,a8,gp1]<;>rfl) ?_ | refine aD ?_ | refine aE ?_ | with_reducible refine aG ?_ | with_reducible refine aF ?_ | with_reducible refine aH ?_ | with_reducible refine aI ?_ | with_reducible refine aK ?_ | with_reducible refine aJ ?_ | with_reducible refine aL ?_ | refine aC ?_))
  rcases Nat.eq_zero_or_pos L.length with hm | hm
  · have d:decide ((0:Int) < (L.length:Int))=false:=decide_eq_false (by omega)
    rw [d]
    have hlast:L.getD (L.length - 1) 0≠1:=by
      have:L=[]:=List.length_eq_zero_iff.1 hm
      subst this; decide
    (repeat (first | refine aB (by simp (disch:=first | omega | exact Int.natCast_nonneg _ | assumption) only [decide_true,decide_false,Bool.not_true,Bool.not_false,dP,cT,cS,bL,b9,bO,eY,eV,eX,eW,cA,c7,dV,cM,b7,Option.bind_some,Value.cells_agg,cP,b8,cK,dC,cX,c8,cW,aR,aS,aW,aV,aU,aT,bH,bD,cB,cQ,cC,dJ,gJ,eP,cH,dX,cN,cO,cD,bQ,bP,eR,dW,dA,cI,bZ,bU,T.get_upd_same,T.get_upd_ne,bA,bK,tl,ts,if_pos,Nat.zero_add,Nat.mul_one,Nat.add_zero,Int.toNat_natCast,↓reduceIte,Nat.reduceLeDiff,Nat.reduceAdd,Nat.le_refl]<;>rfl) ?_ | refine aD ?_ | refine aE ?_ | with_reducible refine aG ?_ | with_reducible refine aF ?_ | with_reducible refine aH ?_ | with_reducible refine aI ?_ | with_reducible refine aK ?_ | with_reducible refine aJ ?_ | with_reducible refine aL ?_ | refine aC ?_))
    (repeat (first | refine aB (by simp (disch:=first | omega | exact Int.natCast_nonneg _ | assumption) only [decide_true,decide_false,Bool.not_true,Bool.not_false,dP,cT,cS,bL,b9,bO,eY,eV,eX,eW,cA,c7,dV,cM,b7,Option.bind_some,Value.cells_agg,cP,b8,cK,dC,cX,c8,cW,aR,aS,aW,aV,aU,aT,bH,bD,cB,cQ,cC,dJ,gJ,eP,cH,dX,cN,cO,cD,bQ,bP,eR,dW,dA,cI,bZ,bU,T.get_upd_same,T.get_upd_ne,bA,bK,tl,ts,if_pos,Nat.zero_add,Nat.mul_one,Nat.add_zero,Int.toNat_natCast,↓reduceIte,Nat.reduceLeDiff,Nat.reduceAdd,Nat.le_refl,a8,gp1,aCL]<;>rfl) ?_ | refine aD ?_ | refine aE ?_ | with_reducible refine aG ?_ | with_reducible refine aF ?_ | with_reducible refine aH ?_ | with_reducible refine aI ?_ | with_reducible refine aK ?_ | with_reducible refine aJ ?_ | with_reducible refine aL ?_ | refine aC ?_))
    have hcase:(first+L.length) % n < n:=Nat.mod_lt _ (by omega)
    refine aB (aCE _ _ _ _ hcase) ?_
    refine aB (dZ (v:=.int .i64 _) (l:=oH put) ga1 (by rw [aGz]; omega) rfl rfl) ?_
    rw [aHA]
    have gp2:(h1.upd a (some (.cells (oH (put.set ((first+L.length) % n) now)).toArray cF))).get p=some (.cells (kW a n first L.length now (w+1)).toArray cE):=by rw [T.get_upd_ne _ _ hne]; exact gp1
    have ga2:(h1.upd a (some (.cells (oH (put.set ((first+L.length) % n) now)).toArray cF))).get a=some (.cells (oH (put.set ((first+L.length) % n) now)).toArray cF):=T.get_upd_same _ _ _
    have ho2:qG h (h1.upd a (some (.cells (oH (put.set ((first+L.length) % n) now)).toArray cF))) p a:=fun k k1 k2=>by rw [T.get_upd_ne _ _ k2]; exact ho1 k k1 k2
    generalize (h1.upd a (some (.cells (oH (put.set ((first+L.length) % n) now)).toArray cF)))=h2 at gp2 ga2 ho2
    (repeat (first | refine aB (by simp (disch:=first | omega | exact Int.natCast_nonneg _ | assumption) only [decide_true,decide_false,Bool.not_true,Bool.not_false,dP,cT,cS,bL,b9,bO,eY,eV,eX,eW,cA,c7,dV,cM,b7,Option.bind_some,Value.cells_agg,cP,b8,cK,dC,cX,c8,cW,aR,aS,aW,aV,aU,aT,bH,bD,cB,cQ,cC,dJ,gJ,eP,cH,dX,cN,cO,cD,bQ,bP,eR,dW,dA,cI,bZ,bU,T.get_upd_same,T.get_upd_ne,bA,bK,tl,ts,if_pos,Nat.zero_add,Nat.mul_one,Nat.add_zero,Int.toNat_natCast,↓reduceIte,Nat.reduceLeDiff,Nat.reduceAdd,Nat.le_refl,a8,gp2]<;>rfl) ?_ | refine aD ?_ | refine aE ?_ | with_reducible refine aG ?_ | with_reducible refine aF ?_ | with_reducible refine aH ?_ | with_reducible refine aI ?_ | with_reducible refine aK ?_ | with_reducible refine aJ ?_ | with_reducible refine aL ?_ | refine aC ?_))
    have gp3:(h2.upd p (some (.cells (over (kW a n first L.length now (w+1)).toArray.toList 2 [.int .i64 ((L.length:Int)+1)]).toArray cE))).get p=some (.cells (kW a n first (L++[1]).length now (w+1)).toArray cE):=by
      rw [T.get_upd_same,List.length_append]; rfl
    refine ⟨_,Sub.refl _,hK _ _ (by omega) ?_ ?_⟩
    · rw [aE9 hlast]
      exact ⟨put.set ((first+L.length) % n) now,first,now,gp3,by rw [T.get_upd_ne _ _ (Ne.symm hne)]; exact ga2,hne,by rw [List.length_set]; exact hpl,b1,b2,b3,by omega,hw,aJK hpl b3 (aHC b1 hlast hpw hb) hrel,aJJ hlast hpw hb,aLz b1 hb⟩
    · exact fun k k1 k2=>by rw [T.get_upd_ne _ _ k1]; exact ho2 k k1 k2
  · have d:decide ((0:Int) < (L.length:Int))=true:=decide_eq_true (by omega)
    rw [d]
    (repeat (first | refine aB (by simp (disch:=first | omega | exact Int.natCast_nonneg _ | assumption) only [decide_true,decide_false,Bool.not_true,Bool.not_false,dP,cT,cS,bL,b9,bO,eY,eV,eX,eW,cA,c7,dV,cM,b7,Option.bind_some,Value.cells_agg,cP,b8,cK,dC,cX,c8,cW,aR,aS,aW,aV,aU,aT,bH,bD,cB,cQ,cC,dJ,gJ,eP,cH,dX,cN,cO,cD,bQ,bP,eR,dW,dA,cI,bZ,bU,T.get_upd_same,T.get_upd_ne,bA,bK,tl,ts,if_pos,Nat.zero_add,Nat.mul_one,Nat.add_zero,Int.toNat_natCast,↓reduceIte,Nat.reduceLeDiff,Nat.reduceAdd,Nat.le_refl,a8,gp1]<;>rfl) ?_ | refine aD ?_ | refine aE ?_ | with_reducible refine aG ?_ | with_reducible refine aF ?_ | with_reducible refine aH ?_ | with_reducible refine aI ?_ | with_reducible refine aK ?_ | with_reducible refine aJ ?_ | with_reducible refine aL ?_ | refine aC ?_))
    have e:(L.length:Int) - 1=((L.length - 1:Nat):Int):=by omega
    rw [e]
    refine pW (i:=L.length - 1) hR1 (by omega) fun n4 hn4=>?_
    (repeat (first | refine aB (by simp (disch:=first | omega | exact Int.natCast_nonneg _ | assumption) only [decide_true,decide_false,Bool.not_true,Bool.not_false,dP,cT,cS,bL,b9,bO,eY,eV,eX,eW,cA,c7,dV,cM,b7,Option.bind_some,Value.cells_agg,cP,b8,cK,dC,cX,c8,cW,aR,aS,aW,aV,aU,aT,bH,bD,cB,cQ,cC,dJ,gJ,eP,cH,dX,cN,cO,cD,bQ,bP,eR,dW,dA,cI,bZ,bU,T.get_upd_same,T.get_upd_ne,bA,bK,tl,ts,if_pos,Nat.zero_add,Nat.mul_one,Nat.add_zero,Int.toNat_natCast,↓reduceIte,Nat.reduceLeDiff,Nat.reduceAdd,Nat.le_refl]<;>rfl) ?_ | refine aD ?_ | refine aE ?_ | with_reducible refine aG ?_ | with_reducible refine aF ?_ | with_reducible refine aH ?_ | with_reducible refine aI ?_ | with_reducible refine aK ?_ | with_reducible refine aJ ?_ | with_reducible refine aL ?_ | refine aC ?_))
    by_cases hlast:L.getD (L.length - 1) 0=1
    · rw [decide_eq_true (show ((L.getD (L.length - 1) 0:Nat):Int)=1 by omega)]
      (repeat (first | refine aB (by simp (disch:=first | omega | exact Int.natCast_nonneg _ | assumption) only [decide_true,decide_false,Bool.not_true,Bool.not_false,dP,cT,cS,bL,b9,bO,eY,eV,eX,eW,cA,c7,dV,cM,b7,Option.bind_some,Value.cells_agg,cP,b8,cK,dC,cX,c8,cW,aR,aS,aW,aV,aU,aT,bH,bD,cB,cQ,cC,dJ,gJ,eP,cH,dX,cN,cO,cD,bQ,bP,eR,dW,dA,cI,bZ,bU,T.get_upd_same,T.get_upd_ne,bA,bK,tl,ts,if_pos,Nat.zero_add,Nat.mul_one,Nat.add_zero,Int.toNat_natCast,↓reduceIte,Nat.reduceLeDiff,Nat.reduceAdd,Nat.le_refl]<;>rfl) ?_ | refine aD ?_ | refine aE ?_ | with_reducible refine aG ?_ | with_reducible refine aF ?_ | with_reducible refine aH ?_ | with_reducible refine aI ?_ | with_reducible refine aK ?_ | with_reducible refine aJ ?_ | with_reducible refine aL ?_ | refine aC ?_))
      refine ⟨_,Sub.refl _,hK _ _ (by omega) ?_ ho1⟩
      unfold aNW
      rw [if_pos hlast]
      exact hR1
    rw [decide_eq_false (show ¬ ((L.getD (L.length - 1) 0:Nat):Int)=1 by omega)]
    (repeat (first | refine aB (by simp (disch:=first | omega | exact Int.natCast_nonneg _ | assumption) only [decide_true,decide_false,Bool.not_true,Bool.not_false,dP,cT,cS,bL,b9,bO,eY,eV,eX,eW,cA,c7,dV,cM,b7,Option.bind_some,Value.cells_agg,cP,b8,cK,dC,cX,c8,cW,aR,aS,aW,aV,aU,aT,bH,bD,cB,cQ,cC,dJ,gJ,eP,cH,dX,cN,cO,cD,bQ,bP,eR,dW,dA,cI,bZ,bU,T.get_upd_same,T.get_upd_ne,bA,bK,tl,ts,if_pos,Nat.zero_add,Nat.mul_one,Nat.add_zero,Int.toNat_natCast,↓reduceIte,Nat.reduceLeDiff,Nat.reduceAdd,Nat.le_refl]<;>rfl) ?_ | refine aD ?_ | refine aE ?_ | with_reducible refine aG ?_ | with_reducible refine aF ?_ | with_reducible refine aH ?_ | with_reducible refine aI ?_ | with_reducible refine aK ?_ | with_reducible refine aJ ?_ | with_reducible refine aL ?_ | refine aC ?_))
    (repeat (first | refine aB (by simp (disch:=first | omega | exact Int.natCast_nonneg _ | assumption) only [decide_true,decide_false,Bool.not_true,Bool.not_false,dP,cT,cS,bL,b9,bO,eY,eV,eX,eW,cA,c7,dV,cM,b7,Option.bind_some,Value.cells_agg,cP,b8,cK,dC,cX,c8,cW,aR,aS,aW,aV,aU,aT,bH,bD,cB,cQ,cC,dJ,gJ,eP,cH,dX,cN,cO,cD,bQ,bP,eR,dW,dA,cI,bZ,bU,T.get_upd_same,T.get_upd_ne,bA,bK,tl,ts,if_pos,Nat.zero_add,Nat.mul_one,Nat.add_zero,Int.toNat_natCast,↓reduceIte,Nat.reduceLeDiff,Nat.reduceAdd,Nat.le_refl,a8,gp1,aCL]<;>rfl) ?_ | refine aD ?_ | refine aE ?_ | with_reducible refine aG ?_ | with_reducible refine aF ?_ | with_reducible refine aH ?_ | with_reducible refine aI ?_ | with_reducible refine aK ?_ | with_reducible refine aJ ?_ | with_reducible refine aL ?_ | refine aC ?_))
    have hcase:(first+L.length) % n < n:=Nat.mod_lt _ (by omega)
    refine aB (aCE _ _ _ _ hcase) ?_
    refine aB (dZ (v:=.int .i64 _) (l:=oH put) ga1 (by rw [aGz]; omega) rfl rfl) ?_
    rw [aHA]
    have gp2:(h1.upd a (some (.cells (oH (put.set ((first+L.length) % n) now)).toArray cF))).get p=some (.cells (kW a n first L.length now (w+1)).toArray cE):=by rw [T.get_upd_ne _ _ hne]; exact gp1
    have ga2:(h1.upd a (some (.cells (oH (put.set ((first+L.length) % n) now)).toArray cF))).get a=some (.cells (oH (put.set ((first+L.length) % n) now)).toArray cF):=T.get_upd_same _ _ _
    have ho2:qG h (h1.upd a (some (.cells (oH (put.set ((first+L.length) % n) now)).toArray cF))) p a:=fun k k1 k2=>by rw [T.get_upd_ne _ _ k2]; exact ho1 k k1 k2
    generalize (h1.upd a (some (.cells (oH (put.set ((first+L.length) % n) now)).toArray cF)))=h2 at gp2 ga2 ho2
    (repeat (first | refine aB (by simp (disch:=first | omega | exact Int.natCast_nonneg _ | assumption) only [decide_true,decide_false,Bool.not_true,Bool.not_false,dP,cT,cS,bL,b9,bO,eY,eV,eX,eW,cA,c7,dV,cM,b7,Option.bind_some,Value.cells_agg,cP,b8,cK,dC,cX,c8,cW,aR,aS,aW,aV,aU,aT,bH,bD,cB,cQ,cC,dJ,gJ,eP,cH,dX,cN,cO,cD,bQ,bP,eR,dW,dA,cI,bZ,bU,T.get_upd_same,T.get_upd_ne,bA,bK,tl,ts,if_pos,Nat.zero_add,Nat.mul_one,Nat.add_zero,Int.toNat_natCast,↓reduceIte,Nat.reduceLeDiff,Nat.reduceAdd,Nat.le_refl,a8,gp2]<;>rfl) ?_ | refine aD ?_ | refine aE ?_ | with_reducible refine aG ?_ | with_reducible refine aF ?_ | with_reducible refine aH ?_ | with_reducible refine aI ?_ | with_reducible refine aK ?_ | with_reducible refine aJ ?_ | with_reducible refine aL ?_ | refine aC ?_))
    have gp3:(h2.upd p (some (.cells (over (kW a n first L.length now (w+1)).toArray.toList 2 [.int .i64 ((L.length:Int)+1)]).toArray cE))).get p=some (.cells (kW a n first (L++[1]).length now (w+1)).toArray cE):=by
      rw [T.get_upd_same,List.length_append]; rfl
    refine ⟨_,Sub.refl _,hK _ _ (by omega) ?_ ?_⟩
    · rw [aE9 hlast]
      exact ⟨put.set ((first+L.length) % n) now,first,now,gp3,by rw [T.get_upd_ne _ _ (Ne.symm hne)]; exact ga2,hne,by rw [List.length_set]; exact hpl,b1,b2,b3,by omega,hw,aJK hpl b3 (aHC b1 hlast hpw hb) hrel,aJJ hlast hpw hb,aLz b1 hb⟩
    · exact fun k k1 k2=>by rw [T.get_upd_ne _ _ k1]; exact ho2 k k1 k2
def jK (l:List Nat):List (List Value):=l.map fun b:Nat=>[Value.int .i64 (b:Int)]
theorem yF (l:List Nat):(jK l).length=l.length:=by simp [jK]
theorem aNA (aid:Nat) (b:Int):a7 Tryz.prog dD aid 1 [(0,.int .i64 b)]=some (.slice (some (own aid 1)) 1 1,some (.cells #[.int .i64 b] cF)):=by kernel_rfl
theorem aHa:und Tryz.prog dD=some (.slice cF):=by kernel_rfl
theorem aJT:∃ i,tin Tryz.prog cF=some i∧i.size=1∧i.bytes=8:=by
  have h:(tin Tryz.prog cF).map (fun i=>(i.size,i.bytes))=some (1,8):=by kernel_rfl
  cases hi:tin Tryz.prog cF with
  | none=>rw [hi] at h; cases h
  | some i=>rw [hi] at h; simp at h; exact ⟨i,rfl,h.1,h.2⟩
theorem aJW:zer Tryz.prog cF=some (.int .i64 0):=by kernel_rfl
theorem aHj {ro:Ro} {h:T Obj} {v x:Value} {nx lo hi:Nat} {l:List Nat} {b:Nat} (ho:Own h v 1 cF (jK l) lo hi) (hx:Sl ro h x 1 (jK [b])) (hb:l.length≤1000000) (hlo:lo≤nx) (hnx:hi≤nx) :
    ∃ h' r,bX Tryz.prog ro h nx #[dD,dD] [v,x]=some (r,h',nx+1)∧Own h' r 1 cF (jK (l++[b])) lo (nx+1)∧(∀ k,(k < lo∨hi≤k)→k≠nx→h'.get k=h.get k)∧(∀ k,k≠nx→h'.get k=h.get k∨h'.get k=none):=by
  obtain ⟨i,h1,h2,h3⟩:=aJT
  have hcat:jK l++jK [b]=jK (l++[b]):=by simp [jK]
  have hl1:(jK l).length=l.length:=yF l
  have hl2:(jK [b]).length=1:=rfl
  obtain ⟨h',q1,q2,q3,q4⟩:=tU (P:=Tryz.prog) (t:=dD) ho hx aHa h1 h2 (by omega) aJW rfl (by simp [jK]) rfl (by rw [hl1,hl2,h3]; unfold big; omega) (by rw [hl1,hl2]; unfold big; omega) hlo hnx
  rw [hcat] at q1 q2
  exact ⟨h',_,q1,q2,q3,q4⟩
theorem aEo {ro:Ro} {h h0:T Obj} {v:Value} {n1 lo hi nx nx0:Nat} {l:List Nat} {b:Nat} {K:Value × T Obj × Nat→Prop} (ho:Own h v 1 cF (jK l) lo hi) (hl:l.length≤1000000) (hf:Fr h nx) (hs:Sub h0 h) (hf0:Fr h0 nx0) (hlo0:nx0≤lo) (hlo:lo≤hi) (hn:hi≤n1) (hnx:nx≤n1)
    {n2:Nat} (hn2:n1 < n2)
    (hK:∀ h' r,Own h' r 1 cF (jK (l++[b])) lo (n2+1)→Sub h0 h'→Fr h' (n2+1)→(∀ k,(k < lo∨hi≤k)→k≠n2→k≠n1→h'.get k=h.get k)→K (r,h',n2+1)) :
    aA (a7 Tryz.prog dD n1 1 [(0,.int .i64 (b:Int))]) fun r=>eG h n1 r.2 fun h'=>aA (bX Tryz.prog ro h' n2 #[dD,dD] [v,r.1]) K:=by
  refine aB (aNA _ _) (aE ?_)
  have ho2:Own (h.upd n1 (some (.cells #[.int .i64 (b:Int)] cF))) v 1 cF (jK l) lo hi:=ho.keep (Nat.le_refl _) fun id h1 h2 o hg=>by rw [T.get_upd_ne _ _ (by omega)]; exact hg
  have hx1:Sl ro (h.upd n1 (some (.cells #[.int .i64 (b:Int)] cF))) (.slice (some (own n1 1)) 1 1) 1 (jK [b]):=Sl.own (l:=jK [b]) (by rw [T.get_upd_same]; rfl) (by simp [jK]) (Nat.le_refl _)
  obtain ⟨h2,r,q1,q2,q3,q4⟩:=aHj (nx:=n2) ho2 hx1 hl (by omega) (by omega)
  refine aB q1 (hK h2 r q2 ?_ ?_ ?_)
  · intro k o hk
    have hkn:=hf0.lt hk
    rw [q3 k (.inl (by omega)) (by omega),T.get_upd_ne _ _ (by omega)]
    exact hs k o hk
  · intro k hk
    rw [q3 k (.inr (by omega)) (by omega),T.get_upd_ne _ _ (by omega)]
    exact hf k (by omega)
  · intro k hk h3 h4
    rw [q3 k hk h3,T.get_upd_ne _ _ h4]
theorem RI.sub {h h':T Obj} {p a n w:Nat} {L:List Nat} (hR:RI h p a n L w) (hs:Sub h h'):RI h' p a n L w:=by
  obtain ⟨put,first,now,gp,ga,hr⟩:=hR
  exact ⟨put,first,now,hs _ _ gp,hs _ _ ga,hr⟩
set_option maxRecDepth 4000 in
theorem aHP {ro:Ro} {h:T Obj} {p a n w nx:Nat} {L:List Nat} {K:KV} (hR:RI h p a n L w) (hf:Fr h nx) (hK:∀ r h' nx',nx≤nx'→Sub h h'→Fr h' nx'→Own h' r 1 cF (jK L.reverse) nx nx'→K r h' nx'):aN Tryz.prog ro oD [ptr p] h nx K:=by
  have hln:=hR.len
  have hn:n≤4096:=by obtain ⟨put,first,now,gp,ga,hne,hpl,b1,b2,_⟩:=hR; exact b2
  apply aAj
  unfold rB
  refine aAE hR fun n2 hn2=>?_
  (repeat (first | refine aB (by simp (disch:=first | omega | exact Int.natCast_nonneg _ | assumption) only [decide_true,decide_false,Bool.not_true,Bool.not_false,dP,cT,cS,bL,b9,bO,eY,eV,eX,eW,cA,c7,dV,cM,b7,Option.bind_some,Value.cells_agg,cP,b8,cK,dC,cX,c8,cW,aR,aS,aW,aV,aU,aT,bH,bD,cB,cQ,cC,dJ,gJ,eP,cH,dX,cN,cO,cD,bQ,bP,eR,dW,dA,cI,bZ,bU,T.get_upd_same,T.get_upd_ne,bA,bK,tl,ts,if_pos,Nat.zero_add,Nat.mul_one,Nat.add_zero,Int.toNat_natCast,↓reduceIte,Nat.reduceLeDiff,Nat.reduceAdd,Nat.le_refl]<;>rfl) ?_ | refine aD ?_ | refine aE ?_ | with_reducible refine aG ?_ | with_reducible refine aF ?_ | with_reducible refine aH ?_ | with_reducible refine aI ?_ | with_reducible refine aK ?_ | with_reducible refine aJ ?_ | with_reducible refine aL ?_ | refine aC ?_))
  refine bI (fun j e h' nx'=>∃ (lv:Value),j≤L.length∧nx≤nx'∧e 0=ptr p∧e 3=lv∧e 4=.int .i64 ((j:Int) - 1)∧Sub h h'∧Fr h' nx' ∧
    Own h' lv 1 cF (jK (L.reverse.take (L.length - j))) nx nx') ?_ (n:=L.length) ⟨_,by omega,by omega,rfl,rfl,rfl,Sub.refl _,hf.mono (by omega),?_⟩
  · rintro j e h' nx' ⟨lv,hj,hnx,e0,e3,e4,hs,hf',ho⟩ Q' hq hx
    unfold rX
    rw [e0,e3,e4]
    (repeat (first | refine aB (by simp (disch:=first | omega | exact Int.natCast_nonneg _ | assumption) only [decide_true,decide_false,Bool.not_true,Bool.not_false,dP,cT,cS,bL,b9,bO,eY,eV,eX,eW,cA,c7,dV,cM,b7,Option.bind_some,Value.cells_agg,cP,b8,cK,dC,cX,c8,cW,aR,aS,aW,aV,aU,aT,bH,bD,cB,cQ,cC,dJ,gJ,eP,cH,dX,cN,cO,cD,bQ,bP,eR,dW,dA,cI,bZ,bU,T.get_upd_same,T.get_upd_ne,bA,bK,tl,ts,if_pos,Nat.zero_add,Nat.mul_one,Nat.add_zero,Int.toNat_natCast,↓reduceIte,Nat.reduceLeDiff,Nat.reduceAdd,Nat.le_refl]<;>rfl) ?_ | refine aD ?_ | refine aE ?_ | with_reducible refine aG ?_ | with_reducible refine aF ?_ | with_reducible refine aH ?_ | with_reducible refine aI ?_ | with_reducible refine aK ?_ | with_reducible refine aJ ?_ | with_reducible refine aL ?_ | refine aC ?_))
    by_cases h0:0 < j
    · refine fS (by simp; omega) ?_
      have e:(j:Int) - 1=((j - 1:Nat):Int):=by omega
      rw [e]
      refine pW (i:=j - 1) (hR.sub hs) (by omega) fun n3 hn3=>?_
      refine aEo (h0:=h) (nx0:=nx) (nx:=nx') (lo:=nx) (hi:=nx') ho (by rw [List.length_take]; omega) hf' hs hf (by omega) (by omega) (by omega) (by omega) (by omega) fun h2 r q1 q2 q3 q4=>?_
      dsimp only
      (repeat (first | refine aB (by simp (disch:=first | omega | exact Int.natCast_nonneg _ | assumption) only [decide_true,decide_false,Bool.not_true,Bool.not_false,dP,cT,cS,bL,b9,bO,eY,eV,eX,eW,cA,c7,dV,cM,b7,Option.bind_some,Value.cells_agg,cP,b8,cK,dC,cX,c8,cW,aR,aS,aW,aV,aU,aT,bH,bD,cB,cQ,cC,dJ,gJ,eP,cH,dX,cN,cO,cD,bQ,bP,eR,dW,dA,cI,bZ,bU,T.get_upd_same,T.get_upd_ne,bA,bK,tl,ts,if_pos,Nat.zero_add,Nat.mul_one,Nat.add_zero,Int.toNat_natCast,↓reduceIte,Nat.reduceLeDiff,Nat.reduceAdd,Nat.le_refl]<;>rfl) ?_ | refine aD ?_ | refine aE ?_ | with_reducible refine aG ?_ | with_reducible refine aF ?_ | with_reducible refine aH ?_ | with_reducible refine aI ?_ | with_reducible refine aK ?_ | with_reducible refine aJ ?_ | with_reducible refine aL ?_ | refine aC ?_))
      refine hq (j - 1) _ _ _ _ (by omega) ⟨r,by omega,by omega,e0,rfl,rfl,q2,q3.mono (by omega),?_⟩ (Sub.refl _)
      have e9:L.reverse.take (L.length - (j - 1))=L.reverse.take (L.length - j)++[L.getD (j - 1) 0]:=by
        have:L.length - (j - 1)=L.length - j+1:=by omega
        rw [this,List.take_succ_eq_append_getElem (by rw [List.length_reverse]; omega)]
        rw [List.getElem_reverse]
        have:L.length - 1 - (L.length - j)=j - 1:=by omega
        simp [List.getD,List.getElem?_eq_getElem (show j - 1 < L.length by omega),this]
      rw [e9]
      exact q1.keep (by omega) fun _ _ _ _ hg=>hg
    · refine fR (by simp; omega) ?_
      refine hx _ _ _ _ (fun e=>by cases e) (fG (dR ?_))
      have hj0:j=0:=by omega
      subst hj0
      unfold nQ
      have f3:∀ a b,Env.put (Env.put e 8 a) 9 b 3=lv:=fun a b=>e3
      simp only [puts,f3]
      rw [Nat.sub_zero,List.take_of_length_le (by rw [List.length_reverse]; exact Nat.le_refl _)] at ho
      exact ⟨h',Sub.refl _,hK _ _ _ (by omega) hs (hf'.mono (by omega)) (ho.keep (by omega) fun _ _ _ _ hg=>hg)⟩
  · rw [Nat.sub_self,List.take_zero]
    exact Own.nil
theorem aFd {ro:Ro} {h:T Obj} {p a n first m now w i x nx:Nat} {put:List Nat} {K:KV} (gp:h.get p=some (.cells (kW a n first m now w).toArray cE)) (ga:h.get a=some (.cells (oH put).toArray cF)) (hpl:put.length=n) (h1:1≤n) (h2:n≤4096) (h3:first < n) (h4:now≤2000000) (hi:i≤4096) (hr:put.getD ((first+i) % n) 0+x=now+1) (hK:∀ nx',nx≤nx'→K (.int .i64 (x:Nat)) h nx'):aN Tryz.prog ro fD [ptr p,.int .i64 (i:Int)] h nx K:=by
  apply rD
  unfold lW
  have hm:(first+i) % n < n:=Nat.mod_lt _ (by omega)
  have hm2:(first+i) % n < put.length:=by omega
  (repeat (first | refine aB (by simp (disch:=first | omega | exact Int.natCast_nonneg _ | assumption) only [decide_true,decide_false,Bool.not_true,Bool.not_false,dP,cT,cS,bL,b9,bO,eY,eV,eX,eW,cA,c7,dV,cM,b7,Option.bind_some,Value.cells_agg,cP,b8,cK,dC,cX,c8,cW,aR,aS,aW,aV,aU,aT,bH,bD,cB,cQ,cC,dJ,gJ,eP,cH,dX,cN,cO,cD,bQ,bP,eR,dW,dA,cI,bZ,bU,T.get_upd_same,T.get_upd_ne,bA,bK,tl,ts,if_pos,Nat.zero_add,Nat.mul_one,Nat.add_zero,Int.toNat_natCast,↓reduceIte,Nat.reduceLeDiff,Nat.reduceAdd,Nat.le_refl,a8,gp,ga,aCL,aCE,aGy]<;>rfl) ?_ | refine aD ?_ | refine aE ?_ | with_reducible refine aG ?_ | with_reducible refine aF ?_ | with_reducible refine aH ?_ | with_reducible refine aI ?_ | with_reducible refine aK ?_ | with_reducible refine aJ ?_ | with_reducible refine aL ?_ | refine aC ?_))
  refine ⟨h,Sub.refl _,?_⟩
  have e:(now:Int) - (put.getD ((first+i) % n) 0:Nat)+1=(x:Nat):=by omega
  rw [e]
  exact hK _ (by omega)
def zW (n:Nat) (L:List Nat):List Nat:=if n≤L.getD 0 0 then (L.map (·+1)).tail else L.map (·+1)
theorem aJr {L:List Nat} {i:Nat} (hi:i < L.length):(L.map (·+1)).getD i 0=L.getD i 0+1:=by
  simp [List.getD,hi]
theorem aIF {L:List Nat} {i:Nat} (hi:i+1 < L.length):(L.map (·+1)).tail.getD i 0=L.getD (i+1) 0+1:=by
  simp [List.getD,hi]
theorem aIr {L:List Nat} (hp:L.Pairwise (fun x y=>y < x)):(L.map (·+1)).Pairwise (fun x y=>y < x):=by
  rw [List.pairwise_map]
  exact hp.imp fun h=>by omega
theorem aJq {L:List Nat} {x:Nat} (hp:L.Pairwise (fun x y=>y < x)) (hx:x∈L):x≤L.getD 0 0:=by
  cases L with
  | nil=>cases hx
  | cons y r =>
    rw [List.pairwise_cons] at hp
    rcases List.mem_cons.1 hx with rfl | h
    · exact Nat.le_refl _
    · exact Nat.le_of_lt (hp.1 x h)
theorem aLH {L:List Nat} {n:Nat} (hp:L.Pairwise (fun x y=>y < x)) (hb:∀ x∈L,1≤x∧x≤n):∀ x∈zW n L,1≤x∧x≤n:=fun x hx=>by
  unfold zW at hx
  by_cases h:n≤L.getD 0 0
  · rw [if_pos h] at hx
    cases L with
    | nil=>cases hx
    | cons y r =>
      rw [List.map_cons,List.tail_cons,List.mem_map] at hx
      obtain ⟨z,hz,rfl⟩:=hx
      rw [List.pairwise_cons] at hp
      have h1:=hp.1 z hz
      have h2:=hb y (List.mem_cons_self ..)
      omega
  · rw [if_neg h,List.mem_map] at hx
    obtain ⟨z,hz,rfl⟩:=hx
    have:=aJq hp hz
    omega
theorem aJA {L:List Nat} {n:Nat} (hp:L.Pairwise (fun x y=>y < x)):(zW n L).Pairwise (fun x y=>y < x):=by
  unfold zW
  by_cases h:n≤L.getD 0 0
  · rw [if_pos h]; exact (aIr hp).sublist (List.tail_sublist _)
  · rw [if_neg h]; exact aIr hp
theorem aL6 {f i n:Nat}:((f+1) % n+i) % n=(f+(i+1)) % n:=by
  rw [Nat.add_mod,Nat.mod_mod,← Nat.add_mod]; congr 1; omega
set_option maxRecDepth 4000 in
theorem aDO {ro:Ro} {h:T Obj} {p a n w nx:Nat} {L:List Nat} {K:KV} (hR:RI h p a n L w) (hw:w+1≤1000000) (hK:∀ h' nx',nx≤nx'→RI h' p a n (zW n L) (w+1)→qG h h' p a→K (.tuple #[]) h' nx'):aN Tryz.prog ro lU [ptr p] h nx K:=by
  have hln:=hR.len
  obtain ⟨put,first,now,gp,ga,hne,hpl,b1,b2,b3,b4,b5,hrel,hpw,hb⟩:=hR
  apply aBO
  unfold sP
  (repeat (first | refine aB (by simp (disch:=first | omega | exact Int.natCast_nonneg _ | assumption) only [decide_true,decide_false,Bool.not_true,Bool.not_false,dP,cT,cS,bL,b9,bO,eY,eV,eX,eW,cA,c7,dV,cM,b7,Option.bind_some,Value.cells_agg,cP,b8,cK,dC,cX,c8,cW,aR,aS,aW,aV,aU,aT,bH,bD,cB,cQ,cC,dJ,gJ,eP,cH,dX,cN,cO,cD,bQ,bP,eR,dW,dA,cI,bZ,bU,T.get_upd_same,T.get_upd_ne,bA,bK,tl,ts,if_pos,Nat.zero_add,Nat.mul_one,Nat.add_zero,Int.toNat_natCast,↓reduceIte,Nat.reduceLeDiff,Nat.reduceAdd,Nat.le_refl,kT,a8,gp,ga]<;>rfl) ?_ | refine aD ?_ | refine aE ?_ | with_reducible refine aG ?_ | with_reducible refine aF ?_ | with_reducible refine aH ?_ | with_reducible refine aI ?_ | with_reducible refine aK ?_ | with_reducible refine aJ ?_ | with_reducible refine aL ?_ | refine aC ?_))
  have gp1:((h.upd p (some (.cells (over (kW a n first L.length now w).toArray.toList 4 [.int .i64 ((w:Int)+1)]).toArray cE))).upd p (some (.cells (over (over (kW a n first L.length now w).toArray.toList 4 [.int .i64 ((w:Int)+1)]).toArray.toList 3 [.int .i64 ((now:Int)+1)]).toArray cE))).get p=some (.cells (kW a n first L.length (now+1) (w+1)).toArray cE):=by
    rw [T.get_upd_same]; rfl
  have ga1:((h.upd p (some (.cells (over (kW a n first L.length now w).toArray.toList 4 [.int .i64 ((w:Int)+1)]).toArray cE))).upd p (some (.cells (over (over (kW a n first L.length now w).toArray.toList 4 [.int .i64 ((w:Int)+1)]).toArray.toList 3 [.int .i64 ((now:Int)+1)]).toArray cE))).get a=some (.cells (oH put).toArray cF):=by rw [T.get_upd_ne _ _ (Ne.symm hne),T.get_upd_ne _ _ (Ne.symm hne)]; exact ga
  have ho1:qG h ((h.upd p (some (.cells (over (kW a n first L.length now w).toArray.toList 4 [.int .i64 ((w:Int)+1)]).toArray cE))).upd p (some (.cells (over (over (kW a n first L.length now w).toArray.toList 4 [.int .i64 ((w:Int)+1)]).toArray.toList 3 [.int .i64 ((now:Int)+1)]).toArray cE))) p a:=fun k k1 k2=>by rw [T.get_upd_ne _ _ k1,T.get_upd_ne _ _ k1]
  generalize ((h.upd p (some (.cells (over (kW a n first L.length now w).toArray.toList 4 [.int .i64 ((w:Int)+1)]).toArray cE))).upd p (some (.cells (over (over (kW a n first L.length now w).toArray.toList 4 [.int .i64 ((w:Int)+1)]).toArray.toList 3 [.int .i64 ((now:Int)+1)]).toArray cE)))=h1 at gp1 ga1 ho1
  rcases Nat.eq_zero_or_pos L.length with hm | hm
  · have d:decide ((0:Int) < (L.length:Int))=false:=decide_eq_false (by omega)
    rw [d]
    (repeat (first | refine aB (by simp (disch:=first | omega | exact Int.natCast_nonneg _ | assumption) only [decide_true,decide_false,Bool.not_true,Bool.not_false,dP,cT,cS,bL,b9,bO,eY,eV,eX,eW,cA,c7,dV,cM,b7,Option.bind_some,Value.cells_agg,cP,b8,cK,dC,cX,c8,cW,aR,aS,aW,aV,aU,aT,bH,bD,cB,cQ,cC,dJ,gJ,eP,cH,dX,cN,cO,cD,bQ,bP,eR,dW,dA,cI,bZ,bU,T.get_upd_same,T.get_upd_ne,bA,bK,tl,ts,if_pos,Nat.zero_add,Nat.mul_one,Nat.add_zero,Int.toNat_natCast,↓reduceIte,Nat.reduceLeDiff,Nat.reduceAdd,Nat.le_refl]<;>rfl) ?_ | refine aD ?_ | refine aE ?_ | with_reducible refine aG ?_ | with_reducible refine aF ?_ | with_reducible refine aH ?_ | with_reducible refine aI ?_ | with_reducible refine aK ?_ | with_reducible refine aJ ?_ | with_reducible refine aL ?_ | refine aC ?_))
    refine ⟨_,Sub.refl _,hK _ _ (by omega) ?_ ho1⟩
    have hL:L=[]:=List.length_eq_zero_iff.1 hm
    subst hL
    have hi:zW n []=[]:=by unfold zW; rw [if_neg (show ¬ n≤([]:List Nat).getD 0 0 by simp; omega)]; rfl
    rw [hi]
    exact ⟨put,first,now+1,gp1,ga1,hne,hpl,b1,b2,b3,by omega,hw,fun i hi=>(by cases hi),List.Pairwise.nil,fun x hx=>(by cases hx)⟩
  · have d:decide ((0:Int) < (L.length:Int))=true:=decide_eq_true (by omega)
    rw [d]
    (repeat (first | refine aB (by simp (disch:=first | omega | exact Int.natCast_nonneg _ | assumption) only [decide_true,decide_false,Bool.not_true,Bool.not_false,dP,cT,cS,bL,b9,bO,eY,eV,eX,eW,cA,c7,dV,cM,b7,Option.bind_some,Value.cells_agg,cP,b8,cK,dC,cX,c8,cW,aR,aS,aW,aV,aU,aT,bH,bD,cB,cQ,cC,dJ,gJ,eP,cH,dX,cN,cO,cD,bQ,bP,eR,dW,dA,cI,bZ,bU,T.get_upd_same,T.get_upd_ne,bA,bK,tl,ts,if_pos,Nat.zero_add,Nat.mul_one,Nat.add_zero,Int.toNat_natCast,↓reduceIte,Nat.reduceLeDiff,Nat.reduceAdd,Nat.le_refl]<;>rfl) ?_ | refine aD ?_ | refine aE ?_ | with_reducible refine aG ?_ | with_reducible refine aF ?_ | with_reducible refine aH ?_ | with_reducible refine aI ?_ | with_reducible refine aK ?_ | with_reducible refine aJ ?_ | with_reducible refine aL ?_ | refine aC ?_))
    refine aFd (i:=0) (x:=L.getD 0 0+1) gp1 ga1 hpl b1 b2 b3 (by omega) (by omega) (by have:=hrel 0 hm; omega) fun n4 hn4=>?_
    (repeat (first | refine aB (by simp (disch:=first | omega | exact Int.natCast_nonneg _ | assumption) only [decide_true,decide_false,Bool.not_true,Bool.not_false,dP,cT,cS,bL,b9,bO,eY,eV,eX,eW,cA,c7,dV,cM,b7,Option.bind_some,Value.cells_agg,cP,b8,cK,dC,cX,c8,cW,aR,aS,aW,aV,aU,aT,bH,bD,cB,cQ,cC,dJ,gJ,eP,cH,dX,cN,cO,cD,bQ,bP,eR,dW,dA,cI,bZ,bU,T.get_upd_same,T.get_upd_ne,bA,bK,tl,ts,if_pos,Nat.zero_add,Nat.mul_one,Nat.add_zero,Int.toNat_natCast,↓reduceIte,Nat.reduceLeDiff,Nat.reduceAdd,Nat.le_refl,a8,gp1]<;>rfl) ?_ | refine aD ?_ | refine aE ?_ | with_reducible refine aG ?_ | with_reducible refine aF ?_ | with_reducible refine aH ?_ | with_reducible refine aI ?_ | with_reducible refine aK ?_ | with_reducible refine aJ ?_ | with_reducible refine aL ?_ | refine aC ?_))
    refine ⟨fun _=>oK gp1 gp1,?_⟩
    (repeat (first | refine aB (by simp (disch:=first | omega | exact Int.natCast_nonneg _ | assumption) only [decide_true,decide_false,Bool.not_true,Bool.not_false,dP,cT,cS,bL,b9,bO,eY,eV,eX,eW,cA,c7,dV,cM,b7,Option.bind_some,Value.cells_agg,cP,b8,cK,dC,cX,c8,cW,aR,aS,aW,aV,aU,aT,bH,bD,cB,cQ,cC,dJ,gJ,eP,cH,dX,cN,cO,cD,bQ,bP,eR,dW,dA,cI,bZ,bU,T.get_upd_same,T.get_upd_ne,bA,bK,tl,ts,if_pos,Nat.zero_add,Nat.mul_one,Nat.add_zero,Int.toNat_natCast,↓reduceIte,Nat.reduceLeDiff,Nat.reduceAdd,Nat.le_refl]<;>rfl) ?_ | refine aD ?_ | refine aE ?_ | with_reducible refine aG ?_ | with_reducible refine aF ?_ | with_reducible refine aH ?_ | with_reducible refine aI ?_ | with_reducible refine aK ?_ | with_reducible refine aJ ?_ | with_reducible refine aL ?_ | refine aC ?_))
    by_cases hx:n≤L.getD 0 0
    · rw [decide_eq_true (show (n:Int) < ((L.getD 0 0+1:Nat):Int) by omega)]
      have hmod:((first:Int)+1) % (n:Int)=(((first+1) % n:Nat):Int):=aCL first 1 n
      have hml:(first+1) % n < n:=Nat.mod_lt _ (by omega)
      (repeat (first | refine aB (by simp (disch:=first | omega | exact Int.natCast_nonneg _ | assumption) only [decide_true,decide_false,Bool.not_true,Bool.not_false,dP,cT,cS,bL,b9,bO,eY,eV,eX,eW,cA,c7,dV,cM,b7,Option.bind_some,Value.cells_agg,cP,b8,cK,dC,cX,c8,cW,aR,aS,aW,aV,aU,aT,bH,bD,cB,cQ,cC,dJ,gJ,eP,cH,dX,cN,cO,cD,bQ,bP,eR,dW,dA,cI,bZ,bU,T.get_upd_same,T.get_upd_ne,bA,bK,tl,ts,if_pos,Nat.zero_add,Nat.mul_one,Nat.add_zero,Int.toNat_natCast,↓reduceIte,Nat.reduceLeDiff,Nat.reduceAdd,Nat.le_refl,a8,gp1,hmod]<;>rfl) ?_ | refine aD ?_ | refine aE ?_ | with_reducible refine aG ?_ | with_reducible refine aF ?_ | with_reducible refine aH ?_ | with_reducible refine aI ?_ | with_reducible refine aK ?_ | with_reducible refine aJ ?_ | with_reducible refine aL ?_ | refine aC ?_))
      refine ⟨_,Sub.refl _,hK _ _ (by omega) ?_ ?_⟩
      · have hi:zW n L=(L.map (·+1)).tail:=if_pos hx
        have hlen:(zW n L).length=L.length - 1:=by rw [hi]; simp
        refine ⟨put,(first+1) % n,now+1,?_,?_,hne,hpl,b1,b2,hml,by omega,hw,?_,aJA hpw,aLH hpw hb⟩
        · rw [T.get_upd_same,hlen]
          have e:(L.length:Int) - 1=((L.length - 1:Nat):Int):=by omega
          rw [e]; rfl
        · rw [T.get_upd_ne _ _ (Ne.symm hne),T.get_upd_ne _ _ (Ne.symm hne)]; exact ga1
        · intro i hil
          rw [hlen] at hil
          rw [hi,aIF (by omega),aL6]
          have:=hrel (i+1) (by omega)
          omega
      · exact fun k k1 k2=>by rw [T.get_upd_ne _ _ k1,T.get_upd_ne _ _ k1]; exact ho1 k k1 k2
    · rw [decide_eq_false (show ¬ (n:Int) < ((L.getD 0 0+1:Nat):Int) by omega)]
      (repeat (first | refine aB (by simp (disch:=first | omega | exact Int.natCast_nonneg _ | assumption) only [decide_true,decide_false,Bool.not_true,Bool.not_false,dP,cT,cS,bL,b9,bO,eY,eV,eX,eW,cA,c7,dV,cM,b7,Option.bind_some,Value.cells_agg,cP,b8,cK,dC,cX,c8,cW,aR,aS,aW,aV,aU,aT,bH,bD,cB,cQ,cC,dJ,gJ,eP,cH,dX,cN,cO,cD,bQ,bP,eR,dW,dA,cI,bZ,bU,T.get_upd_same,T.get_upd_ne,bA,bK,tl,ts,if_pos,Nat.zero_add,Nat.mul_one,Nat.add_zero,Int.toNat_natCast,↓reduceIte,Nat.reduceLeDiff,Nat.reduceAdd,Nat.le_refl]<;>rfl) ?_ | refine aD ?_ | refine aE ?_ | with_reducible refine aG ?_ | with_reducible refine aF ?_ | with_reducible refine aH ?_ | with_reducible refine aI ?_ | with_reducible refine aK ?_ | with_reducible refine aJ ?_ | with_reducible refine aL ?_ | refine aC ?_))
      refine ⟨_,Sub.refl _,hK _ _ (by omega) ?_ ho1⟩
      have hi:zW n L=L.map (·+1):=if_neg hx
      have hlen:(zW n L).length=L.length:=by rw [hi]; simp
      refine ⟨put,first,now+1,by rw [hlen]; exact gp1,ga1,hne,hpl,b1,b2,b3,by omega,hw,?_,aJA hpw,aLH hpw hb⟩
      intro i hil
      rw [hlen] at hil
      rw [hi,aJr hil]
      have:=hrel i hil
      omega
set_option maxRecDepth 4000 in
theorem aAh {ro:Ro} {h:T Obj} {p a n w nx:Nat} {L:List Nat} {K:KV} (hR:RI h p a n L w) (hw:w+1≤1000000) (hK:∀ h' nx',nx≤nx'→RI h' p a n [] (w+1)→qG h h' p a→K (.tuple #[]) h' nx'):aN Tryz.prog ro j7 [ptr p] h nx K:=by
  obtain ⟨put,first,now,gp,ga,hne,hpl,b1,b2,b3,b4,b5,hrel,hpw,hb⟩:=hR
  apply aAG
  unfold pH
  (repeat (first | refine aB (by simp (disch:=first | omega | exact Int.natCast_nonneg _ | assumption) only [decide_true,decide_false,Bool.not_true,Bool.not_false,dP,cT,cS,bL,b9,bO,eY,eV,eX,eW,cA,c7,dV,cM,b7,Option.bind_some,Value.cells_agg,cP,b8,cK,dC,cX,c8,cW,aR,aS,aW,aV,aU,aT,bH,bD,cB,cQ,cC,dJ,gJ,eP,cH,dX,cN,cO,cD,bQ,bP,eR,dW,dA,cI,bZ,bU,T.get_upd_same,T.get_upd_ne,bA,bK,tl,ts,if_pos,Nat.zero_add,Nat.mul_one,Nat.add_zero,Int.toNat_natCast,↓reduceIte,Nat.reduceLeDiff,Nat.reduceAdd,Nat.le_refl,aGx,a8,gp,ga]<;>rfl) ?_ | refine aD ?_ | refine aE ?_ | with_reducible refine aG ?_ | with_reducible refine aF ?_ | with_reducible refine aH ?_ | with_reducible refine aI ?_ | with_reducible refine aK ?_ | with_reducible refine aJ ?_ | with_reducible refine aL ?_ | refine aC ?_))
  refine ⟨_,Sub.refl _,hK _ _ (by omega) ?_ ?_⟩
  · refine ⟨put,0,now,?_,?_,hne,hpl,b1,b2,by omega,by omega,hw,fun i hi=>(by cases hi),List.Pairwise.nil,fun x hx=>(by cases hx)⟩
    · rw [T.get_upd_same]; rfl
    · rw [T.get_upd_ne _ _ (Ne.symm hne),T.get_upd_ne _ _ (Ne.symm hne),T.get_upd_ne _ _ (Ne.symm hne)]; exact ga
  · exact fun k k1 k2=>by rw [T.get_upd_ne _ _ k1,T.get_upd_ne _ _ k1,T.get_upd_ne _ _ k1]
theorem aD5:∀ n:Nat,u7 [.int .i64 0] n=oH (List.replicate n 0)
  | 0=>rfl
  | n+1=>by
    have:=aD5 n
    simp only [u7,this,oH,List.replicate_succ,List.map_cons]; rfl
theorem aLZ {aid n:Nat} (h0:1≤n) (h1:n≤1000000):aCm Tryz.prog dD aid (.int .i64 (n:Int)) (.int .i64 (n:Int))=some (.slice (some (own aid 1)) n n,some (.cells (oH (List.replicate n 0)).toArray cF)):=by
  obtain ⟨i,g1,g2,g3⟩:=aJT
  have hb:Nat.ble (n*8) big=true:=Nat.ble_eq_true_of_le (by unfold big; omega)
  have e1:decide ((0:Int)≤(n:Int))=true:=by simp
  have e2:decide ((n:Int)≤(n:Int))=true:=by simp
  have e3:decide ((n:Int)≤70368744177664)=true:=by simp; omega
  have hz:aFm Tryz.prog cF n=some (oH (List.replicate n 0)):=by
    obtain ⟨m,rfl⟩:∃ m,n=m+1:=⟨n - 1,by omega⟩
    have hs:siz Tryz.prog cF=some 1:=by kernel_rfl
    unfold aFm
    simp only [aJW,hs,Option.bind_some]
    have h3:Nat.beq (Value.cells (.int .i64 0)).size 1=true:=rfl
    have h4:Nat.blt 0 1=true:=rfl
    rw [h3,h4]
    simp only
    rw [← aD5]; rfl
  unfold aCm
  simp only [aHa,e1,e2,g1,Option.bind_some,g3,Int.toNat_natCast,hb,e3,hz,g2]
theorem aGC (a n:Nat):dF Tryz.prog cE [(0,.slice (some (own a 1)) n n)]=some (.agg (kW a n 0 0 0 0).toArray):=by kernel_rfl
set_option maxRecDepth 4000 in
theorem aI4 {ro:Ro} {h:T Obj} {n nx:Nat} {K:KV} (hf:Fr h nx) (h1:1≤n) (h2:n≤4096) (hK:∀ p a h' nx',nx≤p→nx≤a→nx≤nx'→Sub h h'→Fr h' nx'→RI h' p a n [] 0→K (.tuple #[ptr p,.int .i64 0]) h' nx'):aN Tryz.prog ro zV [.int .i64 (n:Int)] h nx K:=by
  apply aHR
  unfold aDP
  (repeat (first | refine aB (by simp (disch:=first | omega | exact Int.natCast_nonneg _ | assumption) only [decide_true,decide_false,Bool.not_true,Bool.not_false,dP,cT,cS,bL,b9,bO,eY,eV,eX,eW,cA,c7,dV,cM,b7,Option.bind_some,Value.cells_agg,cP,b8,cK,dC,cX,c8,cW,aR,aS,aW,aV,aU,aT,bH,bD,cB,cQ,cC,dJ,gJ,eP,cH,dX,cN,cO,cD,bQ,bP,eR,dW,dA,cI,bZ,bU,T.get_upd_same,T.get_upd_ne,bA,bK,tl,ts,if_pos,Nat.zero_add,Nat.mul_one,Nat.add_zero,Int.toNat_natCast,↓reduceIte,Nat.reduceLeDiff,Nat.reduceAdd,Nat.le_refl]<;>rfl) ?_ | refine aD ?_ | refine aE ?_ | with_reducible refine aG ?_ | with_reducible refine aF ?_ | with_reducible refine aH ?_ | with_reducible refine aI ?_ | with_reducible refine aK ?_ | with_reducible refine aJ ?_ | with_reducible refine aL ?_ | refine aC ?_))
  rw [decide_eq_false (show ¬ (n:Int) < 1 by omega)]
  (repeat (first | refine aB (by simp (disch:=first | omega | exact Int.natCast_nonneg _ | assumption) only [decide_true,decide_false,Bool.not_true,Bool.not_false,dP,cT,cS,bL,b9,bO,eY,eV,eX,eW,cA,c7,dV,cM,b7,Option.bind_some,Value.cells_agg,cP,b8,cK,dC,cX,c8,cW,aR,aS,aW,aV,aU,aT,bH,bD,cB,cQ,cC,dJ,gJ,eP,cH,dX,cN,cO,cD,bQ,bP,eR,dW,dA,cI,bZ,bU,T.get_upd_same,T.get_upd_ne,bA,bK,tl,ts,if_pos,Nat.zero_add,Nat.mul_one,Nat.add_zero,Int.toNat_natCast,↓reduceIte,Nat.reduceLeDiff,Nat.reduceAdd,Nat.le_refl]<;>rfl) ?_ | refine aD ?_ | refine aE ?_ | with_reducible refine aG ?_ | with_reducible refine aF ?_ | with_reducible refine aH ?_ | with_reducible refine aI ?_ | with_reducible refine aK ?_ | with_reducible refine aJ ?_ | with_reducible refine aL ?_ | refine aC ?_))
  rw [decide_eq_false (show ¬ (4096:Int) < (n:Int) by omega)]
  (repeat (first | refine aB (by simp (disch:=first | omega | exact Int.natCast_nonneg _ | assumption) only [decide_true,decide_false,Bool.not_true,Bool.not_false,dP,cT,cS,bL,b9,bO,eY,eV,eX,eW,cA,c7,dV,cM,b7,Option.bind_some,Value.cells_agg,cP,b8,cK,dC,cX,c8,cW,aR,aS,aW,aV,aU,aT,bH,bD,cB,cQ,cC,dJ,gJ,eP,cH,dX,cN,cO,cD,bQ,bP,eR,dW,dA,cI,bZ,bU,T.get_upd_same,T.get_upd_ne,bA,bK,tl,ts,if_pos,Nat.zero_add,Nat.mul_one,Nat.add_zero,Int.toNat_natCast,↓reduceIte,Nat.reduceLeDiff,Nat.reduceAdd,Nat.le_refl]<;>rfl) ?_ | refine aD ?_ | refine aE ?_ | with_reducible refine aG ?_ | with_reducible refine aF ?_ | with_reducible refine aH ?_ | with_reducible refine aI ?_ | with_reducible refine aK ?_ | with_reducible refine aJ ?_ | with_reducible refine aL ?_ | refine aC ?_))
  refine aB (aLZ h1 (by omega)) (aE ?_)
  refine aB (aGC _ _) (aD ?_)
  refine ⟨_,Sub.refl _,hK _ (nx+6+1+2) _ _ (by omega) (by omega) (by omega) (((Sub.refl h).new hf (by omega)).new hf (by omega)) ((hf.upd (m:=nx+6+1+7) (by omega) (by omega)).upd (Nat.le_refl _) (by omega)) ?_⟩
  exact ⟨List.replicate n 0,0,0,by rw [T.get_upd_same]; rfl,by rw [T.get_upd_ne _ _ (by omega),T.get_upd_same],by omega,List.length_replicate,h1,h2,by omega,Nat.le_refl _,by omega,fun i hi=>(by cases hi),List.Pairwise.nil,fun x hx=>(by cases hx)⟩
theorem Sub.e (h:T Obj):Sub .e h:=fun k o e=>by cases e
theorem RI.only {h h':T Obj} {p a p2 a2 n w:Nat} {L:List Nat} (hR:RI h p a n L w) (ho:qG h h' p2 a2) (h1:p≠p2) (h2:p≠a2) (h3:a≠p2) (h4:a≠a2):RI h' p a n L w:=by
  obtain ⟨put,first,now,gp,ga,hr⟩:=hR
  exact ⟨put,first,now,by rw [ho _ h1 h2]; exact gp,by rw [ho _ h3 h4]; exact ga,hr⟩
theorem RI.lt {h:T Obj} {p a n w nx:Nat} {L:List Nat} (hR:RI h p a n L w) (hf:Fr h nx):p < nx∧a < nx:=by
  obtain ⟨put,first,now,gp,ga,hr⟩:=hR
  exact ⟨hf.lt gp,hf.lt ga⟩
theorem qG.sub {h0 h h':T Obj} {p a n0:Nat} (ho:qG h h' p a) (hs:Sub h0 h) (hf:Fr h0 n0) (hp:n0≤p) (ha:n0≤a):Sub h0 h':=fun k o e=>by
  have:=hf.lt e
  rw [ho k (by omega) (by omega)]; exact hs k o e
def aMp (L:List Nat):Nat:=if L.length=0 then 0 else L.getD 0 0
theorem aOI (L:List Nat):nth 0 (aBA L)=some (.int .i64 (aMp L:Nat)):=by
  unfold aBA aMp
  by_cases h:L.length=0
  · rw [if_pos h,if_pos h]; rfl
  · rw [if_neg h,if_neg h]; rfl
theorem aOJ (L:List Nat):nth 1 (aBA L)=some (.bool (!decide (L.length=0))):=by
  unfold aBA
  by_cases h:L.length=0
  · rw [if_pos h,decide_eq_true h]; rfl
  · rw [if_neg h,decide_eq_false h]; rfl
section
attribute [local irreducible] aA ifP aZ d4 eG exP d8
def isC (n:Nat) (L:List Nat):List Value:=(List.range (n+1)).map fun i=>.bool (decide (i∈L))
def WI (h:T Obj) (p a n:Nat) (L:List Nat) (w:Nat):Prop:=h.get p=some (.cells #[.slice (some (V.own a 1)) (n+1) (n+1),.int .i64 w] jH)∧h.get a=some (.cells (isC n L).toArray aD4)∧p≠a∧1≤n∧n≤4096∧w≤1000000
end
theorem WI.sub {h h':T Obj} {p a n w:Nat} {L:List Nat} (hW:WI h p a n L w) (hs:Sub h h'):WI h' p a n L w:=⟨hs _ _ hW.1,hs _ _ hW.2.1,hW.2.2⟩
theorem lC {h:T Obj} {i j:Nat} {c d:Array Value} {e f:TypeId} (hi:h.get i=some (.cells c e)) (hj:h.get j=some (.cells d f)) (hef:e≠f):i≠j:=fun e9=>by
  subst e9; rw [hi] at hj; cases hj; exact hef rfl
def low (L:List Nat):Nat:=if L.length=0 then 0 else L.getD (L.length - 1) 0
theorem aON (L:List Nat):nth 0 (aBC L)=some (.int .i64 (low L:Nat)):=by
  unfold aBC low
  by_cases h:L.length=0
  · rw [if_pos h,if_pos h]; rfl
  · rw [if_neg h,if_neg h]; rfl
theorem aOO (L:List Nat):nth 1 (aBC L)=some (.bool (!decide (L.length=0))):=by
  unfold aBC
  by_cases h:L.length=0
  · rw [if_pos h,decide_eq_true h]; rfl
  · rw [if_neg h,decide_eq_false h]; rfl
theorem RI.in {h:T Obj} {p a n w:Nat} {L:List Nat} (hR:RI h p a n L w):L.Pairwise (fun x y=>y < x)∧(∀ x∈L,1≤x∧x≤n)∧1≤n∧n≤4096:=by
  obtain ⟨put,first,now,gp,ga,hne,hpl,b1,b2,b3,b4,b5,hrel,hpw,hb⟩:=hR
  exact ⟨hpw,hb,b1,b2⟩
end V
end Go.Proofs.YtjndkdmkecpllaaGreat
set_option linter.unusedVariables false
set_option linter.unusedSimpArgs false
namespace Go.Proofs.YtjndkdmkecpllaaGreat
namespace V
attribute [local irreducible] aA ifP aZ d4 eG exP d8
abbrev RgD:=List Nat × Nat
def noR:RgD:=([],0)
def aJ9 (r:RgD):RgD:=([],r.2+1)
def aO9 (r:RgD):RgD:=(aNW r.1,r.2+1)
def aOK (n:Nat) (r:RgD):RgD:=(zW n r.1,r.2+1)
def aFc (n o:Nat) (r:RgD):RgD:=if o=3 then aO9 (aJ9 r) else if o=2 then aO9 (aOK n r) else aOK n r
structure MacD where
  cur:Int
  rs:List RgD
  steps:Nat
def oT (C:List (Int × Int)) (c:Int):Int × Int:=C.getD c.toNat (0,0)
def pF (rs:List RgD) (c:Int):RgD:=rs.getD c.toNat noR
def aHz (C:List (Int × Int)) (rs:List RgD) (c:Int):Nat :=
  if (pF rs c).1.length=0 then 0 else if (((pF rs c).1.getD 0 0:Nat):Int) < (oT C c).1 then 0 else if (((pF rs c).1.getD ((pF rs c).1.length - 1) 0:Nat):Int) < (oT C c).2 then 2 else 1
def fI (C:List (Int × Int)) (rs:List RgD):List Int→Nat
  | []=>0
  | c::r=>aHz C rs c+3*fI C rs r
def aL8:MoveD:=⟨-1,[]⟩
def fP (d:AutoD) (m:MacD):StateD:=d.states.getD m.cur.toNat noS
def oC (d:AutoD) (m:MacD):Int:=if m.cur=-1 then -1 else (fP d m).rule.getD (fI d.counts m.rs (fP d m).r) 0
def kS (d:AutoD) (m:MacD) (b:Nat):MoveD:=((fP d m).next.getD (fI d.counts m.rs (fP d m).r) []).getD (d.c.getD b 0) aL8
def nY (d:AutoD) (t:Int):List Int:=if t=-1 then [] else (d.states.getD t.toNat noS).r
def s8 (nx:List Int):List Int→List RgD→List RgD
  | [],rs=>rs
  | c::r,rs=>s8 nx r (if nx.contains c then rs else rs.set c.toNat (aJ9 (pF rs c)))
def vM (C:List (Int × Int)):List Int→List Nat→List RgD→List RgD
  | c::r,o::os,rs=>vM C r os (rs.set c.toNat (aFc (oT C c).2.toNat o (pF rs c)))
  | _,_,rs=>rs
def onM (d:AutoD) (m:MacD) (b:Nat):Bool:=!decide (m.cur=-1)&&!decide ((kS d m b).to=-1)
def jL (d:AutoD) (m:MacD) (b:Nat):MacD :=
  if m.cur=-1 then m else ⟨(kS d m b).to,vM d.counts (nY d (kS d m b).to) (kS d m b).ops (s8 (nY d (kS d m b).to) (fP d m).r m.rs),m.steps+1+(fP d m).r.length⟩
def aBz (d:AutoD):MacD:=⟨0,d.counts.map fun _=>noR,0⟩
def jN (m:MacD):Nat:=m.steps+(m.rs.map (·.2)).sum
def MOk (d:AutoD) (m:MacD):Prop:=(m.cur=-1∨0≤m.cur∧m.cur < d.states.length)∧m.rs.length=d.counts.length
theorem iF {d:AutoD} (h:fV d=true):pG d.c d.many=true∧d.counts.length≤512∧1≤d.states.length∧d.states.length≤256∧(∀ c∈d.counts,1≤c.1∧c.1≤c.2∧2≤c.2∧c.2≤4096)∧∀ s∈d.states,iO d.states d.many d.counts.length s=true:=by
  unfold fV at h
  simp only [Bool.and_eq_true,decide_eq_true_eq] at h
  obtain ⟨h1,h2,h3,h4,h5,h6,h7⟩:=h
  refine ⟨h1,h2,h3,h4,fun c hc=>?_,fun s hs=>List.all_eq_true.1 h7 s hs⟩
  have:=List.all_eq_true.1 h6 c hc
  unfold pQ at this
  simp only [Bool.and_eq_true,decide_eq_true_eq] at this
  exact this
theorem xX {S:List StateD} {n:Int} {cn:Nat} {s:StateD} (h:iO S n cn s=true):s.r.length≤3∧(s.rule.length:Int)=eD s.r.length∧(s.next.length:Int)=eD s.r.length∧(∀ c∈s.r,0≤c∧c < cn)∧oJ S s.r n s.rule s.next=true:=by
  have h3:=(aEh h).2
  unfold iO at h
  simp only [Bool.and_eq_true,decide_eq_true_eq] at h
  obtain ⟨h1,h2,h4,h5,h6,h7⟩:=h
  refine ⟨h3,h2,h4,fun c hc=>?_,h7⟩
  have:=xS h6 c hc
  omega
theorem aIs (C:List (Int × Int)) (rs:List RgD) (c:Int):aHz C rs c < 3:=by
  unfold aHz
  repeat' split
  all_goals omega
theorem aGN (C:List (Int × Int)) (rs:List RgD):∀ r:List Int,fI C rs r < 3 ^ r.length
  | []=>by show 0 < 1; omega
  | c::r=>by
    have:=aGN C rs r
    have:=aIs C rs c
    rw [List.length_cons,Nat.pow_succ]
    unfold fI
    omega
theorem aB9 {C:List (Int × Int)} {rs:List RgD} {r:List Int} (h:r.length≤3):(fI C rs r:Int) < eD r.length:=by
  have h1:=aGN C rs r
  generalize r.length=n at h h1
  match n,h with
  | 0,_=>have h2:fI C rs r < 1:=h1; show (fI C rs r:Int) < 1; omega
  | 1,_=>have h2:fI C rs r < 3:=h1; show (fI C rs r:Int) < 3; omega
  | 2,_=>have h2:fI C rs r < 9:=h1; show (fI C rs r:Int) < 9; omega
  | 3,_=>have h2:fI C rs r < 27:=h1; show (fI C rs r:Int) < 27; omega
theorem aFe {S:List StateD} {R:List Int} {n:Int}:∀ {us:List Int} {rows:List (List MoveD)},oJ S R n us rows=true→us.length=rows.length→∀ (i:Nat) row u,rows[i]?=some row→us[i]?=some u→xR S R n u row=true
  | [],[],_,_,i,row,u,hr,hu=>by simp at hr
  | u::us,row::rows,h,hl,i,row',u',hr,hu=>by
    rw [o9,Bool.and_eq_true] at h
    cases i with
    | zero=>simp at hr hu; subst hr hu; exact h.1
    | succ i=>exact aFe h.2 (by simpa using hl) i row' u' (by simpa using hr) (by simpa using hu)
  | [],_::_,_,hl,_,_,_,_,_=>by simp at hl
  | _::_,[],_,hl,_,_,_,_,_=>by simp at hl
theorem aHO {c:List Nat} {n:Int} (hc:c.length=256) (h:pG c n=true):∀ b,b < 256→((c.getD b 0:Nat):Int) < n:=by
  unfold pG at h
  split at h
  · rename_i m hm
    simp only [decide_eq_true_eq] at h
    subst h
    have key:∀ i m,rt c i=some m→∀ b,b < i→c.getD b 0 < m:=by
      intro i
      induction i with
      | zero=>intro m _ b hb; omega
      | succ i ih =>
        intro m h b hb
        obtain ⟨k,h1,h2⟩:=aM h
        have:=ih k h1
        split at h2
        · cases h2
        · split at h2
          · cases h2
            rcases Nat.lt_or_ge b i with h4 | h4
            · have:=this b h4; omega
            · have:b=i:=by omega
              subst this; omega
          · cases h2
            rcases Nat.lt_or_ge b i with h4 | h4
            · exact this b h4
            · have:b=i:=by omega
              subst this; omega
    intro b hb
    exact_mod_cast key 256 m hm b hb
  · cases h
structure StF (d:AutoD) (s:StateD) (k:Nat):Prop where
  r3:s.r.length≤3
  rl:∀ c∈s.r,0≤c∧c < d.counts.length
  kr:k < s.rule.length
  kn:k < s.next.length
  row:((s.next.getD k []).length:Int)=d.many
  mv:∀ m∈s.next.getD k [],iV d.states s.r m=true
  ru:-1≤s.rule.getD k 0∧s.rule.getD k 0 < 512
theorem aH6 {d:AutoD} {m:MacD} (ha:fV d=true) (hm:MOk d m) (hc:m.cur≠-1):StF d (fP d m) (fI d.counts m.rs (fP d m).r):=by
  obtain ⟨h1,h2,h3,h4,h5,h6⟩:=iF ha
  have hcur:0≤m.cur∧m.cur < d.states.length:=by rcases hm.1 with h | h<;>omega
  have hi:m.cur.toNat < d.states.length:=by omega
  have hs:fP d m=d.states[m.cur.toNat]:=by unfold fP; rw [List.getD_eq_getElem?_getD,List.getElem?_eq_getElem hi]; rfl
  have hk:=h6 _ (List.getElem_mem hi)
  rw [← hs] at hk
  generalize fP d m=s at hk
  obtain ⟨k1,k2,k3,k4,k5⟩:=xX hk
  have hlt:=aB9 (C:=d.counts) (rs:=m.rs) k1
  generalize fI d.counts m.rs s.r=k at hlt
  have kr:k < s.rule.length:=by omega
  have kn:k < s.next.length:=by omega
  have e1:s.next[k]?=some s.next[k]:=List.getElem?_eq_getElem kn
  have e2:s.rule[k]?=some s.rule[k]:=List.getElem?_eq_getElem kr
  have hro:=aFe k5 (by omega) k _ _ e1 e2
  unfold xR at hro
  simp only [Bool.and_eq_true,decide_eq_true_eq] at hro
  refine ⟨k1,k4,kr,kn,?_,?_,?_⟩
  · rw [List.getD_eq_getElem?_getD,e1]; exact hro.2.2.1
  · rw [List.getD_eq_getElem?_getD,e1]; exact fun m hm=>List.all_eq_true.1 hro.2.2.2 m hm
  · rw [List.getD_eq_getElem?_getD,e2]; exact ⟨hro.1,hro.2.1⟩
theorem aFP {d:AutoD} {m:MacD} {b:Nat} (ha:fV d=true) (hm:MOk d m) (hc:m.cur≠-1) (hl:d.c.length=256) (hb:b < 256):d.c.getD b 0 < ((fP d m).next.getD (fI d.counts m.rs (fP d m).r) []).length∧iV d.states (fP d m).r (kS d m b)=true:=by
  have hs:=aH6 ha hm hc
  have h1:=aHO hl (iF ha).1 b hb
  have h2:d.c.getD b 0 < ((fP d m).next.getD (fI d.counts m.rs (fP d m).r) []).length:=by have:=hs.row; omega
  refine ⟨h2,hs.mv _ ?_⟩
  unfold kS
  rw [List.getD_eq_getElem?_getD (a:=aL8),List.getElem?_eq_getElem h2]
  exact List.getElem_mem h2
theorem z6 {S:List StateD} {R:List Int} {m:MoveD} (h:iV S R m=true):(m.to=-1∧m.ops=[])∨(1≤m.to∧m.to < S.length∧m.ops.length=(S.getD m.to.toNat noS).r.length∧y6 R m.ops (S.getD m.to.toNat noS).r=true):=by
  unfold iV at h
  split at h
  · rename_i ht
    exact .inl ⟨ht,List.length_eq_zero_iff.1 (by simpa using h)⟩
  · simp only [Bool.and_eq_true,decide_eq_true_eq] at h
    exact .inr ⟨h.1,h.2.1,h.2.2.1,h.2.2.2⟩
theorem aE6 {R:List Int}:∀ {os:List Nat} {rs:List Int},y6 R os rs=true→os.length=rs.length→∀ o∈os,1≤o∧o≤3
  | [],_,_,_,o,ho=>by cases ho
  | o::os,[],_,hl,_,_=>by simp at hl
  | o::os,r::rs,h,hl,x,hx=>by
    rw [z8,Bool.and_eq_true] at h
    rcases List.mem_cons.1 hx with rfl | hx
    · have:=h.1
      unfold aGm at this
      simp only [Bool.and_eq_true,decide_eq_true_eq] at this
      exact ⟨this.1,this.2.1⟩
    · exact aE6 h.2 (by simpa using hl) x hx
theorem aGJ (nx:List Int):∀ (r:List Int) (rs:List RgD),(s8 nx r rs).length=rs.length
  | [],rs=>rfl
  | c::r,rs=>by
    unfold s8
    rw [aGJ nx r]
    split<;>simp
theorem aGp (C:List (Int × Int)):∀ (r:List Int) (os:List Nat) (rs:List RgD),(vM C r os rs).length=rs.length
  | [],_,rs=>by simp [vM]
  | _::_,[],rs=>by simp [vM]
  | c::r,o::os,rs=>by
    unfold vM
    rw [aGp C r os]; simp
theorem aNb {d:AutoD} {m:MacD} {b:Nat} (ha:fV d=true) (hm:MOk d m) (hl:d.c.length=256) (hb:b < 256):MOk d (jL d m b):=by
  unfold jL
  by_cases hc:m.cur=-1
  · rw [if_pos hc]; exact hm
  · rw [if_neg hc]
    have h1:=z6 (aFP ha hm hc hl hb).2
    refine ⟨?_,?_⟩
    · rcases h1 with ⟨h1,_⟩ | ⟨h1,h2,_⟩
      · exact .inl h1
      · exact .inr ⟨by show (0:Int)≤(kS d m b).to; omega,h2⟩
    · show (vM _ _ _ _).length=_
      rw [aGp,aGJ]; exact hm.2
theorem aOS {d:AutoD} (ha:fV d=true):MOk d (aBz d):=⟨.inr ⟨Int.le_refl _,by have:=(iF ha).2.2.1; show (0:Int) < _; omega⟩,by show (d.counts.map _).length=_; rw [List.length_map]⟩
def WLe (B:Nat) (rs:List RgD):Prop:=∀ r∈rs,r.2≤B
theorem WLe.mono {B B':Nat} {rs:List RgD} (h:WLe B rs) (hb:B≤B'):WLe B' rs:=fun r hr=>Nat.le_trans (h r hr) hb
theorem WLe.set {B:Nat} {rs:List RgD} {i:Nat} {x:RgD} (h:WLe B rs) (hx:x.2≤B):WLe B (rs.set i x):=fun r hr=>by
  rcases List.mem_or_eq_of_mem_set hr with h1 | h1
  · exact h r h1
  · rw [h1]; exact hx
theorem WLe.at {B:Nat} {rs:List RgD} (h:WLe B rs) (c:Int):(pF rs c).2≤B:=by
  unfold pF
  rw [List.getD_eq_getElem?_getD]
  cases hq:rs[c.toNat]? with
  | none=>exact Nat.zero_le _
  | some r=>exact h r (List.mem_of_getElem? hq)
theorem aMH (n o:Nat) (r:RgD):(aFc n o r).2≤r.2+2:=by
  unfold aFc
  repeat' split
  all_goals simp [aO9,aJ9,aOK]
end V
end Go.Proofs.YtjndkdmkecpllaaGreat
set_option linter.unusedVariables false
set_option linter.unusedSimpArgs false
namespace Go.Proofs.YtjndkdmkecpllaaGreat
namespace V
attribute [local irreducible] aA ifP aZ d4 eG exP d8
def eM (c:List Nat) (n:Int) (cv sv:Value) (cur:Int) (rv:Value) (steps:Nat):List Value:=dQ c n cv sv++[.int .i64 cur,rv,.int .i64 (steps:Int)]
section
variable {c:List Nat} {n cur:Int} {cv sv rv:Value} {steps:Nat}
theorem yG (hc:c.length=256):(eM c n cv sv cur rv steps).length=262:=by simp [eM,cJ hc]
theorem aCl {i:Nat} (hc:c.length=256) (hi:i < 259):(eM c n cv sv cur rv steps)[i]?=(dQ c n cv sv)[i]?:=by
  unfold eM
  rw [List.getElem?_append_left (by rw [cJ hc]; exact hi)]
theorem aCk (i:Nat) (hc:c.length=256):(eM c n cv sv cur rv steps)[i+259]?=[Value.int .i64 cur,rv,.int .i64 (steps:Int)][i]?:=by
  unfold eM
  rw [List.getElem?_append_right (by rw [cJ hc]; omega),cJ hc,Nat.add_sub_cancel]
theorem aKB (hc:c.length=256):(eM c n cv sv cur rv steps)[257]?=some cv:=by rw [aCl hc (by omega),mK hc]
theorem aBF (hc:c.length=256):(eM c n cv sv cur rv steps)[258]?=some sv:=by rw [aCl hc (by omega),kC hc]
theorem aBG (hc:c.length=256):(eM c n cv sv cur rv steps)[259]?=some (.int .i64 cur):=aCk 0 hc
theorem qE (hc:c.length=256):(eM c n cv sv cur rv steps)[260]?=some rv:=aCk 1 hc
theorem aE1 (hc:c.length=256):(eM c n cv sv cur rv steps)[261]?=some (.int .i64 (steps:Int)):=aCk 2 hc
theorem aNE {b:Nat} (hc:c.length=256) (hb:b < 256):(eM c n cv sv cur rv steps)[b]?=some (.int .u8 (c.getD b 0:Nat)):=by
  rw [aCl hc (by omega)]
  unfold dQ
  rw [List.getElem?_append_left (by rw [dB hc]; omega),aBq (by omega)]
  rw [List.getD_eq_getElem?_getD,List.getElem?_eq_getElem (show b < c.length by omega)]; rfl
theorem aFL (hc:c.length=256) (k:Int):(eM c n cv sv cur rv steps).set 259 (.int .i64 k)=eM c n cv sv k rv steps:=by
  unfold eM
  rw [List.set_append_right _ _ (by rw [cJ hc]; omega),cJ hc]; rfl
theorem aFM (hc:c.length=256) (w:Value):(eM c n cv sv cur rv steps).set 260 w=eM c n cv sv cur w steps:=by
  unfold eM
  rw [List.set_append_right _ _ (by rw [cJ hc]; omega),cJ hc]; rfl
theorem aFN (hc:c.length=256) (k:Nat):(eM c n cv sv cur rv steps).set 261 (.int .i64 (k:Int))=eM c n cv sv cur rv k:=by
  unfold eM
  rw [List.set_append_right _ _ (by rw [cJ hc]; omega),cJ hc]; rfl
end
theorem Sl.ixArr {ro:Ro} {h:T Obj} {v:Value} {z:Nat} {cs:List (List Value)} (hl:Sl ro h v z cs) {i:Nat} (hi:i < cs.length) (n w:Nat) (k:IntKind) {j:Int} (h0:0≤j) (h1:j < n):V.ixArr n w (gP z v i) (.int k j)=some (jT z v i (j.toNat*w)):=by
  have hn:mE (.int k j)=some j.toNat:=by simp [mE,h0]
  have hb:Nat.blt j.toNat n=true:=by simp [Nat.blt]; omega
  rcases hl with ⟨rfl,rfl⟩ | ⟨a,cap,rfl,h2,h3,h4⟩
  · simp at hi
  · simp only [V.ixArr,hn,gP,asP,Option.bind,hb,jT,aIu]
def lT (ps:List (Nat × Nat)):List (List Value):=ps.map fun p=>[ptr p.1]
theorem lE (ps:List (Nat × Nat)):(lT ps).length=ps.length:=by simp [lT]
abbrev RgP:=T Obj→Nat→Nat→Nat→List Nat→Nat→Prop
structure RgOk (RR:RgP) (tp ta:TypeId):Prop where
  keep:∀ {h h':T Obj} {p a n w:Nat} {L:List Nat},RR h p a n L w→h'.get p=h.get p→h'.get a=h.get a→RR h' p a n L w
  p:∀ {h:T Obj} {p a n w:Nat} {L:List Nat},RR h p a n L w→∃ c,h.get p=some (.cells c tp)
  a:∀ {h:T Obj} {p a n w:Nat} {L:List Nat},RR h p a n L w→∃ c,h.get a=some (.cells c ta)
  ne:tp≠ta
  L:∀ {h:T Obj} {p a n w:Nat} {L:List Nat},RR h p a n L w→L.Pairwise (fun x y=>y < x)∧(∀ x∈L,1≤x∧x≤n)∧1≤n∧n≤4096
theorem kB:RgOk RI cE cF where
  keep:=fun ⟨put,first,now,gp,ga,hr⟩ h1 h2=>⟨put,first,now,by rw [h1]; exact gp,by rw [h2]; exact ga,hr⟩
  p:=fun ⟨put,first,now,gp,ga,hr⟩=>⟨_,gp⟩
  a:=fun ⟨put,first,now,gp,ga,hr⟩=>⟨_,ga⟩
  ne:=by decide
  L:=fun h=>h.in
def WJ:RgP:=fun h p a n L w=>WI h p a n L w∧L.Pairwise (fun x y=>y < x)∧∀ x∈L,1≤x∧x≤n
theorem aCK:RgOk WJ jH aD4 where
  keep:=fun ⟨hw,hr⟩ h1 h2=>⟨⟨by rw [h1]; exact hw.1,by rw [h2]; exact hw.2.1,hw.2.2⟩,hr⟩
  p:=fun ⟨hw,hr⟩=>⟨_,hw.1⟩
  a:=fun ⟨hw,hr⟩=>⟨_,hw.2.1⟩
  ne:=by decide
  L:=fun ⟨hw,hr⟩=>⟨hr.1,hr.2,hw.2.2.2.1,hw.2.2.2.2.1⟩
def RsX (RR:RgP) (h:T Obj) (ps:List (Nat × Nat)) (C:List (Int × Int)) (rs:List RgD):Prop:=ps.length=C.length∧rs.length=C.length∧∀ (i:Nat) p c r,ps[i]?=some p→C[i]?=some c→rs[i]?=some r→RR h p.1 p.2 c.2.toNat r.1 r.2
def Dst (ps:List (Nat × Nat)):Prop:=∀ (i j:Nat) p q,ps[i]?=some p→ps[j]?=some q→i≠j→p.1≠q.1∧p.2≠q.2
section
variable {RR:RgP} {tp ta:TypeId} {h h':T Obj} {ps:List (Nat × Nat)} {C:List (Int × Int)} {rs:List RgD}
theorem RsX.at (hr:RsX RR h ps C rs) {c:Int} (h0:0≤c) (h1:c < C.length):∃ q,ps[c.toNat]?=some q∧RR h q.1 q.2 (oT C c).2.toNat (pF rs c).1 (pF rs c).2:=by
  obtain ⟨r1,r2,r3⟩:=hr
  have hi:c.toNat < C.length:=by omega
  have e1:ps[c.toNat]?=some (ps[c.toNat]'(by omega)):=List.getElem?_eq_getElem _
  have e2:C[c.toNat]?=some C[c.toNat]:=List.getElem?_eq_getElem _
  have e3:rs[c.toNat]?=some (rs[c.toNat]'(by omega)):=List.getElem?_eq_getElem _
  refine ⟨_,e1,?_⟩
  have:=r3 _ _ _ _ e1 e2 e3
  unfold oT pF
  rw [List.getD_eq_getElem?_getD,List.getD_eq_getElem?_getD,e2,e3]
  exact this
theorem RsX.lt (hk:RgOk RR tp ta) (hr:RsX RR h ps C rs) {nx:Nat} (hf:Fr h nx):∀ q∈ps,q.1 < nx∧q.2 < nx:=fun q hq=>by
  obtain ⟨i,hi⟩:=List.getElem?_of_mem hq
  obtain ⟨r1,r2,r3⟩:=hr
  have hl:=(List.getElem?_eq_some_iff.1 hi).1
  have:=r3 i q _ _ hi (List.getElem?_eq_getElem (by omega)) (List.getElem?_eq_getElem (by omega))
  obtain ⟨c1,h1⟩:=hk.p this
  obtain ⟨c2,h2⟩:=hk.a this
  exact ⟨hf.lt' h1,hf.lt' h2⟩
theorem RsX.ty (hk:RgOk RR tp ta) (hr:RsX RR h ps C rs):∀ q∈ps,(∃ c,h.get q.1=some (.cells c tp))∧∃ c,h.get q.2=some (.cells c ta):=fun q hq=>by
  obtain ⟨i,hi⟩:=List.getElem?_of_mem hq
  obtain ⟨r1,r2,r3⟩:=hr
  have hl:=(List.getElem?_eq_some_iff.1 hi).1
  have:=r3 i q _ _ hi (List.getElem?_eq_getElem (by omega)) (List.getElem?_eq_getElem (by omega))
  exact ⟨hk.p this,hk.a this⟩
theorem RsX.keep (hk:RgOk RR tp ta) (hr:RsX RR h ps C rs) (hg:∀ q∈ps,h'.get q.1=h.get q.1∧h'.get q.2=h.get q.2):RsX RR h' ps C rs :=
  ⟨hr.1,hr.2.1,fun i p c r h1 h2 h3=>hk.keep (hr.2.2 i p c r h1 h2 h3) (hg p (List.mem_of_getElem? h1)).1 (hg p (List.mem_of_getElem? h1)).2⟩
theorem RsX.sub (hk:RgOk RR tp ta) (hr:RsX RR h ps C rs) (hs:Sub h h'):RsX RR h' ps C rs:=hr.keep hk fun q hq=>by
  obtain ⟨⟨c1,h1⟩,c2,h2⟩:=hr.ty hk q hq
  rw [h1,h2,hs _ _ h1,hs _ _ h2]; exact ⟨rfl,rfl⟩
theorem RsX.set (hk:RgOk RR tp ta) (hr:RsX RR h ps C rs) (hd:Dst ps) {nx:Nat} (hf:Fr h nx) {i a':Nat} {q:Nat × Nat} {r:RgD} {c:Int × Int} (hq:ps[i]?=some q) (hc:C[i]?=some c) (hn:RR h' q.1 a' c.2.toNat r.1 r.2) (hg:∀ k,k < nx→k≠q.1→k≠q.2→h'.get k=h.get k) :
    RsX RR h' (ps.set i (q.1,a')) C (rs.set i r):=by
  have hlt:=hr.lt hk hf
  have hty:=hr.ty hk
  refine ⟨by rw [List.length_set]; exact hr.1,by rw [List.length_set]; exact hr.2.1,fun j p c2 r2 h1 h2 h3=>?_⟩
  by_cases hij:i=j
  · subst hij
    have hl:=(List.getElem?_eq_some_iff.1 hq).1
    have hl2:i < rs.length:=by have:=hr.1; have:=hr.2.1; omega
    rw [List.getElem?_set_self hl] at h1
    rw [List.getElem?_set_self hl2] at h3
    rw [hc] at h2
    cases h1; cases h2; cases h3
    exact hn
  · rw [List.getElem?_set_ne hij] at h1
    rw [List.getElem?_set_ne hij] at h3
    have hd2:=hd i j q p hq h1 hij
    have hm:=List.mem_of_getElem? h1
    have hm2:=List.mem_of_getElem? hq
    obtain ⟨⟨c3,t1⟩,c4,t2⟩:=hty p hm
    obtain ⟨⟨c5,t3⟩,c6,t4⟩:=hty q hm2
    have n1:p.1≠q.2:=fun e=>by rw [e,t4] at t1; simp only [Option.some.injEq,Obj.cells.injEq] at t1; exact hk.ne t1.2.1.symm
    have n2:p.2≠q.1:=fun e=>by rw [e,t3] at t2; simp only [Option.some.injEq,Obj.cells.injEq] at t2; exact hk.ne t2.2.1
    exact hk.keep (hr.2.2 j p c2 r2 h1 h2 h3) (hg _ (hlt p hm).1 (Ne.symm hd2.1) n1) (hg _ (hlt p hm).2 n2 (Ne.symm hd2.2))
theorem Dst.set (hd:Dst ps) {i a':Nat} {q:Nat × Nat} (hq:ps[i]?=some q) (ha:a'=q.2∨∀ p∈ps,p.2 < a'):Dst (ps.set i (q.1,a')):=by
  intro j k p p2 h1 h2 hjk
  have hl:=(List.getElem?_eq_some_iff.1 hq).1
  by_cases hj:i=j
  · subst hj
    rw [List.getElem?_set_self hl] at h1
    cases h1
    rw [List.getElem?_set_ne hjk] at h2
    have h3:=hd i k q p2 hq h2 hjk
    refine ⟨h3.1,?_⟩
    rcases ha with rfl | ha
    · exact h3.2
    · have:=ha p2 (List.mem_of_getElem? h2); show a'≠p2.2; omega
  · rw [List.getElem?_set_ne hj] at h1
    by_cases hk:i=k
    · subst hk
      rw [List.getElem?_set_self hl] at h2
      cases h2
      have h3:=hd j i p q h1 hq hjk
      refine ⟨h3.1,?_⟩
      rcases ha with rfl | ha
      · exact h3.2
      · have:=ha p (List.mem_of_getElem? h1); show p.2≠a'; omega
    · rw [List.getElem?_set_ne hk] at h2
      exact hd j k p p2 h1 h2 hjk
theorem aH3 {i:Nat} {q:Nat × Nat} (hq:ps[i]?=some q):ps.set i (q.1,q.2)=ps:=by
  apply List.ext_getElem?
  intro j
  by_cases hj:i=j
  · subst hj
    rw [List.getElem?_set_self (List.getElem?_eq_some_iff.1 hq).1,hq]
  · rw [List.getElem?_set_ne hj]
theorem aKR {i a':Nat} {q:Nat × Nat} (hq:ps[i]?=some q):lT (ps.set i (q.1,a'))=lT ps:=by
  unfold lT
  apply List.ext_getElem?
  intro j
  rw [List.getElem?_map,List.getElem?_map]
  by_cases hj:i=j
  · subst hj
    rw [List.getElem?_set_self (List.getElem?_eq_some_iff.1 hq).1,hq]; rfl
  · rw [List.getElem?_set_ne hj]
end
def l6 (ps:List (Nat × Nat)):List Nat:=ps.flatMap fun q=>[q.1,q.2]
theorem iN {ps:List (Nat × Nat)} {k:Nat}:k∈l6 ps ↔ ∃ q∈ps,k=q.1∨k=q.2:=by simp [l6]
def MX (RR:RgP) (ty:TypeId) (ro:Ro) (h:T Obj) (X:List Nat) (p:Nat) (ps:List (Nat × Nat)) (d:AutoD) (m:MacD):Prop:=∃ cv sv rv,h.get p=some (.cells (eM d.c d.many cv sv m.cur rv m.steps).toArray ty)∧mJ ro (del h X) (dQ d.c d.many cv sv) d ∧
  Sl ro (del h X) rv 1 (lT ps)∧RsX RR h ps d.counts m.rs∧Dst ps∧p∈X∧∀ k∈l6 ps,k∈X
abbrev MI:=MX RI cL
abbrev MW:=MX WJ hU
theorem aOC {h h':T Obj} {X:List Nat} (hs:Sub (del h X) h'):Sub (del h X) (del h' X):=fun k o hk=>by
  have h1:=hk
  rw [iG] at h1
  split at h1
  · cases h1
  · rename_i hn; exact jI (hs k o hk) hn
theorem aMk {h h':T Obj} {X X':List Nat} (hs:Sub (del h X) h') (hx:∀ k∈X',k∈X∨h.get k=none):Sub (del h X) (del h' X'):=fun k o hk=>by
  have h1:=hk
  rw [iG] at h1
  split at h1
  · cases h1
  · rename_i hn
    refine jI (hs k o hk) fun hm=>?_
    rcases hx k hm with h2 | h2
    · exact hn h2
    · rw [h2] at h1; cases h1
section
variable {RR:RgP} {tp ta ty:TypeId} {ro:Ro} {h h':T Obj} {X X':List Nat} {p:Nat} {ps:List (Nat × Nat)} {d:AutoD} {m:MacD}
theorem mJ.sub {x:List Value} (hd:mJ ro h x d) (hs:Sub h h'):mJ ro h' x d:=by
  obtain ⟨cv,sv,h1,h2,h3,h4,h5,h6⟩:=hd
  exact ⟨cv,sv,h1,h2,h3,h4.sub hs fun _ _ h=>h,h5.sub hs (eA.sub hs),h6⟩
theorem MX.keep {ids:List Nat} (hk:RgOk RR tp ta) (hm:MX RR ty ro h X p ps d m) (hs:dY ids h h') (h1:∀ k∈ids,k∈X) (h2:∀ k∈ids,k≠p∧k ∉ l6 ps) (h3:∀ k∈X',k∈X∨h.get k=none) (h4:∀ k∈X,k∈X'):MX RR ty ro h' X' p ps d m:=by
  obtain ⟨cv,sv,rv,g1,g2,g3,g4,g5,g6,g7⟩:=hm
  have hD:=hs.del h1 h3
  refine ⟨cv,sv,rv,hs p _ g1 fun hp=>(h2 p hp).1 rfl,g2.sub hD,g3.sub hD,g4.keep hk fun q hq=>?_,g5,h4 p g6,fun k hk=>h4 k (g7 k hk)⟩
  obtain ⟨⟨c1,t1⟩,c2,t2⟩:=g4.ty hk q hq
  rw [t1,t2,hs _ _ t1 fun hm=>(h2 _ hm).2 (iN.2 ⟨q,hq,.inl rfl⟩),hs _ _ t2 fun hm=>(h2 _ hm).2 (iN.2 ⟨q,hq,.inr rfl⟩)]
  exact ⟨rfl,rfl⟩
theorem MX.sub (hk:RgOk RR tp ta) (hm:MX RR ty ro h X p ps d m) (hs:Sub h h') (h3:∀ k∈X',k∈X∨h.get k=none) (h4:∀ k∈X,k∈X'):MX RR ty ro h' X' p ps d m:=hm.keep (ids:=[]) hk hs.keepL (fun k hk=>by cases hk) (fun k hk=>by cases hk) h3 h4
theorem MX.subX (hk:RgOk RR tp ta) (hm:MX RR ty ro h X p ps d m) (hs:Sub h h'):MX RR ty ro h' X p ps d m:=hm.sub hk hs (fun k hk=>.inl hk) fun k hk=>hk
theorem MX.lt (hk:RgOk RR tp ta) (hm:MX RR ty ro h X p ps d m) {nx:Nat} (hf:Fr h nx):p < nx∧∀ k∈l6 ps,k < nx:=by
  obtain ⟨cv,sv,rv,g1,g2,g3,g4,g5,g6,g7⟩:=hm
  refine ⟨hf.lt' g1,fun k hk2=>?_⟩
  obtain ⟨q,hq,h1⟩:=iN.1 hk2
  have:=g4.lt hk hf q hq
  omega
end
end V
end Go.Proofs.YtjndkdmkecpllaaGreat
set_option linter.unusedVariables false
set_option linter.unusedSimpArgs false
namespace Go.Proofs.YtjndkdmkecpllaaGreat
namespace V
attribute [local irreducible] aA ifP aZ d4 eG exP d8
theorem mJ.parts {ro:Ro} {h:T Obj} {d:AutoD} {cv sv:Value} (hd:mJ ro h (dQ d.c d.many cv sv) d):d.c.length=256∧(∀ x∈d.c,x < 256)∧SlR ro h cv 2 zH d.counts∧SlR ro h sv 4 (eA ro h) d.states:=by
  obtain ⟨cv',sv',h1,h2,h3,h4,h5,h6⟩:=hd
  unfold dQ at h1
  have:=List.append_cancel_left h1
  simp only [List.cons.injEq,and_true] at this
  obtain ⟨rfl,rfl⟩:=this
  exact ⟨h2,h3,h4,h5⟩
theorem Sl.ixI {ro:Ro} {h:T Obj} {v:Value} {z:Nat} {l:List (List Value)} (hl:Sl ro h v z l) (k:IntKind) {i:Int} (h0:0≤i) (hi:i < l.length):dI z v (.int k i)=some (gP z v i.toNat):=by
  have:=hl.ix k (i:=i.toNat) (by omega)
  rwa [Int.toNat_of_nonneg h0] at this
theorem SlR.sl' {D:Type} {ro:Ro} {h:T Obj} {v:Value} {z:Nat} {R:List Value→D→Prop} {l:List D} (hl:SlR ro h v z R l) {i:Nat} (hi:i < l.length) (n w:Nat) (k:IntKind) {j:Int} (h0:0≤j) (h1:j < n):ixArr n w (gP z v i) (.int k j)=some (jT z v i (j.toNat*w)):=by
  obtain ⟨cs,g1,g2,g3⟩:=hl
  exact g1.ixArr (by omega) n w k h0 h1
theorem wS {ps:List (Nat × Nat)} {i:Nat} {q:Nat × Nat} (hq:ps[i]?=some q):(lT ps)[i]?=some [ptr q.1]:=by simp [lT,hq]
theorem aFB {C:List (Int × Int)} {c:Int} (h0:0≤c) (h1:c < C.length):C[c.toNat]'(by omega)=oT C c:=by
  unfold oT
  rw [List.getD_eq_getElem?_getD,List.getElem?_eq_getElem (by omega)]; rfl
section
variable {ro:Ro} {h:T Obj} {nx:Nat} {X:List Nat} {p:Nat} {ps:List (Nat × Nat)} {d:AutoD} {m:MacD} {K:KV}
theorem aAX (hm:MI ro h X p ps d m) (hK:∀ nx',nx≤nx'→K (.int .i64 m.cur) h nx'):aN Tryz.prog ro iL [ptr p] h nx K:=by
  obtain ⟨cv,sv,rv,gp,hA,_⟩:=hm
  have m9:=aBG (n:=d.many) (cv:=cv) (sv:=sv) (cur:=m.cur) (rv:=rv) (steps:=m.steps) hA.parts.1
  apply vI
  unfold mA
  (repeat (first | refine aB (by simp (disch:=first | omega | exact Int.natCast_nonneg _ | assumption) only [BB,B2,↓reduceIte,Nat.reduceLeDiff,Nat.reduceAdd,CC,kT,a8,gp,m9]<;>rfl) ?_ | refine aD ?_ | refine aE ?_ | with_reducible first | refine aG ?_ | refine aF ?_ | refine aH ?_ | refine aI ?_ | refine aK ?_ | refine aJ ?_ | refine aL ?_ | refine aC ?_))
  exact ⟨h,Sub.refl _,hK _ (by omega)⟩
set_option maxRecDepth 8000 in
theorem aFF {c:Int} (hm:MI ro h X p ps d m) (hc0:0≤c) (hc:c < d.counts.length) (hK:∀ nx',nx≤nx'→K (.int .i64 (aHz d.counts m.rs c:Nat)) h nx'):aN Tryz.prog ro kM [ptr p,.int .i64 c] h nx K:=by
  obtain ⟨cv,sv,rv,gp,hA,hP,hR,hD,hpX,hbX⟩:=hm
  obtain ⟨hcl,hclt,hcv,hsv⟩:=hA.parts
  have hP:=hP.sub (gM h X)
  have hcv:=hcv.sub (gM h X) fun _ _ h=>h
  have m0:=qE (n:=d.many) (cv:=cv) (sv:=sv) (cur:=m.cur) (rv:=rv) (steps:=m.steps) hcl
  have m7:=aKB (n:=d.many) (cv:=cv) (sv:=sv) (cur:=m.cur) (rv:=rv) (steps:=m.steps) hcl
  obtain ⟨q,hq,hri⟩:=hR.at hc0 hc
  have hi:c.toNat < d.counts.length:=by omega
  have hpi:=hP.ixI .i64 hc0 (by rw [lE,hR.1]; exact hc)
  have hp1:=hP.load1 (wS hq)
  have hci:=hcv.ixI .i64 hc0 hc
  obtain ⟨x,hx1,hx2,hx3,hx4,hx5⟩:=hcv.at hi
  rw [aFB hc0 hc] at hx1
  have ha0:V.ixArr 2 1 (gP 2 cv c.toNat) (.int .i64 0)=some (jT 2 cv c.toNat 0):=hcv.sl' hi 2 1 .i64 (j:=0) (by omega) (by omega)
  have ha1:V.ixArr 2 1 (gP 2 cv c.toNat) (.int .i64 1)=some (jT 2 cv c.toNat 1):=hcv.sl' hi 2 1 .i64 (j:=1) (by omega) (by omega)
  obtain rfl:x=[.int .i64 (oT d.counts c).1,.int .i64 (oT d.counts c).2]:=hx1
  have hl0:=hx5 0 _ rfl
  have hl1:=hx5 1 _ rfl
  have hL:=kB.L hri
  apply vK
  unfold mB
  unfold aHz at hK
  generalize (oT d.counts c)=ct at hri hl0 hl1 hL hK
  generalize (pF m.rs c)=r at hri hL hK
  (repeat (first | refine aB (by simp (disch:=first | omega | exact Int.natCast_nonneg _ | assumption) only [BB,B2,↓reduceIte,Nat.reduceLeDiff,Nat.reduceAdd,CC,a8,gp,m0,hpi,hp1]<;>rfl) ?_ | refine aD ?_ | refine aE ?_ | with_reducible first | refine aG ?_ | refine aF ?_ | refine aH ?_ | refine aI ?_ | refine aK ?_ | refine aJ ?_ | refine aL ?_ | refine aC ?_))
  refine aI3 hri fun n1 hn1=>?_
  refine aB (aON _) (aB (aOO _) ?_)
  (repeat (first | refine aB (by simp (disch:=first | omega | exact Int.natCast_nonneg _ | assumption) only [BB,B2,↓reduceIte,Nat.reduceLeDiff,Nat.reduceAdd,CC,a8,gp,m0,hpi,hp1]<;>rfl) ?_ | refine aD ?_ | refine aE ?_ | with_reducible first | refine aG ?_ | refine aF ?_ | refine aH ?_ | refine aI ?_ | refine aK ?_ | refine aJ ?_ | refine aL ?_ | refine aC ?_))
  refine aI2 hri fun n2 hn2=>?_
  refine aB (aOI _) (aB (aOJ _) ?_)
  have hend:∀ (k:Nat) n,nx≤n→(if r.1.length=0 then 0 else if ((r.1.getD 0 0:Nat):Int) < ct.1 then 0 else if ((r.1.getD (r.1.length - 1) 0:Nat):Int) < ct.2 then 2 else 1)=k→∃ h',Sub h' h∧K (.int .i64 (k:Int)) h' n:=fun k n hn e=>by
    subst e; exact ⟨h,Sub.refl _,hK _ hn⟩
  by_cases h0:r.1.length=0
  · rw [decide_eq_true h0]
    (repeat (first | refine aB (by simp (disch:=first | omega | exact Int.natCast_nonneg _ | assumption) only [BB,B2,↓reduceIte,Nat.reduceLeDiff,Nat.reduceAdd,CC]<;>rfl) ?_ | refine aD ?_ | refine aE ?_ | with_reducible first | refine aG ?_ | refine aF ?_ | refine aH ?_ | refine aI ?_ | refine aK ?_ | refine aJ ?_ | refine aL ?_ | refine aC ?_))
    exact hend 0 _ (by omega) (by rw [if_pos h0])
  · rw [decide_eq_false h0]
    have e1:aMp r.1=r.1.getD 0 0:=by unfold aMp; rw [if_neg h0]
    have e2:low r.1=r.1.getD (r.1.length - 1) 0:=by unfold low; rw [if_neg h0]
    rw [e1,e2]
    simp only [if_neg h0] at hend
    (repeat (first | refine aB (by simp (disch:=first | omega | exact Int.natCast_nonneg _ | assumption) only [BB,B2,↓reduceIte,Nat.reduceLeDiff,Nat.reduceAdd,CC,a8,gp,m7,hci,ha0,hl0]<;>rfl) ?_ | refine aD ?_ | refine aE ?_ | with_reducible first | refine aG ?_ | refine aF ?_ | refine aH ?_ | refine aI ?_ | refine aK ?_ | refine aJ ?_ | refine aL ?_ | refine aC ?_))
    refine dO (fun h1=>?_) (fun h1=>?_)
    · (repeat (first | refine aB (by simp (disch:=first | omega | exact Int.natCast_nonneg _ | assumption) only [BB,B2,↓reduceIte,Nat.reduceLeDiff,Nat.reduceAdd,CC]<;>rfl) ?_ | refine aD ?_ | refine aE ?_ | with_reducible first | refine aG ?_ | refine aF ?_ | refine aH ?_ | refine aI ?_ | refine aK ?_ | refine aJ ?_ | refine aL ?_ | refine aC ?_))
      exact hend 0 _ (by omega) (by rw [if_pos h1])
    · simp only [if_neg (show ¬ ((r.1.getD 0 0:Nat):Int) < ct.1 by omega)] at hend
      (repeat (first | refine aB (by simp (disch:=first | omega | exact Int.natCast_nonneg _ | assumption) only [BB,B2,↓reduceIte,Nat.reduceLeDiff,Nat.reduceAdd,CC,a8,gp,m7,hci,ha1,hl1]<;>rfl) ?_ | refine aD ?_ | refine aE ?_ | with_reducible first | refine aG ?_ | refine aF ?_ | refine aH ?_ | refine aI ?_ | refine aK ?_ | refine aJ ?_ | refine aL ?_ | refine aC ?_))
      refine dO (fun h2=>?_) (fun h2=>?_)
      · (repeat (first | refine aB (by simp (disch:=first | omega | exact Int.natCast_nonneg _ | assumption) only [BB,B2,↓reduceIte,Nat.reduceLeDiff,Nat.reduceAdd,CC]<;>rfl) ?_ | refine aD ?_ | refine aE ?_ | with_reducible first | refine aG ?_ | refine aF ?_ | refine aH ?_ | refine aI ?_ | refine aK ?_ | refine aJ ?_ | refine aL ?_ | refine aC ?_))
        exact hend 2 _ (by omega) (by rw [if_pos h2])
      · (repeat (first | refine aB (by simp (disch:=first | omega | exact Int.natCast_nonneg _ | assumption) only [BB,B2,↓reduceIte,Nat.reduceLeDiff,Nat.reduceAdd,CC]<;>rfl) ?_ | refine aD ?_ | refine aE ?_ | with_reducible first | refine aG ?_ | refine aF ?_ | refine aH ?_ | refine aI ?_ | refine aK ?_ | refine aJ ?_ | refine aL ?_ | refine aC ?_))
        exact hend 1 _ (by omega) (by rw [if_neg (by omega)])
set_option maxRecDepth 8000 in
theorem aBg {lv rv' uv nv:Value} {R:List Int} (hm:MI ro h X p ps d m) (hf:Fr h nx) (hR3:R.length≤3) (hRl:∀ c∈R,0≤c∧c < d.counts.length) (hr:ZI ro h rv' R) (hK:∀ nx',nx≤nx'→K (.int .i64 (fI d.counts m.rs R:Nat)) h nx'):aN Tryz.prog ro iT [ptr p,.agg #[lv,rv',uv,nv]] h nx K:=by
  apply wK
  unfold nG
  refine fT hf (Nat.le_refl _) fun h1 hs1 hf1 g1 _=>?_
  have g1:h1.get nx=some (.cells #[lv,rv',uv,nv] aP):=g1
  have hr:=hr.sub hs1
  have hrl:=hr.len
  have hm1:=hm.subX kB hs1
  have htot:fI d.counts m.rs R≤26:=by
    have h9:=aB9 (C:=d.counts) (rs:=m.rs) hR3
    have h10:=aCY (R.length:Int)
    omega
  (repeat (first | refine aB (by simp (disch:=first | omega | exact Int.natCast_nonneg _ | assumption) only [BB,B2,↓reduceIte,Nat.reduceLeDiff,Nat.reduceAdd,CC,g1,hrl]<;>rfl) ?_ | refine aD ?_ | refine aE ?_ | with_reducible first | refine aG ?_ | refine aF ?_ | refine aH ?_ | refine aI ?_ | refine aK ?_ | refine aJ ?_ | refine aL ?_ | refine aC ?_))
  generalize hT:fI d.counts m.rs R=tot at hK htot
  refine bI (fun j e h' nx'=>∃ (k n w:Nat),k+j=R.length∧nx≤nx'∧h'=h1∧e 0=ptr p∧e 5=.int .i64 (n:Int)∧e 6=.int .i64 (w:Int)∧e 10=rv'∧e 11=.int .i64 R.length∧e 12=.int .i64 k∧n+w*fI d.counts m.rs (R.drop k)=tot∧(k=0∧w=1∨k=1∧w=3∨k=2∧w=9∨k=3∧w=27)) ?_ (n:=R.length) ⟨0,0,1,by omega,by omega,rfl,rfl,rfl,rfl,rfl,rfl,rfl,by rw [List.drop_zero,hT]; omega,by omega⟩
  rintro j e h' nx' ⟨k,n,w,hj,hnx,rfl,e0,e5,e6,e10,e11,e12,ht,hw⟩ Q' hq hx
  unfold oZ
  rw [e0,e5,e6,e10,e11,e12]
  refine dO (fun hk=>?_) (fun hk=>?_)
  · have hk:k < R.length:=by omega
    rw [eL hk] at ht
    have hcm:=hRl _ (List.getElem_mem hk)
    (repeat (first | refine aB (by simp (disch:=first | omega | exact Int.natCast_nonneg _ | assumption) only [BB,B2,↓reduceIte,Nat.reduceLeDiff,Nat.reduceAdd,CC]<;>rfl) ?_ | refine aD ?_ | refine aE ?_ | with_reducible first | refine aG ?_ | refine aF ?_ | refine aH ?_ | refine aI ?_ | refine aK ?_ | refine aJ ?_ | refine aL ?_ | refine aC ?_))
    refine aB (hr.ix _ hk) (aB (hr.load hk) ?_)
    generalize R[k]=c at ht hcm
    refine aFF hm1 hcm.1 hcm.2 fun n2 hn2=>?_
    change n+w*(aHz d.counts m.rs c+3*fI d.counts m.rs (R.drop (k+1)))=tot at ht
    have hdl:=aIs d.counts m.rs c
    generalize aHz d.counts m.rs c=g at ht hdl
    have hw27:w≤27:=by omega
    have hwg:w*g≤54:=Nat.mul_le_mul hw27 (show g≤2 by omega)
    have hmul:aX .mul (.int .i64 (w:Int)) (.int .i64 (g:Int))=some (.int .i64 ((w*g:Nat):Int)):=by
      rw [cX,← Int.natCast_mul,dJ (by omega) (by omega)]
    rw [Nat.mul_add,← Nat.mul_assoc] at ht
    have hadd:aX .add (.int .i64 (n:Int)) (.int .i64 ((w*g:Nat):Int))=some (.int .i64 ((n+w*g:Nat):Int)):=by
      rw [cK,← Int.natCast_add,dJ (by omega) (by omega)]
    have hmul3:aX .mul (.int .i64 (w:Int)) (.int .i64 3)=some (.int .i64 ((w*3:Nat):Int)):=by
      rw [cX,dJ (by omega) (by omega)]; simp
    refine aB hmul (aB hadd (aB hmul3 ?_))
    (repeat (first | refine aB (by simp (disch:=first | omega | exact Int.natCast_nonneg _ | assumption) only [BB,B2,↓reduceIte,Nat.reduceLeDiff,Nat.reduceAdd,CC]<;>rfl) ?_ | refine aD ?_ | refine aE ?_ | with_reducible first | refine aG ?_ | refine aF ?_ | refine aH ?_ | refine aI ?_ | refine aK ?_ | refine aJ ?_ | refine aL ?_ | refine aC ?_))
    exact hq (j - 1) _ _ _ _ (by omega) ⟨k+1,n+w*g,w*3,by omega,by omega,rfl,e0,rfl,rfl,e10,e11,rfl,by omega,by omega⟩ (Sub.refl _)
  · (repeat (first | refine aB (by simp (disch:=first | omega | exact Int.natCast_nonneg _ | assumption) only [BB,B2,↓reduceIte,Nat.reduceLeDiff,Nat.reduceAdd,CC]<;>rfl) ?_ | refine aD ?_ | refine aE ?_ | with_reducible first | refine aG ?_ | refine aF ?_ | refine aH ?_ | refine aI ?_ | refine aK ?_ | refine aJ ?_ | refine aL ?_ | refine aC ?_))
    refine hx _ _ _ _ (fun e=>by cases e) (fG (dR ?_))
    unfold kI
    rw [iH (by omega)] at ht
    have ht:n+w*0=tot:=ht
    have f5:∀ (e':Env) n',e' 5=.int .i64 (n:Int)→nx≤n'→∃ h2,Sub h2 h'∧K (e' 5) h2 n':=fun e' n' h5 hn=>by
      rw [h5]
      exact ⟨h,hs1,ki hK (by omega) hn⟩
    exact f5 _ _ e5 (by omega)
set_option maxRecDepth 8000 in
theorem aBf (hm:MI ro h X p ps d m) (ha:fV d=true) (ho:MOk d m) (hf:Fr h nx) (hK:∀ nx',nx≤nx'→K (.int .i64 (oC d m)) h nx'):aN Tryz.prog ro lL [ptr p] h nx K:=by
  apply wE
  unfold nD
  refine aAX hm fun n1 hn1=>?_
  unfold oC at hK
  by_cases hc:m.cur=-1
  · rw [if_pos hc] at hK
    refine aKt hc ?_
    (repeat (first | refine aB (by simp (disch:=first | omega | exact Int.natCast_nonneg _ | assumption) only [BB,B2,↓reduceIte,Nat.reduceLeDiff,Nat.reduceAdd,CC]<;>rfl) ?_ | refine aD ?_ | refine aE ?_ | with_reducible first | refine aG ?_ | refine aF ?_ | refine aH ?_ | refine aI ?_ | refine aK ?_ | refine aJ ?_ | refine aL ?_ | refine aC ?_))
    exact ⟨h,Sub.refl _,hK _ (by omega)⟩
  · rw [if_neg hc] at hK
    have hst:=aH6 ha ho hc
    obtain ⟨cv,sv,rv,gp,hA,hP,hR,hD,hpX,hbX⟩:=id hm
    obtain ⟨hcl,hclt,hcv,hsv⟩:=hA.parts
    have hsv:=hsv.sub (gM h X) (eA.sub (gM h X))
    have m8:=aBF (n:=d.many) (cv:=cv) (sv:=sv) (cur:=m.cur) (rv:=rv) (steps:=m.steps) hcl
    have m9:=aBG (n:=d.many) (cv:=cv) (sv:=sv) (cur:=m.cur) (rv:=rv) (steps:=m.steps) hcl
    have hcur:0≤m.cur∧m.cur < d.states.length:=by rcases ho.1 with h | h<;>omega
    have hi:m.cur.toNat < d.states.length:=by omega
    have hs:d.states[m.cur.toNat]=fP d m:=by unfold fP; rw [List.getD_eq_getElem?_getD,List.getElem?_eq_getElem hi]; rfl
    have hsi:=hsv.ixI .i64 hcur.1 hcur.2
    obtain ⟨x,⟨lv,rv',uv,nv,rfl,y1,y2,y3,y4,y5⟩,hx2,hx3,hx4,hx5⟩:=hsv.at hi
    rw [hs] at y1 y2 y3 y4 y5
    generalize fP d m=s at hst y1 y2 y3 y4 y5 hK
    refine aKr hc ?_
    (repeat (first | refine aB (by simp (disch:=first | omega | exact Int.natCast_nonneg _ | assumption) only [BB,B2,↓reduceIte,Nat.reduceLeDiff,Nat.reduceAdd,CC,a8,gp,m8,m9,hsi,hx3]<;>rfl) ?_ | refine aD ?_ | refine aE ?_ | with_reducible first | refine aG ?_ | refine aF ?_ | refine aH ?_ | refine aI ?_ | refine aK ?_ | refine aJ ?_ | refine aL ?_ | refine aC ?_))
    refine kR (x:=[lv,rv',uv,nv]) lI rfl rfl rfl (by simp [y1.ok,y2.ok,y3.ok,SlR.okC y4]) hf (by omega) fun h2 hs2 hf2 g2 _=>?_
    (repeat (first | refine aB (by simp (disch:=first | omega | exact Int.natCast_nonneg _ | assumption) only [BB,B2,↓reduceIte,Nat.reduceLeDiff,Nat.reduceAdd,CC,g2]<;>rfl) ?_ | refine aD ?_ | refine aE ?_ | with_reducible first | refine aG ?_ | refine aF ?_ | refine aH ?_ | refine aI ?_ | refine aK ?_ | refine aJ ?_ | refine aL ?_ | refine aC ?_))
    refine aBg (hm.subX kB hs2) (hf2.mono (by omega)) hst.r3 hst.rl (y2.sub hs2) fun n3 hn3=>?_
    refine ⟨oK g2 g2,?_⟩
    have hkr:=hst.kr
    have y3:=y3.sub hs2
    refine aB (y3.ix _ hkr) (aB (y3.load hkr) ?_)
    refine ⟨h,hs2,?_⟩
    rw [List.getD_eq_getElem?_getD,List.getElem?_eq_getElem hkr] at hK
    exact hK _ (by omega)
end
end V
end Go.Proofs.YtjndkdmkecpllaaGreat