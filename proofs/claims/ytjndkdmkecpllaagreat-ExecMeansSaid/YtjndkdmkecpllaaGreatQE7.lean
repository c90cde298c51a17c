/- Texts laid one behind the other: ZE.
   No condition. -/
import Derived.Test.YtjndkdmkecpllaaGreatQE6
set_option linter.unusedVariables false
set_option linter.unusedSimpArgs false
namespace Go.Proofs.YtjndkdmkecpllaaGreat
namespace V
attribute [local irreducible] aA bF aV dL eJ iM dE
structure HeldD where
 p:Int
 n:List Int
structure CfgD where
 b:Bool
 l:List HeldD
def oY (g:GlD) (place:Int):List HeldD→Bool
 | []=>true
 | h::r=>decide (place < h.p)&&(decide (h.p < g.p.length)&&(!h.n.isEmpty&&(rz 0 ((g.at h.p).hi+1) h.n&&oY g h.p r)))
def tD (g:GlD) (c:CfgD):Bool:=if c.b then c.l.isEmpty else oY g (-1) c.l
def vS (g:GlD) (h:HeldD):Bool:=decide ((g.at h.p).lo≤h.n.getLastD 0)
def aRI (g:GlD) (b:Nat) (q:Int):Bool:=(g.at q).s.testBit b
def gH (g:GlD) (c:CfgD) (q:Int):Bool:=if c.b then g.first.contains q else c.l.any fun h=>vS g h&&(g.at h.p).next.contains q
def upD (hi:Int) (n:List Int):List Int:=(n.filter fun x=>decide (x < hi)).map (·+1)
def jE (g:GlD) (q:Int) (l:List HeldD):List Int:=l.flatMap fun h=>if h.p=q then upD (g.at q).hi h.n else []
def uF (g:GlD) (c:CfgD) (b:Nat) (q:Int):List Int:=if aRI g b q then (if gH g c q then [1] else [])++jE g q c.l else []
def zD (q:Int) (n:List Int):List HeldD:=if n=[] then [] else [⟨q,n⟩]
def wX (g:GlD) (c:CfgD) (b:Nat):List HeldD:=(List.range g.p.length).flatMap fun q:Nat=>zD q (uF g c b q)
def lP (g:GlD) (c:CfgD) (b:Nat):CfgD:=⟨false,wX g c b⟩
def rul (g:GlD) (best:Int):List HeldD→Int
 | []=>best
 | h::r=>rul g (if (g.at h.p).last&&(vS g h&&(decide (best < 0) || decide ((g.at h.p).rule < best))) then (g.at h.p).rule else best) r
def oM (g:GlD) (c:CfgD):Int:=rul g (-1) c.l
def lon (g:GlD) (c:CfgD) (to best:Int) (i:Nat):List Nat→Int × Int
 | []=>(to,best)
 | b::w=>let d:=lP g c b
  if 0≤oM g d then lon g d ((i:Int)+1) (oM g d) (i+1) w else lon g d to best (i+1) w
def aAD:CfgD:=⟨true,[]⟩
theorem aC5 (g:GlD) (a:Int) (h:HeldD) (r:List HeldD):oY g a (h::r)=(decide (a < h.p)&&(decide (h.p < g.p.length)&&(!h.n.isEmpty&&(rz 0 ((g.at h.p).hi+1) h.n&&oY g h.p r)))):=rfl
theorem aHN (g:GlD) (best:Int) (h:HeldD) (r:List HeldD):rul g best (h::r)=rul g (if (g.at h.p).last&&(vS g h&&(decide (best < 0) || decide ((g.at h.p).rule < best))) then (g.at h.p).rule else best) r:=rfl
theorem aKD:∀ {l:List Int}{a b m:Int},b≤a→rz a m l=true→rz b m l=true
 | [],a,b,m,_,h=>rfl
 | y::r,a,b,m,hb,h=>by
  simp only[rz,Bool.and_eq_true,decide_eq_true_eq] at h ⊢
  exact⟨by omega,h.2⟩
theorem aSi:∀ {l:List Int}{a m k:Int},rz a m l=true→rz (a+1) (k+1) (upD k l)=true
 | [],a,m,k,h=>rfl
 | y::r,a,m,k,h=>by
  simp only[rz,Bool.and_eq_true,decide_eq_true_eq] at h
  unfold upD
  by_cases hy:y < k
  ·rw[List.filter_cons_of_pos (by simpa using hy),List.map_cons]
   have:=aSi (k:=k) h.2.2
   simp only[rz,Bool.and_eq_true,decide_eq_true_eq]
   exact⟨by omega,by omega,this⟩
  ·rw[List.filter_cons_of_neg (by simpa using hy)]
   exact aKD (by omega) (aSi (k:=k) h.2.2)
theorem aMy {g:GlD}:∀ {l:List HeldD}{a b:Int},b≤a→oY g a l=true→oY g b l=true
 | [],a,b,_,h=>rfl
 | y::r,a,b,hb,h=>by
  simp only[oY,Bool.and_eq_true,decide_eq_true_eq] at h ⊢
  exact⟨by omega,h.2⟩
theorem aIU {g:GlD}:∀ {l:List HeldD}{a:Int},oY g a l=true→∀ x∈l,a < x.p∧x.p < g.p.length∧x.n≠[]∧rz 0 ((g.at x.p).hi+1) x.n=true
 | [],a,h,x,hx=>by cases hx
 | y::r,a,h,x,hx=>by
  simp only[oY,Bool.and_eq_true,decide_eq_true_eq] at h
  rcases List.mem_cons.1 hx with rfl | hx
  ·exact⟨h.1,h.2.1,by simpa using h.2.2.1,h.2.2.2.1⟩
  ·have:=aIU h.2.2.2.2 x hx
   exact⟨by omega,this.2⟩
theorem yI {g:GlD}{c:CfgD} (h:tD g c=true):∀ x∈c.l,0≤x.p∧x.p < g.p.length∧x.n≠[]∧rz 0 ((g.at x.p).hi+1) x.n=true:=by
 unfold tD at h
 by_cases hb:c.b=true
 ·rw[if_pos hb] at h
  have:c.l=[]:=by simpa using h
  rw[this]; intro x hx; cases hx
 ·rw[if_neg hb] at h
  intro x hx
  have:=aIU h x hx
  exact⟨by omega,this.2⟩
theorem aLG {l:List Int} (h:l≠[]):l[l.length - 1]?=some (l.getLastD 0):=by
 rw[← List.getLast?_eq_getElem?,List.getLast?_eq_some_getLast h]
 cases l with
 | nil=>exact absurd rfl h
 | cons x r=>simp[List.getLastD]
theorem aEd {g:GlD}{q:Int}:∀ {l:List HeldD}{a:Int},oY g a l=true→q≤a→jE g q l=[]
 | [],a,h,hq=>rfl
 | y::r,a,h,hq=>by
  simp only[oY,Bool.and_eq_true,decide_eq_true_eq] at h
  unfold jE
  rw[List.flatMap_cons,if_neg (by omega)]
  exact aEd h.2.2.2.2 (by omega)
theorem aM1 {g:GlD}{q:Int}:∀ {l:List HeldD}{a:Int},oY g a l=true→rz 1 ((g.at q).hi+1) (jE g q l)=true
 | [],a,h=>rfl
 | y::r,a,h=>by
  have h':=h
  simp only[oY,Bool.and_eq_true,decide_eq_true_eq] at h
  unfold jE
  rw[List.flatMap_cons]
  by_cases e:y.p=q
  ·subst e
   have:=aEd (q:=y.p) h.2.2.2.2 (Int.le_refl _)
   unfold jE at this
   rw[if_pos rfl,this,List.append_nil]
   exact aSi h.2.2.2.1
  ·rw[if_neg e]
   exact aM1 h.2.2.2.2
theorem aVR {g:GlD}{c:CfgD}{b:Nat}{q:Int} (hc:tD g c=true) (hq:1≤(g.at q).hi):rz 0 ((g.at q).hi+1) (uF g c b q)=true:=by
 unfold uF
 have hs:rz 1 ((g.at q).hi+1) (jE g q c.l)=true:=by
  unfold tD at hc
  by_cases hb:c.b=true
  ·rw[if_pos hb] at hc
   have:c.l=[]:=by simpa using hc
   rw[this]; rfl
  ·rw[if_neg hb] at hc; exact aM1 hc
 by_cases h1:aRI g b q=true
 ·rw[if_pos h1]
  by_cases h2:gH g c q=true
  ·rw[if_pos h2]
   show rz 0 _ (1::jE g q c.l)=true
   simp only[rz,Bool.and_eq_true,decide_eq_true_eq]
   exact⟨by omega,by omega,hs⟩
  ·rw[if_neg h2]; exact aKD (by omega) hs
 ·rw[if_neg h1]; rfl
theorem aMF {g:GlD} (hg:dJ g=true) {q:Nat} (hq:q < g.p.length):aDT g.p.length (g.at q)=true:=by
 unfold dJ at hg
 simp only[Bool.and_eq_true,List.all_eq_true] at hg
 refine hg.2.2 _ ?_
 unfold GlD.at
 rw[Int.toNat_natCast,List.getD_eq_getElem?_getD,List.getElem?_eq_getElem hq]
 exact List.getElem_mem _
theorem nU {many:Int}{p:PosD} (h:aDT many p=true):p.s≠0∧1≤p.lo∧p.lo≤p.hi∧p.hi≤4096∧0≤p.rule∧p.rule < 512∧rz (-1) many p.next=true:=by
 unfold aDT at h
 simp only[Bool.and_eq_true,decide_eq_true_eq] at h
 exact h
theorem pB {g:GlD} (hg:dJ g=true) {i:Int} (h0:0≤i) (h1:i < g.p.length):aDT g.p.length (g.at i)=true:=by
 have:=aMF hg (q:=i.toNat) (by omega)
 rwa [Int.toNat_of_nonneg h0] at this
theorem aCT {g:GlD}{c:CfgD}{b:Nat} (hg:dJ g=true) (hc:tD g c=true):∀ (n a:Nat),a+n=g.p.length→oY g ((a:Int) - 1) ((List.range' a n).flatMap fun q:Nat=>zD q (uF g c b q))=true
 | 0,a,_=>rfl
 | n+1,a,h=>by
  rw[List.range'_succ,List.flatMap_cons]
  have ih:=aCT (b:=b) hg hc n (a+1) (by omega)
  have ih':oY g a ((List.range' (a+1) n).flatMap fun q:Nat=>zD q (uF g c b q))=true:=by
   rw[show ((a+1:Nat):Int) - 1=(a:Int) by omega] at ih; exact ih
  have hm:=nU (aMF hg (show a < g.p.length by omega))
  have hz:=aVR (b:=b) (q:=(a:Int)) hc (by omega)
  unfold zD
  by_cases e:uF g c b a=[]
  ·rw[if_pos e]
   exact aMy (by omega) ih'
  ·rw[if_neg e]
   show oY g _ (⟨a,uF g c b a⟩::_)=true
   simp only[oY,Bool.and_eq_true,decide_eq_true_eq]
   exact⟨by omega,by omega,by simpa using e,hz,ih'⟩
theorem aIw {g:GlD}{c:CfgD}{b:Nat} (hg:dJ g=true) (hc:tD g c=true):tD g (lP g c b)=true:=by
 unfold tD lP wX
 have:=aCT (b:=b) hg hc g.p.length 0 (by omega)
 rw[← List.range_eq_range'] at this
 simpa using this
theorem aNf (g:GlD):tD g aAD=true:=rfl
theorem aI4 {g:GlD}{c:CfgD}{b:Nat}{h:HeldD} (hh:h∈wX g c b):∃ q:Nat,q < g.p.length∧h=⟨q,uF g c b q⟩∧uF g c b q≠[]:=by
 unfold wX at hh
 rw[List.mem_flatMap] at hh
 obtain⟨q,hq,hh⟩:=hh
 unfold zD at hh
 split at hh
 ·cases hh
 ·rename_i e
  simp at hh
  exact⟨q,by simpa using hq,hh,e⟩
theorem aQP {g:GlD}{c:CfgD}{b:Nat} (h:∀ q:Nat,q < g.p.length→uF g c b q=[]):wX g c b=[]:=by
 unfold wX
 rw[List.flatMap_eq_nil_iff]
 intro q hq
 unfold zD
 rw[if_pos (h q (by simpa using hq))]
theorem aNg {g:GlD}{b:Nat}:wX g ⟨false,[]⟩ b=[]:=aQP fun q _=>by
 unfold uF gH jE
 simp
theorem aG3 {g:GlD}:∀ (w:List Nat) (to best:Int) (i:Nat),lon g ⟨false,[]⟩ to best i w=(to,best)
 | [],_,_,_=>rfl
 | b::w,to,best,i=>by
  unfold lon
  have e:lP g ⟨false,[]⟩ b=⟨false,[]⟩:=by unfold lP; rw[aNg]
  simp only[e]
  have:¬ (0:Int)≤oM g ⟨false,[]⟩:=by unfold oM rul; decide
  rw[if_neg this]
  exact aG3 w to best (i+1)
theorem aRp {m:Nat} (hm:m < 2 ^ 256):aH6 [1,1,1,1] .neq (.agg (gA m).toArray) (qV 0)=some (.bool (!decide (m=0))):=by
 have e2:qV 0=.agg (gA 0).toArray:=rfl
 rw[e2]
 unfold aH6
 simp only[tl,aDE hm (show (0:Nat) < 2 ^ 256 by decide),Option.bind]
def aKN (ro:Ro) (h:T Obj) (x:List Value) (d:HeldD):Prop:=∃ nv,x=[.int .i64 d.p,nv]∧ZI ro h nv d.n
theorem aKN.sub {ro:Ro}{h h':T Obj} (hs:aU h h'):∀ x d,aKN ro h x d→aKN ro h' x d:=fun x d ⟨nv,h1,h2⟩=>⟨nv,h1,h2.sub hs⟩
def aVK (ro:Ro) (h:T Obj) (v:Value) (c:CfgD):Prop:=∃ a,v=.agg #[.bool c.b,a]∧gD ro h a 2 (aKN ro h) c.l
theorem aVK.sub {ro:Ro}{h h':T Obj}{v:Value}{c:CfgD} (hs:aU h h') (hg:aVK ro h v c):aVK ro h' v c:=by
 obtain⟨a,h1,h3⟩:=hg
 exact⟨a,h1,h3.sub hs (aKN.sub hs)⟩
theorem aSh:∀ {l:List Int}{a m:Int},rz a m l=true→a < m→(l.length:Int)+a+1≤m
 | [],a,m,h,ha=>by simp; omega
 | y::r,a,m,h,ha=>by
  simp only[rz,Bool.and_eq_true,decide_eq_true_eq] at h
  have:=aSh h.2.2 (by omega)
  rw[List.length_cons]; omega
def aS3 (r:Int × Int):Int × Int × Bool:=if r.2 < 0 then (0,0,false) else (r.1,r.2,true)
def aVB (g:GlD) (w:List Nat) (i:Nat):Int × Int × Bool:=aS3 (lon g aAD 0 (-1) i (w.drop i))
def aLJ (g:GlD) (w:List Nat) (from_:Int):Int × Int × Bool:=if dJ g∧0≤from_∧from_≤w.length then aVB g w from_.toNat else (0,0,false)
theorem aR1 (g:GlD) (c:CfgD) (to best:Int) (i b:Nat) (w:List Nat):lon g c to best i (b::w)=if 0≤oM g (lP g c b) then lon g (lP g c b) ((i:Int)+1) (oM g (lP g c b)) (i+1) w else lon g (lP g c b) to best (i+1) w:=rfl
theorem aSc {g:GlD} (hr:dJ g=true):∀ {l:List HeldD}{best:Int},(∀ x∈l,0≤x.p∧x.p < g.p.length)→-1≤best→-1≤rul g best l
 | [],best,_,hb=>hb
 | d::r,best,h,hb=>by
  rw[aHN]
  refine aSc hr (fun x hx=>h x (by simp[hx])) ?_
  have h1:=h d (by simp)
  have h2:=nU (pB hr h1.1 h1.2)
  split
  ·omega
  ·exact hb
theorem aSe {g:GlD}{c:CfgD} (hr:dJ g=true) (hc:tD g c=true):-1≤oM g c:=aSc hr (fun x hx=>⟨(yI hc x hx).1,(yI hc x hx).2.1⟩) (by omega)
theorem gD.ok {D:Type}{ro:Ro}{h:T Obj}{v:Value}{z:Nat}{R:List Value→D→Prop}{l:List D} (hl:gD ro h v z R l):bV v=true:=by obtain⟨cs,h9,_⟩:=hl; exact h9.ok
def qI (g:GlD) (h:HeldD):Int:=if h.n.getLastD 0 < (g.at h.p).lo then 0 else if h.n.headD 0 < (g.at h.p).hi then 2 else 1
def cod (g:GlD):List HeldD→Int
 | []=>0
 | h::r=>if ctd g h.p then qI g h+3*cod g r else cod g r
theorem aDA (g:GlD) (h:HeldD) (r:List HeldD):cod g (h::r)=if ctd g h.p then qI g h+3*cod g r else cod g r:=rfl
def dgH (g:GlD) (h:HeldD):Int:=if ctd g h.p then qI g h else -1
theorem aA4 (g:GlD) (h:HeldD):0≤qI g h∧qI g h < 3:=by
 unfold qI
 split
 ·omega
 ·split<;>omega
theorem aJS (g:GlD):∀ l:List HeldD,0≤cod g l
 | []=>Int.le_refl _
 | h::r=>by
  rw[aDA]
  have:=aJS g r
  have:=aA4 g h
  split<;>omega
theorem aDC (g:GlD):∀ l:List HeldD,d4 g (l.map (·.p)) (cod g l)=l.map fun h=>(h.p,dgH g h)
 | []=>rfl
 | h::r=>by
  have hd:=aA4 g h
  rw[List.map_cons,aEC,List.map_cons,aDA]
  cases hc:ctd g h.p with
  | true =>
   rw[if_pos rfl,if_pos rfl]
   have e1:(qI g h+3*cod g r) % 3=qI g h:=by omega
   have e2:(qI g h+3*cod g r) / 3=cod g r:=by omega
   rw[e1,e2,aDC g r]
   have:dgH g h=qI g h:=by unfold dgH; rw[if_pos hc]
   rw[this]
  | false =>
   rw[if_neg (by decide),if_neg (by decide),aDC g r]
   have:dgH g h=-1:=by unfold dgH; rw[hc]; rfl
   rw[this]
theorem aQk (g:GlD):∀ l:List HeldD,cod g l < 3 ^ (dI g (l.map (·.p))).length
 | []=>by show (0:Int) < 3 ^ 0; decide
 | h::r=>by
  have h1:=aQk g r
  have h2:=aA4 g h
  rw[aDA,List.map_cons]
  have e:dI g (h.p::r.map (·.p))=if ctd g h.p then i7 g h.p::dI g (r.map (·.p)) else dI g (r.map (·.p)):=by
   unfold dI
   cases hc:ctd g h.p with
   | true=>rw[List.filter_cons_of_pos hc]; rfl
   | false=>rw[List.filter_cons_of_neg (by simp[hc])]; rfl
  rw[e]
  cases hc:ctd g h.p with
  | true =>
   rw[if_pos rfl,if_pos rfl,List.length_cons,Int.pow_succ]
   generalize (3:Int) ^ (dI g (r.map (·.p))).length=X at h1
   omega
  | false=>rw[if_neg (by decide),if_neg (by decide)]; exact h1
theorem aOz {m:Nat} (h:m≤3):eW (m:Int)=3 ^ m:=by
 have:m=0∨m=1∨m=2∨m=3:=by omega
 rcases this with rfl | rfl | rfl | rfl<;>decide
theorem yL {m:Int}:∀ {l:List Int}{a:Int},rz a m l=true→l≠[]→a < l.headD 0∧l.headD 0≤l.getLastD 0∧l.getLastD 0 < m∧∀ x∈l,l.headD 0≤x
 | [],_,_,h=>absurd rfl h
 | [x],a,h,_=>by
  simp only[rz,Bool.and_eq_true,decide_eq_true_eq] at h
  refine⟨h.1,Int.le_refl _,h.2.1,fun y hy=>?_⟩
  simp at hy; subst hy; exact Int.le_refl _
 | x::y::r,a,h,_=>by
  rw[iA] at h
  simp only[Bool.and_eq_true,decide_eq_true_eq] at h
  obtain⟨h1,h2,h3,h4⟩:=yL h.2.2 (by simp)
  have e1:(y::r).headD 0=y:=rfl
  have e2:(x::y::r).getLastD 0=(y::r).getLastD 0:=by simp[List.getLastD]
  rw[e1] at h1 h2 h4
  refine⟨h.1,?_,by rw[e2]; exact h3,fun z hz=>?_⟩
  ·rw[e2]
   show x≤_
   omega
  ·show x≤z
   rcases List.mem_cons.1 hz with rfl | hz
   ·exact Int.le_refl _
   ·have:=h4 z hz; omega
theorem aW6 {hi a m:Int}{l:List Int} (h:rz a m l=true) (hne:l≠[]):upD hi l≠[] ↔ l.headD 0 < hi:=by
 obtain⟨h1,h2,h3,h4⟩:=yL h hne
 unfold upD
 constructor
 ·intro hn
  cases hf:l.filter fun x=>decide (x < hi) with
  | nil=>rw[hf] at hn; exact absurd rfl hn
  | cons x r =>
   have hx:x∈l.filter fun x=>decide (x < hi):=by rw[hf]; simp
   obtain⟨m1,m2⟩:=List.mem_filter.1 hx
   have m2:x < hi:=of_decide_eq_true m2
   have:=h4 x m1
   omega
 ·intro hlt hn
  cases l with
  | nil=>exact hne rfl
  | cons x r =>
   have hx:x < hi:=hlt
   rw[List.filter_cons_of_pos (by simpa using hx)] at hn
   simp at hn
section
variable {g:GlD}{h:HeldD}
structure HOk (g:GlD) (h:HeldD):Prop where
 p0:0≤h.p
 p1:h.p < g.p.length
 ne:h.n≠[]
 rz:rz 0 ((g.at h.p).hi+1) h.n=true
theorem aOJ:∀ {l:List HeldD}{a:Int},-1≤a→oY g a l=true→∀ h∈l,HOk g h
 | [],_,_,_,h,hh=>by cases hh
 | x::r,a,ha,hf,h,hh=>by
  rw[aC5] at hf
  simp only[Bool.and_eq_true,decide_eq_true_eq,Bool.not_eq_true',List.isEmpty_eq_false_iff] at hf
  rcases List.mem_cons.1 hh with rfl | hh
  ·exact⟨by omega,hf.2.1,hf.2.2.1,hf.2.2.2.1⟩
  ·exact aOJ (a:=x.p) (by omega) hf.2.2.2.2 h hh
theorem aJT (hr:dJ g=true) (ho:HOk g h):decide (dgH g h≠0)=vS g h:=by
 obtain⟨hgl,hfr,hmay⟩:=i5 hr
 obtain⟨m1,m2,m3,_⟩:=yP (hmay _ (aDw ho.p0 ho.p1).1)
 obtain⟨h1,h2,h3,h4⟩:=yL ho.rz ho.ne
 unfold vS
 rw[decide_eq_decide]
 unfold dgH qI ctd
 split
 ·split
  ·omega
  ·split<;>omega
 ·rename_i hc
  have hc:¬ 1 < (g.at h.p).hi:=by simpa using hc
  omega
theorem aKh (hr:dJ g=true) (ho:HOk g h):(decide (dgH g h=0) || decide (dgH g h=2))=decide (upD (g.at h.p).hi h.n≠[]):=by
 obtain⟨hgl,hfr,hmay⟩:=i5 hr
 obtain⟨m1,m2,m3,_⟩:=yP (hmay _ (aDw ho.p0 ho.p1).1)
 obtain⟨h1,h2,h3,h4⟩:=yL ho.rz ho.ne
 have hu:decide (upD (g.at h.p).hi h.n≠[])=decide (h.n.headD 0 < (g.at h.p).hi):=by rw[decide_eq_decide]; exact aW6 ho.rz ho.ne
 rw[hu,Bool.eq_iff_iff,Bool.or_eq_true,decide_eq_true_eq,decide_eq_true_eq,decide_eq_true_eq]
 unfold dgH qI ctd
 split
 ·split
  ·omega
  ·split<;>omega
 ·rename_i hc
  have hc:¬ 1 < (g.at h.p).hi:=by simpa using hc
  omega
end
section
variable {g:GlD}{l:List HeldD}
theorem aO8 (hr:dJ g=true):∀ {l:List HeldD}{b:Int},(∀ h∈l,HOk g h)→rH g b (l.map fun h=>(h.p,dgH g h))=rul g b l
 | [],_,_=>rfl
 | h::r,b,ho=>by
  rw[List.map_cons,aCm,aHN]
  have:=aJT hr (ho h (by simp))
  dsimp only
  rw[this]
  have e:(vS g h&&((g.at h.p).last&&(decide (b < 0) || decide ((g.at h.p).rule < b))))=((g.at h.p).last&&(vS g h&&(decide (b < 0) || decide ((g.at h.p).rule < b)))):=by
   cases vS g h<;>cases (g.at h.p).last<;>rfl
  rw[e]
  exact aO8 hr fun x hx=>ho x (by simp[hx])
theorem aMt {c:CfgD}{k:Nat}{q:Int} (hr:dJ g=true) (ho:∀ h∈c.l,HOk g h) (hb:c.b=true ↔ k=0) (hbl:c.b=true→c.l=[]):dG g k (c.l.map fun h=>(h.p,dgH g h)) q=gH g c q:=by
 unfold dG gH
 cases hcb:c.b with
 | true =>
  have hk:=hb.1 hcb
  rw[hbl hcb,hk]
  simp
 | false =>
  have hk:¬ k=0:=fun e=>by have:=hb.2 e; rw[hcb] at this; cases this
  rw[decide_eq_false hk,Bool.false_and,Bool.false_or,List.any_map,if_neg (by decide),Bool.eq_iff_iff,List.any_eq_true,List.any_eq_true]
  constructor
  ·rintro⟨h,h1,h2⟩
   refine⟨h,h1,?_⟩
   rw[← aJT hr (ho h h1)]; exact h2
  ·rintro⟨h,h1,h2⟩
   refine⟨h,h1,?_⟩
   rw[← aJT hr (ho h h1)] at h2; exact h2
theorem aQO {q:Int} (hr:dJ g=true) (ho:∀ h∈l,HOk g h):eL (l.map fun h=>(h.p,dgH g h)) q=decide (jE g q l≠[]):=by
 unfold eL jE
 rw[List.any_map,Bool.eq_iff_iff,List.any_eq_true,decide_eq_true_eq]
 have hn:(l.flatMap fun h=>if h.p=q then upD (g.at q).hi h.n else [])≠[] ↔ ∃ h∈l,h.p=q∧upD (g.at q).hi h.n≠[]:=by
  rw[Ne,List.flatMap_eq_nil_iff]
  constructor
  ·intro hno
   refine Classical.byContradiction fun hne=>hno fun h hh=>?_
   by_cases hq:h.p=q
   ·rw[if_pos hq]
    exact Classical.byContradiction fun h9=>hne ⟨h,hh,hq,h9⟩
   ·rw[if_neg hq]
  ·rintro⟨h,hh,hq,hu⟩ hall
   have:=hall h hh
   rw[if_pos hq] at this
   exact hu this
 rw[hn]
 constructor
 ·rintro⟨h,h1,h2⟩
  simp only[Function.comp,Bool.and_eq_true,decide_eq_true_eq] at h2
  obtain⟨rfl,h3⟩:=h2
  rw[aKh hr (ho h h1)] at h3
  exact⟨h,h1,rfl,of_decide_eq_true h3⟩
 ·rintro⟨h,h1,rfl,h2⟩
  refine⟨h,h1,?_⟩
  simp only[Function.comp,Bool.and_eq_true,decide_eq_true_eq]
  refine⟨trivial,?_⟩
  rw[aKh hr (ho h h1)]
  exact decide_eq_true h2
end
def stD (g:GlD) (c:CfgD) (q:Int):Bool:=decide (jE g q c.l≠[])
theorem aOv (g:GlD) (c:CfgD) (b:Nat) (q:Int):jF g (gH g c) (stD g c) b q=decide (uF g c b q≠[]):=by
 unfold jF uF aRI stD
 cases (g.at q).s.testBit b with
 | false=>simp
 | true =>
  cases gH g c q with
  | true=>simp
  | false=>simp
theorem aIv (g:GlD) (c:CfgD) (b:Nat):∀ n:Nat,((List.range n).flatMap fun q:Nat=>zD q (uF g c b q)).map (·.p)=(fM n).filter (jF g (gH g c) (stD g c) b)
 | 0=>rfl
 | n+1=>by
  rw[List.range_succ,List.flatMap_append,List.map_append,aIv g c b n,tP,List.filter_append]
  congr 1
  rw[List.flatMap_cons,List.flatMap_nil,List.append_nil]
  unfold zD
  have hc:=aOv g c b (n:Int)
  by_cases h:uF g c b (n:Int)=[]
  ·rw[if_pos h]
   rw[decide_eq_false (fun h9=>h9 h)] at hc
   rw[List.filter_cons_of_neg (by rw[hc]; decide)]; rfl
  ·rw[if_neg h]
   rw[decide_eq_true h] at hc
   rw[List.filter_cons_of_pos hc]; rfl
theorem aSs (g:GlD) (c:CfgD) (b:Nat):(wX g c b).map (·.p)=lZ g (gH g c) (stD g c) b:=aIv g c b g.p.length
structure SimA (g:GlD) (S:List StateD) (c:CfgD) (k:Nat) (s:StateD):Prop where
 fits:tD g c=true
 st:S[k]?=some s
 l:c.l.map (·.p)=s.l
 b:c.b=true ↔ k=0
theorem SimA.ok {g:GlD}{S:List StateD}{c:CfgD}{k:Nat}{s:StateD} (h:SimA g S c k s):∀ x∈c.l,HOk g x:=by
 have hf:=h.fits
 unfold tD at hf
 cases hb:c.b with
 | true =>
  rw[hb,if_pos rfl] at hf
  rw[List.isEmpty_iff.1 hf]
  intro x hx; cases hx
 | false =>
  rw[hb,if_neg (by decide)] at hf
  exact aOJ (Int.le_refl _) hf
theorem SimA.begin {g:GlD}{S:List StateD}{c:CfgD}{k:Nat}{s:StateD} (h:SimA g S c k s):c.b=true→c.l=[]:=fun hb=>by
 have hf:=h.fits
 unfold tD at hf
 rw[hb,if_pos rfl] at hf
 exact List.isEmpty_iff.1 hf
theorem SimA.code {g:GlD}{S:List StateD}{c:CfgD}{k:Nat}{s:StateD} (hr:dJ g=true) (hm:Made g (ofB g) S S.length 0) (h:SimA g S c k s):(cod g c.l).toNat < s.rule.length∧(cod g c.l).toNat < s.next.length∧s.rule[(cod g c.l).toNat]?=some (oM g c):=by
 obtain⟨c1,c2⟩:=hm.codes h.st
 obtain⟨o1,o2,o3⟩:=hm.base.ok s (List.mem_of_getElem? h.st)
 have hp:=aJS g c.l
 have hlt:=aQk g c.l
 rw[h.l,← o2,← aOz o3] at hlt
 have e1:(cod g c.l).toNat < s.rule.length:=by omega
 refine⟨e1,by omega,?_⟩
 have hru:=hm.rule k s (cod g c.l).toNat _ h.st (List.getElem?_eq_getElem e1)
 rw[List.getElem?_eq_getElem e1,hru,Int.toNat_of_nonneg hp,← h.l,aDC,aO8 hr h.ok]; rfl
theorem SimA.move {g:GlD}{S:List StateD}{c:CfgD}{k b:Nat}{s:StateD} (hr:dJ g=true) (hm:Made g (ofB g) S S.length 0) (hb:b < 256) (h:SimA g S c k s) :
  ∃ kc row m,(cls (dU g.p))[b]?=some kc∧s.next[(cod g c.l).toNat]?=some row∧row[kc]?=some m∧row.length=many (dU g.p)∧kc < many (dU g.p) ∧
   ((m.to=-1∧wX g c b=[])∨∃ (k':Nat) (t:StateD),m.to=(k':Int)∧k' < S.length∧wX g c b≠[]∧SimA g S (lP g c b) k' t∧m.ops=pP g (gH g c) (stD g c) ((wX g c b).map (·.p))):=by
 obtain⟨q1,q2,q3⟩:=h.code hr hm
 obtain⟨kc,b',k1,k2,k3,k4,k5⟩:=aMj g hb
 have hp:=aJS g c.l
 obtain⟨row,hrow⟩:∃ row,s.next[(cod g c.l).toNat]?=some row:=⟨_,List.getElem?_eq_getElem q2⟩
 obtain⟨n1,n2⟩:=hm.next k s _ row h.st hrow
 rw[aGd] at n1
 obtain⟨m,hmm⟩:∃ m,row[kc]?=some m:=⟨_,List.getElem?_eq_getElem (by omega)⟩
 have hmv:=n2 kc b' m k3 hmm
 rw[Int.toNat_of_nonneg hp,← h.l,aDC] at hmv
 have hen:dG g k (c.l.map fun h=>(h.p,dgH g h))=gH g c:=funext fun q=>aMt hr h.ok h.b h.begin
 have hst:eL (c.l.map fun h=>(h.p,dgH g h))=stD g c:=funext fun q=>aQO hr h.ok
 rw[hen,hst] at hmv
 have hz:=aSs g c b
 rw[← k5 (gH g c) (stD g c)] at hz
 refine⟨kc,row,m,k1,hrow,hmm,n1,k2,?_⟩
 unfold aKL at hmv
 rw[← hz] at hmv
 rcases hmv with ⟨h1,h2,h3⟩ | ⟨h1,k',t,h2,h3,h4,h5⟩
 ·exact .inl ⟨h2,List.map_eq_nil_iff.1 h1⟩
 ·have hne:wX g c b≠[]:=fun e=>h1 (by rw[e]; rfl)
  refine .inr ⟨k',t,h2,(List.getElem?_eq_some_iff.1 h3).1,hne,⟨aIw hr h.fits,h3,h4.symm,?_⟩,h5⟩
  constructor
  ·intro hb9; cases hb9
  ·rintro rfl
   obtain⟨z,z1,z2⟩:=hm.base.zero
   rw[h3] at z1; cases z1
   rw[z2] at h4
   exact absurd h4.symm h1
structure NodeD where
 op:Nat
 s:Nat
 l:List Int
 lo:Int
 hi:Int
 name:ByteArray
def aRr:NodeD:=⟨0,0,[],0,0,.empty⟩
def bN (l:List NodeD) (i:Int):NodeD:=l.getD i.toNat aRr
def lF (n:NodeD):Bool :=
 if n.op=1 then decide (n.s=0)&&(decide (n.lo=0)&&(decide (n.hi=0)&&(decide (n.name.size=0)&&decide (n.l.length=0))))
 else if n.op=2 then decide (n.s≠0)&&(decide (n.lo=0)&&(decide (n.hi=0)&&(decide (n.name.size=0)&&decide (n.l.length=0))))
 else if n.op=3∨n.op=4 then decide (n.s=0)&&(decide (n.lo=0)&&(decide (n.hi=0)&&(decide (n.name.size=0)&&decide (2≤n.l.length))))
 else if n.op=5 then decide (n.s=0)&&(decide (n.name.size=0)&&(decide (n.l.length=1)&&(decide (0≤n.lo)&&(decide (n.lo≤4096)&&(decide (n.hi=-1) || decide (1≤n.hi)&&(decide (n.hi≤4096)&&decide (n.lo≤n.hi)))))))
 else false
def sM (f:Int→List Int→Option (List Int)) (at_:Int):List Int→List Int→Option (List Int)
 | [],seen=>some seen
 | k::r,seen=>if k < 0∨at_≤k then none else (f k seen).bind fun s=>sM f at_ r s
def m6 (l:List NodeD):Nat→Int→List Int→Option (List Int)
 | 0,_,_=>none
 | n+1,a,seen=>if l.length≤seen.length then none else (sM (m6 l n) a (bN l a).l seen).bind fun s=>some (s++[a])
def aBW (n:Nat):List Int:=(List.range n).map fun i:Nat=>(i:Int)
def gV (l:List NodeD):Bool:=decide (1≤l.length)&&(decide (l.length≤1024)&&(l.all lF&&(m6 l l.length (l.length - 1) []==some (aBW l.length))))
def iY (l:List NodeD):Bool:=l.all (fun n=>decide (n.op≠6))&&gV l
def jZ (l:List NodeD) (n:NodeD):Bool:=decide ((bN l (n.l.headD 0)).op=2)&&(decide (1≤n.lo)&&decide (2≤n.hi))
def jW (l:List NodeD):Bool:=iY l&&l.all fun n=>!(decide (n.op=5)&&((decide (n.lo≠0) || decide (n.hi≠-1))&&!jZ l n))
theorem aG0 {f:Int→List Int→Option (List Int)}{at_:Int}{l:List NodeD} (hf:∀ k s t,0≤k→k < at_→f k s=some t→∃ u,t=s++u∧∀ x∈u,∀ y∈(bN l x).l,0≤y∧y < x) :
  ∀ (r seen t:List Int),sM f at_ r seen=some t→(∀ y∈r,0≤y∧y < at_)∧∃ u,t=seen++u∧∀ x∈u,∀ y∈(bN l x).l,0≤y∧y < x
 | [],seen,t,h=>by
  cases h
  exact⟨fun y hy=>(by cases hy),[],by simp,fun x hx=>(by cases hx)⟩
 | k::r,seen,t,h=>by
  unfold sM at h
  split at h
  ·cases h
  ·rename_i hk
   cases hfk:f k seen with
   | none=>rw[hfk] at h; cases h
   | some s =>
    rw[hfk] at h
    obtain⟨u,rfl,h1⟩:=hf k seen s (by omega) (by omega) hfk
    obtain⟨h2,u2,rfl,h3⟩:=aG0 hf r _ t h
    refine⟨fun y hy=>?_,u++u2,by simp,fun x hx=>?_⟩
    ·rcases List.mem_cons.1 hy with rfl | hy
     ·omega
     ·exact h2 y hy
    ·rcases List.mem_append.1 hx with hx | hx
     ·exact h1 x hx
     ·exact h3 x hx
theorem aH1 {l:List NodeD}:∀ (n:Nat) (a:Int) (s t:List Int),m6 l n a s=some t→∃ u,t=s++u∧∀ x∈u,∀ y∈(bN l x).l,0≤y∧y < x
 | 0,a,s,t,h=>by cases h
 | n+1,a,s,t,h=>by
  unfold m6 at h
  split at h
  ·cases h
  ·cases hk:sM (m6 l n) a (bN l a).l s with
   | none=>rw[hk] at h; cases h
   | some s2 =>
    rw[hk] at h
    cases h
    obtain⟨h1,u,rfl,h2⟩:=aG0 (l:=l) (fun k s t _ _ h=>aH1 n k s t h) _ _ _ hk
    refine⟨u++[a],by simp,fun x hx=>?_⟩
    rcases List.mem_append.1 hx with hx | hx
    ·exact h2 x hx
    ·rw[List.mem_singleton] at hx; subst hx; exact h1
theorem aRc {n:Nat}{x:Int}:x∈aBW n ↔ 0≤x∧x < n:=by
 unfold aBW
 rw[List.mem_map]
 constructor
 ·rintro⟨i,hi,rfl⟩
  have:=List.mem_range.1 hi
  omega
 ·intro h
  exact⟨x.toNat,List.mem_range.2 (by omega),by omega⟩
theorem aFd {l:List NodeD} (h:gV l=true) {x:Int} (h0:0≤x) (h1:x < l.length):∀ y∈(bN l x).l,0≤y∧y < x:=by
 unfold gV at h
 simp only[Bool.and_eq_true,beq_iff_eq] at h
 obtain⟨u,hu,h2⟩:=aH1 _ _ _ _ h.2.2.2
 rw[List.nil_append] at hu
 exact h2 x (by rw[← hu]; exact aRc.2 ⟨h0,h1⟩)
theorem sN {l:List NodeD}{x:Int} (h1:x.toNat < l.length):bN l x∈l:=by
 unfold bN
 rw[List.getD_eq_getElem?_getD,List.getElem?_eq_getElem h1]
 exact List.getElem_mem _
theorem aBP {l:List NodeD} (h:gV l=true) {x:Int} (h1:x.toNat < l.length):lF (bN l x)=true:=by
 unfold gV at h
 simp only[Bool.and_eq_true,List.all_eq_true] at h
 exact h.2.2.1 _ (sN h1)
theorem vQ {l:List NodeD} (h:gV l=true):1≤l.length∧l.length≤1024:=by
 unfold gV at h
 simp only[Bool.and_eq_true,decide_eq_true_eq] at h
 exact⟨h.1,h.2.1⟩
theorem aFg {l:List Int} (h:l.length=1):l=[l.headD 0]:=by
 match l,h with
 | [x],_=>rfl
def mX (l:List NodeD):Nat→Int→Nat
 | 0,_=>0
 | n+1,a=>((bN l a).l.map fun k=>mX l n k).sum+1
theorem aIZ {l:List NodeD}{n:Nat}{at_:Int} (hf:∀ k s t,m6 l n k s=some t→t.length=s.length+mX l n k):∀ (r s t:List Int),sM (m6 l n) at_ r s=some t→t.length=s.length+(r.map fun k=>mX l n k).sum
 | [],s,t,h=>by cases h; simp
 | k::r,s,t,h=>by
  unfold sM at h
  split at h
  ·cases h
  ·cases hk:m6 l n k s with
   | none=>rw[hk] at h; cases h
   | some s2 =>
    rw[hk] at h
    have h1:=hf k s s2 hk
    have h2:=aIZ hf r s2 t h
    simp only[List.map_cons,List.sum_cons]
    omega
theorem aIz {l:List NodeD}:∀ (n:Nat) (a:Int) (s t:List Int),m6 l n a s=some t→t.length=s.length+mX l n a
 | 0,a,s,t,h=>by cases h
 | n+1,a,s,t,h=>by
  unfold m6 at h
  split at h
  ·cases h
  ·cases hk:sM (m6 l n) a (bN l a).l s with
   | none=>rw[hk] at h; cases h
   | some s2 =>
    rw[hk] at h
    cases h
    have:=aIZ (fun k s t h=>aIz n k s t h) _ _ _ hk
    simp only[List.length_append,List.length_singleton,mX]
    omega
theorem aNl {l:List NodeD} (h:gV l=true):mX l l.length (l.length - 1)=l.length:=by
 unfold gV at h
 simp only[Bool.and_eq_true,beq_iff_eq] at h
 have:=aIz _ _ _ _ h.2.2.2
 simp[aBW] at this
 omega
def orL (a b:List Bool):List Bool:=List.zipWith (· || ·) a b
def o8 (w:List Nat):List Bool:=List.replicate (w.length+1) false
def aD1 (s:Nat) (w:List Nat) (from_:List Bool):List Bool:=false::List.zipWith (fun f b=>f&&s.testBit b) from_ w
def aE1 (f:List Bool→List Bool):Nat→List Bool→List Bool
 | 0,x=>x
 | n+1,x=>if f x=x then x else aE1 f n (f x)
def aHG (f:List Bool→List Bool) (hi:Int):Nat→Int→List Bool→List Bool→List Bool
 | 0,_,_,out=>out
 | m+1,i,x,out=>if i < hi∨hi=-1 then (if orL out (f x)=out then out else aHG f hi m (i+1) (f x) (orL out (f x))) else out
def oO (x:List Bool):Nat:=x.count false
def aQA (f:List Bool→List Bool) (lo hi:Int) (x:List Bool):List Bool:=aHG f hi (oO (aE1 f lo.toNat x)+1) lo (aE1 f lo.toNat x) (aE1 f lo.toNat x)
def oX (l:List NodeD) (w:List Nat):Nat→Int→List Bool→List Bool
 | 0,_,x=>x
 | n+1,a,x =>
  if (bN l a).op=2 then aD1 (bN l a).s w x
  else if (bN l a).op=3 then (bN l a).l.foldl (fun y k=>oX l w n k y) x
  else if (bN l a).op=4 then (bN l a).l.foldl (fun y k=>orL y (oX l w n k x)) (o8 w)
  else if (bN l a).op=5 then aQA (oX l w n ((bN l a).l.headD 0)) (bN l a).lo (bN l a).hi x
  else x
def sO (R:Nat→Nat→Prop):Nat→Nat→Nat→Prop
 | 0,i,j=>i=j
 | n+1,i,j=>∃ k,sO R n i k∧R k j
def aSk:List (Nat→Nat→Prop)→Nat→Nat→Prop
 | [],i,j=>i=j
 | R::r,i,j=>∃ k,R i k∧aSk r k j
def aQB (R:Nat→Nat→Prop) (lo hi:Int) (i j:Nat):Prop:=∃ m:Nat,lo.toNat≤m∧(hi=-1∨(m:Int)≤max lo hi)∧sO R m i j
def aL2 (s:Nat) (w:List Nat) (i j:Nat):Prop:=j=i+1∧∃ b,w[i]?=some b∧s.testBit b=true
def o6 (l:List NodeD) (w:List Nat):Nat→Int→Nat→Nat→Prop
 | 0,_,i,j=>i=j
 | n+1,a,i,j =>
  if (bN l a).op=2 then aL2 (bN l a).s w i j
  else if (bN l a).op=3 then aSk ((bN l a).l.map fun k=>o6 l w n k) i j
  else if (bN l a).op=4 then ∃ k∈(bN l a).l,o6 l w n k i j
  else if (bN l a).op=5 then aQB (o6 l w n ((bN l a).l.headD 0)) (bN l a).lo (bN l a).hi i j
  else i=j
def Has (x:List Bool) (j:Nat):Prop:=x[j]?=some true
def aFV (w:List Nat) (f:List Bool→List Bool) (R:Nat→Nat→Prop):Prop:=∀ x,x.length=w.length+1→(f x).length=w.length+1∧∀ j,Has (f x) j ↔ ∃ i,Has x i∧R i j
theorem tO {x y:List Bool}{n:Nat} (hx:x.length=n) (hy:y.length=n):(orL x y).length=n:=by unfold orL; simp[hx,hy]
theorem aOW {x y:List Bool} (hl:x.length=y.length) (j:Nat):Has (orL x y) j ↔ Has x j∨Has y j:=by
 unfold orL Has
 rw[List.getElem?_zipWith]
 by_cases hj:j < x.length
 ·rw[List.getElem?_eq_getElem hj,List.getElem?_eq_getElem (show j < y.length by omega)]
  cases x[j]<;>cases y[j]<;>simp
 ·rw[List.getElem?_eq_none (show x.length≤j by omega),List.getElem?_eq_none (show y.length≤j by omega)]
  simp
theorem aI8 (w:List Nat) (j:Nat):¬ Has (o8 w) j:=by
 unfold Has o8
 rw[List.getElem?_replicate]
 split<;>simp
theorem aL3 (s:Nat) (w:List Nat):aFV w (aD1 s w) (aL2 s w):=by
 intro x hx
 refine⟨by unfold aD1; simp[hx],fun j=>?_⟩
 unfold aD1 Has aL2
 cases j with
 | zero=>simp
 | succ j =>
  rw[List.getElem?_cons_succ,List.getElem?_zipWith]
  constructor
  ·intro h
   by_cases hj:j < w.length
   ·rw[List.getElem?_eq_getElem (show j < x.length by omega),List.getElem?_eq_getElem hj] at h
    simp only[Option.some.injEq,Bool.and_eq_true] at h
    exact⟨j,by rw[List.getElem?_eq_getElem (show j < x.length by omega),h.1],rfl,w[j],List.getElem?_eq_getElem hj,h.2⟩
   ·rw[List.getElem?_eq_none (show w.length≤j by omega)] at h
    cases hq:x[j]?<;>rw[hq] at h<;>cases h
  ·rintro⟨i,h1,h2,b,h3,h4⟩
   have:i=j:=by omega
   subst this
   rw[h1,h3]
   simp[h4]
theorem aOZ {w:List Nat}{f:List Bool→List Bool}{R:Nat→Nat→Prop} (hf:aFV w f R) {x y:List Bool}{n:Nat} (hx:x.length=w.length+1) (hy:y.length=w.length+1) (h:∀ j,Has y j ↔ ∃ i,Has x i∧sO R n i j) (j:Nat):Has (f y) j ↔ ∃ i,Has x i∧sO R (n+1) i j:=by
 rw[(hf y hy).2]
 constructor
 ·rintro⟨k,h1,h2⟩
  obtain⟨i,h3,h4⟩:=(h k).1 h1
  exact⟨i,h3,k,h4,h2⟩
 ·rintro⟨i,h1,k,h2,h3⟩
  exact⟨k,(h k).2 ⟨i,h1,h2⟩,h3⟩
theorem aB8 {R:Nat→Nat→Prop}{m:Nat}:∀ {n i j:Nat},sO R (m+n) i j ↔ ∃ k,sO R m i k∧sO R n k j
 | 0,i,j=>⟨fun h=>⟨j,h,rfl⟩,fun ⟨k,h1,h2⟩=>by cases h2; exact h1⟩
 | n+1,i,j=>by
  constructor
  ·rintro⟨k,h1,h2⟩
   obtain⟨k1,h3,h4⟩:=aB8.1 h1
   exact⟨k1,h3,k,h4,h2⟩
  ·rintro⟨k1,h3,k,h4,h2⟩
   exact⟨k,aB8.2 ⟨k1,h3,h4⟩,h2⟩
theorem aOY {w:List Nat}{f:List Bool→List Bool}{R:Nat→Nat→Prop} (hf:aFV w f R) {y:List Bool} (hy:y.length=w.length+1) (h:f y=y):∀ (n j:Nat),Has y j ↔ ∃ i,Has y i∧sO R n i j
 | 0,j=>⟨fun h=>⟨j,h,rfl⟩,fun ⟨i,h1,h2⟩=>by cases h2; exact h1⟩
 | n+1,j=>by
  have:=aOZ hf hy hy (aOY hf hy h n) j
  rw[h] at this; exact this
theorem aIl {w:List Nat}{f:List Bool→List Bool}{R:Nat→Nat→Prop} (hf:aFV w f R):∀ (n:Nat) (x:List Bool),x.length=w.length+1→(aE1 f n x).length=w.length+1∧∀ j,Has (aE1 f n x) j ↔ ∃ i,Has x i∧sO R n i j
 | 0,x,hx=>⟨hx,fun j=>⟨fun h=>⟨j,h,rfl⟩,fun ⟨i,h1,h2⟩=>by cases h2; exact h1⟩⟩
 | n+1,x,hx=>by
  unfold aE1
  split
  ·rename_i e
   exact⟨hx,aOY hf hx e (n+1)⟩
  ·obtain⟨h1,h2⟩:=hf x hx
   obtain⟨h3,h4⟩:=aIl hf n (f x) h1
   refine⟨h3,fun j=>?_⟩
   rw[h4,Nat.add_comm]
   constructor
   ·rintro⟨i,h5,h6⟩
    obtain⟨k,h7,h8⟩:=(h2 i).1 h5
    exact⟨k,h7,aB8.2 ⟨i,⟨k,rfl,h8⟩,h6⟩⟩
   ·rintro⟨i,h5,h6⟩
    obtain⟨k,⟨k2,rfl,h7⟩,h8⟩:=aB8.1 h6
    exact⟨k,(h2 k).2 ⟨_,h5,h7⟩,h8⟩
theorem aIT {x y:List Bool} (hl:x.length=y.length):oO (orL x y)≤oO x∧(orL x y≠x→oO (orL x y) < oO x):=by
 induction x generalizing y with
 | nil=>cases y<;>simp[orL,oO]
 | cons a x ih =>
  cases y with
  | nil=>simp at hl
  | cons b y =>
   have:=ih (y:=y) (by simpa using hl)
   unfold orL oO at this ⊢
   simp only[List.zipWith_cons_cons,List.count_cons]
   cases a<;>cases b<;>simp<;>simp at this<;>first | omega | (refine⟨this.1,fun h=>this.2 h⟩) | skip
theorem whole {w:List Nat}{f:List Bool→List Bool}{R:Nat→Nat→Prop} (hf:aFV w f R) {y out:List Bool}{t:Nat} (hy:y.length=w.length+1) (ho:out.length=w.length+1) (h:∀ j,Has out j ↔ ∃ s,s≤t∧∃ i,Has y i∧sO R s i j) (hs:∀ j,(∃ i,Has y i∧sO R (t+1) i j)→Has out j) :
  ∀ (s j:Nat),(∃ i,Has y i∧sO R s i j)→Has out j
 | 0,j,hj=>(h j).2 ⟨0,Nat.zero_le _,hj⟩
 | s+1,j,⟨i,h1,k,h2,h3⟩=>by
  have hk:=whole hf hy ho h hs s k ⟨i,h1,h2⟩
  obtain⟨u,hu,i2,h4,h5⟩:=(h k).1 hk
  have h6:∃ i,Has y i∧sO R (u+1) i j:=⟨i2,h4,k,h5,h3⟩
  by_cases e:u=t
  ·subst e; exact hs j h6
  ·exact (h j).2 ⟨u+1,by omega,h6⟩
theorem aIm {w:List Nat}{f:List Bool→List Bool}{R:Nat→Nat→Prop} (hf:aFV w f R) {y:List Bool}{lo hi:Int} (hlo:0≤lo) (hy:y.length=w.length+1):∀ (m t:Nat) (x out:List Bool),oO out < m→x.length=w.length+1→out.length=w.length+1→(∀ j,Has x j ↔ ∃ i,Has y i∧sO R t i j) →
  (∀ j,Has out j ↔ ∃ s,s≤t∧∃ i,Has y i∧sO R s i j)→(hi=-1∨lo+t≤max lo hi) →
  (aHG f hi m (lo+t) x out).length=w.length+1∧∀ j,Has (aHG f hi m (lo+t) x out) j ↔ ∃ s:Nat,(hi=-1∨lo+s≤max lo hi)∧∃ i,Has y i∧sO R s i j
 | 0,t,x,out,hm,_,_,_,_,_=>by omega
 | m+1,t,x,out,hm,hx,ho,h1,h2,ht=>by
  unfold aHG
  obtain⟨g1,_⟩:=hf x hx
  have g2:=aOZ hf hy hx h1
  by_cases hc:lo+t < hi∨hi=-1
  ·rw[if_pos hc]
   have hof:∀ j,Has (orL out (f x)) j ↔ ∃ s,s≤t+1∧∃ i,Has y i∧sO R s i j:=fun j=>by
    rw[aOW (by rw[ho,g1]),h2,g2]
    constructor
    ·rintro (⟨s,h3,h4⟩ | h3)
     ·exact⟨s,by omega,h4⟩
     ·exact⟨t+1,Nat.le_refl _,h3⟩
    ·rintro⟨s,h3,h4⟩
     by_cases e:s=t+1
     ·subst e; exact .inr h4
     ·exact .inl ⟨s,by omega,h4⟩
   by_cases e:orL out (f x)=out
   ·rw[if_pos e]
    refine⟨ho,fun j=>⟨fun h=>?_,fun ⟨s,_,h⟩=>whole hf hy ho h2 (fun j hj=>by rw[← e]; exact (hof j).2 ⟨t+1,Nat.le_refl _,hj⟩) s j h⟩⟩
    obtain⟨s,h3,h4⟩:=(h2 j).1 h
    exact⟨s,by rcases ht with ht | ht; exact .inl ht; right; omega,h4⟩
   ·rw[if_neg e]
    have hfl:=(aIT (x:=out) (y:=f x) (by rw[ho,g1])).2 e
    have:=aIm (hi:=hi) hf hlo hy m (t+1) (f x) (orL out (f x)) (by omega) g1 (tO ho g1) g2 hof (by rcases hc with hc | hc; right; omega; exact .inl hc)
    rw[show lo+((t+1:Nat):Int)=lo+t+1 by omega] at this
    exact this
  ·rw[if_neg hc]
   refine⟨ho,fun j=>?_⟩
   rw[h2]
   constructor
   ·rintro⟨s,h3,h4⟩
    exact⟨s,by right; omega,h4⟩
   ·rintro⟨s,h3,h4⟩
    exact⟨s,by omega,h4⟩
theorem aS2 {w:List Nat}{f:List Bool→List Bool}{R:Nat→Nat→Prop} (hf:aFV w f R) {lo hi:Int} (hlo:0≤lo):aFV w (aQA f lo hi) (aQB R lo hi):=by
 intro x hx
 unfold aQA
 obtain⟨h1,h2⟩:=aIl hf lo.toNat x hx
 generalize aE1 f lo.toNat x=y at h1 h2
 obtain⟨h3,h4⟩:=aIm hf (y:=y) (lo:=lo) (hi:=hi) hlo h1 (oO y+1) 0 y y (Nat.lt_succ_self _) h1 h1 (fun j=>⟨fun h=>⟨j,h,rfl⟩,fun ⟨i,h5,h6⟩=>by cases h6; exact h5⟩) (fun j=>⟨fun h=>⟨0,Nat.le_refl _,j,h,rfl⟩,fun ⟨s,hs,i,h5,h6⟩=>by
  have:s=0:=by omega
  subst this; cases h6; exact h5⟩) (by right; omega)
 rw[show lo+((0:Nat):Int)=lo by omega] at h3 h4
 refine⟨h3,fun j=>?_⟩
 rw[h4]
 unfold aQB
 constructor
 ·rintro⟨s,h5,k,h6,h7⟩
  obtain⟨i,h8,h9⟩:=(h2 k).1 h6
  exact⟨i,h8,lo.toNat+s,by omega,by omega,aB8.2 ⟨k,h9,h7⟩⟩
 ·rintro⟨i,h8,m,h5,h6,h7⟩
  obtain⟨s,rfl⟩:∃ s,m=lo.toNat+s:=⟨m - lo.toNat,by omega⟩
  obtain⟨k,h9,h10⟩:=aB8.1 h7
  exact⟨s,by omega,k,(h2 k).2 ⟨i,h8,h9⟩,h10⟩
theorem aMT {w:List Nat}{F:Int→List Bool→List Bool}{M:Int→Nat→Nat→Prop}:∀ (ks:List Int),(∀ k∈ks,aFV w (F k) (M k))→aFV w (fun x=>ks.foldl (fun y k=>F k y) x) (aSk (ks.map fun k=>M k))
 | [],h,x,hx=>⟨hx,fun j=>⟨fun h=>⟨j,h,rfl⟩,fun ⟨i,h1,h2⟩=>by cases h2; exact h1⟩⟩
 | k::r,h,x,hx=>by
  obtain⟨h1,h2⟩:=h k (by simp) x hx
  obtain⟨h3,h4⟩:=aMT r (fun k hk=>h k (by simp[hk])) (F k x) h1
  refine⟨h3,fun j=>?_⟩
  show Has (r.foldl (fun y k=>F k y) (F k x)) j ↔ _
  rw[h4]
  constructor
  ·rintro⟨m,h5,h6⟩
   obtain⟨i,h7,h8⟩:=(h2 m).1 h5
   exact⟨i,h7,m,h8,h6⟩
  ·rintro⟨i,h7,m,h8,h6⟩
   exact⟨m,(h2 m).2 ⟨i,h7,h8⟩,h6⟩
theorem aKP {w:List Nat}{F:Int→List Bool→List Bool}{M:Int→Nat→Nat→Prop}{x:List Bool} (hx:x.length=w.length+1):∀ (ks:List Int) (y:List Bool),y.length=w.length+1→(∀ k∈ks,aFV w (F k) (M k)) →
  (ks.foldl (fun y k=>orL y (F k x)) y).length=w.length+1∧∀ j,Has (ks.foldl (fun y k=>orL y (F k x)) y) j ↔ Has y j∨∃ i,Has x i∧∃ k∈ks,M k i j
 | [],y,hy,h=>⟨hy,fun j=>⟨fun h=>.inl h,fun h=>by
   rcases h with h | ⟨i,_,k,hk,_⟩
   ·exact h
   ·cases hk⟩⟩
 | k::r,y,hy,h=>by
  obtain⟨h1,h2⟩:=h k (by simp) x hx
  obtain⟨h3,h4⟩:=aKP hx r (orL y (F k x)) (tO hy h1) (fun k hk=>h k (by simp[hk]))
  refine⟨h3,fun j=>?_⟩
  show Has (r.foldl (fun y k=>orL y (F k x)) (orL y (F k x))) j ↔ _
  rw[h4,aOW (by rw[hy,h1]),h2]
  constructor
  ·rintro ((h5 | ⟨i,h5,h6⟩) | ⟨i,h5,k2,h6,h7⟩)
   ·exact .inl h5
   ·exact .inr ⟨i,h5,k,by simp,h6⟩
   ·exact .inr ⟨i,h5,k2,by simp[h6],h7⟩
  ·rintro (h5 | ⟨i,h5,k2,h6,h7⟩)
   ·exact .inl (.inl h5)
   ·rcases List.mem_cons.1 h6 with rfl | h6
    ·exact .inl (.inr ⟨i,h5,h7⟩)
    ·exact .inr ⟨i,h5,k2,h6,h7⟩
theorem aEE {l:List NodeD}{w:List Nat} (hlo:∀ n∈l,0≤n.lo):∀ (n:Nat) (a:Int),aFV w (oX l w n a) (o6 l w n a)
 | 0,a,x,hx=>⟨hx,fun j=>⟨fun h=>⟨j,h,rfl⟩,fun ⟨i,h1,h2⟩=>by cases h2; exact h1⟩⟩
 | n+1,a,x,hx=>by
  have ih:=fun k=>aEE (l:=l) (w:=w) hlo n k
  have hl:0≤(bN l a).lo:=by
   by_cases h1:a.toNat < l.length
   ·exact hlo _ (sN h1)
   ·unfold bN
    rw[List.getD_eq_getElem?_getD,List.getElem?_eq_none (by omega)]
    exact Int.le_refl 0
  unfold oX o6
  split
  ·exact aL3 _ _ x hx
  ·split
   ·exact aMT (F:=fun k=>oX l w n k) (M:=fun k=>o6 l w n k) _ (fun k _=>ih k) x hx
   ·split
    ·obtain⟨h1,h2⟩:=aKP (F:=fun k=>oX l w n k) (M:=fun k=>o6 l w n k) hx (bN l a).l (o8 w) (by unfold o8; simp) (fun k _=>ih k)
     refine⟨h1,fun j=>?_⟩
     rw[h2]
     constructor
     ·rintro (h | h)
      ·exact absurd h (aI8 w j)
      ·exact h
     ·exact .inr
    ·split
     ·exact aS2 (ih _) hl x hx
     ·exact⟨hx,fun j=>⟨fun h=>⟨j,h,rfl⟩,fun ⟨i,h1,h2⟩=>by cases h2; exact h1⟩⟩
def cA (P:List PosD) (i:Int):PosD:=P.getD i.toNat aBm
def aUx (x:Int) (a:List Int) (f:List Int→List Int):List Int→List Int
 | []=>x::a
 | y::b=>if x < y then x::f (y::b) else if x=y then y::f b else y::aUx x a f b
def fW:List Int→List Int→List Int
 | [],b=>b
 | x::a,b=>aUx x a (fW a) b
structure InfD where
 null:Bool
 first:List Int
 last:List Int
def fU (b:Bool):InfD:=⟨b,[],[]⟩
def fO (P:List PosD) (from_ to:List Int):List PosD:=from_.foldl (fun P i=>P.modify i.toNat fun p=>{ p with next:=fW p.next to }) P
def jU (x y:InfD):InfD:=⟨x.null&&y.null,if x.null then fW x.first y.first else x.first,if y.null then fW x.last y.last else y.last⟩
def orI (x y:InfD):InfD:=⟨x.null || y.null,fW x.first y.first,fW x.last y.last⟩
def aAZ:List InfD→InfD→List PosD→InfD × List PosD
 | [],x,P=>(x,P)
 | y::r,x,P=>aAZ r (jU x y) (fO P x.last y.first)
def aCg (P:List PosD) (s:Nat) (lo hi rule:Int):InfD × List PosD:=(⟨false,[(P.length:Int)],[(P.length:Int)]⟩,P++[⟨s,lo,hi,rule,false,[]⟩])
def fY (f:Int→List PosD→InfD × List PosD):List Int→List PosD→List InfD × List PosD
 | [],P=>([],P)
 | k::r,P=>((f k P).1::(fY f r (f k P).2).1,(fY f r (f k P).2).2)
def d8 (l:List NodeD) (rule:Int):Nat→Int→List PosD→InfD × List PosD
 | 0,_,P=>(fU true,P)
 | n+1,a,P =>
  if (bN l a).op=1 then (fU true,P)
  else if (bN l a).op=2 then aCg P (bN l a).s 1 1 rule
  else if (bN l a).op=5∧(bN l a).hi≠-1 then aCg P (bN l ((bN l a).l.headD 0)).s (bN l a).lo (bN l a).hi rule
  else
   let r:=fY (d8 l rule n) (bN l a).l P
   if (bN l a).op=3 then aAZ r.1 (fU true) r.2
   else
    let x:=r.1.foldl orI (fU (decide ((bN l a).op=5)))
    if (bN l a).op=5 then (x,fO r.2 x.last x.first) else (x,r.2)
def eU (P:List PosD) (l:List Int):List PosD:=l.foldl (fun P i=>P.modify i.toNat fun p=>{ p with last:=true }) P
def ofL:List (List NodeD)→Nat→List Int→List PosD→Option GlD
 | [],_,F,P=>some ⟨F,P⟩
 | t::r,k,F,P =>
  let x:=d8 t k t.length (t.length - 1) P
  let P2:=eU x.2 x.1.last
  if 512 < P2.length then none else ofL r (k+1) (fW F x.1.first) P2
theorem yA (b:List Int):fW [] b=b:=rfl
theorem y6 (a:List Int):fW a []=a:=by cases a<;>rfl
theorem aCY (x y:Int) (a b:List Int):fW (x::a) (y::b)=if x < y then x::fW a (y::b) else if x=y then y::fW a b else y::fW (x::a) b:=rfl
theorem aDU (q:Int):∀ (n:Nat) (a b:List Int),a.length+b.length≤n→(q∈fW a b ↔ q∈a∨q∈b)
 | _,[],b,_=>by rw[yA]; simp
 | _,x::a,[],_=>by rw[y6]; simp
 | 0,x::a,y::b,h=>by simp at h
 | n+1,x::a,y::b,h=>by
  rw[aCY]
  simp only[List.length_cons] at h
  split
  ·rw[List.mem_cons,aDU q n a (y::b) (by simp; omega)]; simp[or_assoc]
  ·split
   ·rename_i e
    subst e
    rw[List.mem_cons,aDU q n a b (by omega)]; simp
    constructor
    ·rintro (h | h | h)<;>simp[h]
    ·rintro ((h | h) | h | h)<;>simp[h]
   ·rw[List.mem_cons,aDU q n (x::a) b (by simp; omega)]; simp
    constructor
    ·rintro (h | (h | h) | h)<;>simp[h]
    ·rintro ((h | h) | h | h)<;>simp[h]
theorem kT {q:Int}{a b:List Int}:q∈fW a b ↔ q∈a∨q∈b:=aDU q _ a b (Nat.le_refl _)
theorem aFh {m:Int}:∀ (n:Nat) (a b:List Int) (k:Int),a.length+b.length≤n→rz k m a=true→rz k m b=true→rz k m (fW a b)=true
 | _,[],b,k,_,_,h=>by rw[yA]; exact h
 | _,x::a,[],k,_,h,_=>by rw[y6]; exact h
 | 0,x::a,y::b,k,h,_,_=>by simp at h
 | n+1,x::a,y::b,k,h,h1,h2=>by
  rw[aCY]
  simp only[List.length_cons] at h
  have g1:=h1
  have g2:=h2
  rw[iA] at h1 h2
  simp only[Bool.and_eq_true,decide_eq_true_eq] at h1 h2
  split
  ·rw[iA]
   simp only[Bool.and_eq_true,decide_eq_true_eq]
   exact⟨h1.1,h1.2.1,aFh n a (y::b) x (by simp; omega) h1.2.2 (by rw[iA]; simp only[Bool.and_eq_true,decide_eq_true_eq]; exact⟨by omega,h2.2⟩)⟩
  ·split
   ·rename_i e
    subst e
    rw[iA]
    simp only[Bool.and_eq_true,decide_eq_true_eq]
    exact⟨h1.1,h1.2.1,aFh n a b x (by omega) h1.2.2 h2.2.2⟩
   ·rw[iA]
    simp only[Bool.and_eq_true,decide_eq_true_eq]
    exact⟨h2.1,h2.2.1,aFh n (x::a) b y (by simp; omega) (by rw[iA]; simp only[Bool.and_eq_true,decide_eq_true_eq]; exact⟨by omega,h1.2⟩) h2.2.2⟩
theorem lE {k m:Int}{a b:List Int} (h1:rz k m a=true) (h2:rz k m b=true):rz k m (fW a b)=true:=aFh _ a b k (Nat.le_refl _) h1 h2
theorem aSg:∀ {l:List Int}{a m n:Int},m≤n→rz a m l=true→rz a n l=true
 | [],a,m,n,_,h=>rfl
 | y::r,a,m,n,hb,h=>by
  rw[iA] at h ⊢
  simp only[Bool.and_eq_true,decide_eq_true_eq] at h ⊢
  exact⟨h.1,by omega,aSg hb h.2.2⟩
theorem lO {l:List Int}{a b m n:Int} (h:rz a m l=true) (h1:b≤a) (h2:m≤n):rz b n l=true:=aSg h2 (aKD h1 h)
theorem rJ {to:List Int}:∀ (from_:List Int) (k m:Int) (P:List PosD),-1≤k→rz k m from_=true→m≤P.length→(fO P from_ to).length=P.length ∧
  ∀ i:Nat,(fO P from_ to)[i]?=(P[i]?).map fun p=>if (i:Int)∈from_ then { p with next:=fW p.next to } else p
 | [],k,m,P,_,_,_=>⟨rfl,fun i=>by unfold fO; cases h:P[i]?<;>simp[h]⟩
 | x::r,k,m,P,hk,h,hm=>by
  rw[iA] at h
  simp only[Bool.and_eq_true,decide_eq_true_eq] at h
  obtain⟨h1,h2⟩:=rJ (to:=to) r x m (P.modify x.toNat fun p=>{ p with next:=fW p.next to }) (by omega) h.2.2 (by simpa using hm)
  refine⟨by simpa [fO] using h1,fun i=>?_⟩
  have e:fO P (x::r) to=fO (P.modify x.toNat fun p=>{ p with next:=fW p.next to }) r to:=rfl
  rw[e,h2,List.getElem?_modify]
  by_cases hi:x.toNat=i
  ·have hx:(i:Int)=x:=by omega
   have hn:¬ (i:Int)∈r:=fun hr=>by have:=(dX h.2.2 _ hr).1; omega
   cases P[i]? with
   | none=>rfl
   | some p=>rw[hx] at hn; simp[hn,hx,hi]
  ·have hx:¬ (i:Int)=x:=by omega
   cases P[i]? with
   | none=>rfl
   | some p=>simp[hx,hi]
theorem aDO {P:List PosD}{from_ to:List Int}{k m:Int} (hk:-1≤k) (h:rz k m from_=true) (hm:m≤P.length) {q:Int} (h0:0≤q) (h1:q < P.length):cA (fO P from_ to) q=if q∈from_ then { cA P q with next:=fW (cA P q).next to } else cA P q:=by
 have:=(rJ (to:=to) from_ k m P hk h hm).2 q.toNat
 rw[Int.toNat_of_nonneg h0,List.getElem?_eq_getElem (show q.toNat < P.length by omega)] at this
 unfold cA
 rw[List.getD_eq_getElem?_getD,this,List.getD_eq_getElem?_getD,List.getElem?_eq_getElem (show q.toNat < P.length by omega)]
 rfl
def seg (w:List Nat) (P:List PosD) (q:Int) (i j:Nat):Prop:=i < j∧(cA P q).lo≤(j:Int) - i∧(j:Int) - i≤(cA P q).hi∧∀ k,i≤k→k < j→∃ b,w[k]?=some b∧(cA P q).s.testBit b=true
inductive Way (w:List Nat) (P:List PosD) (F:List Int) (i:Nat):Int→Nat→Prop where
 | first {q:Int} {j:Nat}:q∈F→seg w P q i j→Way w P F i q j
 | step {p q:Int} {k j:Nat}:Way w P F i p k→q∈(cA P p).next→seg w P q k j→Way w P F i q j
structure LOk (w:List Nat) (P:List PosD) (a c:Int) (x:InfD) (M:Nat→Nat→Prop):Prop where
 le:0≤a∧a≤c∧c≤P.length
 first:rz (a - 1) c x.first=true
 last:rz (a - 1) c x.last=true
 next:∀ q,a≤q→q < c→rz (a - 1) c (cA P q).next=true
 lang:∀ i j,M i j ↔ (x.null=true∧i=j)∨∃ q∈x.last,Way w P x.first i q j
theorem aE9 {w:List Nat}{P P':List PosD}{q:Int}{i j:Nat} (h:(cA P q).s=(cA P' q).s∧(cA P q).lo=(cA P' q).lo∧(cA P q).hi=(cA P' q).hi):seg w P q i j ↔ seg w P' q i j:=by
 unfold seg
 rw[h.1,h.2.1,h.2.2]
theorem lJ {w:List Nat}{P:List PosD}{F:List Int}{a c:Int} (hF:rz (a - 1) c F=true) (hn:∀ q,a≤q→q < c→rz (a - 1) c (cA P q).next=true) {i:Nat}{q:Int}{j:Nat} (h:Way w P F i q j):a≤q∧q < c∧i < j:=by
 induction h with
 | first h1 h2=>have:=dX hF _ h1; exact⟨by omega,this.2,h2.1⟩
 | step h1 h2 h3 ih=>have:=dX (hn _ ih.1 ih.2.1) _ h2; exact⟨by omega,this.2,by have:=h3.1; omega⟩
theorem aDq {w:List Nat}{P P':List PosD}{F:List Int}{a c:Int} (hF:rz (a - 1) c F=true) (hn:∀ q,a≤q→q < c→rz (a - 1) c (cA P q).next=true) (he:∀ q,a≤q→q < c→cA P' q=cA P q) {i:Nat}{q:Int}{j:Nat} (h:Way w P F i q j):Way w P' F i q j:=by
 induction h with
 | first h1 h2=>have:=dX hF _ h1; exact .first h1 ((aE9 (by rw[he _ (by omega) this.2]; exact⟨rfl,rfl,rfl⟩)).1 h2)
 | step h1 h2 h3 ih =>
  have hp:=lJ hF hn h1
  have:=dX (hn _ hp.1 hp.2.1) _ h2
  exact .step ih (by rw[he _ hp.1 hp.2.1]; exact h2) ((aE9 (by rw[he _ (by omega) this.2]; exact⟨rfl,rfl,rfl⟩)).1 h3)
theorem LOk.keep {w:List Nat}{P P':List PosD}{a c:Int}{x:InfD}{M:Nat→Nat→Prop} (h:LOk w P a c x M) (hl:c≤P'.length) (he:∀ q,a≤q→q < c→cA P' q=cA P q):LOk w P' a c x M:=by
 refine⟨⟨h.le.1,h.le.2.1,hl⟩,h.first,h.last,fun q h1 h2=>by rw[he q h1 h2]; exact h.next q h1 h2,fun i j=>?_⟩
 rw[h.lang]
 constructor
 ·rintro (h1 | ⟨q,h1,h2⟩)
  ·exact .inl h1
  ·exact .inr ⟨q,h1,aDq h.first h.next he h2⟩
 ·rintro (h1 | ⟨q,h1,h2⟩)
  ·exact .inl h1
  ·exact .inr ⟨q,h1,aDq h.first (fun q h1 h2=>by rw[he q h1 h2]; exact h.next q h1 h2) (fun q h1 h2=>(he q h1 h2).symm) h2⟩
theorem LOk.none {w:List Nat}{P:List PosD}{a:Int} (h0:0≤a) (h1:a≤P.length) (b:Bool):LOk w P a a (fU b) (fun i j=>b=true∧i=j) :=
 ⟨⟨h0,Int.le_refl _,h1⟩,rfl,rfl,fun q h1 h2=>by omega,fun i j=>by simp[fU]⟩
theorem LOk.lang_eq {w:List Nat}{P:List PosD}{a c:Int}{x:InfD}{M M':Nat→Nat→Prop} (h:LOk w P a c x M) (he:∀ i j,M' i j ↔ M i j):LOk w P a c x M' :=
 ⟨h.le,h.first,h.last,h.next,fun i j=>by rw[he,h.lang]⟩
theorem LOk.or {w:List Nat}{P:List PosD}{a b c:Int}{x y:InfD}{M N:Nat→Nat→Prop} (hx:LOk w P a b x M) (hy:LOk w P b c y N):LOk w P a c (orI x y) (fun i j=>M i j∨N i j):=by
 have l1:=hx.le
 have l2:=hy.le
 have f1:rz (a - 1) c (orI x y).first=true:=lE (lO hx.first (by omega) (by omega)) (lO hy.first (by omega) (by omega))
 have n1:∀ q,a≤q→q < c→rz (a - 1) c (cA P q).next=true:=fun q h1 h2=>by
  by_cases hq:q < b
  ·exact lO (hx.next q h1 hq) (by omega) (by omega)
  ·exact lO (hy.next q (by omega) h2) (by omega) (by omega)
 have wx:∀ {i:Nat} {q:Int} {j:Nat},Way w P x.first i q j→Way w P (orI x y).first i q j:=fun h=>by
  induction h with
  | first h1 h2=>exact .first (kT.2 (.inl h1)) h2
  | step h1 h2 h3 ih=>exact .step ih h2 h3
 have wy:∀ {i:Nat} {q:Int} {j:Nat},Way w P y.first i q j→Way w P (orI x y).first i q j:=fun h=>by
  induction h with
  | first h1 h2=>exact .first (kT.2 (.inr h1)) h2
  | step h1 h2 h3 ih=>exact .step ih h2 h3
 have wo:∀ {i:Nat} {q:Int} {j:Nat},Way w P (orI x y).first i q j→Way w P x.first i q j∨Way w P y.first i q j:=fun h=>by
  induction h with
  | first h1 h2 =>
   rcases kT.1 h1 with h1 | h1
   ·exact .inl (.first h1 h2)
   ·exact .inr (.first h1 h2)
  | step h1 h2 h3 ih =>
   rcases ih with ih | ih
   ·exact .inl (.step ih h2 h3)
   ·exact .inr (.step ih h2 h3)
 refine⟨⟨l1.1,by omega,l2.2.2⟩,f1,lE (lO hx.last (by omega) (by omega)) (lO hy.last (by omega) (by omega)),n1,fun i j=>?_⟩
 rw[hx.lang,hy.lang]
 constructor
 ·rintro ((h | ⟨q,h1,h2⟩) | (h | ⟨q,h1,h2⟩))
  ·exact .inl ⟨by simp[orI,h.1],h.2⟩
  ·exact .inr ⟨q,kT.2 (.inl h1),wx h2⟩
  ·exact .inl ⟨by simp[orI,h.1],h.2⟩
  ·exact .inr ⟨q,kT.2 (.inr h1),wy h2⟩
 ·rintro (h | ⟨q,h1,h2⟩)
  ·have:x.null=true∨y.null=true:=by simpa [orI] using h.1
   rcases this with e | e
   ·exact .inl (.inl ⟨e,h.2⟩)
   ·exact .inr (.inl ⟨e,h.2⟩)
  ·rcases wo h2 with h2 | h2
   ·have g:=lJ hx.first hx.next h2
    rcases kT.1 h1 with h1 | h1
    ·exact .inl (.inr ⟨q,h1,h2⟩)
    ·have:=dX hy.last _ h1; omega
   ·have g:=lJ hy.first hy.next h2
    rcases kT.1 h1 with h1 | h1
    ·have:=dX hx.last _ h1; omega
    ·exact .inr (.inr ⟨q,h1,h2⟩)
theorem LOk.then {w:List Nat}{P:List PosD}{a b c:Int}{x y:InfD}{M N:Nat→Nat→Prop} (hx:LOk w P a b x M) (hy:LOk w P b c y N):LOk w (fO P x.last y.first) a c (jU x y) (fun i j=>∃ k,M i k∧N k j):=by
 have l1:=hx.le
 have l2:=hy.le
 have hlen:=(rJ (to:=y.first) x.last (a - 1) b P (by omega) hx.last (by omega)).1
 have hat:∀ q,a≤q→q < c→cA (fO P x.last y.first) q=if q∈x.last then { cA P q with next:=fW (cA P q).next y.first } else cA P q:=fun q h1 h2=>aDO (by omega) hx.last (by omega) (by omega) (by omega)
 have hsg:∀ {q:Int} {i j:Nat},a≤q→q < c→(seg w (fO P x.last y.first) q i j ↔ seg w P q i j):=fun h1 h2=>aE9 (by rw[hat _ h1 h2]; split<;>exact⟨rfl,rfl,rfl⟩)
 have hin:∀ {p q:Int},a≤p→p < c→(q∈(cA (fO P x.last y.first) p).next ↔ q∈(cA P p).next∨p∈x.last∧q∈y.first):=fun {p q} h1 h2=>by
  rw[hat p h1 h2]
  split
  ·rename_i h
   simp only[kT,h,true_and]
  ·rename_i h
   simp[h]
 have hno:∀ {p:Int},b≤p→¬ p∈x.last:=fun {p} h1 h2=>by have:=dX hx.last _ h2; omega
 have f1:rz (a - 1) c (jU x y).first=true:=by
  unfold jU
  simp only
  split
  ·exact lE (lO hx.first (by omega) (by omega)) (lO hy.first (by omega) (by omega))
  ·exact lO hx.first (by omega) (by omega)
 have n1:∀ q,a≤q→q < c→rz (a - 1) c (cA (fO P x.last y.first) q).next=true:=fun q h1 h2=>by
  have hb:rz (a - 1) c (cA P q).next=true:=by
   by_cases hq:q < b
   ·exact lO (hx.next q h1 hq) (by omega) (by omega)
   ·exact lO (hy.next q (by omega) h2) (by omega) (by omega)
  rw[hat q h1 h2]
  split
  ·exact lE hb (lO hy.first (by omega) (by omega))
  ·exact hb
 have mx:∀ {q:Int},q∈x.first→q∈(jU x y).first:=fun {q} h=>by
  unfold jU
  simp only
  split
  ·exact kT.2 (.inl h)
  ·exact h
 have my:∀ {q:Int},x.null=true→q∈y.first→q∈(jU x y).first:=fun {q} e h=>by
  unfold jU
  simp only[e,if_true]
  exact kT.2 (.inr h)
 have mf:∀ {q:Int},q∈(jU x y).first→q∈x.first∨x.null=true∧q∈y.first:=fun {q} h=>by
  unfold jU at h
  simp only at h
  split at h
  ·rename_i e
   rcases kT.1 h with h | h
   ·exact .inl h
   ·exact .inr ⟨e,h⟩
  ·exact .inl h
 have wx:∀ {i:Nat} {q:Int} {j:Nat},Way w P x.first i q j→Way w (fO P x.last y.first) (jU x y).first i q j:=fun h=>by
  induction h with
  | first h1 h2=>have:=dX hx.first _ h1; exact .first (mx h1) ((hsg (by omega) (by omega)).2 h2)
  | step h1 h2 h3 ih =>
   have g:=lJ hx.first hx.next h1
   have:=dX (hx.next _ g.1 g.2.1) _ h2
   exact .step ih ((hin (by omega) (by omega)).2 (.inl h2)) ((hsg (by omega) (by omega)).2 h3)
 have wy:∀ {i k:Nat} {q:Int} {j:Nat},M i k→Way w P y.first k q j→Way w (fO P x.last y.first) (jU x y).first i q j:=fun {i k} {q j} hm h=>by
  induction h with
  | @first q j h1 h2 =>
   have:=dX hy.first _ h1
   rcases (hx.lang i k).1 hm with ⟨e,rfl⟩ | ⟨p,h3,h4⟩
   ·exact .first (my e h1) ((hsg (by omega) (by omega)).2 h2)
   ·have g:=lJ hx.first hx.next h4
    exact .step (wx h4) ((hin (by omega) (by omega)).2 (.inr ⟨h3,h1⟩)) ((hsg (by omega) (by omega)).2 h2)
  | step h1 h2 h3 ih =>
   have g:=lJ hy.first hy.next h1
   have:=dX (hy.next _ g.1 g.2.1) _ h2
   exact .step ih ((hin (by omega) (by omega)).2 (.inl h2)) ((hsg (by omega) (by omega)).2 h3)
 have wo:∀ {i:Nat} {q:Int} {j:Nat},Way w (fO P x.last y.first) (jU x y).first i q j→(q < b∧Way w P x.first i q j)∨(b≤q∧∃ k,M i k∧Way w P y.first k q j):=fun {i q j} h=>by
  induction h with
  | @first q j h1 h2 =>
   rcases mf h1 with h1 | ⟨e,h1⟩
   ·have:=dX hx.first _ h1
    exact .inl ⟨this.2,.first h1 ((hsg (by omega) (by omega)).1 h2)⟩
   ·have:=dX hy.first _ h1
    exact .inr ⟨by omega,i,(hx.lang i i).2 (.inl ⟨e,rfl⟩),.first h1 ((hsg (by omega) (by omega)).1 h2)⟩
  | @step p q k j h1 h2 h3 ih =>
   have g:=lJ f1 n1 h1
   rcases ih with ⟨h4,h5⟩ | ⟨h4,k2,h5,h6⟩
   ·rcases (hin g.1 g.2.1).1 h2 with h2 | ⟨h2,h7⟩
    ·have:=dX (hx.next _ g.1 h4) _ h2
     exact .inl ⟨this.2,.step h5 h2 ((hsg (by omega) (by omega)).1 h3)⟩
    ·have:=dX hy.first _ h7
     exact .inr ⟨by omega,k,(hx.lang i k).2 (.inr ⟨p,h2,h5⟩),.first h7 ((hsg (by omega) (by omega)).1 h3)⟩
   ·rcases (hin g.1 g.2.1).1 h2 with h2 | ⟨h2,h7⟩
    ·have:=dX (hy.next _ h4 g.2.1) _ h2
     exact .inr ⟨by omega,k2,h5,.step h6 h2 ((hsg (by omega) (by omega)).1 h3)⟩
    ·exact absurd h2 (hno h4)
 refine⟨⟨l1.1,by omega,by omega⟩,f1,?_,n1,fun i j=>?_⟩
 ·unfold jU
  simp only
  split
  ·exact lE (lO hx.last (by omega) (by omega)) (lO hy.last (by omega) (by omega))
  ·exact lO hy.last (by omega) (by omega)
 ·have ml:∀ q,q∈(jU x y).last ↔ q∈y.last∨y.null=true∧q∈x.last:=fun q=>by
   unfold jU
   simp only
   split
   ·rename_i e
    rw[kT]; simp[e]; exact Or.comm
   ·rename_i e
    simp[e]
  constructor
  ·rintro⟨k,h1,h2⟩
   rcases (hy.lang k j).1 h2 with ⟨e,rfl⟩ | ⟨q,h3,h4⟩
   ·rcases (hx.lang i k).1 h1 with ⟨e2,rfl⟩ | ⟨q,h3,h4⟩
    ·exact .inl ⟨by simp[jU,e,e2],rfl⟩
    ·exact .inr ⟨q,(ml q).2 (.inr ⟨e,h3⟩),wx h4⟩
   ·exact .inr ⟨q,(ml q).2 (.inl h3),wy h1 h4⟩
  ·rintro (⟨e,rfl⟩ | ⟨q,h1,h2⟩)
   ·have:x.null=true∧y.null=true:=by simpa [jU] using e
    exact⟨i,(hx.lang i i).2 (.inl ⟨this.1,rfl⟩),(hy.lang i i).2 (.inl ⟨this.2,rfl⟩)⟩
   ·rcases wo h2 with ⟨h3,h4⟩ | ⟨h3,k,h4,h5⟩
    ·rcases (ml q).1 h1 with h1 | ⟨e,h1⟩
     ·have:=dX hy.last _ h1; omega
     ·exact⟨j,(hx.lang i j).2 (.inr ⟨q,h1,h4⟩),(hy.lang j j).2 (.inl ⟨e,rfl⟩)⟩
    ·rcases (ml q).1 h1 with h1 | ⟨e,h1⟩
     ·exact⟨k,h4,(hy.lang k j).2 (.inr ⟨q,h1,h5⟩)⟩
     ·have:=dX hx.last _ h1; omega
theorem LOk.star {w:List Nat}{P:List PosD}{a c:Int}{x:InfD}{M:Nat→Nat→Prop} (hx:LOk w P a c x M) (he:x.null=true):LOk w (fO P x.last x.first) a c x (fun i j=>∃ m,sO M m i j):=by
 have l1:=hx.le
 have hlen:=(rJ (to:=x.first) x.last (a - 1) c P (by omega) hx.last (by omega)).1
 have hat:∀ q,a≤q→q < c→cA (fO P x.last x.first) q=if q∈x.last then { cA P q with next:=fW (cA P q).next x.first } else cA P q:=fun q h1 h2=>aDO (by omega) hx.last (by omega) (by omega) (by omega)
 have hsg:∀ {q:Int} {i j:Nat},a≤q→q < c→(seg w (fO P x.last x.first) q i j ↔ seg w P q i j):=fun h1 h2=>aE9 (by rw[hat _ h1 h2]; split<;>exact⟨rfl,rfl,rfl⟩)
 have hin:∀ {p q:Int},a≤p→p < c→(q∈(cA (fO P x.last x.first) p).next ↔ q∈(cA P p).next∨p∈x.last∧q∈x.first):=fun {p q} h1 h2=>by
  rw[hat p h1 h2]
  split
  ·rename_i h
   simp only[kT,h,true_and]
  ·rename_i h
   simp[h]
 have n1:∀ q,a≤q→q < c→rz (a - 1) c (cA (fO P x.last x.first) q).next=true:=fun q h1 h2=>by
  rw[hat q h1 h2]
  split
  ·exact lE (hx.next q h1 h2) hx.first
  ·exact hx.next q h1 h2
 have w1:∀ {i k:Nat} {q:Int} {j:Nat},(i=k∨∃ p∈x.last,Way w (fO P x.last x.first) x.first i p k)→Way w P x.first k q j→Way w (fO P x.last x.first) x.first i q j:=fun {i k q j} h0 h=>by
  induction h with
  | first h1 h2 =>
   have:=dX hx.first _ h1
   rcases h0 with rfl | ⟨p,h3,h4⟩
   ·exact .first h1 ((hsg (by omega) (by omega)).2 h2)
   ·have g:=lJ hx.first n1 h4
    exact .step h4 ((hin g.1 g.2.1).2 (.inr ⟨h3,h1⟩)) ((hsg (by omega) (by omega)).2 h2)
  | step h1 h2 h3 ih =>
   have g:=lJ hx.first hx.next h1
   have:=dX (hx.next _ g.1 g.2.1) _ h2
   exact .step ih ((hin g.1 g.2.1).2 (.inl h2)) ((hsg (by omega) (by omega)).2 h3)
 have w2:∀ (m:Nat) {i k:Nat},sO M m i k→i=k∨∃ p∈x.last,Way w (fO P x.last x.first) x.first i p k:=fun m=>by
  induction m with
  | zero=>intro i k h; exact .inl h
  | succ m ih =>
   rintro i k ⟨k1,h1,h2⟩
   rcases (hx.lang k1 k).1 h2 with ⟨_,rfl⟩ | ⟨q,h3,h4⟩
   ·exact ih h1
   ·exact .inr ⟨q,h3,w1 (ih h1) h4⟩
 have wo:∀ {i:Nat} {q:Int} {j:Nat},Way w (fO P x.last x.first) x.first i q j→∃ m k,sO M m i k∧Way w P x.first k q j:=fun {i q j} h=>by
  induction h with
  | first h1 h2=>have:=dX hx.first _ h1; exact⟨0,i,rfl,.first h1 ((hsg (by omega) (by omega)).1 h2)⟩
  | @step p q k j h1 h2 h3 ih =>
   have g:=lJ hx.first n1 h1
   obtain⟨m,k1,h4,h5⟩:=ih
   rcases (hin g.1 g.2.1).1 h2 with h2 | ⟨h2,h6⟩
   ·have:=dX (hx.next _ g.1 g.2.1) _ h2
    exact⟨m,k1,h4,.step h5 h2 ((hsg (by omega) (by omega)).1 h3)⟩
   ·have:=dX hx.first _ h6
    exact⟨m+1,k,⟨k1,h4,(hx.lang k1 k).2 (.inr ⟨p,h2,h5⟩)⟩,.first h6 ((hsg (by omega) (by omega)).1 h3)⟩
 refine⟨⟨l1.1,l1.2.1,by omega⟩,hx.first,hx.last,n1,fun i j=>?_⟩
 constructor
 ·rintro⟨m,h⟩
  rcases w2 m h with rfl | h
  ·exact .inl ⟨he,rfl⟩
  ·exact .inr h
 ·rintro (⟨_,rfl⟩ | ⟨q,h1,h2⟩)
  ·exact⟨0,rfl⟩
  ·obtain⟨m,k,h3,h4⟩:=wo h2
   exact⟨m+1,k,h3,(hx.lang k j).2 (.inr ⟨q,h1,h4⟩)⟩
theorem LOk.put {w:List Nat}{P:List PosD}{s:Nat}{lo hi rule:Int}:LOk w (aCg P s lo hi rule).2 P.length (aCg P s lo hi rule).2.length (aCg P s lo hi rule).1 (fun i j=>i < j∧lo≤(j:Int) - i∧(j:Int) - i≤hi∧∀ k,i≤k→k < j→∃ b,w[k]?=some b∧s.testBit b=true):=by
 have hat:cA (P++[⟨s,lo,hi,rule,false,[]⟩]) (P.length:Int)=⟨s,lo,hi,rule,false,[]⟩:=by
  unfold cA
  rw[List.getD_eq_getElem?_getD]; simp
 have hsg:∀ {i j:Nat},seg w (P++[⟨s,lo,hi,rule,false,[]⟩]) (P.length:Int) i j ↔ i < j∧lo≤(j:Int) - i∧(j:Int) - i≤hi∧∀ k,i≤k→k < j→∃ b,w[k]?=some b∧s.testBit b=true:=by
  intro i j
  unfold seg
  rw[hat]
 have hr:rz ((P.length:Int) - 1) ((P++[(⟨s,lo,hi,rule,false,[]⟩:PosD)]).length:Nat) [(P.length:Int)]=true:=by
  rw[iA]
  simp only[Bool.and_eq_true,decide_eq_true_eq,List.length_append,List.length_singleton]
  exact⟨by omega,by omega,rfl⟩
 refine⟨⟨by omega,by simp[aCg]; omega,Int.le_refl _⟩,hr,hr,fun q h1 h2=>?_,fun i j=>?_⟩
 ·have:q=P.length:=by simp[aCg] at h2; omega
  subst this
  unfold aCg
  simp only
  rw[hat]; rfl
 ·unfold aCg
  simp only
  rw[← hsg]
  constructor
  ·intro h
   exact .inr ⟨P.length,by simp,.first (by simp) h⟩
  ·rintro (h | ⟨q,h1,h2⟩)
   ·exact absurd h.1 (by decide)
   ·rw[List.mem_singleton] at h1
    subst h1
    cases h2 with
    | first h3 h4=>exact h4
    | @step p q k j h3 h4 h5 =>
     have g:=lJ (a:=P.length) (c:=(P++[(⟨s,lo,hi,rule,false,[]⟩:PosD)]).length) hr (fun q h1 h2=>by
      have:q=P.length:=by simp at h2; omega
      subst this; rw[hat]; rfl) h3
     have:p=P.length:=by simp at g; omega
     subst this
     rw[hat] at h4
     cases h4
def aW2 (rule:Int) (p:PosD):Prop:=p.s≠0∧1≤p.lo∧p.lo≤p.hi∧p.hi≤4096∧p.rule=rule∧p.last=false
theorem aPo {P Q:List PosD}{q:Int} (h1:q.toNat < P.length):cA (P++Q) q=cA P q:=by
 unfold cA
 rw[List.getD_eq_getElem?_getD,List.getD_eq_getElem?_getD,List.getElem?_append_left h1]
structure Growq (rule:Int) (P P':List PosD):Prop where
 le:P.length≤P'.length
 old:∀ q:Int,0≤q→q < P.length→cA P' q=cA P q
 new:∀ q:Int,P.length≤q→q < P'.length→aW2 rule (cA P' q)
theorem Growq.reflq (rule:Int) (P:List PosD):Growq rule P P:=⟨Nat.le_refl _,fun _ _ _=>rfl,fun q h1 h2=>by omega⟩
theorem Growq.trans {rule:Int}{P P' P'':List PosD} (h:Growq rule P P') (g:Growq rule P' P''):Growq rule P P'' :=
 ⟨Nat.le_trans h.le g.le,fun q h0 h1=>by rw[g.old q h0 (by have:=h.le; omega),h.old q h0 h1],fun q h0 h1=>by
  by_cases hq:q < P'.length
  ·rw[g.old q (by omega) hq]; exact h.new q h0 hq
  ·exact g.new q (by omega) h1⟩
theorem Growq.link {rule:Int}{P P':List PosD} (h:Growq rule P P') {from_ to:List Int}{m:Int} (hr:rz ((P.length:Int) - 1) m from_=true) (hm:m≤P'.length):Growq rule P (fO P' from_ to):=by
 have hl:=(rJ (to:=to) from_ _ m P' (by omega) hr hm).1
 have hle:=h.le
 refine⟨by omega,fun q h0 h1=>?_,fun q h0 h1=>?_⟩
 ·rw[aDO (by omega) hr hm h0 (by omega),if_neg (fun e=>by have:=dX hr _ e; omega)]
  exact h.old q h0 h1
 ·rw[aDO (by omega) hr hm (by omega) (by omega)]
  have:=h.new q h0 (by omega)
  split<;>exact this
theorem Growq.put {rule:Int}{P:List PosD}{s:Nat}{lo hi:Int} (h1:s≠0) (h2:1≤lo) (h3:lo≤hi) (h4:hi≤4096):Growq rule P (aCg P s lo hi rule).2:=by
 unfold aCg
 simp only
 refine⟨by simp,fun q h0 h1=>aPo (by omega),fun q h0 h9=>?_⟩
 have:q=P.length:=by simp at h9; omega
 subst this
 have:cA (P++[⟨s,lo,hi,rule,false,[]⟩]) (P.length:Int)=⟨s,lo,hi,rule,false,[]⟩:=by
  unfold cA
  rw[List.getD_eq_getElem?_getD]; simp
 rw[this]
 exact⟨h1,h2,h3,h4,rfl,rfl⟩
inductive Row (w:List Nat) (P:List PosD):Int→Int→List InfD→List (Nat→Nat→Prop)→Prop where
 | nil {a:Int}:Row w P a a [] []
 | cons {a b c:Int} {x:InfD} {xs:List InfD} {M:Nat→Nat→Prop} {Ms:List (Nat→Nat→Prop)}:LOk w P a b x M→Row w P b c xs Ms→Row w P a c (x::xs) (M::Ms)
theorem Row.le {w:List Nat}{P:List PosD}{a c:Int}{xs:List InfD}{Ms:List (Nat→Nat→Prop)} (h:Row w P a c xs Ms):a≤c:=by
 induction h with
 | nil=>omega
 | cons h1 h2 ih=>have:=h1.le; omega
theorem Row.keep {w:List Nat}{P P':List PosD}{a c:Int}{xs:List InfD}{Ms:List (Nat→Nat→Prop)} (h:Row w P a c xs Ms) (hl:P.length≤P'.length) (he:∀ q,a≤q→q < c→cA P' q=cA P q):Row w P' a c xs Ms:=by
 induction h with
 | nil=>exact .nil
 | cons h1 h2 ih =>
  have l1:=h1.le
  have l2:=h2.le
  exact .cons (h1.keep (by omega) fun q g1 g2=>he q g1 (by omega)) (ih fun q g1 g2=>he q (by omega) g2)
theorem aQf {w:List Nat}{rule:Int}{P0:List PosD}:∀ (xs:List InfD) (Ms:List (Nat→Nat→Prop)) (x:InfD) (P:List PosD) (b c:Int) (M:Nat→Nat→Prop),LOk w P P0.length b x M→Row w P b c xs Ms→Growq rule P0 P→c=P.length →
  LOk w (aAZ xs x P).2 P0.length c (aAZ xs x P).1 (fun i j=>∃ k,M i k∧aSk Ms k j)∧Growq rule P0 (aAZ xs x P).2∧c=(aAZ xs x P).2.length
 | [],Ms,x,P,b,c,M,hx,hr,hg,hc=>by
  cases hr
  exact⟨hx.lang_eq fun i j=>⟨fun ⟨k,h1,h2⟩=>by cases h2; exact h1,fun h=>⟨j,h,rfl⟩⟩,hg,hc⟩
 | y::xs,Ms,x,P,b,c,M,hx,hr,hg,hc=>by
  cases hr with
  | @cons _ b2 _ _ _ N Ms h1 h2 =>
   have l1:=hx.le
   have l2:=h1.le
   have hle:=h2.le
   have hlen:=(rJ (to:=y.first) x.last ((P0.length:Int) - 1) b P (by omega) hx.last (by omega)).1
   have hoth:∀ q,b2≤q→q < c→cA (fO P x.last y.first) q=cA P q:=fun q g1 g2=>by
    rw[aDO (k:=(P0.length:Int) - 1) (m:=b) (by omega) hx.last (by omega) (by omega) (by omega),if_neg]
    intro hm
    have:=dX hx.last _ hm
    omega
   obtain⟨r1,r2,r3⟩:=aQf (rule:=rule) (P0:=P0) xs Ms (jU x y) (fO P x.last y.first) b2 c _ (hx.then h1) (h2.keep (by omega) hoth) (hg.link (m:=b) hx.last (by omega)) (by omega)
   refine⟨r1.lang_eq fun i j=>?_,r2,r3⟩
   constructor
   ·rintro⟨k,g1,k2,g2,g3⟩; exact⟨k2,⟨k,g1,g2⟩,g3⟩
   ·rintro⟨k2,⟨k,g1,g2⟩,g3⟩; exact⟨k,g1,k2,g2,g3⟩
theorem aSK {w:List Nat}{P:List PosD}{a:Int}:∀ (xs:List InfD) (Ms:List (Nat→Nat→Prop)) (x:InfD) (b c:Int) (M:Nat→Nat→Prop),LOk w P a b x M→Row w P b c xs Ms→LOk w P a c (xs.foldl orI x) (fun i j=>M i j∨∃ N∈Ms,N i j)
 | [],Ms,x,b,c,M,hx,hr=>by
  cases hr
  exact hx.lang_eq fun i j=>by simp
 | y::xs,Ms,x,b,c,M,hx,hr=>by
  cases hr with
  | cons h1 h2 =>
   exact (aSK xs _ (orI x y) _ c _ (hx.or h1) h2).lang_eq fun i j=>by simp[or_assoc]
theorem aOQ {w:List Nat}{rule:Int}{f:Int→List PosD→InfD × List PosD}{M:Int→Nat→Nat→Prop}:∀ (ks:List Int) (P:List PosD),(∀ k∈ks,∀ P,Growq rule P (f k P).2∧LOk w (f k P).2 P.length (f k P).2.length (f k P).1 (M k)) →
  Growq rule P (fY f ks P).2∧Row w (fY f ks P).2 P.length (fY f ks P).2.length (fY f ks P).1 (ks.map fun k=>M k)
 | [],P,_=>⟨Growq.reflq _ _,.nil⟩
 | k::r,P,h=>by
  obtain⟨h1,h2⟩:=h k (by simp) P
  obtain⟨h3,h4⟩:=aOQ r (f k P).2 fun k hk=>h k (by simp[hk])
  refine⟨h1.trans h3,.cons (h2.keep (by have:=h3.le; simp only[fY]; omega) fun q g1 g2=>h3.old q (by omega) g2) h4⟩
theorem aD5 (s:Nat) (w:List Nat):∀ (m i j:Nat),sO (aL2 s w) m i j ↔ j=i+m∧∀ k,i≤k→k < j→∃ b,w[k]?=some b∧s.testBit b=true
 | 0,i,j=>by
  constructor
  ·rintro rfl
   exact⟨rfl,fun k h1 h2=>by omega⟩
  ·rintro⟨h,_⟩
   exact h.symm
 | m+1,i,j=>by
  constructor
  ·rintro⟨k,h1,h2,b,h3,h4⟩
   obtain⟨rfl,h5⟩:=(aD5 s w m i k).1 h1
   refine⟨by omega,fun k2 g1 g2=>?_⟩
   by_cases hk:k2 < i+m
   ·exact h5 k2 g1 hk
   ·have:k2=i+m:=by omega
    subst this
    exact⟨b,h3,h4⟩
  ·rintro⟨rfl,h⟩
   exact⟨i+m,(aD5 s w m i _).2 ⟨rfl,fun k g1 g2=>h k g1 (by omega)⟩,by unfold aL2; exact⟨by omega,h (i+m) (by omega) (by omega)⟩⟩
theorem aSS {M:Nat→Nat→Prop}:∀ (m i j:Nat),sO (fun i j=>(True∧i=j)∨M i j) m i j→∃ n,sO M n i j
 | 0,i,j,h=>⟨0,h⟩
 | m+1,i,j,⟨k,h1,h2⟩=>by
  obtain⟨n,h3⟩:=aSS m i k h1
  rcases h2 with ⟨_,rfl⟩ | h2
  ·exact⟨n,h3⟩
  ·exact⟨n+1,k,h3,h2⟩
theorem aJk {M N:Nat→Nat→Prop} (h:∀ i j,M i j→N i j):∀ (m i j:Nat),sO M m i j→sO N m i j
 | 0,i,j,e=>e
 | m+1,i,j,⟨k,h1,h2⟩=>⟨k,aJk h m i k h1,h k j h2⟩
theorem aI3 (l:List NodeD) (w:List Nat) (n:Nat) (a:Int):o6 l w (n+1) a=if (bN l a).op=2 then aL2 (bN l a).s w else if (bN l a).op=3 then aSk ((bN l a).l.map fun k=>o6 l w n k) else if (bN l a).op=4 then fun i j=>∃ k∈(bN l a).l,o6 l w n k i j
  else if (bN l a).op=5 then aQB (o6 l w n ((bN l a).l.headD 0)) (bN l a).lo (bN l a).hi else fun i j=>i=j:=by
 funext i j
 conv=>lhs; unfold o6
 by_cases o2:(bN l a).op=2
 ·simp only[if_pos o2]
 ·by_cases o3:(bN l a).op=3
  ·simp only[if_neg o2,if_pos o3]
  ·by_cases o4:(bN l a).op=4
   ·simp only[if_neg o2,if_neg o3,if_pos o4]
   ·by_cases o5:(bN l a).op=5
    ·simp only[if_neg o2,if_neg o3,if_neg o4,if_pos o5]
    ·simp only[if_neg o2,if_neg o3,if_neg o4,if_neg o5]
theorem aJe {l:List NodeD} (hr:jW l=true) (w:List Nat) (rule:Int):∀ (n:Nat) (a:Int),0≤a→a < n→a < l.length→∀ P,Growq rule P (d8 l rule n a P).2∧LOk w (d8 l rule n a P).2 P.length (d8 l rule n a P).2.length (d8 l rule n a P).1 (o6 l w n a)
 | 0,a,h0,h1,_,_=>by omega
 | n+1,a,h0,h1,h2,P=>by
  have hr8:=hr
  unfold jW iY at hr
  simp only[Bool.and_eq_true,List.all_eq_true,decide_eq_true_eq] at hr
  obtain⟨⟨hnr,h4⟩,hc⟩:=hr
  have hk:=aFd h4 h0 h2
  have hsh:=aBP h4 (x:=a) (by omega)
  have hcn:=hc _ (sN (l:=l) (x:=a) (by omega))
  have hop:=hnr _ (sN (l:=l) (x:=a) (by omega))
  have ih:∀ k∈(bN l a).l,∀ P,Growq rule P (d8 l rule n k P).2∧LOk w (d8 l rule n k P).2 P.length (d8 l rule n k P).2.length (d8 l rule n k P).1 (o6 l w n k):=fun k hk2 P=>aJe hr8 w rule n k (hk k hk2).1 (by have:=(hk k hk2).2; omega) (by have:=(hk k hk2).2; omega) P
  have hkids:=aOQ (w:=w) (rule:=rule) (f:=d8 l rule n) (M:=fun k=>o6 l w n k) (bN l a).l P ih
  rw[aI3]
  unfold d8
  by_cases o1:(bN l a).op=1
  ·simp only[o1,if_true]
   exact⟨Growq.reflq _ _,(LOk.none (by omega) (Int.le_refl _) true).lang_eq fun i j=>by simp⟩
  ·rw[if_neg o1]
   by_cases o2:(bN l a).op=2
   ·rw[if_pos o2,if_pos o2]
    have hs:(bN l a).s≠0:=by
     unfold lF at hsh
     rw[if_neg o1,if_pos o2] at hsh
     simp only[Bool.and_eq_true,decide_eq_true_eq] at hsh
     exact hsh.1
    refine⟨Growq.put hs (by omega) (by omega) (by omega),LOk.put.lang_eq fun i j=>?_⟩
    have:=aD5 (bN l a).s w 1 i j
    constructor
    ·intro h
     obtain⟨g1,g2⟩:=this.1 ⟨i,rfl,h⟩
     exact⟨by omega,by omega,by omega,g2⟩
    ·rintro⟨g1,g2,g3,g4⟩
     obtain⟨k,rfl,g6⟩:=this.2 ⟨by omega,g4⟩
     exact g6
   ·rw[if_neg o2,if_neg o2]
    by_cases o5:(bN l a).op=5∧(bN l a).hi≠-1
    ·rw[if_pos o5,if_neg (show ¬ (bN l a).op=3 by omega),if_neg (show ¬ (bN l a).op=4 by omega),if_pos o5.1]
     unfold lF at hsh
     rw[if_neg o1,if_neg o2,if_neg (by omega),if_pos o5.1] at hsh
     simp only[Bool.and_eq_true,Bool.or_eq_true,decide_eq_true_eq] at hsh
     obtain⟨_,_,hl1,_,_,hb⟩:=hsh
     have hcd:jZ l (bN l a)=true:=by
      cases hq:jZ l (bN l a) with
      | true=>rfl
      | false=>rw[hq] at hcn; simp[o5.1,o5.2] at hcn
     unfold jZ at hcd
     simp only[Bool.and_eq_true,decide_eq_true_eq] at hcd
     obtain⟨k2,klo,khi⟩:=hcd
     have hkm:(bN l a).l.headD 0∈(bN l a).l:=by rw[aFg hl1]; simp
     obtain⟨hk1,hk3⟩:=hk _ hkm
     generalize hkk:(bN l a).l.headD 0=kk at *
     have hsk:=aBP h4 (x:=kk) (by omega)
     have hs:(bN l kk).s≠0:=by
      unfold lF at hsk
      rw[if_neg (by omega),if_pos k2] at hsk
      simp only[Bool.and_eq_true,decide_eq_true_eq] at hsk
      exact hsk.1
     have hb':(bN l a).lo≤(bN l a).hi∧(bN l a).hi≤4096:=by omega
     refine⟨Growq.put hs klo hb'.1 hb'.2,LOk.put.lang_eq fun i j=>?_⟩
     have hme:∀ i j,o6 l w n kk i j ↔ aL2 (bN l kk).s w i j:=fun i j=>by
      cases n with
      | zero=>omega
      | succ n=>rw[aI3,if_pos k2]
     have hmf:o6 l w n kk=aL2 (bN l kk).s w:=by funext i j; exact propext (hme i j)
     rw[hmf]
     unfold aQB
     constructor
     ·rintro⟨m,g1,g2,g3⟩
      obtain⟨rfl,g4⟩:=(aD5 _ w m i j).1 g3
      exact⟨by omega,by omega,by omega,g4⟩
     ·rintro⟨g1,g2,g3,g4⟩
      exact⟨j - i,by omega,by right; omega,(aD5 _ w _ i j).2 ⟨by omega,g4⟩⟩
    ·rw[if_neg o5]
     simp only
     by_cases o3:(bN l a).op=3
     ·rw[if_pos o3,if_pos o3]
      have hne:=LOk.none (w:=w) (P:=(fY (d8 l rule n) (bN l a).l P).2) (a:=P.length) (by omega) (by have:=hkids.1.le; omega) true
      obtain⟨r1,r2,r3⟩:=aQf (rule:=rule) (P0:=P) _ _ (fU true) _ _ _ _ hne hkids.2 hkids.1 rfl
      rw[r3] at r1
      refine⟨r2,r1.lang_eq fun i j=>?_⟩
      constructor
      ·intro h; exact⟨i,⟨rfl,rfl⟩,h⟩
      ·rintro⟨k,⟨_,rfl⟩,h⟩; exact h
     ·rw[if_neg o3,if_neg o3]
      have hne:=LOk.none (w:=w) (P:=(fY (d8 l rule n) (bN l a).l P).2) (a:=P.length) (by omega) (by have:=hkids.1.le; omega) (decide ((bN l a).op=5))
      have hor:=aSK _ _ _ _ _ _ hne hkids.2
      by_cases p5:(bN l a).op=5
      ·rw[if_pos p5,if_neg (show ¬ (bN l a).op=4 by omega),if_pos p5]
       simp only[p5,decide_true] at hor ⊢
       have hhi:(bN l a).hi=-1:=by
        by_cases e:(bN l a).hi=-1
        ·exact e
        ·exact absurd ⟨p5,e⟩ o5
       have hlo:(bN l a).lo=0:=by
        unfold lF at hsh
        unfold jZ at hcn
        by_cases e:(bN l a).lo=0
        ·exact e
        ·rw[hhi] at hcn
         simp[p5,e] at hcn
       have hl1:(bN l a).l.length=1:=by
        unfold lF at hsh
        rw[if_neg o1,if_neg o2,if_neg (by omega),if_pos p5] at hsh
        simp only[Bool.and_eq_true,decide_eq_true_eq] at hsh
        exact hsh.2.2.1
       have hnul:((fY (d8 l rule n) (bN l a).l P).1.foldl orI (fU true)).null=true:=by
        have:∀ (xs:List InfD) (x:InfD),x.null=true→(xs.foldl orI x).null=true:=fun xs=>by
         induction xs with
         | nil=>intro x h; exact h
         | cons y xs ih=>intro x h; exact ih _ (by simp[orI,h])
        exact this _ _ rfl
       have hst:=hor.star hnul
       have hg2:=hkids.1.link (from_:=((fY (d8 l rule n) (bN l a).l P).1.foldl orI (fU true)).last) (to:=((fY (d8 l rule n) (bN l a).l P).1.foldl orI (fU true)).first) (m:=(fY (d8 l rule n) (bN l a).l P).2.length) hor.last (Int.le_refl _)
       have hlen:=(rJ (to:=((fY (d8 l rule n) (bN l a).l P).1.foldl orI (fU true)).first) _ _ _ (fY (d8 l rule n) (bN l a).l P).2 (by omega) hor.last (Int.le_refl _)).1
       refine⟨hg2,?_⟩
       rw[hlen]
       refine hst.lang_eq fun i j=>?_
       have hmap:((bN l a).l.map fun k=>o6 l w n k)=[o6 l w n ((bN l a).l.headD 0)]:=by
        conv=>lhs; rw[aFg hl1]
        rfl
       rw[hhi,hlo,hmap]
       unfold aQB
       constructor
       ·rintro⟨m,_,_,g⟩
        exact⟨m,aJk (fun i j h=>.inr ⟨_,by simp,h⟩) m i j g⟩
       ·rintro⟨m,g⟩
        have g':sO (fun i j=>(True∧i=j)∨o6 l w n ((bN l a).l.headD 0) i j) m i j:=aJk (fun i j h=>by
         rcases h with h | ⟨N,hN,h⟩
         ·exact .inl ⟨trivial,h.2⟩
         ·rw[List.mem_singleton] at hN; subst hN; exact .inr h) m i j g
        obtain⟨m2,g2⟩:=aSS m i j g'
        exact⟨m2,Nat.zero_le _,.inl rfl,g2⟩
      ·rw[if_neg p5,if_neg p5]
       have p4:(bN l a).op=4:=by
        unfold lF at hsh
        rw[if_neg o1,if_neg o2] at hsh
        by_cases e:(bN l a).op=3∨(bN l a).op=4
        ·omega
        ·rw[if_neg e,if_neg p5] at hsh; cases hsh
       rw[if_pos p4]
       refine⟨hkids.1,hor.lang_eq fun i j=>?_⟩
       simp only[p5,decide_false,Bool.false_eq_true,false_and,false_or,List.mem_map]
       constructor
       ·rintro⟨k,h1,h2⟩
        exact⟨_,⟨k,h1,rfl⟩,h2⟩
       ·rintro⟨N,⟨k,h1,rfl⟩,h2⟩
        exact⟨k,h1,h2⟩
theorem aOe {w:List Nat}{P P':List PosD}{F:List Int}{a c:Int} (hF:rz (a - 1) c F=true) (hn:∀ q,a≤q→q < c→rz (a - 1) c (cA P q).next=true) (he:∀ q,a≤q→q < c→(cA P q).s=(cA P' q).s∧(cA P q).lo=(cA P' q).lo∧(cA P q).hi=(cA P' q).hi∧(cA P q).next=(cA P' q).next) {i:Nat}{q:Int}{j:Nat} (h:Way w P F i q j):Way w P' F i q j:=by
 induction h with
 | first h1 h2=>have:=dX hF _ h1; have g:=he _ (by omega) this.2; exact .first h1 ((aE9 ⟨g.1,g.2.1,g.2.2.1⟩).1 h2)
 | step h1 h2 h3 ih =>
  have hp:=lJ hF hn h1
  have:=dX (hn _ hp.1 hp.2.1) _ h2
  have g:=he _ (by omega) this.2
  exact .step ih (by rw[← (he _ hp.1 hp.2.1).2.2.2]; exact h2) ((aE9 ⟨g.1,g.2.1,g.2.2.1⟩).1 h3)
theorem aH2 {w:List Nat}{P:List PosD}{F G:List Int}{i:Nat}{q:Int}{j:Nat}:Way w P (fW F G) i q j ↔ Way w P F i q j∨Way w P G i q j:=by
 constructor
 ·intro h
  induction h with
  | first h1 h2 =>
   rcases kT.1 h1 with h1 | h1
   ·exact .inl (.first h1 h2)
   ·exact .inr (.first h1 h2)
  | step h1 h2 h3 ih =>
   rcases ih with ih | ih
   ·exact .inl (.step ih h2 h3)
   ·exact .inr (.step ih h2 h3)
 ·rintro (h | h)
  ·induction h with
   | first h1 h2=>exact .first (kT.2 (.inl h1)) h2
   | step h1 h2 h3 ih=>exact .step ih h2 h3
  ·induction h with
   | first h1 h2=>exact .first (kT.2 (.inr h1)) h2
   | step h1 h2 h3 ih=>exact .step ih h2 h3
theorem aEL:∀ (from_:List Int) (k m:Int) (P:List PosD),-1≤k→rz k m from_=true→m≤P.length→(eU P from_).length=P.length ∧
  ∀ i:Nat,(eU P from_)[i]?=(P[i]?).map fun p=>if (i:Int)∈from_ then { p with last:=true } else p
 | [],k,m,P,_,_,_=>⟨rfl,fun i=>by unfold eU; cases h:P[i]?<;>simp[h]⟩
 | x::r,k,m,P,hk,h,hm=>by
  rw[iA] at h
  simp only[Bool.and_eq_true,decide_eq_true_eq] at h
  obtain⟨h1,h2⟩:=aEL r x m (P.modify x.toNat fun p=>{ p with last:=true }) (by omega) h.2.2 (by simpa using hm)
  refine⟨by simpa [eU] using h1,fun i=>?_⟩
  have e:eU P (x::r)=eU (P.modify x.toNat fun p=>{ p with last:=true }) r:=rfl
  rw[e,h2,List.getElem?_modify]
  by_cases hi:x.toNat=i
  ·have hx:(i:Int)=x:=by omega
   cases P[i]? with
   | none=>rfl
   | some p=>rw[hx]; by_cases hr:x∈r<;>simp[hr,hi]
  ·have hx:¬ (i:Int)=x:=by omega
   cases P[i]? with
   | none=>rfl
   | some p=>simp[hx,hi]
theorem aTf {P:List PosD}{from_:List Int}{k m:Int} (hk:-1≤k) (h:rz k m from_=true) (hm:m≤P.length) {q:Int} (h0:0≤q) (h1:q < P.length):cA (eU P from_) q=if q∈from_ then { cA P q with last:=true } else cA P q:=by
 have:=(aEL from_ k m P hk h hm).2 q.toNat
 rw[Int.toNat_of_nonneg h0,List.getElem?_eq_getElem (show q.toNat < P.length by omega)] at this
 unfold cA
 rw[List.getD_eq_getElem?_getD,this,List.getD_eq_getElem?_getD,List.getElem?_eq_getElem (show q.toNat < P.length by omega)]
 rfl
def Acc (w:List Nat) (P:List PosD) (F:List Int) (i j:Nat) (r:Int):Prop:=∃ q,Way w P F i q j∧(cA P q).last=true∧(cA P q).rule=r
structure Fl (w:List Nat) (P:List PosD) (F:List Int) (Ms:List (Nat→Nat→Prop)):Prop where
 first:rz (-1) P.length F=true
 at_:∀ q:Int,0≤q→q < P.length→(cA P q).s≠0∧1≤(cA P q).lo∧(cA P q).lo≤(cA P q).hi∧(cA P q).hi≤4096∧0≤(cA P q).rule∧(cA P q).rule < Ms.length∧rz (-1) P.length (cA P q).next=true
 lang:∀ i j r,Acc w P F i j r ↔ ∃ (k:Nat) (M:Nat→Nat→Prop),r=(k:Int)∧Ms[k]?=some M∧M i j∧i < j
theorem Fl.nil (w:List Nat):Fl w [] [] []:=by
 refine⟨rfl,fun q h1 h2=>by simp at h2; omega,fun i j r=>?_⟩
 constructor
 ·rintro⟨q,h1,-,-⟩
  exfalso
  induction h1 with
  | first h _=>cases h
  | step _ _ _ ih=>exact ih
 ·rintro⟨k,M,_,h,_⟩
  simp at h
theorem Fl.snoc {w:List Nat}{P P':List PosD}{F:List Int}{Ms:List (Nat→Nat→Prop)}{x:InfD}{M:Nat→Nat→Prop} (h:Fl w P F Ms) (hg:Growq Ms.length P P') (hx:LOk w P' P.length P'.length x M) :
  Fl w (eU P' x.last) (fW F x.first) (Ms++[M]):=by
 have hlen:=(aEL x.last _ _ P' (by omega) hx.last (Int.le_refl _)).1
 have hle:=hg.le
 have hat:∀ q:Int,0≤q→q < P'.length→cA (eU P' x.last) q=if q∈x.last then { cA P' q with last:=true } else cA P' q:=fun q h0 h1=>aTf (by omega) hx.last (Int.le_refl _) h0 h1
 have hno:∀ q:Int,q < P.length→¬ q∈x.last:=fun q h1 h2=>by have:=dX hx.last _ h2; omega
 have hsame:∀ q:Int,0≤q→q < P'.length→(cA P' q).s=(cA (eU P' x.last) q).s∧(cA P' q).lo=(cA (eU P' x.last) q).lo∧(cA P' q).hi=(cA (eU P' x.last) q).hi∧(cA P' q).next=(cA (eU P' x.last) q).next∧(cA P' q).rule=(cA (eU P' x.last) q).rule:=fun q h0 h1=>by
  rw[hat q h0 h1]; split<;>exact⟨rfl,rfl,rfl,rfl,rfl⟩
 have hold:∀ q:Int,0≤q→q < P.length→cA (eU P' x.last) q=cA P q:=fun q h0 h1=>by rw[hat q h0 (by omega),if_neg (hno q h1),hg.old q h0 h1]
 have f0:rz ((0:Int) - 1) P.length F=true:=h.first
 have n0:∀ q:Int,0≤q→q < P.length→rz ((0:Int) - 1) P.length (cA P q).next=true:=fun q h0 h1=>(h.at_ q h0 h1).2.2.2.2.2.2
 have w0:∀ i q j,Way w (eU P' x.last) F i q j ↔ Way w P F i q j:=fun i q j =>
  ⟨fun g=>aDq f0 (fun q h0 h1=>by rw[hold q h0 h1]; exact n0 q h0 h1) (fun q h0 h1=>(hold q h0 h1).symm) g,fun g=>aDq f0 n0 (fun q h0 h1=>hold q h0 h1) g⟩
 have w1:∀ i q j,Way w (eU P' x.last) x.first i q j ↔ Way w P' x.first i q j:=fun i q j =>
  ⟨fun g=>aOe hx.first (fun q h0 h1=>by rw[← (hsame q (by omega) h1).2.2.2.1]; exact hx.next q h0 h1) (fun q h0 h1=>by have:=hsame q (by omega) h1; exact⟨this.1.symm,this.2.1.symm,this.2.2.1.symm,this.2.2.2.1.symm⟩) g,
   fun g=>aOe hx.first hx.next (fun q h0 h1=>by have:=hsame q (by omega) h1; exact⟨this.1,this.2.1,this.2.2.1,this.2.2.2.1⟩) g⟩
 refine⟨lE (lO h.first (Int.le_refl _) (by omega)) (lO hx.first (by omega) (by omega)),fun q h0 h1=>?_,fun i j r=>?_⟩
 ·rw[hlen] at h1 ⊢
  have g:=hsame q h0 h1
  rw[← g.1,← g.2.1,← g.2.2.1,← g.2.2.2.1,← g.2.2.2.2,List.length_append,List.length_singleton]
  by_cases hq:q < P.length
  ·rw[hg.old q h0 hq]
   have:=h.at_ q h0 hq
   exact⟨this.1,this.2.1,this.2.2.1,this.2.2.2.1,this.2.2.2.2.1,by have:=this.2.2.2.2.2.1; omega,lO this.2.2.2.2.2.2 (Int.le_refl _) (by omega)⟩
  ·have:=hg.new q (by omega) h1
   unfold aW2 at this
   exact⟨this.1,this.2.1,this.2.2.1,this.2.2.2.1,by omega,by omega,lO (hx.next q (by omega) h1) (by omega) (by omega)⟩
 ·unfold Acc
  have hM:=hx.lang i j
  constructor
  ·rintro⟨q,g1,g2,g3⟩
   rw[aH2,w0,w1] at g1
   rcases g1 with g1 | g1
   ·have gi:=lJ f0 n0 g1
    rw[hold q gi.1 gi.2.1] at g2 g3
    obtain⟨k,N,g4,g5,g6⟩:=(h.lang i j r).1 ⟨q,g1,g2,g3⟩
    exact⟨k,N,g4,by rw[List.getElem?_append_left (List.getElem?_eq_some_iff.1 g5).1]; exact g5,g6⟩
   ·have gi:=lJ hx.first hx.next g1
    have gn:=hg.new q gi.1 gi.2.1
    rw[hat q (by omega) gi.2.1] at g2 g3
    by_cases hq:q∈x.last
    ·rw[if_pos hq] at g3
     refine⟨Ms.length,M,by rw[← g3]; exact gn.2.2.2.2.1,by simp,(hM.2 (.inr ⟨q,hq,g1⟩)),gi.2.2⟩
    ·rw[if_neg hq,gn.2.2.2.2.2] at g2; cases g2
  ·rintro⟨k,N,rfl,g2,g3,g4⟩
   by_cases hk:k < Ms.length
   ·rw[List.getElem?_append_left hk] at g2
    obtain⟨q,g5,g6,g7⟩:=(h.lang i j k).2 ⟨k,N,rfl,g2,g3,g4⟩
    have gi:=lJ f0 n0 g5
    exact⟨q,aH2.2 (.inl ((w0 i q j).2 g5)),by rw[hold q gi.1 gi.2.1]; exact g6,by rw[hold q gi.1 gi.2.1]; exact g7⟩
   ·have hk2:k=Ms.length:=by
     have:=(List.getElem?_eq_some_iff.1 g2).1
     simp at this; omega
    subst hk2
    simp at g2
    subst g2
    rcases hM.1 g3 with ⟨_,e⟩ | ⟨q,g5,g6⟩
    ·omega
    ·have gi:=lJ hx.first hx.next g6
     have gn:=hg.new q gi.1 gi.2.1
     refine⟨q,aH2.2 (.inr ((w1 i q j).2 g6)),?_,?_⟩
     ·rw[hat q (by omega) gi.2.1,if_pos g5]
     ·rw[hat q (by omega) gi.2.1,if_pos g5]; exact gn.2.2.2.2.1
def aBV (w:List Nat) (t:List NodeD):Nat→Nat→Prop:=o6 t w t.length (t.length - 1)
theorem aSB {w:List Nat}:∀ (ts:List (List NodeD)) (Ms:List (Nat→Nat→Prop)) (F:List Int) (P:List PosD) (g:GlD),(∀ t∈ts,jW t=true)→Fl w P F Ms→P.length≤512→ofL ts Ms.length F P=some g→Fl w g.p g.first (Ms++ts.map (aBV w))∧g.p.length≤512
 | [],Ms,F,P,g,_,h,hp,e=>by
  cases e
  simpa using ⟨h,hp⟩
 | t::r,Ms,F,P,g,hr,h,hp,e=>by
  have ht:=hr t (by simp)
  have hl:=vQ (l:=t) (by unfold jW iY at ht; simp only[Bool.and_eq_true] at ht; exact ht.1.2)
  obtain⟨g1,g2⟩:=aJe ht w Ms.length t.length (t.length - 1) (by omega) (by omega) (by omega) P
  have hs:=h.snoc g1 g2
  unfold ofL at e
  simp only at e
  split at e
  ·cases e
  ·rename_i hn
   have:=aSB r (Ms++[aBV w t]) _ _ g (fun t ht=>hr t (by simp[ht])) hs (by omega) (by simpa using e)
   simpa using this
def InN (c:CfgD) (q n:Int):Prop:=∃ h∈c.l,h.p=q∧n∈h.n
def Ent (w:List Nat) (g:GlD) (f:Nat) (q:Int) (k:Nat):Prop:=(k=f∧q∈g.first)∨∃ p,Way w g.p g.first f p k∧q∈(cA g.p p).next
def aVH (w:List Nat) (g:GlD) (f:Nat) (q n:Int) (i:Nat):Prop:=1≤n∧n≤(cA g.p q).hi∧∃ k:Nat,(k:Int)+n=i∧Ent w g f q k∧∀ m,k≤m→m < i→∃ b,w[m]?=some b∧(cA g.p q).s.testBit b=true
structure HSim (w:List Nat) (g:GlD) (f:Nat) (c:CfgD) (i:Nat):Prop where
 fits:tD g c=true
 held:(i=f∧c=aAD)∨(f < i∧c.b=false∧∀ q n,InN c q n ↔ aVH w g f q n i)
theorem aRG (g:GlD) (q:Int):g.at q=cA g.p q:=rfl
theorem aS8 {w:List Nat}{g:GlD}{Ms:List (Nat→Nat→Prop)} (h:Fl w g.p g.first Ms) (hl:g.p.length≤512) (hm:Ms.length≤512):dJ g=true:=by
 unfold dJ
 simp only[Bool.and_eq_true,decide_eq_true_eq,List.all_eq_true]
 refine⟨hl,h.first,fun p hp=>?_⟩
 obtain⟨i,hi,rfl⟩:=List.mem_iff_getElem.1 hp
 have e:cA g.p (i:Int)=g.p[i]:=by
  unfold cA
  rw[Int.toNat_natCast,List.getD_eq_getElem?_getD,List.getElem?_eq_getElem hi]; rfl
 have:=h.at_ i (by omega) (by omega)
 rw[e] at this
 unfold aDT
 simp only[Bool.and_eq_true,decide_eq_true_eq]
 exact⟨this.1,this.2.1,this.2.2.1,this.2.2.2.1,this.2.2.2.2.1,by omega,this.2.2.2.2.2.2⟩
theorem aDM:∀ {l:List Int}{a m:Int},rz a m l=true→∀ x∈l,x≤l.getLastD 0
 | [x],a,m,h,y,hy=>by
  rw[List.mem_singleton] at hy
  subst hy; exact Int.le_refl _
 | x::z::r,a,m,h,y,hy=>by
  rw[iA] at h
  simp only[Bool.and_eq_true,decide_eq_true_eq] at h
  have e:(x::z::r).getLastD 0=(z::r).getLastD 0:=by simp[List.getLastD]
  rw[e]
  rcases List.mem_cons.1 hy with rfl | hy
  ·have h1:=aDM h.2.2 z (by simp)
   have h2:=dX h.2.2 z (by simp)
   omega
  ·exact aDM h.2.2 y hy
theorem aI1 {l:List Int} (h:l≠[]):l.getLastD 0∈l:=List.mem_of_getElem? (aLG h)
theorem aMK {w:List Nat}{g:GlD}{f:Nat}{c:CfgD}{i:Nat} (hr:dJ g=true) (hfi:f < i) (hft:tD g c=true) (h:∀ q n,InN c q n ↔ aVH w g f q n i) (q:Int):(∃ h∈c.l,h.p=q∧vS g h=true) ↔ Way w g.p g.first f q i:=by
 constructor
 ·rintro⟨x,h1,rfl,h2⟩
  unfold vS at h2
  simp only[decide_eq_true_eq] at h2
  have hm:=yI hft x h1
  obtain⟨h3,h4,k,h5,h6,h7⟩:=(h x.p _).1 ⟨x,h1,rfl,aI1 hm.2.2.1⟩
  rw[aRG] at h2
  have hs:seg w g.p x.p k i:=⟨by omega,by omega,by omega,h7⟩
  rcases h6 with ⟨rfl,h6⟩ | ⟨p,h6,h8⟩
  ·exact .first h6 hs
  ·exact .step h6 h8 hs
 ·intro hw
  have key:∀ k,Ent w g f q k→seg w g.p q k i→∃ h∈c.l,h.p=q∧vS g h=true:=fun k he hs=>by
   have hq:0≤q∧q < g.p.length:=by
    rcases he with ⟨_,h1⟩ | ⟨p,h1,h2⟩
    ·have:=dX (by unfold dJ at hr; simp only[Bool.and_eq_true] at hr; exact hr.2.1) _ h1
     omega
    ·have hp:=lJ (a:=0) (c:=g.p.length) (by unfold dJ at hr; simp only[Bool.and_eq_true] at hr; exact hr.2.1) (fun q h0 h1=>(nU (pB hr h0 h1)).2.2.2.2.2.2) h1
     have:=dX (nU (pB hr hp.1 hp.2.1)).2.2.2.2.2.2 _ h2
     omega
   have hm:=nU (pB hr hq.1 hq.2)
   rw[aRG] at hm
   obtain⟨s1,s2,s3,s4⟩:=hs
   obtain⟨x,h1,h2,h3⟩:=(h q ((i:Int) - k)).2 ⟨by omega,s3,k,by omega,he,s4⟩
   refine⟨x,h1,h2,?_⟩
   have hx:=yI hft x h1
   have:=aDM hx.2.2.2 _ h3
   unfold vS
   rw[h2,aRG]
   simp only[decide_eq_true_eq]
   omega
  cases hw with
  | first h1 h2=>exact key f (.inl ⟨rfl,h1⟩) h2
  | step h1 h2 h3=>exact key _ (.inr ⟨_,h1,h2⟩) h3
theorem aVV {w:List Nat}{g:GlD}{f:Nat}{q:Int}{k:Nat} (hr:dJ g=true) (he:Ent w g f q k):0≤q∧q < g.p.length:=by
 have hf:rz ((0:Int) - 1) g.p.length g.first=true:=by unfold dJ at hr; simp only[Bool.and_eq_true] at hr; exact hr.2.1
 rcases he with ⟨_,h1⟩ | ⟨p,h1,h2⟩
 ·have:=dX hf _ h1; omega
 ·have hp:=lJ (a:=0) (c:=g.p.length) hf (fun q h0 h1=>(nU (pB hr h0 h1)).2.2.2.2.2.2) h1
  have:=dX (nU (pB hr hp.1 hp.2.1)).2.2.2.2.2.2 _ h2
  omega
theorem aQs {w:List Nat}{g:GlD}{f:Nat}{q:Int}{k:Nat} (hr:dJ g=true) (he:Ent w g f q k):f≤k:=by
 have hf:rz ((0:Int) - 1) g.p.length g.first=true:=by unfold dJ at hr; simp only[Bool.and_eq_true] at hr; exact hr.2.1
 rcases he with ⟨h,h1⟩ | ⟨p,h1,h2⟩
 ·omega
 ·have hp:=lJ (a:=0) (c:=g.p.length) hf (fun q h0 h1=>(nU (pB hr h0 h1)).2.2.2.2.2.2) h1
  omega
theorem aTc {g:GlD}{c:CfgD}{b:Nat}{q n:Int}:InN (lP g c b) q n ↔ 0≤q∧q < g.p.length∧n∈uF g c b q:=by
 unfold InN
 constructor
 ·rintro⟨h,h1,h2,h3⟩
  obtain⟨k,h4,rfl,h5⟩:=aI4 h1
  have h2:(k:Int)=q:=h2
  subst h2
  exact⟨by omega,by omega,h3⟩
 ·rintro⟨h1,h2,h3⟩
  refine⟨⟨q,uF g c b q⟩,?_,rfl,h3⟩
  unfold lP wX
  rw[List.mem_flatMap]
  refine⟨q.toNat,List.mem_range.2 (by omega),?_⟩
  rw[Int.toNat_of_nonneg h1]
  unfold zD
  rw[if_neg (fun e=>by rw[e] at h3; cases h3)]
  simp
theorem aRJ {g:GlD}{q n:Int}{l:List HeldD}:n∈jE g q l ↔ ∃ h∈l,h.p=q∧∃ m∈h.n,m < (g.at q).hi∧m+1=n:=by
 unfold jE
 rw[List.mem_flatMap]
 constructor
 ·rintro⟨h,h1,h2⟩
  split at h2
  ·rename_i e
   unfold upD at h2
   rw[List.mem_map] at h2
   obtain⟨m,h3,h4⟩:=h2
   rw[List.mem_filter] at h3
   exact⟨h,h1,e,m,h3.1,by simpa using h3.2,h4⟩
  ·cases h2
 ·rintro⟨h,h1,e,m,h3,h4,h5⟩
  refine⟨h,h1,?_⟩
  rw[if_pos e]
  unfold upD
  rw[List.mem_map]
  exact⟨m,List.mem_filter.2 ⟨h3,by simpa using h4⟩,h5⟩
theorem HSim.enters {w:List Nat}{g:GlD}{f:Nat}{c:CfgD}{i:Nat} (hr:dJ g=true) (h:HSim w g f c i) (q:Int):gH g c q=true ↔ Ent w g f q i:=by
 rcases h.held with ⟨rfl,rfl⟩ | ⟨h1,h2,h3⟩
 ·unfold gH aAD Ent
  simp only[if_true,List.contains_iff_mem,true_and]
  constructor
  ·exact .inl
  ·rintro (h | ⟨p,h1,_⟩)
   ·exact h
   ·have hp:=lJ (a:=0) (c:=g.p.length) (by unfold dJ at hr; simp only[Bool.and_eq_true] at hr; exact hr.2.1) (fun q h0 h1=>(nU (pB hr h0 h1)).2.2.2.2.2.2) h1
    omega
 ·unfold gH
  rw[h2]
  simp only[Bool.false_eq_true,if_false,List.any_eq_true,Bool.and_eq_true,List.contains_iff_mem]
  have hw:=aMK hr h1 h.fits h3
  constructor
  ·rintro⟨x,h4,h5,h6⟩
   exact .inr ⟨x.p,(hw x.p).1 ⟨x,h4,rfl,h5⟩,h6⟩
  ·rintro (⟨h4,_⟩ | ⟨p,h4,h5⟩)
   ·omega
   ·obtain⟨x,h6,h7,h8⟩:=(hw p).2 h4
    exact⟨x,h6,h8,by rw[h7]; exact h5⟩
theorem HSim.step {w:List Nat}{g:GlD}{f:Nat}{c:CfgD}{i b:Nat} (hr:dJ g=true) (h:HSim w g f c i) (hb:w[i]?=some b):HSim w g f (lP g c b) (i+1):=by
 have hfi:f≤i:=by rcases h.held with ⟨e,_⟩ | ⟨h1,_⟩<;>omega
 refine⟨aIw hr h.fits,.inr ⟨by omega,rfl,fun q n=>?_⟩⟩
 rw[aTc]
 have hen:=h.enters hr q
 have hst:n∈jE g q c.l ↔ n - 1 < (cA g.p q).hi∧aVH w g f q (n - 1) i:=by
  rw[aRJ]
  rcases h.held with ⟨rfl,rfl⟩ | ⟨h1,h2,h3⟩
  ·constructor
   ·rintro⟨x,h1,_⟩; cases h1
   ·rintro⟨_,h1,_,k,h2,h3,_⟩
    have:=aQs hr h3
    omega
  ·constructor
   ·rintro⟨x,h4,h5,m,h6,h7,h8⟩
    have e:m=n - 1:=by omega
    subst e
    exact⟨h7,(h3 q _).1 ⟨x,h4,h5,h6⟩⟩
   ·rintro⟨h4,h5⟩
    obtain⟨x,h6,h7,h8⟩:=(h3 q _).2 h5
    exact⟨x,h6,h7,n - 1,h8,h4,by omega⟩
 unfold uF
 constructor
 ·rintro⟨h0,h1,h2⟩
  have hm:=nU (pB hr h0 h1)
  rw[aRG] at hm
  split at h2
  ·rename_i hh
   rw[List.mem_append] at h2
   rcases h2 with h2 | h2
   ·split at h2
    ·rename_i he
     rw[List.mem_singleton] at h2
     subst h2
     refine⟨by omega,by omega,i,by omega,hen.1 he,fun m g1 g2=>?_⟩
     have:m=i:=by omega
     subst this
     exact⟨b,hb,hh⟩
    ·cases h2
   ·obtain⟨g1,g2,g3,k,g4,g5,g6⟩:=hst.1 h2
    refine⟨by omega,by omega,k,by omega,g5,fun m g7 g8=>?_⟩
    by_cases hmi:m < i
    ·exact g6 m g7 hmi
    ·have:m=i:=by omega
     subst this
     exact⟨b,hb,hh⟩
  ·cases h2
 ·rintro⟨g1,g2,k,g3,g4,g5⟩
  have hq:=aVV hr g4
  have hki:=aQs hr g4
  have hh:aRI g b q=true:=by
   obtain⟨b2,h6,h7⟩:=g5 i (by omega) (by omega)
   rw[hb] at h6
   cases h6
   exact h7
  refine⟨hq.1,hq.2,?_⟩
  rw[if_pos hh,List.mem_append]
  by_cases hn:n=1
  ·have:k=i:=by omega
   subst this
   rw[if_pos (hen.2 g4)]
   exact .inl (by simp[hn])
  ·exact .inr (hst.2 ⟨by omega,by omega,by omega,k,by omega,g4,fun m h1 h2=>g5 m h1 (by omega)⟩)
theorem aHO {g:GlD} (hr:dJ g=true):∀ (l:List HeldD) (best:Int),(∀ x∈l,0≤x.p∧x.p < g.p.length)→-1≤best →
  (rul g best l=best∨∃ h∈l,(g.at h.p).last=true∧vS g h=true∧(g.at h.p).rule=rul g best l)∧(0≤best→0≤rul g best l∧rul g best l≤best)∧∀ h∈l,(g.at h.p).last=true→vS g h=true→0≤rul g best l∧rul g best l≤(g.at h.p).rule
 | [],best,_,_=>⟨.inl rfl,fun h=>⟨h,Int.le_refl _⟩,fun h hh=>by cases hh⟩
 | x::r,best,hm,hb=>by
  rw[aHN]
  have h1:=hm x (by simp)
  have h2:=nU (pB hr h1.1 h1.2)
  by_cases hc:((g.at x.p).last&&(vS g x&&(decide (best < 0) || decide ((g.at x.p).rule < best))))=true
  ·rw[if_pos hc]
   simp only[Bool.and_eq_true,Bool.or_eq_true,decide_eq_true_eq] at hc
   obtain⟨i1,i2,i3⟩:=aHO hr r (g.at x.p).rule (fun y hy=>hm y (by simp[hy])) (by omega)
   have i2':=i2 (by omega)
   refine⟨.inr ?_,fun h0=>⟨i2'.1,by omega⟩,fun y hy h3 h4=>?_⟩
   ·rcases i1 with i1 | ⟨y,h3,h4,h5,h6⟩
    ·exact⟨x,by simp,hc.1,hc.2.1,i1.symm⟩
    ·exact⟨y,by simp[h3],h4,h5,h6⟩
   ·rcases List.mem_cons.1 hy with rfl | hy
    ·exact i2'
    ·exact i3 y hy h3 h4
  ·rw[if_neg hc]
   obtain⟨i1,i2,i3⟩:=aHO hr r best (fun y hy=>hm y (by simp[hy])) hb
   refine⟨?_,i2,fun y hy h3 h4=>?_⟩
   ·rcases i1 with i1 | ⟨y,h3,h4⟩
    ·exact .inl i1
    ·exact .inr ⟨y,by simp[h3],h4⟩
   ·rcases List.mem_cons.1 hy with rfl | hy
    ·simp only[Bool.and_eq_true,Bool.or_eq_true,decide_eq_true_eq] at hc
     have h5:¬ (best < 0∨(g.at y.p).rule < best):=fun h=>hc ⟨h3,h4,h⟩
     have:=i2 (by omega)
     omega
    ·exact i3 y hy h3 h4
theorem HSim.rule {w:List Nat}{g:GlD}{Ms:List (Nat→Nat→Prop)}{f:Nat}{c:CfgD}{i:Nat} (hF:Fl w g.p g.first Ms) (hr:dJ g=true) (h:HSim w g f c i) (hi:f < i) :
  (oM g c=-1∧∀ (k:Nat) (M:Nat→Nat→Prop),Ms[k]?=some M→¬ M f i)∨∃ (k:Nat) (M:Nat→Nat→Prop),oM g c=k∧Ms[k]?=some M∧M f i∧∀ (k2:Nat) (N:Nat→Nat→Prop),Ms[k2]?=some N→N f i→k≤k2:=by
 rcases h.held with ⟨e,_⟩ | ⟨_,_,h3⟩
 ·omega
 ·have hw:=aMK hr hi h.fits h3
  obtain⟨r1,_,r3⟩:=aHO hr c.l (-1) (fun x hx=>⟨(yI h.fits x hx).1,(yI h.fits x hx).2.1⟩) (Int.le_refl _)
  have hall:∀ (k:Nat) (M:Nat→Nat→Prop),Ms[k]?=some M→M f i→0≤oM g c∧oM g c≤k:=fun k M h4 h5=>by
   obtain⟨q,h6,h7,h8⟩:=(hF.lang f i k).2 ⟨k,M,rfl,h4,h5,hi⟩
   obtain⟨x,h9,rfl,h10⟩:=(hw q).2 h6
   have:=r3 x h9 h7 h10
   rw[aRG,h8] at this
   exact this
  rcases r1 with r1 | ⟨x,h4,h5,h6,h7⟩
  ·left
   refine⟨r1,fun k M h4 h5=>?_⟩
   have:=hall k M h4 h5
   unfold oM at this
   omega
  ·right
   have hway:=(hw x.p).1 ⟨x,h4,rfl,h6⟩
   obtain⟨k,M,h8,h9,h10,_⟩:=(hF.lang f i (oM g c)).1 ⟨x.p,hway,h5,h7⟩
   exact⟨k,M,h8,h9,h10,fun k2 N h11 h12=>by have:=(hall k2 N h11 h12).2; omega⟩
def yV (A:Nat→Nat→Prop) (t:Int × Int × Bool):Prop:=(t=(0,0,false)∧∀ j r,¬ A j r)∨∃ j r:Nat,t=((j:Int),(r:Int),true)∧A j r∧(∀ j' r',A j' r'→j'≤j)∧∀ r',A j r'→r≤r'
theorem yV.uniq {A:Nat→Nat→Prop}{t u:Int × Int × Bool} (h1:yV A t) (h2:yV A u):t=u:=by
 rcases h1 with ⟨rfl,h1⟩ | ⟨j,r,rfl,a1,b1,c1⟩<;>rcases h2 with ⟨rfl,h2⟩ | ⟨k,s,rfl,a2,b2,c2⟩
 ·rfl
 ·exact absurd a2 (h1 _ _)
 ·exact absurd a1 (h2 _ _)
 ·have e:j=k:=Nat.le_antisymm (b2 _ _ a1) (b1 _ _ a2)
  subst e
  have:r=s:=Nat.le_antisymm (c1 _ a2) (c2 _ a1)
  subst this; rfl
theorem aG2 {w:List Nat}{g:GlD}{Ms:List (Nat→Nat→Prop)}{f:Nat} (hF:Fl w g.p g.first Ms) (hr:dJ g=true):∀ (n i:Nat) (c:CfgD) (to best:Int),i+n=w.length→HSim w g f c i →
  (lon g c to best i (w.drop i)=(to,best)∧∀ (j k:Nat) (M:Nat→Nat→Prop),i < j→j≤w.length→Ms[k]?=some M→¬ M f j) ∨
  ∃ (j k:Nat) (M:Nat→Nat→Prop),lon g c to best i (w.drop i)=((j:Int),(k:Int))∧i < j∧j≤w.length∧Ms[k]?=some M∧M f j∧(∀ (j' k':Nat) (N:Nat→Nat→Prop),i < j'→j'≤w.length→Ms[k']?=some N→N f j'→j'≤j)∧∀ (k':Nat) (N:Nat→Nat→Prop),Ms[k']?=some N→N f j→k≤k'
 | 0,i,c,to,best,h,hs=>by
  left
  rw[List.drop_eq_nil_of_le (by omega)]
  exact⟨rfl,fun j k M h1 h2=>by omega⟩
 | n+1,i,c,to,best,h,hs=>by
  have hi:i < w.length:=by omega
  have hb:w[i]?=some w[i]:=List.getElem?_eq_getElem hi
  have hs2:=hs.step hr hb
  have hfi:f < i+1:=by rcases hs.held with ⟨e,_⟩ | ⟨h1,_⟩<;>omega
  rw[List.drop_eq_getElem_cons hi]
  show _∨_
  have e:∀ to best,lon g c to best i (w[i]::w.drop (i+1))=if 0≤oM g (lP g c w[i]) then lon g (lP g c w[i]) ((i:Int)+1) (oM g (lP g c w[i])) (i+1) (w.drop (i+1)) else lon g (lP g c w[i]) to best (i+1) (w.drop (i+1)):=fun _ _=>rfl
  rw[e]
  rcases hs2.rule hF hr hfi with ⟨r1,r2⟩ | ⟨k,M,r1,r2,r3,r4⟩
  ·rw[if_neg (by omega)]
   rcases aG2 hF hr n (i+1) (lP g c w[i]) to best (by omega) hs2 with ⟨h1,h2⟩ | ⟨j,k,M,h1,h2,h3,h4,h5,h6,h7⟩
   ·left
    refine⟨h1,fun j k M h3 h4 h5=>?_⟩
    by_cases hj:j=i+1
    ·subst hj; exact r2 k M h5
    ·exact h2 j k M (by omega) h4 h5
   ·right
    refine⟨j,k,M,h1,by omega,h3,h4,h5,fun j' k' N g1 g2 g3 g4=>?_,h7⟩
    by_cases hj:j'=i+1
    ·omega
    ·exact h6 j' k' N (by omega) g2 g3 g4
  ·rw[if_pos (by omega)]
   right
   rcases aG2 hF hr n (i+1) (lP g c w[i]) ((i:Int)+1) (oM g (lP g c w[i])) (by omega) hs2 with ⟨h1,h2⟩ | ⟨j,k,M,h1,h2,h3,h4,h5,h6,h7⟩
   ·refine⟨i+1,k,M,by rw[h1,r1]; simp,by omega,by omega,r2,r3,fun j' k' N g1 g2 g3 g4=>?_,r4⟩
    by_cases hj:j'≤i+1
    ·exact hj
    ·exact absurd g4 (h2 j' k' N (by omega) g2 g3)
   ·refine⟨j,k,M,h1,by omega,h3,h4,h5,fun j' k' N g1 g2 g3 g4=>?_,h7⟩
    by_cases hj:j'=i+1
    ·omega
    ·exact h6 j' k' N (by omega) g2 g3 g4
def aCs (w:List Nat) (ts:List (List NodeD)) (f j r:Nat):Prop:=f < j∧j≤w.length∧∃ t,ts[r]?=some t∧aBV w t f j
def aVq (r:Int × Int):Int × Int × Bool:=if r.2 < 0 then (0,0,false) else (r.1,r.2,true)
theorem aUH {w:List Nat}{ts:List (List NodeD)}{g:GlD}{f:Nat} (hts:∀ t∈ts,jW t=true) (hn:ts.length≤512) (ho:ofL ts 0 [] []=some g) (hf:f≤w.length):dJ g=true∧yV (aCs w ts f) (aVq (lon g aAD 0 (-1) f (w.drop f))):=by
 obtain⟨hF,hl⟩:=aSB (w:=w) ts [] [] [] g hts (Fl.nil w) (by simp) ho
 rw[List.nil_append] at hF
 have hr:=aS8 hF hl (by simpa using hn)
 refine⟨hr,?_⟩
 have hget:∀ (k:Nat) (M:Nat→Nat→Prop),(ts.map (aBV w))[k]?=some M ↔ ∃ t,ts[k]?=some t∧aBV w t=M:=fun k M=>by
  rw[List.getElem?_map]
  cases ts[k]?<;>simp
 rcases aG2 (f:=f) hF hr (w.length - f) f aAD 0 (-1) (by omega) ⟨aNf g,.inl ⟨rfl,rfl⟩⟩ with ⟨h1,h2⟩ | ⟨j,k,M,h1,h2,h3,h4,h5,h6,h7⟩
 ·left
  rw[h1]
  exact⟨rfl,fun j r ⟨g1,g2,t,g3,g4⟩=>h2 j r _ g1 g2 ((hget r _).2 ⟨t,g3,rfl⟩) g4⟩
 ·right
  rw[h1]
  obtain⟨t,g1,g2⟩:=(hget k M).1 h4
  subst g2
  refine⟨j,k,?_,⟨h2,h3,t,g1,h5⟩,fun j' r' ⟨g1,g2,t,g3,g4⟩=>h6 j' r' _ g1 g2 ((hget r' _).2 ⟨t,g3,rfl⟩) g4,fun r' ⟨g1,g2,t,g3,g4⟩=>h7 r' _ ((hget r' _).2 ⟨t,g3,rfl⟩) g4⟩
  unfold aVq
  rw[if_neg (by omega)]
def pO (n:NodeD) (lv:Value):List Value:=[Value.int .u8 n.op]++gA n.s++[lv,.int .i64 n.lo,.int .i64 n.hi,.string n.name]
def aEN:Nat:=9223372036854775807
def aIA (ro:Ro) (h:T Obj) (x:List Value) (n:NodeD):Prop:=∃ lv,x=pO n lv∧ZI ro h lv n.l∧n.s < 2 ^ 256∧n.l.length≤aEN
theorem aIA.sub {ro:Ro}{h h':T Obj} (hs:aU h h'):∀ x d,aIA ro h x d→aIA ro h' x d:=fun x d ⟨lv,h1,h2,h3⟩=>⟨lv,h1,h2.sub hs,h3⟩
def oV (ro:Ro) (h:T Obj) (v:Value) (l:List NodeD):Prop:=gD ro h v 9 (aIA ro h) l
theorem oV.sub {ro:Ro}{h h':T Obj}{v:Value}{l:List NodeD} (hs:aU h h') (hl:oV ro h v l):oV ro h' v l:=gD.sub hs (aIA.sub hs) hl
theorem aJc {n:NodeD}{lv:Value} (h:bV lv=true):(pO n lv).all bV=true:=by
 have:(pO n lv).all bV=(bV lv&&true):=rfl
 rw[this,h]; rfl
theorem o7 (n:NodeD) (lv:Value):(pO n lv)[0]?=some (.int .u8 n.op)∧(pO n lv)[5]?=some lv∧(pO n lv)[6]?=some (.int .i64 n.lo)∧(pO n lv)[7]?=some (.int .i64 n.hi)∧(pO n lv)[8]?=some (.string n.name):=⟨rfl,rfl,rfl,rfl,rfl⟩
theorem aH3:i8 Tryz.prog dH=some (.agg (pO aRr (.slice none 0 0)).toArray):=by kernel_rfl
theorem aSv (s:ByteArray):aSt .neq (.string s) (.string { data:=#[] })=some (.bool (!decide (s.size=0))):=by
 have h:(s.data.toList==[])=decide (s.size=0):=by
  have e:s.size=s.data.toList.length:=rfl
  rw[e]
  cases s.data.toList<;>simp
 unfold aSt
 simp only[aSu]
 exact congrArg (fun b=>some (Value.bool (!b))) h
def jX (n:NodeD) (a b c:Bool):Bool :=
 if n.op=1 then !a&&(!b&&(!c&&decide (n.l.length=0)))
 else if n.op=2 then a&&(!b&&(!c&&decide (n.l.length=0)))
 else if n.op=3∨n.op=4 then !a&&(!b&&(!c&&decide (2≤n.l.length)))
 else if n.op=5 then !a&&(!c&&(decide (n.l.length=1)&&(decide (0≤n.lo)&&(decide (n.lo≤4096)&&(decide (n.hi=-1) || decide (1≤n.hi)&&(decide (n.hi≤4096)&&decide (n.lo≤n.hi)))))))
 else false
theorem aQJ (n:NodeD):lF n=jX n (decide (n.s≠0)) (decide (n.lo≠0∨n.hi≠0)) (decide (n.name.size≠0)):=by
 unfold lF jX
 have e1:decide (n.s≠0)=!decide (n.s=0):=by simp
 have e2:decide (n.lo≠0∨n.hi≠0)=!(decide (n.lo=0)&&decide (n.hi=0)):=by by_cases h1:n.lo=0<;>by_cases h2:n.hi=0<;>simp[h1,h2]
 have e3:decide (n.name.size≠0)=!decide (n.name.size=0):=by simp
 rw[e1,e2,e3]
 simp[Bool.and_assoc]
set_option maxRecDepth 4000 in
set_option maxHeartbeats 4000000 in
theorem aHS {ro:Ro}{n:NodeD}{lv:Value}{A B C Z:Bool}{h1:T Obj}{nx p m:Nat}{K:KV}{e:dF} (hn:ZI ro h1 lv n.l) (g:h1.get p=some (.cells (pO n lv).toArray dH)) (ho:n.op≠1∧n.op≠2∧n.op≠6) (hT:Z=true ↔ n.op=3∨n.op=4)
  (e1:e 1=at_ p 0 0) (e3:e 3=.bool A) (e4:e 4=.bool B) (e5:e 5=.bool C) (e23:e 23=.int .u8 n.op) (e59:e 59=.bool Z) (hm:nx≤m) (hK':∀ (b:Bool) m,jX n A B C=b→nx≤m→∃ h',aU h' h1∧K (.bool b) h' m):qT ro K e h1 m:=by
 obtain⟨g0,g5,g6,g7,g8⟩:=o7 n lv
 have l0:=bE (ro:=ro) (z:=0) g g0
 have l5:=bE (ro:=ro) (z:=0) g g5
 have l6:=bE (ro:=ro) (z:=0) g g6
 have l7:=bE (ro:=ro) (z:=0) g g7
 have hlen:=hn.len
 unfold qT
 rw[e1,e3,e4,e5,e23,e59]
 cases Z with
 | true =>
  have h34:=hT.1 rfl
  cases A<;>cases B<;>cases C<;>(have zy:=And.intro l5 hlen;repeat refine zzCz ?_)
  all_goals try (exact hK' _ _ (by first | (simp[jX,ho,h34]; done) | (simp[jX,ho,h34]; omega)) (by omega))
  (first | refine cM (fun hb=>?_) (fun hb=>?_) | refine tE (fun hb=>?_) (fun hb=>?_) | refine jT (fun hb=>?_) (fun hb=>?_) | refine mY (fun hb=>?_) (fun hb=>?_) | refine i4 (fun hb=>?_) (fun hb=>?_) | refine lN (fun hb=>?_) (fun hb=>?_))
  all_goals
   (repeat refine zzC ?_)
   exact hK' _ _ (by simp[jX,ho,h34]; omega) (by omega)
 | false =>
  have h34:¬ (n.op=3∨n.op=4):=fun h=>by cases hT.2 h
  have h3:n.op≠3:=fun h=>h34 (.inl h)
  have h4:n.op≠4:=fun h=>h34 (.inr h)
  refine aE ?_
  by_cases h5:n.op=5
  ·refine aOF (by omega) (aG ?_)
   (have zy:=l7;repeat refine zzCz ?_)
   have fin:∀ (b:Bool) m,jX n A B C=b→nx≤m→∃ h',aU h' h1∧K (.bool b) h' m:=hK'
   iterate 4 ((all_goals try (first | refine cM (fun hb=>?_) (fun hb=>?_) | refine tE (fun hb=>?_) (fun hb=>?_) | refine jT (fun hb=>?_) (fun hb=>?_) | refine mY (fun hb=>?_) (fun hb=>?_) | refine i4 (fun hb=>?_) (fun hb=>?_) | refine lN (fun hb=>?_) (fun hb=>?_))); (all_goals (have zy:=And.intro l7 l6;repeat refine zzCz ?_)))
   all_goals
    cases A<;>cases C<;>simp only[Bool.not_true,Bool.not_false]<;>(have zy:=And.intro l5 (And.intro hlen l6);repeat refine zzCz ?_)
   all_goals try (exact hK' _ _ (by first | (simp[jX,ho,h3,h4,h5]; done) | (simp[jX,ho,h3,h4,h5]; omega)) (by omega))
   iterate 3 ((all_goals try (first | refine cM (fun hb=>?_) (fun hb=>?_) | refine tE (fun hb=>?_) (fun hb=>?_) | refine jT (fun hb=>?_) (fun hb=>?_) | refine mY (fun hb=>?_) (fun hb=>?_) | refine i4 (fun hb=>?_) (fun hb=>?_) | refine lN (fun hb=>?_) (fun hb=>?_))); (all_goals (have zy:=And.intro l5 (And.intro hlen l6);repeat refine zzCz ?_)); (all_goals try (exact hK' _ _ (by first | (simp[jX,ho,h3,h4,h5]; done) | (simp[jX,ho,h3,h4,h5]; omega)) (by omega))))
  ·refine aKn (by omega) (aE ?_)
   refine aKn (by omega) (aE ?_)
   unfold aAq
   exact hK' _ _ (by simp[jX,ho,h3,h4,h5]) (by omega)
set_option maxRecDepth 4000 in
set_option maxHeartbeats 4000000 in
theorem aHn {ro:Ro}{n:NodeD}{lv:Value} (hs:n.s < 2 ^ 256) (h6:n.op≠6) {h:T Obj}{nx:Nat}{K:KV} (hf:Fr h nx) (hn:ZI ro h lv n.l) (hK:∀ nx',nx≤nx'→K (.bool (lF n)) h nx'):aN Tryz.prog ro xL [.agg (pO n lv).toArray] h nx K:=by
 apply aGt
 unfold aFF
 refine aD ?_
 have hs1:aU h (h.upd nx (some (.cells (Value.cells (.agg (pO n lv).toArray)) dH))):=(aU.refl h).new hf (Nat.le_refl _)
 have g:(h.upd nx (some (.cells (Value.cells (.agg (pO n lv).toArray)) dH))).get nx=some (.cells (pO n lv).toArray dH):=by rw[T.get_upd_same]; rfl
 generalize h.upd nx (some (.cells (Value.cells (.agg (pO n lv).toArray)) dH))=h1 at hs1 g
 obtain⟨g0,g5,g6,g7,g8⟩:=o7 n lv
 have hset:loadA ro h1 4 (at_ nx 1 0)=some (.agg (gA n.s).toArray):=by
  rw[cQ,g]
  rfl
 have l0:=bE (ro:=ro) (z:=0) g g0
 have l5:=bE (ro:=ro) (z:=0) g g5
 have l6:=bE (ro:=ro) (z:=0) g g6
 have l7:=bE (ro:=ro) (z:=0) g g7
 have l8:=bE (ro:=ro) (z:=0) g g8
 have hlen:=hn.len
 have hnm:=aSv n.name
 rw[aQJ] at hK
 have hK':∀ (b:Bool) m,jX n (decide (n.s≠0)) (decide (n.lo≠0∨n.hi≠0)) (decide (n.name.size≠0))=b→nx≤m→∃ h',aU h' h1∧K (.bool b) h' m:=fun b m e hm=>⟨h,hs1,kb hK e hm⟩
 clear hK
 have hq0:∀ {K2:Value→Prop} {a:Bool},(a=decide (n.s≠0)→K2 (.bool a))→True:=fun _=>trivial
 rw[eY]
 refine aB (eT _ _ _ _) (aB hset (aB aFy (aB aIc (aB (aRp hs) ?_))))
 have ea:(!decide (n.s=0))=decide (n.s≠0):=by simp
 have ec:(!decide (n.name.size=0))=decide (n.name.size≠0):=by simp
 rw[ea]
 rw[ec] at hnm
 generalize hA:decide (n.s≠0)=A at hK'
 refine aB (eT _ _ _ _) (aB l6 ?_)
 have ho:n.op=1∨n.op=2∨n.op=3∨n.op=4∨n.op=5∨(n.op≠1∧n.op≠2∧n.op≠3∧n.op≠4∧n.op≠5):=by omega
 refine lN (fun hl0=>?_) (fun hl0=>?_)
 rotate_left
 ·(have zy:=l7;repeat refine zzCz ?_)
  refine lN (fun hh0=>?_) (fun hh0=>?_)
  ·rw[decide_eq_true (show n.lo≠0∨n.hi≠0 from .inr hh0)] at hK'
   generalize decide (n.name.size≠0)=C at hnm hK'
   (have zy:=And.intro l8 (And.intro hnm l0);repeat refine zzCz ?_)
   rcases ho with ho | ho | ho | ho | ho | ho<;>cases A<;>cases C<;>((have zy:=And.intro l5 (And.intro l6 (And.intro l7 hlen));repeat refine zzCz ?_); first | exact hK' _ _ (by first | (simp[jX,ho]; done) | (simp[jX,ho]; omega)) (by omega) | exact aHS (hn.sub hs1) g (by omega) (by simp[ho]) rfl rfl rfl rfl rfl rfl (by omega) hK' | ((first | refine cM (fun hb=>?_) (fun hb=>?_) | refine tE (fun hb=>?_) (fun hb=>?_) | refine jT (fun hb=>?_) (fun hb=>?_) | refine mY (fun hb=>?_) (fun hb=>?_) | refine i4 (fun hb=>?_) (fun hb=>?_) | refine lN (fun hb=>?_) (fun hb=>?_))<;>(repeat refine zzC ?_)<;>exact hK' _ _ (by simp[jX,ho,-List.length_eq_zero_iff]; omega) (by omega)))
  ·rw[decide_eq_false (show ¬ (n.lo≠0∨n.hi≠0) by omega)] at hK'
   generalize decide (n.name.size≠0)=C at hnm hK'
   (have zy:=And.intro l8 (And.intro hnm l0);repeat refine zzCz ?_)
   rcases ho with ho | ho | ho | ho | ho | ho<;>cases A<;>cases C<;>((have zy:=And.intro l5 (And.intro l6 (And.intro l7 hlen));repeat refine zzCz ?_); first | exact hK' _ _ (by first | (simp[jX,ho]; done) | (simp[jX,ho]; omega)) (by omega) | exact aHS (hn.sub hs1) g (by omega) (by simp[ho]) rfl rfl rfl rfl rfl rfl (by omega) hK' | ((first | refine cM (fun hb=>?_) (fun hb=>?_) | refine tE (fun hb=>?_) (fun hb=>?_) | refine jT (fun hb=>?_) (fun hb=>?_) | refine mY (fun hb=>?_) (fun hb=>?_) | refine i4 (fun hb=>?_) (fun hb=>?_) | refine lN (fun hb=>?_) (fun hb=>?_))<;>(repeat refine zzC ?_)<;>exact hK' _ _ (by simp[jX,ho,-List.length_eq_zero_iff]; omega) (by omega)))
 ·rw[decide_eq_true (show n.lo≠0∨n.hi≠0 from .inl hl0)] at hK'
  generalize decide (n.name.size≠0)=C at hnm hK'
  (have zy:=And.intro l8 (And.intro hnm l0);repeat refine zzCz ?_)
  rcases ho with ho | ho | ho | ho | ho | ho<;>cases A<;>cases C<;>((have zy:=And.intro l5 (And.intro l6 (And.intro l7 hlen));repeat refine zzCz ?_); first | exact hK' _ _ (by first | (simp[jX,ho]; done) | (simp[jX,ho]; omega)) (by omega) | exact aHS (hn.sub hs1) g (by omega) (by simp[ho]) rfl rfl rfl rfl rfl rfl (by omega) hK' | ((first | refine cM (fun hb=>?_) (fun hb=>?_) | refine tE (fun hb=>?_) (fun hb=>?_) | refine jT (fun hb=>?_) (fun hb=>?_) | refine mY (fun hb=>?_) (fun hb=>?_) | refine i4 (fun hb=>?_) (fun hb=>?_) | refine lN (fun hb=>?_) (fun hb=>?_))<;>(repeat refine zzC ?_)<;>exact hK' _ _ (by simp[jX,ho,-List.length_eq_zero_iff]; omega) (by omega)))
theorem aDV {ro:Ro}{h:T Obj}{v:Value}{l:List NodeD} (hl:oV ro h v l) {a:Int} (h0:0≤a) (h1:a < l.length):∃ lv,ZI ro h lv (bN l a).l∧(bN l a).s < 2 ^ 256∧(bN l a).l.length≤aEN∧cD 9 v (.int .i64 a)=some (fH 9 v a.toNat)∧(∀ k,aT k (fH 9 v a.toNat)=some (fP 9 v a.toNat k)) ∧
  load1 ro h (fP 9 v a.toNat 0)=some (.int .u8 (bN l a).op)∧load1 ro h (fP 9 v a.toNat 5)=some lv∧load1 ro h (fP 9 v a.toNat 6)=some (.int .i64 (bN l a).lo)∧load1 ro h (fP 9 v a.toNat 7)=some (.int .i64 (bN l a).hi) ∧
  loadA ro h 9 (fH 9 v a.toNat)=some (.agg (pO (bN l a) lv).toArray):=by
 have hi:a.toNat < l.length:=by omega
 obtain⟨x,⟨lv,rfl,p1,p2,p3⟩,p4,p5,p6,p7⟩:=gD.at hl hi
 have e:l[a.toNat]=bN l a:=by
  unfold bN
  rw[List.getD_eq_getElem?_getD,List.getElem?_eq_getElem hi]; rfl
 rw[e] at p1 p2 p3 p5 p7
 obtain⟨g0,g5,g6,g7,g8⟩:=o7 (bN l a) lv
 exact⟨lv,p1,p2,p3,gD.ixI hl .i64 h0 h1,p6,p7 0 _ g0,p7 5 _ g5,p7 6 _ g6,p7 7 _ g7,p5⟩
theorem aG8 {t:TypeId}{s b:Nat} (h:(tin Tryz.prog t).map (fun i=>(i.size,i.bytes))=some (s,b)):∃ i,tin Tryz.prog t=some i∧i.size=s∧i.bytes=b:=by
 cases hi:tin Tryz.prog t with
 | none=>rw[hi] at h; cases h
 | some i =>
  rw[hi] at h
  have:(i.size,i.bytes)=(s,b):=Option.some.inj h
  exact⟨i,rfl,congrArg Prod.fst this,congrArg Prod.snd this⟩
theorem aLV (aid:Nat) (x:Int):bC Tryz.prog cR aid 1 [(0,.int .i64 x)]=some (.slice (some (own aid 1)) 1 1,some (.cells [Value.int .i64 x].toArray cI)):=by kernel_rfl
theorem aPc:gG Tryz.prog cR=some (.slice cI):=by kernel_rfl
theorem aRi:∃ i,tin Tryz.prog cI=some i∧i.size=1∧i.bytes=8:=aG8 (by kernel_rfl)
theorem aRm:i8 Tryz.prog cI=some (.int .i64 0):=by kernel_rfl
theorem aPU (l:List Int) (x:Int):fK (l++[x])=fK l++[[Value.int .i64 x]]:=by simp[fK]
def Gap (n:Nat) (h h':T Obj):Prop:=∀ k,k < n→h.get k=none→h'.get k=none
theorem Gap.refl (n:Nat) (h:T Obj):Gap n h h:=fun _ _ h=>h
theorem Gap.trans {n m:Nat}{a b c:T Obj} (h1:Gap n a b) (h2:Gap m b c) (hn:n≤m):Gap n a c:=fun k hk h=>h2 k (by omega) (h1 k hk h)
theorem Gap.new {n k:Nat}{a b:T Obj}{o:Option Obj} (h:Gap n a b) (hk:n≤k):Gap n a (b.upd k o):=fun i hi hn=>by
 rw[T.get_upd_ne _ _ (by omega)]; exact h i hi hn
theorem Gap.upd {n k:Nat}{a b:T Obj}{o:Option Obj}{c:Obj} (h:Gap n a b) (hk:b.get k=some c):Gap n a (b.upd k o):=fun i hi hn=>by
 have h1:=h i hi hn
 rw[T.get_upd_ne _ _ (fun e=>by subst e; rw[hk] at h1; cases h1)]; exact h1
theorem aDS {P:Program}{ro:Ro}{h:T Obj}{v w:Value}{z nx n1 n2 lo:Nat}{t e:TypeId}{i:TypeInfo}{zv:Value}{l:List (List Value)}{y:List Value}{K:Value × Option Obj→T Obj→Value × T Obj × Nat→Prop} (hlit:bC P t n1 1 [(0,w)]=some (.slice (some (own n1 z)) 1 1,some (.cells y.toArray e))) (hy:y.length=z) (ho:bL h v z e l lo)
  (hu:gG P t=some (.slice e)) (hi':tin P e=some i) (hz:i.size=z) (hz0:0 < z) (hzer:i8 P e=some zv) (hzs:zv.cells.size=z) (hok:y.all bV=true) (hb:(l.length+1)*i.bytes≤oB) (hb2:l.length+1≤oB) (hf:Fr h nx) (hlo:lo≤nx) (hn1:nx≤n1) (hn2:n1 < n2)
  (hK:∀ h' q h1,bL h' (.slice (some (own n2 z)) (l++[y]).length (l++[y]).length) z e (l++[y]) lo→Kp v h h'→Fr h' (n2+1)→Gap nx h h'→K q h1 (.slice (some (own n2 z)) (l++[y]).length (l++[y]).length,h',n2+1)) :
  aA (bC P t n1 1 [(0,w)]) fun r=>eJ h n1 r.2 fun h'=>aA (bY P ro h' n2 #[t,t] [v,r.1]) (K r h'):=by
 refine aB hlit (aF ?_)
 have hs1:aU h (h.upd n1 (some (.cells y.toArray e))):=(aU.refl h).new hf hn1
 have hf1:Fr (h.upd n1 (some (.cells y.toArray e))) n2:=(hf.mono (show nx≤n2 by omega)).upd (Nat.le_refl _) hn2
 have hx1:Sl ro (h.upd n1 (some (.cells y.toArray e))) (.slice (some (own n1 z)) 1 1) z [y]:=Sl.own (l:=[y]) (e:=e) (f:=(0,0)) (by rw[T.get_upd_same]; simp) (by simpa using hy) (Nat.le_refl _)
 obtain⟨h',q1,q2,q3,q4,q5⟩:=aF8 (P:=P) (t:=t) (nx:=n2) (ho.keepS hs1) hx1 hu hi' hz hz0 hzer hzs (by simp) (by simpa using hok) hb hb2 (by omega) hf1
 refine aB q1 (hK h' _ _ q2 (fun k o hk hv=>q3 k o (hs1 k o hk) hv) q4 fun k hk hn=>?_)
 have h1:(h.upd n1 (some (.cells y.toArray e))).get k=none:=by rw[T.get_upd_ne _ _ (by omega)]; exact hn
 rcases q5 k (by omega) with h2 | h2
 ·rw[h2]; exact h1
 ·exact h2
theorem aAf {ro:Ro}{h:T Obj}{v:Value}{l:List Int}{x:Int}{nx n1 n2 lo:Nat}{K:Value × Option Obj→T Obj→Value × T Obj × Nat→Prop} (ho:bL h v 1 cI (fK l) lo) (hb:l.length≤1000000) (hf:Fr h nx) (hlo:lo≤nx) (hn1:nx≤n1) (hn2:n1 < n2)
  (hK:∀ r h' q h1,bL h' r 1 cI (fK (l++[x])) lo→Kp v h h'→Fr h' (n2+1)→Gap nx h h'→K q h1 (r,h',n2+1)) :
  aA (bC Tryz.prog cR n1 1 [(0,.int .i64 x)]) fun r=>eJ h n1 r.2 fun h'=>aA (bY Tryz.prog ro h' n2 #[cR,cR] [v,r.1]) (K r h'):=by
 obtain⟨i,h1,h2,h3⟩:=aRi
 have hbig:(1000001:Nat)*8≤oB:=by decide
 refine aDS (z:=1) (aLV n1 x) rfl ho aPc h1 h2 (by omega) aRm rfl rfl (by rw[h3,i6]; omega) (by rw[i6]; omega) hf hlo hn1 hn2 fun h' q h1 q1 q2 q3 q4=>?_
 refine hK _ h' _ _ ?_ q2 q3 q4
 rw[aPU]
 exact q1
theorem aLF {l:List NodeD}{f:Int→List Int→Option (List Int)}{at_:Int}{B:Nat} (hf:∀ k s t,f k s=some t→t.length≤B):∀ (r s t:List Int),s.length≤B→sM f at_ r s=some t→t.length≤B
 | [],s,t,hs,h=>by cases h; exact hs
 | k::r,s,t,hs,h=>by
  unfold sM at h
  split at h
  ·cases h
  ·cases hk:f k s with
   | none=>rw[hk] at h; cases h
   | some s2 =>
    rw[hk] at h
    exact aLF (l:=l) hf r s2 t (hf k s s2 hk) h
theorem aM7 {l:List NodeD}:∀ (n:Nat) (a:Int) (s t:List Int),m6 l n a s=some t→t.length≤l.length+n
 | 0,a,s,t,h=>by cases h
 | n+1,a,s,t,h=>by
  unfold m6 at h
  split at h
  ·cases h
  ·cases hk:sM (m6 l n) a (bN l a).l s with
   | none=>rw[hk] at h; cases h
   | some s2 =>
    rw[hk] at h
    cases h
    have:=aLF (l:=l) (B:=l.length+n) (fun k s t h=>aM7 n k s t h) _ _ _ (by omega) hk
    simp; omega
theorem aND (f:Int→List Int→Option (List Int)) (a k:Int) (r s:List Int):sM f a (k::r) s=if k < 0∨a≤k then none else (f k s).bind fun s=>sM f a r s:=rfl
set_option maxRecDepth 4000 in
set_option maxHeartbeats 2000000 in
theorem aD8 {ro:Ro}{v:Value}{l:List NodeD}{h0:T Obj}{lo:Nat} (hl:oV ro h0 v l) (hlen:l.length≤1024) (hf0:Fr h0 lo):∀ (n:Nat) (a:Int) (s:List Int) (sv:Value) (h:T Obj) (nx:Nat) (K:KV),n≤1024→0≤a→a < n→a < l.length→aU h0 h→Fr h nx→lo≤nx→bL h sv 1 cI (fK s) lo →
  (∀ t r h' nx',m6 l n a s=some t→nx≤nx'→Fr h' nx'→aU h0 h'→bL h' r 1 cI (fK t) lo→K (.tuple #[r,.bool true]) h' nx')→(∀ r h' nx',m6 l n a s=none→nx≤nx'→Fr h' nx'→aU h0 h'→K (.tuple #[r,.bool false]) h' nx')→aN Tryz.prog ro tN [v,.int .i64 a,sv] h nx K
 | 0,a,s,sv,h,nx,K,_,_,_,_,_,_,_,_,_,_=>by omega
 | n+1,a,s,sv,h,nx,K,hn,ha0,ha1,ha2,hs,hf,hlo,ho,hok,hno=>by
  apply aHo
  unfold aGu
  have hsl:bM sv=some (.int .i64 s.length):=by
   have:=(ho.sl (ro:=ro)).len
   rwa [i6] at this
  have hvl:=gD.len hl
  (have zy:=And.intro hsl hvl;repeat refine zzCz ?_)
  refine mY (fun hg=>?_) (fun hg=>?_)
  ·(repeat refine zzC ?_)
   refine⟨h,aU.refl _,hno _ _ _ ?_ (by omega) (hf.mono (by omega)) hs⟩
   unfold m6
   rw[if_pos (by omega)]
  ·(repeat refine zzC ?_)
   have hwd:m6 l (n+1) a s=(sM (m6 l n) a (bN l a).l s).bind fun s=>some (s++[a]):=by
    conv=>lhs; unfold m6
    rw[if_neg (by omega)]
   rw[hwd] at hok hno
   refine bD (fun j e h' nx'=>∃ (i:Nat) (s2:List Int) (sv2:Value),i+j=(bN l a).l.length∧nx+8≤nx'∧e 0=v∧e 1=.int .i64 a∧e 2=sv2∧e 8=.int .i64 i∧Fr h' nx'∧aU h0 h'∧bL h' sv2 1 cI (fK s2) lo∧s2.length≤l.length+n∧sM (m6 l n) a (bN l a).l s=sM (m6 l n) a ((bN l a).l.drop i) s2) ?_ (n:=(bN l a).l.length)
    ⟨0,s,sv,by omega,by omega,rfl,rfl,rfl,rfl,hf.mono (by omega),hs,ho,by omega,rfl⟩
   rintro j e h' nx' ⟨i,s2,sv2,hij,hnx,e0,e1,e2,e8,hf',hs',ho',hl2,hk⟩ Q' hq hx
   unfold aCB
   rw[e0,e1,e2,e8]
   obtain⟨lv,z1,z2,z3,z4,z5,z6,z7,_,_,_⟩:=aDV (hl.sub hs') ha0 ha2
   have z5':=z5 5
   have zl:=z1.len
   unfold aEN at z3
   (have zy:=And.intro z4 (And.intro z5' (And.intro z7 zl));repeat refine zzCz ?_)
   refine cM (fun hi=>?_) (fun hi=>?_)
   ·have hi:i < (bN l a).l.length:=by omega
    have y1:=z1.ix .i64 hi
    have y2:=z1.load hi
    rw[cP hi,aND] at hk
    generalize (bN l a).l[i]=k at y2 hk
    (have zy:=And.intro z4 (And.intro z5' (And.intro z7 (And.intro y1 y2)));repeat refine zzCz ?_)
    have hbad:∀ (e':dF) m,sM (m6 l n) a (bN l a).l s=none→nx≤m→Fr h' m→e' 6=sv2→e' 7=.bool false→Q' .ret e' h' m:=fun e' m hb hm hfm e6 e7=>by
     refine hx _ _ _ _ (fun e=>by cases e) (kW ?_)
     rw[e6,e7]
     exact⟨h',aU.refl _,hno _ _ _ (by rw[hb]; rfl) (by omega) hfm hs'⟩
    by_cases hkk:k < 0∨a≤k
    ·rw[if_pos hkk] at hk
     by_cases hk0:k < 0
     ·refine aVC (by omega) ?_
      (repeat refine zzC ?_)
      exact hbad _ _ hk (by omega) (hf'.mono (by omega)) rfl rfl
     ·refine aR4 (by omega) ?_
      (repeat refine zzC ?_)
      exact hbad _ _ hk (by omega) (hf'.mono (by omega)) rfl rfl
    ·rw[if_neg hkk] at hk
     refine aR4 (by omega) ?_
     (repeat refine zzC ?_)
     refine aD8 hl hlen hf0 n k s2 sv2 _ _ _ (by omega) (by omega) (by omega) (by omega) hs' (hf'.mono (by omega)) (by omega) ho' (fun t r h2 n2 ht hn2 hf2 hs2 ho2=>?_) (fun r h2 n2 ht hn2 hf2 hs2=>?_)
     ·rw[ht] at hk
      refine aB (show nth 0 (.tuple #[r,.bool true])=some r from rfl) (aB (show nth 1 (.tuple #[r,.bool true])=some (.bool true) from rfl) ?_)
      (repeat refine zzC ?_)
      exact hq (j - 1) _ _ _ _ (by omega) ⟨i+1,t,r,by omega,by omega,e0,e1,rfl,rfl,hf2.mono (by omega),hs2,ho2,aM7 _ _ _ _ ht,hk⟩ (aU.refl _)
     ·rw[ht] at hk
      refine aB (show nth 0 (.tuple #[r,.bool false])=some r from rfl) (aB (show nth 1 (.tuple #[r,.bool false])=some (.bool false) from rfl) ?_)
      (repeat refine zzC ?_)
      refine hx _ _ _ _ (fun e=>by cases e) (kW ?_)
      exact⟨h2,aU.refl _,hno _ _ _ (by rw[hk]; rfl) (by omega) (hf2.mono (by omega)) hs2⟩
   ·rw[eO (by omega)] at hk
    (repeat refine zzC ?_)
    refine hx _ _ _ _ (fun e=>by cases e) (d3 (cU ?_))
    unfold xT
    show aA (bC Tryz.prog cR _ 1 [(0,e 1)]) fun r5=>eJ h' _ r5.2 fun h6=>aA (bY Tryz.prog ro h6 _ #[cR,cR] [e 2,r5.1]) _
    rw[e1,e2]
    refine aAf ho' (by omega) hf' (by omega) (by omega) (by omega) fun r h2 q h3 o1 o2 o3 o4=>?_
    dsimp only
    exact⟨h2,aU.refl _,hok _ _ _ _ (by rw[hk]; rfl) (by omega) (o3.mono (by omega)) (ho'.sub o2 hf0 (Nat.le_refl _) hs') o1⟩
theorem aFp {l:List NodeD}{q:NodeD→Bool}{i:Nat} (hi:i < l.length):(l.take (i+1)).all q=((l.take i).all q&&q l[i]):=by
 rw[List.take_succ_eq_append_getElem hi,List.all_append]; simp
theorem aG9 {l:List NodeD}{i:Nat} (hi:i < l.length):bN l (i:Int)=l[i]:=by
 unfold bN
 rw[Int.toNat_natCast,List.getD_eq_getElem?_getD,List.getElem?_eq_getElem hi]; rfl
theorem aUq {t:List Int}{n i:Nat} (hi:i < t.length) (hn:t.length=n) (h:t[i]≠(i:Int)):(t==aBW n)=false:=by
 cases hq:t==aBW n with
 | false=>rfl
 | true =>
  exfalso
  have e:t=aBW n:=by simpa using hq
  apply h
  have:∀ (t u:List Int) (e:t=u) (hi:i < t.length),t[i]=u[i]'(by rw[← e]; exact hi):=fun t u e hi=>by subst e; rfl
  rw[this t (aBW n) e hi]
  simp[aBW]
theorem aQY {t:List Int}{n:Nat} (hn:t.length=n) (h:∀ i (hi:i < t.length),t[i]=(i:Int)):(t==aBW n)=true:=by
 have:t=aBW n:=by
  refine List.ext_getElem (by simp[aBW,hn]) fun i h1 h2=>?_
  rw[h i h1]
  simp[aBW]
 simpa using this
set_option maxRecDepth 4000 in
set_option maxHeartbeats 2000000 in
theorem aQC {ro:Ro}{v:Value}{l:List NodeD}{h:T Obj}{nx m:Nat}{K:KV}{e:dF} (hl:oV ro h v l) (hf:Fr h nx) (hm:nx≤m) (hl1:1≤l.length) (hl2:l.length≤1024) (e0:e 0=v) (hr4:gV l=(m6 l l.length (l.length - 1) []==some (aBW l.length))) (hK:∀ nx',nx≤nx'→K (.bool (gV l)) h nx'):lC ro K e h m:=by
 rw[hr4] at hK
 have hvl:=gD.len hl
 unfold lC
 rw[e0]
 (have zy:=hvl;repeat refine zzCz ?_)
 refine aD8 hl hl2 (hf.mono hm) l.length (l.length - 1) [] (.slice none 0 0) h _ _ (by omega) (by omega) (by omega) (by omega) (aU.refl _) (hf.mono (by omega)) (by omega) bL.nil (fun t r h2 n2 ht hn2 hf2 hs2 ho2=>?_) (fun r h2 n2 ht hn2 hf2 hs2=>?_)
 ·rw[ht] at hK
  have hrl:bM r=some (.int .i64 t.length):=by
   have:=(ho2.sl (ro:=ro)).len
   rwa [i6] at this
  refine aB (show nth 0 (.tuple #[r,.bool true])=some r from rfl) (aB (show nth 1 (.tuple #[r,.bool true])=some (.bool true) from rfl) ?_)
  (have zy:=And.intro hrl hvl;repeat refine zzCz ?_)
  refine lN (fun hb=>?_) (fun hb=>?_)
  ·(repeat refine zzC ?_)
   refine⟨h,hs2,kb hK ?_ (by omega)⟩
   cases hq:(some t==some (aBW l.length)) with
   | false=>rfl
   | true =>
    have:t=aBW l.length:=by simpa using hq
    exfalso
    apply hb
    rw[this]; simp[aBW]
  ·(repeat refine zzC ?_)
   have htl:t.length=l.length:=by omega
   refine bD (fun j e h' nx'=>∃ i:Nat,i+j=t.length∧nx≤nx'∧e 4=r∧e 6=.int .i64 i∧h'=h2∧∀ k (hk:k < t.length),k < i→t[k]=(k:Int)) ?_ (n:=t.length) ⟨0,by omega,by omega,rfl,rfl,rfl,fun k _ h=>by omega⟩
   rintro j e h' nx' ⟨i,hij,hnx,e4,e6,rfl,hall⟩ Q' hq hx
   unfold aAp
   rw[e4,e6]
   (have zy:=hrl;repeat refine zzCz ?_)
   refine cM (fun hi=>?_) (fun hi=>?_)
   ·have hi:i < t.length:=by omega
    have hz:ZI ro h' r t:=ho2.sl
    have y1:=hz.ix .i64 hi
    have y2:=hz.load hi
    (have zy:=And.intro y1 y2;repeat refine zzCz ?_)
    refine lN (fun hne=>?_) (fun hne=>?_)
    ·(repeat refine zzC ?_)
     refine hx _ _ _ _ (fun e=>by cases e) (kW ?_)
     refine⟨h,hs2,kb hK ?_ (by omega)⟩
     exact aUq hi htl hne
    ·(repeat refine zzC ?_)
     refine hq (j - 1) _ _ _ _ (by omega) ⟨i+1,by omega,by omega,e4,rfl,rfl,fun k hk hki=>?_⟩ (aU.refl _)
     by_cases hki2:k < i
     ·exact hall k hk hki2
     ·have:k=i:=by omega
      subst this; exact hne
   ·(repeat refine zzC ?_)
    refine hx _ _ _ _ (fun e=>by cases e) (d3 (cU ?_))
    unfold vD
    refine⟨h,hs2,kb hK ?_ (by omega)⟩
    exact aQY htl fun k hk=>hall k hk (by omega)
 ·rw[ht] at hK
  refine aB (show nth 0 (.tuple #[r,.bool false])=some r from rfl) (aB (show nth 1 (.tuple #[r,.bool false])=some (.bool false) from rfl) ?_)
  (repeat refine zzC ?_)
  exact⟨h,hs2,kb hK rfl (by omega)⟩
set_option maxRecDepth 4000 in
set_option maxHeartbeats 2000000 in
theorem aHm {ro:Ro}{v:Value}{l:List NodeD} (hop:∀ n∈l,n.op≠6) {h:T Obj}{nx:Nat}{K:KV} (hl:oV ro h v l) (hf:Fr h nx) (hK:∀ nx',nx≤nx'→K (.bool (gV l)) h nx'):aN Tryz.prog ro rS [v] h nx K:=by
 apply aGs
 unfold aFE
 have hvl:=gD.len hl
 have hK':∀ (b:Bool) m,gV l=b→nx≤m→∃ h2,aU h2 h∧K (.bool b) h2 m:=fun b m e hm=>⟨h,aU.refl _,kb hK e hm⟩
 (have zy:=hvl;repeat refine zzCz ?_)
 have rest:∀ m e,nx≤m→1≤l.length→l.length≤1024→e 0=v→e 3=.int .i64 ((0:Nat):Int) →
   dC (vC ro) e h m fun x77 e74 h75 n76=>iM x77 (lC ro K e74 h75 n76) (fun i78=>dE (Nat.beq i78 0) (lC ro K e74 h75 n76) (False)) (∃ h79,aU h79 h75∧K (e74 2) h79 n76):=fun m e hm hl1 hl2 e0 e3=>by
  refine bD (fun j e h' nx'=>∃ i:Nat,i+j=l.length∧nx≤nx'∧e 0=v∧e 3=.int .i64 i∧h'=h∧(l.take i).all lF=true) ?_ (n:=l.length) ⟨0,by omega,hm,e0,e3,rfl,rfl⟩
  rintro j e h' nx' ⟨i,hij,hnx,e0,e3,rfl,hsh⟩ Q' hq hx
  unfold vC
  rw[e0,e3]
  (have zy:=hvl;repeat refine zzCz ?_)
  refine cM (fun hi=>?_) (fun hi=>?_)
  ·have hi:i < l.length:=by omega
   obtain⟨lv,z1,z2,z3,z4,z5,z6,z7,_,_,z8⟩:=aDV hl (a:=(i:Int)) (by omega) (by omega)
   have hon:=hop _ (sN (l:=l) (x:=(i:Int)) (by omega))
   have hall:=aFp (q:=lF) hi
   rw[hsh,← aG9 hi,Bool.true_and] at hall
   simp only[Int.toNat_natCast] at z4 z8
   (have zy:=And.intro z4 z8;repeat refine zzCz ?_)
   refine aHn z2 hon (hf.mono (by omega)) z1 fun n2 hn2=>?_
   cases hb:lF (bN l (i:Int)) with
   | true =>
    (repeat refine zzC ?_)
    exact hq (j - 1) _ _ _ _ (by omega) ⟨i+1,by omega,by omega,e0,rfl,rfl,by rw[hall,hb]⟩ (aU.refl _)
   | false =>
    (repeat refine zzC ?_)
    refine hx _ _ _ _ (fun e=>by cases e) (kW ?_)
    refine hK' _ _ ?_ (by omega)
    unfold gV
    have:l.all lF=false:=by
     cases hq2:l.all lF with
     | false=>rfl
     | true =>
      rw[List.all_eq_true] at hq2
      rw[hq2 _ (sN (l:=l) (x:=(i:Int)) (by omega))] at hb
      cases hb
    simp[this]
  ·(repeat refine zzC ?_)
   refine hx _ _ _ _ (fun e=>by cases e) (d3 (cU ?_))
   have hsh2:l.all lF=true:=by rwa [List.take_of_length_le (by omega)] at hsh
   refine aQC hl hf (by omega) hl1 hl2 e0 ?_ hK
   unfold gV
   rw[hsh2,decide_eq_true hl1,decide_eq_true hl2]; rfl
 refine cM (fun h1=>?_) (fun h1=>?_)
 ·(repeat refine zzC ?_)
  exact hK' _ _ (by unfold gV; rw[decide_eq_false (by omega)]; rfl) (by omega)
 ·(have zy:=hvl;repeat refine zzCz ?_)
  refine jT (fun h2=>?_) (fun h2=>?_)
  ·(repeat refine zzC ?_)
   exact hK' _ _ (by unfold gV; rw[decide_eq_false (show ¬ l.length≤1024 by omega)]; simp) (by omega)
  ·(repeat refine zzC ?_)
   exact rest _ _ (by omega) (by omega) (by omega) rfl rfl
set_option maxRecDepth 4000 in
set_option maxHeartbeats 2000000 in
theorem aCC {ro:Ro}{v:Value}{l:List NodeD} (hlen:l.length≤1000000) {h:T Obj}{nx:Nat}{K:KV} (hl:oV ro h v l) (hf:Fr h nx) (hK:∀ nx',nx≤nx'→K (.bool (iY l)) h nx'):aN Tryz.prog ro rT [v] h nx K:=by
 apply aGv
 unfold aFG
 have hvl:=gD.len hl
 refine bD (fun j e h' nx'=>∃ i:Nat,i+j=l.length∧nx≤nx'∧e 0=v∧e 3=.int .i64 i∧h'=h∧(l.take i).all (fun n=>decide (n.op≠6))=true) ?_ (n:=l.length) ⟨0,by omega,by omega,rfl,rfl,rfl,rfl⟩
 rintro j e h' nx' ⟨i,hij,hnx,e0,e3,rfl,hsh⟩ Q' hq hx
 unfold aAr
 rw[e0,e3]
 (have zy:=hvl;repeat refine zzCz ?_)
 refine cM (fun hi=>?_) (fun hi=>?_)
 ·have hi:i < l.length:=by omega
  obtain⟨lv,z1,z2,z3,z4,z5,z6,z7,_,_,z8⟩:=aDV hl (a:=(i:Int)) (by omega) (by omega)
  have hall:=aFp (q:=fun n=>decide (n.op≠6)) hi
  rw[hsh,← aG9 hi,Bool.true_and] at hall
  simp only[Int.toNat_natCast] at z4 z5 z6
  have z5':=z5 0
  (have zy:=And.intro z4 (And.intro z5' z6);repeat refine zzCz ?_)
  refine i4 (fun h6=>?_) (fun h6=>?_)
  ·(repeat refine zzC ?_)
   refine hx _ _ _ _ (fun e=>by cases e) (kW ?_)
   refine⟨h',aU.refl _,kb hK ?_ (by omega)⟩
   unfold iY
   have:l.all (fun n=>decide (n.op≠6))=false:=by
    cases hq2:l.all (fun n=>decide (n.op≠6)) with
    | false=>rfl
    | true =>
     rw[List.all_eq_true] at hq2
     have:=hq2 _ (sN (l:=l) (x:=(i:Int)) (by omega))
     simp only[decide_eq_true_eq] at this
     exact absurd (by omega) this
   rw[this]; rfl
  ·(repeat refine zzC ?_)
   exact hq (j - 1) _ _ _ _ (by omega) ⟨i+1,by omega,by omega,e0,rfl,rfl,by rw[hall]; exact decide_eq_true (by omega)⟩ (aU.refl _)
 ·(repeat refine zzC ?_)
  refine hx _ _ _ _ (fun e=>by cases e) (d3 (cU ?_))
  have hsh2:l.all (fun n=>decide (n.op≠6))=true:=by rwa [List.take_of_length_le (by omega)] at hsh
  have hp:iY l=gV l:=by unfold iY; rw[hsh2]; rfl
  unfold vE
  show aN Tryz.prog ro rS [e 0] _ _ _
  rw[e0]
  rw[List.all_eq_true] at hsh2
  refine aHm (fun n hn=>by simpa using hsh2 n hn) hl (hf.mono (by omega)) fun n2 hn2=>?_
  rw[hp] at hK
  exact⟨h',aU.refl _,hK _ (by omega)⟩
theorem aLA {l:List Int} (h:0 < l.length):l[0]=l.headD 0:=by
 cases l with
 | nil=>simp at h
 | cons x r=>rfl
set_option maxRecDepth 4000 in
set_option maxHeartbeats 2000000 in
theorem aF6 {ro:Ro}{v lv:Value}{l:List NodeD}{n:NodeD}{h:T Obj}{nx:Nat}{K:KV} (hl:oV ro h v l) (hn:ZI ro h lv n.l) (hne:0 < n.l.length) (hk0:0≤n.l.headD 0) (hk1:n.l.headD 0 < l.length) (hf:Fr h nx) (hK:∀ nx',nx≤nx'→K (.bool (jZ l n)) h nx'):aN Tryz.prog ro pH [v,.agg (pO n lv).toArray] h nx K:=by
 apply aE0
 unfold aCJ
 refine aD ?_
 have hs1:aU h (h.upd nx (some (.cells (Value.cells (.agg (pO n lv).toArray)) dH))):=(aU.refl h).new hf (Nat.le_refl _)
 have g:(h.upd nx (some (.cells (Value.cells (.agg (pO n lv).toArray)) dH))).get nx=some (.cells (pO n lv).toArray dH):=by rw[T.get_upd_same]; rfl
 generalize h.upd nx (some (.cells (Value.cells (.agg (pO n lv).toArray)) dH))=h1 at hs1 g
 obtain⟨g0,g5,g6,g7,g8⟩:=o7 n lv
 have l5:=bE (ro:=ro) (z:=0) g g5
 have l6:=bE (ro:=ro) (z:=0) g g6
 have l7:=bE (ro:=ro) (z:=0) g g7
 have hK':∀ (b:Bool) m,jZ l n=b→nx≤m→∃ h',aU h' h1∧K (.bool b) h' m:=fun b m e hm=>⟨h,hs1,kb hK e hm⟩
 have hhd:=aLA hne
 have y1:=(hn.sub hs1).ix .i64 hne
 have y2:=(hn.sub hs1).load hne
 rw[hhd] at y2
 unfold jZ at hK'
 generalize n.l.headD 0=k at *
 obtain⟨lv2,z1,z2,z3,z4,z5,z6,z7,_,_,z8⟩:=aDV (hl.sub hs1) hk0 hk1
 have z5':=z5 0
 have y1':cD 1 lv (.int .i64 0)=some (fH 1 lv 0):=y1
 (have zy:=And.intro l5 (And.intro y1' (And.intro y2 (And.intro z4 (And.intro z5' z6))));repeat refine zzCz ?_)
 refine i4 (fun h2=>?_) (fun h2=>?_)
 ·(have zy:=l6;repeat refine zzCz ?_)
  refine mY (fun hb=>?_) (fun hb=>?_)
  ·(have zy:=l7;repeat refine zzCz ?_)
   refine mY (fun hc=>?_) (fun hc=>?_)
   ·(repeat refine zzC ?_)
    refine hK' _ _ ?_ (by omega)
    rw[decide_eq_true (show (bN l k).op=2 by omega),decide_eq_true hb,decide_eq_true hc]; rfl
   ·(repeat refine zzC ?_)
    refine hK' _ _ ?_ (by omega)
    rw[decide_eq_false (show ¬ 2≤n.hi by omega)]; simp
  ·(repeat refine zzC ?_)
   refine hK' _ _ ?_ (by omega)
   rw[decide_eq_false (show ¬ 1≤n.lo by omega)]; simp
 ·(repeat refine zzC ?_)
  refine hK' _ _ ?_ (by omega)
  rw[decide_eq_false (show ¬ (bN l k).op=2 by omega)]; rfl
def aKX (l:List NodeD) (n:NodeD):Bool:=decide (n.op=5)&&((decide (n.lo≠0) || decide (n.hi≠-1))&&!jZ l n)
theorem aGk {l:List NodeD} (h:iY l=true) {x:Int} (h0:0≤x) (h1:x < l.length) (h5:(bN l x).op=5):0 < (bN l x).l.length∧0≤(bN l x).l.headD 0∧(bN l x).l.headD 0 < l.length:=by
 unfold iY at h
 simp only[Bool.and_eq_true] at h
 have hs:=aBP h.2 (x:=x) (by omega)
 unfold lF at hs
 simp only[h5] at hs
 simp only[Nat.reduceEqDiff,or_self,if_false,if_true,Bool.and_eq_true,decide_eq_true_eq] at hs
 have hl:=hs.2.2.1
 have hk:=aFd h.2 h0 h1 ((bN l x).l.headD 0) (by rw[aFg hl]; simp)
 exact⟨by omega,by omega,by omega⟩
set_option maxRecDepth 4000 in
set_option maxHeartbeats 2000000 in
theorem aCI {ro:Ro}{v:Value}{l:List NodeD} (hlen:l.length≤1000000) {h:T Obj}{nx:Nat}{K:KV} (hl:oV ro h v l) (hf:Fr h nx) (hK:∀ nx',nx≤nx'→K (.bool (jW l)) h nx'):aN Tryz.prog ro rU [v] h nx K:=by
 apply aHA
 unfold aFI
 have hvl:=gD.len hl
 refine aCC hlen hl (hf.mono (by omega)) fun n1 hn1=>?_
 have hr8:jW l=(iY l&&l.all fun n=>!aKX l n):=rfl
 rw[hr8] at hK
 cases hp:iY l with
 | false =>
  rw[hp] at hK
  (repeat refine zzC ?_)
  exact⟨h,aU.refl _,hK _ (by omega)⟩
 | true =>
  rw[hp,Bool.true_and] at hK
  (repeat refine zzC ?_)
  refine bD (fun j e h' nx'=>∃ i:Nat,i+j=l.length∧nx≤nx'∧e 0=v∧e 3=.int .i64 i∧aU h h'∧Fr h' nx'∧(l.take i).all (fun n=>!aKX l n)=true) ?_ (n:=l.length) ⟨0,by omega,by omega,rfl,rfl,aU.refl _,hf.mono (by omega),rfl⟩
  rintro j e h' nx' ⟨i,hij,hnx,e0,e3,hs',hf',hsh⟩ Q' hq hx
  unfold aAt
  rw[e0,e3]
  (have zy:=hvl;repeat refine zzCz ?_)
  refine cM (fun hi=>?_) (fun hi=>?_)
  ·have hi:i < l.length:=by omega
   obtain⟨lv,z1,z2,z3,z4,z5,z6,z7,_,_,z8⟩:=aDV (hl.sub hs') (a:=(i:Int)) (by omega) (by omega)
   have hall:=aFp (q:=fun n=>!aKX l n) hi
   have hbad:aKX l (bN l (i:Int))=true→(l.all fun n=>!aKX l n)=false:=fun hb=>by
    cases hq2:l.all (fun n=>!aKX l n) with
    | false=>rfl
    | true =>
     rw[List.all_eq_true] at hq2
     have:=hq2 _ (sN (l:=l) (x:=(i:Int)) (by omega))
     rw[hb] at this; cases this
   rw[hsh,← aG9 hi,Bool.true_and] at hall
   have hkid:=aGk hp (x:=(i:Int)) (by omega) (by omega)
   simp only[Int.toNat_natCast] at z4 z8
   have hbe:aKX l (bN l (i:Int))=(decide ((bN l (i:Int)).op=5)&&((decide ((bN l (i:Int)).lo≠0) || decide ((bN l (i:Int)).hi≠-1))&&!jZ l (bN l (i:Int)))):=rfl
   generalize bN l (i:Int)=n at *
   (have zy:=And.intro z4 z8;repeat refine zzCz ?_)
   refine gP (n:=9) (x:=pO n lv) aH3 rfl rfl rfl (aJc z1.ok) hf' (by omega) fun h2 hs2 hf2 g2 _=>?_
   obtain⟨g0,g5,g6,g7,g8⟩:=o7 n lv
   have l0:=bE (ro:=ro) (z:=0) g2 g0
   have l6:=bE (ro:=ro) (z:=0) g2 g6
   have l7:=bE (ro:=ro) (z:=0) g2 g7
   have lA:=bX (ro:=ro) (z:=0) (n:=9) g2 rfl
   have hnext:∀ (e':dF) m,aKX l n=false→nx≤m→Fr h2 m→e' 0=v→e' 3=.int .i64 ((i:Int)+1)→Q' .normal e' h2 m:=fun e' m hb hm hfm q0 q3 =>
    hq (j - 1) _ _ _ _ (by omega) ⟨i+1,by omega,hm,q0,q3,hs'.trans hs2,hfm,by rw[hall,hb]; rfl⟩ (aU.refl _)
   have hcnt:∀ m (e':dF) (K2:Value→T Obj→Nat→Prop),n.op=5→(∀ n2,m≤n2→K2 (.bool (jZ l n)) h2 n2)→nx'+9≤m→aN Tryz.prog ro pH [v,.agg (pO n lv).toArray] h2 m K2:=fun m e' K2 h5 hk hm =>
    aF6 (hl.sub (hs'.trans hs2)) (z1.sub hs2) (hkid h5).1 (hkid h5).2.1 (hkid h5).2.2 (hf2.mono (by omega)) hk
   have hend:∀ m (e':dF),n.op=5→(n.lo≠0∨n.hi≠-1)→jZ l n=false→nx≤m→e' 2=.bool false→Q' .ret e' h2 m:=fun m e' h5 hd hc hm q2=>by
    refine hx _ _ _ _ (fun e=>by cases e) (kW ?_)
    rw[q2]
    refine⟨h,hs'.trans hs2,kb hK ?_ hm⟩
    refine hbad ?_
    rw[hbe,hc,decide_eq_true h5]
    rcases hd with hd | hd<;>simp[hd]
   (have zy:=l0;repeat refine zzCz ?_)
   refine i4 (fun h5=>?_) (fun h5=>?_)
   ·have h5:n.op=5:=by omega
    (have zy:=l6;repeat refine zzCz ?_)
    refine lN (fun hlo=>?_) (fun hlo=>?_)
    ·(have zy:=And.intro l7 lA;repeat refine zzCz ?_)
     refine hcnt _ e _ h5 (fun n2 hn2=>?_) (by omega)
     cases hc:jZ l n with
     | true =>
      (repeat refine zzC ?_)
      refine hnext _ _ ?_ (by omega) (hf2.mono (by omega)) e0 rfl
      rw[hbe,hc]; simp
     | false =>
      (repeat refine zzC ?_)
      exact hend _ _ h5 (.inl hlo) hc (by omega) rfl
    ·(have zy:=l7;repeat refine zzCz ?_)
     refine lN (fun hhi=>?_) (fun hhi=>?_)
     ·(have zy:=And.intro l7 lA;repeat refine zzCz ?_)
      refine hcnt _ e _ h5 (fun n2 hn2=>?_) (by omega)
      cases hc:jZ l n with
      | true =>
       (repeat refine zzC ?_)
       refine hnext _ _ ?_ (by omega) (hf2.mono (by omega)) e0 rfl
       rw[hbe,hc]; simp
      | false =>
       (repeat refine zzC ?_)
       exact hend _ _ h5 (.inr hhi) hc (by omega) rfl
     ·(repeat refine zzC ?_)
      refine hnext _ _ ?_ (by omega) (hf2.mono (by omega)) e0 rfl
      rw[hbe,decide_eq_false (show ¬ n.lo≠0 by omega),decide_eq_false (show ¬ n.hi≠-1 by omega)]; simp
   ·(repeat refine zzC ?_)
    refine hnext _ _ ?_ (by omega) (hf2.mono (by omega)) e0 rfl
    rw[hbe,decide_eq_false (show ¬ n.op=5 by omega)]; rfl
  ·(repeat refine zzC ?_)
   refine hx _ _ _ _ (fun e=>by cases e) (d3 (cU ?_))
   unfold vG
   refine⟨h,hs',kb hK ?_ (by omega)⟩
   rwa [List.take_of_length_le (by omega)] at hsh
def blC (l:List Bool):List (List Value):=l.map fun b:Bool=>[Value.bool b]
theorem oC (l:List Bool):(blC l).length=l.length:=by simp[blC]
theorem aNt {l:List Bool}{i:Nat} (hi:i < l.length):(blC l)[i]?=some [.bool l[i]]:=by simp[blC,hi]
theorem aCv (l:List Bool):(blC l).flatten=l.map Value.bool:=by
 induction l with
 | nil=>rfl
 | cons b r ih=>simp only[blC,List.map_cons,List.flatten_cons] at ih ⊢; rw[ih]; rfl
def ZB (ro:Ro) (h:T Obj) (v:Value) (l:List Bool):Prop:=Sl ro h v 1 (blC l)
section
variable {ro:Ro}{h h':T Obj}{v:Value}{l:List Bool}
theorem ZB.sub (hs:aU h h') (hl:ZB ro h v l):ZB ro h' v l:=Sl.sub hs hl
theorem ZB.len (hl:ZB ro h v l):bM v=some (.int .i64 l.length):=by have:=Sl.len hl; rwa [oC] at this
theorem ZB.ix (hl:ZB ro h v l) (k:IntKind) {i:Nat} (hi:i < l.length):cD 1 v (.int k (i:Int))=some (fH 1 v i):=Sl.ix hl k (by rw[oC]; exact hi)
theorem ZB.load (hl:ZB ro h v l) {i:Nat} (hi:i < l.length):load1 ro h (fH 1 v i)=some (.bool l[i]):=Sl.load1 hl (aNt hi)
end
theorem aUR {h:T Obj}{v:Value}{l:List Bool}{lo i:Nat}{b:Bool} (ho:bL h v 1 kM (blC l) lo) (hi:i < l.length):∃ h',bH 1 h (fH 1 v i) (.bool b)=some h'∧bL h' v 1 kM (blC (l.set i b)) lo∧Kp v h h'∧∀ n,Fr h n→Fr h' n:=by
 rcases ho with ⟨_,h1⟩ | ⟨id,h1,rfl,h2,h3⟩
 ·have:=congrArg List.length h1
  rw[oC,List.length_nil] at this
  omega
 ·have hel:fH 1 (.slice (some (own id 1)) (blC l).length (blC l).length) i=at_ id (0+i*1) 0:=rfl
  rw[aCv] at h3
  have hst:=cE (z:=0) (off:=0+i*1) (v:=.bool b) h3 (by rw[List.length_map]; omega) rfl rfl
  refine⟨_,by rw[hel]; exact hst,.inr ⟨id,h1,?_,?_,?_⟩,fun k o hk hne=>?_,fun n hf=>hf.upd (Nat.le_refl _) (hf.lt' h3)⟩
  ·rw[oC,oC,List.length_set]
  ·intro x hx
   unfold blC at hx
   obtain⟨b,_,rfl⟩:=List.mem_map.1 hx
   rfl
  ·show (h.upd id _).get id=_
   rw[T.get_upd_same,aCv,List.map_set,show 0+i*1=i by omega]
  ·rw[T.get_upd_ne _ _ (fun e=>hne (by rw[e]; rfl))]; exact hk
theorem aOc:gG Tryz.prog sW=some (.slice kM):=by kernel_rfl
theorem aSx:∃ i,tin Tryz.prog kM=some i∧i.size=1∧i.bytes=1:=aG8 (by kernel_rfl)
theorem aTM:i8 Tryz.prog kM=some (.bool false):=by kernel_rfl
theorem aJB:∀ n:Nat,vZ [.bool false] n=List.replicate n (Value.bool false)
 | 0=>rfl
 | n+1=>by
  have:=aJB n
  simp only[vZ,this,List.replicate_succ]; rfl
theorem aTs {aid n:Nat} (h0:1≤n) (h1:n≤1000001):aBu Tryz.prog sW aid (.int .i64 (n:Int)) (.int .i64 (n:Int))=some (.slice (some (own aid 1)) n n,some (.cells (List.replicate n (Value.bool false)).toArray kM)):=by
 obtain⟨i,g1,g2,g3⟩:=aSx
 have hb:Nat.ble (n*1) oB=true:=Nat.ble_eq_true_of_le (by unfold oB; omega)
 have e1:decide ((0:Int)≤(n:Int))=true:=by simp
 have e2:decide ((n:Int)≤(n:Int))=true:=by simp
 have e3:decide ((n:Int)≤70368744177664)=true:=by simp; omega
 have hz:aH5 Tryz.prog kM n=some (List.replicate n (Value.bool false)):=by
  obtain⟨m,rfl⟩:∃ m,n=m+1:=⟨n - 1,by omega⟩
  have hs:pD Tryz.prog kM=some 1:=by kernel_rfl
  unfold aH5
  simp only[aTM,hs,Option.bind_some]
  have h3:Nat.beq (Value.cells (.bool false)).size 1=true:=rfl
  have h4:Nat.blt 0 1=true:=rfl
  rw[h3,h4]
  simp only
  rw[← aJB]; rfl
 unfold aBu
 simp only[aOc,e1,e2,g1,Option.bind_some,g3,Int.toNat_natCast,hb,e3,hz,g2]
theorem vF {ro:Ro}{s:ByteArray} (hw:(iC s).length≤1000000) {h:T Obj}{nx:Nat}{K:KV} (hf:Fr h nx) (hK:∀ r h' nx',nx≤nx'→aU h h'→Fr h' nx'→bL h' r 1 kM (blC (o8 (iC s))) nx→K r h' nx'):aN Tryz.prog ro nP [.string s] h nx K:=by
 apply aF5
 unfold aDb
 have hls:=uX s
 (have zy:=hls;repeat refine zzCz ?_)
 have hmk:=aTs (aid:=nx+4) (n:=(iC s).length+1) (by omega) (by omega)
 refine aB (by rw[← hmk]; rfl) ?_
 refine aF ?_
 refine⟨_,aU.refl _,hK _ _ _ (by omega) ((aU.refl h).new hf (by omega)) ((hf.mono (show nx≤nx+6 by omega)).upd (Nat.le_refl _) (by omega)) (.inr ⟨nx+4,by omega,?_,?_,?_⟩)⟩
 ·rw[oC]; simp[o8]
 ·intro x hx
  unfold blC at hx
  obtain⟨b,_,rfl⟩:=List.mem_map.1 hx
  rfl
 ·rw[T.get_upd_same,aCv]
  unfold o8
  rw[List.map_replicate]
theorem aGe {s:Nat}{w:List Nat}{x:List Bool} (hx:x.length=w.length+1):(aD1 s w x).length=w.length+1:=(aL3 s w x hx).1
def aF2 (s:Nat) (w:List Nat) (x:List Bool) (k:Nat):List Bool:=(aD1 s w x).take (k+1)++List.replicate (w.length - k) false
theorem aPh {s:Nat}{w:List Nat}{x:List Bool}:aF2 s w x 0=o8 w:=by
 unfold aF2 aD1 o8
 simp[List.replicate_succ]
theorem aSE {s:Nat}{w:List Nat}{x:List Bool} (hx:x.length=w.length+1):aF2 s w x w.length=aD1 s w x:=by
 unfold aF2
 rw[List.take_of_length_le (by rw[aGe hx]; omega)]; simp
theorem aL1 {s:Nat}{w:List Nat}{x:List Bool} (hx:x.length=w.length+1) {k:Nat} (hk:k≤w.length):(aF2 s w x k).length=w.length+1:=by
 unfold aF2
 rw[List.length_append,List.length_take,aGe hx,List.length_replicate]
 omega
theorem aPg {s:Nat}{w:List Nat}{x:List Bool} (hx:x.length=w.length+1) {k:Nat} (hk:k < w.length):aF2 s w x (k+1)=if (x[k]&&s.testBit w[k])=true then (aF2 s w x k).set (k+1) true else aF2 s w x k:=by
 have hl:=aGe (s:=s) hx
 have hg:(aD1 s w x)[k+1]'(by omega)=(x[k]&&s.testBit w[k]):=by unfold aD1; simp
 unfold aF2
 rw[List.take_succ_eq_append_getElem (show k+1 < (aD1 s w x).length by omega),hg]
 have e:w.length - k=(w.length - (k+1))+1:=by omega
 rw[e,List.replicate_succ]
 have ht:((aD1 s w x).take (k+1)).length=k+1:=by rw[List.length_take]; omega
 split
 ·rename_i hb
  rw[hb,List.set_append_right _ _ (by omega),ht,Nat.sub_self]
  simp
 ·rename_i hb
  have:(x[k]&&s.testBit w[k])=false:=by simpa using hb
  rw[this]
  simp
set_option maxRecDepth 4000 in
set_option maxHeartbeats 2000000 in
theorem aLt {ro:Ro}{s:ByteArray}{m:Nat}{x:List Bool}{xv:Value} (hm:m < 2 ^ 256) (hw:(iC s).length≤1000000) (hx:x.length=(iC s).length+1) {h:T Obj}{nx:Nat}{K:KV} (hf:Fr h nx) (hxv:ZB ro h xv x)
  (hK:∀ r h' nx',nx≤nx'→aU h h'→Fr h' nx'→ZB ro h' r (aD1 m (iC s) x)→K r h' nx'):aN Tryz.prog ro aAc [qV m,.string s,xv] h nx K:=by
 apply aJs
 unfold aIj
 refine fV hf (Nat.le_refl _) fun h1 hs1 hf1 g1 _=>?_
 refine vF hw (hf1.mono (by omega)) fun r h2 n2 hn2 hs2 hf2 ho=>?_
 rw[← aPh (s:=m) (x:=x)] at ho
 have hls:=uX s
 refine bD (fun j e h' nx'=>∃ k:Nat,k+j=(iC s).length∧n2≤nx'∧e 1=.string s∧e 2=xv∧e 3=ptr nx∧e 7=r∧e 8=.int .i64 k∧Fr h' nx'∧aU h1 h'∧bL h' r 1 kM (blC (aF2 m (iC s) x k)) (nx+4)) ?_ (n:=(iC s).length) ⟨0,by omega,by omega,rfl,rfl,rfl,rfl,rfl,hf2.mono (by omega),hs2,ho⟩
 rintro j e h' nx' ⟨k,hkj,hnx,e1,e2,e3,e7,e8,hf',hs',ho'⟩ Q' hq hx'
 unfold aDa
 rw[e1,e2,e3,e7,e8]
 (have zy:=hls;repeat refine zzCz ?_)
 refine cM (fun hi=>?_) (fun hi=>?_)
 ·have hi:k < (iC s).length:=by omega
  have y1:=(hxv.sub (hs1.trans hs')).ix .i64 (show k < x.length by omega)
  have y2:=(hxv.sub (hs1.trans hs')).load (show k < x.length by omega)
  have y3:=aIY (k:=.i64) hi
  have g1':=hs' _ _ g1
  have lA:=bX (ro:=ro) (z:=0) (n:=4) (l:=gA m) g1' rfl
  have hstep:=aPg (s:=m) hx hi
  have hnext:∀ (e':dF) h3 n,nx'≤n→bL h3 r 1 kM (blC (aF2 m (iC s) x (k+1))) (nx+4)→Fr h3 n→aU h1 h3→e' 1=.string s→e' 2=xv→e' 3=ptr nx→e' 7=r→e' 8=.int .i64 k→tS ro Q' e' h3 n:=fun e' h3 n hn ho3 hf3 hs3 q1 q2 q3 q7 q8=>by
   unfold tS
   rw[q8]
   (repeat refine zzC ?_)
   exact hq (j - 1) _ _ _ _ (by omega) ⟨k+1,by omega,by omega,q1,q2,q3,q7,rfl,hf3.mono (by omega),hs3,ho3⟩ (aU.refl _)
  have hb256:=aMf (s:=s) _ (List.getElem_mem hi)
  generalize (iC s)[k]=b at y3 hstep hb256
  (have zy:=And.intro y1 y2;repeat refine zzCz ?_)
  cases hxk:x[k] with
  | true =>
   rw[hxk] at hstep
   (have zy:=And.intro lA y3;repeat refine zzCz ?_)
   refine pY hb256 (hf'.mono (by omega)) fun n3 hn3=>?_
   cases hbt:m.testBit b with
   | true =>
    rw[hbt] at hstep
    (repeat refine zzC ?_)
    have y4:=(ho'.sl (ro:=ro)).ix .i64 (i:=k+1) (by rw[oC,aL1 hx (by omega)]; omega)
    obtain⟨h3,w1,w2,w3,w4⟩:=aUR (b:=true) ho' (i:=k+1) (by rw[aL1 hx (by omega)]; omega)
    refine aB y4 (aB w1 ?_)
    rw[if_pos (show (true&&true)=true from rfl)] at hstep
    exact hnext _ _ _ (by omega) (by rw[hstep]; exact w2) (w4 _ (hf'.mono (by omega))) (ho'.sub w3 hf1 (by omega) hs') e1 e2 e3 e7 e8
   | false =>
    rw[hbt] at hstep
    (repeat refine zzC ?_)
    rw[if_neg (show ¬ (true&&false)=true by decide)] at hstep
    exact hnext _ _ _ (by omega) (by rw[hstep]; exact ho') (hf'.mono (by omega)) hs' e1 e2 e3 e7 e8
  | false =>
   rw[hxk] at hstep
   (repeat refine zzC ?_)
   rw[if_neg (show ¬ (false&&m.testBit b)=true by simp)] at hstep
   exact hnext _ _ _ (by omega) (by rw[hstep]; exact ho') (hf'.mono (by omega)) hs' e1 e2 e3 e7 e8
 ·(repeat refine zzC ?_)
  refine hx' _ _ _ _ (fun e=>by cases e) (d3 (cU ?_))
  unfold zT
  show ∃ h5,aU h5 h'∧K (e 7) h5 _
  rw[e7]
  have:k=(iC s).length:=by omega
  subst this
  rw[aSE hx] at ho'
  exact⟨h',aU.refl _,hK _ _ _ (by omega) (hs1.trans hs') (hf'.mono (by omega)) ho'.sl⟩
def orK (a b:List Bool) (k:Nat):List Bool:=(orL a b).take k++a.drop k
theorem aSJ {a b:List Bool} (hl:a.length=b.length) {k:Nat} (hk:k < a.length):orK a b (k+1)=(orK a b k).set k (a[k] || b[k]'(by omega))∧(orK a b k)[k]?=some a[k]:=by
 have ho:=tO (x:=a) (y:=b) (n:=a.length) rfl hl.symm
 have hg:(orL a b)[k]'(by omega)=(a[k] || b[k]'(by omega)):=by unfold orL; simp
 have ht:((orL a b).take k).length=k:=by rw[List.length_take]; omega
 unfold orK
 rw[List.take_succ_eq_append_getElem (show k < (orL a b).length by omega),hg,List.drop_eq_getElem_cons hk]
 refine⟨?_,?_⟩
 ·rw[List.set_append_right _ _ (by omega),ht,Nat.sub_self,List.set_cons_zero,List.append_assoc,List.singleton_append]
 ·rw[List.getElem?_append_right (by omega),ht,Nat.sub_self]
  simp
theorem aUN {a b:List Bool} (hl:a.length=b.length) (k:Nat):(orK a b k).length=a.length:=by
 have ho:=tO (x:=a) (y:=b) (n:=a.length) rfl hl.symm
 unfold orK
 rw[List.length_append,List.length_take,List.length_drop]
 omega
theorem aUM {a b:List Bool} (hl:a.length=b.length):orK a b a.length=orL a b:=by
 have ho:=tO (x:=a) (y:=b) (n:=a.length) rfl hl.symm
 unfold orK
 rw[List.take_of_length_le (by omega)]; simp
theorem aTl (aid:Nat):bC Tryz.prog sW aid 0 []=some (.slice (some (own aid 1)) 0 0,some (.cells #[] kM)):=by kernel_rfl
theorem aVO (l:List Bool):(blC l).flatten.all bV=true:=by
 rw[aCv,List.all_eq_true]
 intro x hx
 obtain⟨b,_,rfl⟩:=List.mem_map.1 hx
 rfl
set_option maxRecDepth 4000 in
set_option maxHeartbeats 2000000 in
theorem aGy {ro:Ro}{a b:List Bool}{av bv:Value} (hl:a.length=b.length) (hb:a.length≤1000001) {h:T Obj}{nx:Nat}{K:KV} (hf:Fr h nx) (ha:ZB ro h av a) (hbv:ZB ro h bv b)
  (hK:∀ r h' nx',nx≤nx'→aU h h'→Fr h' nx'→ZB ro h' r (orL a b)→K r h' nx'):aN Tryz.prog ro uQ [av,bv] h nx K:=by
 apply aLv
 unfold aLu
 refine aB (aTl _) (aF ?_)
 generalize hh1:h.upd (nx+1) (some (.cells #[] kM))=h1
 have hs1:aU h h1:=by rw[← hh1]; exact (aU.refl h).new hf (by omega)
 have hf1:Fr h1 (nx+4):=by rw[← hh1]; exact (hf.mono (by omega)).upd (Nat.le_refl _) (by omega)
 have ho1:bL h1 (.slice (some (own (nx+1) 1)) 0 0) 1 kM (blC []) (nx+1):=.inr ⟨nx+1,Nat.le_refl _,rfl,by simp[blC],by rw[← hh1]; exact T.get_upd_same _ _ _⟩
 obtain⟨i,t1,t2,t3⟩:=aSx
 obtain⟨r,h2,n2,q1,q2,q3,q4,q5,q6⟩:=aFq (ro:=ro) (P:=Tryz.prog) (t:=sW) (nx:=nx+4) ho1 (ha.sub hs1) aOc t1 (by omega) (by omega) aTM rfl (aVO a) (by rw[t3,oC,oC]; simp only[List.length_nil]; unfold oB; omega) (by rw[oC,oC]; simp only[List.length_nil]; unfold oB; omega) (by omega) hf1
 have hs2:aU h h2:=ho1.sub q3 hf (by omega) hs1
 have hbl:∀ h',aU h h'→bM bv=some (.int .i64 b.length):=fun _ _=>hbv.len
 have hbl:=hbv.len
 have ho2:bL h2 r 1 kM (blC (orK a b 0)) (nx+1):=by
  have e:orK a b 0=a:=by simp[orK]
  rw[e]
  simpa [blC] using q2
 refine aB q1 ?_
 dsimp only
 refine bD (fun j e h' nx'=>∃ k:Nat,k+j=b.length∧n2≤nx'∧e 1=bv∧e 5=r∧e 6=.int .i64 k∧Fr h' nx'∧aU h h'∧bL h' r 1 kM (blC (orK a b k)) (nx+1)) ?_ (n:=b.length) ⟨0,by omega,by omega,rfl,rfl,rfl,q5.mono (by omega),hs2,ho2⟩
 rintro j e h' nx' ⟨k,hkj,hnx,e1,e5,e6,hf',hs',ho'⟩ Q' hq hx
 unfold aFH
 rw[e1,e5,e6]
 (have zy:=hbl;repeat refine zzCz ?_)
 refine cM (fun hi=>?_) (fun hi=>?_)
 ·have hi:k < b.length:=by omega
  obtain⟨s1,s2⟩:=aSJ hl (show k < a.length by omega)
  have sl:=aUN hl k
  have y1:=(ho'.sl (ro:=ro)).ix .i64 (i:=k) (by rw[oC]; omega)
  have y2:load1 ro h' (fH 1 r k)=some (.bool (a[k]'(by omega))):=by
   have hg:=aNt (l:=orK a b k) (i:=k) (by omega)
   have:=(ho'.sl (ro:=ro)).load1 hg
   rw[this]
   rw[List.getElem?_eq_getElem (by omega)] at s2
   rw[Option.some.inj s2]
  have y3:=(hbv.sub hs').ix .i64 hi
  have y4:=(hbv.sub hs').load hi
  have hfin:∀ (e':dF) (c:Bool) h3 n,(orK a b k).set k c=orK a b (k+1)→bH 1 h' (fH 1 r k) (.bool c)=some h3→nx'≤n→e' 1=bv→e' 5=r→e' 6=.int .i64 ((k:Int)+1)→Q' .normal e' h3 n:=fun e' c h3 n hc hst hn p1 p5 p6=>by
   obtain⟨h4,w1,w2,w3,w4⟩:=aUR (b:=c) ho' (i:=k) (by omega)
   rw[hst] at w1
   cases w1
   rw[hc] at w2
   exact hq (j - 1) _ _ _ _ (by omega) ⟨k+1,by omega,by omega,p1,p5,p6,w4 _ (hf'.mono (by omega)),ho'.sub w3 hf (by omega) hs',w2⟩ (aU.refl _)
  (have zy:=And.intro y1 y2;repeat refine zzCz ?_)
  generalize a[k]=ak at *
  generalize b[k]=bk at *
  obtain⟨h4,w1,-,-,-⟩:=aUR (b:=ak || bk) ho' (i:=k) (by omega)
  cases ak with
  | true =>
   (have zy:=y1;repeat refine zzCz ?_)
   refine aB w1 ?_
   (repeat refine zzC ?_)
   exact hfin _ _ _ _ s1.symm w1 (by omega) e1 e5 rfl
  | false =>
   rw[Bool.false_or] at s1 w1
   (have zy:=And.intro y3 (And.intro y4 y1);repeat refine zzCz ?_)
   refine aB w1 ?_
   (repeat refine zzC ?_)
   exact hfin _ _ _ _ s1.symm w1 (by omega) e1 e5 rfl
 ·(repeat refine zzC ?_)
  refine hx _ _ _ _ (fun e=>by cases e) (d3 (cU ?_))
  unfold aAs
  show ∃ h4,aU h4 h'∧K (e 5) h4 _
  rw[e5]
  have:k=a.length:=by omega
  subst this
  rw[aUM hl] at ho'
  exact⟨h',aU.refl _,hK _ _ _ (by omega) hs' (hf'.mono (by omega)) ho'.sl⟩
set_option maxRecDepth 4000 in
set_option maxHeartbeats 2000000 in
theorem aDe {ro:Ro}{a b:List Bool}{av bv:Value} (hl:a.length=b.length) (hb:a.length≤1000001) {h:T Obj}{nx:Nat}{K:KV} (ha:ZB ro h av a) (hbv:ZB ro h bv b)
  (hK:∀ nx',nx≤nx'→K (.bool (decide (a=b))) h nx'):aN Tryz.prog ro qO [av,bv] h nx K:=by
 apply aHr
 unfold aGz
 have hal:=ha.len
 refine bD (fun j e h' nx'=>∃ k:Nat,k+j=a.length∧nx≤nx'∧e 0=av∧e 1=bv∧e 5=.int .i64 k∧h'=h∧∀ i,i < k→a[i]?=b[i]?) ?_ (n:=a.length) ⟨0,by omega,by omega,rfl,rfl,rfl,rfl,fun i hi=>by omega⟩
 rintro j e h' nx' ⟨k,hkj,hnx,e0,e1,e5,rfl,hall⟩ Q' hq hx
 unfold aCH
 rw[e0,e1,e5]
 (have zy:=hal;repeat refine zzCz ?_)
 refine cM (fun hi=>?_) (fun hi=>?_)
 ·have hi:k < a.length:=by omega
  have y1:=ha.ix .i64 hi
  have y2:=ha.load hi
  have y3:=hbv.ix .i64 (show k < b.length by omega)
  have y4:=hbv.load (show k < b.length by omega)
  (have zy:=And.intro y1 (And.intro y2 (And.intro y3 y4));repeat refine zzCz ?_)
  by_cases hab:a[k]=b[k]
  ·have hq1:(!(a[k]==b[k]))=false:=by rw[hab]; simp
   rw[hq1]
   (repeat refine zzC ?_)
   refine hq (j - 1) _ _ _ _ (by omega) ⟨k+1,by omega,by omega,e0,e1,rfl,rfl,fun i hik=>?_⟩ (aU.refl _)
   by_cases hi2:i < k
   ·exact hall i hi2
   ·have:i=k:=by omega
    subst this
    rw[List.getElem?_eq_getElem hi,List.getElem?_eq_getElem (show i < b.length by omega),hab]
  ·have hq1:(!(a[k]==b[k]))=true:=by simpa using hab
   rw[hq1]
   (repeat refine zzC ?_)
   refine hx _ _ _ _ (fun e=>by cases e) (kW ?_)
   refine⟨h',aU.refl _,kb hK (decide_eq_false fun e=>hab ?_) (by omega)⟩
   subst e; rfl
 ·(repeat refine zzC ?_)
  refine hx _ _ _ _ (fun e=>by cases e) (d3 (cU ?_))
  unfold xW
  refine⟨h',aU.refl _,kb hK (decide_eq_true ?_) (by omega)⟩
  refine List.ext_getElem? fun i=>?_
  by_cases hi2:i < k
  ·exact hall i hi2
  ·rw[List.getElem?_eq_none (by omega),List.getElem?_eq_none (by omega)]
theorem aPy (f:List Bool→List Bool) (n:Nat) (x:List Bool):aE1 f (n+1) x=if f x=x then x else aE1 f n (f x):=rfl
theorem aPz (f:List Bool→List Bool) (hi:Int) (m:Nat) (i:Int) (x out:List Bool):aHG f hi (m+1) i x out=if i < hi∨hi=-1 then (if orL out (f x)=out then out else aHG f hi m (i+1) (f x) (orL out (f x))) else out:=rfl
def aNo (ro:Ro) (h0:T Obj) (v:Value) (s:ByteArray) (k:Int) (f:List Bool→List Bool):Prop:=∀ (x:List Bool) (xv:Value) (h:T Obj) (nx:Nat) (K:KV),x.length=(iC s).length+1→aU h0 h→Fr h nx→ZB ro h xv x →
 (∀ r h' nx',nx≤nx'→aU h h'→Fr h' nx'→ZB ro h' r (f x)→K r h' nx')→aN Tryz.prog ro iW [v,.int .i64 k,.string s,xv] h nx K
set_option maxRecDepth 4000 in
set_option maxHeartbeats 2000000 in
theorem aVp {ro:Ro}{s:ByteArray}{v lv yv:Value}{n:NodeD}{k:Int}{f:List Bool→List Bool}{y:List Bool}{h0 h:T Obj}{nx p n0:Nat}{K:KV}{e:dF} (hw:(iC s).length≤1000000) (hkid:aNo ro h0 v s k f) (hlen:∀ x,x.length=(iC s).length+1→(f x).length=(iC s).length+1) (hlo:0≤n.lo) (hlo2:n.lo≤4096)
  (hs:aU h0 h) (hf:Fr h nx) (hn0:n0≤nx) (g:h.get p=some (.cells (pO n lv).toArray dH)) (hn:ZI ro h0 lv n.l) (hl1:n.l=[k]) (hy:y.length=(iC s).length+1) (hyv:ZB ro h yv y) (e0:e 0=v) (e2:e 2=.string s) (e3:e 3=yv) (e5:e 5=ptr p)
  (hK:∀ r h' nx',n0≤nx'→aU h h'→Fr h' nx'→ZB ro h' r (aHG f n.hi (oO y+1) n.lo y y)→K r h' nx'):tT ro K e h nx:=by
 unfold tT
 rw[e3,e5]
 obtain⟨g0,g5,g6,g7,g8⟩:=o7 n lv
 have l6:=bE (ro:=ro) (z:=0) g g6
 (have zy:=l6;repeat refine zzCz ?_)
 generalize hZ:aHG f n.hi (oO y+1) n.lo y y=Z at hK
 have hfl:oO y≤1000001:=by unfold oO; exact Nat.le_trans List.count_le_length (by omega)
 refine bD (fun m e h' nx'=>∃ (i:Int) (c o:List Bool) (cv ov:Value),n0≤nx'∧e 0=v∧e 2=.string s∧e 3=cv∧e 5=ptr p∧e 11=ov∧e 12=.int .i64 i∧aU h h'∧Fr h' nx'∧c.length=(iC s).length+1∧o.length=(iC s).length+1∧ZB ro h' cv c∧ZB ro h' ov o∧0≤i∧i+m≤n.lo+(oO y+1)∧oO o < m ∧
   Z=aHG f n.hi m i c o) ?_ (n:=oO y+1)
  ⟨n.lo,y,y,yv,yv,by omega,e0,e2,e3,e5,rfl,rfl,aU.refl _,hf.mono (by omega),hy,hy,hyv,hyv,hlo,by omega,Nat.lt_succ_self _,hZ.symm⟩
 rintro m e h' nx' ⟨i,c,o,cv,ov,hnx,e0,e2,e3,e5,e11,e12,hs',hf',hc,ho,hcv,hov,hi0,him,hfo,hr⟩ Q' hq hx
 unfold aDc
 rw[e0,e2,e3,e5,e11,e12]
 have g':=hs' _ _ g
 have l5:=bE (ro:=ro) (z:=0) g' g5
 have l7:=bE (ro:=ro) (z:=0) g' g7
 have hz:=hn.sub (hs.trans hs')
 have y1:=hz.ix .i64 (i:=0) (by rw[hl1]; simp)
 have y2:=hz.load (i:=0) (by rw[hl1]; simp)
 have y3:n.l[0]'(by rw[hl1]; simp)=k:=by simp[hl1]
 rw[y3] at y2
 have y1':cD 1 lv (.int .i64 0)=some (fH 1 lv 0):=y1
 obtain⟨m,rfl⟩:∃ m',m=m'+1:=⟨m - 1,by omega⟩
 rw[aPz] at hr
 have hend:∀ (e':dF) h2 n2,(if i < n.hi∨n.hi=-1 then (if orL o (f c)=o then o else aHG f n.hi m (i+1) (f c) (orL o (f c))) else o)=o→aU h' h2→Fr h2 n2→n0≤n2→e' 11=ov→Q' (.exit 2) e' h2 n2:=fun e' h2 n2 hq2 hs2 hf2 hn2 q11=>by
  refine hx _ _ _ _ (fun e=>by cases e) (d3 (cU ?_))
  unfold zU
  show ∃ h3,aU h3 h2∧K (e' 11) h3 _
  rw[q11]
  rw[hq2] at hr
  exact⟨h2,aU.refl _,hK _ _ _ (by omega) (hs'.trans hs2) (hf2.mono (by omega)) (by rw[hr]; exact hov.sub hs2)⟩
 by_cases hcond:i < n.hi∨n.hi=-1
 ·rw[if_pos hcond] at hr hend
  have hgo:∀ (e':dF) h2 n2 r r2,orL o (f c)≠o→aU h' h2→Fr h2 n2→n0≤n2→ZB ro h2 r (f c)→ZB ro h2 r2 (orL o (f c))→e' 0=v→e' 2=.string s→e' 3=r→e' 5=ptr p→e' 11=r2→e' 12=.int .i64 (i+1)→Q' .normal e' h2 n2:=fun e' h2 n2 r r2 hne hs2 hf2 hn2 z1 z2 q0 q2 q3 q5 q11 q12=>by
   rw[if_neg hne] at hr
   have hfc:=hlen c hc
   have hlt:=(aIT (x:=o) (y:=f c) (by rw[ho,hfc])).2 hne
   exact hq m _ _ _ _ (by omega) ⟨i+1,f c,orL o (f c),r,r2,hn2,q0,q2,q3,q5,q11,q12,hs'.trans hs2,hf2,hfc,tO ho hfc,z1,z2,by omega,by omega,by omega,hr⟩ (aU.refl _)
  have hcall:∀ n3 (K3:KV),nx'≤n3→(∀ r h2 n2,n3≤n2→aU h' h2→Fr h2 n2→ZB ro h2 r (f c)→K3 r h2 n2)→aN Tryz.prog ro iW [v,.int .i64 k,.string s,cv] h' n3 K3:=fun n3 K3 hn3 hk3=>hkid c cv h' n3 K3 hc (hs.trans hs') (hf'.mono hn3) hcv hk3
  have hfc:=hlen c hc
  have hbo:o.length≤1000001:=by omega
  have tail:∀ n3 (K3:Value→Value→Value→T Obj→Nat→Prop),nx'≤n3→(∀ r r2 h2 n2,n3≤n2→aU h' h2→Fr h2 n2→ZB ro h2 r (f c)→ZB ro h2 r2 (orL o (f c))→K3 r r2 (.bool (decide (orL o (f c)=o))) h2 n2) →
    aN Tryz.prog ro iW [v,.int .i64 k,.string s,cv] h' n3 fun t53 h29 n30=>aN Tryz.prog ro uQ [ov,t53] h29 (n30+4) fun t56 h32 n33=>aN Tryz.prog ro qO [t56,ov] h32 (n33+4) fun t59 h35 n36=>K3 t53 t56 t59 h35 n36:=fun n3 K3 hn3 hk3=>by
   refine hcall n3 _ hn3 fun r h2 n2 hn2 hs2 hf2 z1=>?_
   refine aGy (a:=o) (b:=f c) (by omega) hbo (hf2.mono (by omega)) (hov.sub hs2) z1 fun r2 h3 n3 hn3 hs3 hf3 z2=>?_
   refine aDe (a:=orL o (f c)) (b:=o) (by rw[tO rfl (by omega)]) (by rw[tO (n:=o.length) rfl (by omega)]; exact hbo) z2 (hov.sub (hs2.trans hs3)) fun n4 hn4=>?_
   exact hk3 r r2 h3 n4 (by omega) (hs2.trans hs3) (hf3.mono (by omega)) (z1.sub hs3) z2
  have e0':=e0
  (have zy:=l7;repeat refine zzCz ?_)
  refine cM (fun hih=>?_) (fun hih=>?_)
  rotate_left
  ·(have zy:=And.intro l7 (And.intro l5 (And.intro y1' y2));repeat refine zzCz ?_)
   refine tail _ (fun t53 t56 t59 h35 n36=>aV t59 _ _) (by omega) fun r r2 h2 n2 hn2 hs2 hf2 z1 z2=>?_
   by_cases hso:orL o (f c)=o
   ·rw[decide_eq_true hso]
    (repeat refine zzC ?_)
    exact hend _ _ _ (by rw[if_pos hso]) hs2 hf2 (by omega) e11
   ·rw[decide_eq_false hso]
    (repeat refine zzC ?_)
    exact hgo _ _ _ r r2 hso hs2 (hf2.mono (by omega)) (by omega) z1 z2 e0 e2 rfl e5 rfl rfl
  ·(have zy:=And.intro l5 (And.intro y1' y2);repeat refine zzCz ?_)
   refine tail _ (fun t53 t56 t59 h35 n36=>aV t59 _ _) (by omega) fun r r2 h2 n2 hn2 hs2 hf2 z1 z2=>?_
   by_cases hso:orL o (f c)=o
   ·rw[decide_eq_true hso]
    (repeat refine zzC ?_)
    exact hend _ _ _ (by rw[if_pos hso]) hs2 hf2 (by omega) e11
   ·rw[decide_eq_false hso]
    (repeat refine zzC ?_)
    exact hgo _ _ _ r r2 hso hs2 (hf2.mono (by omega)) (by omega) z1 z2 e0 e2 rfl e5 rfl rfl
 ·rw[if_neg hcond] at hend
  (have zy:=l7;repeat refine zzCz ?_)
  exact hend _ _ _ rfl (aU.refl _) (hf'.mono (by omega)) (by omega) e11
set_option maxRecDepth 4000 in
set_option maxHeartbeats 2000000 in
theorem aLw {ro:Ro}{s:ByteArray}{v lv xv:Value}{n:NodeD}{k:Int}{f:List Bool→List Bool}{x:List Bool}{h0 h:T Obj}{nx:Nat}{K:KV} (hw:(iC s).length≤1000000) (hkid:aNo ro h0 v s k f) (hlen:∀ x,x.length=(iC s).length+1→(f x).length=(iC s).length+1) (hlo:0≤n.lo) (hlo2:n.lo≤4096)
  (hs:aU h0 h) (hf:Fr h nx) (hn:ZI ro h0 lv n.l) (hl1:n.l=[k]) (hx1:x.length=(iC s).length+1) (hxv:ZB ro h xv x)
  (hK:∀ r h' nx',nx≤nx'→aU h h'→Fr h' nx'→ZB ro h' r (aQA f n.lo n.hi x)→K r h' nx'):aN Tryz.prog ro aAd [v,.agg (pO n lv).toArray,.string s,xv] h nx K:=by
 apply aJt
 unfold aIk
 refine fV hf (Nat.le_refl _) fun h1 hs1 hf1 g1 _=>?_
 have g1:h1.get nx=some (.cells (pO n lv).toArray dH):=g1
 unfold aQA at hK
 obtain⟨g0,g5,g6,g7,g8⟩:=o7 n lv
 refine bD (fun m e h' nx'=>∃ (i:Int) (c:List Bool) (cv:Value),nx≤nx'∧e 0=v∧e 2=.string s∧e 3=cv∧e 5=ptr nx∧e 9=.int .i64 i∧aU h1 h'∧Fr h' nx'∧c.length=(iC s).length+1∧ZB ro h' cv c∧0≤i∧i+m=n.lo ∧
   aE1 f n.lo.toNat x=aE1 f m c) ?_ (n:=n.lo.toNat)
  ⟨0,x,xv,by omega,rfl,rfl,rfl,rfl,rfl,aU.refl _,hf1.mono (by omega),hx1,hxv.sub hs1,by omega,by omega,rfl⟩
 rintro m e h' nx' ⟨i,c,cv,hnx,e0,e2,e3,e5,e9,hs',hf',hc,hcv,hi0,him,hr⟩ Q' hq hx
 unfold aDd
 rw[e0,e2,e3,e5,e9]
 have g':=hs' _ _ g1
 have l5:=bE (ro:=ro) (z:=0) g' g5
 have l6:=bE (ro:=ro) (z:=0) g' g6
 have hz:=hn.sub (hs.trans (hs1.trans hs'))
 have y1:=hz.ix .i64 (i:=0) (by rw[hl1]; simp)
 have y2:=hz.load (i:=0) (by rw[hl1]; simp)
 have y3:n.l[0]'(by rw[hl1]; simp)=k:=by simp[hl1]
 rw[y3] at y2
 have y1':cD 1 lv (.int .i64 0)=some (fH 1 lv 0):=y1
 clear y3
 have hend:∀ (e':dF) h2 n2,aE1 f m c=c→aU h' h2→Fr h2 n2→nx≤n2→e' 0=v→e' 2=.string s→e' 3=cv→e' 5=ptr nx→Q' (.exit 0) e' h2 n2:=fun e' h2 n2 hq2 hs2 hf2 hn2 q0 q2 q3 q5=>by
  refine hx _ _ _ _ (fun e=>by cases e) (d3 (cU ?_))
  rw[hr,hq2] at hK
  exact aVp (n0:=nx) hw hkid hlen hlo hlo2 (hs.trans (hs1.trans (hs'.trans hs2))) hf2 hn2 (hs2 _ _ g') hn hl1 hc (hcv.sub hs2) q0 q2 q3 q5 fun r h3 n3 hn3 hs3 hf3 z3=>hK r h3 n3 hn3 (hs1.trans (hs'.trans (hs2.trans hs3))) hf3 z3
 cases m with
 | zero =>
  (have zy:=l6;repeat refine zzCz ?_)
  exact hend _ _ _ rfl (aU.refl _) (hf'.mono (by omega)) (by omega) e0 e2 e3 e5
 | succ m =>
  rw[aPy] at hr hend
  have hfc:=hlen c hc
  (have zy:=And.intro l6 (And.intro l5 (And.intro y1' y2));repeat refine zzCz ?_)
  refine hkid c cv h' _ _ hc (hs.trans (hs1.trans hs')) (hf'.mono (by omega)) hcv fun r h2 n2 hn2 hs2 hf2 z1=>?_
  refine aDe (a:=f c) (b:=c) (by omega) (by omega) z1 (hcv.sub hs2) fun n3 hn3=>?_
  by_cases hso:f c=c
  ·rw[decide_eq_true hso]
   (repeat refine zzC ?_)
   exact hend _ _ _ (by rw[if_pos hso]) hs2 (hf2.mono (by omega)) (by omega) e0 e2 e3 e5
  ·rw[decide_eq_false hso]
   rw[if_neg hso] at hr
   (repeat refine zzC ?_)
   exact hq m _ _ _ _ (by omega) ⟨i+1,f c,r,by omega,e0,e2,rfl,e5,rfl,hs'.trans hs2,hf2.mono (by omega),hfc,z1,by omega,by omega,hr⟩ (aU.refl _)
theorem aKk {l:List NodeD} (hlo:∀ n∈l,0≤n.lo) {w:List Nat}{n:Nat}{a:Int}{x:List Bool} (hx:x.length=w.length+1):(oX l w n a x).length=w.length+1:=(aEE hlo n a x hx).1
set_option maxRecDepth 4000 in
set_option maxHeartbeats 4000000 in
theorem aD9 {ro:Ro}{v:Value}{l:List NodeD}{s:ByteArray}{h0:T Obj} (hl:oV ro h0 v l) (hp:gV l=true) (hlo:∀ n∈l,0≤n.lo) (hw:(iC s).length≤1000000):∀ (n:Nat) (a:Int),0≤a→a < n→a < l.length→aNo ro h0 v s a (oX l (iC s) n a)
 | 0,a,_,_,_=>by omega
 | n+1,a,ha0,ha1,ha2=>by
  intro x xv h nx K hx1 hs hf hxv hK
  apply aHq
  unfold aGx
  obtain⟨lv,z1,z2,z3,z4,z5,z6,z7,_,_,z8⟩:=aDV (hl.sub hs) ha0 ha2
  obtain⟨lv0,z10,_⟩:=aDV hl ha0 ha2
  have hkids:=aFd hp ha0 ha2
  have hsh:=aBP hp (x:=a) (by omega)
  have ih:∀ k∈(bN l a).l,aNo ro h0 v s k (oX l (iC s) n k):=fun k hk=>aD9 hl hp hlo hw n k (hkids k hk).1 (by have:=(hkids k hk).2; omega) (by have:=(hkids k hk).2; omega)
  have hel:∀ k x,x.length=(iC s).length+1→(oX l (iC s) n k x).length=(iC s).length+1:=fun k x hx=>aKk hlo hx
  have hE:oX l (iC s) (n+1) a x=if (bN l a).op=2 then aD1 (bN l a).s (iC s) x
   else if (bN l a).op=3 then (bN l a).l.foldl (fun y k=>oX l (iC s) n k y) x
   else if (bN l a).op=4 then (bN l a).l.foldl (fun y k=>orL y (oX l (iC s) n k x)) (o8 (iC s))
   else if (bN l a).op=5 then aQA (oX l (iC s) n ((bN l a).l.headD 0)) (bN l a).lo (bN l a).hi x
   else x:=rfl
  rw[hE] at hK
  clear hE
  generalize bN l a=nd at *
  (have zy:=And.intro z4 z8;repeat refine zzCz ?_)
  refine gP (n:=9) (x:=pO nd lv) aH3 rfl rfl rfl (aJc z1.ok) hf (by omega) fun h1 hs1 hf1 g1 _=>?_
  obtain⟨g0,g5,g6,g7,g8⟩:=o7 nd lv
  have l0:=bE (ro:=ro) (z:=0) g1 g0
  have lA:=bX (ro:=ro) (z:=0) (n:=9) g1 rfl
  unfold aEN at z3
  have hset:loadA ro h1 4 (at_ (nx+5) 1 0)=some (qV nd.s):=by
   rw[cQ,g1]
   rfl
  by_cases o2:nd.op=2
  ·rw[if_pos o2] at hK
   (have zy:=And.intro l0 hset;repeat refine zzCz ?_)
   refine aLt z2 hw hx1 (hf1.mono (by omega)) (hxv.sub hs1) fun r h2 n2 hn2 hs2 hf2 z=>?_
   exact⟨h2,aU.refl _,hK _ _ _ (by omega) (hs1.trans hs2) (hf2.mono (by omega)) z⟩
  ·rw[if_neg o2] at hK
   by_cases o3:nd.op=3
   ·rw[if_pos o3] at hK
    (have zy:=l0;repeat refine zzCz ?_)
    refine bD (fun m e h' nx'=>∃ (i:Nat) (c:List Bool) (cv:Value),i+m=nd.l.length∧nx≤nx'∧e 0=v∧e 2=.string s∧e 3=cv∧e 9=at_ (nx+5) 0 0∧e 10=.int .i64 i∧aU h1 h'∧Fr h' nx'∧c.length=(iC s).length+1∧ZB ro h' cv c ∧
      nd.l.foldl (fun y k=>oX l (iC s) n k y) x=(nd.l.drop i).foldl (fun y k=>oX l (iC s) n k y) c) ?_ (n:=nd.l.length)
     ⟨0,x,xv,by omega,by omega,rfl,rfl,rfl,rfl,rfl,aU.refl _,hf1.mono (by omega),hx1,hxv.sub hs1,rfl⟩
    rintro m e h' nx' ⟨i,c,cv,him,hnx,e0,e2,e3,e9,e10,hs',hf',hc,hcv,hr⟩ Q' hq hx
    unfold aCF
    rw[e0,e2,e3,e9,e10]
    have l5:=bE (ro:=ro) (z:=0) (hs' _ _ g1) g5
    have zl:=z1.len
    (have zy:=And.intro l5 zl;repeat refine zzCz ?_)
    refine cM (fun hi=>?_) (fun hi=>?_)
    ·have hi:i < nd.l.length:=by omega
     have y1:=(z1.sub (hs1.trans hs')).ix .i64 hi
     have y2:=(z1.sub (hs1.trans hs')).load hi
     rw[cP hi,List.foldl_cons] at hr
     have ihk:=ih nd.l[i] (List.getElem_mem _)
     generalize nd.l[i]=k at *
     (have zy:=And.intro l5 (And.intro y1 y2);repeat refine zzCz ?_)
     refine ihk c cv h' _ _ hc (hs.trans (hs1.trans hs')) (hf'.mono (by omega)) hcv fun r h2 n2 hn2 hs2 hf2 z=>?_
     (repeat refine zzC ?_)
     exact hq (m - 1) _ _ _ _ (by omega) ⟨i+1,_,r,by omega,by omega,e0,e2,rfl,e9,rfl,hs'.trans hs2,hf2.mono (by omega),hel k c hc,z,hr⟩ (aU.refl _)
    ·rw[eO (by omega)] at hr
     (repeat refine zzC ?_)
     refine hx _ _ _ _ (fun e=>by cases e) (d3 (cU ?_))
     unfold kL
     show ∃ h6,aU h6 h'∧K (e 3) h6 _
     rw[e3]
     exact⟨h',aU.refl _,hK _ _ _ (by omega) (hs1.trans hs') (hf'.mono (by omega)) (by rw[hr]; exact hcv)⟩
   ·rw[if_neg o3] at hK
    by_cases o4:nd.op=4
    ·rw[if_pos o4] at hK
     (have zy:=l0;repeat refine zzCz ?_)
     refine vF hw (hf1.mono (by omega)) fun r0 h2 n2 hn2 hs2 hf2 zo=>?_
     refine bD (fun m e h' nx'=>∃ (i:Nat) (c:List Bool) (cv:Value),i+m=nd.l.length∧nx≤nx'∧e 0=v∧e 2=.string s∧e 3=xv∧e 9=at_ (nx+5) 0 0∧e 11=cv∧e 12=.int .i64 i∧aU h1 h'∧Fr h' nx'∧c.length=(iC s).length+1∧ZB ro h' cv c ∧
       nd.l.foldl (fun y k=>orL y (oX l (iC s) n k x)) (o8 (iC s))=(nd.l.drop i).foldl (fun y k=>orL y (oX l (iC s) n k x)) c) ?_ (n:=nd.l.length)
      ⟨0,_,r0,by omega,by omega,rfl,rfl,rfl,rfl,rfl,rfl,hs2,hf2.mono (by omega),by simp[o8],zo.sl,rfl⟩
     rintro m e h' nx' ⟨i,c,cv,him,hnx,e0,e2,e3,e9,e11,e12,hs',hf',hc,hcv,hr⟩ Q' hq hx
     unfold aCG
     rw[e0,e2,e3,e9,e11,e12]
     have l5:=bE (ro:=ro) (z:=0) (hs' _ _ g1) g5
     have zl:=z1.len
     (have zy:=And.intro l5 zl;repeat refine zzCz ?_)
     refine cM (fun hi=>?_) (fun hi=>?_)
     ·have hi:i < nd.l.length:=by omega
      have y1:=(z1.sub (hs1.trans hs')).ix .i64 hi
      have y2:=(z1.sub (hs1.trans hs')).load hi
      rw[cP hi,List.foldl_cons] at hr
      have ihk:=ih nd.l[i] (List.getElem_mem _)
      generalize nd.l[i]=k at *
      (have zy:=And.intro l5 (And.intro y1 y2);repeat refine zzCz ?_)
      refine ihk x xv h' _ _ hx1 (hs.trans (hs1.trans hs')) (hf'.mono (by omega)) (hxv.sub (hs1.trans hs')) fun r h3 n3 hn3 hs3 hf3 z=>?_
      have hlk:=hel k x hx1
      refine aGy (a:=c) (b:=oX l (iC s) n k x) (by omega) (by omega) (hf3.mono (by omega)) (hcv.sub hs3) z fun r2 h4 n4 hn4 hs4 hf4 z4=>?_
      (repeat refine zzC ?_)
      exact hq (m - 1) _ _ _ _ (by omega) ⟨i+1,_,r2,by omega,by omega,e0,e2,e3,e9,rfl,rfl,hs'.trans (hs3.trans hs4),hf4.mono (by omega),tO hc hlk,z4,hr⟩ (aU.refl _)
     ·rw[eO (by omega)] at hr
      (repeat refine zzC ?_)
      refine hx _ _ _ _ (fun e=>by cases e) (d3 (cU ?_))
      unfold xV
      show ∃ h6,aU h6 h'∧K (e 11) h6 _
      rw[e11]
      exact⟨h',aU.refl _,hK _ _ _ (by omega) (hs1.trans hs') (hf'.mono (by omega)) (by rw[hr]; exact hcv)⟩
    ·rw[if_neg o4] at hK
     by_cases o5:nd.op=5
     ·rw[if_pos o5] at hK
      unfold lF at hsh
      simp only[o5,Nat.reduceEqDiff,or_self,if_false,if_true,Bool.and_eq_true,decide_eq_true_eq] at hsh
      have hl1:=aFg hsh.2.2.1
      have ihk:=ih (nd.l.headD 0) (by rw[hl1]; simp)
      generalize nd.l.headD 0=k at *
      (have zy:=And.intro l0 lA;repeat refine zzCz ?_)
      refine aLw (h0:=h1) hw (fun x xv h nx K a1 a2 a3 a4 a5=>ihk x xv h nx K a1 (hs.trans (hs1.trans a2)) a3 a4 a5) (fun x hx=>hel k x hx) hsh.2.2.2.1 hsh.2.2.2.2.1 (aU.refl _) (hf1.mono (by omega)) (z1.sub hs1) hl1 hx1 (hxv.sub hs1) fun r h2 n2 hn2 hs2 hf2 z=>?_
      exact⟨h2,aU.refl _,hK _ _ _ (by omega) (hs1.trans hs2) (hf2.mono (by omega)) z⟩
     ·rw[if_neg o5] at hK
      (have zy:=l0;repeat refine zzCz ?_)
      unfold kL
      exact⟨h1,aU.refl _,hK _ _ _ (by omega) hs1 (hf1.mono (by omega)) (hxv.sub hs1)⟩
def aGV (x:List Bool) (k:Nat):List Int:=(List.range k).flatMap fun j:Nat=>if x[j]?=some true then [(j:Int)] else []
theorem aEK (x:List Bool) (k:Nat):aGV x (k+1)=aGV x k++(if x[k]?=some true then [(k:Int)] else []):=by simp[aGV,List.range_succ]
theorem aGW (x:List Bool):∀ k,(aGV x k).length≤k
 | 0=>by simp[aGV]
 | k+1=>by
  rw[aEK,List.length_append]
  have:=aGW x k
  split<;>simp<;>omega
theorem aLS {x:List Bool}{k:Nat}{y:Int}:y∈aGV x k ↔ ∃ j:Nat,j < k∧y=(j:Int)∧Has x j:=by
 unfold aGV Has
 rw[List.mem_flatMap]
 constructor
 ·rintro⟨j,h1,h2⟩
  split at h2
  ·rename_i h3
   exact⟨j,List.mem_range.1 h1,by simpa using h2,h3⟩
  ·cases h2
 ·rintro⟨j,h1,rfl,h3⟩
  exact⟨j,List.mem_range.2 h1,by rw[if_pos h3]; simp⟩
theorem aSf {b m:Int}:∀ {l:List Int}{a:Int}{x:Int},rz a m l=true→a < x→(∀ y∈l,y < x)→x < m→rz a m (l++[x])=true
 | [],a,x,_,h1,_,h2=>by rw[List.nil_append,iA]; simp only[Bool.and_eq_true,decide_eq_true_eq]; exact⟨h1,h2,rfl⟩
 | y::r,a,x,h,h1,h2,h3=>by
  rw[iA] at h
  simp only[Bool.and_eq_true,decide_eq_true_eq] at h
  rw[List.cons_append,iA]
  simp only[Bool.and_eq_true,decide_eq_true_eq]
  exact⟨h.1,h.2.1,aSf (b:=b) h.2.2 (h2 y (by simp)) (fun z hz=>h2 z (by simp[hz])) h3⟩
theorem aO9 (x:List Bool):∀ k:Nat,rz (-1) k (aGV x k)=true
 | 0=>rfl
 | k+1=>by
  rw[aEK]
  have ih:=aSg (n:=((k+1:Nat):Int)) (by omega) (aO9 x k)
  split
  ·exact aSf (b:=0) ih (by omega) (fun y hy=>by obtain⟨j,h1,rfl,_⟩:=aLS.1 hy; omega) (by omega)
  ·rw[List.append_nil]; exact ih
def aFY (l:List NodeD) (w:List Nat) (f:Nat):List Bool:=oX l w l.length (l.length - 1) ((o8 w).set f true)
def sG (l:List NodeD) (w:List Nat) (f:Int):List Int:=if iY l=true∧0≤f∧f≤w.length then aGV (aFY l w f.toNat) (w.length+1) else []
def wI (l:List NodeD) (w:List Nat) (f:Int):Int × Bool:=if sG l w f=[]∨(sG l w f).getLastD 0≤f then (0,false) else ((sG l w f).getLastD 0,true)
theorem aHT {l:List NodeD} (h:gV l=true):∀ n∈l,0≤n.lo:=fun n hn=>by
 unfold gV at h
 simp only[Bool.and_eq_true,List.all_eq_true] at h
 have hs:=h.2.2.1 n hn
 unfold lF at hs
 split at hs
 ·simp at hs; omega
 ·split at hs
  ·simp at hs; omega
  ·split at hs
   ·simp at hs; omega
   ·split at hs
    ·simp at hs; omega
    ·cases hs
theorem aQq {l:List NodeD}{w:List Nat} (hp:gV l=true) (f:Nat):(aFY l w f).length=w.length+1:=aKk (aHT hp) (by simp[o8])
theorem aKj {l:List NodeD}{w:List Nat} (hp:gV l=true) {f:Nat} (hf:f≤w.length) (j:Nat):Has (aFY l w f) j ↔ aBV w l f j:=by
 have hl:((o8 w).set f true).length=w.length+1:=by simp[o8]
 unfold aFY
 rw[(aEE (aHT hp) l.length (l.length - 1) _ hl).2]
 have hh:∀ i,Has ((o8 w).set f true) i ↔ i=f:=fun i=>by
  unfold Has
  rw[List.getElem?_set]
  by_cases e:f=i
  ·subst e
   rw[if_pos rfl,if_pos (by simp[o8]; omega)]
   simp
  ·rw[if_neg e]
   have:=aI8 w i
   unfold Has at this
   constructor
   ·intro h; exact absurd h this
   ·intro h; exact absurd h.symm e
 constructor
 ·rintro⟨i,h1,h2⟩
  rw[hh] at h1; subst h1
  exact h2
 ·intro h
  exact⟨f,(hh f).2 rfl,h⟩
theorem aED {l:List NodeD}{w:List Nat} (hp:iY l=true) {f:Nat} (hf:f≤w.length) (y:Int):y∈sG l w f ↔ ∃ j:Nat,y=(j:Int)∧j≤w.length∧aBV w l f j:=by
 have h4:gV l=true:=by unfold iY at hp; simp only[Bool.and_eq_true] at hp; exact hp.2
 unfold sG
 rw[if_pos ⟨hp,by omega,by omega⟩,aLS,Int.toNat_natCast]
 constructor
 ·rintro⟨j,h1,h2,h3⟩
  exact⟨j,h2,by omega,(aKj h4 hf j).1 h3⟩
 ·rintro⟨j,h1,h2,h3⟩
  exact⟨j,by omega,h1,(aKj h4 hf j).2 h3⟩
theorem aQr (l:List NodeD) (w:List Nat) (f:Int):rz (-1) (w.length+1) (sG l w f)=true:=by
 unfold sG
 split
 ·have:=aO9 (aFY l w f.toNat) (w.length+1)
  simpa using this
 ·rfl
theorem aP4 {l:List NodeD}{w:List Nat} (hp:iY l=true) {f:Nat} (hf:f≤w.length):(wI l w f=(0,false)∧∀ j,f < j→j≤w.length→¬ aBV w l f j)∨∃ j:Nat,wI l w f=((j:Int),true)∧f < j∧j≤w.length∧aBV w l f j∧∀ j',j'≤w.length→aBV w l f j'→j'≤j:=by
 have hmx:=fun x hx=>aDM (aQr l w f) x hx
 unfold wI
 by_cases hc:sG l w f=[]∨(sG l w f).getLastD 0≤(f:Int)
 ·left
  rw[if_pos hc]
  refine⟨rfl,fun j h1 h2 h3=>?_⟩
  have hm:=(aED hp hf (j:Int)).2 ⟨j,rfl,h2,h3⟩
  rcases hc with hc | hc
  ·rw[hc] at hm; cases hm
  ·have:=hmx _ hm; omega
 ·right
  rw[if_neg hc]
  have hne:sG l w f≠[]:=fun h=>hc (.inl h)
  obtain⟨j,h1,h2,h3⟩:=(aED hp hf _).1 (aI1 hne)
  rw[h1]
  refine⟨j,rfl,?_,h2,h3,fun j' h4 h5=>?_⟩
  ·have:¬ (sG l w f).getLastD 0≤(f:Int):=fun h=>hc (.inr h)
   omega
  ·have:=hmx _ ((aED hp hf (j':Int)).2 ⟨j',rfl,h4,h5⟩)
   omega
set_option maxRecDepth 4000 in
set_option maxHeartbeats 4000000 in
theorem aJr {ro:Ro}{v:Value}{l:List NodeD}{s:ByteArray}{f:Int} (hlen:l.length≤1000000) (hw:(iC s).length≤900000) {h:T Obj}{nx:Nat}{K:KV} (hl:oV ro h v l) (hf:Fr h nx)
  (hK:∀ r h' nx',nx≤nx'→aU h h'→Fr h' nx'→ZI ro h' r (sG l (iC s) f)→K r h' nx'):aN Tryz.prog ro zJ [v,.string s,.int .i64 f] h nx K:=by
 apply aHp
 unfold aGw
 have hls:=uX s
 have hvl:=gD.len hl
 refine aCC hlen hl (hf.mono (by omega)) fun n1 hn1=>?_
 have hno:∀ m,¬ (iY l=true∧0≤f∧f≤(iC s).length)→nx≤m→∃ h2,aU h2 h∧K (.slice none 0 0) h2 m:=fun m hc hm=>by
  refine⟨h,aU.refl _,hK _ _ _ hm (aU.refl _) (hf.mono hm) ?_⟩
  unfold sG
  rw[if_neg hc]
  exact Sl.nil
 cases hp:iY l with
 | false =>
  (repeat refine zzC ?_)
  exact hno _ (by simp[hp]) (by omega)
 | true =>
  have h4:gV l=true:=by unfold iY at hp; simp only[Bool.and_eq_true] at hp; exact hp.2
  have hl4:=vQ h4
  (repeat refine zzC ?_)
  refine cM (fun hf0=>?_) (fun hf0=>?_)
  ·(repeat refine zzC ?_)
   exact hno _ (by omega) (by omega)
  ·(have zy:=hls;repeat refine zzCz ?_)
   refine jT (fun hf1=>?_) (fun hf1=>?_)
   ·(repeat refine zzC ?_)
    exact hno _ (by omega) (by omega)
   ·(repeat refine zzC ?_)
    obtain⟨f,rfl⟩:∃ g:Nat,f=g:=⟨f.toNat,by omega⟩
    unfold sG at hK
    rw[if_pos ⟨hp,by omega,by omega⟩,Int.toNat_natCast] at hK
    refine vF (by omega) (hf.mono (by omega)) fun r h2 n2 hn2 hs2 hf2 ho=>?_
    have hnl:(o8 (iC s)).length=(iC s).length+1:=by simp[o8]
    have y1:=(ho.sl (ro:=ro)).ix .i64 (i:=f) (by rw[oC]; omega)
    obtain⟨h3,w1,w2,w3,w4⟩:=aUR (b:=true) ho (i:=f) (by omega)
    have hs3:aU h h3:=ho.sub w3 hf (by omega) hs2
    refine aB y1 (aB w1 ?_)
    (have zy:=hvl;repeat refine zzCz ?_)
    refine aD9 (h0:=h) hl h4 (aHT h4) (by omega) l.length (l.length - 1) (by omega) (by omega) (by omega) _ r h3 _ _ (by rw[List.length_set]; exact hnl) hs3 (w4 _ (hf2.mono (by omega))) w2.sl fun r2 h4' n4 hn4 hs4 hf4 z=>?_
    have z:ZB ro h4' r2 (aFY l (iC s) f):=z
    have hxl:=aQq (w:=iC s) h4 f
    have hzl:=z.len
    rw[hxl] at hzl
    refine bD (fun m e h' nx'=>∃ (k:Nat) (ov:Value),k+m=(iC s).length+1∧n4≤nx'∧e 8=r2∧e 9=ov∧e 10=.int .i64 k∧aU h4' h'∧Fr h' nx'∧bL h' ov 1 cI (fK (aGV (aFY l (iC s) f) k)) n4) ?_ (n:=(iC s).length+1)
     ⟨0,_,by omega,by omega,rfl,rfl,rfl,aU.refl _,hf4.mono (by omega),bL.nil⟩
    rintro m e h' nx' ⟨k,ov,hkm,hnx,e8,e9,e10,hs',hf',ho'⟩ Q' hq hx
    unfold aCD
    rw[e8,e9,e10]
    (have zy:=hzl;repeat refine zzCz ?_)
    refine cM (fun hi=>?_) (fun hi=>?_)
    ·have hi:k < (aFY l (iC s) f).length:=by omega
     have y2:=(z.sub hs').ix .i64 hi
     have y3:=(z.sub hs').load hi
     have hsc:=aEK (aFY l (iC s) f) k
     rw[List.getElem?_eq_getElem hi] at hsc
     have hil:=aGW (aFY l (iC s) f) k
     have hnext:∀ (e':dF) h3 n ov',nx'≤n→bL h3 ov' 1 cI (fK (aGV (aFY l (iC s) f) (k+1))) n4→Fr h3 n→aU h4' h3→e' 8=r2→e' 9=ov'→e' 10=.int .i64 k→rZ ro Q' e' h3 n:=fun e' h3 n ov' hn ho3 hf3 hs3 q8 q9 q10=>by
      unfold rZ
      rw[q10]
      (repeat refine zzC ?_)
      exact hq (m - 1) _ _ _ _ (by omega) ⟨k+1,ov',by omega,by omega,q8,q9,rfl,hs3,hf3.mono (by omega),ho3⟩ (aU.refl _)
     (have zy:=And.intro y2 y3;repeat refine zzCz ?_)
     cases hb:(aFY l (iC s) f)[k] with
     | true =>
      rw[hb,if_pos rfl] at hsc
      (repeat refine zzC ?_)
      refine aAf ho' (by omega) hf' (by omega) (by omega) (by omega) fun r5 h5 q h6 o1 o2 o3 o4=>?_
      rw[← hsc] at o1
      exact hnext _ _ _ r5 (by dsimp only; omega) o1 (o3.mono (by dsimp only; omega)) (ho'.sub o2 hf4 (Nat.le_refl _) hs') e8 rfl e10
     | false =>
      rw[hb,if_neg (by simp),List.append_nil] at hsc
      (repeat refine zzC ?_)
      rw[← hsc] at ho'
      exact hnext _ _ _ ov (by omega) ho' (hf'.mono (by omega)) hs' e8 e9 e10
    ·(repeat refine zzC ?_)
     refine hx _ _ _ _ (fun e=>by cases e) (d3 (cU ?_))
     unfold xU
     show ∃ h45,aU h45 h'∧K (e 9) h45 _
     rw[e9]
     have:k=(iC s).length+1:=by omega
     subst this
     exact⟨h',aU.refl _,hK _ _ _ (by omega) (hs3.trans (hs4.trans hs')) (hf'.mono (by omega)) ho'.sl⟩
theorem aPF (l:List NodeD) (w:List Nat) (f:Int):(sG l w f).length≤w.length+1:=by
 unfold sG
 split
 ·exact aGW _ _
 ·simp
set_option maxRecDepth 4000 in
set_option maxHeartbeats 4000000 in
theorem aF4 {ro:Ro}{v:Value}{l:List NodeD}{s:ByteArray}{f:Int} (hlen:l.length≤1000000) (hw:(iC s).length≤900000) {h:T Obj}{nx:Nat}{K:KV} (hl:oV ro h v l) (hf:Fr h nx)
  (hK:∀ nx',nx≤nx'→K (.tuple #[.int .i64 (wI l (iC s) f).1,.bool (wI l (iC s) f).2]) h nx'):aN Tryz.prog ro sX [v,.string s,.int .i64 f] h nx K:=by
 apply aEZ
 unfold aCE
 refine aJr hlen hw hl (hf.mono (by omega)) fun r h2 n2 hn2 hs2 hf2 z=>?_
 have hzl:=z.len
 have hll:=aPF l (iC s) f
 have hK':∀ (p:Int × Bool) m,wI l (iC s) f=p→nx≤m→∃ h3,aU h3 h2∧K (.tuple #[.int .i64 p.1,.bool p.2]) h3 m:=fun p m e hm=>⟨h,hs2,by subst e; exact hK m hm⟩
 unfold wI at hK'
 generalize sG l (iC s) f=E at *
 (have zy:=hzl;repeat refine zzCz ?_)
 refine i4 (fun h0=>?_) (fun h0=>?_)
 ·(repeat refine zzC ?_)
  exact hK' (0,false) _ (by rw[if_pos (.inl (aVW h0))]) (by omega)
 ·have hne:E≠[]:=fun e=>h0 (by rw[e]; rfl)
  have hpos:0 < E.length:=List.length_pos_iff.2 hne
  have y1:=z.ixI .i64 (i:=(E.length:Int) - 1) (by omega) (by omega)
  have y2:=z.load' (i:=E.length - 1) (aLG hne)
  rw[show ((E.length:Int) - 1).toNat=E.length - 1 by omega] at y1
  (have zy:=And.intro hzl (And.intro y1 y2);repeat refine zzCz ?_)
  refine tE (fun h1=>?_) (fun h1=>?_)
  ·(repeat refine zzC ?_)
   exact hK' (0,false) _ (by rw[if_pos (.inr h1)]) (by omega)
  ·(have zy:=And.intro hzl (And.intro y1 y2);repeat refine zzCz ?_)
   exact hK' (E.getLastD 0,true) _ (by rw[if_neg (by simp only[hne,false_or]; omega)]) (by omega)
abbrev IT (h:T Obj) (v:Value) (l:List Int) (lo:Nat):Prop:=bL h v 1 cI (fK l) lo
theorem IT.z {ro:Ro}{h:T Obj}{v:Value}{l:List Int}{lo:Nat} (ho:IT h v l lo):ZI ro h v l:=bL.sl ho
theorem aMe {a b:List Int}{i k:Nat} (hi:i < a.length) (hk:k < b.length):fW (a.drop i) (b.drop k)=if a[i] < b[k] then a[i]::fW (a.drop (i+1)) (b.drop k) else if a[i]=b[k] then b[k]::fW (a.drop (i+1)) (b.drop (k+1)) else b[k]::fW (a.drop i) (b.drop (k+1)):=by
 rw[cP hi,cP hk,aCY]
set_option maxRecDepth 4000 in
set_option maxHeartbeats 4000000 in
theorem kE {ro:Ro}{a b:List Int}{av bv:Value} (ha':a.length≤100000) (hb':b.length≤100000) {h:T Obj}{nx:Nat}{K:KV} (hf:Fr h nx) (ha:ZI ro h av a) (hb:ZI ro h bv b)
  (hK:∀ r h' nx',nx≤nx'→aU h h'→Fr h' nx'→IT h' r (fW a b) nx→Gap nx h h'→K r h' nx'):aN Tryz.prog ro j8 [av,bv] h nx K:=by
 apply aHt
 unfold aHC
 have hal:=ha.len
 have hbl:=hb.len
 refine bD (fun m e h' nx'=>∃ (i k:Nat) (o:List Int) (ov:Value),i≤a.length∧k≤b.length∧m=(a.length - i)+(b.length - k)∧o.length≤i+k∧nx≤nx'∧e 0=av∧e 1=bv∧e 5=ov∧e 6=.int .i64 i∧e 7=.int .i64 k∧aU h h'∧Fr h' nx'∧IT h' ov o nx∧Gap nx h h'∧fW a b=o++fW (a.drop i) (b.drop k)) ?_ (n:=a.length+b.length)
  ⟨0,0,[],_,by omega,by omega,by omega,by simp,by omega,rfl,rfl,rfl,rfl,rfl,aU.refl _,hf.mono (by omega),bL.nil,Gap.refl _ _,rfl⟩
 rintro m e h' nx' ⟨i,k,o,ov,hi,hk,hm,hol,hnx,e0,e1,e5,e6,e7,hs',hf',ho',hgp,hr⟩ Q' hq hx
 unfold aCK
 rw[e0,e1,e5,e6,e7]
 have hj2:∀ (e':dF) (i2 n:Nat) (hkb:k < b.length),i2≤a.length→i≤i2→i2≤i+1→fW (a.drop i) (b.drop k)=b[k]::fW (a.drop i2) (b.drop (k+1))→nx'≤n→e' 0=av→e' 1=bv→e' 5=ov→e' 6=.int .i64 i2→e' 7=.int .i64 k→sA ro Q' e' h' n:=fun e' i2 n hkb h1 h2 h3 h4 hn q0 q1 q5 q6 q7=>by
  unfold sA
  rw[q1,q5,q7]
  have y1:=(hb.sub hs').ix .i64 hkb
  have y2:=(hb.sub hs').load hkb
  (have zy:=And.intro y1 y2;repeat refine zzCz ?_)
  refine aAf ho' (by omega) hf' (by omega) (by omega) (by omega) fun r5 h5 q h6 o1 o2 o3 o4=>?_
  (repeat refine zzC ?_)
  rw[h4] at hr
  exact hq ((a.length - i2)+(b.length - (k+1))) _ _ _ _ (by omega) ⟨i2,k+1,o++[b[k]],r5,by omega,by omega,rfl,by simp; omega,by dsimp only; omega,q0,q1,rfl,q6,rfl,ho'.sub o2 hf (Nat.le_refl _) hs',o3.mono (by dsimp only; omega),o1,hgp.trans o4 (by omega),by rw[hr]; simp⟩ (aU.refl _)
 by_cases hia:i < a.length
 ·have y1:=(ha.sub hs').ix .i64 hia
  have y2:=(ha.sub hs').load hia
  by_cases hkb:k < b.length
  ·have y3:=(hb.sub hs').ix .i64 hkb
   have y4:=(hb.sub hs').load hkb
   have hd:=aMe hia hkb
   (have zy:=And.intro hal (And.intro hbl (And.intro y1 (And.intro y2 (And.intro y3 y4))));repeat refine zzCz ?_)
   refine cM (fun hab=>?_) (fun hab=>?_)
   ·rw[if_pos hab] at hd
    (have zy:=And.intro y1 y2;repeat refine zzCz ?_)
    refine aAf ho' (by omega) hf' (by omega) (by omega) (by omega) fun r5 h5 q h6 o1 o2 o3 o4=>?_
    (repeat refine zzC ?_)
    rw[hd] at hr
    exact hq ((a.length - (i+1))+(b.length - k)) _ _ _ _ (by omega) ⟨i+1,k,o++[a[i]],r5,by omega,by omega,rfl,by simp; omega,by dsimp only; omega,e0,e1,rfl,rfl,e7,ho'.sub o2 hf (Nat.le_refl _) hs',o3.mono (by dsimp only; omega),o1,hgp.trans o4 (by omega),by rw[hr]; simp⟩ (aU.refl _)
   ·rw[if_neg (by omega)] at hd
    (have zy:=And.intro hal (And.intro y1 (And.intro y2 (And.intro y3 y4)));repeat refine zzCz ?_)
    refine i4 (fun he=>?_) (fun he=>?_)
    ·rw[if_pos he] at hd
     (repeat refine zzC ?_)
     exact hj2 _ (i+1) _ hkb (by omega) (by omega) (by omega) hd (by omega) e0 e1 e5 rfl e7
    ·rw[if_neg he] at hd
     (repeat refine zzC ?_)
     exact hj2 _ i _ hkb (by omega) (by omega) (by omega) hd (by omega) e0 e1 e5 e6 e7
  ·have hbe:b.drop k=[]:=eO (by omega)
   (have zy:=And.intro hal (And.intro hbl (And.intro y1 y2));repeat refine zzCz ?_)
   refine aAf ho' (by omega) hf' (by omega) (by omega) (by omega) fun r5 h5 q h6 o1 o2 o3 o4=>?_
   (repeat refine zzC ?_)
   rw[hbe,y6,cP hia] at hr
   exact hq ((a.length - (i+1))+(b.length - k)) _ _ _ _ (by omega) ⟨i+1,k,o++[a[i]],r5,by omega,by omega,rfl,by simp; omega,by dsimp only; omega,e0,e1,rfl,rfl,e7,ho'.sub o2 hf (Nat.le_refl _) hs',o3.mono (by dsimp only; omega),o1,hgp.trans o4 (by omega),by rw[hbe,y6,hr]; simp⟩ (aU.refl _)
 ·have hae:a.drop i=[]:=eO (by omega)
  by_cases hkb:k < b.length
  ·(have zy:=And.intro hal hbl;repeat refine zzCz ?_)
   refine hj2 _ i _ hkb (by omega) (by omega) (by omega) ?_ (by omega) e0 e1 e5 e6 e7
   rw[hae,yA,yA,cP hkb]
  ·(have zy:=And.intro hal hbl;repeat refine zzCz ?_)
   refine hx _ _ _ _ (fun e=>by cases e) (d3 (cU ?_))
   unfold xX
   show ∃ h1,aU h1 h'∧K (e 5) h1 _
   rw[e5]
   rw[hae,yA,eO (show b.length≤k by omega),List.append_nil] at hr
   exact⟨h',aU.refl _,hK _ _ _ (by omega) hs' (hf'.mono (by omega)) (by rw[hr]; exact ho') hgp⟩
def bT:Obj→Bool
 | .cells _ e _=>e==cJ || e==bQ
 | _=>false
def BK (lo:Nat) (h h':T Obj):Prop:=∀ k o,h.get k=some o→(k < lo∨bT o=false)→h'.get k=some o
theorem BK.refl (lo:Nat) (h:T Obj):BK lo h h:=fun _ _ h _=>h
theorem aU.bk {lo:Nat}{h h':T Obj} (hs:aU h h'):BK lo h h':=fun k o hk _=>hs k o hk
theorem BK.trans {lo:Nat}{a b c:T Obj} (h1:BK lo a b) (h2:BK lo b c):BK lo a c:=fun k o hk hc=>h2 k o (h1 k o hk hc) hc
theorem BK.low {lo:Nat}{h0 h h':T Obj} (hb:BK lo h h') (hf:Fr h0 lo) (hs:aU h0 h):aU h0 h':=fun k o hk=>hb k o (hs k o hk) (.inl (hf.lt' hk))
theorem BK.cells {lo k:Nat}{h h':T Obj}{c:Array Value}{e:TypeId}{f:Nat × Nat} (hb:BK lo h h') (hk:h.get k=some (.cells c e f)) (he:(e==cJ || e==bQ)=false):h'.get k=some (.cells c e f):=hb k _ hk (.inr he)
theorem BK.own {lo lo' z:Nat}{h h':T Obj}{v:Value}{e:TypeId}{l:List (List Value)} (hb:BK lo h h') (ho:bL h v z e l lo') (he:(e==cJ || e==bQ)=false):bL h' v z e l lo':=by
 rcases ho with ho | ⟨id,h1,rfl,h4,h5⟩
 ·exact .inl ho
 ·exact .inr ⟨id,h1,rfl,h4,hb.cells h5 he⟩
theorem BK.it {lo lo':Nat}{h h':T Obj}{v:Value}{l:List Int} (hb:BK lo h h') (ho:IT h v l lo'):IT h' v l lo':=hb.own ho (by decide)
theorem BK.upd {lo k:Nat}{h h':T Obj}{o:Option Obj}{c:Array Value}{e:TypeId}{f:Nat × Nat} (hb:BK lo h h') (hk:h'.get k=some (.cells c e f)) (hlo:lo≤k) (he:(e==cJ || e==bQ)=true):BK lo h (h'.upd k o):=fun i x hi hc=>by
 have h1:=hb i x hi hc
 by_cases e2:i=k
 ·subst e2
  exfalso
  rw[hk] at h1
  cases h1
  rcases hc with hc | hc
  ·omega
  ·have hc:(e==cJ || e==bQ)=false:=hc
   rw[he] at hc; cases hc
 ·rw[T.get_upd_ne _ _ e2]; exact h1
def qX (ps:List (PosD × Value)):List (List Value):=ps.map fun x=>oF x.1 x.2
theorem lB (ps:List (PosD × Value)):(qX ps).length=ps.length:=by simp[qX]
structure PB (h:T Obj) (bid:Nat) (pv:Value) (lo:Nat) (ps:List (PosD × Value)):Prop where
 blk:h.get bid=some (.cells #[pv] bQ)
 lb:lo≤bid
 ow:bL h pv 9 cJ (qX ps) lo
 els:∀ x∈ps,IT h x.2 x.1.next lo∧x.1.s < 2 ^ 256
theorem PB.sub {h h':T Obj}{bid lo:Nat}{pv:Value}{ps:List (PosD × Value)} (hp:PB h bid pv lo ps) (hs:aU h h'):PB h' bid pv lo ps :=
 ⟨hs _ _ hp.blk,hp.lb,hp.ow.keepS hs,fun x hx=>⟨(hp.els x hx).1.keepS hs,(hp.els x hx).2⟩⟩
theorem aEW:∀ (ps:List (PosD × Value)),(qX ps).flatten.length=ps.length*9
 | []=>rfl
 | x::r=>by
  have:=aEW r
  simp only[qX,List.map_cons,List.flatten_cons,List.length_append,List.length_cons] at this ⊢
  have e:(oF x.1 x.2).length=9:=rfl
  omega
theorem aLe:∀ (ps:List (PosD × Value)) (i:Nat) (p:PosD) (nv nv':Value) (nx:List Int),ps[i]?=some (p,nv)→(qX ps).flatten.set (i*9+8) nv'=(qX (ps.set i ({ p with next:=nx },nv'))).flatten
 | [],i,p,nv,nv',nx,h=>by simp at h
 | x::r,0,p,nv,nv',nx,h=>by
  simp at h
  subst h
  rfl
 | x::r,i+1,p,nv,nv',nx,h=>by
  have ih:=aLe r i p nv nv' nx (by simpa using h)
  have e:(oF x.1 x.2).length=9:=rfl
  simp only[qX,List.map_cons,List.flatten_cons,List.set_cons_succ] at ih ⊢
  rw[← ih,List.set_append_right _ _ (by omega)]
  congr 2
  omega
theorem PB.put {h:T Obj}{bid lo i:Nat}{pv nv nv':Value}{p:PosD}{ps:List (PosD × Value)}{nx:List Int} (hp:PB h bid pv lo ps) (hi:ps[i]?=some (p,nv)) (hn:IT h nv' nx lo) :
  ∃ h',bH 1 h (fP 9 pv i 8) nv'=some h'∧PB h' bid pv lo (ps.set i ({ p with next:=nx },nv'))∧BK lo h h'∧(∀ n,Fr h n→Fr h' n)∧∀ n,Gap n h h':=by
 have hil:=(List.getElem?_eq_some_iff.1 hi).1
 rcases hp.ow with ⟨_,h1⟩ | ⟨id,h1,rfl,h2,h3⟩
 ·have:=congrArg List.length h1
  rw[lB,List.length_nil] at this
  omega
 ·have hel:fP 9 (.slice (some (own id 9)) (qX ps).length (qX ps).length) i 8=at_ id (0+(i*9+8)) 0:=rfl
  have hst:=cE (z:=0) (off:=0+(i*9+8)) (v:=nv') h3 (by rw[aEW]; omega) (hn.z (ro:=fun _=>none)).ok (by rcases hn with ⟨rfl,_⟩ | ⟨_,_,rfl,_⟩<;>rfl)
  have hne:bid≠id:=fun e=>by
   have:=hp.blk
   rw[e,h3] at this
   have e2:cJ=bQ:=congrArg (fun o=>match o with | some (Obj.cells _ e _)=>e | _=>0) this
   exact absurd e2 (by decide)
  have hbk:BK lo h (h.upd id (some (.cells ((qX ps).flatten.set (0+(i*9+8)) nv').toArray cJ))):=(BK.refl lo h).upd h3 h1 (by decide)
  refine⟨_,by rw[hel]; exact hst,⟨by rw[T.get_upd_ne _ _ hne]; exact hp.blk,hp.lb,.inr ⟨id,h1,?_,?_,?_⟩,fun x hx=>?_⟩,hbk,(fun n hf=>hf.upd (Nat.le_refl _) (hf.lt' h3)),fun n=>(Gap.refl n h).upd h3⟩
  ·rw[lB,lB,List.length_set]
  ·intro x hx
   unfold qX at hx
   obtain⟨y,_,rfl⟩:=List.mem_map.1 hx
   rfl
  ·show (h.upd id _).get id=_
   rw[T.get_upd_same,Nat.zero_add,aLe ps i p nv nv' nx hi]
  ·rcases List.mem_or_eq_of_mem_set hx with hx | rfl
   ·exact⟨hbk.it (hp.els x hx).1,(hp.els x hx).2⟩
   ·exact⟨hbk.it hn,(hp.els (p,nv) (List.mem_of_getElem? hi)).2⟩
theorem PB.get {ro:Ro}{h:T Obj}{bid lo i:Nat}{pv nv:Value}{p:PosD}{ps:List (PosD × Value)} (hp:PB h bid pv lo ps) (hi:ps[i]?=some (p,nv)) (k:IntKind):cD 9 pv (.int k (i:Int))=some (fH 9 pv i)∧(∀ j,aT j (fH 9 pv i)=some (fP 9 pv i j))∧load1 ro h (fP 9 pv i 8)=some nv:=by
 have hil:=(List.getElem?_eq_some_iff.1 hi).1
 have hsl:=hp.ow.sl (ro:=ro)
 have hg:(qX ps)[i]?=some (oF p nv):=by unfold qX; rw[List.getElem?_map,hi]; rfl
 exact⟨hsl.ix k (by rw[lB]; exact hil),fun j=>hsl.fwd (by rw[lB]; exact hil) j,hsl.load1K hg rfl⟩
theorem aP1 (P:List PosD) (from_ to:List Int) (i:Nat) (hi:i < from_.length):fO P (from_.take (i+1)) to=(fO P (from_.take i) to).modify (from_[i]).toNat fun p=>{ p with next:=fW p.next to }:=by
 unfold fO
 rw[List.take_succ_eq_append_getElem hi,List.foldl_append]; rfl
theorem aOK (ps:List (PosD × Value)) (i:Nat) (x:PosD × Value):(ps.set i x).map Prod.fst=(ps.map Prod.fst).set i x.1:=by rw[List.map_set]
theorem aG7 {P:List PosD}{i:Nat}{p:PosD}{f:PosD→PosD} (hi:P[i]?=some p):P.modify i f=P.set i (f p):=by
 refine List.ext_getElem? fun j=>?_
 have hil:=(List.getElem?_eq_some_iff.1 hi).1
 rw[List.getElem?_modify,List.getElem?_set]
 by_cases e:i=j
 ·subst e
  rw[if_pos rfl,if_pos hil,hi]; simp
 ·rw[if_neg e]
  cases P[j]?<;>simp[e]
theorem aJ4 {m:Int}{to:List Int} (hto:rz (-1) m to=true):∀ (from_:List Int) (P:List PosD),(∀ x∈P,rz (-1) m x.next=true)→∀ x∈fO P from_ to,rz (-1) m x.next=true
 | [],P,h=>h
 | q::r,P,h=>by
  have e:fO P (q::r) to=fO (P.modify q.toNat fun p=>{ p with next:=fW p.next to }) r to:=rfl
  rw[e]
  refine aJ4 hto r _ fun x hx=>?_
  obtain⟨j,hj⟩:=List.getElem?_of_mem hx
  rw[List.getElem?_modify] at hj
  cases hp:P[j]? with
  | none=>rw[hp] at hj; simp at hj
  | some p =>
   have hpm:=h p (List.mem_of_getElem? hp)
   rw[hp] at hj
   simp only[Option.map_eq_map,Option.map_some,Option.some.injEq] at hj
   rw[← hj]
   split
   ·exact lE hpm hto
   ·exact hpm
theorem iQ {m:Int}{l:List Int} (h:rz (-1) m l=true) (h0:0≤m):(l.length:Int)≤m:=by
 have:=aSh h (by omega)
 omega
set_option maxRecDepth 4000 in
set_option maxHeartbeats 4000000 in
theorem aDf {ro:Ro}{from_ to:List Int}{fv tv:Value}{bid lo:Nat}{pv:Value}{ps:List (PosD × Value)}{h:T Obj}{nx:Nat}{K:KV} (hp:PB h bid pv lo ps) (hlo:lo≤nx) (hf:Fr h nx) (hfr:IT h fv from_ lo) (hto:IT h tv to lo) {N:Nat} (hN:N≤2000) (hfr2:rz (-1) ps.length from_=true) (hpN:ps.length≤N) (hto2:rz (-1) N to=true) (hnx:∀ x∈ps,rz (-1) N x.1.next=true)
  (hK:∀ ps' h' nx',nx≤nx'→BK lo h h'→Fr h' nx'→Gap nx h h'→PB h' bid pv lo ps'→ps'.map Prod.fst=fO (ps.map Prod.fst) from_ to→K (.tuple #[]) h' nx'):aN Tryz.prog ro j9 [ptr bid,fv,tv] h nx K:=by
 have hin:∀ q∈from_,0≤q∧q < ps.length:=fun q hq=>by have:=dX hfr2 q hq; omega
 have hfl:=iQ hfr2 (by omega)
 have htl:=iQ hto2 (by omega)
 have hb2:∀ i,∀ x∈fO (ps.map Prod.fst) (from_.take i) to,x.next.length≤2000:=fun i x hx=>by
  have:=iQ (aJ4 hto2 (from_.take i) (ps.map Prod.fst) (fun y hy=>by obtain⟨z,hz,rfl⟩:=List.mem_map.1 hy; exact hnx z hz) x hx) (by omega)
  omega
 apply aAQ
 unfold vI
 refine bD (fun m e h' nx'=>∃ (i:Nat) (qs:List (PosD × Value)),i+m=from_.length∧nx≤nx'∧e 0=ptr bid∧e 1=fv∧e 2=tv∧e 6=.int .i64 i∧BK lo h h'∧Fr h' nx'∧Gap nx h h'∧PB h' bid pv lo qs∧qs.length=ps.length∧qs.map Prod.fst=fO (ps.map Prod.fst) (from_.take i) to) ?_ (n:=from_.length)
  ⟨0,ps,by omega,by omega,rfl,rfl,rfl,rfl,BK.refl _ _,hf.mono (by omega),Gap.refl _ _,hp,rfl,rfl⟩
 rintro m e h' nx' ⟨i,qs,him,hnx,e0,e1,e2,e6,hbk,hf',hgp,hp',hql,hqm⟩ Q' hq hx
 unfold rB
 rw[e0,e1,e2,e6]
 have hfz:=(hbk.it hfr).z (ro:=ro)
 have hzl:=hfz.len
 (have zy:=hzl;repeat refine zzCz ?_)
 refine cM (fun hi=>?_) (fun hi=>?_)
 ·have hi:i < from_.length:=by omega
  have y1:=hfz.ix .i64 hi
  have y2:=hfz.load hi
  have hlt:=aP1 (ps.map Prod.fst) from_ to i hi
  have hrg:=hin _ (List.getElem_mem hi)
  generalize from_[i]=q at *
  obtain⟨j,rfl⟩:∃ j:Nat,q=j:=⟨q.toNat,by omega⟩
  rw[Int.toNat_natCast,← hqm] at hlt
  have hjl:j < qs.length:=by omega
  obtain⟨⟨p,nv⟩,hpj⟩:∃ x,qs[j]?=some x:=⟨_,List.getElem?_eq_getElem hjl⟩
  have hpm:(qs.map Prod.fst)[j]?=some p:=by rw[List.getElem?_map,hpj]; rfl
  rw[aG7 hpm] at hlt
  obtain⟨w1,w2,w3⟩:=PB.get (ro:=ro) hp' hpj .i64
  have w2':=w2 8
  have lb:=bE (ro:=ro) (z:=0) (l:=[pv]) (off:=0) hp'.blk rfl
  have hel:=hp'.els _ (List.mem_of_getElem? hpj)
  have hnb:=hb2 i p (by rw[← hqm]; exact List.mem_of_getElem? hpm)
  have hnil:bZ (at_ bid 0 0)=some (at_ bid 0 0):=rfl
  rw[eY]
  (have zy:=And.intro hnil (And.intro @lb (And.intro y1 (And.intro y2 (And.intro w1 (And.intro w2' w3)))));repeat refine zzCz ?_)
  refine kE (a:=p.next) (b:=to) (by omega) (by omega) (hf'.mono (by omega)) hel.1.z (hbk.it hto).z fun r h2 n2 hn2 hs2 hf2 hr hg2=>?_
  refine⟨hfz.same hs2 (by rw[i6]; exact hi),qA hp'.blk (hs2 _ _ hp'.blk),?_⟩
  obtain⟨h3,s1,s2,s3,s4,s5⟩:=(hp'.sub hs2).put hpj (hr.mono (by omega))
  (have zy:=And.intro w1 w2';repeat refine zzCz ?_)
  refine aB s1 ?_
  (repeat refine zzC ?_)
  exact hq (m - 1) _ _ _ _ (by omega) ⟨i+1,_,by omega,by omega,by rw[← eY] at *; exact e0,e1,e2,rfl,(hbk.trans hs2.bk).trans s3,s4 _ (hf2.mono (by omega)),(hgp.trans hg2 (by omega)).trans (s5 nx) (Nat.le_refl _),s2,by rw[List.length_set]; exact hql,by rw[aOK,hlt]⟩ (aU.refl _)
 ·(repeat refine zzC ?_)
  refine hx _ _ _ _ (fun e=>by cases e) (d3 (cU ?_))
  rw[List.take_of_length_le (by omega)] at hqm
  exact⟨h',aU.refl _,hK _ _ _ (by omega) hbk (hf'.mono (by omega)) hgp hp' hqm⟩
def kP (x:InfD) (fv lv:Value):List Value:=[.bool x.null,fv,lv]
def aJD (h:T Obj) (v:Value) (x:InfD) (lo:Nat):Prop:=∃ fv lv,v=.agg (kP x fv lv).toArray∧IT h fv x.first lo∧IT h lv x.last lo
theorem aJD.bk {lo lo':Nat}{h h':T Obj}{v:Value}{x:InfD} (hr:aJD h v x lo') (hb:BK lo h h'):aJD h' v x lo':=by
 obtain⟨fv,lv,h1,h2,h3⟩:=hr
 exact⟨fv,lv,h1,hb.it h2,hb.it h3⟩
theorem aJD.mono {lo lo':Nat}{h:T Obj}{v:Value}{x:InfD} (hr:aJD h v x lo) (hl:lo'≤lo):aJD h v x lo':=by
 obtain⟨fv,lv,h1,h2,h3⟩:=hr
 exact⟨fv,lv,h1,h2.mono hl,h3.mono hl⟩
theorem bL.updT {h:T Obj}{v:Value}{z:Nat}{e e':TypeId}{l:List (List Value)}{lo k:Nat}{c:Array Value}{f:Nat × Nat}{o:Option Obj} (ho:bL h v z e l lo) (hk:h.get k=some (.cells c e' f)) (he:e'≠e):bL (h.upd k o) v z e l lo:=by
 rcases ho with ho | ⟨id,h1,rfl,h4,h5⟩
 ·exact .inl ho
 ·refine .inr ⟨id,h1,rfl,h4,?_⟩
  rw[T.get_upd_ne _ _ (fun e2=>?_)]
  ·exact h5
  ·subst e2
   rw[hk] at h5
   have e3:e'=e:=congrArg (fun o=>match o with | some (Obj.cells _ e _)=>e | _=>0) h5
   exact he e3
theorem PB.updT {h:T Obj}{bid k lo:Nat}{pv:Value}{ps:List (PosD × Value)}{c:Array Value}{e:TypeId}{f:Nat × Nat}{o:Option Obj} (hp:PB h bid pv lo ps) (hk:h.get k=some (.cells c e f)) (h1:e≠bQ) (h2:e≠cJ) (h3:e≠cI):PB (h.upd k o) bid pv lo ps:=by
 refine⟨?_,hp.lb,hp.ow.updT hk h2,fun x hx=>⟨(hp.els x hx).1.updT hk h3,(hp.els x hx).2⟩⟩
 rw[T.get_upd_ne _ _ (fun e2=>?_)]
 ·exact hp.blk
 ·subst e2
  have:=hp.blk
  rw[hk] at this
  have e3:e=bQ:=congrArg (fun o=>match o with | some (Obj.cells _ e _)=>e | _=>0) this
  exact h1 e3
theorem BK.new {lo k n:Nat}{h h':T Obj}{o:Option Obj} (hb:BK lo h h') (hf:Fr h n) (hk:n≤k):BK lo h (h'.upd k o):=fun i x hi hc=>by
 have:=hf.lt' hi
 rw[T.get_upd_ne _ _ (by omega)]
 exact hb i x hi hc
theorem wY:i8 Tryz.prog aQ=some (.agg (kP (fU false) (.slice none 0 0) (.slice none 0 0)).toArray):=by kernel_rfl
theorem aDy (b:Bool):cX Tryz.prog aQ [(0,.bool b)]=some (.agg (kP (fU b) (.slice none 0 0) (.slice none 0 0)).toArray):=by kernel_rfl
theorem aRf (aid:Nat) (p:PosD) (nv:Value):bC Tryz.prog sV aid 1 [(0,.agg (oF p nv).toArray)]=some (.slice (some (own aid 9)) 1 1,some (.cells (oF p nv).toArray cJ)):=by kernel_rfl
theorem aNu (s:Nat) (a b r:Int):cX Tryz.prog cJ [(0,qV s),(1,.int .i64 a),(2,.int .i64 b),(3,.int .i64 r)]=some (.agg (oF ⟨s,a,b,r,false,[]⟩ (.slice none 0 0)).toArray):=by kernel_rfl
theorem aRl:gG Tryz.prog sV=some (.slice cJ):=by kernel_rfl
theorem aRj:∃ i,tin Tryz.prog cJ=some i∧i.size=9∧i.bytes=88:=aG8 (by kernel_rfl)
theorem aRn:i8 Tryz.prog cJ=some (.agg (oF aBm (.slice none 0 0)).toArray):=by kernel_rfl
theorem aQa (id:Nat):cX Tryz.prog aQ [(1,.slice (some (own id 1)) 1 1),(2,.slice (some (own id 1)) 1 1)]=some (.agg (kP ⟨false,[],[]⟩ (.slice (some (own id 1)) 1 1) (.slice (some (own id 1)) 1 1)).toArray):=by kernel_rfl
theorem aPp (ps:List (PosD × Value)) (x:PosD × Value):qX (ps++[x])=qX ps++[oF x.1 x.2]:=by simp[qX]
set_option maxRecDepth 4000 in
set_option maxHeartbeats 4000000 in
theorem aFM {ro:Ro}{s:Nat}{a b rule:Int}{bid lo:Nat}{pv:Value}{ps:List (PosD × Value)}{h:T Obj}{nx:Nat}{K:KV} (hp:PB h bid pv lo ps) (hlo:lo≤nx) (hf:Fr h nx) (hs:s < 2 ^ 256) (hlen:ps.length≤100000)
  (hK:∀ r pv' h' nx',nx≤nx'→BK lo h h'→Fr h' nx'→Gap nx h h'→PB h' bid pv' lo (ps++[(⟨s,a,b,rule,false,[]⟩,.slice none 0 0)])→aJD h' r ⟨false,[(ps.length:Int)],[(ps.length:Int)]⟩ lo→K r h' nx') :
  aN Tryz.prog ro kS [ptr bid,.agg (oF ⟨s,a,b,rule,false,[]⟩ (.slice none 0 0)).toArray] h nx K:=by
 apply aAz
 unfold wT
 have hbl:=hf.lt' hp.blk
 refine fV hf (Nat.le_refl _) fun h1 hs1 hf1 g1 hg1=>?_
 have g1:h1.get nx=some (.cells (oF ⟨s,a,b,rule,false,[]⟩ (.slice none 0 0)).toArray cJ):=g1
 refine aB wY ?_
 refine zO hf1 (Nat.le_refl _) fun h2 hs2 hf2 g2 hg2=>?_
 have hp2:=(hp.sub hs1).sub hs2
 have lb:=bE (ro:=ro) (z:=0) (l:=[pv]) (off:=0) hp2.blk rfl
 have hnil:bZ (at_ bid 0 0)=some (at_ bid 0 0):=rfl
 have lA:=bX (ro:=ro) (z:=0) (n:=9) (hs2 _ _ g1) rfl
 rw[eY]
 (have zy:=And.intro hnil (And.intro @lb lA);repeat refine zzCz ?_)
 obtain⟨i,t1,t2,t3⟩:=aRj
 have hbig:(100001:Nat)*88≤oB:=by decide
 refine aDS (z:=9) (aRf _ _ _) rfl hp2.ow aRl t1 t2 (by omega) aRn rfl rfl (by rw[t3,lB]; omega) (by rw[lB]; omega) hf2 (by omega) (by omega) (by omega) fun h3 qq hh1 q1 q2 q3 q4=>?_
 have hb3:h3.get bid=some (.cells #[pv] bQ):=q2 _ _ hp2.blk (hp2.ow.ne hp2.blk (by decide))
 have hlen2:(qX ps++[oF ⟨s,a,b,rule,false,[]⟩ (.slice none 0 0)]).length=ps.length+1:=by simp[lB]
 rw[hlen2] at q1 ⊢
 rw[← aPp ps (⟨s,a,b,rule,false,[]⟩,.slice none 0 0)] at q1
 have hst:=cE (z:=0) (off:=0) (l:=[pv]) (v:=.slice (some (own (nx+13) 9)) (ps.length+1) (ps.length+1)) hb3 (by simp) rfl rfl
 generalize hpv:Value.slice (some (own (nx+13) 9)) (ps.length+1) (ps.length+1)=pv' at q1 hst ⊢
 (have zy:=hnil;repeat refine zzCz ?_)
 refine aB hst ?_
 generalize hh4:h3.upd bid (some (.cells ([pv].set 0 pv').toArray bQ))=h4
 have hf4:Fr h4 (nx+14):=by rw[← hh4]; exact (q3.mono (by omega)).upd (Nat.le_refl _) (by omega)
 have g4:h4.get bid=some (.cells #[pv'] bQ):=by rw[← hh4]; exact T.get_upd_same _ _ _
 have g4':∀ k,k≠bid→h4.get k=h3.get k:=fun k hk=>by rw[← hh4]; exact T.get_upd_ne _ _ hk
 have hs12:aU h h2:=hs1.trans hs2
 have hne4:lK pv'=some (nx+13):=by rw[← hpv]; rfl
 have hbk4:BK lo h h4:=fun k o hk hc=>by
  have hkn:=hf.lt' hk
  have hkb:k≠bid:=fun e=>by
   subst e
   rw[hp.blk] at hk
   cases hk
   rcases hc with hc | hc
   ·have:=hp.lb; omega
   ·exact Bool.noConfusion (show true=false from hc)
  rw[g4' k hkb]
  refine q2 _ _ (hs12 _ _ hk) ?_
  rcases hp2.ow with ⟨e1,_⟩ | ⟨id,w1,e1,w2,w3⟩
  ·rw[e1]; intro h; cases h
  ·rw[e1]
   intro h
   have e3:id=k:=Option.some.inj h
   subst e3
   have:=hs12 _ _ hk
   rw[w3] at this
   cases this
   rcases hc with hc | hc
   ·omega
   ·exact Bool.noConfusion (show true=false from hc)
 have ho4:bL h4 pv' 9 cJ (qX (ps++[(⟨s,a,b,rule,false,[]⟩,.slice none 0 0)])) lo:=by
  rcases q1 with ⟨e1,e2⟩ | ⟨id,w1,e1,w2,w3⟩
  ·exact .inl ⟨e1,e2⟩
  ·refine .inr ⟨id,w1,e1,w2,?_⟩
   rw[g4' id (fun e=>?_)]
   ·exact w3
   ·subst e
    rw[hb3] at w3
    have e2:bQ=cJ:=congrArg (fun o=>match o with | some (Obj.cells _ e _)=>e | _=>0) w3
    exact absurd e2 (by decide)
 have hp4:PB h4 bid pv' lo (ps++[(⟨s,a,b,rule,false,[]⟩,.slice none 0 0)]):=⟨g4,hp.lb,ho4,fun x hx=>by
  rcases List.mem_append.1 hx with hx | hx
  ·exact⟨hbk4.it (hp.els x hx).1,(hp.els x hx).2⟩
  ·rw[List.mem_singleton] at hx
   subst hx
   exact⟨bL.nil,hs⟩⟩
 have lb4:=bE (ro:=ro) (z:=0) (l:=[pv']) (off:=0) g4 rfl
 have hpl:bM pv'=some (.int .i64 ((ps.length:Int)+1)):=by rw[← hpv]; rfl
 (have zy:=And.intro hnil lb4;repeat refine zzCz ?_)
 refine aB hpl (aB (eC _ _ _) ?_)
 rw[fG (by omega) (by omega)]
 have g2':h4.get (nx+1)=some (.cells (kP (fU false) (.slice none 0 0) (.slice none 0 0)).toArray aQ):=by
  rw[g4' _ (by omega)]
  exact q2 _ _ g2 (hp2.ow.ne g2 (by decide))
 refine aB (aLV _ _) ?_
 refine aF ?_
 generalize hh5:h4.upd _ (some (.cells [Value.int .i64 ((ps.length:Int)+1 - 1)].toArray cI))=h5
 have hs5:aU h4 h5:=by rw[← hh5]; exact (aU.refl h4).new hf4 (by dsimp only; omega)
 have hf5:Fr h5 (nx+13+1+7):=by rw[← hh5]; exact (hf4.mono (by omega)).upd (Nat.le_refl _) (by dsimp only; omega)
 have g5:h5.get (nx+13+1+6)=some (.cells [Value.int .i64 ((ps.length:Int)+1 - 1)].toArray cI):=by rw[← hh5]; exact T.get_upd_same _ _ _
 refine aB (aQa _) ?_
 refine aB (eF (l:=kP (fU false) (.slice none 0 0) (.slice none 0 0)) (vs:=kP ⟨false,[],[]⟩ (.slice (some (own (nx+13+1+6) 1)) 1 1) (.slice (some (own (nx+13+1+6) 1)) 1 1)) (hs5 _ _ g2') rfl rfl rfl rfl) ?_
 refine aB (bX (by rw[T.get_upd_same]) rfl) ?_
 refine⟨_,aU.refl _,?_⟩
 have g6:=hs5 _ _ g2'
 refine hK _ pv' _ _ ?_ ?_ ?_ ?_ ?_ ?_
 ·dsimp only; omega
 ·exact (hbk4.trans hs5.bk).new hf (by omega)
 ·exact (hf5.mono (by dsimp only; omega)).upd (Nat.le_refl _) (by dsimp only; omega)
 ·have a1:Gap nx h h2:=fun k hk hn=>by rw[hg2 k (by omega),hg1 k (by omega)]; exact hn
  have a2:Gap nx h h4:=by rw[← hh4]; exact (a1.trans q4 (by omega)).upd hb3
  have a3:Gap nx h h5:=by rw[← hh5]; exact a2.new (by dsimp only; omega)
  exact a3.new (by omega)
 ·exact (hp4.sub hs5).updT g6 (by decide) (by decide) (by decide)
 ·have hit:IT (h5.upd (nx+1) (some (.cells (kP ⟨false,[],[]⟩ (.slice (some (own (nx+13+1+6) 1)) 1 1) (.slice (some (own (nx+13+1+6) 1)) 1 1)).toArray aQ))) (.slice (some (own (nx+13+1+6) 1)) 1 1) [(ps.length:Int)] lo:=by
   refine bL.updT (.inr ⟨nx+13+1+6,by omega,rfl,by simp[fK],?_⟩) g6 (by decide)
   rw[show ((ps.length:Int)+1 - 1)=ps.length by omega] at g5
   exact g5
  exact⟨_,_,rfl,hit,hit⟩
def aGX (zs:List (InfD × Value × Value)):List (List Value):=zs.map fun z=>kP z.1 z.2.1 z.2.2
theorem uS (zs:List (InfD × Value × Value)):(aGX zs).length=zs.length:=by simp[aGX]
structure RInfs (h:T Obj) (v:Value) (zs:List (InfD × Value × Value)) (lo:Nat):Prop where
 ow:bL h v 3 aQ (aGX zs) lo
 els:∀ z∈zs,IT h z.2.1 z.1.first lo∧IT h z.2.2 z.1.last lo
theorem RInfs.bk {lo lo':Nat}{h h':T Obj}{v:Value}{zs:List (InfD × Value × Value)} (hr:RInfs h v zs lo') (hb:BK lo h h'):RInfs h' v zs lo':=⟨hb.own hr.ow (by decide),fun z hz=>⟨hb.it (hr.els z hz).1,hb.it (hr.els z hz).2⟩⟩
theorem aU3 {m:Int}{x y:InfD} (h1:rz (-1) m x.first=true) (h2:rz (-1) m x.last=true) (h3:rz (-1) m y.first=true) (h4:rz (-1) m y.last=true):rz (-1) m (jU x y).first=true∧rz (-1) m (jU x y).last=true:=by
 unfold jU
 simp only
 constructor
 ·split
  ·exact lE h1 h3
  ·exact h1
 ·split
  ·exact lE h2 h4
  ·exact h4
theorem aDP (P:List PosD) (to:List Int):∀ (from_:List Int),∀ P:List PosD,(fO P from_ to).length=P.length
 | [],P=>rfl
 | q::r,P=>by
  have e:fO P (q::r) to=fO (P.modify q.toNat fun p=>{ p with next:=fW p.next to }) r to:=rfl
  rw[e,aDP P to r]; simp
set_option maxRecDepth 4000 in
set_option maxHeartbeats 8000000 in
theorem aLz {ro:Ro}{zs:List (InfD × Value × Value)}{kv:Value}{bid lo:Nat}{pv:Value}{ps:List (PosD × Value)}{h:T Obj}{nx:Nat}{K:KV} (hp:PB h bid pv lo ps) (hlo:lo≤nx) (hf:Fr h nx) (hz:RInfs h kv zs lo) (hzl:zs.length≤1000000) (hN:ps.length≤2000)
  (hrz:∀ z∈zs,rz (-1) ps.length z.1.first=true∧rz (-1) ps.length z.1.last=true) (hnx:∀ x∈ps,rz (-1) ps.length x.1.next=true)
  (hK:∀ r ps' h' nx',nx≤nx'→BK lo h h'→Fr h' nx'→Gap nx h h'→PB h' bid pv lo ps'→ps'.map Prod.fst=(aAZ (zs.map Prod.fst) (fU true) (ps.map Prod.fst)).2→aJD h' r (aAZ (zs.map Prod.fst) (fU true) (ps.map Prod.fst)).1 lo→K r h' nx') :
  aN Tryz.prog ro oR [ptr bid,kv] h nx K:=by
 apply aAy
 unfold wS
 have hbl:=hf.lt' hp.blk
 refine aB wY ?_
 refine zO hf (Nat.le_refl _) fun h1 hs1 hf1 g1 hg1=>?_
 refine aB (aDy true) ?_
 refine gP (n:=3) (x:=kP (fU true) (.slice none 0 0) (.slice none 0 0)) wY rfl rfl rfl rfl hf1 (by omega) fun h2 hs2 hf2 g2 hg2=>?_
 have g1':=hs2 _ _ g1
 refine bD (fun m e h' nx'=>∃ (i:Nat) (x:InfD) (fv lv:Value) (qs:List (PosD × Value)),i+m=zs.length∧nx+5≤nx'∧e 0=ptr bid∧e 1=kv∧e 4=ptr nx∧e 5=ptr (nx+2)∧e 6=.int .i64 i∧BK lo h h'∧Fr h' nx'∧Gap nx h h'∧PB h' bid pv lo qs∧h'.get nx=some (.cells (kP (fU false) (.slice none 0 0) (.slice none 0 0)).toArray aQ) ∧
   h'.get (nx+2)=some (.cells (kP x fv lv).toArray aQ)∧IT h' fv x.first lo∧IT h' lv x.last lo∧rz (-1) ps.length x.first=true∧rz (-1) ps.length x.last=true∧qs.length=ps.length∧(∀ y∈qs,rz (-1) ps.length y.1.next=true) ∧
   aAZ (zs.map Prod.fst) (fU true) (ps.map Prod.fst)=aAZ ((zs.drop i).map Prod.fst) x (qs.map Prod.fst)) ?_ (n:=zs.length)
  ⟨0,fU true,_,_,ps,by omega,by omega,rfl,rfl,rfl,rfl,rfl,(hs1.trans hs2).bk,hf2.mono (by omega),(fun k hk hn=>by rw[hg2 k (by omega),hg1 k (by omega)]; exact hn),(hp.sub hs1).sub hs2,g1',g2,bL.nil,bL.nil,rfl,rfl,rfl,hnx,rfl⟩
 rintro m e h' nx' ⟨i,x,fv,lv,qs,him,hnx',e0,e1,e4,e5,e6,hbk,hf',hgp,hp',gr,go,hfv,hlv,hrf,hrl,hql,hqn,hcat⟩ Q' hq hx
 unfold sP
 rw[e0,e1,e5,e6]
 have hz':=hz.bk hbk
 have hkl:bM kv=some (.int .i64 zs.length):=by
  have:=(hz'.ow.sl (ro:=ro)).len
  rwa [uS] at this
 (have zy:=hkl;repeat refine zzCz ?_)
 refine cM (fun hi=>?_) (fun hi=>?_)
 ·have hi:i < zs.length:=by omega
  have hsl:=hz'.ow.sl (ro:=ro)
  have hgi:(aGX zs)[i]?=some (kP (zs[i]).1 (zs[i]).2.1 (zs[i]).2.2):=by unfold aGX; rw[List.getElem?_map,List.getElem?_eq_getElem hi]; rfl
  have y1:=hsl.ix .i64 (i:=i) (by rw[uS]; exact hi)
  have y2:=hsl.loadA hgi
  have hzi:=hz.els _ (List.getElem_mem hi)
  have hrz2:=hrz _ (List.getElem_mem hi)
  rw[cP hi,List.map_cons] at hcat
  have hcat:aAZ (zs.map Prod.fst) (fU true) (ps.map Prod.fst)=aAZ ((zs.drop (i+1)).map Prod.fst) (jU x zs[i].1) (fO (qs.map Prod.fst) x.last zs[i].1.first):=hcat
  generalize zs[i]=z at *
  obtain⟨y,yf,yl⟩:=z
  simp only at hzi hrz2 hcat y2 hgi
  have hyf:=hbk.it hzi.1
  have hyl:=hbk.it hzi.2
  obtain⟨hrt1,hrt2⟩:=aU3 hrf hrl hrz2.1 hrz2.2
  (have zy:=And.intro y1 y2;repeat refine zzCz ?_)
  refine gP (n:=3) (x:=kP y yf yl) wY rfl rfl rfl (by have h1:=hyf.z (ro:=ro); have h2:=hyl.z (ro:=ro); simp[kP,h1.ok,h2.ok]; rfl) hf' (by omega) fun h3 hs3 hf3 g3 hg3=>?_
  have go3:=hs3 _ _ go
  have lo2:=bE (ro:=ro) (z:=0) (off:=2) (v:=lv) go3 rfl
  have lk1:=bE (ro:=ro) (z:=0) (off:=1) (v:=yf) g3 rfl
  (have zy:=And.intro lo2 lk1;repeat refine zzCz ?_)
  refine aDf (ro:=ro) (N:=ps.length) (hp'.sub hs3) (by omega) (hf3.mono (by omega)) (hlv.keepS hs3) (hyf.keepS hs3) hN (by rw[hql]; exact hrl) (by omega) hrz2.1 hqn fun qs2 h4 n4 hn4 hb4 hf4 hg4 hp4 hqm=>?_
  have hg3':Gap nx h' h3:=fun k hk hn=>by rw[hg3 k (by omega)]; exact hn
  have hgp4:Gap nx h h4:=hgp.trans (hg3'.trans hg4 (by omega)) (Nat.le_refl _)
  have hbk4:=(hbk.trans hs3.bk).trans hb4
  have go4:=hb4.cells go3 (by decide)
  have gr4:=hb4.cells (hs3 _ _ gr) (by decide)
  have gk4:=hb4.cells g3 (by decide)
  have hfv4:=hb4.it (hfv.keepS hs3)
  have hlv4:=hb4.it (hlv.keepS hs3)
  have hyf4:=hb4.it (hyf.keepS hs3)
  have hyl4:=hb4.it (hyl.keepS hs3)
  have hq2l:qs2.length=ps.length:=by
   have:=congrArg List.length hqm
   rw[List.length_map,aDP [],List.length_map] at this
   omega
  have hq2n:∀ y∈qs2,rz (-1) ps.length y.1.next=true:=fun w hw=>by
   refine aJ4 hrz2.1 x.last (qs.map Prod.fst) (fun u hu=>?_) w.1 ?_
   ·obtain⟨t,ht,rfl⟩:=List.mem_map.1 hu; exact hqn t ht
   ·rw[← hqm]; exact List.mem_map.2 ⟨w,hw,rfl⟩
  rw[← hqm] at hcat
  clear hqm
  have hlf:=iQ hrf (by omega)
  have hll:=iQ hrl (by omega)
  have hlyf:=iQ hrz2.1 (by omega)
  have hlyl:=iQ hrz2.2 (by omega)
  have hj4:∀ (e':dF) h5 n5 (fv2 lv2:Value) (F L:List Int),F=(jU x y).first→L=(jU x y).last→nx'≤n5→BK lo h h5→Fr h5 n5→Gap nx h h5→PB h5 bid pv lo qs2→h5.get nx=some (.cells (kP (fU false) (.slice none 0 0) (.slice none 0 0)).toArray aQ) →
    h5.get (nx+2)=some (.cells [Value.bool x.null,fv2,lv2].toArray aQ)→h5.get (nx'+8)=some (.cells (kP y yf yl).toArray aQ)→IT h5 fv2 F lo→IT h5 lv2 L lo→e' 0=ptr bid→e' 1=kv→e' 4=ptr nx→e' 5=ptr (nx+2)→e' 6=.int .i64 i→e' 7=ptr (nx'+8)→kG ro Q' e' h5 n5:=fun e' h5 n5 fv2 lv2 F L hF hL hn5 hbk5 hf5 hgp5 hp5 gr5 go5 gk5 i1 i2 q0 q1 q4 q5 q6 q7=>by
   subst hF hL
   unfold kG
   rw[q5,q7]
   have lo0:=bE (ro:=ro) (z:=0) (off:=0) (v:=.bool x.null) go5 rfl
   have lk0:=bE (ro:=ro) (z:=0) (off:=0) (v:=.bool y.null) gk5 rfl
   have hst:=cE (z:=0) (off:=0) (v:=.bool (x.null&&y.null)) go5 (by simp) rfl rfl
   have hfin:∀ (e2:dF) n6,n5≤n6→e2 0=ptr bid→e2 1=kv→e2 4=ptr nx→e2 5=ptr (nx+2)→e2 6=.int .i64 i→nY ro Q' e2 (h5.upd (nx+2) (some (.cells ([Value.bool x.null,fv2,lv2].set 0 (.bool (x.null&&y.null))).toArray aQ))) n6:=fun e2 n6 hn6 p0 p1 p4 p5 p6=>by
    unfold nY
    rw[p6]
    (repeat refine zzC ?_)
    exact hq (m - 1) _ _ _ _ (by omega) ⟨i+1,jU x y,fv2,lv2,qs2,by omega,by omega,p0,p1,p4,p5,rfl,hbk5.new hf (by omega),(hf5.mono (by omega)).upd (Nat.le_refl _) (by omega),hgp5.upd go5,hp5.updT go5 (by decide) (by decide) (by decide),by rw[T.get_upd_ne _ _ (by omega)]; exact gr5,by rw[T.get_upd_same]; rfl,i1.updT go5 (by decide),i2.updT go5 (by decide),hrt1,hrt2,hq2l,hq2n,hcat⟩ (aU.refl _)
   (have zy:=lo0;repeat refine zzCz ?_)
   cases hxn:x.null with
   | true =>
    (have zy:=lk0;repeat refine zzCz ?_)
    rw[hxn,Bool.true_and] at hst hfin
    refine aB hst ?_
    exact hfin _ _ (by omega) q0 q1 q4 q5 q6
   | false =>
    (repeat refine zzC ?_)
    rw[hxn,Bool.false_and] at hst hfin
    refine aB hst ?_
    exact hfin _ _ (by omega) q0 q1 q4 q5 q6
  have hj3:∀ (e':dF) h5 n5 (fv2:Value),nx'+9≤n5→BK lo h h5→Fr h5 n5→Gap nx h h5→PB h5 bid pv lo qs2→h5.get nx=some (.cells (kP (fU false) (.slice none 0 0) (.slice none 0 0)).toArray aQ) →
    h5.get (nx+2)=some (.cells [Value.bool x.null,fv2,lv].toArray aQ)→h5.get (nx'+8)=some (.cells (kP y yf yl).toArray aQ)→IT h5 fv2 (jU x y).first lo→IT h5 lv x.last lo→IT h5 yl y.last lo→e' 0=ptr bid→e' 1=kv→e' 4=ptr nx→e' 5=ptr (nx+2)→e' 6=.int .i64 i→e' 7=ptr (nx'+8)→kF ro Q' e' h5 n5:=fun e' h5 n5 fv2 hn5 hbk5 hf5 hgp5 hp5 gr5 go5 gk5 i1 i2 i3 q0 q1 q4 q5 q6 q7=>by
   unfold kF
   rw[q5,q7]
   have lo2:=bE (ro:=ro) (z:=0) (off:=2) (v:=lv) go5 rfl
   have lk0:=bE (ro:=ro) (z:=0) (off:=0) (v:=.bool y.null) gk5 rfl
   have lk2:=bE (ro:=ro) (z:=0) (off:=2) (v:=yl) gk5 rfl
   have hth:(jU x y).last=if y.null then fW x.last y.last else y.last:=rfl
   (have zy:=lk0;repeat refine zzCz ?_)
   cases hyn:y.null with
   | true =>
    (have zy:=And.intro lo2 lk2;repeat refine zzCz ?_)
    refine kE (a:=x.last) (b:=y.last) (by omega) (by omega) (hf5.mono (by omega)) i2.z i3.z fun r h6 n6 hn6 hs6 hf6 hr hg6=>?_
    have hst:=cE (z:=0) (off:=2) (v:=r) (hs6 _ _ go5) (by simp) (hr.z (ro:=ro)).ok (by rcases hr with ⟨rfl,_⟩ | ⟨_,_,rfl,_⟩<;>rfl)
    (repeat refine zzC ?_)
    refine aB hst ?_
    have go6:=hs6 _ _ go5
    refine hj4 _ _ _ fv2 r _ _ rfl (by rw[hth,hyn]; rfl) (by omega) ((hbk5.trans hs6.bk).new hf (by omega)) ((hf6.mono (by omega)).upd (Nat.le_refl _) (by omega)) ((hgp5.trans hg6 (by omega)).upd go6) ((hp5.sub hs6).updT go6 (by decide) (by decide) (by decide)) (by rw[T.get_upd_ne _ _ (by omega)]; exact hs6 _ _ gr5) (by rw[T.get_upd_same]; rfl) (by rw[T.get_upd_ne _ _ (by omega)]; exact hs6 _ _ gk5) ((i1.keepS hs6).updT go6 (by decide)) ((hr.mono (by omega)).updT go6 (by decide)) q0 q1 q4 q5 q6 q7
   | false =>
    have hst:=cE (z:=0) (off:=2) (v:=yl) go5 (by simp) (i3.z (ro:=ro)).ok (by rcases i3 with ⟨rfl,_⟩ | ⟨_,_,rfl,_⟩<;>rfl)
    (have zy:=lk2;repeat refine zzCz ?_)
    refine aB hst ?_
    refine hj4 _ _ _ fv2 yl _ _ rfl (by rw[hth,hyn]; rfl) (by omega) (hbk5.new hf (by omega)) ((hf5.mono (by omega)).upd (Nat.le_refl _) (by omega)) (hgp5.upd go5) (hp5.updT go5 (by decide) (by decide) (by decide)) (by rw[T.get_upd_ne _ _ (by omega)]; exact gr5) (by rw[T.get_upd_same]; rfl) (by rw[T.get_upd_ne _ _ (by omega)]; exact gk5) (i1.updT go5 (by decide)) (i3.updT go5 (by decide)) q0 q1 q4 q5 q6 q7
  have lo0:=bE (ro:=ro) (z:=0) (off:=0) (v:=.bool x.null) go4 rfl
  have lo1:=bE (ro:=ro) (z:=0) (off:=1) (v:=fv) go4 rfl
  have lk1':=bE (ro:=ro) (z:=0) (off:=1) (v:=yf) gk4 rfl
  have hth:(jU x y).first=if x.null then fW x.first y.first else x.first:=rfl
  (have zy:=lo0;repeat refine zzCz ?_)
  cases hxn:x.null with
  | true =>
   (have zy:=And.intro lo1 lk1';repeat refine zzCz ?_)
   refine kE (a:=x.first) (b:=y.first) (by omega) (by omega) (hf4.mono (by omega)) hfv4.z hyf4.z fun r h6 n6 hn6 hs6 hf6 hr hg6=>?_
   have go6:=hs6 _ _ go4
   have hst:=cE (z:=0) (off:=1) (v:=r) go6 (by simp[kP]) (hr.z (ro:=ro)).ok (by rcases hr with ⟨rfl,_⟩ | ⟨_,_,rfl,_⟩<;>rfl)
   (repeat refine zzC ?_)
   refine aB hst ?_
   refine hj3 _ _ _ r (by omega) ((hbk4.trans hs6.bk).new hf (by omega)) ((hf6.mono (by omega)).upd (Nat.le_refl _) (by omega)) ((hgp4.trans hg6 (by omega)).upd go6) ((hp4.sub hs6).updT go6 (by decide) (by decide) (by decide)) (by rw[T.get_upd_ne _ _ (by omega)]; exact hs6 _ _ gr4) (by rw[T.get_upd_same]; rfl) (by rw[T.get_upd_ne _ _ (by omega)]; exact hs6 _ _ gk4) (by rw[hth,hxn]; exact (hr.mono (by omega)).updT go6 (by decide)) ((hlv4.keepS hs6).updT go6 (by decide)) ((hyl4.keepS hs6).updT go6 (by decide)) e0 e1 e4 e5 e6 rfl
  | false =>
   (repeat refine zzC ?_)
   exact hj3 _ _ _ fv (by omega) hbk4 (hf4.mono (by omega)) hgp4 hp4 gr4 go4 gk4 (by rw[hth,hxn]; exact hfv4) hlv4 hyl4 e0 e1 e4 e5 e6 rfl
 ·(repeat refine zzC ?_)
  refine hx _ _ _ _ (fun e=>by cases e) (d3 (cU ?_))
  rw[eO (by omega)] at hcat
  have hcat:aAZ (zs.map Prod.fst) (fU true) (ps.map Prod.fst)=(x,qs.map Prod.fst):=hcat
  rw[hcat] at hK
  unfold nX
  show aA (loadA ro h' 3 (e 5)) fun t51=>aA (bH 3 h' (e 4) t51) fun h8=>aA (loadA ro h8 3 (e 4)) fun r9=>_
  rw[e4,e5]
  have hok:(kP x fv lv).all bV=true:=by have h1:=hfv.z (ro:=ro); have h2:=hlv.z (ro:=ro); simp[kP,h1.ok,h2.ok]; rfl
  refine aB (bX go rfl) (aB (eF (l:=kP (fU false) (.slice none 0 0) (.slice none 0 0)) (vs:=kP x fv lv) gr rfl rfl rfl hok) (aB (bX (by rw[T.get_upd_same]) rfl) ?_))
  refine⟨_,aU.refl _,hK _ qs _ _ (by omega) (hbk.new hf (Nat.le_refl _)) ((hf'.mono (by omega)).upd (Nat.le_refl _) (by omega)) (hgp.upd gr) (hp'.updT gr (by decide) (by decide) (by decide)) rfl ⟨fv,lv,rfl,hfv.updT gr (by decide),hlv.updT gr (by decide)⟩⟩
theorem aNy:∀ (xs:List InfD) (x:InfD) (P:List PosD),(aAZ xs x P).2.length=P.length
 | [],x,P=>rfl
 | y::r,x,P=>by
  show (aAZ r (jU x y) (fO P x.last y.first)).2.length=_
  rw[aNy r,aDP []]
theorem aI0 {f:Int→List PosD→InfD × List PosD}{g:Int→Nat}:∀ (ks:List Int) (P:List PosD),(∀ k∈ks,∀ P,(f k P).2.length≤P.length+g k)→(fY f ks P).2.length≤P.length+(ks.map g).sum
 | [],P,h=>by simp[fY]
 | k::r,P,h=>by
  have h1:=h k (by simp) P
  have h2:=aI0 r (f k P).2 (fun k hk=>h k (by simp[hk]))
  simp only[fY,List.map_cons,List.sum_cons]
  omega
theorem aGa (l:List NodeD) (rule:Int):∀ (n:Nat) (a:Int) (P:List PosD),(d8 l rule n a P).2.length≤P.length+mX l n a
 | 0,a,P=>by simp[d8,mX]
 | n+1,a,P=>by
  have hk:=aI0 (f:=d8 l rule n) (g:=fun k=>mX l n k) (bN l a).l P (fun k _ P=>aGa l rule n k P)
  unfold d8 mX
  split
  ·show P.length≤_; omega
  ·split
   ·simp[aCg]
   ·split
    ·simp[aCg]
    ·simp only
     split
     ·rw[aNy]; omega
     ·split
      ·simp only; rw[aDP []]; omega
      ·simp only; omega
theorem aJd {l:List NodeD} (hr:jW l=true) {rule:Int}{n:Nat}{a:Int} (h0:0≤a) (h1:a < n) (h2:a < l.length) {P:List PosD} (hP:∀ x∈P,rz (-1) P.length x.next=true) :
  P.length≤(d8 l rule n a P).2.length∧rz (-1) (d8 l rule n a P).2.length (d8 l rule n a P).1.first=true∧rz (-1) (d8 l rule n a P).2.length (d8 l rule n a P).1.last=true∧∀ x∈(d8 l rule n a P).2,rz (-1) (d8 l rule n a P).2.length x.next=true:=by
 obtain⟨g,k⟩:=aJe hr [] rule n a h0 h1 h2 P
 have hle:=g.le
 refine⟨hle,lO k.first (by omega) (Int.le_refl _),lO k.last (by omega) (Int.le_refl _),fun x hx=>?_⟩
 obtain⟨j,hj,rfl⟩:=List.mem_iff_getElem.1 hx
 have e:∀ (Q:List PosD) (hq:j < Q.length),cA Q (j:Int)=Q[j]:=fun Q hq=>by
  unfold cA
  rw[Int.toNat_natCast,List.getD_eq_getElem?_getD,List.getElem?_eq_getElem hq]; rfl
 rw[← e _ hj]
 by_cases hjp:j < P.length
 ·rw[g.old (j:Int) (by omega) (by omega),e P hjp]
  exact lO (hP _ (List.getElem_mem hjp)) (Int.le_refl _) (by omega)
 ·exact lO (k.next (j:Int) (by omega) (by omega)) (by omega) (Int.le_refl _)
theorem aOP {l:List NodeD} (hr:jW l=true) {rule:Int}{n:Nat}:∀ (ks:List Int) (P:List PosD),(∀ k∈ks,0≤k∧k < n∧k < l.length)→(∀ x∈P,rz (-1) P.length x.next=true) →
  P.length≤(fY (d8 l rule n) ks P).2.length∧(∀ y∈(fY (d8 l rule n) ks P).1,rz (-1) (fY (d8 l rule n) ks P).2.length y.first=true∧rz (-1) (fY (d8 l rule n) ks P).2.length y.last=true)∧∀ x∈(fY (d8 l rule n) ks P).2,rz (-1) (fY (d8 l rule n) ks P).2.length x.next=true
 | [],P,_,hP=>⟨Nat.le_refl _,fun y hy=>(by cases hy),hP⟩
 | k::r,P,hk,hP=>by
  have hk0:=hk k (by simp)
  obtain⟨a1,a2,a3,a4⟩:=aJd hr (rule:=rule) hk0.1 hk0.2.1 hk0.2.2 hP
  obtain⟨b1,b2,b3⟩:=aOP hr (rule:=rule) (n:=n) r (d8 l rule n k P).2 (fun k hk2=>hk k (by simp[hk2])) a4
  simp only[fY]
  refine⟨Nat.le_trans a1 b1,fun y hy=>?_,b3⟩
  rcases List.mem_cons.1 hy with rfl | hy
  ·exact⟨lO a2 (Int.le_refl _) (by omega),lO a3 (Int.le_refl _) (by omega)⟩
  ·exact b2 y hy
theorem aW5 {m:Int}{x y:InfD} (h1:rz (-1) m x.first=true) (h2:rz (-1) m x.last=true) (h3:rz (-1) m y.first=true) (h4:rz (-1) m y.last=true):rz (-1) m (orI x y).first=true∧rz (-1) m (orI x y).last=true:=⟨lE h1 h3,lE h2 h4⟩
def aNp (lo bid nx:Nat) (h:T Obj) (X:InfD) (P:List PosD) (K:KV):Prop:=∀ r pv' ps' h' nx',nx≤nx'→BK lo h h'→Fr h' nx'→Gap nx h h'→PB h' bid pv' lo ps'→ps'.map Prod.fst=P→aJD h' r X lo→K r h' nx'
theorem aNB {h:T Obj}{fv lv:Value}{x:InfD}{lo:Nat} (h1:IT h fv x.first lo) (h2:IT h lv x.last lo):(kP x fv lv).all bV=true:=by
 have g1:=h1.z (ro:=fun _=>none)
 have g2:=h2.z (ro:=fun _=>none)
 simp[kP,g1.ok,g2.ok]; rfl
theorem nT {h:T Obj}{v:Value}{l:List Int}{lo:Nat} (ho:IT h v l lo):bV v=true∧v.cells=#[v]:=⟨(ho.z (ro:=fun _=>none)).ok,by rcases ho with ⟨rfl,_⟩ | ⟨_,_,rfl,_⟩<;>rfl⟩
theorem aAh {ro:Ro}{lo bid nx m:Nat}{h h':T Obj}{X:InfD}{P:List PosD}{K:KV}{pv fv lv:Value}{x0:InfD}{f0 l0:Value}{ps:List (PosD × Value)} (hK:aNp lo bid nx h X P K) (hf:Fr h nx) (hm:nx < m) (hb:BK lo h h') (hf':Fr h' m) (hgp:Gap nx h h') (hp:PB h' bid pv lo ps) (hps:ps.map Prod.fst=P)
  (g:h'.get nx=some (.cells (kP x0 f0 l0).toArray aQ)) (h1:IT h' fv X.first lo) (h2:IT h' lv X.last lo) (n1:Nat) (hn1:m≤n1) :
  aA (bH 3 h' (ptr nx) (.agg (kP X fv lv).toArray)) fun h8=>aA (loadA ro h8 3 (ptr nx)) fun r9=>∃ h10,aU h10 h8∧K r9 h10 n1:=by
 refine aB (eF (l:=kP x0 f0 l0) (vs:=kP X fv lv) g rfl rfl rfl (aNB h1 h2)) (aB (bX (by rw[T.get_upd_same]) rfl) ?_)
 exact⟨_,aU.refl _,hK _ pv ps _ _ (by omega) (hb.new hf (Nat.le_refl _)) ((hf'.mono (by omega)).upd (Nat.le_refl _) (by omega)) (hgp.upd g) (hp.updT g (by decide) (by decide) (by decide)) hps ⟨fv,lv,rfl,h1.updT g (by decide),h2.updT g (by decide)⟩⟩
set_option maxRecDepth 4000 in
set_option maxHeartbeats 8000000 in
theorem aUB {ro:Ro}{nd:NodeD}{nlv kv pv:Value}{zs:List (InfD × Value × Value)}{ps:List (PosD × Value)}{h h':T Obj}{bid lo nx n1:Nat}{K:KV}{e:dF}{X:InfD}{P:List PosD}{x0:InfD}{f0 l0:Value} (hK:aNp lo bid nx h X P K) (hf:Fr h nx) (hlo:lo≤nx) (hn1:nx+6≤n1) (hb:BK lo h h') (hf':Fr h' n1) (hgp:Gap nx h h') (hp:PB h' bid pv lo ps) (hN:ps.length≤2000)
  (g:h'.get nx=some (.cells (kP x0 f0 l0).toArray aQ)) (gn:h'.get (nx+5)=some (.cells (pO nd nlv).toArray dH)) (hz:RInfs h' kv zs lo) (hzl:zs.length≤1000000) (hrz:∀ z∈zs,rz (-1) ps.length z.1.first=true∧rz (-1) ps.length z.1.last=true) (hnx:∀ x∈ps,rz (-1) ps.length x.1.next=true)
  (e0:e 0=ptr bid) (e8:e 8=ptr nx) (e9:e 9=ptr (nx+5)) (e10:e 10=kv)
  (hXP:(X,P)=if nd.op=3 then aAZ (zs.map Prod.fst) (fU true) (ps.map Prod.fst) else if nd.op=5 then ((zs.map Prod.fst).foldl orI (fU (decide (nd.op=5))),fO (ps.map Prod.fst) ((zs.map Prod.fst).foldl orI (fU (decide (nd.op=5)))).last ((zs.map Prod.fst).foldl orI (fU (decide (nd.op=5)))).first) else ((zs.map Prod.fst).foldl orI (fU (decide (nd.op=5))),ps.map Prod.fst)):fT ro K e h' n1:=by
 unfold fT
 rw[e0,e8,e9,e10]
 obtain⟨g0,g5,g6,g7,g8⟩:=o7 nd nlv
 have l0':=bE (ro:=ro) (z:=0) gn g0
 (have zy:=l0';repeat refine zzCz ?_)
 refine i4 (fun h3=>?_) (fun h3=>?_)
 ·rw[if_pos (show nd.op=3 by omega)] at hXP
  refine aG ?_
  refine aLz hp (by omega) (hf'.mono (by omega)) hz hzl hN hrz hnx fun r ps' h2 n2 hn2 hb2 hf2 hg2 hp2 hps2 hr2=>?_
  obtain⟨fv,lv,rfl,i1,i2⟩:=hr2
  rw[← hXP] at i1 i2 hps2 ⊢
  exact aAh hK hf (by omega) (hb.trans hb2) hf2 (hgp.trans hg2 (by omega)) hp2 hps2 (hb2.cells g (by decide)) i1 i2 _ (by omega)
 ·rw[if_neg (show ¬ nd.op=3 by omega)] at hXP
  have hb5:decide ((nd.op:Int)=5)=decide (nd.op=5):=by
   by_cases h5:nd.op=5
   ·rw[decide_eq_true h5,decide_eq_true (by omega)]
   ·rw[decide_eq_false h5,decide_eq_false (by omega)]
  (have zy:=l0';repeat refine zzCz ?_)
  refine aB (aW _ _ _) ?_
  rw[hb5]
  generalize hB:decide (nd.op=5)=B at hXP
  refine aB (aDy B) ?_
  refine gP (n:=3) (x:=kP (fU B) (.slice none 0 0) (.slice none 0 0)) wY rfl rfl rfl rfl hf' (by omega) fun h1 hs1 hf1 g1 hg1=>?_
  generalize hO:n1+7=o at g1 hf1 ⊢
  refine bD (fun m e h2 nx'=>∃ (i:Nat) (x:InfD) (fv lv:Value),i+m=zs.length∧o < nx'∧e 0=ptr bid∧e 8=ptr nx∧e 9=ptr (nx+5)∧e 10=kv∧e 12=ptr o∧e 13=.int .i64 i∧BK lo h' h2∧Fr h2 nx'∧Gap nx h h2∧PB h2 bid pv lo ps ∧
    h2.get o=some (.cells (kP x fv lv).toArray aQ)∧IT h2 fv x.first lo∧IT h2 lv x.last lo∧rz (-1) ps.length x.first=true∧rz (-1) ps.length x.last=true∧(zs.map Prod.fst).foldl orI (fU B)=((zs.drop i).map Prod.fst).foldl orI x) ?_ (n:=zs.length)
   ⟨0,fU B,_,_,by omega,by omega,e0,e8,e9,e10,rfl,rfl,hs1.bk,hf1.mono (by omega),(fun k hk hn=>by rw[hg1 k (by omega)]; exact hgp k hk hn),hp.sub hs1,g1,bL.nil,bL.nil,rfl,rfl,rfl⟩
  rintro m e h2 nx' ⟨i,x,fv,lv,him,hnx',e0,e8,e9,e10,e12,e13,hbk,hf2,hgp2,hp2,go,i1,i2,r1,r2,hfo⟩ Q' hq hx
  unfold rC
  rw[e10,e12,e13]
  have hz':=hz.bk hbk
  have hkl:bM kv=some (.int .i64 zs.length):=by
   have:=(hz'.ow.sl (ro:=ro)).len
   rwa [uS] at this
  (have zy:=hkl;repeat refine zzCz ?_)
  refine cM (fun hi=>?_) (fun hi=>?_)
  ·have hi:i < zs.length:=by omega
   have hsl:=hz'.ow.sl (ro:=ro)
   have hgi:(aGX zs)[i]?=some (kP (zs[i]).1 (zs[i]).2.1 (zs[i]).2.2):=by unfold aGX; rw[List.getElem?_map,List.getElem?_eq_getElem hi]; rfl
   have y1:=hsl.ix .i64 (i:=i) (by rw[uS]; exact hi)
   have hzi:=hz.els _ (List.getElem_mem hi)
   have hrz2:=hrz _ (List.getElem_mem hi)
   rw[cP hi,List.map_cons,List.foldl_cons] at hfo
   have y2:=hsl.fwd (i:=i) (by rw[uS]; exact hi)
   have y3:∀ h3,BK lo h' h3→load1 ro h3 (fP 3 kv i 0)=some (.bool (zs[i]).1.null)∧load1 ro h3 (fP 3 kv i 1)=some (zs[i]).2.1∧load1 ro h3 (fP 3 kv i 2)=some (zs[i]).2.2:=fun h3 hb3=>by
    have hsl3:=(hz.bk hb3).ow.sl (ro:=ro)
    exact⟨hsl3.load1K hgi rfl,hsl3.load1K hgi rfl,hsl3.load1K hgi rfl⟩
   generalize zs[i]=z at *
   obtain⟨y,yf,yl⟩:=z
   simp only at hzi hrz2 hfo y3 hgi
   have hyf:=hbk.it hzi.1
   have hyl:=hbk.it hzi.2
   obtain⟨hrt1,hrt2⟩:=aW5 r1 r2 hrz2.1 hrz2.2
   have hlf:=iQ r1 (by omega)
   have hll:=iQ r2 (by omega)
   have hlyf:=iQ hrz2.1 (by omega)
   have hlyl:=iQ hrz2.2 (by omega)
   have lo0:=bE (ro:=ro) (z:=0) (off:=0) (v:=.bool x.null) go rfl
   have y20:=y2 0
   have y21:=y2 1
   have y22:=y2 2
   obtain⟨w0,-,-⟩:=y3 h2 hbk
   have hst:∀ c:Bool,bH 1 h2 (at_ o 0 0) (.bool c)=some (h2.upd o (some (.cells [Value.bool c,fv,lv].toArray aQ))):=fun c=>cE (z:=0) (off:=0) (v:=.bool c) go (by simp[kP]) rfl rfl
   have hor:(orI x y).null=(x.null || y.null):=rfl
   (have zy:=lo0;repeat refine zzCz ?_)
   cases hxn:x.null<;>rw[hxn] at hor
   ·(have zy:=And.intro y1 (And.intro y20 w0);repeat refine zzCz ?_)
    rw[Bool.false_or] at hor
    refine aB (hst _) ?_
    generalize hc3:h2.upd o _=h3
    have go3:h3.get o=some (.cells [Value.bool (orI x y).null,fv,lv].toArray aQ):=by rw[← hc3,hor]; exact T.get_upd_same _ _ _
    have hb3:BK lo h' h3:=by rw[← hc3]; exact hbk.new hf' (by omega)
    have hf3:Fr h3 nx':=by rw[← hc3]; exact hf2.upd (Nat.le_refl _) (by omega)
    have hgp3:Gap nx h h3:=by rw[← hc3]; exact hgp2.upd go
    have hp3:PB h3 bid pv lo ps:=by rw[← hc3]; exact hp2.updT go (by decide) (by decide) (by decide)
    have i13:IT h3 fv x.first lo:=by rw[← hc3]; exact i1.updT go (by decide)
    have i23:IT h3 lv x.last lo:=by rw[← hc3]; exact i2.updT go (by decide)
    clear hc3
    obtain⟨-,w1,-⟩:=y3 h3 hb3
    have lo1:=bE (ro:=ro) (z:=0) (off:=1) (v:=fv) go3 rfl
    (have zy:=And.intro lo1 (And.intro y1 (And.intro y21 w1));repeat refine zzCz ?_)
    refine kE (a:=x.first) (b:=y.first) (by omega) (by omega) (hf3.mono (by omega)) i13.z (hb3.it hzi.1).z fun r h4 n4 hn4 hs4 hf4 hr hg4=>?_
    have go4:=hs4 _ _ go3
    have hst4:=cE (z:=0) (off:=1) (v:=r) go4 (by simp) (nT hr).1 (nT hr).2
    (repeat refine zzC ?_)
    refine aB hst4 ?_
    generalize hc5:h4.upd o _=h5
    have go5:h5.get o=some (.cells [Value.bool (orI x y).null,r,lv].toArray aQ):=by rw[← hc5]; exact T.get_upd_same _ _ _
    have hb5:BK lo h' h5:=by rw[← hc5]; exact (hb3.trans hs4.bk).new hf' (by omega)
    have hf5:Fr h5 n4:=by rw[← hc5]; exact hf4.upd (Nat.le_refl _) (by omega)
    have hgp5:Gap nx h h5:=by rw[← hc5]; exact (hgp3.trans hg4 (by omega)).upd go4
    have hp5:PB h5 bid pv lo ps:=by rw[← hc5]; exact (hp3.sub hs4).updT go4 (by decide) (by decide) (by decide)
    have i15:IT h5 r (orI x y).first lo:=by rw[← hc5]; exact (hr.mono (by omega)).updT go4 (by decide)
    have i25:IT h5 lv x.last lo:=by rw[← hc5]; exact (i23.keepS hs4).updT go4 (by decide)
    clear hc5
    obtain⟨-,-,w2⟩:=y3 h5 hb5
    have lo2:=bE (ro:=ro) (z:=0) (off:=2) (v:=lv) go5 rfl
    (have zy:=And.intro lo2 (And.intro y1 (And.intro y22 w2));repeat refine zzCz ?_)
    refine kE (a:=x.last) (b:=y.last) (by omega) (by omega) (hf5.mono (by omega)) i25.z (hb5.it hzi.2).z fun r6 h6 n6 hn6 hs6 hf6 hr6 hg6=>?_
    have go6:=hs6 _ _ go5
    have hst6:=cE (z:=0) (off:=2) (v:=r6) go6 (by simp) (nT hr6).1 (nT hr6).2
    (repeat refine zzC ?_)
    refine aB hst6 ?_
    (repeat refine zzC ?_)
    exact hq (m - 1) _ _ _ _ (by omega) ⟨i+1,orI x y,r,r6,by omega,by omega,e0,e8,e9,e10,e12,rfl,(hb5.trans hs6.bk).new hf' (by omega),(hf6.mono (by omega)).upd (Nat.le_refl _) (by omega),(hgp5.trans hg6 (by omega)).upd go6,(hp5.sub hs6).updT go6 (by decide) (by decide) (by decide),by rw[T.get_upd_same]; rfl,(i15.keepS hs6).updT go6 (by decide),(hr6.mono (by omega)).updT go6 (by decide),hrt1,hrt2,hfo⟩ (aU.refl _)
   ·(repeat refine zzC ?_)
    rw[Bool.true_or] at hor
    refine aB (hst _) ?_
    generalize hc3:h2.upd o _=h3
    have go3:h3.get o=some (.cells [Value.bool (orI x y).null,fv,lv].toArray aQ):=by rw[← hc3,hor]; exact T.get_upd_same _ _ _
    have hb3:BK lo h' h3:=by rw[← hc3]; exact hbk.new hf' (by omega)
    have hf3:Fr h3 nx':=by rw[← hc3]; exact hf2.upd (Nat.le_refl _) (by omega)
    have hgp3:Gap nx h h3:=by rw[← hc3]; exact hgp2.upd go
    have hp3:PB h3 bid pv lo ps:=by rw[← hc3]; exact hp2.updT go (by decide) (by decide) (by decide)
    have i13:IT h3 fv x.first lo:=by rw[← hc3]; exact i1.updT go (by decide)
    have i23:IT h3 lv x.last lo:=by rw[← hc3]; exact i2.updT go (by decide)
    clear hc3
    obtain⟨-,w1,-⟩:=y3 h3 hb3
    have lo1:=bE (ro:=ro) (z:=0) (off:=1) (v:=fv) go3 rfl
    (have zy:=And.intro lo1 (And.intro y1 (And.intro y21 w1));repeat refine zzCz ?_)
    refine kE (a:=x.first) (b:=y.first) (by omega) (by omega) (hf3.mono (by omega)) i13.z (hb3.it hzi.1).z fun r h4 n4 hn4 hs4 hf4 hr hg4=>?_
    have go4:=hs4 _ _ go3
    have hst4:=cE (z:=0) (off:=1) (v:=r) go4 (by simp) (nT hr).1 (nT hr).2
    (repeat refine zzC ?_)
    refine aB hst4 ?_
    generalize hc5:h4.upd o _=h5
    have go5:h5.get o=some (.cells [Value.bool (orI x y).null,r,lv].toArray aQ):=by rw[← hc5]; exact T.get_upd_same _ _ _
    have hb5:BK lo h' h5:=by rw[← hc5]; exact (hb3.trans hs4.bk).new hf' (by omega)
    have hf5:Fr h5 n4:=by rw[← hc5]; exact hf4.upd (Nat.le_refl _) (by omega)
    have hgp5:Gap nx h h5:=by rw[← hc5]; exact (hgp3.trans hg4 (by omega)).upd go4
    have hp5:PB h5 bid pv lo ps:=by rw[← hc5]; exact (hp3.sub hs4).updT go4 (by decide) (by decide) (by decide)
    have i15:IT h5 r (orI x y).first lo:=by rw[← hc5]; exact (hr.mono (by omega)).updT go4 (by decide)
    have i25:IT h5 lv x.last lo:=by rw[← hc5]; exact (i23.keepS hs4).updT go4 (by decide)
    clear hc5
    obtain⟨-,-,w2⟩:=y3 h5 hb5
    have lo2:=bE (ro:=ro) (z:=0) (off:=2) (v:=lv) go5 rfl
    (have zy:=And.intro lo2 (And.intro y1 (And.intro y22 w2));repeat refine zzCz ?_)
    refine kE (a:=x.last) (b:=y.last) (by omega) (by omega) (hf5.mono (by omega)) i25.z (hb5.it hzi.2).z fun r6 h6 n6 hn6 hs6 hf6 hr6 hg6=>?_
    have go6:=hs6 _ _ go5
    have hst6:=cE (z:=0) (off:=2) (v:=r6) go6 (by simp) (nT hr6).1 (nT hr6).2
    (repeat refine zzC ?_)
    refine aB hst6 ?_
    (repeat refine zzC ?_)
    exact hq (m - 1) _ _ _ _ (by omega) ⟨i+1,orI x y,r,r6,by omega,by omega,e0,e8,e9,e10,e12,rfl,(hb5.trans hs6.bk).new hf' (by omega),(hf6.mono (by omega)).upd (Nat.le_refl _) (by omega),(hgp5.trans hg6 (by omega)).upd go6,(hp5.sub hs6).updT go6 (by decide) (by decide) (by decide),by rw[T.get_upd_same]; rfl,(i15.keepS hs6).updT go6 (by decide),(hr6.mono (by omega)).updT go6 (by decide),hrt1,hrt2,hfo⟩ (aU.refl _)
  ·(repeat refine zzC ?_)
   refine hx _ _ _ _ (fun e=>by cases e) (d3 (cU ?_))
   rw[eO (by omega)] at hfo
   have hfo:(zs.map Prod.fst).foldl orI (fU B)=x:=hfo
   rw[hfo] at hXP
   unfold mP
   have l02:=bE (ro:=ro) (z:=0) (hbk.cells gn (by decide)) g0
   have hgr:=hbk.cells g (by decide)
   have hj3:∀ (e':dF) h3 n3 (qs:List (PosD × Value)),n1≤n3→BK lo h2 h3→Fr h3 n3→Gap nx h h3→PB h3 bid pv lo qs→qs.map Prod.fst=P→X=x→e' 8=ptr nx→e' 12=ptr o→jK ro K e' h3 n3:=fun e' h3 n3 qs hn3 hb3 hf3 hgp3 hp3 hqP hXx q8 q12=>by
    subst hXx
    unfold jK
    rw[q8,q12]
    refine aB (bX (hb3.cells go (by decide)) rfl) ?_
    exact aAh hK hf (by omega) (hb.trans (hbk.trans hb3)) hf3 hgp3 hp3 hqP (hb3.cells hgr (by decide)) (hb3.it i1) (hb3.it i2) (n3+2) (by omega)
   generalize hE:puts e _=E
   have E0:E 0=ptr bid:=by rw[← hE]; exact e0
   have E8:E 8=ptr nx:=by rw[← hE]; exact e8
   have E9:E 9=ptr (nx+5):=by rw[← hE]; exact e9
   have E12:E 12=ptr o:=by rw[← hE]; exact e12
   rw[E0,E9,E12]
   (have zy:=l02;repeat refine zzCz ?_)
   refine i4 (fun h5=>?_) (fun h5=>?_)
   ·have h5':nd.op=5:=by omega
    rw[if_pos h5'] at hXP
    have lo1:=bE (ro:=ro) (z:=0) (off:=1) (v:=fv) go rfl
    have lo2:=bE (ro:=ro) (z:=0) (off:=2) (v:=lv) go rfl
    (have zy:=And.intro lo1 lo2;repeat refine zzCz ?_)
    refine aDf (ro:=ro) (N:=ps.length) hp2 (by omega) (hf2.mono (by omega)) i2 i1 hN r2 (Nat.le_refl _) r1 hnx fun qs h4 n4 hn4 hb4 hf4 hg4 hp4 hqm=>?_
    exact hj3 _ _ _ qs (by omega) hb4 hf4 (hgp2.trans hg4 (by omega)) hp4 (by rw[hqm]; exact (congrArg Prod.snd hXP).symm) (congrArg Prod.fst hXP) E8 E12
   ·have h5':¬ nd.op=5:=by omega
    rw[if_neg h5'] at hXP
    (repeat refine zzC ?_)
    exact hj3 _ _ _ ps (by omega) (BK.refl _ _) (hf2.mono (by omega)) hgp2 hp2 (congrArg Prod.snd hXP).symm (congrArg Prod.fst hXP) E8 E12
theorem bL.kpT {h h':T Obj}{v w:Value}{z z':Nat}{e e':TypeId}{l l':List (List Value)}{lo lo':Nat} (ho:bL h v z e l lo) (hw:bL h w z' e' l' lo') (he:e≠e') (hk:Kp w h h'):bL h' v z e l lo:=by
 rcases ho with ho | ⟨id,h1,rfl,h4,h5⟩
 ·exact .inl ho
 ·exact .inr ⟨id,h1,rfl,h4,hk id _ h5 (hw.ne h5 he)⟩
theorem PB.kpT {h h':T Obj}{bid lo z:Nat}{pv w:Value}{ps:List (PosD × Value)}{l':List (List Value)}{lo':Nat} (hp:PB h bid pv lo ps) (hw:bL h w z aQ l' lo') (hk:Kp w h h'):PB h' bid pv lo ps :=
 ⟨hk _ _ hp.blk (hw.ne hp.blk (by decide)),hp.lb,hp.ow.kpT hw (by decide) hk,fun x hx=>⟨(hp.els x hx).1.kpT hw (by decide) hk,(hp.els x hx).2⟩⟩
theorem aRe (aid:Nat) (x:InfD) (fv lv:Value):bC Tryz.prog iL aid 1 [(0,.agg (kP x fv lv).toArray)]=some (.slice (some (own aid 3)) 1 1,some (.cells (kP x fv lv).toArray aQ)):=by kernel_rfl
theorem aRk:gG Tryz.prog iL=some (.slice aQ):=by kernel_rfl
theorem aRh:∃ i,tin Tryz.prog aQ=some i∧i.size=3∧i.bytes=56:=aG8 (by kernel_rfl)
theorem aSw {g:Int→Nat}:∀ (r:List Int),(∀ k∈r,1≤g k)→r.length≤(r.map g).sum
 | [],_=>Nat.le_refl _
 | k::r,h=>by
  have h1:=h k (by simp)
  have h2:=aSw r fun k hk=>h k (by simp[hk])
  simp only[List.length_cons,List.map_cons,List.sum_cons]
  omega
theorem aPY {f:Int→List PosD→InfD × List PosD} (k:Int) (r:List Int) (P:List PosD):fY f (k::r) P=((f k P).1::(fY f r (f k P).2).1,(fY f r (f k P).2).2):=rfl
theorem aPT (zs:List (InfD × Value × Value)) (z:InfD × Value × Value):aGX (zs++[z])=aGX zs++[kP z.1 z.2.1 z.2.2]:=by simp[aGX]
set_option maxRecDepth 4000 in
set_option maxHeartbeats 8000000 in
theorem aDg {ro:Ro}{v:Value}{l:List NodeD}{h0:T Obj}{bid lo:Nat}{rule:Int} (hl:oV ro h0 v l) (hr8:jW l=true) (hf0:Fr h0 lo):∀ (n:Nat) (a:Int) (ps:List (PosD × Value)) (pv:Value) (h:T Obj) (nx:Nat) (K:KV),0≤a→a < n→a < l.length→aU h0 h→Fr h nx→lo≤nx→PB h bid pv lo ps→ps.length+mX l n a≤2000→(∀ x∈ps,rz (-1) ps.length x.1.next=true) →
  aNp lo bid nx h (d8 l rule n a (ps.map Prod.fst)).1 (d8 l rule n a (ps.map Prod.fst)).2 K→aN Tryz.prog ro iJ [ptr bid,v,.int .i64 a,.int .i64 rule] h nx K
 | 0,a,ps,pv,h,nx,K,_,_,_,_,_,_,_,_,_,_=>by omega
 | n+1,a,ps,pv,h,nx,K,ha0,ha1,ha2,hs,hf,hlo,hp,hvis,hnx,hK=>by
  apply aAR
  unfold vJ
  have hr6:iY l=true:=by unfold jW at hr8; simp only[Bool.and_eq_true] at hr8; exact hr8.1
  have hr4:gV l=true:=by unfold iY at hr6; simp only[Bool.and_eq_true] at hr6; exact hr6.2
  have hkids:=aFd hr4 ha0 ha2
  have hsh:=aBP hr4 (x:=a) (by omega)
  have hl4:=vQ hr4
  have hplk:=aGk hr6 ha0 ha2
  have hvk:mX l (n+1) a=((bN l a).l.map fun k=>mX l n k).sum+1:=rfl
  have hE:d8 l rule (n+1) a (ps.map Prod.fst)=(if (bN l a).op=1 then (fU true,ps.map Prod.fst)
   else if (bN l a).op=2 then aCg (ps.map Prod.fst) (bN l a).s 1 1 rule
   else if (bN l a).op=5∧(bN l a).hi≠-1 then aCg (ps.map Prod.fst) (bN l ((bN l a).l.headD 0)).s (bN l a).lo (bN l a).hi rule
   else
    if (bN l a).op=3 then aAZ (fY (d8 l rule n) (bN l a).l (ps.map Prod.fst)).1 (fU true) (fY (d8 l rule n) (bN l a).l (ps.map Prod.fst)).2
    else if (bN l a).op=5 then ((fY (d8 l rule n) (bN l a).l (ps.map Prod.fst)).1.foldl orI (fU (decide ((bN l a).op=5))),fO (fY (d8 l rule n) (bN l a).l (ps.map Prod.fst)).2 ((fY (d8 l rule n) (bN l a).l (ps.map Prod.fst)).1.foldl orI (fU (decide ((bN l a).op=5)))).last ((fY (d8 l rule n) (bN l a).l (ps.map Prod.fst)).1.foldl orI (fU (decide ((bN l a).op=5)))).first)
     else ((fY (d8 l rule n) (bN l a).l (ps.map Prod.fst)).1.foldl orI (fU (decide ((bN l a).op=5))),(fY (d8 l rule n) (bN l a).l (ps.map Prod.fst)).2)):=rfl
  generalize hXP:d8 l rule (n+1) a (ps.map Prod.fst)=XP at hK hE
  obtain⟨X,P⟩:=XP
  simp only at hK
  clear hXP
  have hkid2:=fun (h5:(bN l a).op=5)=>aDV (hl.sub hs) (hplk h5).2.1 (hplk h5).2.2
  obtain⟨nlv,z10,z2,z3,z4,z5,-,-,-,-,z80⟩:=aDV hl ha0 ha2
  have z1:=z10.sub hs
  have z8:=yM hs z80
  have ihk:∀ k∈(bN l a).l,∀ (ps:List (PosD × Value)) (pv:Value) (h:T Obj) (nx:Nat) (K:KV),aU h0 h→Fr h nx→lo≤nx→PB h bid pv lo ps→ps.length+mX l n k≤2000→(∀ x∈ps,rz (-1) ps.length x.1.next=true) →
    aNp lo bid nx h (d8 l rule n k (ps.map Prod.fst)).1 (d8 l rule n k (ps.map Prod.fst)).2 K→aN Tryz.prog ro iJ [ptr bid,v,.int .i64 k,.int .i64 rule] h nx K:=fun k hk ps pv h nx K =>
   aDg hl hr8 hf0 n k ps pv h nx K (hkids k hk).1 (by have:=(hkids k hk).2; omega) (by have:=(hkids k hk).2; omega)
  have hin:∀ k∈(bN l a).l,0≤k∧k < n∧k < l.length:=fun k hk=>⟨(hkids k hk).1,by have:=(hkids k hk).2; omega,by have:=(hkids k hk).2; omega⟩
  generalize bN l a=nd at *
  refine aB wY ?_
  refine zO hf (Nat.le_refl _) fun h1 hs1 hf1 g1 hg1=>?_
  have z8':=yM hs1 z8
  (have zy:=And.intro z4 z8';repeat refine zzCz ?_)
  refine gP (n:=9) (x:=pO nd nlv) aH3 rfl rfl rfl (aJc z1.ok) hf1 (by omega) fun h2 hs2 hf2 g2 hg2=>?_
  obtain⟨g0,g5,g6,g7,g8⟩:=o7 nd nlv
  have l0:=bE (ro:=ro) (z:=0) g2 g0
  have l5:=bE (ro:=ro) (z:=0) g2 g5
  have l6:=bE (ro:=ro) (z:=0) g2 g6
  have l7:=bE (ro:=ro) (z:=0) g2 g7
  have hset:loadA ro h2 4 (at_ (nx+5) 1 0)=some (qV nd.s):=by
   rw[cQ,g2]
   rfl
  have gr:=hs2 _ _ g1
  have hs12:=hs1.trans hs2
  have hp2:=hp.sub hs12
  have hgp2:Gap nx h h2:=fun k hk hn=>by rw[hg2 k (by omega),hg1 k (by omega)]; exact hn
  by_cases o1:nd.op=1
  ·rw[if_pos o1] at hE
   have hX:X=fU true:=congrArg Prod.fst hE
   have hP:P=ps.map Prod.fst:=congrArg Prod.snd hE
   subst hX hP
   (have zy:=l0;repeat refine zzCz ?_)
   refine aB (aDy true) ?_
   exact aAh (ro:=ro) hK hf (by omega) hs12.bk hf2 hgp2 hp2 rfl gr bL.nil bL.nil _ (by omega)
  ·rw[if_neg o1] at hE
   by_cases o2:nd.op=2
   ·rw[if_pos o2] at hE
    have hX:X=⟨false,[((ps.map Prod.fst).length:Int)],[((ps.map Prod.fst).length:Int)]⟩:=congrArg Prod.fst hE
    have hP:P=ps.map Prod.fst++[⟨nd.s,1,1,rule,false,[]⟩]:=congrArg Prod.snd hE
    (have zy:=And.intro l0 hset;repeat refine zzCz ?_)
    refine aB (aNu _ _ _ _) ?_
    refine aFM hp2 (by omega) (hf2.mono (by omega)) z2 (by omega) fun r pv' h3 n3 hn3 hb3 hf3 hg3 hp3 hr3=>?_
    obtain⟨fv,lv,rfl,i1,i2⟩:=hr3
    have hlm:((ps.map Prod.fst).length:Int)=(ps.length:Int):=by rw[List.length_map]
    rw[hlm] at hX
    subst hX
    exact aAh (ro:=ro) hK hf (by omega) (hs12.bk.trans hb3) hf3 (hgp2.trans hg3 (by omega)) hp3 (by rw[hP,List.map_append]; rfl) (hb3.cells gr (by decide)) i1 i2 _ (by omega)
   ·rw[if_neg o2] at hE
    by_cases o5:nd.op=5∧nd.hi≠-1
    ·rw[if_pos o5] at hE
     obtain⟨lv2,q1,q2,q3,q4,q5,q6,q7,_,_,q8⟩:=hkid2 o5.1
     have hne:=(hplk o5.1).1
     have hhd:=aLA hne
     have y1:=(z1.sub hs12).ix .i64 hne
     have y2:=(z1.sub hs12).load hne
     rw[hhd] at y2
     have hk0:=(hplk o5.1).2.1
     have hk1:=(hplk o5.1).2.2
     have hset2:loadA ro h2 4 (fP 9 v (nd.l.headD 0).toNat 1)=some (qV (bN l (nd.l.headD 0)).s):=by
      obtain⟨x,⟨lvx,hx1,hx2⟩,hx3⟩:=gD.loadAK (hl.sub (hs.trans hs12)) (i:=(nd.l.headD 0).toNat) (by omega)
      have e:l[(nd.l.headD 0).toNat]'(by omega)=bN l (nd.l.headD 0):=by
       unfold bN
       rw[List.getD_eq_getElem?_getD,List.getElem?_eq_getElem (by omega)]; rfl
      rw[e] at hx1
      have:=hx3 1 4 (by rw[hx1]; exact Nat.le_of_ble_eq_true rfl)
      rw[this,hx1]; rfl
     have q4':=q4
     have q51:=q5 1
     generalize nd.l.headD 0=k at *
     have y1':cD 1 nlv (.int .i64 0)=some (fH 1 nlv 0):=y1
     have hX:X=⟨false,[((ps.map Prod.fst).length:Int)],[((ps.map Prod.fst).length:Int)]⟩:=congrArg Prod.fst hE
     have hP:P=ps.map Prod.fst++[⟨(bN l k).s,nd.lo,nd.hi,rule,false,[]⟩]:=congrArg Prod.snd hE
     have hh5:nd.op=5:=o5.1
     have hhi:nd.hi≠-1:=o5.2
     (have zy:=And.intro l0 (And.intro l7 (And.intro l5 (And.intro y1' (And.intro y2 (And.intro q4' (And.intro q51 (And.intro hset2 l6)))))));repeat refine zzCz ?_)
     refine aB (aNu _ _ _ _) ?_
     refine aFM hp2 (by omega) (hf2.mono (by omega)) q2 (by omega) fun r pv' h3 n3 hn3 hb3 hf3 hg3 hp3 hr3=>?_
     obtain⟨fv,lv,rfl,i1,i2⟩:=hr3
     have hlm:((ps.map Prod.fst).length:Int)=(ps.length:Int):=by rw[List.length_map]
     rw[hlm] at hX
     subst hX
     exact aAh (ro:=ro) hK hf (by omega) (hs12.bk.trans hb3) hf3 (hgp2.trans hg3 (by omega)) hp3 (by rw[hP,List.map_append]; rfl) (hb3.cells gr (by decide)) i1 i2 _ (by omega)
    ·rw[if_neg o5] at hE
     have main:∀ m e,nx+8≤m→e 0=ptr bid→e 1=v→e 3=.int .i64 rule→e 8=ptr nx→e 9=ptr (nx+5)→e 10=.slice none 0 0→e 11=.int .i64 ((0:Nat):Int) →
       dC (mO ro) e h2 m fun x170 e167 h168 n169=>iM x170 (fT ro K e167 h168 n169) (fun i171=>dE (Nat.beq i171 0) (fT ro K e167 h168 n169) (False)) (aA (loadA ro h168 3 (e167 8)) fun r172=>∃ h173,aU h173 h168∧K r172 h173 n169):=fun m e hm e0 e1 e3 e8 e9 e10 e11=>by
      obtain⟨i0,t1,t2,t3⟩:=aRh
      have hbig:(1000001:Nat)*56≤oB:=by decide
      have hz12:=z1.sub hs12
      have hsum:ps.length+(nd.l.map fun k=>mX l n k).sum≤1999:=by omega
      have hvpos:∀ k∈nd.l,1≤mX l n k:=fun k hk=>by
       have:=(hin k hk).2.1
       have:=(hin k hk).1
       cases n with
       | zero=>omega
       | succ n=>show 1≤_+1; omega
      have hkl:nd.l.length≤(nd.l.map fun k=>mX l n k).sum:=aSw nd.l hvpos
      refine bD (fun m e h' nx'=>∃ (i:Nat) (zs:List (InfD × Value × Value)) (qs:List (PosD × Value)) (pv2 kv:Value),i+m=nd.l.length∧nx+8≤nx'∧e 0=ptr bid∧e 1=v∧e 3=.int .i64 rule∧e 8=ptr nx∧e 9=ptr (nx+5)∧e 10=kv∧e 11=.int .i64 i∧BK lo h h'∧BK lo h2 h'∧Fr h' nx'∧Gap nx h h'∧PB h' bid pv2 lo qs∧bL h' kv 3 aQ (aGX zs) (nx+6) ∧
        (∀ z∈zs,IT h' z.2.1 z.1.first lo∧IT h' z.2.2 z.1.last lo)∧zs.length=i∧fY (d8 l rule n) nd.l (ps.map Prod.fst)=(zs.map Prod.fst++(fY (d8 l rule n) (nd.l.drop i) (qs.map Prod.fst)).1,(fY (d8 l rule n) (nd.l.drop i) (qs.map Prod.fst)).2) ∧
        qs.length+((nd.l.drop i).map fun k=>mX l n k).sum≤1999∧∀ x∈qs,rz (-1) qs.length x.1.next=true) ?_ (n:=nd.l.length)
       ⟨0,[],ps,pv,_,by omega,hm,e0,e1,e3,e8,e9,e10,e11,hs12.bk,BK.refl _ _,hf2.mono (by omega),hgp2,hp2,bL.nil,(fun z hz=>by cases hz),rfl,rfl,hsum,hnx⟩
      rintro m e h' nx' ⟨i,zs,qs,pv2,kv,him,hnx',e0,e1,e3,e8,e9,e10,e11,hbk,hbk2,hf',hgp,hp',hko,hels,hzi,hki,hqv,hqn⟩ Q' hq hx
      unfold mO
      rw[e0,e1,e3,e9,e10,e11]
      have l5':=bE (ro:=ro) (z:=0) (hbk2.cells g2 (by decide)) g5
      have hsl:aU h0 h':=hbk.low hf0 hs
      have zz:ZI ro h' nlv nd.l:=z10.sub hsl
      have zl:=zz.len
      unfold aEN at z3
      (have zy:=And.intro l5' zl;repeat refine zzCz ?_)
      refine cM (fun hi=>?_) (fun hi=>?_)
      ·have hi:i < nd.l.length:=by omega
       have y1:=zz.ix .i64 hi
       have y2:=zz.load hi
       rw[cP hi,aPY] at hki
       rw[cP hi,List.map_cons,List.sum_cons] at hqv
       have ihk2:=ihk nd.l[i] (List.getElem_mem _)
       have hin2:=hin nd.l[i] (List.getElem_mem _)
       generalize nd.l[i]=k at *
       have hni:=aJd hr8 (rule:=rule) hin2.1 hin2.2.1 hin2.2.2 (P:=qs.map Prod.fst) (fun x hx=>by
        obtain⟨y,hy,rfl⟩:=List.mem_map.1 hx
        rw[List.length_map]; exact hqn y hy)
       have hnl:=aGa l rule n k (qs.map Prod.fst)
       rw[List.length_map] at hnl
       have ihk3:=fun (nx1:Nat) (K1:KV) a1 a2=>ihk2 qs pv2 h' nx1 K1 hsl a1 a2 hp' (by omega) hqn
       generalize d8 l rule n k (qs.map Prod.fst)=xp at *
       obtain⟨x,P2⟩:=xp
       simp only at hki hni hnl ihk3
       (have zy:=And.intro l5' (And.intro y1 y2);repeat refine zzCz ?_)
       refine ihk3 _ _ (hf'.mono (by omega)) (by omega) fun r pv3 qs3 h3 n3 hn3 hb3 hf3 hg3 hp3 hqs3 hr3=>?_
       obtain⟨fv,lv,rfl,i1,i2⟩:=hr3
       have hko3:=hb3.own hko (by decide)
       refine aDS (z:=3) (lo:=nx+6) (nx:=n3) (aRe n3 x fv lv) rfl hko3 aRk t1 t2 (by omega) wY rfl (aNB i1 i2) (by rw[t3,uS]; omega) (by rw[uS]; omega) hf3 (by omega) (by omega) (by omega) fun h4 qq hh1 w1 w2 w3 w4=>?_
       rw[← aPT zs (x,fv,lv)] at w1 ⊢
       (repeat refine zzC ?_)
       have hq3l:qs3.length=P2.length:=by rw[← hqs3,List.length_map]
       refine hq (m - 1) _ _ _ _ (by omega) ⟨i+1,zs++[(x,fv,lv)],qs3,pv3,_,by omega,by dsimp only; omega,e0,e1,e3,e8,e9,rfl,rfl,
        (fun q o hq hc=>w2 q o ((hbk.trans hb3) q o hq hc) (hko3.lt (by have:=hf.lt' hq; omega))),(fun q o hq hc=>w2 q o ((hbk2.trans hb3) q o hq hc) (hko3.lt (by
         have:=hf2.lt' hq
         omega))),w3.mono (by dsimp only; omega),(hgp.trans hg3 (by omega)).trans w4 (by omega),hp3.kpT hko3 w2,w1,fun z hz=>?_,by rw[List.length_append,hzi]; rfl,?_,by rw[hq3l]; omega,fun y hy=>?_⟩ (aU.refl _)
       ·rcases List.mem_append.1 hz with hz | hz
        ·exact⟨(hb3.it (hels z hz).1).kpT hko3 (by decide) w2,(hb3.it (hels z hz).2).kpT hko3 (by decide) w2⟩
        ·rw[List.mem_singleton] at hz
         subst hz
         exact⟨i1.kpT hko3 (by decide) w2,i2.kpT hko3 (by decide) w2⟩
       ·rw[hki,← hqs3]; simp
       ·rw[hq3l]
        exact hni.2.2.2 y.1 (by rw[← hqs3]; exact List.mem_map.2 ⟨y,hy,rfl⟩)
      ·rw[eO (by omega)] at hki
       (repeat refine zzC ?_)
       refine hx _ _ _ _ (fun e=>by cases e) (d3 (cU ?_))
       have hki:fY (d8 l rule n) nd.l (ps.map Prod.fst)=(zs.map Prod.fst,qs.map Prod.fst):=by rw[hki]; simp[fY]
       have hki2:=aOP hr8 (rule:=rule) (n:=n) nd.l (ps.map Prod.fst) hin (fun x hx=>by
        obtain⟨y,hy,rfl⟩:=List.mem_map.1 hx
        rw[List.length_map]; exact hnx y hy)
       rw[hki] at hE hki2
       simp only[List.length_map] at hki2
       refine aUB hK hf hlo (by omega) hbk (hf'.mono (by omega)) hgp hp' (by omega) (hbk2.cells gr (by decide)) (hbk2.cells g2 (by decide)) ⟨hko.mono (by omega),hels⟩ (by omega) (fun z hz=>hki2.2.1 z.1 (List.mem_map.2 ⟨z,hz,rfl⟩)) hqn e0 e8 e9 e10 hE
     have hc5:¬ (nd.op=5∧nd.hi≠-1):=o5
     by_cases h5:nd.op=5
     ·have hh:nd.hi=-1:=by
       by_cases e:nd.hi=-1
       ·exact e
       ·exact absurd ⟨h5,e⟩ o5
      (have zy:=And.intro l0 l7;repeat refine zzCz ?_)
      exact main _ _ (by omega) rfl rfl rfl rfl rfl rfl rfl
     ·(have zy:=l0;repeat refine zzCz ?_)
      exact main _ _ (by omega) rfl rfl rfl rfl rfl rfl rfl
def wZ (ro:Ro) (h:T Obj) (v:Value) (ts:List (List NodeD)):Prop:=gD ro h v 1 (fun x t=>∃ w,x=[w]∧oV ro h w t) ts
theorem wZ.sub {ro:Ro}{h h':T Obj}{v:Value}{ts:List (List NodeD)} (hs:aU h h') (hr:wZ ro h v ts):wZ ro h' v ts:=gD.sub hs (fun x t ⟨w,h1,h2⟩=>⟨w,h1,h2.sub hs⟩) hr
theorem wZ.at {ro:Ro}{h:T Obj}{v:Value}{ts:List (List NodeD)} (hr:wZ ro h v ts) {i:Nat} (hi:i < ts.length):∃ w,oV ro h w ts[i]∧load1 ro h (fH 1 v i)=some w:=by
 obtain⟨w,⟨w',e,h1⟩,h2⟩:=gD.at1 hr hi
 cases e
 exact⟨w,h1,h2⟩
theorem aIe:∀ (ps:List (PosD × Value)) (i:Nat) (p:PosD) (nv:Value),ps[i]?=some (p,nv)→(qX ps).flatten.set (i*9+7) (.bool true)=(qX (ps.set i ({ p with last:=true },nv))).flatten
 | [],i,p,nv,h=>by simp at h
 | x::r,0,p,nv,h=>by
  simp at h
  subst h
  rfl
 | x::r,i+1,p,nv,h=>by
  have ih:=aIe r i p nv (by simpa using h)
  have e:(oF x.1 x.2).length=9:=rfl
  simp only[qX,List.map_cons,List.flatten_cons,List.set_cons_succ] at ih ⊢
  rw[← ih,List.set_append_right _ _ (by omega)]
  congr 2
  omega
theorem PB.putLast {h:T Obj}{bid lo i:Nat}{pv nv:Value}{p:PosD}{ps:List (PosD × Value)} (hp:PB h bid pv lo ps) (hi:ps[i]?=some (p,nv)) :
  ∃ h',bH 1 h (fP 9 pv i 7) (.bool true)=some h'∧PB h' bid pv lo (ps.set i ({ p with last:=true },nv))∧BK lo h h'∧∀ n,Fr h n→Fr h' n:=by
 have hil:=(List.getElem?_eq_some_iff.1 hi).1
 rcases hp.ow with ⟨_,h1⟩ | ⟨id,h1,rfl,h2,h3⟩
 ·have:=congrArg List.length h1
  rw[lB,List.length_nil] at this
  omega
 ·have hel:fP 9 (.slice (some (V.own id 9)) (qX ps).length (qX ps).length) i 7=at_ id (0+(i*9+7)) 0:=rfl
  have hst:=cE (z:=0) (off:=0+(i*9+7)) (v:=.bool true) h3 (by rw[aEW]; omega) rfl rfl
  have hne:bid≠id:=fun e=>by
   have:=hp.blk
   rw[e,h3] at this
   have e2:cJ=bQ:=congrArg (fun o=>match o with | some (Obj.cells _ e _)=>e | _=>0) this
   exact absurd e2 (by decide)
  have hbk:BK lo h (h.upd id (some (.cells ((qX ps).flatten.set (0+(i*9+7)) (.bool true)).toArray cJ))):=(BK.refl lo h).upd h3 h1 (by decide)
  refine⟨_,by rw[hel]; exact hst,⟨by rw[T.get_upd_ne _ _ hne]; exact hp.blk,hp.lb,.inr ⟨id,h1,?_,?_,?_⟩,fun x hx=>?_⟩,hbk,fun n hf=>hf.upd (Nat.le_refl _) (hf.lt' h3)⟩
  ·rw[lB,lB,List.length_set]
  ·intro x hx
   unfold qX at hx
   obtain⟨y,_,rfl⟩:=List.mem_map.1 hx
   rfl
  ·show (h.upd id _).get id=_
   rw[T.get_upd_same,Nat.zero_add,aIe ps i p nv hi]
  ·rcases List.mem_or_eq_of_mem_set hx with hx | rfl
   ·exact⟨hbk.it (hp.els x hx).1,(hp.els x hx).2⟩
   ·exact⟨hbk.it (hp.els (p,nv) (List.mem_of_getElem? hi)).1,(hp.els (p,nv) (List.mem_of_getElem? hi)).2⟩
theorem PB.slr {ro:Ro}{h:T Obj}{bid lo:Nat}{pv:Value}{ps:List (PosD × Value)} (hp:PB h bid pv lo ps):gD ro h pv 9 (oU ro h) (ps.map Prod.fst):=by
 refine⟨qX ps,hp.ow.sl,by rw[lB,List.length_map],fun i x d hx hd=>?_⟩
 unfold qX at hx
 rw[List.getElem?_map] at hx hd
 cases hq:ps[i]? with
 | none=>rw[hq] at hx; cases hx
 | some y =>
  rw[hq] at hx hd
  cases hx
  cases hd
  have:=hp.els y (List.mem_of_getElem? hq)
  exact⟨y.2,rfl,this.1.z,this.2⟩
theorem aPZ (P:List PosD) (l:List Int) (i:Nat) (hi:i < l.length):eU P (l.take (i+1))=(eU P (l.take i)).modify (l[i]).toNat fun p=>{ p with last:=true }:=by
 unfold eU
 rw[List.take_succ_eq_append_getElem hi,List.foldl_append]; rfl
theorem aG1:∀ (l:List Int) (P:List PosD),(eU P l).length=P.length
 | [],P=>rfl
 | x::r,P=>by
  have e:eU P (x::r)=eU (P.modify x.toNat fun p=>{ p with last:=true }) r:=rfl
  rw[e,aG1 r]; simp
theorem aI2 {Q:PosD→Prop} (hQ:∀ p,Q p→Q { p with last:=true }):∀ (l:List Int) (P:List PosD),(∀ x∈P,Q x)→∀ x∈eU P l,Q x
 | [],P,h=>h
 | y::r,P,h=>by
  have e:eU P (y::r)=eU (P.modify y.toNat fun p=>{ p with last:=true }) r:=rfl
  rw[e]
  refine aI2 hQ r _ fun x hx=>?_
  obtain⟨j,hj⟩:=List.getElem?_of_mem hx
  rw[List.getElem?_modify] at hj
  cases hp:P[j]? with
  | none=>rw[hp] at hj; simp at hj
  | some p =>
   have hpm:=h p (List.mem_of_getElem? hp)
   rw[hp] at hj
   simp only[Option.map_eq_map,Option.map_some,Option.some.injEq] at hj
   rw[← hj]
   split
   ·exact hQ p hpm
   ·exact hpm
theorem aSA (t:List NodeD) (r:List (List NodeD)) (k:Nat) (F:List Int) (P:List PosD):ofL (t::r) k F P=if 512 < (eU (d8 t k t.length (t.length - 1) P).2 (d8 t k t.length (t.length - 1) P).1.last).length then none else ofL r (k+1) (fW F (d8 t k t.length (t.length - 1) P).1.first) (eU (d8 t k t.length (t.length - 1) P).2 (d8 t k t.length (t.length - 1) P).1.last):=rfl
theorem aKK:i8 Tryz.prog cF=some (.agg #[.slice none 0 0,.slice none 0 0]):=by kernel_rfl
theorem aII:cX Tryz.prog cF []=some (.agg #[.slice none 0 0,.slice none 0 0]):=by kernel_rfl
theorem aOo:cX Tryz.prog bQ []=some (.agg #[.slice none 0 0]):=by kernel_rfl
def OfK (ro:Ro) (ts:List (List NodeD)) (h:T Obj) (nx:Nat) (K:KV):Prop:=∀ r (e:Int) h' nx',nx≤nx'→aU h h'→Fr h' nx'→(match ofL ts 0 [] [] with | some g=>e=0∧RG ro h' r g | none=>e=3∧r=.agg #[.slice none 0 0,.slice none 0 0])→K (.tuple #[r,.int .i64 e]) h' nx'
set_option maxRecDepth 4000 in
set_option maxHeartbeats 8000000 in
theorem aWU {ro:Ro}{lv pv:Value}{ps:List (PosD × Value)}{L:List Int}{h:T Obj}{bid lo xid nx:Nat}{Q:KE}{e:dF}{x0 x1 v0 v2 v6 v7:Value} (hp:PB h bid pv lo ps) (hf:Fr h nx) (gx:h.get xid=some (.cells #[x0,x1,lv] aQ)) (hL:IT h lv L lo) (hLr:rz (-1) ps.length L=true) (hN:ps.length≤3000)
  (e0:e 0=v0) (e2:e 2=v2) (e5:e 5=ptr bid) (e6:e 6=v6) (e7:e 7=v7) (e8:e 8=ptr xid) (e9:e 9=.int .i64 ((0:Nat):Int)) {J:dF→T Obj→Nat→Prop} {J3:dF→T Obj→Nat→Prop}
  (hJ:∀ e' ps' h' nx',nx≤nx'→BK lo h h'→Fr h' nx'→PB h' bid pv lo ps'→ps'.map Prod.fst=eU (ps.map Prod.fst) L→e' 0=v0→e' 2=v2→e' 5=ptr bid→e' 6=v6→e' 7=v7→J e' h' nx') :
  dC (aAu ro) e h nx fun x73 e70 h71 n72=>iM x73 (J e70 h71 n72) (fun i74=>dE (Nat.beq i74 4) (J e70 h71 n72) (dE (Nat.beq i74 3) (J3 e70 h71 n72) (Q (.exit i74) e70 h71 n72))) (Q .ret e70 h71 n72):=by
 have hLl:=iQ hLr (by omega)
 refine bD (fun m e2 h' nx'=>∃ (i:Nat) (qs:List (PosD × Value)),i+m=L.length∧nx≤nx'∧e2 5=ptr bid∧e2 8=ptr xid∧e2 9=.int .i64 i∧BK lo h h'∧Fr h' nx'∧PB h' bid pv lo qs∧qs.length=ps.length∧qs.map Prod.fst=eU (ps.map Prod.fst) (L.take i)∧e2 0=v0∧e2 2=v2∧e2 6=v6∧e2 7=v7) ?_ (n:=L.length)
  ⟨0,ps,by omega,by omega,e5,e8,e9,BK.refl _ _,hf,hp,rfl,rfl,e0,e2,e6,e7⟩
 rintro m e2 h' nx' ⟨i,qs,him,hnx',e25,e28,e29,hbk,hf',hp',hql,hqm,e20,e22,e26,e27⟩ Q' hq hx
 unfold aAu
 rw[e25,e28,e29]
 have gx':=hbk.cells gx (by decide)
 have lx:=bE (ro:=ro) (z:=0) (l:=[x0,x1,lv]) (off:=2) gx' rfl
 have hz:=(hbk.it hL).z (ro:=ro)
 have hzl:=hz.len
 (have zy:=And.intro lx hzl;repeat refine zzCz ?_)
 refine cM (fun hi=>?_) (fun hi=>?_)
 ·have hi:i < L.length:=by omega
  have y1:=hz.ix .i64 hi
  have y2:=hz.load hi
  have hlt:=aPZ (ps.map Prod.fst) L i hi
  have hrg:=dX hLr _ (List.getElem_mem hi)
  generalize L[i]=q at *
  obtain⟨j,rfl⟩:∃ j:Nat,q=j:=⟨q.toNat,by omega⟩
  rw[Int.toNat_natCast,← hqm] at hlt
  have hjl:j < qs.length:=by omega
  obtain⟨⟨p,nv⟩,hpj⟩:∃ x,qs[j]?=some x:=⟨_,List.getElem?_eq_getElem hjl⟩
  have hpm:(qs.map Prod.fst)[j]?=some p:=by rw[List.getElem?_map,hpj]; rfl
  rw[aG7 hpm] at hlt
  obtain⟨w1,w2,w3⟩:=PB.get (ro:=ro) hp' hpj .i64
  have w2':=w2 7
  have lb:=bE (ro:=ro) (z:=0) (l:=[pv]) (off:=0) hp'.blk rfl
  have hnil:bZ (at_ bid 0 0)=some (at_ bid 0 0):=rfl
  obtain⟨h3,s1,s2,s3,s4⟩:=hp'.putLast hpj
  rw[eY] at *
  (have zy:=And.intro hnil (And.intro @lb (And.intro lx (And.intro y1 (And.intro y2 (And.intro w1 w2')))));repeat refine zzCz ?_)
  refine aB s1 ?_
  (repeat refine zzC ?_)
  exact hq (m - 1) _ _ _ _ (by omega) ⟨i+1,_,by omega,by omega,e25,e28,rfl,hbk.trans s3,s4 _ (hf'.mono (by omega)),s2,by rw[List.length_set]; exact hql,by rw[aOK,hlt],e20,e22,e26,e27⟩ (aU.refl _)
 ·(repeat refine zzC ?_)
  refine hx _ _ _ _ (fun e=>by cases e) (d3 (cU ?_))
  rw[List.take_of_length_le (by omega)] at hqm
  exact hJ _ qs h' _ (by omega) hbk (hf'.mono (by omega)) hp' hqm e20 e22 e25 e26 e27
set_option maxRecDepth 4000 in
set_option maxHeartbeats 8000000 in
theorem aWV {ro:Ro}{v:Value}{ts:List (List NodeD)}{h h':T Obj}{nx n1:Nat}{K:KV}{e:dF} (hts:wZ ro h v ts) (hr:∀ t∈ts,jW t=true) (hn:ts.length≤512) (hs:aU h h') (hf0:Fr h nx) (hn1:nx < n1) (hf:Fr h' n1) (gr:h'.get nx=some (.cells #[.slice none 0 0,.slice none 0 0] cF)) (hK:OfK ro ts h nx K) (e0:e 0=v) (e2:e 2=ptr nx):wQ ro K e h' n1:=by
 unfold wQ
 refine aB aOo ?_
 refine zO hf (by omega) fun h1 hs1 hf1 g1 _=>?_
 have g1:h1.get (n1+1)=some (.cells #[.slice none 0 0] bQ):=g1
 refine aB aII ?_
 refine gP (n:=2) (x:=[.slice none 0 0,.slice none 0 0]) aKK rfl rfl rfl rfl hf1 (by omega) fun h2 hs2 hf2 g2 _=>?_
 have hp2:PB h2 (n1+1) (.slice none 0 0) n1 []:=⟨hs2 _ _ g1,by omega,bL.nil,fun x hx=>by cases hx⟩
 have gr2:=hs2 _ _ (hs1 _ _ gr)
 refine bD (fun m e h3 nx'=>∃ (i:Nat) (F:List Int) (ps:List (PosD × Value)) (pv fv:Value),i+m=ts.length∧n1+7≤nx'∧e 0=v∧e 2=ptr nx∧e 5=ptr (n1+1)∧e 6=ptr (n1+4)∧e 7=.int .i64 i∧BK n1 h' h3∧Fr h3 nx'∧PB h3 (n1+1) pv n1 ps∧h3.get (n1+4)=some (.cells #[fv,.slice none 0 0] cF)∧IT h3 fv F n1 ∧
   ps.length≤512∧rz (-1) ps.length F=true∧(∀ x∈ps,rz (-1) ps.length x.1.next=true)∧ofL ts 0 [] []=ofL (ts.drop i) i F (ps.map Prod.fst)) ?_ (n:=ts.length)
  ⟨0,[],[],_,_,by omega,by omega,e0,e2,rfl,rfl,rfl,(hs1.trans hs2).bk,hf2.mono (by omega),hp2,g2,bL.nil,by simp,rfl,(fun x hx=>by cases hx),rfl⟩
 rintro m e h3 nx' ⟨i,F,ps,pv,fv,him,hnx',e0,e2,e5,e6,e7,hbk,hf3,hp,gg,hF,hpl,hFr,hnxr,hof⟩ Q' hq hx
 unfold aFJ
 rw[e0,e5,e6,e7]
 have hs0:aU h h3:=(hbk.low (hf0.mono (Nat.le_of_lt hn1)) hs)
 have hs':aU h' h3:=hbk.low hf (aU.refl _)
 have hvl:=gD.len hts
 (have zy:=hvl;repeat refine zzCz ?_)
 refine cM (fun hi=>?_) (fun hi=>?_)
 ·have hi:i < ts.length:=by omega
  obtain⟨w,ht,hw⟩:=(hts.sub hs0).at hi
  have hix:=gD.ix hts .i64 hi
  have ht8:=hr ts[i] (List.getElem_mem hi)
  rw[cP hi,aSA] at hof
  obtain⟨w0,ht0,hw0⟩:=hts.at hi
  have hww:w0=w:=by
   have:=aB6 hs0 hw0
   rw[this] at hw; exact Option.some.inj hw
  subst hww
  generalize ts[i]=t at *
  have ht4:gV t=true:=by unfold jW iY at ht8; simp only[Bool.and_eq_true] at ht8; exact ht8.1.2
  have htl:=vQ ht4
  have htlen:=gD.len ht
  have hvs:=aNl ht4
  have hni:=aJd ht8 (rule:=(i:Int)) (n:=t.length) (a:=t.length - 1) (by omega) (by omega) (by omega) (P:=ps.map Prod.fst) (fun x hx=>by
   obtain⟨y,hy,rfl⟩:=List.mem_map.1 hx
   rw[List.length_map]; exact hnxr y hy)
  have hnl:=aGa t (i:Int) t.length (t.length - 1) (ps.map Prod.fst)
  rw[List.length_map,hvs] at hnl
  have hnode:=fun (K1:KV) (n5:Nat) a b=>aDg (ro:=ro) (bid:=n1+1) (rule:=(i:Int)) ht0 ht8 (hf0.mono (Nat.le_of_lt hn1)) t.length (t.length - 1) ps pv h3 n5 K1 (by omega) (by omega) (by omega) hs0 a b hp (by rw[hvs]; omega) hnxr
  generalize d8 t (i:Int) t.length (t.length - 1) (ps.map Prod.fst)=xp at *
  obtain⟨x,P2⟩:=xp
  simp only at hni hnl hnode hof
  (have zy:=And.intro hix (And.intro hw htlen);repeat refine zzCz ?_)
  refine hnode _ _ (hf3.mono (by omega)) (by omega) fun r pv4 ps4 h4 n4 hn4 hb4 hf4 hg4 hp4 hps4 hr4=>?_
  obtain⟨xf,xl,rfl,i1,i2⟩:=hr4
  have gg4:=hb4.cells gg (by decide)
  generalize hA:nx'+17=a at *
  have hna:h4.get a=none:=hg4 a (by omega) (hf3 a (by omega))
  refine aB wY (aD (aB (eF (l:=kP (fU false) (.slice none 0 0) (.slice none 0 0)) (vs:=kP x xf xl) (by rw[T.get_upd_same]; rfl) rfl rfl rfl (aNB i1 i2)) ?_))
  generalize hh5:(h4.upd a _).upd a _=h5
  have hs5:aU h4 h5:=by
   rw[← hh5]
   intro k o hk
   have hka:k≠a:=fun e=>by rw[e,hna] at hk; cases hk
   rw[T.get_upd_ne _ _ hka,T.get_upd_ne _ _ hka]; exact hk
  have g5:h5.get a=some (.cells (kP x xf xl).toArray aQ):=by rw[← hh5]; exact T.get_upd_same _ _ _
  have hf5:Fr h5 n4:=by rw[← hh5]; exact (hf4.upd (Nat.le_refl _) (by omega)).upd (Nat.le_refl _) (by omega)
  clear hh5
  have gg5:=hs5 _ _ gg4
  have lg0:=bE (ro:=ro) (z:=0) (l:=[fv,.slice none 0 0]) (off:=0) gg5 rfl
  have lx1:=bE (ro:=ro) (z:=0) (off:=1) (v:=xf) g5 rfl
  have hP2l:ps4.length=P2.length:=by rw[← hps4,List.length_map]
  have hlF:=iQ hFr (by omega)
  have hlx:=iQ hni.2.1 (by omega)
  (have zy:=And.intro lg0 lx1;repeat refine zzCz ?_)
  refine kE (a:=F) (b:=x.first) (by omega) (by omega) (hf5.mono (by omega)) (IT.z ((hb4.it hF).keepS hs5)) (IT.z (i1.keepS hs5)) fun r6 h6 n6 hn6 hs6 hf6 hr6 _=>?_
  have gg6:=hs6 _ _ gg5
  have hst:=cE (z:=0) (off:=0) (l:=[fv,.slice none 0 0]) (v:=r6) gg6 (by simp) (nT hr6).1 (nT hr6).2
  (repeat refine zzC ?_)
  refine aB hst ?_
  generalize hh7:h6.upd (n1+4) _=h7
  have gg7:h7.get (n1+4)=some (.cells #[r6,.slice none 0 0] cF):=by rw[← hh7]; exact T.get_upd_same _ _ _
  have hbk7:BK n1 h' h7:=by rw[← hh7]; exact (((hbk.trans hb4).trans hs5.bk).trans hs6.bk).new hf (by omega)
  have hf7:Fr h7 n6:=by rw[← hh7]; exact hf6.upd (Nat.le_refl _) (by omega)
  have hp7:PB h7 (n1+1) pv4 n1 ps4:=by rw[← hh7]; exact ((hp4.sub hs5).sub hs6).updT gg6 (by decide) (by decide) (by decide)
  have i17:IT h7 r6 (fW F x.first) n1:=by rw[← hh7]; exact (hr6.mono (by omega)).updT gg6 (by decide)
  have i27:IT h7 xl x.last n1:=by rw[← hh7]; exact ((i2.keepS hs5).keepS hs6).updT gg6 (by decide)
  have g7:h7.get a=some (.cells (kP x xf xl).toArray aQ):=by
   rw[← hh7,T.get_upd_ne _ _ (by omega)]; exact hs6 _ _ g5
  clear hh7
  generalize hE:puts e _=E
  have E0:E 0=v:=by rw[← hE]; exact e0
  have E2:E 2=ptr nx:=by rw[← hE]; exact e2
  have E5:E 5=ptr (n1+1):=by rw[← hE]; exact e5
  have E6:E 6=ptr (n1+4):=by rw[← hE]; exact e6
  have E7:E 7=.int .i64 i:=by rw[← hE]; exact e7
  have E8:E 8=ptr a:=by rw[← hE]; rfl
  have E9:E 9=.int .i64 ((0:Nat):Int):=by rw[← hE]; rfl
  clear hE
  refine aWU (x0:=.bool x.null) (x1:=xf) (lv:=xl) (L:=x.last) (bid:=n1+1) (lo:=n1) (xid:=a) (ps:=ps4) (v0:=v) (v2:=ptr nx) (v6:=ptr (n1+4)) (v7:=.int .i64 i) (J:=wR ro Q') (nx:=n6+3) hp7 (hf7.mono (by omega)) g7 i27 (by rw[hP2l]; exact hni.2.2.1) (by omega) E0 E2 E5 E6 E7 E8 E9 fun e' ps8 h8 n8 hn8 hb8 hf8 hp8 hps8 q0 q2 q5 q6 q7=>?_
  have hnil:bZ (at_ (n1+1) 0 0)=some (at_ (n1+1) 0 0):=rfl
  have lb8:=bE (ro:=ro) (z:=0) (l:=[pv4]) (off:=0) hp8.blk rfl
  rw[hps4] at hps8
  have hP8l:ps8.length=P2.length:=by
   have:=congrArg List.length hps8
   rw[List.length_map,aG1] at this
   exact this
  have hpvl:bM pv4=some (.int .i64 ps8.length):=by
   have:=(hp8.ow.sl (ro:=ro)).len
   rwa [lB] at this
  rw[aG1] at hof
  unfold wR
  rw[q2,q5,eY]
  (have zy:=And.intro hnil (And.intro lb8 hpvl);repeat refine zzCz ?_)
  refine jT (fun hbig=>?_) (fun hbig=>?_)
  ·rw[if_pos (by omega)] at hof
   have gr8:=(hbk7.trans hb8).cells (hs2 _ _ (hs1 _ _ gr) |> fun _=>gr) (by decide)
   (repeat refine zzC ?_)
   refine aB aII ?_
   refine aB (eF (l:=[.slice none 0 0,.slice none 0 0]) (vs:=[.slice none 0 0,.slice none 0 0]) gr8 rfl rfl rfl rfl) ?_
   refine hx _ _ _ _ (fun e=>by cases e) (kW ?_)
   show aA (loadA ro _ 2 (e' 2)) _
   rw[q2]
   refine aB (bX (l:=[.slice none 0 0,.slice none 0 0]) (by rw[T.get_upd_same]) rfl) ?_
   refine⟨_,aU.refl _,hK _ 3 _ _ (by omega) ?_ ((hf8.mono (by omega)).upd (Nat.le_refl _) (by omega)) ?_⟩
   ·exact ((hbk7.trans hb8).low (hf0.mono (Nat.le_of_lt hn1)) hs).new hf0 (Nat.le_refl _)
   ·rw[hof]; exact⟨rfl,rfl⟩
  ·rw[if_neg (by omega),← hps8] at hof
   (repeat refine zzC ?_)
   unfold aAw
   have q7':∀ z,(puts e' z) 7=(puts e' z) 7:=fun _=>rfl
   show aA (aP .add (e' 7) _) _
   rw[q7]
   (repeat refine zzC ?_)
   refine hq (m - 1) _ _ _ _ (by omega) ⟨i+1,fW F x.first,ps8,pv4,r6,by omega,by omega,q0,q2,q5,q6,rfl,hbk7.trans hb8,hf8.mono (by omega),hp8,hb8.cells gg7 (by decide),hb8.it i17,by omega,?_,fun y hy=>?_,hof⟩ (aU.refl _)
   ·rw[hP8l]
    exact lE (lO hFr (Int.le_refl _) (by have:=hni.1; rw[List.length_map] at this; omega)) hni.2.1
   ·have hq2:=aI2 (Q:=fun p=>rz (-1) P2.length p.next=true) (fun p h=>h) x.last P2 hni.2.2.2 y.1 (by rw[← hps8]; exact List.mem_map.2 ⟨y,hy,rfl⟩)
    rw[hP8l]; exact hq2
 ·(repeat refine zzC ?_)
  refine hx _ _ _ _ (fun e=>by cases e) (d3 (cU ?_))
  rw[eO (by omega)] at hof
  have hof:ofL ts 0 [] []=some ⟨F,ps.map Prod.fst⟩:=hof
  unfold aAv
  generalize hE:puts e _=E
  have E2:E 2=ptr nx:=by rw[← hE]; exact e2
  have E5:E 5=ptr (n1+1):=by rw[← hE]; exact e5
  have E6:E 6=ptr (n1+4):=by rw[← hE]; exact e6
  rw[E2,E5,E6,eY,eY]
  have hnil:bZ (at_ (n1+1) 0 0)=some (at_ (n1+1) 0 0):=rfl
  have lb:=bE (ro:=ro) (z:=0) (l:=[pv]) (off:=0) hp.blk rfl
  have hpok:bV pv=true:=(hp.ow.sl (ro:=ro)).ok
  have hst:=cE (z:=0) (off:=1) (l:=[fv,.slice none 0 0]) (v:=pv) gg (by simp) hpok (by rcases hp.ow with ⟨e,_⟩ | ⟨_,_,e,_⟩<;>rw[e]<;>rfl)
  (have zy:=And.intro hnil @lb;repeat refine zzCz ?_)
  refine aB hst ?_
  generalize hh4:h3.upd (n1+4) _=h4
  have gg4:h4.get (n1+4)=some (.cells [fv,pv].toArray cF):=by rw[← hh4]; exact T.get_upd_same _ _ _
  have gr4:h4.get nx=some (.cells [Value.slice none 0 0,.slice none 0 0].toArray cF):=by rw[← hh4,T.get_upd_ne _ _ (by omega)]; exact hbk.cells gr (by decide)
  have hp4:PB h4 (n1+1) pv n1 ps:=by rw[← hh4]; exact hp.updT gg (by decide) (by decide) (by decide)
  have hF4:IT h4 fv F n1:=by rw[← hh4]; exact hF.updT gg (by decide)
  have hs4:aU h h4:=by rw[← hh4]; exact hs0.new hf0 (by omega)
  have hf4:Fr h4 nx':=by rw[← hh4]; exact hf3.upd (Nat.le_refl _) (by omega)
  clear hh4
  refine aB (bX gg4 rfl) ?_
  refine aB (eF (l:=[.slice none 0 0,.slice none 0 0]) (vs:=[fv,pv]) gr4 rfl rfl rfl (by simp[hpok,(nT hF4).1])) ?_
  refine aB (bX (l:=[fv,pv]) (by rw[T.get_upd_same]) rfl) ?_
  refine⟨_,aU.refl _,hK _ 0 _ _ (by omega) (hs4.new hf0 (Nat.le_refl _)) ((hf4.mono (by omega)).upd (Nat.le_refl _) (by omega)) ?_⟩
  rw[hof]
  have hp5:=hp4.updT gr4 (o:=some (.cells [fv,pv].toArray cF)) (by decide) (by decide) (by decide)
  exact⟨rfl,fv,pv,rfl,IT.z (hF4.updT gr4 (by decide)),hp5.slr⟩
set_option maxRecDepth 4000 in
set_option maxHeartbeats 8000000 in
theorem aNZ {ro:Ro}{v:Value}{ts:List (List NodeD)}{h:T Obj}{nx:Nat}{K:KV} (hf:Fr h nx) (hts:wZ ro h v ts) (hr:∀ t∈ts,jW t=true) (hn:ts.length≤512) (hK:OfK ro ts h nx K):aN Tryz.prog ro aC8 [v] h nx K:=by
 apply aLy
 unfold aLx
 refine aB aKK ?_
 refine zO hf (Nat.le_refl _) fun h1 hs1 hf1 g1 _=>?_
 have g1:h1.get nx=some (.cells #[.slice none 0 0,.slice none 0 0] cF):=g1
 have hvl:=gD.len hts
 (have zy:=hvl;repeat refine zzCz ?_)
 refine bD (fun m e h' nx'=>∃ i:Nat,i+m=ts.length∧nx+6≤nx'∧e 0=v∧e 2=ptr nx∧e 4=.int .i64 i∧h'=h1) ?_ (n:=ts.length) ⟨0,by omega,by omega,rfl,rfl,rfl,rfl⟩
 rintro m e h' nx' ⟨i,him,hnx,e0,e2,e4,rfl⟩ Q' hq hx
 unfold aFK
 rw[e0,e2,e4]
 (have zy:=hvl;repeat refine zzCz ?_)
 refine cM (fun hi=>?_) (fun hi=>?_)
 ·have hi:i < ts.length:=by omega
  obtain⟨w,ht,hw⟩:=(hts.sub hs1).at hi
  have hix:=gD.ix hts .i64 hi
  have ht8:=hr ts[i] (List.getElem_mem hi)
  generalize ts[i]=t at *
  have ht4:gV t=true:=by unfold jW iY at ht8; simp only[Bool.and_eq_true] at ht8; exact ht8.1.2
  have htl:=vQ ht4
  (have zy:=And.intro hix hw;repeat refine zzCz ?_)
  refine aCI (by omega) ht (hf1.mono (by omega)) fun n2 hn2=>?_
  rw[ht8]
  (repeat refine zzC ?_)
  exact hq (m - 1) _ _ _ _ (by omega) ⟨i+1,by omega,by omega,e0,e2,rfl,rfl⟩ (aU.refl _)
 ·(repeat refine zzC ?_)
  refine hx _ _ _ _ (fun e=>by cases e) (d3 (cU ?_))
  exact aWV hts hr hn hs1 hf (by omega) (hf1.mono (by omega)) g1 hK e0 e2
def aK1 (w:List Nat) (f:Nat) (k:Nat) (b:Int × Int × Bool) (t:List NodeD):Int × Int × Bool:=if (wI t w f).2=true∧(b.2.2=false∨b.1 < (wI t w f).1) then ((wI t w f).1,(k:Int),true) else b
def aBj (w:List Nat) (f:Nat):Nat→Int × Int × Bool→List (List NodeD)→Int × Int × Bool
 | _,b,[]=>b
 | k,b,t::r=>aBj w f (k+1) (aK1 w f k b t) r
theorem oW {w:List Nat}{P:List (List NodeD)}{t:List NodeD}{f j r:Nat}:aCs w (P++[t]) f j r ↔ aCs w P f j r∨(r=P.length∧f < j∧j≤w.length∧aBV w t f j):=by
 unfold aCs
 constructor
 ·rintro⟨h1,h2,u,h3,h4⟩
  by_cases hr:r < P.length
  ·rw[List.getElem?_append_left hr] at h3
   exact .inl ⟨h1,h2,u,h3,h4⟩
  ·have:=(List.getElem?_eq_some_iff.1 h3).1
   simp at this
   have e:r=P.length:=by omega
   subst e
   simp at h3
   subst h3
   exact .inr ⟨rfl,h1,h2,h4⟩
 ·rintro (⟨h1,h2,u,h3,h4⟩ | ⟨rfl,h1,h2,h3⟩)
  ·exact⟨h1,h2,u,by rw[List.getElem?_append_left (List.getElem?_eq_some_iff.1 h3).1]; exact h3,h4⟩
  ·exact⟨h1,h2,t,by simp,h3⟩
theorem aVL {w:List Nat}{P:List (List NodeD)}{f j r:Nat} (h:aCs w P f j r):r < P.length:=by
 obtain⟨_,_,u,h3,_⟩:=h
 exact (List.getElem?_eq_some_iff.1 h3).1
theorem aOl {w:List Nat}{f:Nat}{P:List (List NodeD)}{t:List NodeD}{b:Int × Int × Bool} (ht:iY t=true) (hf:f≤w.length) (h:yV (aCs w P f) b):yV (aCs w (P++[t]) f) (aK1 w f P.length b t):=by
 unfold aK1
 rcases aP4 ht hf with ⟨h1,h2⟩ | ⟨j,h1,h2,h3,h4,h5⟩
 ·rw[h1,if_neg (by simp)]
  have hno:∀ j r,aCs w (P++[t]) f j r ↔ aCs w P f j r:=fun j r=>by
   rw[oW]
   constructor
   ·rintro (h | ⟨_,h3,h4,h5⟩)
    ·exact h
    ·exact absurd h5 (h2 j h3 h4)
   ·exact .inl
  have:aCs w (P++[t]) f=aCs w P f:=by funext j r; exact propext (hno j r)
  rw[this]; exact h
 ·rw[h1]
  simp only[true_and]
  rcases h with ⟨rfl,hn⟩ | ⟨j0,r0,rfl,g1,g2,g3⟩
  ·rw[if_pos (.inl rfl)]
   refine .inr ⟨j,P.length,rfl,oW.2 (.inr ⟨rfl,h2,h3,h4⟩),fun j' r' h=>?_,fun r' h=>?_⟩
   ·rcases oW.1 h with h | ⟨_,q1,q2,q3⟩
    ·exact absurd h (hn _ _)
    ·exact h5 j' q2 q3
   ·rcases oW.1 h with h | ⟨q0,_⟩
    ·exact absurd h (hn _ _)
    ·omega
  ·by_cases hlt:j0 < j
   ·rw[if_pos (.inr (by show (j0:Int) < j; omega))]
    refine .inr ⟨j,P.length,rfl,oW.2 (.inr ⟨rfl,h2,h3,h4⟩),fun j' r' h=>?_,fun r' h=>?_⟩
    ·rcases oW.1 h with h | ⟨_,q1,q2,q3⟩
     ·have:=g2 _ _ h; omega
     ·exact h5 j' q2 q3
    ·rcases oW.1 h with h | ⟨q0,_⟩
     ·have:=g2 _ _ h; omega
     ·omega
   ·rw[if_neg (by simp only[Bool.true_eq_false,false_or]; omega)]
    refine .inr ⟨j0,r0,rfl,oW.2 (.inl g1),fun j' r' h=>?_,fun r' h=>?_⟩
    ·rcases oW.1 h with h | ⟨_,q1,q2,q3⟩
     ·exact g2 _ _ h
     ·have:=h5 j' q2 q3; omega
    ·rcases oW.1 h with h | ⟨q0,_⟩
     ·exact g3 _ h
     ·have:=aVL g1; omega
theorem aK2 {w:List Nat}{f:Nat} (hf:f≤w.length):∀ (r P:List (List NodeD)) (b:Int × Int × Bool),(∀ t∈r,iY t=true)→yV (aCs w P f) b→yV (aCs w (P++r) f) (aBj w f P.length b r)
 | [],P,b,_,h=>by rw[List.append_nil]; exact h
 | t::r,P,b,ht,h=>by
  have:=aK2 hf r (P++[t]) _ (fun u hu=>ht u (by simp[hu])) (aOl (ht t (by simp)) hf h)
  rw[List.append_assoc,List.singleton_append,List.length_append,List.length_singleton] at this
  exact this
theorem aOk (w:List Nat) (f:Nat):yV (aCs w [] f) (0,0,false):=.inl ⟨rfl,fun j r ⟨_,_,t,h,_⟩=>by simp at h⟩
theorem aR7 {w:List Nat}{f:Nat}{ts:List (List NodeD)}{g:GlD} (hts:∀ t∈ts,jW t=true) (hn:ts.length≤512) (ho:ofL ts 0 [] []=some g) (hf:f≤w.length):aLJ g w f=aBj w f 0 (0,0,false) ts:=by
 obtain⟨h1,h2⟩:=aUH hts hn ho hf
 have h3:=aK2 hf ts [] _ (fun t ht=>by have:=hts t ht; unfold jW at this; simp only[Bool.and_eq_true] at this; exact this.1) (aOk w f)
 rw[List.nil_append] at h3
 have h4:aLJ g w f=aVq (lon g aAD 0 (-1) f (w.drop f)):=by
  unfold aLJ
  rw[if_pos ⟨h1,by omega,by omega⟩]
  unfold aVB
  rw[Int.toNat_natCast]; rfl
 rw[h4]
 exact h2.uniq h3
def aL0 (ws:List Value):List (List Value):=ws.map fun w=>[w]
theorem aD0 (ws:List Value):(aL0 ws).length=ws.length:=by simp[aL0]
theorem aP8 (aid:Nat) (o:Option Addr) (n c:Nat):bC Tryz.prog eQ aid 1 [(0,.slice o n c)]=some (.slice (some (own aid 1)) 1 1,some (.cells [Value.slice o n c].toArray iZ)):=by kernel_rfl
theorem aNI:gG Tryz.prog eQ=some (.slice iZ):=by kernel_rfl
theorem aPb:∃ i,tin Tryz.prog iZ=some i∧i.size=1∧i.bytes=24:=aG8 (by kernel_rfl)
theorem aPd:i8 Tryz.prog iZ=some (.slice none 0 0):=by kernel_rfl
structure Sel (ro:Ro) (h:T Obj) (v:Value) (ws:List Value) (ts:List (List NodeD)) (lo:Nat):Prop where
 ow:bL h v 1 iZ (aL0 ws) lo
 len:ws.length=ts.length
 els:∀ (i:Nat) w t,ws[i]?=some w→ts[i]?=some t→oV ro .e w t
theorem aU.ofE (h:T Obj):aU .e h:=fun k o hk=>absurd hk (by rw[T.get_e]; intro h; cases h)
theorem Sel.trees {ro:Ro}{h:T Obj}{v:Value}{ws:List Value}{ts:List (List NodeD)}{lo:Nat} (hs:Sel ro h v ws ts lo):wZ ro h v ts:=by
 refine⟨aL0 ws,hs.ow.sl,by rw[aD0,hs.len],fun i x t hx ht=>?_⟩
 unfold aL0 at hx
 rw[List.getElem?_map] at hx
 cases hw:ws[i]? with
 | none=>rw[hw] at hx; cases hx
 | some w =>
  rw[hw] at hx
  cases hx
  exact⟨w,rfl,(hs.els i w t hw ht).sub (aU.ofE h)⟩
theorem oV.slice {ro:Ro}{h:T Obj}{w:Value}{t:List NodeD} (ht:oV ro h w t):∃ o n c,w=.slice o n c:=by
 obtain⟨cs,h1,_⟩:=ht
 rcases h1 with ⟨rfl,_⟩ | ⟨a,cap,rfl,_⟩
 ·exact⟨none,0,0,rfl⟩
 ·exact⟨_,_,_,rfl⟩
theorem Sel.snoc {ro:Ro}{h:T Obj}{v w:Value}{t:List NodeD}{ws:List Value}{ts:List (List NodeD)}{nx n1 n2 lo:Nat}{K:Value × Option Obj→T Obj→Value × T Obj × Nat→Prop} (hs:Sel ro h v ws ts lo) (ht:oV ro .e w t) (hl:ws.length≤1000) (hf:Fr h nx) (hlo:lo≤nx) (hn1:nx≤n1) (hn2:n1 < n2)
  (hK:∀ r h' q h1,Sel ro h' r (ws++[w]) (ts++[t]) lo→Kp v h h'→Fr h' (n2+1)→K q h1 (r,h',n2+1)) :
  aA (bC Tryz.prog eQ n1 1 [(0,w)]) fun r=>eJ h n1 r.2 fun h'=>aA (bY Tryz.prog ro h' n2 #[eQ,eQ] [v,r.1]) (K r h'):=by
 obtain⟨i,t1,t2,t3⟩:=aPb
 obtain⟨o,n,c,rfl⟩:=ht.slice
 have hbig:(1001:Nat)*24≤oB:=by decide
 have hok:bV (.slice o n c)=true:=by
  obtain⟨cs,h1,_⟩:=ht
  exact h1.ok
 refine aDS (z:=1) (aP8 n1 o n c) rfl hs.ow aNI t1 t2 (by omega) aPd rfl (by simp[hok]) (by rw[t3,aD0]; omega) (by rw[aD0]; omega) hf hlo hn1 hn2 fun h' q h1 q1 q2 q3 q4=>?_
 have e:aL0 ws++[[.slice o n c]]=aL0 (ws++[.slice o n c]):=by simp[aL0]
 rw[e] at q1 ⊢
 refine hK _ h' q h1 ⟨q1,by simp[hs.len],fun j w2 t2 hw2 ht2=>?_⟩ q2 q3
 by_cases hj:j < ws.length
 ·rw[List.getElem?_append_left hj] at hw2
  rw[List.getElem?_append_left (by rw[← hs.len]; exact hj)] at ht2
  exact hs.els j w2 t2 hw2 ht2
 ·have h3:=(List.getElem?_eq_some_iff.1 hw2).1
  simp at h3
  have e2:j=ws.length:=by omega
  subst e2
  simp at hw2
  rw[hs.len] at ht2
  simp at ht2
  subst hw2 ht2
  exact ht
theorem Sel.sub {ro:Ro}{h h':T Obj}{v:Value}{ws:List Value}{ts:List (List NodeD)}{lo:Nat} (hs:Sel ro h v ws ts lo) (hh:aU h h'):Sel ro h' v ws ts lo:=⟨hs.ow.keepS hh,hs.len,hs.els⟩
def aUz (s:ByteArray):ByteArray:=s.extract 0 (min s.size 20)
theorem aPJ (s:ByteArray):(iC (aUz s)).length≤20:=by
 unfold aUz
 rw[aK3,List.length_take]; omega
theorem aMd (w:List Nat) (f k:Nat) (b:Int × Int × Bool) (t:List NodeD) (r:List (List NodeD)):aBj w f k b (t::r)=aBj w f (k+1) (aK1 w f k b t) r:=rfl
end V
end Go.Proofs.YtjndkdmkecpllaaGreat