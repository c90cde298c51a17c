/- Texts laid one behind the other: ZF, ZG, ZH, LMeans.
   No condition. -/
import Derived.Test.YtjndkdmkecpllaaGreatQE7
set_option linter.unusedVariables false
set_option linter.unusedSimpArgs false
namespace Go.Proofs.YtjndkdmkecpllaaGreat
namespace V
def eZ (n:List Int):List Nat:=(n.map Int.toNat).reverse
theorem aIq {m x:Int}:∀ {l:List Int}{a:Int},rz a m (l++[x])=true→(∀ y∈l,a < y∧y < x)∧a < x∧x < m
 | [],a,h=>by
  rw[List.nil_append,iA] at h
  simp only[Bool.and_eq_true,decide_eq_true_eq] at h
  exact⟨fun y hy=>(by cases hy),h.1,h.2.1⟩
 | z::r,a,h=>by
  rw[List.cons_append,iA] at h
  simp only[Bool.and_eq_true,decide_eq_true_eq] at h
  obtain⟨h1,h2,h3⟩:=aIq h.2.2
  refine⟨fun y hy=>?_,by omega,h3⟩
  rcases List.mem_cons.1 hy with rfl | hy
  ·exact⟨h.1,h2⟩
  ·have:=h1 y hy; omega
theorem aOd {hi:Int}:∀ {l:List Int},(∀ y∈l,y < hi)→upD hi l=l.map (·+1)
 | [],_=>rfl
 | x::r,h=>by
  have ih:=aOd (l:=r) fun y hy=>h y (by simp[hy])
  unfold upD at ih ⊢
  rw[List.filter_cons_of_pos (by simpa using h x (by simp)),List.map_cons,ih]; rfl
theorem aWA (hi:Int) (l m:List Int):upD hi (l++m)=upD hi l++upD hi m:=by unfold upD; simp
theorem aMJ {l:List Int} (h:∀ y∈l,0 < y):eZ (l.map (·+1))=(eZ l).map (·+1):=by
 unfold eZ
 rw[List.map_map,List.map_reverse,List.map_map]
 congr 1
 refine List.map_congr_left fun y hy=>?_
 have:=h y hy
 show (y+1).toNat=y.toNat+1
 omega
theorem aIN {l:List Int} (h:l≠[]):∃ r x,l=r++[x]:=⟨l.dropLast,l.getLast h,(List.dropLast_concat_getLast h).symm⟩
theorem aRL {hi:Int} (h1:1≤hi) {n:List Int} (h:rz 0 (hi+1) n=true):xP hi.toNat (eZ n)=eZ (upD hi n):=by
 by_cases hn:n=[]
 ·subst hn
  unfold xP eZ upD
  simp
 ·obtain⟨r,x,rfl⟩:=aIN hn
  obtain⟨g1,g2,g3⟩:=aIq h
  have hr:∀ y∈r,y < hi:=fun y hy=>by have:=g1 y hy; omega
  have hr0:∀ y∈r,0 < y:=fun y hy=>(g1 y hy).1
  have e1:eZ (r++[x])=x.toNat::eZ r:=by unfold eZ; simp
  rw[e1,aWA,aOd hr]
  unfold xP
  have e2:(x.toNat::eZ r).getD 0 0=x.toNat:=rfl
  rw[e2]
  by_cases hx:x < hi
  ·have e3:upD hi [x]=[x+1]:=by unfold upD; rw[List.filter_cons_of_pos (by simpa using hx)]; rfl
   rw[if_neg (by omega),e3]
   have e4:eZ (r.map (·+1)++[x+1])=(x+1).toNat::eZ (r.map (·+1)):=by unfold eZ; simp
   rw[e4,aMJ hr0,List.map_cons]
   congr 1
   omega
  ·have e3:upD hi [x]=[]:=by unfold upD; rw[List.filter_cons_of_neg (by simpa using hx)]; rfl
   rw[if_pos (by omega),e3,List.append_nil,aMJ hr0]; rfl
theorem aSW {n:List Int} (h:∀ y∈n,2≤y):aLk (eZ n)=eZ (1::n):=by
 have e1:eZ (1::n)=eZ n++[1]:=by unfold eZ; simp
 rw[e1]
 refine aEY ?_
 cases n with
 | nil=>decide
 | cons x r =>
  have e2:eZ (x::r)=eZ r++[x.toNat]:=by unfold eZ; simp
  rw[e2]
  have:=h x (by simp)
  rw[List.getD_eq_getElem?_getD,List.length_append,List.length_singleton,Nat.add_sub_cancel,List.getElem?_append_right (Nat.le_refl _),Nat.sub_self]
  simp
  omega
theorem aHH {rs:List oJ}{i:Nat}{c:Int}{x:oJ} (hi:i < rs.length) (hc:0≤c):jR (rs.set i x) c=if (i:Int)=c then x else jR rs c:=by
 unfold jR
 rw[List.getD_eq_getElem?_getD,List.getElem?_set]
 by_cases e:(i:Int)=c
 ·have e2:i=c.toNat:=by omega
  rw[if_pos e2,if_pos e,if_pos (by omega)]; rfl
 ·rw[if_neg (by omega),if_neg e,List.getD_eq_getElem?_getD]
theorem aJP {nx:List Int}{c:Int} (hc:c∈nx) (h0:0≤c):∀ (r:List Int) (rs:List oJ),(∀ x∈r,0≤x∧x < rs.length)→jR (pS nx r rs) c=jR rs c
 | [],rs,_=>rfl
 | x::r,rs,h=>by
  have hx:=h x (by simp)
  unfold pS
  by_cases hn:nx.contains x=true
  ·rw[if_pos hn]
   exact aJP hc h0 r rs fun y hy=>h y (by simp[hy])
  ·rw[if_neg hn,aJP hc h0 r _ fun y hy=>by rw[List.length_set]; exact h y (by simp[hy])]
   rw[aHH (by omega) h0,if_neg]
   intro e
   have:x=c:=by omega
   subst this
   exact hn (List.contains_iff_mem.2 hc)
section
variable {g:GlD}
theorem aUV {l:List Int}{q:Int} (hq:q∈l) (hc:ctd g q=true):i7 g q∈dI g l:=by
 unfold dI
 exact List.mem_map.2 ⟨q,List.mem_filter.2 ⟨hq,hc⟩,rfl⟩
theorem aNT {C:List (Int × Int)}{en st:Int→Bool}:∀ {l:List Int}{a:Int} (rs:List oJ),rz a g.p.length l=true→-1≤a→(∀ q∈l,ctd g q=true→i7 g q < rs.length)→∀ q:Int,0≤q→q < g.p.length→ctd g q=true →
  jR (o9 C (dI g l) (pP g en st l) rs) (i7 g q)=if q∈l then aCi (nJ C (i7 g q)).2.toNat (opZ en st q) (jR rs (i7 g q)) else jR rs (i7 g q)
 | [],a,rs,_,_,_,q,_,_,_=>by
  rw[if_neg (by simp)]
  unfold dI o9; rfl
 | p::r,a,rs,hz,ha,hl,q,h0,h1,hc=>by
  rw[iA] at hz
  simp only[Bool.and_eq_true,decide_eq_true_eq] at hz
  have hq0:0≤i7 g q:=aB7 g q
  by_cases hp:ctd g p=true
  ·have e1:dI g (p::r)=i7 g p::dI g r:=by rw[rN,if_pos hp]
   have e2:pP g en st (p::r)=opZ en st p::pP g en st r:=by unfold pP; rw[List.filter_cons_of_pos hp]; rfl
   have hpl:=hl p (by simp) hp
   have hp0:=aB7 g p
   rw[e1,e2]
   show jR (o9 C (dI g r) (pP g en st r) (rs.set (i7 g p).toNat (aCi (nJ C (i7 g p)).2.toNat (opZ en st p) (jR rs (i7 g p))))) (i7 g q)=_
   rw[aNT (a:=p) _ hz.2.2 (by omega) (fun x hx hcx=>by rw[List.length_set]; exact hl x (by simp[hx]) hcx) q h0 h1 hc]
   by_cases hqp:q=p
   ·subst hqp
    have hnr:¬ q∈r:=fun h=>by have:=(dX hz.2.2 _ h).1; omega
    rw[if_neg hnr,if_pos (by simp),aHH (by omega) hq0,if_pos (by omega)]
   ·have hne:¬ ((i7 g p).toNat:Int)=i7 g q:=fun e=>by
     rcases Int.lt_or_lt_of_ne hqp with h | h
     ·have:=aGc h0 h hc (by omega); omega
     ·have:=aGc (show 0≤p by omega) h hp (by omega); omega
    have hm:q∈p::r ↔ q∈r:=by simp[hqp]
    rw[aHH (by omega) hq0,if_neg hne]
    by_cases hqr:q∈r
    ·rw[if_pos hqr,if_pos (hm.2 hqr)]
    ·rw[if_neg hqr,if_neg (fun h=>hqr (hm.1 h))]
  ·have e1:dI g (p::r)=dI g r:=by rw[rN,if_neg hp]
   have e2:pP g en st (p::r)=pP g en st r:=by unfold pP; rw[List.filter_cons_of_neg (by simpa using hp)]
   rw[e1,e2,aNT (a:=p) _ hz.2.2 (by omega) (fun x hx hcx=>hl x (by simp[hx]) hcx) q h0 h1 hc]
   have hqp:q≠p:=fun e=>by subst e; exact hp hc
   have hm:q∈p::r ↔ q∈r:=by simp[hqp]
   by_cases hqr:q∈r
   ·rw[if_pos hqr,if_pos (hm.2 hqr)]
   ·rw[if_neg hqr,if_neg (fun h=>hqr (hm.1 h))]
theorem aQj {q:Int} (h0:0≤q) (h1:q < g.p.length) (hc:ctd g q=true):nJ (gE g.p) (i7 g q)=((g.at q).lo,(g.at q).hi):=by
 obtain⟨k,rfl⟩:∃ k:Nat,q=k:=⟨q.toNat,by omega⟩
 have hk:k < g.p.length:=by omega
 have hat:g.at (k:Int)=g.p[k]:=by
  unfold GlD.at
  rw[Int.toNat_natCast,List.getD_eq_getElem?_getD,List.getElem?_eq_getElem hk]; rfl
 have hsplit:g.p=g.p.take k++g.p[k]::g.p.drop (k+1):=by
  rw[← List.drop_eq_getElem_cons hk,List.take_append_drop]
 have hcp:aHe g.p[k]=true:=by unfold ctd at hc; rw[hat] at hc; exact hc
 have hcs:gE g.p=gE (g.p.take k)++(g.p[k].lo,g.p[k].hi)::gE (g.p.drop (k+1)):=by
  conv=>lhs; rw[hsplit]
  unfold gE
  rw[List.filter_append,List.map_append,List.filter_cons_of_pos hcp,List.map_cons]
 unfold nJ
 rw[aEU,hcs,Int.toNat_natCast,List.getD_eq_getElem?_getD,List.getElem?_append_right (Nat.le_refl _),Nat.sub_self,hat]; rfl
structure SimR (g:GlD) (S:List StateD) (c:CfgD) (m:MacD):Prop where
 sim:∃ (k:Nat) (s:StateD),SimA g S c k s∧m.cur=(k:Int)
 len:m.rs.length=(gE g.p).length
 ring:∀ h∈c.l,ctd g h.p=true→(jR m.rs (i7 g h.p)).1=eZ h.n
theorem aVS {C:List (Int × Int)}{rs:List oJ}{h:HeldD} (hr:dJ g=true) (ho:HOk g h) (hc:ctd g h.p=true) (hC:C=gE g.p) (hrg:(jR rs (i7 g h.p)).1=eZ h.n):(aEB C rs (i7 g h.p):Int)=qI g h:=by
 subst hC
 obtain⟨h1,h2,h3,h4⟩:=yL ho.rz ho.ne
 obtain⟨r,x,e⟩:=aIN ho.ne
 have hcn:=aQj ho.p0 ho.p1 hc
 unfold aEB qI
 rw[hrg,hcn]
 have hlen:(eZ h.n).length=h.n.length:=by unfold eZ; simp
 have hne:h.n.length≠0:=fun e=>ho.ne (List.length_eq_zero_iff.1 e)
 have hg0:(eZ h.n).getD 0 0=(h.n.getLastD 0).toNat:=by
  rw[e]
  have:eZ (r++[x])=x.toNat::eZ r:=by unfold eZ; simp
  rw[this]; simp
 have hgl:(eZ h.n).getD ((eZ h.n).length - 1) 0=(h.n.headD 0).toNat:=by
  cases hh:h.n with
  | nil=>exact absurd hh ho.ne
  | cons y t =>
   have:eZ (y::t)=eZ t++[y.toNat]:=by unfold eZ; simp
   rw[this,List.getD_eq_getElem?_getD,List.length_append,List.length_singleton,Nat.add_sub_cancel,List.getElem?_append_right (Nat.le_refl _),Nat.sub_self]; rfl
 rw[hg0,hgl,hlen,if_neg hne]
 have a1:(((h.n.getLastD 0).toNat:Nat):Int)=h.n.getLastD 0:=by omega
 have a2:(((h.n.headD 0).toNat:Nat):Int)=h.n.headD 0:=by omega
 simp only[a1,a2]
 split
 ·rfl
 ·split<;>rfl
theorem aNz {C:List (Int × Int)}{rs:List oJ} (hr:dJ g=true) (hC:C=gE g.p):∀ {l:List HeldD},(∀ h∈l,HOk g h)→(∀ h∈l,ctd g h.p=true→(jR rs (i7 g h.p)).1=eZ h.n)→(gT C rs (dI g (l.map (·.p))):Int)=cod g l
 | [],_,_=>rfl
 | h::r,ho,hrg=>by
  have ih:=aNz (l:=r) hr hC (fun x hx=>ho x (by simp[hx])) (fun x hx=>hrg x (by simp[hx]))
  rw[List.map_cons,rN,aDA]
  by_cases hc:ctd g h.p=true
  ·rw[if_pos hc,if_pos hc]
   have hd:=aVS hr (ho h (by simp)) hc hC (hrg h (by simp) hc)
   show ((aEB C rs (i7 g h.p)+3*gT C rs (dI g (r.map (·.p))):Nat):Int)=_
   rw[← hd,← ih]
   omega
  ·rw[if_neg hc,if_neg hc]; exact ih
theorem aOI:∀ {l:List HeldD}{a:Int},oY g a l=true→∀ h∈l,a < h.p
 | [],_,_,h,hh=>by cases hh
 | x::r,a,hf,h,hh=>by
  rw[aC5] at hf
  simp only[Bool.and_eq_true,decide_eq_true_eq] at hf
  rcases List.mem_cons.1 hh with rfl | hh
  ·exact hf.1
  ·have:=aOI hf.2.2.2.2 h hh
   have:=hf.1
   omega
theorem aM0 {q:Int}{h:HeldD}:∀ {l:List HeldD}{a:Int},oY g a l=true→h∈l→h.p=q→jE g q l=upD (g.at q).hi h.n
 | [],_,_,hh,_=>by cases hh
 | x::r,a,hf,hh,hq=>by
  rw[aC5] at hf
  simp only[Bool.and_eq_true,decide_eq_true_eq] at hf
  unfold jE
  rw[List.flatMap_cons]
  rcases List.mem_cons.1 hh with rfl | hh
  ·rw[if_pos hq]
   have:=aEd (q:=q) hf.2.2.2.2 (by omega)
   unfold jE at this
   rw[this,List.append_nil]
  ·have hlt:x.p < h.p:=aOI hf.2.2.2.2 h hh
   rw[if_neg (by omega),List.nil_append]
   exact aM0 hf.2.2.2.2 hh hq
theorem aSp {q:Int}{l:List HeldD} (h:jE g q l≠[]):∃ x∈l,x.p=q :=
 Classical.byContradiction fun hn=>h (List.flatMap_eq_nil_iff.2 fun x hx=>if_neg fun e=>hn ⟨x,hx,e⟩)
theorem aUW {l:List Int}{a:Int} (ha:-1≤a) (hz:rz a g.p.length l=true):∀ x∈dI g l,0≤x∧x < ((gE g.p).length:Nat):=by
 intro x hx
 unfold dI at hx
 obtain⟨q,hq,rfl⟩:=List.mem_map.1 hx
 obtain⟨h1,h2⟩:=List.mem_filter.1 hq
 have h3:=dX hz q h1
 have h4:=aGb (g:=g) (show 0≤q by omega) (by omega) h2
 exact⟨h4.2,h4.1⟩
theorem aOV (C:List (Int × Int)):∀ (r:List Int) (os:List Nat) (rs:List oJ),(o9 C r os rs).length=rs.length
 | c::r,o::os,rs=>by
  unfold o9
  rw[aOV C r os]
  exact List.length_set
 | [],os,rs=>by unfold o9; rfl
 | _::_,[],rs=>by unfold o9; rfl
variable {S:List StateD}{c:CfgD}{m:MacD}
theorem SimR.at_ {k:Nat}{s:StateD} (hr:dJ g=true) (hm:Made g (ofB g) S S.length 0) (h:SimR g S c m) (hs:SimA g S c k s) (hk:m.cur=(k:Int)) :
  gQ (ofD g S) m=s∧s.r=dI g (c.l.map (·.p))∧gT (gE g.p) m.rs s.r=(cod g c.l).toNat:=by
 have h1:gQ (ofD g S) m=s:=by
  unfold gQ
  show S.getD m.cur.toNat noS=s
  rw[hk,Int.toNat_natCast,List.getD_eq_getElem?_getD,hs.st]; rfl
 have h2:s.r=dI g (c.l.map (·.p)):=by rw[hs.l]; exact (hm.base.ok s (List.mem_of_getElem? hs.st)).2.1
 refine⟨h1,h2,?_⟩
 have:=aNz (C:=gE g.p) (rs:=m.rs) hr rfl hs.ok h.ring
 rw[h2]
 omega
theorem SimR.rule (hr:dJ g=true) (hm:Made g (ofB g) S S.length 0) (h:SimR g S c m):vT (ofD g S) m=oM g c:=by
 obtain⟨k,s,hs,hk⟩:=h.sim
 obtain⟨e1,e2,e3⟩:=h.at_ hr hm hs hk
 unfold vT
 rw[if_neg (by omega),e1]
 show s.rule.getD (gT (gE g.p) m.rs s.r) 0=_
 rw[e3,List.getD_eq_getElem?_getD,(hs.code hr hm).2.2]; rfl
theorem aSq {q:Int} (ho:∀ h∈c.l,HOk g h):∀ x∈jE g q c.l,2≤x:=by
 intro x hx
 unfold jE at hx
 obtain⟨h,hh,hx⟩:=List.mem_flatMap.1 hx
 split at hx
 ·unfold upD at hx
  obtain⟨y,hy,rfl⟩:=List.mem_map.1 hx
  have:=(dX (ho h hh).rz y (List.mem_filter.1 hy).1).1
  omega
 ·cases hx
theorem aU0 {b:Nat}{q:Int}{C:List (Int × Int)} (hok:∀ h∈c.l,HOk g h) (hf:c.l≠[]→oY g (-1) c.l=true) (hrg:∀ h∈c.l,ctd g h.p=true→(jR m.rs (i7 g h.p)).1=eZ h.n) (hC:C=gE g.p)
  (h0:0≤q) (h1:q < g.p.length) (hc:ctd g q=true) (hne:uF g c b q≠[]):(aCi (nJ C (i7 g q)).2.toNat (opZ (gH g c) (stD g c) q) (jR m.rs (i7 g q))).1=eZ (uF g c b q):=by
 subst hC
 have hhi:1≤(g.at q).hi:=by unfold ctd at hc; simp only[decide_eq_true_eq] at hc; omega
 have hcn:uF g c b q=(if gH g c q then [1] else [])++jE g q c.l:=by
  unfold uF at hne ⊢
  by_cases hh:aRI g b q=true
  ·rw[if_pos hh]
  ·rw[if_neg hh] at hne; exact absurd rfl hne
 rw[hcn] at hne ⊢
 rw[aQj h0 h1 hc]
 by_cases hs:jE g q c.l=[]
 ·have ho:opZ (gH g c) (stD g c) q=3:=by unfold opZ stD; rw[if_neg (by simp[hs])]
  rw[hs,List.append_nil] at hne ⊢
  have he:gH g c q=true:=by
   cases h:gH g c q with
   | true=>rfl
   | false=>rw[h] at hne; exact absurd rfl hne
  rw[ho,he]; rfl
 ·obtain⟨x,hx,hq⟩:=aSp hs
  have hxn:c.l≠[]:=fun e=>by rw[e] at hx; cases hx
  have e1:=aM0 (hf hxn) hx hq
  have e2:=hrg x hx (by rw[hq]; exact hc)
  rw[hq] at e2
  have hrz:=(hok x hx).rz
  rw[hq] at hrz
  have e3:=aRL hhi hrz
  rw[← e1] at e3
  by_cases he:gH g c q=true
  ·have ho:opZ (gH g c) (stD g c) q=2:=by unfold opZ stD; rw[if_pos (by simp[hs]),if_pos he]
   rw[ho,he,if_pos rfl]
   show aLk (xP (g.at q).hi.toNat (jR m.rs (i7 g q)).1)=_
   rw[e2,e3]
   exact aSW (aSq hok)
  ·have ho:opZ (gH g c) (stD g c) q=1:=by unfold opZ stD; rw[if_pos (by simp[hs]),if_neg he]
   rw[ho,if_neg he,List.nil_append]
   show xP (g.at q).hi.toNat (jR m.rs (i7 g q)).1=_
   rw[e2,e3]
theorem SimR.step {b:Nat} (hr:dJ g=true) (hm:Made g (ofB g) S S.length 0) (hb:b < 256) (h:SimR g S c m) :
  (onM (ofD g S) m b=false∧lP g c b=⟨false,[]⟩)∨(onM (ofD g S) m b=true∧SimR g S (lP g c b) (kO (ofD g S) m b)):=by
 obtain⟨k,s,hs,hk⟩:=h.sim
 obtain⟨e1,e2,e3⟩:=h.at_ hr hm hs hk
 obtain⟨kc,row,mv,k1,k2,k3,k4,k5,k6⟩:=hs.move hr hm hb
 have em:oK (ofD g S) m b=mv:=by
  unfold oK
  rw[e1]
  show (s.next.getD (gT (gE g.p) m.rs s.r) []).getD ((cls (dU g.p)).getD b 0) aUA=mv
  rw[e3]
  have f1:s.next.getD (cod g c.l).toNat []=row:=by rw[List.getD_eq_getElem?_getD,k2]; rfl
  have f2:(cls (dU g.p)).getD b 0=kc:=by rw[List.getD_eq_getElem?_getD,k1]; rfl
  rw[f1,f2,List.getD_eq_getElem?_getD,k3]; rfl
 have hcur:m.cur≠-1:=by omega
 have hon:onM (ofD g S) m b=!decide (mv.to=-1):=by
  unfold onM
  rw[em,decide_eq_false hcur]; rfl
 rcases k6 with ⟨h1,h2⟩ | ⟨k',t,h1,h2,h3,h4,h5⟩
 ·refine .inl ⟨by rw[hon,h1]; rfl,?_⟩
  unfold lP; rw[h2]
 ·refine .inr ⟨by rw[hon,decide_eq_false (by omega)]; rfl,?_⟩
  have hnx:qR (ofD g S) mv.to=t.r:=by
   unfold qR
   rw[if_neg (by omega)]
   show (S.getD mv.to.toNat noS).r=t.r
   rw[h1,Int.toNat_natCast,List.getD_eq_getElem?_getD,h4.st]; rfl
  have hbt:=hm.base.ok t (List.mem_of_getElem? h4.st)
  have hbs:=hm.base.ok s (List.mem_of_getElem? hs.st)
  have htl:(wX g c b).map (·.p)=t.l:=h4.l
  have est:kO (ofD g S) m b=⟨mv.to,o9 (gE g.p) t.r mv.ops (pS t.r s.r m.rs),m.steps+1+s.r.length⟩:=by
   unfold kO
   rw[if_neg hcur,em,hnx,e1]; rfl
  rw[est]
  have hln:(pS t.r s.r m.rs).length=(gE g.p).length:=by rw[aCz]; exact h.len
  refine⟨⟨k',t,h4,h1⟩,?_,?_⟩
  ·show (o9 _ _ _ _).length=_
   rw[aOV]; exact hln
  ·intro x hx hcx
   obtain⟨q,hq,rfl,hne⟩:=aI4 hx
   show (jR (o9 (gE g.p) t.r mv.ops (pS t.r s.r m.rs)) (i7 g (q:Int))).1=eZ (uF g c b q)
   have hqt:(q:Int)∈t.l:=by rw[← htl]; exact List.mem_map.2 ⟨_,hx,rfl⟩
   have hq1:(q:Int) < g.p.length:=by omega
   have hcx':ctd g (q:Int)=true:=hcx
   rw[hbt.2.1,h5,htl,aNT (a:=-1) _ hbt.1 (by omega) (fun y hy hcy=>by
    have h6:=dX hbt.1 y hy
    have h7:=(aGb (g:=g) (show 0≤y by omega) (by omega) hcy).1
    rw[aCz,h.len]; exact h7) q (by omega) hq1 hcx',if_pos hqt]
   rw[aJP (aUV hqt hcx') (aB7 g _) _ _ (by
    rw[hbs.2.1,h.len]
    exact aUW (Int.le_refl _) hbs.1)]
   refine aU0 hs.ok (fun hn=>?_) h.ring rfl (by omega) hq1 hcx' hne
   have hf:=hs.fits
   unfold tD at hf
   cases hb2:c.b with
   | true=>exact absurd (hs.begin hb2) hn
   | false=>rw[hb2,if_neg (by decide)] at hf; exact hf
theorem SimR.start (hm:Made g (ofB g) S S.length 0) {d:AutoD} (hd:d=ofD g S):SimR g S aAD (zX (aJa d)):=by
 subst hd
 obtain⟨z,z1,z2⟩:=hm.base.zero
 refine⟨⟨0,z,⟨rfl,z1,z2.symm,⟨fun _=>rfl,fun _=>rfl⟩⟩,rfl⟩,?_,fun h hh=>by cases hh⟩
 unfold zX aJa
 show (((gE g.p).map fun _=>noR).map rG).length=_
 rw[List.length_map,List.length_map]
theorem aEb (hr:dJ g=true) (hm:Made g (ofB g) S S.length 0):∀ (w:List Nat) (i:Nat) (c:CfgD) (m:MacD) (to best:Int),(∀ b∈w,b < 256)→SimR g S c m→(aBr (ofD g S) w i m (aS3 (to,best))).1=aS3 (lon g c to best i w)
 | [],i,c,m,to,best,_,_=>rfl
 | b::w,i,c,m,to,best,hw,h=>by
  rw[zL,aR1]
  rcases h.step hr hm (hw b (by simp)) with ⟨h1,h2⟩ | ⟨h1,h2⟩
  ·rw[h1,if_neg (by decide),h2,aG3,aG3,if_neg (by unfold oM rul; decide)]
  ·rw[if_pos h1,h2.rule hr hm]
   obtain⟨k,s,hs,_⟩:=h2.sim
   have hge:=aSe hr hs.fits
   by_cases hz:oM g (lP g c b)=-1
   ·rw[if_pos hz,if_neg (by omega)]
    exact aEb hr hm w (i+1) _ _ _ _ (fun x hx=>hw x (by simp[hx])) h2
   ·rw[if_neg hz,if_pos (by omega)]
    have e:((i:Int)+1,oM g (lP g c b),true)=aS3 ((i:Int)+1,oM g (lP g c b)):=by
     unfold aS3
     rw[if_neg (by dsimp only; omega)]
    rw[e]
    exact aEb hr hm w (i+1) _ _ _ _ (fun x hx=>hw x (by simp[hx])) h2
theorem aR3 {w:List Nat}{f:Int} (h0:(ofZ g).1=0) (hw:∀ b∈w,b < 256):(aBs (ofZ g).2 w f (aJa (ofZ g).2)).1=aLJ g w f:=by
 obtain⟨hr,S,hS,hm,_⟩:=aSC h0
 rw[hS]
 unfold aBs aLJ
 by_cases hf:f < 0∨(w.length:Int) < f
 ·rw[if_pos hf,if_neg (by omega)]
 ·rw[if_neg hf,if_pos ⟨hr,by omega,by omega⟩]
  have e:(f:Int)=(f.toNat:Int):=by omega
  have:=aEb hr hm (w.drop f.toNat) f.toNat aAD (zX (aJa (ofD g S))) 0 (-1) (fun b hb=>hw b (List.mem_of_mem_drop hb)) (.start hm rfl)
  rw[← e] at this
  exact this
end
end V
end Go.Proofs.YtjndkdmkecpllaaGreat
namespace Go.Proofs.YtjndkdmkecpllaaGreat
namespace V
attribute [local irreducible] aA bF aV dL eJ iM dE
def aDk:Nat→List (List NodeD)→List (List NodeD)
 | _,[]=>[]
 | i,t::r=>(if i < 3∧t.length≤24∧jW t=true then [t] else [])++aDk (i+1) r
theorem aHQ:∀ (ll:List (List NodeD)) (i:Nat),∀ t∈aDk i ll,jW t=true∧t.length≤60
 | [],i,t,h=>by cases h
 | u::r,i,t,h=>by
  unfold aDk at h
  rcases List.mem_append.1 h with h | h
  ·split at h
   ·rename_i h1
    rw[List.mem_singleton] at h; subst h
    exact⟨h1.2.2,by omega⟩
   ·cases h
  ·exact aHQ r (i+1) t h
theorem aMS:∀ (ll:List (List NodeD)) (i:Nat),(aDk i ll).length≤3 - i
 | [],i=>by simp[aDk]
 | u::r,i=>by
  have:=aMS r (i+1)
  unfold aDk
  rw[List.length_append]
  split
  ·rename_i h; simp; omega
  ·simp; omega
theorem aQF (i:Nat) (t:List NodeD) (r:List (List NodeD)):aDk i (t::r)=(if i < 3∧t.length≤24∧jW t=true then [t] else [])++aDk (i+1) r:=rfl
set_option maxRecDepth 8000 in
set_option maxHeartbeats 4000000 in
theorem aT7 {ro:Ro}{xv:Value}{ws:List Value}{ts:List (List NodeD)}{s:ByteArray}{at_8:Nat}{h:T Obj}{lo nx:Nat}{K:KV}{e:dF} (hat:at_8 < 256) (hs:Sel ro h xv ws ts lo) (hf:Fr h nx) (hts:∀ t∈ts,jW t=true∧t.length≤60) (htl:ts.length≤4) (e1:e 1=.string s) (e2:e 2=.int .u8 (at_8:Int)) (e7:e 7=.bool true) (e8:e 8=xv) (hK:∀ h' nx',K (.bool true) h' nx'):lU ro K e h nx:=by
 unfold lU
 rw[e1,e2,e7,e8]
 refine aNZ (hf.mono (by omega)) hs.trees (fun t ht=>(hts t ht).1) (by omega) fun r er h1 n1 hn1 hs1 hf1 hres=>?_
 refine aB (show nth 0 (.tuple #[r,.int .i64 er])=some r from rfl) (aB (show nth 1 (.tuple #[r,.int .i64 er])=some (.int .i64 er) from rfl) ?_)
 obtain⟨fa,pa,rfl,hG0⟩:∃ fa pa,r=.agg #[fa,pa]∧∃ g,RG ro h1 (.agg #[fa,pa]) g∧(er=0→ofL ts 0 [] []=some g):=by
  cases ho:ofL ts 0 [] [] with
  | none =>
   rw[ho] at hres
   obtain⟨rfl,rfl⟩:=hres
   exact⟨_,_,rfl,⟨[],[]⟩,⟨_,_,rfl,Sl.nil,gD.nil⟩,fun h=>absurd h (by decide)⟩
  | some g =>
   rw[ho] at hres
   obtain⟨rfl,hG⟩:=hres
   obtain⟨fa,pa,rfl,hfa,hpa⟩:=hG
   exact⟨fa,pa,rfl,g,⟨_,_,rfl,hfa,hpa⟩,fun _=>rfl⟩
 obtain⟨g,hG,ho⟩:=hG0
 obtain⟨fa',pa',q0,hfa,hpa⟩:=id hG
 obtain⟨rfl,rfl⟩:fa'=fa∧pa'=pa:=by
  simp only[Value.agg.injEq,Array.mk.injEq,List.cons.injEq,and_true] at q0
  exact⟨q0.1.symm,q0.2.symm⟩
 refine gP (n:=2) (x:=[fa',pa']) aKK rfl rfl rfl (by have h1:=hfa.ok; have h2:=gD.ok hpa; simp[h1,h2]) hf1 (by omega) fun h2 hs2 hf2 g2 _=>?_
 refine aB (bX g2 rfl) ?_
 refine aN0 (g:=g) (hf2.mono (by omega)) ⟨fa',pa',rfl,hfa.sub hs2,hpa.sub hs2 (oU.sub hs2)⟩ fun h3 n3 xs hn3 hs3 hf3 hR=>?_
 refine aB (aVa _ _) (aB (aVb _ _) ?_)
 refine gP (x:=xs) aBX (by show nB.toArray.size=259; simp[nG]) rfl hR.len hR.okL (hf3.mono (by omega)) (Nat.le_refl _) fun h4 hs4 hf4 g4 _=>?_
 have hR4:=hR.sub hs4
 by_cases her:er=0
 ·subst her
  have ho:=ho rfl
  by_cases hz:(ofZ g).1=0
  ·have hok:=aS9 hz
   have hlong:=fun (w:List Nat) (f:Int) hw=>aR3 (w:=w) (f:=f) hz hw
   rw[hz]
   generalize (ofZ g).2=d at hR hR4 hok hlong
   (repeat refine zzC ?_)
   refine aB (bX (ro:=ro) (z:=0) (n:=259) (l:=xs) g4 hR.len) ?_
   have hc:d.c.length=256:=by obtain⟨cv',sv',_,hc,_⟩:=id hR; exact hc
   have hokE:=aOi hok
   refine aMv (X0:=[]) (hf4.mono (by omega)) hR4 (fun hno=>absurd hok (by rw[hno]; decide)) (fun k hk=>by cases hk) fun _ pE psE X1 h5 n5 hn5 hf5 hs5 hX1 hE=>?_
   refine aB (aVa _ _) (aB (aVb _ _) ?_)
   have hls:uW (.string s)=some (.int .i64 s.size):=rfl
   (have zy:=And.intro @aWb hls;repeat refine zzCz ?_)
   refine aB (aTv _ _ _ _) ?_
   rw[show min (s.size:Int) 20=((min s.size 20:Nat):Int) by omega]
   refine aB (aQM (by omega)) ?_
   have hwl:=aPJ s
   change (iC (s.extract 0 (min s.size 20))).length≤20 at hwl
   generalize s.extract 0 (min s.size 20)=y at hwl ⊢
   have hly:=uX y
   (have zy:=hly;repeat refine zzCz ?_)
   generalize hfrom:(at_8:Int) % (((iC y).length:Int)+1)=f'
   obtain⟨f,hff,hfl⟩:∃ f:Nat,f'=f∧f≤(iC y).length:=⟨f'.toNat,by
    have h1:=Int.emod_nonneg (at_8:Int) (show ((iC y).length:Int)+1≠0 by omega)
    have h2:=Int.emod_lt_of_pos (at_8:Int) (show 0 < ((iC y).length:Int)+1 by omega)
    omega⟩
   subst hff
   have hsel2:=(((hs.sub hs1).sub hs2).sub hs3).sub (hs4.trans hs5)
   have hxl:bM xv=some (.int .i64 ts.length):=by
    have:=(hs.ow.sl (ro:=ro)).len
    rwa [aD0,hs.len] at this
   have hmeans:=aR7 (w:=iC y) (f:=f) (fun t ht=>(hts t ht).1) (by omega) ho hfl
   rw[← hlong _ _ fun b hb=>aMf b hb] at hmeans
   (have zy:=hxl;repeat refine zzCz ?_)
   refine bD (fun m e h' nx'=>∃ (k:Nat) (b:Int × Int × Bool),k+m=ts.length∧n5≤nx'∧e 7=.bool true∧e 15=ptr pE∧e 17=.string y∧e 18=.int .i64 (f:Int)∧e 19=.int .i64 b.1∧e 20=.int .i64 b.2.1∧e 21=.bool b.2.2∧e 92=xv∧e 93=.int .i64 ts.length∧e 94=.int .i64 k∧h'=h5∧aBj (iC y) f 0 (0,0,false) ts=aBj (iC y) f k b (ts.drop k)) ?_ (n:=ts.length)
    ⟨0,(0,0,false),by omega,by omega,e7,rfl,rfl,rfl,rfl,rfl,rfl,rfl,rfl,rfl,rfl,rfl⟩
   rintro m e h' nx' ⟨k,b,hkm,hnx,e7,e15,e17,e18,e19,e20,e21,e92,e93,e94,rfl,hb⟩ Q' hq hx
   unfold uU
   rw[e17,e18,e19,e21,e92,e93,e94]
   obtain⟨to,best,some_⟩:=b
   simp only at e19 e20 e21
   refine cM (fun hi=>?_) (fun hi=>?_)
   ·have hi:k < ts.length:=by omega
    obtain⟨w,ht,hw⟩:=hsel2.trees.at hi
    have hix:=gD.ix hsel2.trees .i64 hi
    have htk:=hts ts[k] (List.getElem_mem hi)
    rw[cP hi,aMd] at hb
    have hbt:aK1 (iC y) f k (to,best,some_) ts[k]=if (wI ts[k] (iC y) f).2=true∧(some_=false∨to < (wI ts[k] (iC y) f).1) then ((wI ts[k] (iC y) f).1,(k:Int),true) else (to,best,some_):=rfl
    rw[hbt] at hb
    clear hbt
    generalize ts[k]=t at *
    have hnext:∀ (e':dF) n6 (b3:Int × Int × Bool),n5≤n6→aBj (iC y) f 0 (0,0,false) ts=aBj (iC y) f (k+1) b3 (ts.drop (k+1))→e' 7=.bool true→e' 15=ptr pE→e' 17=.string y→e' 18=.int .i64 (f:Int)→e' 19=.int .i64 b3.1→e' 20=.int .i64 b3.2.1→e' 21=.bool b3.2.2→e' 92=xv→e' 93=.int .i64 ts.length→e' 94=.int .i64 k→lV ro Q' e' h' n6:=fun e' n6 b3 hn6 hb3 q7 q15 q17 q18 q19 q20 q21 q92 q93 q94=>by
     unfold lV
     rw[q94]
     (repeat refine zzC ?_)
     exact hq (m - 1) _ _ _ _ (by omega) ⟨k+1,b3,by omega,by omega,q7,q15,q17,q18,q19,q20,q21,q92,q93,rfl,rfl,hb3⟩ (aU.refl _)
    (have zy:=And.intro hix hw;repeat refine zzCz ?_)
    refine aF4 (by omega) (by omega) ht (hf5.mono (by omega)) fun n6 hn6=>?_
    generalize wI t (iC y) f=lt at *
    obtain⟨tt,ok⟩:=lt
    simp only at hb ⊢
    refine aB (show nth 0 (.tuple #[.int .i64 tt,.bool ok])=some (.int .i64 tt) from rfl) (aB (show nth 1 (.tuple #[.int .i64 tt,.bool ok])=some (.bool ok) from rfl) ?_)
    cases ok with
    | false =>
     rw[if_neg (by simp)] at hb
     (repeat refine zzC ?_)
     exact hnext _ _ _ (by omega) hb e7 e15 e17 e18 e19 e20 e21 e92 e93 e94
    | true =>
     cases some_ with
     | false =>
      rw[if_pos ⟨rfl,.inl rfl⟩] at hb
      (repeat refine zzC ?_)
      exact hnext _ _ _ (by omega) hb e7 e15 e17 e18 rfl rfl rfl e92 e93 e94
     | true =>
      (repeat refine zzC ?_)
      refine jT (fun hgt=>?_) (fun hgt=>?_)
      ·rw[if_pos ⟨rfl,.inr hgt⟩] at hb
       (repeat refine zzC ?_)
       exact hnext _ _ _ (by omega) hb e7 e15 e17 e18 rfl rfl rfl e92 e93 e94
      ·rw[if_neg (by simp; omega)] at hb
       (repeat refine zzC ?_)
       exact hnext _ _ _ (by omega) hb e7 e15 e17 e18 e19 e20 e21 e92 e93 e94
   ·rw[eO (by omega)] at hb
    have hb:aBj (iC y) f 0 (0,0,false) ts=(to,best,some_):=hb
    rw[hb] at hmeans
    (repeat refine zzC ?_)
    refine hx _ _ _ _ (fun e=>by cases e) (d3 (cU ?_))
    unfold pN
    generalize hE9:puts e _=E
    have E7:E 7=.bool true:=by rw[← hE9]; exact e7
    have E15:E 15=ptr pE:=by rw[← hE9]; exact e15
    have E17:E 17=.string y:=by rw[← hE9]; exact e17
    have E18:E 18=.int .i64 (f:Int):=by rw[← hE9]; exact e18
    have E19:E 19=.int .i64 to:=by rw[← hE9]; exact e19
    have E20:E 20=.int .i64 best:=by rw[← hE9]; exact e20
    have E21:E 21=.bool some_:=by rw[← hE9]; exact e21
    rw[E7,E15,E17,E18,E19,E20,E21]
    refine aGL hE hokE (aVI (aV9 hok)) (hf5.mono (by omega)) (B:=0) (fun r hr=>by
     obtain⟨c9,_,rfl⟩:=List.mem_map.1 hr
     exact Nat.zero_le _) (by omega) (by omega) (by show 0≤1000000; omega) fun h6 n6 hn6 hf6 hk6 hE6=>?_
    rw[aR2,hmeans]
    refine aB (a:=.int .i64 to) rfl (aB (a:=.int .i64 best) rfl (aB (a:=.bool some_) rfl ?_))
    (repeat refine zzC ?_)
    refine⟨h6,aU.refl _,?_⟩
    have hbb:(some_==some_)=true:=by simp
    rw[hbb]
    exact hK _ _
  ·(repeat refine zzC ?_)
   exact⟨h4,aU.refl _,hK _ _⟩
 ·(repeat refine zzC ?_)
  exact⟨h4,aU.refl _,hK _ _⟩
set_option maxRecDepth 8000 in
set_option maxHeartbeats 4000000 in
theorem aDN {ro:Ro}{v:Value}{ll:List (List NodeD)}{s:ByteArray}{at_8:Nat} (hat:at_8 < 256) (hll:ll.length≤aEN) {h:T Obj}{nx:Nat}{K:KV} (hf:Fr h nx) (hv:wZ ro .e v ll) (hK:∀ h' nx',K (.bool true) h' nx'):aN Tryz.prog ro wH [v,.string s,.int .u8 (at_8:Int)] h nx K:=by
 apply aCc
 unfold aAI
 refine aU8 ?_
 have hvl:=gD.len hv
 (have zy:=hvl;repeat refine zzCz ?_)
 refine bD (fun m e h' nx'=>∃ (k:Nat) (ws:List Value) (ts:List (List NodeD)) (xv:Value),k+m=ll.length∧nx≤nx'∧e 1=.string s∧e 2=.int .u8 (at_8:Int)∧e 7=.bool true∧e 8=xv∧e 30=v∧e 31=.int .i64 ll.length∧e 32=.int .i64 k∧Fr h' nx'∧Sel ro h' xv ws ts nx∧aDk 0 ll=ts++aDk k (ll.drop k)∧ts.length≤4) ?_ (n:=ll.length)
  ⟨0,[],[],_,by omega,by omega,rfl,rfl,rfl,rfl,rfl,rfl,rfl,hf.mono (by omega),⟨bL.nil,rfl,fun i w t hw=>by simp at hw⟩,rfl,by simp⟩
 rintro m e h' nx' ⟨k,ws,ts,xv,hkm,hnx,e1,e2,e7,e8,e30,e31,e32,hf',hs,hsel,h4⟩ Q' hq hx
 unfold uV
 rw[e8,e30,e31,e32]
 unfold aEN at hll
 refine cM (fun hi=>?_) (fun hi=>?_)
 ·have hi:k < ll.length:=by omega
  obtain⟨w,ht,hw⟩:=hv.at hi
  have hix:=gD.ix hv .i64 hi
  have hw':=aB6 (aU.ofE h') hw
  have htot:=aMS ll 0
  rw[cP hi,aQF] at hsel
  generalize ll[k]=t at *
  have htl:=gD.len ht
  have hnext:∀ (e':dF) h3 n3 ws3 ts3 xv3,nx≤n3→Fr h3 n3→Sel ro h3 xv3 ws3 ts3 nx→aDk 0 ll=ts3++aDk (k+1) (ll.drop (k+1))→e' 1=.string s→e' 2=.int .u8 (at_8:Int)→e' 7=.bool true→e' 8=xv3→e' 30=v→e' 31=.int .i64 ll.length→e' 32=.int .i64 k→lW ro Q' e' h3 n3:=fun e' h3 n3 ws3 ts3 xv3 hn3 hf3 hs3 hsel3 q1 q2 q7 q8 q30 q31 q32=>by
   unfold lW
   rw[q32]
   (repeat refine zzC ?_)
   refine hq (m - 1) _ _ _ _ (by omega) ⟨k+1,ws3,ts3,xv3,by omega,by omega,q1,q2,q7,q8,q30,q31,rfl,hf3.mono (by omega),hs3,hsel3,?_⟩ (aU.refl _)
   rw[hsel3,List.length_append] at htot
   omega
  (have zy:=And.intro hix hw';repeat refine zzCz ?_)
  refine cM (fun hk4=>?_) (fun hk4=>?_)
  ·(have zy:=htl;repeat refine zzCz ?_)
   refine tE (fun h60=>?_) (fun h60=>?_)
   ·(repeat refine zzC ?_)
    refine aCI (by omega) (ht.sub (aU.ofE h')) (hf'.mono (by omega)) fun n2 hn2=>?_
    cases hr8:jW t with
    | true =>
     rw[if_pos ⟨by omega,by omega,hr8⟩] at hsel
     (repeat refine zzC ?_)
     have hwl:=hs.len
     refine hs.snoc ht (by omega) (hf'.mono (show nx'≤n2 by omega)) (by omega) (by omega) (by omega) fun r h3 q h5 s1 s2 s3=>?_
     exact hnext _ _ _ _ _ r (by dsimp only; omega) (s3.mono (by dsimp only; omega)) s1 (by rw[hsel]; simp) e1 e2 e7 rfl e30 e31 e32
    | false =>
     rw[if_neg (by simp[hr8]),List.nil_append] at hsel
     (repeat refine zzC ?_)
     exact hnext _ _ _ _ _ xv (by omega) (hf'.mono (by omega)) hs hsel e1 e2 e7 e8 e30 e31 e32
   ·rw[if_neg (by omega),List.nil_append] at hsel
    (repeat refine zzC ?_)
    exact hnext _ _ _ _ _ xv (by omega) (hf'.mono (by omega)) hs hsel e1 e2 e7 e8 e30 e31 e32
  ·rw[if_neg (by omega),List.nil_append] at hsel
   (repeat refine zzC ?_)
   exact hnext _ _ _ _ _ xv (by omega) (hf'.mono (by omega)) hs hsel e1 e2 e7 e8 e30 e31 e32
 ·(repeat refine zzC ?_)
  refine hx _ _ _ _ (fun e=>by cases e) (d3 (cU ?_))
  rw[eO (by omega)] at hsel
  have hsel:aDk 0 ll=ts:=by rw[hsel]; simp[aDk]
  refine aT7 hat hs (hf'.mono (by omega)) (fun t ht=>aHQ ll 0 t (by rw[hsel]; exact ht)) h4 e1 e2 e7 e8 hK
end V
end Go.Proofs.YtjndkdmkecpllaaGreat
set_option maxRecDepth 16000
namespace Go.Proofs.YtjndkdmkecpllaaGreat
namespace V
open Go.ChangeShapes Go.WideShapes Go.ChangeAt Go.RowKit Go.Deep
section
variable {H:Type}{enc:TypeId × Value→H}{W:World}
def wJ (a b c d:Nat):Nat:=a+2 ^ 64*b+2 ^ 128*c+2 ^ 192*d
theorem aNN {a b c d:Nat} (ha:a < 2 ^ 64) (hb:b < 2 ^ 64) (hc:c < 2 ^ 64) (hd:d < 2 ^ 64):wJ a b c d < 2 ^ 256:=by unfold wJ; omega
theorem aKI {a b c d:Nat} (ha:a < 2 ^ 64) (hb:b < 2 ^ 64) (hc:c < 2 ^ 64) (hd:d < 2 ^ 64) :
  kJ (wJ a b c d) 0=a∧kJ (wJ a b c d) 1=b∧kJ (wJ a b c d) 2=c∧kJ (wJ a b c d) 3=d:=by
 unfold kJ wJ
 simp only[Nat.reduceMul,Nat.reducePow,Nat.div_one]
 omega
theorem aSz {n:Nat}{cs:List Value}{y:DataW H × List MemPlace} (h:DataW.trod enc Tryz.prog W 0 (fun _=>true) true n aDr cs=some y):∃ a:Nat,cs=[.int .u64 (a:Int)]∧a < 2 ^ 64:=by
 have hu:Tryz.prog.underlying aDr=some (.int .u64):=by kernel_rfl
 obtain⟨a,rfl,_,hw⟩:=DataW.trod_int hu h
 simp only[Lit.wf,Bool.and_eq_true,decide_eq_true_eq] at hw
 have h1:IntKind.u64.min=0:=rfl
 have h2:IntKind.u64.max=18446744073709551615:=rfl
 rw[h1,h2] at hw
 refine⟨a.toNat,?_,by omega⟩
 rw[Int.toNat_of_nonneg hw.1]
theorem aQH {n:Nat}{cs:List Value}{y:DataW H × List MemPlace} (h:DataW.trod enc Tryz.prog W 0 (fun _=>true) true n bR cs=some y):∃ m,m < 2 ^ 256∧cs=gA m:=by
 have hu:Tryz.prog.underlying bR=some (.array 4 aDr):=by kernel_rfl
 have hc:Tryz.prog.cellsOf bR=4:=by kernel_rfl
 have hc1:Tryz.prog.cellsOf aDr=1:=by kernel_rfl
 obtain⟨xs,m,_,_,hlen,hxs,hel⟩:=DataW.trod_array hu h
 rw[hc] at hlen
 have el:∀ i,i < 4→∃ a:Nat,(cs.drop i).take 1=[.int .u64 (a:Int)]∧a < 2 ^ 64:=by
  intro i hi
  have:=hel i hi
  rw[hc1,Nat.mul_one] at this
  have hx:xs[i]?=some xs[i]:=List.getElem?_eq_getElem (by omega)
  rw[hx] at this
  exact aSz this
 match cs,hlen with
 | [c0,c1,c2,c3],_ =>
  obtain⟨a0,h0,g0⟩:=el 0 (by omega)
  obtain⟨a1,h1,g1⟩:=el 1 (by omega)
  obtain⟨a2,h2,g2⟩:=el 2 (by omega)
  obtain⟨a3,h3,g3⟩:=el 3 (by omega)
  simp at h0 h1 h2 h3
  subst h0 h1 h2 h3
  obtain⟨w0,w1,w2,w3⟩:=aKI g0 g1 g2 g3
  exact⟨wJ a0 a1 a2 a3,aNN g0 g1 g2 g3,by simp[gA,w0,w1,w2,w3]⟩
theorem aTA {n:Nat}{cs:List Value}{y:DataW H × List MemPlace} (h:DataW.trod enc Tryz.prog W 0 (fun _=>true) true n bS cs=some y):∃ a:Nat,cs=[.int .u8 (a:Int)]∧a < 256:=by
 have hu:Tryz.prog.underlying bS=some (.int .u8):=by kernel_rfl
 obtain⟨a,rfl,_,hw⟩:=DataW.trod_int hu h
 have:=aVG hw
 exact⟨a.toNat,by rw[Int.toNat_of_nonneg this.1],by omega⟩
theorem aQT {n:Nat}{cs:List Value}{y:DataW H × List MemPlace} (h:DataW.trod enc Tryz.prog W 0 (fun _=>true) true n mH cs=some y):∃ s:ByteArray,cs=[.string s]:=by
 have hu:Tryz.prog.underlying mH=some .string:=by kernel_rfl
 obtain⟨a,rfl,_⟩:=DataW.trod_string hu h
 exact⟨_,rfl⟩
theorem aI6 {N:Nat}{v v':Value}{o:Option Addr}{l c:Nat} (hv:v=.slice o l c) (h:aET N v=some v'):bM v'=some (.int .i64 l):=by
 subst hv
 unfold aET at h
 split at h
 ·rename_i h1
  cases h
  cases h1
  rfl
 ·rename_i h1
  cases h1
  split at h
  ·cases h; rfl
  ·cases h
 ·rename_i h1; cases h1
 ·split at h
  ·cases h; rfl
  ·cases h
theorem aER {D:Type}{t e:TypeId}{z:Nat}{R:List Value→D→Prop} (ht:Tryz.prog.underlying t=some (.slice e)) (hz:Tryz.prog.cellsOf e=z) (hz0:0 < z) {fuel:Nat}{cs:List Value}{x:DataW H × List MemPlace} (h:DataW.trod enc Tryz.prog W 0 (fun _=>true) true fuel t cs=some x)
  (hel:∀ n cs' y,DataW.trod enc Tryz.prog W 0 (fun _=>true) true n e cs'=some y→∃ cs'',aAi W.heap.size cs'=some cs''∧∃ d,R cs'' d):∃ v v' l,cs=[v]∧aET W.heap.size v=some v'∧gD (xY W) .e v' z R l∧l.length≤aEN:=by
 obtain⟨v,v',hv,hn,l,hl,hall⟩:=aUK ht hz hz0 h (El:=fun x=>∃ d,R x d) hel
 have hbound:l.length≤aEN:=by
  have hlen:=hl.len
  rcases open_slice ht h with ⟨h1,_⟩ | ⟨a,len,cap,m,n,D,Pl,h1,_,hle,hm,_⟩
  ·rw[hv] at h1
   have h2:=aI6 (List.cons.inj h1).1 hn
   rw[hlen] at h2
   simp only[Option.some.injEq,Value.int.injEq,true_and] at h2
   have:l.length=0:=by omega
   rw[this]; unfold aEN; omega
  ·rw[hv] at h1
   have h2:=aI6 (List.cons.inj h1).1 hn
   rw[hlen] at h2
   simp only[Option.some.injEq,Value.int.injEq,true_and] at h2
   unfold maxLen at hm
   unfold aEN
   omega
 refine⟨v,v',?_⟩
 have e:∃ ds:List D,l.length=ds.length∧∀ (i:Nat) x d,l[i]?=some x→ds[i]?=some d→R x d:=by
  clear hl hbound
  induction l with
  | nil=>exact⟨[],rfl,fun i x d hx=>by simp at hx⟩
  | cons x l ih =>
   obtain⟨ds,h1,h2⟩:=ih fun y hy=>hall y (by simp[hy])
   obtain⟨d,hd⟩:=hall x (by simp)
   refine⟨d::ds,by simp[h1],fun i x' d' hx hd'=>?_⟩
   cases i with
   | zero=>simp at hx hd'; subst hx; subst hd'; exact hd
   | succ i=>exact h2 i x' d' (by simpa using hx) (by simpa using hd')
 obtain⟨ds,h1,h2⟩:=e
 exact⟨ds,hv,hn,⟨l,hl,h1,h2⟩,by rw[← h1]; exact hbound⟩
theorem aLU {n:Nat}{cs:List Value}{y:DataW H × List MemPlace} (h:DataW.trod enc Tryz.prog W 0 (fun _=>true) true n cR cs=some y):∃ v v' l,cs=[v]∧aET W.heap.size v=some v'∧ZI (xY W) .e v' l∧l.length≤aEN:=by
 have hu:Tryz.prog.underlying cR=some (.slice cI):=by kernel_rfl
 have hc:Tryz.prog.cellsOf cI=1:=by kernel_rfl
 obtain⟨v,v',l,hv,hn,⟨cs,h1,h2,h3⟩,hb⟩:=aER (R:=fun x (a:Int)=>x=[Value.int .i64 a]) hu hc (by omega) h fun n cs' y hy=>by
  obtain⟨a,rfl⟩:=aGY hy
  exact⟨_,rfl,a,rfl⟩
 refine⟨v,v',l,hv,hn,?_,hb⟩
 have e:cs=fK l:=by
  refine List.ext_getElem? fun i=>?_
  unfold fK
  rw[List.getElem?_map]
  cases hi:l[i]? with
  | none =>
   have:=List.getElem?_eq_none_iff.1 hi
   rw[List.getElem?_eq_none (by omega)]; rfl
  | some a =>
   have hil:=(List.getElem?_eq_some_iff.1 hi).1
   have hx:cs[i]?=some (cs[i]'(by omega)):=List.getElem?_eq_getElem (by omega)
   rw[hx,h3 i _ a hx hi]; rfl
 unfold ZI
 rw[← e]; exact h1
theorem aNJ {n:Nat}{cs:List Value}{y:DataW H × List MemPlace} (h:DataW.trod enc Tryz.prog W 0 (fun _=>true) true n dH cs=some y):∃ cs'',aAi W.heap.size cs=some cs''∧∃ d,aIA (xY W) .e cs'' d:=by
 have hL:fieldsOf Tryz.prog dH=some [(0,bS),(1,bR),(5,cR),(6,cI),(7,cI),(8,mH)]:=by kernel_rfl
 have c0:Tryz.prog.cellsOf dH=9:=by kernel_rfl
 have c1:Tryz.prog.cellsOf bS=1:=by kernel_rfl
 have c2:Tryz.prog.cellsOf bR=4:=by kernel_rfl
 have c3:Tryz.prog.cellsOf cR=1:=by kernel_rfl
 have c4:Tryz.prog.cellsOf cI=1:=by kernel_rfl
 have c5:Tryz.prog.cellsOf mH=1:=by kernel_rfl
 obtain⟨hlen,m,hf⟩:=aM5 hL h
 obtain⟨_,f0⟩:=hf 0 _ _ rfl
 obtain⟨_,f1⟩:=hf 1 _ _ rfl
 obtain⟨_,f2⟩:=hf 2 _ _ rfl
 obtain⟨_,f3⟩:=hf 3 _ _ rfl
 obtain⟨_,f4⟩:=hf 4 _ _ rfl
 obtain⟨_,f5⟩:=hf 5 _ _ rfl
 rw[c0] at hlen
 rw[c1] at f0
 rw[c2] at f1
 rw[c3] at f2
 rw[c4] at f3 f4
 rw[c5] at f5
 obtain⟨op,g0,hop⟩:=aTA f0
 obtain⟨s,hs,g1⟩:=aQH f1
 obtain⟨v,v',l,g2,hn,hz,hb⟩:=aLU f2
 obtain⟨lo,g3⟩:=aGY f3
 obtain⟨hi,g4⟩:=aGY f4
 obtain⟨nm,g5⟩:=aQT f5
 match cs,hlen with
 | [a0,a1,a2,a3,a4,a5,a6,a7,a8],_ =>
  simp at g0 g1 g2 g3 g4 g5
  subst g0 g2 g3 g4 g5
  have e:[a1,a2,a3,a4]=gA s:=g1
  refine⟨pO ⟨op,s,l,lo,hi,nm⟩ v',?_,_,v',rfl,hz,hs,hb⟩
  have e2:[Value.int .u8 (op:Int),a1,a2,a3,a4,a5,.int .i64 lo,.int .i64 hi,.string nm]=[Value.int .u8 (op:Int)]++gA s++[a5,.int .i64 lo,.int .i64 hi,.string nm]:=by rw[← e]; rfl
  rw[e2]
  unfold gA pO
  simp only[gA,List.cons_append,List.nil_append,aAi,hn]
  rfl
theorem aQX {n:Nat}{cs:List Value}{y:DataW H × List MemPlace} (h:DataW.trod enc Tryz.prog W 0 (fun _=>true) true n iZ cs=some y):∃ cs'',aAi W.heap.size cs=some cs''∧∃ t:List NodeD,∃ w,cs''=[w]∧oV (xY W) .e w t:=by
 have hu:Tryz.prog.underlying iZ=some (.slice dH):=by kernel_rfl
 have hc:Tryz.prog.cellsOf dH=9:=by kernel_rfl
 obtain⟨v,v',l,rfl,hn,hz,_⟩:=aER hu hc (by omega) h fun n cs' y hy=>aNJ hy
 exact⟨[v'],by simp only[aAi,hn]; rfl,l,v',rfl,hz⟩
theorem aNP {v:Value}{d:DataW H}{p:List MemPlace} (h:DataW.Trod enc Tryz.prog W 0 (fun _=>true) true eQ v d p) {base:Nat} (hval:Value.okWide Tryz.prog W .any base eQ v):∃ v' ll,Arg W.heap.size v' v∧wZ (xY W) .e v' ll∧ll.length≤aEN:=by
 have hu:Tryz.prog.underlying eQ=some (.slice iZ):=by kernel_rfl
 have hc:Tryz.prog.cellsOf iZ=1:=by kernel_rfl
 obtain⟨fuel,hf⟩:=h
 obtain⟨v1,v',l,g0,hn,hz,hb⟩:=aER hu hc (by omega) hf fun n cs' y hy=>aQX hy
 obtain⟨o,n,c,rfl⟩:=okWide_slice hu hval
 have:v1=.slice o n c:=by
  have e:(Value.slice o n c).cells.toList=[.slice o n c]:=rfl
  rw[e] at g0
  simpa using g0.symm
 subst this
 exact⟨v',l,.one hn,hz,hb⟩
end
end V
end Go.Proofs.YtjndkdmkecpllaaGreat
set_option maxRecDepth 16000
namespace Go.Proofs.YtjndkdmkecpllaaGreat
namespace V
open Go.ChangeShapes Go.WideShapes Go.ChangeAt Go.RowKit
theorem aEF (os:Os) (started:os.Started) (H:Type) (enc:TypeId × Value→H) :
  ReturnsInHanded {} Tryz.checked os 3 .any (Rows.execMeansSpec.pre6 enc Tryz.prog Tryz.f3 Rows.execMeansRow.domain false) (Rows.execMeansSpec.post enc Tryz.prog Tryz.f3 false true false false):=by
 refine returnsInHanded_of_change_sized (C:=Tryz.checked) aWW started (by kernel_rfl) (by kernel_rfl)
  (ChangeSpec.witness6 (enc:=enc) (C:=Tryz.checked) false ⟨#[],#[.slice none 0 0,.string .empty,.int .u8 0],[]⟩ 8 (by kernel_rfl) (by kernel_rfl) (by kernel_rfl) (by kernel_rfl)) ?_
 intro W base args ds gs before hval hW _ _ _
 have hW':=hW
 obtain⟨p,q,hA0,hV,rfl,hfz,hnd⟩:=hW
 have hA:DataW.TrodAll enc Tryz.prog W 0 (fun _=>true) true [eQ,mH,bS] args.toList ds p:=hA0
 obtain⟨v0,v1,v2,d0,d1,d2,p0,p1,p2,rfl,rfl,rfl,h0,h1,h2⟩:=trodAll_three hA
 obtain⟨rfl,rfl⟩:=trodVars_none hV
 obtain⟨w0,l0,a0,hl0,hn0⟩:=aNP h0 (hval 0 eQ v0 rfl rfl)
 obtain⟨s1,a1⟩:=aSI h1 (hval 1 mH v1 rfl rfl)
 obtain⟨b2,hb2,a2⟩:=aUL h2 (hval 2 bS v2 rfl rfl)
 have hsay:aWF Tryz.prog W 3 [w0,.string s1,.int .u8 (b2:Int)]:=aDN hb2 hn0 Fr.e hl0 fun _ _=>rfl
 refine (aNa okZ okN okM (args:=#[v0,v1,v2]) (.cons a0 (.cons a1 (.cons a2 .nil))) hsay).mono fun e W' ⟨he,hb⟩=>?_
 subst he
 exact⟨_,rfl,aRT (tb:=kM) aVc (by kernel_rfl) (by kernel_rfl) (by kernel_rfl) rfl hW' hb rfl⟩
end V
theorem execMeans_holds:Rows.ExecMeansSaid :=
 OpenClaim.holds_of_wide 3 Tryz.f3 rfl rfl rfl rfl rfl rfl rfl ⟨rfl,rfl,rfl,rfl,rfl⟩ rfl rfl rfl rfl rfl (by kernel_rfl) (by kernel_rfl) (by kernel_rfl)
  (of_decide_eq_true (by kernel_rfl)) (by unfold Func.isWrapper; rw[if_neg (of_decide_eq_false (by kernel_rfl))]; exact⟨rfl,rfl⟩)
  (fun os started H enc _=>V.aEF os started H enc)
end Go.Proofs.YtjndkdmkecpllaaGreat