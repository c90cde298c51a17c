/- Texts laid one behind the other: XG, XH, SC, SE, GA, SN, SO, XI, XJ, XL, XM, XU, SP, TO, XW, XX, XY, XZ, GS, SX, SY, SZ, SQ, SR, ST, SU.
   No condition. -/
import Derived.KernelRfl
import Derived.Test.YtcaccnneblghgaaGreatQ74
set_option linter.unusedVariables false
set_option linter.unusedSimpArgs false
namespace Go.Proofs.YtcaccnneblghgaaGreat
namespace V
attribute [local irreducible] aB bA aW dM eR gI dH
theorem aFy {d:AutoD}{R S:List Int}{m:MoveD} (ha:fF d=true) (h:jC d.states R m=true):m.ops.length=(oB d m.to).length∧(∀ o∈m.ops,1≤o∧o≤3)∧(∀ c∈oB d m.to,0≤c∧c < d.counts.length)∧(oB d m.to).length≤3:=by
 rcases wW h with ⟨h1,h2⟩ | ⟨h1,h2,h3,h4⟩
 ·unfold oB
  rw[if_pos h1,h2]
  exact⟨rfl,(fun o ho=>by cases ho),(fun o ho=>by cases ho),by simp⟩
 ·have hne:m.to≠-1:=by omega
  unfold oB
  rw[if_neg hne]
  have hi:m.to.toNat < d.states.length:=by omega
  have hs:d.states.getD m.to.toNat noS=d.states[m.to.toNat]:=by rw[List.getD_eq_getElem?_getD,List.getElem?_eq_getElem hi]; rfl
  have hk:=uQ ((eV ha).2.2.2.2.2 _ (List.getElem_mem hi))
  rw[← hs] at hk
  exact⟨h3,aIn h4 h3,hk.2.2.2.1,hk.1⟩
theorem aPa {nx:List Int}{B:Nat}:∀ {S:List Int}{rs:List RgD},WLe B rs→WLe (B+S.length) (rJ nx S rs)
 | [],rs,h=>h
 | c::r,rs,h=>by
  unfold rJ
  have h1:WLe (B+1) (if nx.contains c then rs else rs.set c.toNat (aDM (kW rs c))):=by
   split
   ·exact h.mono (by omega)
   ·exact (h.mono (by omega)).set (by show (kW rs c).2+1≤_; have:=h.at c; omega)
  have:=aPa (nx:=nx) (S:=r) h1
  rw[List.length_cons]
  exact this.mono (by omega)
theorem aS6 {C:List (Int × Int)}{B:Nat}:∀ {R:List Int}{os:List Nat}{rs:List RgD},WLe B rs→WLe (B+2*R.length) (vP C R os rs)
 | [],_,rs,h=>by simpa [vP] using h
 | c::r,[],rs,h=>by
  unfold vP; exact h.mono (by omega)
 | c::r,o::os,rs,h=>by
  unfold vP
  have:=aS6 (C:=C) (R:=r) (os:=os) (show WLe (B+2) (rs.set c.toNat (aEl (iE C c).2.toNat o (kW rs c))) from (h.mono (by omega)).set (by have:=h.at c; have:=aNM (iE C c).2.toNat o (kW rs c); omega))
  rw[List.length_cons]
  exact this.mono (by omega)
theorem aTV {d:AutoD}{m:MacD}{b B:Nat} (ha:fF d=true) (ho:MOk d m) (hcl:d.c.length=256) (hb:b < 256) (h:WLe B m.rs):WLe (B+9) (jX d m b).rs:=by
 unfold jX
 by_cases hc:m.cur=-1
 ·rw[if_pos hc]; exact h.mono (by omega)
 ·rw[if_neg hc]
  have h1:=(aEW ha ho hc).r3
  have h2:=aFy (S:=[]) ha (aFx ha ho hc hcl hb).2
  have h3:=aS6 (C:=d.counts) (R:=oB d (qZ d m b).to) (os:=(qZ d m b).ops) (aPa (nx:=oB d (qZ d m b).to) (S:=(eS d m).r) h)
  exact h3.mono (by omega)
section
variable {ro:Ro}{h:T Obj}{nx:Nat}{X:List Nat}{p:Nat}{ps:List (Nat × Nat)}{d:AutoD}{m:MacD}{K:KV}
set_option maxRecDepth 8000 in
set_option maxHeartbeats 1000000 in
theorem aKq {b B:Nat} (hm:MI ro h X p ps d m) (ha:fF d=true) (ho:MOk d m) (hb:b < 256) (hf:Fr h nx) (hB:WLe B m.rs) (hB2:B+20≤1000000) (hst:m.steps≤1000000000)
  (hK:∀ h' nx',nx≤nx'→Fr h' nx'→eB (p::iD ps) h h'→MI ro h' X p ps d (jX d m b)→K (.bool (onM d m b)) h' nx'):aO Tryz.prog ro pR [ptr p,.int .u8 (b:Int)] h nx K:=by
 apply aBU
 unfold x5
 refine aDl hm fun n1 hn1=>?_
 unfold onM jX at hK
 by_cases hc:m.cur=-1
 ·rw[if_pos hc,decide_eq_true hc] at hK
  refine aI5 hc ?_
  (repeat refine zzC ?_)
  exact⟨h,aZ.refl _,hK _ _ (by omega) (hf.mono (by omega)) (aZ.refl _).keepL hm⟩
 ·rw[if_neg hc,decide_eq_false hc] at hK
  have hsf:=aEW ha ho hc
  obtain⟨cv,sv,rv,gp,hA,hP,hR,hD,hpX,hbX⟩:=id hm
  obtain⟨hcl,hclt,hcv,hsv⟩:=hA.parts
  have hmv:=aFx ha ho hc hcl hb
  have hops:=aFy (S:=[]) ha hmv.2
  have hmp:=wW hmv.2
  have hsvD:=hsv
  have hsv:=hsv.sub (cX h X) (eT.sub (cX h X))
  have m8:=tG (n:=d.many) (cv:=cv) (sv:=sv) (cur:=m.cur) (rv:=rv) (steps:=m.steps) hcl
  have m9:=tH (n:=d.many) (cv:=cv) (sv:=sv) (cur:=m.cur) (rv:=rv) (steps:=m.steps) hcl
  have m1:=aCV (n:=d.many) (cv:=cv) (sv:=sv) (cur:=m.cur) (rv:=rv) (steps:=m.steps) hcl
  have mb:=aNv (n:=d.many) (cv:=cv) (sv:=sv) (cur:=m.cur) (rv:=rv) (steps:=m.steps) hcl hb
  have hcur:0≤m.cur∧m.cur < d.states.length:=by rcases ho.1 with h | h<;>omega
  have hi:m.cur.toNat < d.states.length:=by omega
  have hs:d.states[m.cur.toNat]=eS d m:=by unfold eS; rw[List.getD_eq_getElem?_getD,List.getElem?_eq_getElem hi]; rfl
  have hsi:=hsv.ixI .i64 hcur.1 hcur.2
  obtain⟨x,⟨lv,rv',uv,nv,rfl,y1,y2,y3,y4,y5⟩,hx2,hx3,hx4,hx5⟩:=hsv.at hi
  obtain⟨xD,⟨lvD,rvD,uvD,nvD,rfl,z1,z2,z3,z4,z5⟩,w2,w3,w4,w5⟩:=hsvD.at hi
  have hsame:[lv,rv',uv,nv]=[lvD,rvD,uvD,nvD]:=by
   have:=vZ (cX h X) w3
   rw[hx3] at this
   simpa using this
  simp only[List.cons.injEq,and_true] at hsame
  obtain⟨rfl,rfl,rfl,rfl⟩:=hsame
  rw[hs] at y1 y2 y3 y4 y5 z2 z4
  refine aI3 hc ?_
  (have zz:=And.intro @aR (And.intro gp (And.intro m8 (And.intro m9 (And.intro hsi hx3))));repeat refine zzCz ?_)
  refine jB (x:=[lv,rv',uv,nv]) tN rfl rfl rfl (by simp[y1.ok,y2.ok,y3.ok,iO.okC y4]) hf (by omega) fun h2 hs2 hf2 g2 _=>?_
  (have zz:=g2;repeat refine zzCz ?_)
  have hm2:=hm.subX lY hs2
  have gp2:=hs2 _ _ gp
  refine aFI hm2 (hf2.mono (by omega)) hsf.r3 hsf.rl (y2.sub hs2) fun n3 hn3=>?_
  have hkn:=hsf.kn
  have z4':=z4.sub ((cX h X).trans hs2) (vC.sub ((cX h X).trans hs2))
  have nix:=z4'.ix .i64 hkn
  obtain⟨w,⟨w',hw1,hw2,hw3⟩,hw4⟩:=z4'.at1 hkn
  simp only[List.cons.injEq,and_true] at hw1
  subst hw1
  have hrow:(eS d m).next[gP d.counts m.rs (eS d m).r]=(eS d m).next.getD (gP d.counts m.rs (eS d m).r) []:=by rw[List.getD_eq_getElem?_getD,List.getElem?_eq_getElem hkn]; rfl
  rw[hrow] at hw2 hw3
  have hrowD:iO ro (del h X) w 2 (aAg ro (del h X)) ((eS d m).next.getD (gP d.counts m.rs (eS d m).r) []):=by
   obtain⟨u,⟨u',hu1,hu2,hu3⟩,hu4⟩:=z4.at1 hkn
   simp only[List.cons.injEq,and_true] at hu1
   subst hu1
   have:=nO ((cX h X).trans hs2) hu4
   rw[hw4] at this
   cases this
   rw[hrow] at hu2
   exact hu2
  generalize hcb:d.c.getD b 0=cb at mb hmv
  have hci:cb < ((eS d m).next.getD (gP d.counts m.rs (eS d m).r) []).length:=hmv.1
  have hmvd:qZ d m b=((eS d m).next.getD (gP d.counts m.rs (eS d m).r) [])[cb]:=by
   unfold qZ
   rw[hcb,List.getD_eq_getElem?_getD (a:=aRl),List.getElem?_eq_getElem hci]; rfl
  refine⟨eL g2 g2,?_⟩
  have rix:=hw2.ix .u8 hci
  obtain⟨x,⟨ov,rfl,hov,hol⟩,v2,v3,v4,v5⟩:=hw2.at hci
  obtain⟨xD,⟨ovD,rfl,hovD,holD⟩,u2,u3,u4,u5⟩:=hrowD.at hci
  have hsame2:[Value.int .i64 ((eS d m).next.getD (gP d.counts m.rs (eS d m).r) [])[cb].to,ov]=[Value.int .i64 ((eS d m).next.getD (gP d.counts m.rs (eS d m).r) [])[cb].to,ovD]:=by
   have:=vZ ((cX h X).trans hs2) u3
   rw[v3] at this
   simpa using this
  simp only[List.cons.injEq,and_true,true_and] at hsame2
  subst hsame2
  rw[← hmvd] at v3 hovD hov
  refine aA nix (aA hw4 ?_)
  (have zz:=And.intro @aR (And.intro gp2 mb);repeat refine zzCz ?_)
  refine⟨eL gp2 gp2,?_⟩
  refine aA rix (aA v3 ?_)
  generalize hMV:qZ d m b=mv at hK hops hmp hovD hov
  refine jB (x:=[.int .i64 mv.to,ov]) aE0 rfl rfl rfl (by simp[show eA ov=true from iO.okC hov,show eA (Value.int .i64 mv.to)=true from rfl]) hf2 (by omega) fun h3 hs3 hf3 g3 _=>?_
  have gp3:=hs3 _ _ gp2
  have g23:=hs3 _ _ g2
  (have zz:=@aR;repeat refine zzCz ?_)
  refine aA (aV gp3 m1) ?_
  (repeat refine zzC ?_)
  refine aA (aV (l:=[lv,rv',uv,nv]) g23 rfl) ?_
  refine aA y2.len ?_
  have hr3:=hsf.r3
  (have zz:=@aR;repeat refine zzCz ?_)
  have esteps:(m.steps:Int)+(1+((eS d m).r.length:Int))=((m.steps+1+(eS d m).r.length:Nat):Int):=by omega
  rw[esteps]
  refine aA (bX (v:=.int .i64 ((m.steps+1+(eS d m).r.length:Nat):Int)) gp3 (by rw[pJ hcl]; omega) rfl rfl) ?_
  rw[aDz hcl]
  have n2lt:=hf.lt' gp
  have gp4:(h3.upd p (some (.cells (dV d.c d.many cv sv m.cur rv (m.steps+1+(eS d m).r.length)).toArray cE))).get p=some (.cells (dV d.c d.many cv sv m.cur rv (m.steps+1+(eS d m).r.length)).toArray cE):=T.get_upd_same _ _ _
  have ho4:∀ k,k≠p→(h3.upd p (some (.cells (dV d.c d.many cv sv m.cur rv (m.steps+1+(eS d m).r.length)).toArray cE))).get k=h3.get k:=fun k hk=>T.get_upd_ne _ _ hk
  generalize (h3.upd p (some (.cells (dV d.c d.many cv sv m.cur rv (m.steps+1+(eS d m).r.length)).toArray cE)))=h4 at gp4 ho4
  have g24:=(ho4 (n1+12) (by omega)).trans g23
  have g34:=(ho4 (n1+31) (by omega)).trans g3
  (repeat refine zzC ?_)
  refine aA (aV (l:=[.int .i64 mv.to,ov]) g34 rfl) ?_
  (have zz:=@aR;repeat refine zzCz ?_)
  refine aA (bX (v:=.int .i64 mv.to) gp4 (by rw[pJ hcl]; omega) rfl rfl) ?_
  rw[vO hcl]
  have gp5:(h4.upd p (some (.cells (dV d.c d.many cv sv mv.to rv (m.steps+1+(eS d m).r.length)).toArray cE))).get p=some (.cells (dV d.c d.many cv sv mv.to rv (m.steps+1+(eS d m).r.length)).toArray cE):=T.get_upd_same _ _ _
  have ho5:∀ k,k≠p→(h4.upd p (some (.cells (dV d.c d.many cv sv mv.to rv (m.steps+1+(eS d m).r.length)).toArray cE))).get k=h3.get k:=fun k hk=>(T.get_upd_ne _ _ hk).trans (ho4 k hk)
  generalize (h4.upd p (some (.cells (dV d.c d.many cv sv mv.to rv (m.steps+1+(eS d m).r.length)).toArray cE)))=h5 at gp5 ho5
  have g25:=(ho5 (n1+12) (by omega)).trans g23
  have g35:=(ho5 (n1+31) (by omega)).trans g3
  have hs5:aZ h h3:=hs2.trans hs3
  have hD5:aZ (del h X) h5:=fun k o hk=>by
   have h9:=hk
   rw[lD] at h9
   split at h9
   ·cases h9
   ·rename_i hn
    rw[ho5 k (fun e=>hn (by rw[e]; exact hpX))]
    exact hs5 _ _ h9
  have hf5:Fr h5 (n1+32):=fun k hk=>by rw[ho5 k (by omega)]; exact hf3 k (by omega)
  have hSI:SIn (del h X) h p (n1+12) (n1+31) (dV d.c d.many cv sv mv.to rv (m.steps+1+(eS d m).r.length)) [lv,rv',uv,nv] [.int .i64 mv.to,ov] ps d.counts h5 (n1+32) m.rs:=by
   refine⟨gp5,g25,g35,hD5,hR.keep lY fun q hq=>?_,fun k o hk hn=>?_,hf5⟩
   ·obtain⟨⟨c1,t1⟩,c2,t2⟩:=hR.ty lY q hq
    rw[ho5 _ (mG t1 gp (by decide)),ho5 _ (mG t2 gp (by decide)),t1,t2,hs5 _ _ t1,hs5 _ _ t2]
    exact⟨rfl,rfl⟩
   ·rw[ho5 k fun e=>hn (by rw[e]; exact List.mem_cons_self ..)]
    exact hs5 _ _ hk
  have hfin:∀ h' n',n1+32≤n'→SIn (del h X) h p (n1+12) (n1+31) (dV d.c d.many cv sv mv.to rv (m.steps+1+(eS d m).r.length)) [lv,rv',uv,nv] [.int .i64 mv.to,ov] ps d.counts h' n' (vP d.counts (oB d mv.to) mv.ops (rJ (oB d mv.to) (eS d m).r m.rs))→K (.bool (!decide (mv.to=-1))) h' n':=by
   intro h' n' hn' hi'
   obtain⟨q1,q2,q3,q4,q5,q6,q7⟩:=hi'
   have hre:=aPn q4
   have:=hK h' n' (by omega) q7 q6 ⟨cv,sv,rv,q1,hA.sub hre,hP.sub hre,q5,hD,hpX,hbX⟩
   simpa using this
  have hj1:∀ (e':dL) n' nxv,e' 0=ptr p→e' 5=ptr (n1+12)→e' 6=ptr (n1+31)→e' 7=nxv→ZI ro (del h X) nxv (oB d mv.to)→n1+32≤n'→i6 ro K e' h5 n':=fun e' n' nxv f0 f5 f6 f7 hz hn' =>
   aPG hcl f0 f5 f6 f7 (hSI.mono hn') hD hbX hP z2 hsf.rl hsf.r3 hz hovD hops.1 hops.2.1 hops.2.2.1 hops.2.2.2 hB hB2 fun h' n'' hn'' hi'=>hfin h' n'' (by omega) hi'
  have m85:=tG (n:=d.many) (cv:=cv) (sv:=sv) (cur:=mv.to) (rv:=rv) (steps:=m.steps+1+(eS d m).r.length) hcl
  (repeat refine zzC ?_)
  refine aA (aV (l:=[.int .i64 mv.to,ov]) g35 rfl) ?_
  by_cases hto:mv.to=-1
  ·refine zX hto ?_
   (repeat refine zzC ?_)
   refine hj1 _ _ (.slice none 0 0) rfl rfl rfl rfl ?_ (by omega)
   unfold oB
   rw[if_pos hto]
   exact Sl.nil
  ·refine aBa hto ?_
   have htr:1≤mv.to∧mv.to < d.states.length:=by rcases hmp with h | h<;>omega
   have hti:mv.to.toNat < d.states.length:=by omega
   have hsv5:=hsvD.sub hD5 (eT.sub hD5)
   have tix:=hsv5.ixI .i64 (show 0≤mv.to by omega) htr.2
   obtain⟨x,⟨lv2,rv2,uv2,nv2,rfl,a1,a2,a3,a4,a5⟩,b2,b3,b4,b5⟩:=hsvD.at hti
   have hl5:=nO hD5 (b5 1 rv2 rfl)
   have b4':=b4 1
   (have zz:=@aR;repeat refine zzCz ?_)
   refine aA (aV gp5 m85) ?_
   (repeat refine zzC ?_)
   refine aA (aV (l:=[.int .i64 mv.to,ov]) g35 rfl) ?_
   refine aA tix (aA b4' (aA hl5 ?_))
   refine hj1 _ _ rv2 rfl rfl rfl rfl ?_ (by omega)
   unfold oB
   rw[if_neg hto,List.getD_eq_getElem?_getD,List.getElem?_eq_getElem hti]
   exact a2
end
end V
end Go.Proofs.YtcaccnneblghgaaGreat
namespace Go.Proofs.YtcaccnneblghgaaGreat
namespace V
attribute [local irreducible] aB bA aW dM eR gI dH
def bts (s:ByteArray):List Nat:=s.data.toList.map (·.toNat)
theorem aJL (s:ByteArray):(bts s).length=s.size:=by unfold bts; rw[List.length_map]; rfl
theorem aP6 {s:ByteArray}:∀ b∈bts s,b < 256:=fun b hb=>by
 unfold bts at hb
 rw[List.mem_map] at hb
 obtain⟨x,_,rfl⟩:=hb
 exact x.toNat_lt
theorem aGm (s:ByteArray):aAX (.string s)=some (.int .i64 (bts s).length):=by rw[aJL]; rfl
theorem aId {s:ByteArray}{k:IntKind}{i:Nat} (hi:i < (bts s).length):aGj (.string s) (.int k (i:Int))=some (.int .u8 ((bts s)[i]:Nat)):=by
 have hn:pL (.int k (i:Int))=some i:=by simp[pL]
 have hl:i < s.data.toList.length:=by simpa [bts] using hi
 unfold aGj
 rw[hn]
 simp only[Option.bind]
 rw[List.getElem?_eq_getElem hl]
 simp[bts]
theorem aN0 {d:AutoD}{m:MacD}{b:Nat} (ha:fF d=true) (ho:MOk d m):(jX d m b).steps≤m.steps+4:=by
 unfold jX
 by_cases hc:m.cur=-1
 ·rw[if_pos hc]; omega
 ·rw[if_neg hc]
  have:=(aEW ha ho hc).r3
  show m.steps+1+_≤_
  omega
theorem aRz {B:Nat}{m:MacD} (h:WLe B m.rs):WLe (B+1) (aBv m).rs:=fun r hr=>by
 obtain⟨x,hx,rfl⟩:=List.mem_map.1 hr
 have:=h x hx
 unfold kA
 split
 ·omega
 ·show x.2+1≤_; omega
theorem aMW {l:List Nat}{k x:Nat} (hk:l[k]?=some x):(l.take (k+1)).sum=(l.take k).sum+x:=by
 obtain⟨h1,h2⟩:=List.getElem?_eq_some_iff.1 hk
 rw[List.take_succ_eq_append_getElem h1,List.sum_append,h2]; simp
theorem aKL {B:Nat}:∀ {l:List Nat},(∀ x∈l,x≤B)→l.sum≤B*l.length
 | [],_=>by simp
 | x::r,h=>by
  have h1:=h x (List.mem_cons_self ..)
  have h2:=aKL (l:=r) fun y hy=>h y (List.mem_cons_of_mem _ hy)
  rw[List.sum_cons,List.length_cons,Nat.mul_succ]; omega
theorem aLu {rs:List RgD}{k:Nat} (hk:k < rs.length):kW rs (k:Int)=rs[k]:=by
 unfold kW
 rw[Int.toNat_natCast,List.getD_eq_getElem?_getD,List.getElem?_eq_getElem hk]; rfl
def SJn (D hs:T Obj) (p:Nat) (pc:List Value) (ps:List (Nat × Nat)) (C:List (Int × Int)) (h:T Obj) (nx:Nat) (rs:List RgD):Prop :=
 h.get p=some (.cells pc.toArray cE)∧aZ D h∧RsX RI h ps C rs∧eB (p::iD ps) hs h∧Fr h nx
section
variable {ro:Ro}{h0 hs h h':T Obj}{X:List Nat}{p nx:Nat}{pc:List Value}{ps:List (Nat × Nat)}{C:List (Int × Int)}{rs:List RgD}{K:KV}
theorem SJn.mono {n':Nat} (hi:SJn (del h0 X) hs p pc ps C h nx rs) (hn:nx≤n'):SJn (del h0 X) hs p pc ps C h n' rs:=by
 obtain⟨g1,g4,g5,g6,g7⟩:=hi
 exact⟨g1,g4,g5,g6,g7.mono hn⟩
theorem SJn.ring {i n':Nat}{q:Nat × Nat}{c:Int × Int}{L:List Nat}{w n:Nat}{r:RgD} (hi:SJn (del h0 X) hs p pc ps C h nx rs) (hd:Dst ps) (hX:∀ k∈iD ps,k∈X) (hq:ps[i]?=some q) (hc:C[i]?=some c) (hR:RI h q.1 q.2 n L w) (hR':RI h' q.1 q.2 c.2.toNat r.1 r.2) (ho:zL h h' q.1 q.2) (hn:nx≤n') :
  SJn (del h0 X) hs p pc ps C h' n' (rs.set i r):=by
 obtain⟨g1,g4,g5,g6,g7⟩:=hi
 have hm:=List.mem_of_getElem? hq
 have m1:q.1∈iD ps:=jN.2 ⟨q,hm,.inl rfl⟩
 have m2:q.2∈iD ps:=jN.2 ⟨q,hm,.inr rfl⟩
 have hr:=g5.set lY hd g7 hq hc hR' fun k _ k1 k2=>ho k k1 k2
 rw[aMQ hq] at hr
 refine⟨ho.get hR g1 (by decide) (by decide),ho.subD (hX _ m1) (hX _ m2) g4,hr,fun k o hk hn=>?_,(ho.frR hR g7).mono hn⟩
 rw[ho k (fun e=>hn (List.mem_cons_of_mem _ (by rw[e]; exact m1))) (fun e=>hn (List.mem_cons_of_mem _ (by rw[e]; exact m2)))]
 exact g6 k o hk hn
end
section
variable {ro:Ro}{h:T Obj}{nx:Nat}{X:List Nat}{p:Nat}{ps:List (Nat × Nat)}{d:AutoD}{m:MacD}{K:KV}
set_option maxRecDepth 8000 in
theorem aJV {B:Nat} (hm:MI ro h X p ps d m) (ho:MOk d m) (hC:d.counts.length≤512) (hf:Fr h nx) (hB:WLe B m.rs) (hB2:B+1≤1000000)
  (hK:∀ h' nx',nx≤nx'→Fr h' nx'→eB (p::iD ps) h h'→MI ro h' X p ps d (aBv m)→K (.tuple #[]) h' nx'):aO Tryz.prog ro oS [ptr p] h nx K:=by
 obtain⟨cv,sv,rv,gp,hA,hP,hR,hD,hpX,hbX⟩:=id hm
 obtain⟨hcl,hclt,hcv,hsv⟩:=hA.parts
 have n2lt:=hf.lt' gp
 apply aAt
 unfold wJ
 refine aA (o6 _ _ _) ?_
 (have zz:=@aR;repeat refine zzCz ?_)
 refine aA (bX (v:=.int .i64 0) gp (by rw[pJ hcl]; omega) rfl rfl) ?_
 rw[vO hcl]
 have gp4:(h.upd p (some (.cells (dV d.c d.many cv sv 0 rv m.steps).toArray cE))).get p=some (.cells (dV d.c d.many cv sv 0 rv m.steps).toArray cE):=T.get_upd_same _ _ _
 have ho4:∀ k,k≠p→(h.upd p (some (.cells (dV d.c d.many cv sv 0 rv m.steps).toArray cE))).get k=h.get k:=fun k hk=>T.get_upd_ne _ _ hk
 generalize (h.upd p (some (.cells (dV d.c d.many cv sv 0 rv m.steps).toArray cE)))=h4 at gp4 ho4
 have m0:=lB (n:=d.many) (cv:=cv) (sv:=sv) (cur:=0) (rv:=rv) (steps:=m.steps) hcl
 have hSJ:SJn (del h X) h p (dV d.c d.many cv sv 0 rv m.steps) ps d.counts h4 nx m.rs:=by
  refine⟨gp4,fun k o hk=>?_,hR.keep lY fun q hq=>?_,fun k o hk hn=>?_,fun k hk=>by rw[ho4 k (by omega)]; exact hf k hk⟩
  ·have h9:=hk
   rw[lD] at h9
   split at h9
   ·cases h9
   ·rename_i hn
    rw[ho4 k (fun e=>hn (by rw[e]; exact hpX))]; exact h9
  ·obtain⟨⟨c1,t1⟩,c2,t2⟩:=hR.ty lY q hq
   exact⟨ho4 _ (mG t1 gp (by decide)),ho4 _ (mG t2 gp (by decide))⟩
  ·rw[ho4 k fun e=>hn (by rw[e]; exact List.mem_cons_self ..)]; exact hk
 have hPh:=hP.sub hSJ.2.1
 have hpl:=hPh.len
 rw[gN,hR.1] at hpl
 (have zz:=And.intro @aR (And.intro gp4 (And.intro m0 hpl));repeat refine zzCz ?_)
 have hrl:=ho.2
 have hfin:∀ h' n',nx≤n'→SJn (del h X) h p (dV d.c d.many cv sv 0 rv m.steps) ps d.counts h' n' (m.rs.map kA)→K (.tuple #[]) h' n':=by
  intro h' n' hn' hi'
  obtain⟨q1,q4,q5,q6,q7⟩:=hi'
  have hre:=aPn q4
  exact hK h' n' hn' q7 q6 ⟨cv,sv,rv,q1,hA.sub hre,hP.sub hre,q5,hD,hpX,hbX⟩
 refine bM (fun j e h' nx'=>∃ (k:Nat),k+j=d.counts.length∧nx≤nx'∧e 12=rv∧e 13=.int .i64 d.counts.length∧e 14=.int .i64 k∧SJn (del h X) h p (dV d.c d.many cv sv 0 rv m.steps) ps d.counts h' nx' ((m.rs.take k).map kA++m.rs.drop k)) ?_ (n:=d.counts.length) ⟨0,by omega,by omega,rfl,rfl,rfl,hSJ.mono (by omega)⟩
 rintro j e h' nx' ⟨k,hj,hnx,e12,e13,e14,hi⟩ Q' hq hx
 obtain⟨g1,g4,g5,g6,g7⟩:=id hi
 unfold sT
 rw[e12,e13,e14]
 refine dS (fun hk=>?_) (fun hk=>?_)
 ·have hk:k < d.counts.length:=by omega
  have hkr:k < m.rs.length:=by omega
  have hP':=hP.sub g4
  obtain⟨q,hq',hri⟩:=g5.at (c:=(k:Int)) (by omega) (by omega)
  rw[Int.toNat_natCast] at hq'
  have hlen:((m.rs.take k).map kA).length=k:=by simp; omega
  have hg:kW ((m.rs.take k).map kA++m.rs.drop k) (k:Int)=m.rs[k]:=by
   unfold kW
   rw[Int.toNat_natCast,List.getD_eq_getElem?_getD,List.getElem?_append_right (by omega),hlen,Nat.sub_self,List.getElem?_drop,Nat.add_zero,List.getElem?_eq_getElem hkr]; rfl
  rw[hg] at hri
  have hset:∀ x,((m.rs.take k).map kA++m.rs.drop k).set k x=(m.rs.take k).map kA++[x]++m.rs.drop (k+1):=fun x=>by
   rw[List.set_append_right _ _ (by omega),hlen,Nat.sub_self,cU hkr,List.append_assoc]; rfl
  have htk:(m.rs.take (k+1)).map kA=(m.rs.take k).map kA++[kA m.rs[k]]:=by rw[List.take_succ_eq_append_getElem hkr,List.map_append]; rfl
  have hci:d.counts[k]?=some (iE d.counts (k:Int)):=by
   rw[← xY (by omega) (by omega)]
   simp only[Int.toNat_natCast]
   exact List.getElem?_eq_getElem _
  have hj1:∀ (e':dL) h2 n2,e' 12=rv→e' 13=.int .i64 d.counts.length→e' 14=.int .i64 k→nx'≤n2→SJn (del h X) h p (dV d.c d.many cv sv 0 rv m.steps) ps d.counts h2 n2 ((m.rs.take (k+1)).map kA++m.rs.drop (k+1))→kG ro Q' e' h2 n2:=by
   intro e' h2 n2 f12 f13 f14 hn hi2
   unfold kG
   rw[f14]
   (repeat refine zzC ?_)
   exact hq (j - 1) _ _ _ _ (by omega) ⟨k+1,by omega,by omega,f12,f13,rfl,hi2.mono (by omega)⟩ (aZ.refl _)
  have hdk:m.rs.drop k=[m.rs[k]]++m.rs.drop (k+1):=cU hkr
  have hw:(m.rs[k]).2≤B:=hB _ (List.getElem_mem hkr)
  generalize m.rs[k]=r at hri htk hw hdk
  (repeat refine zzC ?_)
  refine aA (hP'.ix _ (by rw[gN,hR.1]; exact hk)) (aA (hP'.load1 (p9 hq')) ?_)
  refine aD0 hri fun n2 hn2=>?_
  refine nH (fun hl=>?_) (fun hl=>?_)
  ·have hx1:kA r=aDM r:=if_neg (by omega)
   rw[hx1] at htk
   (repeat refine zzC ?_)
   refine aA7 hri (by omega) fun h2 n3 hn3 hR2 ho2=>?_
   have:=hi.ring (r:=aDM r) (n':=n3) hD hbX hq' hci hri hR2 ho2 (by omega)
   rw[hset,← htk] at this
   exact hj1 _ _ _ e12 e13 e14 (by omega) this
  ·have hx1:kA r=r:=if_pos (by omega)
   rw[hx1] at htk
   (repeat refine zzC ?_)
   refine hj1 _ _ _ e12 e13 e14 (by omega) ?_
   have e2:(m.rs.take (k+1)).map kA++m.rs.drop (k+1)=(m.rs.take k).map kA++m.rs.drop k:=by
    rw[htk,List.append_assoc,hdk]
   rw[e2]
   exact hi.mono (by omega)
 ·(repeat refine zzC ?_)
  refine hx _ _ _ _ (fun e=>by cases e) (eE (dG ?_))
  rw[List.take_of_length_le (by omega),List.drop_eq_nil_of_le (by omega),List.append_nil] at hi
  exact⟨h',aZ.refl _,hfin _ _ (by omega) (hi.mono (by omega))⟩
set_option maxRecDepth 8000 in
theorem aKr {B:Nat} (hm:MI ro h X p ps d m) (ho:MOk d m) (hC:d.counts.length≤512) (hB:WLe B m.rs) (hB2:B≤1000000) (hst:m.steps≤1000000000) (hK:∀ nx',nx≤nx'→K (.int .i64 (jY m:Nat)) h nx'):aO Tryz.prog ro pS [ptr p] h nx K:=by
 obtain⟨cv,sv,rv,gp,hA,hP,hR,hD,hpX,hbX⟩:=id hm
 obtain⟨hcl,hclt,hcv,hsv⟩:=hA.parts
 have m0:=lB (n:=d.many) (cv:=cv) (sv:=sv) (cur:=m.cur) (rv:=rv) (steps:=m.steps) hcl
 have m1:=aCV (n:=d.many) (cv:=cv) (sv:=sv) (cur:=m.cur) (rv:=rv) (steps:=m.steps) hcl
 have hPh:=hP.sub (cX h X)
 have hpl:=hPh.len
 rw[gN,hR.1] at hpl
 apply aBV
 unfold x6
 unfold jY at hK
 (have zz:=And.intro @o6 (And.intro @aR (And.intro gp (And.intro m0 (And.intro m1 hpl))));repeat refine zzCz ?_)
 have hrl:=ho.2
 have hsl:(m.rs.map (·.2)).length=d.counts.length:=by rw[List.length_map]; exact hrl
 have hwb:∀ x∈m.rs.map (·.2),x≤1000000:=fun x hx=>by
  obtain⟨r,hr,rfl⟩:=List.mem_map.1 hx
  exact Nat.le_trans (hB r hr) hB2
 have hwat:∀ (i:Nat) (hi:i < m.rs.length),(m.rs.map (·.2))[i]?=some (m.rs[i]).2:=fun i hi=>by rw[List.getElem?_map,List.getElem?_eq_getElem hi]; rfl
 generalize m.rs.map (·.2)=ws at hK hsl hwb hwat
 refine bM (fun j e h' nx'=>∃ (k:Nat),k+j=d.counts.length∧nx≤nx'∧h'=h∧e 3=.int .i64 ((m.steps+(ws.take k).sum:Nat):Int)∧e 15=rv∧e 16=.int .i64 d.counts.length∧e 17=.int .i64 k) ?_ (n:=d.counts.length) ⟨0,by omega,by omega,rfl,rfl,rfl,rfl,rfl⟩
 rintro j e h' nx' ⟨k,hj,hnx,rfl,e3,e15,e16,e17⟩ Q' hq hx
 unfold uD
 rw[e3,e15,e16,e17]
 refine dS (fun hk=>?_) (fun hk=>?_)
 ·have hk:k < d.counts.length:=by omega
  have hkr:k < m.rs.length:=by omega
  obtain⟨q,hq',hri⟩:=hR.at (c:=(k:Int)) (by omega) (by omega)
  rw[Int.toNat_natCast] at hq'
  rw[aLu hkr] at hri
  have hws:=aMW (hwat k hkr)
  have h1:=aKL (l:=ws.take k) fun x hx=>hwb x (List.mem_of_mem_take hx)
  have h2:(ws.take k).length≤512:=by rw[List.length_take]; omega
  have h3:=Nat.mul_le_mul_left 1000000 h2
  have h4:=hB _ (List.getElem_mem hkr)
  (repeat refine zzC ?_)
  refine aA (hPh.ix _ (by rw[gN,hR.1]; exact hk)) (aA (hPh.load1 (p9 hq')) ?_)
  refine aLz hri fun n2 hn2=>?_
  have hadd:aQ .add (.int .i64 ((m.steps+(ws.take k).sum:Nat):Int)) (.int .i64 ((m.rs[k].2:Nat):Int))=some (.int .i64 ((m.steps+(ws.take (k+1)).sum:Nat):Int)):=by
   rw[cH,← Int.natCast_add,hws,dT (by omega) (by omega),Nat.add_assoc]
  refine aA hadd ?_
  (repeat refine zzC ?_)
  exact hq (j - 1) _ _ _ _ (by omega) ⟨k+1,by omega,by omega,rfl,rfl,e15,e16,rfl⟩ (aZ.refl _)
 ·(repeat refine zzC ?_)
  refine hx _ _ _ _ (fun e=>by cases e) (eE (dG ?_))
  unfold oO
  rw[List.take_of_length_le (by omega)] at e3
  have f3:∀ (e':dL) n',e' 3=.int .i64 ((m.steps+ws.sum:Nat):Int)→nx≤n'→∃ h2,aZ h2 h'∧K (e' 3) h2 n':=fun e' n' h3 hn=>by
   rw[h3]
   exact⟨h',aZ.refl _,hK _ hn⟩
  exact f3 _ _ e3 (by omega)
end
end V
end Go.Proofs.YtcaccnneblghgaaGreat
namespace Go.Proofs.YtcaccnneblghgaaGreat
namespace V
section
variable {T:TabD}
def aF9 (s:ScD):Prop:=2*s.steps≤s.at_*(s.at_+2*s.kept.length+1)+2*s.took
theorem aTR {a c e t:Nat} (ht:t≤c+1+e):a*(a+2*(c+1+e)+1)+2*t≤(a+(c+1))*(a+(c+1)+2*e+1):=by
 have h1:a*(a+2*(c+1+e)+1)=a*a+2*(a*c)+2*(a*e)+3*a:=by
  rw[show a+2*(c+1+e)+1=a+(c+c)+(e+e)+3 by omega,Nat.mul_add,Nat.mul_add,Nat.mul_add,Nat.mul_add,Nat.mul_add]; omega
 have h2:(a+(c+1))*(a+(c+1)+2*e+1)=a*a+2*(a*c)+2*(a*e)+3*a+c*c+2*(c*e)+3*c+2*e+2:=by
  rw[show a+(c+1)+2*e+1=a+c+(e+e)+2 by omega,show a+(c+1)=a+c+1 by omega]
  simp only[Nat.mul_add,Nat.add_mul,Nat.one_mul,Nat.mul_one]
  rw[Nat.mul_comm c a]
  omega
 rw[h1,h2]
 have:0≤c*c:=Nat.zero_le _
 omega
theorem aTT {s:ScD} (h:ScOk T s) (hk:s.kept≠[]) (hs:aF9 s):aF9 (kY T s):=by
 obtain⟨h1,h2⟩:=aAY h hk
 have h3:=h.took
 obtain⟨c,hc⟩:∃ c,eC s=c+1:=⟨eC s - 1,by omega⟩
 obtain⟨e,he⟩:∃ e,s.kept.length=c+1+e:=⟨s.kept.length - (c+1),by omega⟩
 unfold aF9 at hs ⊢
 have e1:(kY T s).kept.length=e:=by rw[aDi]; omega
 have e2:(kY T s).at_=s.at_+(c+1):=by show s.at_+eC s=_; rw[hc]
 have e3:(kY T s).took=0:=rfl
 have e4:(kY T s).steps=s.steps:=rfl
 rw[e1,e2,e3,e4]
 rw[he] at hs
 have:=aTR (a:=s.at_) (c:=c) (e:=e) (t:=s.took) (by omega)
 omega
theorem aSF {s:ScD} (h:ScOk T s) (hs:aF9 s):aF9 (dN T s).2:=by
 obtain⟨_,_,_,_,h5,_⟩:=zS (oN T s).a (s.kept.drop s.took) (tM s) h.tr
 have e1:(dN T s).2.steps+s.took=s.steps+(dN T s).2.took:=h5
 have e2:(dN T s).2.kept=s.kept:=rfl
 have e3:(dN T s).2.at_=s.at_:=rfl
 unfold aF9 at hs ⊢
 rw[e2,e3]
 omega
theorem aTS {s:ScD} (b:List Nat) (hs:aF9 s):aF9 (qV s b):=by
 unfold aF9 at hs ⊢
 rw[aFp]
 show 2*s.steps≤s.at_*(s.at_+2*(s.kept.length+b.length)+1)+2*s.took
 have:s.at_*(s.at_+2*s.kept.length+1)≤s.at_*(s.at_+2*(s.kept.length+b.length)+1):=Nat.mul_le_mul_left _ (by omega)
 omega
theorem aTU {s:ScD} (h:ScOk T s) (hs:aF9 s):2*s.steps≤(s.at_+s.kept.length)*(s.at_+s.kept.length+1):=by
 unfold aF9 at hs
 have h3:=h.took
 generalize s.at_=a at hs
 generalize s.kept.length=k at hs h3
 have h1:a*(a+2*k+1)=a*a+2*(a*k)+a:=by
  rw[show a+2*k+1=a+k+k+1 by omega]
  simp only[Nat.mul_add,Nat.mul_one]; omega
 have h2:(a+k)*(a+k+1)=a*a+2*(a*k)+k*k+a+k:=by
  simp only[Nat.mul_add,Nat.add_mul,Nat.mul_one,Nat.one_mul]
  rw[Nat.mul_comm k a]; omega
 rw[h1] at hs
 rw[h2]
 have:k≤k*k:=by
  cases k with
  | zero=>exact Nat.le_refl _
  | succ k=>exact Nat.le_mul_of_pos_left _ (Nat.succ_pos _)
 omega
structure TabR (T:TabD):Prop where
 ok:∀ e∈T.entries,fF e.a=true
 c256:∀ e∈T.entries,e.a.c.length=256
 rl:∀ e∈T.entries,∀ s∈e.a.states,∀ ru∈s.rule,ru < e.rules.length
 rk:∀ e∈T.entries,∀ r∈e.rules,0≤r∧r < T.kinds.length
 to:T.to.length=T.kinds.length
 tb:∀ t∈T.to,-1≤t∧t < T.conds.length
 len:T.entries.length=2*T.conds.length
 pos:1≤T.conds.length
theorem TabR.tok (h:TabR T):aKU T:=fun c r hc=>by
 unfold aCa
 rw[h.len] at hc ⊢
 split
 ·rename_i hr
  by_cases hlt:r.toNat < T.to.length
  ·have hm:=h.tb _ (List.getElem_mem hlt)
   rw[List.getD_eq_getElem?_getD,List.getElem?_eq_getElem hlt]
   show 2*(T.to[r.toNat]).toNat+1 < _
   omega
  ·have hp:=h.pos
   rw[List.getD_eq_getElem?_getD,List.getElem?_eq_none (by omega)]
   show 2*(0:Int).toNat+1 < _
   have:(0:Int).toNat=0:=rfl
   omega
 ·exact hc
def aKS (T:TabD) (ms:List MacD) (n:Nat):Prop:=∀ (i:Nat) e m,T.entries[i]?=some e→ms[i]?=some m→MOk e.a m∧WLe (10*n) m.rs∧m.steps≤4*n
theorem aKS.mono {ms:List MacD}{n n':Nat} (h:aKS T ms n) (hn:n≤n'):aKS T ms n':=fun i e m he hm=>by
 obtain⟨h1,h2,h3⟩:=h i e m he hm
 exact⟨h1,h2.mono (by omega),by omega⟩
theorem aKS.set {ms:List MacD}{n j:Nat}{m':MacD} (h:aKS T ms n) (hm':∀ e,T.entries[j]?=some e→MOk e.a m'∧WLe (10*n) m'.rs∧m'.steps≤4*n):aKS T (ms.set j m') n:=fun i e m he hm=>by
 rw[List.getElem?_set] at hm
 split at hm
 ·rename_i hji
  subst hji
  split at hm
  ·cases hm; exact hm' e he
  ·cases hm
 ·exact h i e m he hm
theorem aOG (hT:TabR T) {e:EntD} (he:e∈T.entries) {m:MacD} (hm:MOk e.a m):nL e.a m=-1∨0≤nL e.a m∧nL e.a m < e.rules.length:=by
 unfold nL
 by_cases hc:m.cur=-1
 ·rw[if_pos hc]; exact .inl rfl
 ·rw[if_neg hc]
  have hf:=aEW (hT.ok e he) hm hc
  have h1:=hf.ru
  have hcur:0≤m.cur∧m.cur < e.a.states.length:=by rcases hm.1 with h | h<;>omega
  have hi:m.cur.toNat < e.a.states.length:=by omega
  have hs:eS e.a m∈e.a.states:=by
   unfold eS
   rw[List.getD_eq_getElem?_getD,List.getElem?_eq_getElem hi]
   exact List.getElem_mem hi
  have h2:(eS e.a m).rule.getD (gP e.a.counts m.rs (eS e.a m).r) 0∈(eS e.a m).rule:=by
   rw[List.getD_eq_getElem?_getD,List.getElem?_eq_getElem hf.kr]
   exact List.getElem_mem hf.kr
  have h3:=hT.rl e he _ hs _ h2
  omega
structure LkOk (K:Nat) (e:EntD) (t:TryD):Prop where
 mok:MOk e.a t.m
 w:WLe (K+9*t.steps) t.m.rs
 st:t.m.steps≤4*t.steps
 ru:t.rule=-1∨0≤t.rule∧t.rule < e.rules.length
theorem LkOk.tk0 (hT:TabR T) {K:Nat}{e:EntD} (he:e∈T.entries) {t:TryD}{b:Nat} (hb:b < 256) (h:LkOk K e t):LkOk K e (tk0 e.a t b):=by
 have h1:=aSG (hT.ok e he) h.mok (hT.c256 e he) hb
 have h2:=aTV (hT.ok e he) h.mok (hT.c256 e he) hb h.w
 have h3:=aN0 (b:=b) (hT.ok e he) h.mok
 have h4:=h.st
 exact⟨h1,h2.mono (by show K+9*t.steps+9≤K+9*(t.steps+1); omega),by show (jX e.a t.m b).steps≤4*(t.steps+1); omega,h.ru⟩
theorem LkOk.tk1 (hT:TabR T) {K:Nat}{e:EntD} (he:e∈T.entries) {t:TryD}{b:Nat} (hb:b < 256) (h:LkOk K e t):LkOk K e (tk1 e.a t b):=by
 have h0:=h.tk0 hT he hb
 unfold V.tk1
 split
 ·exact h0
 ·rename_i hr
  exact⟨h0.mok,h0.w,h0.st,.inr ((aOG hT he h0.mok).resolve_left hr)⟩
theorem aNk (hT:TabR T) {K:Nat}{e:EntD} (he:e∈T.entries):∀ (l:List Nat) (t:TryD),(∀ b∈l,b < 256)→LkOk K e t→LkOk K e (aAr e.a l t).2
 | [],t,_,h=>h
 | b::r,t,hl,h=>by
  have hb:=hl b (by simp)
  rw[aCO]
  split
  ·exact aNk hT he r _ (fun x hx=>hl x (by simp[hx])) (h.tk1 hT he hb)
  ·exact h.tk0 hT he hb
structure ScI (T:TabD) (s:ScD):Prop where
 ok:ScOk T s
 c:2*s.cond+1 < T.entries.length
 ms:aKS T s.ms s.steps
 ru:s.rule=-1∨0≤s.rule∧s.rule < (oN T s).rules.length
 kb:∀ b∈s.kept,b < 256
 st:aF9 s
theorem ScI.at {s:ScD} (h:ScI T s):T.entries[nG s]?=some (oN T s)∧oN T s∈T.entries∧∃ m,s.ms[nG s]?=some m∧s.ms.getD (nG s) aTG=m:=by
 have h1:=h.ok.lt
 have h2:=h.ok.len
 have h3:T.entries[nG s]?=some (oN T s):=by
  unfold oN
  rw[List.getD_eq_getElem?_getD,List.getElem?_eq_getElem (by omega)]; rfl
 refine⟨h3,List.mem_of_getElem? h3,s.ms[nG s],List.getElem?_eq_getElem h1,?_⟩
 rw[List.getD_eq_getElem?_getD,List.getElem?_eq_getElem h1]; rfl
theorem ScI.lk (hT:TabR T) {s:ScD} (h:ScI T s):LkOk (s.steps+1) (oN T s) (tM s):=by
 obtain⟨h1,h2,m,h3,h4⟩:=h.at
 obtain⟨m1,m2,m3⟩:=h.ms _ _ _ h1 h3
 unfold tM
 rw[h4]
 split
 ·exact⟨aQj (hT.ok _ h2) m1,(aRz m2).mono (by show 10*s.steps+1≤s.steps+1+9*s.steps; omega),m3,h.ru⟩
 ·exact⟨m1,m2.mono (by show 10*s.steps≤s.steps+1+9*s.steps; omega),m3,h.ru⟩
theorem aJS (hT:TabR T) {s:ScD} (h:ScI T s) (hk:s.kept≠[]):ScI T (dN T s).2:=by
 obtain⟨h1,h2,m,h3,h4⟩:=h.at
 have hl:0 < s.kept.length:=List.length_pos_iff.2 hk
 have htk:=h.ok.took
 have hend:LkOk (s.steps+1) (oN T s) (oM T s).2:=aNk hT h2 _ _ (fun b hb=>h.kb b (List.mem_of_mem_drop hb)) (h.lk hT)
 obtain⟨_,e2,_,_,e5,e6⟩:=zS (oN T s).a (s.kept.drop s.took) (tM s) h.ok.tr
 have e5:(oM T s).2.steps+s.took=s.steps+(oM T s).2.took:=e5
 have e2:s.took≤(oM T s).2.took:=e2
 refine⟨(aNm h.ok).1,h.c,?_,hend.ru,h.kb,aSF h.ok h.st⟩
 show aKS T (s.ms.set (nG s) (oM T s).2.m) (oM T s).2.steps
 refine (h.ms.mono (by omega)).set fun e he=>?_
 rw[h1] at he
 cases he
 by_cases hd:s.kept.drop s.took=[]
 ·have e:oM T s=(false,tM s):=by unfold oM; rw[hd]; rfl
  have h0:s.took≠0:=fun e0=>by rw[e0,List.drop_zero] at hd; exact hk hd
  obtain⟨m1,m2,m3⟩:=h.ms _ _ _ h1 h3
  have em:(tM s).m=m:=by unfold tM; rw[if_neg h0]; exact h4
  rw[e]
  show MOk (oN T s).a (tM s).m∧WLe (10*s.steps) (tM s).m.rs∧(tM s).m.steps≤4*s.steps
  rw[em]
  exact⟨m1,m2,m3⟩
 ·have e6:s.took < (oM T s).2.took:=e6 hd
  exact⟨hend.mok,hend.w.mono (by omega),hend.st⟩
theorem aNh (hT:TabR T) {s:ScD} (h:ScI T s) (hk:s.kept≠[]):ScI T (kY T s):=by
 obtain⟨c1,c2⟩:=aPm hT.tok h.c h.ok
 exact⟨c1,c2,h.ms,.inl rfl,fun b hb=>h.kb b (List.mem_of_mem_drop hb),aTT h.ok hk h.st⟩
theorem aN3 (hT:TabR T):∀ (n:Nat) (s:ScD),ScI T s→ScI T (hJ T n s).2
 | 0,s,h=>h
 | n+1,s,h=>by
  by_cases hk:s.kept=[]
  ·rw[aCI _ hk]; exact h
  ·have h1:=aJS hT h hk
   rw[tL,if_neg hk]
   split
   ·exact aN3 hT n _ (aNh hT h1 hk)
   ·exact h1
theorem aNa {s:ScD} (h:ScI T s) {b:List Nat} (hb:∀ x∈b,x < 256):ScI T (qV s b):=⟨aPX h.ok b,h.c,h.ms,h.ru,fun x hx=>(List.mem_append.1 hx).elim (h.kb x) (hb x),aTS b h.st⟩
theorem aPw (hT:TabR T) {s:ScD} (h:ScI T s) {b:List Nat} (hb:∀ x∈b,x < 256):ScI T (fR T s b).2:=aN3 hT _ _ (aNa h hb)
theorem aRT (hT:TabR T) {s:ScD} (h:ScI T s):ScI T (oK T s).2:=aN3 hT _ _ ⟨⟨h.ok.lt,h.ok.len,h.ok.took,h.ok.held,h.ok.none,h.ok.some⟩,h.c,h.ms,h.ru,h.kb,h.st⟩
theorem aTp (hT:TabR T):ScI T (nK T):=by
 have h1:=hT.len
 have h2:=hT.pos
 obtain⟨n1,n2,_,_⟩:=aTF (T:=T) (by omega)
 refine⟨n1,n2,fun i e m he hm=>?_,.inl rfl,(fun b hb=>by cases hb),Nat.zero_le _⟩
 have hm:(T.entries.map fun e=>aAw e.a)[i]?=some m:=hm
 rw[List.getElem?_map,he] at hm
 cases hm
 refine⟨aTE (hT.ok e (List.mem_of_getElem? he)),fun r hr=>?_,Nat.zero_le _⟩
 obtain⟨c9,_,rfl⟩:=List.mem_map.1 hr
 exact Nat.zero_le _
theorem aH2 {s:ScD} (h:ScI T s):2*s.steps≤(s.at_+s.kept.length)*(s.at_+s.kept.length+1):=aTU h.ok h.st
end
end V
end Go.Proofs.YtcaccnneblghgaaGreat
namespace Go.Proofs.YtcaccnneblghgaaGreat
namespace V
def aJ8 (c:Nat):Bool:=decide (97≤c∧c≤122∨65≤c∧c≤90∨c=95)
def aJQ (c:Nat):Bool:=decide (48≤c∧c≤57)
def sV:Bool→List Nat→Bool
 | _,[]=>true
 | first,c::r=>(aJ8 c || !first&&aJQ c)&&sV false r
def mF (s:ByteArray):Bool:=sV true (bts s)&&(decide (1≤s.size)&&decide (s.size≤32))
def aAm:List ByteArray→List ByteArray→Bool
 | _,[]=>true
 | seen,s::r=>mF s&&!(seen.any fun t=>decide (s=t))&&aAm (seen++[s]) r
def lZ (n:Nat) (s:ByteArray) (t:Int):Bool:=(decide (s=.empty) || mF s)&&(decide (-1≤t)&&decide (t < n))
def oQ (n:Nat) (e:EntD):Bool:=rz (-1) n e.rules&&(fF e.a&&e.a.states.all fun s=>s.rule.all fun r=>decide (r < e.rules.length))
def aCF : ByteArray := "start".toUTF8
def gC (T:TabD):Bool :=
 decide (1≤T.conds.length)&&(decide (T.conds.length≤8)&&(decide (T.conds.head?=some aCF)&&(decide (T.kinds.length≤64)&&(decide (T.to.length=T.kinds.length)&&(decide (T.entries.length=2*T.conds.length) &&
  (aAm [] T.conds&&((List.zip T.kinds T.to).all (fun x=>lZ T.conds.length x.1 x.2)&&T.entries.all (oQ T.kinds.length))))))))
theorem aLv {T:TabD} (h:gC T=true) (hc:∀ e∈T.entries,e.a.c.length=256):TabR T∧T.kinds.length≤64∧T.conds.length≤8:=by
 unfold gC at h
 simp only[Bool.and_eq_true,decide_eq_true_eq] at h
 obtain⟨h1,h2,_,h4,h5,h6,_,h8,h9⟩:=h
 have hf:∀ e∈T.entries,rz (-1) T.kinds.length e.rules=true∧fF e.a=true∧∀ s∈e.a.states,∀ r∈s.rule,r < e.rules.length:=fun e he=>by
  have:=List.all_eq_true.1 h9 e he
  unfold oQ at this
  simp only[Bool.and_eq_true] at this
  refine⟨this.1,this.2.1,fun s hs r hr=>?_⟩
  have h3:=List.all_eq_true.1 this.2.2 s hs
  exact of_decide_eq_true (List.all_eq_true.1 h3 r hr)
 refine⟨⟨fun e he=>(hf e he).2.1,hc,fun e he=>(hf e he).2.2,fun e he r hr=>?_,h5,fun t ht=>?_,h6,h1⟩,h4,h2⟩
 ·have:=aNS (hf e he).1 r hr
  omega
 ·obtain⟨i,hi⟩:=List.getElem?_of_mem ht
  have hl:=(List.getElem?_eq_some_iff.1 hi).1
  have hz:(List.zip T.kinds T.to)[i]?=some (T.kinds[i]'(by omega),t):=by
   rw[List.getElem?_zip_eq_some]
   exact⟨List.getElem?_eq_getElem _,hi⟩
  have:=List.all_eq_true.1 h8 _ (List.mem_of_getElem? hz)
  unfold lZ at this
  simp only[Bool.and_eq_true,decide_eq_true_eq] at this
  exact this.2
end V
end Go.Proofs.YtcaccnneblghgaaGreat
namespace Go.Proofs.YtcaccnneblghgaaGreat
namespace V
attribute [local irreducible] tP aO aB
@[irreducible] def rS (ro:Ro) (K:KV):dL→T Obj→Nat→Prop:=fun e h nx=>∃ h1,aZ h1 h∧K (e 3) h1 (nx+2)
@[irreducible] def rT (ro:Ro) (Q:KE):dL→T Obj→Nat→Prop:=fun e h nx=>aB (aQ .add (e 8) (Value.int IntKind.i64 1)) fun a'=>Q .normal (puts e [(23,a'),(8,a')]) h (nx+2)
@[irreducible] def aB8 (ro:Ro):PT:=fun e h nx Q=>aB (aQ .lss (e 8) (e 7)) fun b'=>aW b' (aB (cQ 1 (e 6) (e 8)) fun d'=>aB (load1 ro h d') fun a'=>aB (aQ .lss (e 8) (Value.int IntKind.i64 12)) fun e'=>aW e' (aB (bS a') fun g'=>aB (fZ Tryz.prog h .min #[dY,dY] [g',(Value.int IntKind.i64 20)]) fun h'=>aB (nX Tryz.prog bO a' none (some h') none) fun i'=>aB (b7 Tryz.prog iA (nx+14) 1 [(0,i')]) fun f'=>eR h (nx+14) f'.2 fun j'=>aB (cZ Tryz.prog ro j' (nx+16) #[iA,iA] [(e 3),f'.1]) fun c'=>rT ro Q (puts e [(9,b'),(10,(e 8)),(11,d'),(12,a'),(4,(e 8)),(5,a'),(13,(e 8)),(14,e'),(15,(e 3)),(16,a'),(17,a'),(18,g'),(19,h'),(20,i'),(21,f'.1),(22,c'.1),(3,c'.1)]) c'.2.1 (c'.2.2+1)) (rT ro Q (puts e [(9,b'),(10,(e 8)),(11,d'),(12,a'),(4,(e 8)),(5,a'),(13,(e 8)),(14,e')]) h (nx+8))) (Q (.exit 0) (puts e [(9,b')]) h (nx+1))
@[irreducible] def aFN (ro:Ro) (v0:Value) (h:T Obj) (nx:Nat) (K:KV):Prop:=aB (bS v0) fun e'=>dZ (aB8 ro) (puts (fT [v0]) [(2,(Value.slice none 0 0)),(3,(Value.slice none 0 0)),(6,v0),(7,e'),(8,(Value.int IntKind.i64 0))]) h (nx+5) fun f' a' b' c'=>gI f' (rS ro K a' b' c') (fun g'=>dH (Nat.beq g' 0) (rS ro K a' b' c') (False)) (∃ d',aZ d' b'∧K (a' 2) d' c')
theorem aGl {ro:Ro}{v0:Value}{h:T Obj}{nx:Nat}{K:KV} (hw:aFN ro v0 h nx K):aO Tryz.prog ro yY [v0] h nx K:=zzO (fn:=Tryz.f14) hw
@[irreducible] def vN (ro:Ro) (K:KV):dL→T Obj→Nat→Prop:=fun e h nx=>aB (aT 3 (e 1)) fun a'=>aB (load1 ro h a') fun b'=>aB (bS b') fun c'=>aB (aQ .leq c' (Value.int IntKind.i64 8)) fun d'=>∃ h6,aZ h6 h∧K d' h6 (nx+5)
@[irreducible] def aDx (ro:Ro):PT:=fun e h nx Q=>aB (aQ .lss (e 8) (e 7)) fun a'=>aW a' (aB (cQ 260 (e 6) (e 8)) fun b'=>aB (loadA ro h 260 b') fun c'=>aB (nF Tryz.prog dX) fun k'=>dM h (nx+3) (.cells k'.cells dX) fun l'=>aB (bU 260 l' (ptr (nx+3)) c') fun d'=>aB (aT 0 (ptr (nx+3))) fun e'=>aB (aT 258 e') fun f'=>aB (load1 ro d' f') fun g'=>aB (bS g') fun h'=>aB (aQ .gtr h' (Value.int IntKind.i64 60)) fun i'=>aW i' (Q .ret (puts e [(9,a'),(10,b'),(11,c'),(4,(ptr (nx+3))),(12,e'),(13,f'),(14,g'),(15,h'),(16,i'),(2,(Value.bool false))]) d' (nx+11)) (aB (aQ .add (e 8) (Value.int IntKind.i64 1)) fun j'=>Q .normal (puts e [(9,a'),(10,b'),(11,c'),(4,(ptr (nx+3))),(12,e'),(13,f'),(14,g'),(15,h'),(16,i'),(17,j'),(8,j')]) d' (nx+12))) (Q (.exit 0) (puts e [(9,a')]) h (nx+1))
@[irreducible] def aIe (ro:Ro) (v0:Value) (h:T Obj) (nx:Nat) (K:KV):Prop:=dM h nx (.cells (Value.cells v0) d4) fun h1=>aB (aT 3 (ptr nx)) fun d'=>aB (load1 ro h1 d') fun e'=>aB (bS e') fun g'=>dZ (aDx ro) (puts (fT [v0]) [(1,(ptr nx)),(2,(Value.bool false)),(5,d'),(6,e'),(7,g'),(8,(Value.int IntKind.i64 0))]) h1 (nx+6) fun h' a' b' c'=>gI h' (vN ro K a' b' c') (fun i'=>dH (Nat.beq i' 0) (vN ro K a' b' c') (False)) (∃ f',aZ f' b'∧K (a' 2) f' c')
theorem aJ7 {ro:Ro}{v0:Value}{h:T Obj}{nx:Nat}{K:KV} (hw:aIe ro v0 h nx K):aO Tryz.prog ro aB0 [v0] h nx K:=zzO (fn:=Tryz.f20) hw
@[irreducible] def sE (ro:Ro) (K:KV):dL→T Obj→Nat→Prop:=fun e h nx=>∃ h152,aZ h152 h∧K (Value.bool true) h152 (nx+1)
@[irreducible] def aBq (ro:Ro):PT:=fun e h nx Q=>aB (aT 3 (e 1)) fun a'=>aB (load1 ro h a') fun b'=>aB (bS b') fun c'=>aB (aQ .lss (e 6) c') fun d'=>aW d' (aB (aT 3 (e 1)) fun e'=>aB (load1 ro h e') fun f'=>aB (cQ 260 f' (e 6)) fun g'=>aB (loadA ro h 260 g') fun h'=>aB (aT 1 (e 1)) fun i'=>aB (load1 ro h i') fun j'=>aB (bS j') fun k'=>aO Tryz.prog ro aAT [h',k'] h (nx+15) fun l' n' o'=>aB (unV .not l') fun m'=>aW m' (Q .ret (puts e [(120,(e 6)),(121,a'),(122,b'),(123,c'),(124,d'),(127,e'),(128,f'),(129,(e 6)),(130,g'),(131,h'),(132,i'),(133,j'),(134,k'),(135,l'),(136,m'),(2,(Value.bool false))]) n' (o'+1)) (aB (aQ .add (e 6) (Value.int IntKind.i64 1)) fun p'=>Q .normal (puts e [(120,(e 6)),(121,a'),(122,b'),(123,c'),(124,d'),(127,e'),(128,f'),(129,(e 6)),(130,g'),(131,h'),(132,i'),(133,j'),(134,k'),(135,l'),(136,m'),(125,(e 6)),(126,p'),(6,p')]) n' (o'+3))) (Q (.exit 6) (puts e [(120,(e 6)),(121,a'),(122,b'),(123,c'),(124,d')]) h (nx+5))
@[irreducible] def sD (ro:Ro) (K:KV):dL→T Obj→Nat→Prop:=fun e h nx=>dZ (aBq ro) (puts e [(6,(Value.int IntKind.i64 0))]) h (nx+1) fun x172 e169 h170 n171=>gI x172 (sE ro K e169 h170 n171) (fun i173=>dH (Nat.beq i173 6) (sE ro K e169 h170 n171) (False)) (∃ h174,aZ h174 h170∧K (e169 2) h174 n171)
@[irreducible] def aBr (ro:Ro):PT:=fun e h nx Q=>aB (aT 1 (e 1)) fun d'=>aB (load1 ro h d') fun e'=>aB (bS e') fun f'=>aB (aQ .lss (e 5) f') fun g'=>aW g' (aB (aT 1 (e 1)) fun h'=>aB (load1 ro h h') fun i'=>aB (cQ 1 i' (e 5)) fun j'=>aB (load1 ro h j') fun k'=>aB (aFk .neq k' (Value.string { data:=#[] })) fun b'=>bA b' true h (nx+39) (fun aB'=>aB (aT 1 (e 1)) fun aC'=>aB' aC' h (nx+39)) fun l' m' P'=>bA b' true m' P' (fun aD'=>aB (load1 ro m' l') fun aE'=>aD' aE' m' P') fun n' Q' R'=>bA b' true Q' R' (fun aF'=>aF' (e 5) Q' R') fun o' S' T'=>bA b' true S' T' (fun aG'=>aB (cQ 1 n' o') fun aH'=>aG' aH' S' T') fun p' q' U'=>bA b' true q' U' (fun aI'=>aB (load1 ro q' p') fun aJ'=>aI' aJ' q' U') fun r' V' W'=>bA b' true V' W' (fun aK'=>aO Tryz.prog ro vK [r'] V' W' fun aL' aM' aN'=>aK' aL' aM' aN') fun s' X' Y'=>bA b' true X' Y' (fun aO'=>aB (unV .not s') fun aP'=>aO' aP' X' Y') fun t' Z' aa'=>aB (cS b' t' (Value.bool false)) fun c'=>bA c' false Z' aa' (fun aQ'=>aB (aT 2 (e 1)) fun aR'=>aQ' aR' Z' aa') fun u' v' ab'=>bA c' false v' ab' (fun aS'=>aB (load1 ro v' u') fun aT'=>aS' aT' v' ab') fun w' ac' ad'=>bA c' false ac' ad' (fun aU'=>aU' (e 5) ac' ad') fun x' ae' af'=>bA c' false ae' af' (fun aV'=>aB (cQ 1 w' x') fun aW'=>aV' aW' ae' af') fun y' z' ag'=>bA c' false z' ag' (fun aX'=>aB (load1 ro z' y') fun aY'=>aX' aY' z' ag') fun A' ah' ai'=>bA c' false ah' ai' (fun aZ'=>aB (aQ .lss A' (Value.int IntKind.i64 (-1))) fun a0'=>aZ' a0' ah' ai') fun B' aj' ak'=>aB (cS c' (Value.bool true) B') fun a'=>bA a' false aj' ak' (fun a1'=>aB (aT 2 (e 1)) fun a2'=>a1' a2' aj' ak') fun C' D' al'=>bA a' false D' al' (fun a3'=>aB (load1 ro D' C') fun a4'=>a3' a4' D' al') fun E' am' an'=>bA a' false am' an' (fun a5'=>a5' (e 5) am' an') fun F' ao' ap'=>bA a' false ao' ap' (fun a6'=>aB (cQ 1 E' F') fun a7'=>a6' a7' ao' ap') fun G' H' aq'=>bA a' false H' aq' (fun a8'=>aB (load1 ro H' G') fun a9'=>a8' a9' H' aq') fun I' ar' as'=>bA a' false ar' as' (fun ba'=>aB (aT 0 (e 1)) fun bb'=>ba' bb' ar' as') fun J' K' at'=>bA a' false K' at' (fun bc'=>aB (load1 ro K' J') fun bd'=>bc' bd' K' at') fun L' au' av'=>bA a' false au' av' (fun be'=>aB (bS L') fun bf'=>be' bf' au' av') fun M' aw' ax'=>bA a' false aw' ax' (fun bg'=>aB (aQ .geq I' M') fun bh'=>bg' bh' aw' ax') fun N' ay' az'=>aB (cS a' (Value.bool true) N') fun O'=>aW O' (Q .ret (puts e [(79,(e 5)),(80,d'),(81,e'),(82,f'),(83,g'),(86,h'),(87,i'),(88,(e 5)),(89,j'),(90,k'),(91,b'),(92,b'),(93,l'),(94,n'),(95,o'),(96,p'),(97,r'),(98,s'),(99,t'),(100,c'),(101,c'),(102,u'),(103,w'),(104,x'),(105,y'),(106,A'),(107,B'),(108,a'),(109,a'),(110,C'),(111,E'),(112,F'),(113,G'),(114,I'),(115,J'),(116,L'),(117,M'),(118,N'),(119,O'),(2,(Value.bool false))]) ay' (az'+1)) (aB (aQ .add (e 5) (Value.int IntKind.i64 1)) fun aA'=>Q .normal (puts e [(79,(e 5)),(80,d'),(81,e'),(82,f'),(83,g'),(86,h'),(87,i'),(88,(e 5)),(89,j'),(90,k'),(91,b'),(92,b'),(93,l'),(94,n'),(95,o'),(96,p'),(97,r'),(98,s'),(99,t'),(100,c'),(101,c'),(102,u'),(103,w'),(104,x'),(105,y'),(106,A'),(107,B'),(108,a'),(109,a'),(110,C'),(111,E'),(112,F'),(113,G'),(114,I'),(115,J'),(116,L'),(117,M'),(118,N'),(119,O'),(84,(e 5)),(85,aA'),(5,aA')]) ay' (az'+3))) (Q (.exit 4) (puts e [(79,(e 5)),(80,d'),(81,e'),(82,f'),(83,g')]) h (nx+5))
@[irreducible] def sB (ro:Ro) (K:KV):dL→T Obj→Nat→Prop:=fun e h nx=>dZ (aBr ro) (puts e [(5,(Value.int IntKind.i64 0))]) h (nx+1) fun x300 e297 h298 n299=>gI x300 (sD ro K e297 h298 n299) (fun i301=>dH (Nat.beq i301 4) (sD ro K e297 h298 n299) (False)) (∃ h302,aZ h302 h298∧K (e297 2) h302 n299)
@[irreducible] def o9 (ro:Ro) (Q:KE):dL→T Obj→Nat→Prop:=fun e h nx=>aB (aQ .add (e 3) (Value.int IntKind.i64 1)) fun a'=>Q .normal (puts e [(54,(e 3)),(55,a'),(3,a')]) h (nx+3)
@[irreducible] def aBt (ro:Ro):PT:=fun e h nx Q=>aB (aQ .lss (e 4) (e 3)) fun a'=>aW a' (aB (aT 0 (e 1)) fun b'=>aB (load1 ro h b') fun c'=>aB (cQ 1 c' (e 4)) fun d'=>aB (load1 ro h d') fun e'=>aB (aT 0 (e 1)) fun f'=>aB (load1 ro h f') fun g'=>aB (cQ 1 g' (e 3)) fun h'=>aB (load1 ro h h') fun i'=>aB (aFk .eql e' i') fun j'=>aW j' (Q .ret (puts e [(63,(e 4)),(64,(e 3)),(65,a'),(68,b'),(69,c'),(70,(e 4)),(71,d'),(72,e'),(73,f'),(74,g'),(75,(e 3)),(76,h'),(77,i'),(78,j'),(2,(Value.bool false))]) h (nx+15)) (aB (aQ .add (e 4) (Value.int IntKind.i64 1)) fun k'=>Q .normal (puts e [(63,(e 4)),(64,(e 3)),(65,a'),(68,b'),(69,c'),(70,(e 4)),(71,d'),(72,e'),(73,f'),(74,g'),(75,(e 3)),(76,h'),(77,i'),(78,j'),(66,(e 4)),(67,k'),(4,k')]) h (nx+17))) (Q (.exit 2) (puts e [(63,(e 4)),(64,(e 3)),(65,a')]) h (nx+3))
@[irreducible] def aBs (ro:Ro):PT:=fun e h nx Q=>aB (aT 0 (e 1)) fun d'=>aB (load1 ro h d') fun e'=>aB (bS e') fun f'=>aB (aQ .lss (e 3) f') fun g'=>aW g' (aB (aT 0 (e 1)) fun h'=>aB (load1 ro h h') fun i'=>aB (cQ 1 i' (e 3)) fun j'=>aB (load1 ro h j') fun k'=>aO Tryz.prog ro vK [k'] h (nx+11) fun l' o' p'=>aB (unV .not l') fun m'=>aW m' (Q .ret (puts e [(49,(e 3)),(50,d'),(51,e'),(52,f'),(53,g'),(56,h'),(57,i'),(58,(e 3)),(59,j'),(60,k'),(61,l'),(62,m'),(2,(Value.bool false))]) o' (p'+2)) (dZ (aBt ro) (puts e [(49,(e 3)),(50,d'),(51,e'),(52,f'),(53,g'),(56,h'),(57,i'),(58,(e 3)),(59,j'),(60,k'),(61,l'),(62,m'),(4,(Value.int IntKind.i64 0))]) o' (p'+2) fun q' a' b' c'=>gI q' (o9 ro Q a' b' c') (fun n'=>dH (Nat.beq n' 2) (o9 ro Q a' b' c') (dH (Nat.beq n' 1) (o9 ro Q a' b' c') (Q (.exit n') a' b' c'))) (Q .ret a' b' c'))) (Q (.exit 0) (puts e [(49,(e 3)),(50,d'),(51,e'),(52,f'),(53,g')]) h (nx+5))
@[irreducible] def aF2 (ro:Ro) (v0:Value) (h:T Obj) (nx:Nat) (K:KV):Prop:=dM h nx (.cells (Value.cells v0) d4) fun h1=>aB (aT 0 (ptr nx)) fun p'=>aB (load1 ro h1 p') fun q'=>aB (bS q') fun r'=>aB (aQ .lss r' (Value.int IntKind.i64 1)) fun d'=>bA d' false h1 (nx+7) (fun k6=>aB (aT 0 (ptr nx)) fun aS'=>k6 aS' h1 (nx+8)) fun s' h8 n9=>bA d' false h8 n9 (fun aT'=>aB (load1 ro h8 s') fun aU'=>aT' aU' h8 (n9+1)) fun t' u' v'=>bA d' false u' v' (fun aV'=>aB (bS t') fun aW'=>aV' aW' u' (v'+1)) fun w' x' y'=>bA d' false x' y' (fun aX'=>aB (aQ .gtr w' (Value.int IntKind.i64 8)) fun aY'=>aX' aY' x' (y'+1)) fun z' A' B'=>aB (cS d' (Value.bool true) z') fun c'=>bA c' false A' (B'+2) (fun aZ'=>aB (aT 0 (ptr nx)) fun a0'=>aZ' a0' A' (B'+3)) fun C' f' D'=>bA c' false f' D' (fun a1'=>aB (load1 ro f' C') fun a2'=>a1' a2' f' (D'+1)) fun E' F' G'=>bA c' false F' G' (fun a3'=>aB (cQ 1 E' (Value.int IntKind.i64 0)) fun a4'=>a3' a4' F' (G'+1)) fun H' g' I'=>bA c' false g' I' (fun a5'=>aB (load1 ro g' H') fun a6'=>a5' a6' g' (I'+1)) fun J' K' L'=>bA c' false K' L' (fun a7'=>aB (aFk .neq J' (Value.string { data:=#[115,116,97,114,116] })) fun a8'=>a7' a8' K' (L'+1)) fun M' N' O'=>aB (cS c' (Value.bool true) M') fun e'=>bA e' false N' (O'+2) (fun a9'=>aB (aT 1 (ptr nx)) fun ba'=>a9' ba' N' (O'+3)) fun P' h' Q'=>bA e' false h' Q' (fun bb'=>aB (load1 ro h' P') fun bc'=>bb' bc' h' (Q'+1)) fun R' S' T'=>bA e' false S' T' (fun bd'=>aB (bS R') fun be'=>bd' be' S' (T'+1)) fun U' V' W'=>bA e' false V' W' (fun bf'=>aB (aQ .gtr U' (Value.int IntKind.i64 64)) fun bg'=>bf' bg' V' (W'+1)) fun X' Y' Z'=>aB (cS e' (Value.bool true) X') fun b'=>bA b' false Y' (Z'+2) (fun bh'=>aB (aT 2 (ptr nx)) fun bi'=>bh' bi' Y' (Z'+3)) fun aa' i' ab'=>bA b' false i' ab' (fun bj'=>aB (load1 ro i' aa') fun bk'=>bj' bk' i' (ab'+1)) fun ac' ad' ae'=>bA b' false ad' ae' (fun bl'=>aB (bS ac') fun bm'=>bl' bm' ad' (ae'+1)) fun af' ag' ah'=>bA b' false ag' ah' (fun bn'=>aB (aT 1 (ptr nx)) fun bo'=>bn' bo' ag' (ah'+1)) fun ai' j' aj'=>bA b' false j' aj' (fun bp'=>aB (load1 ro j' ai') fun bq'=>bp' bq' j' (aj'+1)) fun ak' al' am'=>bA b' false al' am' (fun br'=>aB (bS ak') fun bs'=>br' bs' al' (am'+1)) fun an' ao' ap'=>bA b' false ao' ap' (fun bt'=>aB (aQ .neq af' an') fun bu'=>bt' bu' ao' (ap'+1)) fun aq' ar' as'=>aB (cS b' (Value.bool true) aq') fun a'=>bA a' false ar' (as'+2) (fun bv'=>aB (aT 3 (ptr nx)) fun bw'=>bv' bw' ar' (as'+3)) fun at' k' au'=>bA a' false k' au' (fun bx'=>aB (load1 ro k' at') fun by'=>bx' by' k' (au'+1)) fun av' aw' ax'=>bA a' false aw' ax' (fun bz'=>aB (bS av') fun bA'=>bz' bA' aw' (ax'+1)) fun ay' az' aA'=>bA a' false az' aA' (fun bB'=>aB (aT 0 (ptr nx)) fun bC'=>bB' bC' az' (aA'+1)) fun aB' l' aC'=>bA a' false l' aC' (fun bD'=>aB (load1 ro l' aB') fun bE'=>bD' bE' l' (aC'+1)) fun aD' aE' aF'=>bA a' false aE' aF' (fun bF'=>aB (bS aD') fun bG'=>bF' bG' aE' (aF'+1)) fun aG' aH' aI'=>bA a' false aH' aI' (fun bH'=>aB (aQ .mul (Value.int IntKind.i64 2) aG') fun bI'=>bH' bI' aH' (aI'+1)) fun aJ' aK' aL'=>bA a' false aK' aL' (fun bJ'=>aB (aQ .neq ay' aJ') fun bK'=>bJ' bK' aK' (aL'+1)) fun aM' aN' aO'=>aB (cS a' (Value.bool true) aM') fun aP'=>aW aP' (∃ aQ',aZ aQ' aN'∧K (Value.bool false) aQ' (aO'+2)) (dZ (aBs ro) (puts (fT [v0]) [(1,(ptr nx)),(2,(Value.bool false)),(7,p'),(8,q'),(9,r'),(10,d'),(11,d'),(12,s'),(13,t'),(14,w'),(15,z'),(16,c'),(17,c'),(18,C'),(19,E'),(20,H'),(21,J'),(22,M'),(23,e'),(24,e'),(25,P'),(26,R'),(27,U'),(28,X'),(29,b'),(30,b'),(31,aa'),(32,ac'),(33,af'),(34,ai'),(35,ak'),(36,an'),(37,aq'),(38,a'),(39,a'),(40,at'),(41,av'),(42,ay'),(43,aB'),(44,aD'),(45,aG'),(46,aJ'),(47,aM'),(48,aP'),(3,(Value.int IntKind.i64 0))]) aN' (aO'+2) fun bL' m' n' o'=>gI bL' (sB ro K m' n' o') (fun bM'=>dH (Nat.beq bM' 0) (sB ro K m' n' o') (False)) (∃ aR',aZ aR' n'∧K (m' 2) aR' o'))
theorem aHP {ro:Ro}{v0:Value}{h:T Obj}{nx:Nat}{K:KV} (hw:aF2 ro v0 h nx K):aO Tryz.prog ro y9 [v0] h nx K:=zzO (fn:=Tryz.f21) hw
@[irreducible] def vG (ro:Ro) (K:KV):dL→T Obj→Nat→Prop:=fun e h nx=>aB (aT 3 (e 1)) fun b'=>aB (load1 ro h b') fun c'=>aO Tryz.prog ro fQ [c',(.func (.func yX) #[] #[(e 1)])] h (nx+4) fun d' e' f'=>aB (unV .not d') fun g'=>∃ a',aZ a' e'∧K g' a' (f'+2)
@[irreducible] def aDq (ro:Ro):PT:=fun e h nx Q=>aB (aQ .lss (e 72) (e 71)) fun e'=>aW e' (aB (cQ 1 (e 70) (e 72)) fun f'=>aB (load1 ro h f') fun c'=>aB (aFk .neq c' (Value.string { data:=#[] })) fun d'=>bA d' true h (nx+32) (fun ak'=>ak' c' h (nx+32)) fun g' E' F'=>bA d' true E' F' (fun al'=>aO Tryz.prog ro tT [g'] E' F' fun am' an' ao'=>al' am' an' ao') fun h' G' H'=>bA d' true G' H' (fun ap'=>aB (unV .not h') fun aq'=>ap' aq' G' H') fun i' I' J'=>aB (cS d' i' (Value.bool false)) fun b'=>bA b' false I' J' (fun ar'=>aB (aT 2 (e 1)) fun as'=>ar' as' I' J') fun j' k' K'=>bA b' false k' K' (fun at'=>aB (load1 ro k' j') fun au'=>at' au' k' K') fun l' L' M'=>bA b' false L' M' (fun av'=>av' (e 72) L' M') fun m' N' O'=>bA b' false N' O' (fun aw'=>aB (cQ 1 l' m') fun ax'=>aw' ax' N' O') fun n' o' P'=>bA b' false o' P' (fun ay'=>aB (load1 ro o' n') fun az'=>ay' az' o' P') fun p' Q' R'=>bA b' false Q' R' (fun aA'=>aB (aQ .lss p' (Value.int IntKind.i64 (-1))) fun aB'=>aA' aB' Q' R') fun q' S' T'=>aB (cS b' (Value.bool true) q') fun a'=>bA a' false S' T' (fun aC'=>aB (aT 2 (e 1)) fun aD'=>aC' aD' S' T') fun r' s' U'=>bA a' false s' U' (fun aE'=>aB (load1 ro s' r') fun aF'=>aE' aF' s' U') fun t' V' W'=>bA a' false V' W' (fun aG'=>aG' (e 72) V' W') fun u' X' Y'=>bA a' false X' Y' (fun aH'=>aB (cQ 1 t' u') fun aI'=>aH' aI' X' Y') fun v' w' Z'=>bA a' false w' Z' (fun aJ'=>aB (load1 ro w' v') fun aK'=>aJ' aK' w' Z') fun x' aa' ab'=>bA a' false aa' ab' (fun aL'=>aB (aT 0 (e 1)) fun aM'=>aL' aM' aa' ab') fun y' z' ac'=>bA a' false z' ac' (fun aN'=>aB (load1 ro z' y') fun aO'=>aN' aO' z' ac') fun A' ad' ae'=>bA a' false ad' ae' (fun aP'=>aB (bS A') fun aQ'=>aP' aQ' ad' ae') fun B' af' ag'=>bA a' false af' ag' (fun aR'=>aB (aQ .geq x' B') fun aS'=>aR' aS' af' ag') fun C' ah' ai'=>aB (cS a' (Value.bool true) C') fun D'=>aW D' (Q .ret (puts e [(73,e'),(74,(e 72)),(75,f'),(76,c'),(5,(e 72)),(6,c'),(77,c'),(78,d'),(79,d'),(80,g'),(81,h'),(82,i'),(83,b'),(84,b'),(85,j'),(86,l'),(87,m'),(88,n'),(89,p'),(90,q'),(91,a'),(92,a'),(93,r'),(94,t'),(95,u'),(96,v'),(97,x'),(98,y'),(99,A'),(100,B'),(101,C'),(102,D'),(2,(Value.bool false))]) ah' (ai'+1)) (aB (aQ .add (e 72) (Value.int IntKind.i64 1)) fun aj'=>Q .normal (puts e [(73,e'),(74,(e 72)),(75,f'),(76,c'),(5,(e 72)),(6,c'),(77,c'),(78,d'),(79,d'),(80,g'),(81,h'),(82,i'),(83,b'),(84,b'),(85,j'),(86,l'),(87,m'),(88,n'),(89,p'),(90,q'),(91,a'),(92,a'),(93,r'),(94,t'),(95,u'),(96,v'),(97,x'),(98,y'),(99,A'),(100,B'),(101,C'),(102,D'),(103,aj'),(72,aj')]) ah' (ai'+2))) (Q (.exit 2) (puts e [(73,e')]) h (nx+1))
@[irreducible] def vF (ro:Ro) (K:KV):dL→T Obj→Nat→Prop:=fun e h nx=>aB (aT 1 (e 1)) fun d'=>aB (load1 ro h d') fun e'=>aB (bS e') fun g'=>dZ (aDq ro) (puts e [(69,d'),(70,e'),(71,g'),(72,(Value.int IntKind.i64 0))]) h (nx+4) fun h' a' b' c'=>gI h' (vG ro K a' b' c') (fun i'=>dH (Nat.beq i' 2) (vG ro K a' b' c') (False)) (∃ f',aZ f' b'∧K (a' 2) f' c')
@[irreducible] def aDr (ro:Ro):PT:=fun e h nx Q=>aB (aQ .lss (e 52) (e 51)) fun c'=>aW c' (aB (cQ 1 (e 50) (e 52)) fun d'=>aB (load1 ro h d') fun b'=>aO Tryz.prog ro tT [b'] h (nx+8) fun e' n' o'=>aB (unV .not e') fun a'=>bA a' false n' (o'+2) (fun B'=>aB (aT 0 (e 1)) fun C'=>B' C' n' (o'+3)) fun f' g' p'=>bA a' false g' p' (fun D'=>aB (load1 ro g' f') fun E'=>D' E' g' (p'+1)) fun h' q' r'=>bA a' false q' r' (fun F'=>F' b' q' (r'+1)) fun i' s' t'=>bA a' false s' t' (fun G'=>aO Tryz.prog ro jJ [h',i'] s' (t'+1) fun H' I' J'=>G' H' I' J') fun j' u' v'=>bA a' false u' v' (fun K'=>K' (e 52) u' (v'+1)) fun k' w' x'=>bA a' false w' x' (fun L'=>aB (aQ .neq j' k') fun M'=>L' M' w' (x'+1)) fun l' y' z'=>aB (cS a' (Value.bool true) l') fun m'=>aW m' (Q .ret (puts e [(53,c'),(54,(e 52)),(55,d'),(56,b'),(3,(e 52)),(4,b'),(57,b'),(58,e'),(59,a'),(60,a'),(61,f'),(62,h'),(63,i'),(64,j'),(65,k'),(66,l'),(67,m'),(2,(Value.bool false))]) y' (z'+2)) (aB (aQ .add (e 52) (Value.int IntKind.i64 1)) fun A'=>Q .normal (puts e [(53,c'),(54,(e 52)),(55,d'),(56,b'),(3,(e 52)),(4,b'),(57,b'),(58,e'),(59,a'),(60,a'),(61,f'),(62,h'),(63,i'),(64,j'),(65,k'),(66,l'),(67,m'),(68,A'),(52,A')]) y' (z'+3))) (Q (.exit 0) (puts e [(53,c')]) h (nx+1))
@[irreducible] def aI8 (ro:Ro) (v0:Value) (h:T Obj) (nx:Nat) (K:KV):Prop:=dM h nx (.cells (Value.cells v0) d4) fun h1=>aB (aT 0 (ptr nx)) fun q'=>aB (load1 ro h1 q') fun r'=>aB (bS r') fun s'=>aB (aQ .lss s' (Value.int IntKind.i64 1)) fun d'=>bA d' false h1 (nx+7) (fun k6=>aB (aT 0 (ptr nx)) fun aU'=>k6 aU' h1 (nx+8)) fun t' h8 n9=>bA d' false h8 n9 (fun aV'=>aB (load1 ro h8 t') fun aW'=>aV' aW' h8 (n9+1)) fun u' v' w'=>bA d' false v' w' (fun aX'=>aB (bS u') fun aY'=>aX' aY' v' (w'+1)) fun x' y' z'=>bA d' false y' z' (fun aZ'=>aB (aQ .gtr x' (Value.int IntKind.i64 8)) fun a0'=>aZ' a0' y' (z'+1)) fun A' B' C'=>aB (cS d' (Value.bool true) A') fun c'=>bA c' false B' (C'+2) (fun a1'=>aB (aT 0 (ptr nx)) fun a2'=>a1' a2' B' (C'+3)) fun D' f' E'=>bA c' false f' E' (fun a3'=>aB (load1 ro f' D') fun a4'=>a3' a4' f' (E'+1)) fun F' G' H'=>bA c' false G' H' (fun a5'=>aB (cQ 1 F' (Value.int IntKind.i64 0)) fun a6'=>a5' a6' G' (H'+1)) fun I' g' J'=>bA c' false g' J' (fun a7'=>aB (load1 ro g' I') fun a8'=>a7' a8' g' (J'+1)) fun K' L' M'=>bA c' false L' M' (fun a9'=>aB (aFk .neq K' (Value.string { data:=#[115,116,97,114,116] })) fun ba'=>a9' ba' L' (M'+1)) fun N' O' P'=>aB (cS c' (Value.bool true) N') fun e'=>bA e' false O' (P'+2) (fun bb'=>aB (aT 1 (ptr nx)) fun bc'=>bb' bc' O' (P'+3)) fun Q' h' R'=>bA e' false h' R' (fun bd'=>aB (load1 ro h' Q') fun be'=>bd' be' h' (R'+1)) fun S' T' U'=>bA e' false T' U' (fun bf'=>aB (bS S') fun bg'=>bf' bg' T' (U'+1)) fun V' W' X'=>bA e' false W' X' (fun bh'=>aB (aQ .gtr V' (Value.int IntKind.i64 64)) fun bi'=>bh' bi' W' (X'+1)) fun Y' Z' aa'=>aB (cS e' (Value.bool true) Y') fun b'=>bA b' false Z' (aa'+2) (fun bj'=>aB (aT 2 (ptr nx)) fun bk'=>bj' bk' Z' (aa'+3)) fun ab' i' ac'=>bA b' false i' ac' (fun bl'=>aB (load1 ro i' ab') fun bm'=>bl' bm' i' (ac'+1)) fun ad' ae' af'=>bA b' false ae' af' (fun bn'=>aB (bS ad') fun bo'=>bn' bo' ae' (af'+1)) fun ag' ah' ai'=>bA b' false ah' ai' (fun bp'=>aB (aT 1 (ptr nx)) fun bq'=>bp' bq' ah' (ai'+1)) fun aj' j' ak'=>bA b' false j' ak' (fun br'=>aB (load1 ro j' aj') fun bs'=>br' bs' j' (ak'+1)) fun al' am' an'=>bA b' false am' an' (fun bt'=>aB (bS al') fun bu'=>bt' bu' am' (an'+1)) fun ao' ap' aq'=>bA b' false ap' aq' (fun bv'=>aB (aQ .neq ag' ao') fun bw'=>bv' bw' ap' (aq'+1)) fun ar' as' at'=>aB (cS b' (Value.bool true) ar') fun a'=>bA a' false as' (at'+2) (fun bx'=>aB (aT 3 (ptr nx)) fun by'=>bx' by' as' (at'+3)) fun au' k' av'=>bA a' false k' av' (fun bz'=>aB (load1 ro k' au') fun bA'=>bz' bA' k' (av'+1)) fun aw' ax' ay'=>bA a' false ax' ay' (fun bB'=>aB (bS aw') fun bC'=>bB' bC' ax' (ay'+1)) fun az' aA' aB'=>bA a' false aA' aB' (fun bD'=>aB (aT 0 (ptr nx)) fun bE'=>bD' bE' aA' (aB'+1)) fun aC' l' aD'=>bA a' false l' aD' (fun bF'=>aB (load1 ro l' aC') fun bG'=>bF' bG' l' (aD'+1)) fun aE' aF' aG'=>bA a' false aF' aG' (fun bH'=>aB (bS aE') fun bI'=>bH' bI' aF' (aG'+1)) fun aH' aI' aJ'=>bA a' false aI' aJ' (fun bJ'=>aB (aQ .mul (Value.int IntKind.i64 2) aH') fun bK'=>bJ' bK' aI' (aJ'+1)) fun aK' aL' aM'=>bA a' false aL' aM' (fun bL'=>aB (aQ .neq az' aK') fun bM'=>bL' bM' aL' (aM'+1)) fun aN' m' aO'=>aB (cS a' (Value.bool true) aN') fun aP'=>aW aP' (∃ aQ',aZ aQ' m'∧K (Value.bool false) aQ' (aO'+2)) (aB (aT 0 (ptr nx)) fun aR'=>aB (load1 ro m' aR') fun aS'=>aB (bS aS') fun bN'=>dZ (aDr ro) (puts (fT [v0]) [(1,(ptr nx)),(2,(Value.bool false)),(7,q'),(8,r'),(9,s'),(10,d'),(11,d'),(12,t'),(13,u'),(14,x'),(15,A'),(16,c'),(17,c'),(18,D'),(19,F'),(20,I'),(21,K'),(22,N'),(23,e'),(24,e'),(25,Q'),(26,S'),(27,V'),(28,Y'),(29,b'),(30,b'),(31,ab'),(32,ad'),(33,ag'),(34,aj'),(35,al'),(36,ao'),(37,ar'),(38,a'),(39,a'),(40,au'),(41,aw'),(42,az'),(43,aC'),(44,aE'),(45,aH'),(46,aK'),(47,aN'),(48,aP'),(49,aR'),(50,aS'),(51,bN'),(52,(Value.int IntKind.i64 0))]) m' (aO'+5) fun bO' n' o' p'=>gI bO' (vF ro K n' o' p') (fun bP'=>dH (Nat.beq bP' 0) (vF ro K n' o' p') (False)) (∃ aT',aZ aT' o'∧K (n' 2) aT' p'))
theorem aJZ {ro:Ro}{v0:Value}{h:T Obj}{nx:Nat}{K:KV} (hw:aI8 ro v0 h nx K):aO Tryz.prog ro aBZ [v0] h nx K:=zzO (fn:=Tryz.f36) hw
@[irreducible] def tX (ro:Ro) (K:KV):dL→T Obj→Nat→Prop:=fun e h nx=>aB (aAX (e 0)) fun d'=>aB (aQ .geq d' (Value.int IntKind.i64 1)) fun a'=>bA a' true h (nx+4) (fun k3=>k3 (e 0) h (nx+5)) fun e' h5 n6=>bA a' true h5 n6 (fun k7=>aB (aAX e') fun f'=>k7 f' h5 (n6+1)) fun g' h9 b'=>bA a' true h9 b' (fun h'=>aB (aQ .leq g' (Value.int IntKind.i64 32)) fun i'=>h' i' h9 (b'+1)) fun j' k' l'=>aB (cS a' j' (Value.bool false)) fun m'=>∃ c',aZ c' k'∧K m' c' (l'+2)
@[irreducible] def aCm (ro:Ro):PT:=fun e h nx Q=>aB (aAX (e 0)) fun c'=>aB (aQ .lss (e 3) c') fun d'=>aW d' (aB (aGj (e 0) (e 3)) fun e'=>aO Tryz.prog ro wR [e'] h (nx+8) fun f' p' q'=>aB (unV .not f') fun a'=>bA a' true p' (q'+2) (fun K'=>K' (e 3) p' (q'+3)) fun g' r' s'=>bA a' true r' s' (fun L'=>aB (aQ .eql g' (Value.int IntKind.i64 0)) fun M'=>L' M' r' (s'+1)) fun h' t' u'=>bA a' true t' u' (fun N'=>N' h' t' (u'+1)) fun b' v' w'=>bA b' false v' w' (fun O'=>O' (e 0) v' (w'+1)) fun i' x' y'=>bA b' false x' y' (fun P'=>P' (e 3) x' (y'+1)) fun j' z' A'=>bA b' false z' A' (fun Q'=>aB (aGj i' j') fun R'=>Q' R' z' (A'+1)) fun k' B' C'=>bA b' false B' C' (fun S'=>aO Tryz.prog ro y6 [k'] B' (C'+1) fun T' U' V'=>S' T' U' V') fun l' D' E'=>bA b' false D' E' (fun W'=>aB (unV .not l') fun X'=>W' X' D' (E'+1)) fun m' F' G'=>bA a' true F' G' (fun Y'=>aB (cS b' (Value.bool true) m') fun Z'=>Y' Z' F' (G'+1)) fun n' H' I'=>aB (cS a' n' (Value.bool false)) fun o'=>aW o' (Q .ret (puts e [(4,(e 3)),(5,(e 0)),(6,c'),(7,d'),(10,(e 0)),(11,(e 3)),(12,e'),(13,f'),(14,a'),(15,a'),(16,g'),(17,h'),(18,b'),(19,i'),(20,j'),(21,k'),(22,l'),(23,m'),(24,n'),(25,o'),(2,(Value.bool false))]) H' (I'+2)) (aB (aQ .add (e 3) (Value.int IntKind.i64 1)) fun J'=>Q .normal (puts e [(4,(e 3)),(5,(e 0)),(6,c'),(7,d'),(10,(e 0)),(11,(e 3)),(12,e'),(13,f'),(14,a'),(15,a'),(16,g'),(17,h'),(18,b'),(19,i'),(20,j'),(21,k'),(22,l'),(23,m'),(24,n'),(25,o'),(8,(e 3)),(9,J'),(3,J')]) H' (I'+4))) (Q (.exit 0) (puts e [(4,(e 3)),(5,(e 0)),(6,c'),(7,d')]) h (nx+4))
@[irreducible] def aHH (ro:Ro) (v0:Value) (h:T Obj) (nx:Nat) (K:KV):Prop:=dZ (aCm ro) (puts (fT [v0]) [(2,(Value.bool false)),(3,(Value.int IntKind.i64 0))]) h (nx+2) fun x74 e71 h72 n73=>gI x74 (tX ro K e71 h72 n73) (fun i75=>dH (Nat.beq i75 0) (tX ro K e71 h72 n73) (False)) (∃ h76,aZ h76 h72∧K (e71 2) h76 n73)
theorem aID {ro:Ro}{v0:Value}{h:T Obj}{nx:Nat}{K:KV} (hw:aHH ro v0 h nx K):aO Tryz.prog ro vK [v0] h nx K:=zzO (fn:=Tryz.f44) hw
@[irreducible] def tZ (ro:Ro) (K:KV):dL→T Obj→Nat→Prop:=fun e h nx=>∃ h9,aZ h9 h∧K (Value.bool true) h9 (nx+1)
@[irreducible] def qA (ro:Ro) (Q:KE):dL→T Obj→Nat→Prop:=fun e h nx=>aB (aQ .add (e 6) (Value.int IntKind.i64 1)) fun a'=>Q .normal (puts e [(58,(e 6)),(59,a'),(6,a')]) h (nx+3)
@[irreducible] def aCr (ro:Ro):PT:=fun e h nx Q=>aB (aT 0 (e 2)) fun a'=>aB (aT 258 a') fun b'=>aB (load1 ro h b') fun c'=>aB (cQ 4 c' (e 6)) fun d'=>aB (aT 2 d') fun e'=>aB (load1 ro h e') fun f'=>aB (bS f') fun g'=>aB (aQ .lss (e 7) g') fun h'=>aW h' (aB (aT 0 (e 2)) fun i'=>aB (aT 258 i') fun j'=>aB (load1 ro h j') fun k'=>aB (cQ 4 k' (e 6)) fun l'=>aB (aT 2 l') fun m'=>aB (load1 ro h m') fun n'=>aB (cQ 1 n' (e 7)) fun o'=>aB (load1 ro h o') fun p'=>aB (aT 259 (e 2)) fun q'=>aB (load1 ro h q') fun r'=>aB (bS r') fun s'=>aB (aQ .geq p' s') fun t'=>aW t' (Q .ret (puts e [(60,(e 7)),(61,a'),(62,b'),(63,c'),(64,(e 6)),(65,d'),(66,e'),(67,f'),(68,g'),(69,h'),(72,i'),(73,j'),(74,k'),(75,(e 6)),(76,l'),(77,m'),(78,n'),(79,(e 7)),(80,o'),(81,p'),(82,q'),(83,r'),(84,s'),(85,t'),(4,(Value.bool false))]) h (nx+25)) (aB (aQ .add (e 7) (Value.int IntKind.i64 1)) fun u'=>Q .normal (puts e [(60,(e 7)),(61,a'),(62,b'),(63,c'),(64,(e 6)),(65,d'),(66,e'),(67,f'),(68,g'),(69,h'),(72,i'),(73,j'),(74,k'),(75,(e 6)),(76,l'),(77,m'),(78,n'),(79,(e 7)),(80,o'),(81,p'),(82,q'),(83,r'),(84,s'),(85,t'),(70,(e 7)),(71,u'),(7,u')]) h (nx+27))) (Q (.exit 4) (puts e [(60,(e 7)),(61,a'),(62,b'),(63,c'),(64,(e 6)),(65,d'),(66,e'),(67,f'),(68,g'),(69,h')]) h (nx+10))
@[irreducible] def aCq (ro:Ro):PT:=fun e h nx Q=>aB (aT 0 (e 2)) fun d'=>aB (aT 258 d') fun e'=>aB (load1 ro h e') fun f'=>aB (bS f') fun g'=>aB (aQ .lss (e 6) g') fun h'=>aW h' (dZ (aCr ro) (puts e [(52,(e 6)),(53,d'),(54,e'),(55,f'),(56,g'),(57,h'),(7,(Value.int IntKind.i64 0))]) h (nx+7) fun j' a' b' c'=>gI j' (qA ro Q a' b' c') (fun i'=>dH (Nat.beq i' 4) (qA ro Q a' b' c') (dH (Nat.beq i' 3) (qA ro Q a' b' c') (Q (.exit i') a' b' c'))) (Q .ret a' b' c')) (Q (.exit 2) (puts e [(52,(e 6)),(53,d'),(54,e'),(55,f'),(56,g'),(57,h')]) h (nx+6))
@[irreducible] def tY (ro:Ro) (K:KV):dL→T Obj→Nat→Prop:=fun e h nx=>dZ (aCq ro) (puts e [(6,(Value.int IntKind.i64 0))]) h (nx+1) fun x45 e42 h43 n44=>gI x45 (tZ ro K e42 h43 n44) (fun i46=>dH (Nat.beq i46 2) (tZ ro K e42 h43 n44) (False)) (∃ h47,aZ h47 h43∧K (e42 4) h47 n44)
@[irreducible] def aCs (ro:Ro):PT:=fun e h nx Q=>aB (aT 259 (e 2)) fun d'=>aB (load1 ro h d') fun e'=>aB (bS e') fun f'=>aB (aQ .lss (e 5) f') fun g'=>aW g' (aB (aT 259 (e 2)) fun h'=>aB (load1 ro h h') fun i'=>aB (cQ 1 i' (e 5)) fun j'=>aB (load1 ro h j') fun k'=>aB (aQ .lss k' (Value.int IntKind.i64 0)) fun b'=>bA b' false h (nx+38) (fun aD'=>aB (aT 259 (e 2)) fun aE'=>aD' aE' h (nx+38)) fun l' m' O'=>bA b' false m' O' (fun aF'=>aB (load1 ro m' l') fun aG'=>aF' aG' m' O') fun n' P' Q'=>bA b' false P' Q' (fun aH'=>aH' (e 5) P' Q') fun o' R' S'=>bA b' false R' S' (fun aI'=>aB (cQ 1 n' o') fun aJ'=>aI' aJ' R' S') fun p' q' T'=>bA b' false q' T' (fun aK'=>aB (load1 ro q' p') fun aL'=>aK' aL' q' T') fun r' U' V'=>bA b' false U' V' (fun aM'=>aM' (e 1) U' V') fun s' W' X'=>bA b' false W' X' (fun aN'=>aB (aQ .geq r' s') fun aO'=>aN' aO' W' X') fun t' Y' Z'=>aB (cS b' (Value.bool true) t') fun c'=>bA c' false Y' Z' (fun aP'=>aP' (e 5) Y' Z') fun u' aa' ab'=>bA c' false aa' ab' (fun aQ'=>aB (aQ .gtr u' (Value.int IntKind.i64 0)) fun aR'=>aQ' aR' aa' ab') fun v' ac' ad'=>bA c' false ac' ad' (fun aS'=>aS' v' ac' ad') fun a' ae' af'=>bA a' true ae' af' (fun aT'=>aB (aT 259 (e 2)) fun aU'=>aT' aU' ae' af') fun w' x' ag'=>bA a' true x' ag' (fun aV'=>aB (load1 ro x' w') fun aW'=>aV' aW' x' ag') fun y' ah' ai'=>bA a' true ah' ai' (fun aX'=>aX' (e 5) ah' ai') fun z' aj' ak'=>bA a' true aj' ak' (fun aY'=>aB (aQ .sub z' (Value.int IntKind.i64 1)) fun aZ'=>aY' aZ' aj' ak') fun A' al' am'=>bA a' true al' am' (fun a0'=>aB (cQ 1 y' A') fun a1'=>a0' a1' al' am') fun B' C' an'=>bA a' true C' an' (fun a2'=>aB (load1 ro C' B') fun a3'=>a2' a3' C' an') fun D' ao' ap'=>bA a' true ao' ap' (fun a4'=>aB (aT 259 (e 2)) fun a5'=>a4' a5' ao' ap') fun E' F' aq'=>bA a' true F' aq' (fun a6'=>aB (load1 ro F' E') fun a7'=>a6' a7' F' aq') fun G' ar' as'=>bA a' true ar' as' (fun a8'=>a8' (e 5) ar' as') fun H' at' au'=>bA a' true at' au' (fun a9'=>aB (cQ 1 G' H') fun ba'=>a9' ba' at' au') fun I' J' av'=>bA a' true J' av' (fun bb'=>aB (load1 ro J' I') fun bc'=>bb' bc' J' av') fun K' aw' ax'=>bA a' true aw' ax' (fun bd'=>aB (aQ .geq D' K') fun be'=>bd' be' aw' ax') fun L' ay' az'=>bA c' false ay' az' (fun bf'=>aB (cS a' L' (Value.bool false)) fun bg'=>bf' bg' ay' az') fun M' aA' aB'=>aB (cS c' (Value.bool true) M') fun N'=>aW N' (Q .ret (puts e [(12,(e 5)),(13,d'),(14,e'),(15,f'),(16,g'),(19,h'),(20,i'),(21,(e 5)),(22,j'),(23,k'),(24,b'),(25,b'),(26,l'),(27,n'),(28,o'),(29,p'),(30,r'),(31,s'),(32,t'),(33,c'),(34,c'),(35,u'),(36,v'),(37,a'),(38,w'),(39,y'),(40,z'),(41,A'),(42,B'),(43,D'),(44,E'),(45,G'),(46,H'),(47,I'),(48,K'),(49,L'),(50,M'),(51,N'),(4,(Value.bool false))]) aA' (aB'+1)) (aB (aQ .add (e 5) (Value.int IntKind.i64 1)) fun aC'=>Q .normal (puts e [(12,(e 5)),(13,d'),(14,e'),(15,f'),(16,g'),(19,h'),(20,i'),(21,(e 5)),(22,j'),(23,k'),(24,b'),(25,b'),(26,l'),(27,n'),(28,o'),(29,p'),(30,r'),(31,s'),(32,t'),(33,c'),(34,c'),(35,u'),(36,v'),(37,a'),(38,w'),(39,y'),(40,z'),(41,A'),(42,B'),(43,D'),(44,E'),(45,G'),(46,H'),(47,I'),(48,K'),(49,L'),(50,M'),(51,N'),(17,(e 5)),(18,aC'),(5,aC')]) aA' (aB'+3))) (Q (.exit 0) (puts e [(12,(e 5)),(13,d'),(14,e'),(15,f'),(16,g')]) h (nx+5))
@[irreducible] def aHQ (ro:Ro) (v0 v1:Value) (h:T Obj) (nx:Nat) (K:KV):Prop:=dM h nx (.cells (Value.cells v0) dX) fun h1=>aB (aT 0 (ptr nx)) fun d'=>aB (loadA ro h1 259 d') fun e'=>aO Tryz.prog ro tR [e'] h1 (nx+5) fun f' h5 n6=>aB (unV .not f') fun g'=>aW g' (∃ h8,aZ h8 h5∧K (Value.bool false) h8 (n6+2)) (dZ (aCs ro) (puts (fT [v0,v1]) [(2,(ptr nx)),(4,(Value.bool false)),(8,d'),(9,e'),(10,f'),(11,g'),(5,(Value.int IntKind.i64 0))]) h5 (n6+2) fun i' a' b' c'=>gI i' (tY ro K a' b' c') (fun j'=>dH (Nat.beq j' 0) (tY ro K a' b' c') (False)) (∃ h',aZ h' b'∧K (a' 4) h' c'))
theorem aIK {ro:Ro}{v0 v1:Value}{h:T Obj}{nx:Nat}{K:KV} (hw:aHQ ro v0 v1 h nx K):aO Tryz.prog ro aAT [v0,v1] h nx K:=zzO (fn:=Tryz.f45) hw
@[irreducible] def sN (ro:Ro) (K:KV):dL→T Obj→Nat→Prop:=fun e h nx=>aB (aAX (e 0)) fun d'=>aB (aQ .geq d' (Value.int IntKind.i64 1)) fun a'=>bA a' true h (nx+4) (fun k3=>k3 (e 0) h (nx+5)) fun e' h5 n6=>bA a' true h5 n6 (fun k7=>aB (aAX e') fun f'=>k7 f' h5 (n6+1)) fun g' h9 b'=>bA a' true h9 b' (fun h'=>aB (aQ .leq g' (Value.int IntKind.i64 32)) fun i'=>h' i' h9 (b'+1)) fun j' k' l'=>aB (cS a' j' (Value.bool false)) fun m'=>∃ c',aZ c' k'∧K m' c' (l'+2)
@[irreducible] def aCH (ro:Ro):PT:=fun e h nx Q=>aB (aQ .lss (e 6) (e 5)) fun c'=>aW c' (aB (aGj (e 0) (e 6)) fun d'=>aO Tryz.prog ro uU [d'] h (nx+7) fun e' o' p'=>aB (unV .not e') fun a'=>bA a' true o' (p'+2) (fun J'=>J' (e 6) o' (p'+3)) fun f' q' r'=>bA a' true q' r' (fun K'=>aB (aQ .eql f' (Value.int IntKind.i64 0)) fun L'=>K' L' q' (r'+1)) fun g' s' t'=>bA a' true s' t' (fun M'=>M' g' s' (t'+1)) fun b' u' v'=>bA b' false u' v' (fun N'=>N' (e 0) u' (v'+1)) fun h' w' x'=>bA b' false w' x' (fun O'=>O' (e 6) w' (x'+1)) fun i' y' z'=>bA b' false y' z' (fun P'=>aB (aGj h' i') fun Q'=>P' Q' y' (z'+1)) fun j' A' B'=>bA b' false A' B' (fun R'=>aO Tryz.prog ro wS [j'] A' (B'+1) fun S' T' U'=>R' S' T' U') fun k' C' D'=>bA b' false C' D' (fun V'=>aB (unV .not k') fun W'=>V' W' C' (D'+1)) fun l' E' F'=>bA a' true E' F' (fun X'=>aB (cS b' (Value.bool true) l') fun Y'=>X' Y' E' (F'+1)) fun m' G' H'=>aB (cS a' m' (Value.bool false)) fun n'=>aW n' (Q .ret (puts e [(7,c'),(8,(e 6)),(3,(e 6)),(9,(e 0)),(10,(e 6)),(11,d'),(12,e'),(13,a'),(14,a'),(15,f'),(16,g'),(17,b'),(18,h'),(19,i'),(20,j'),(21,k'),(22,l'),(23,m'),(24,n'),(2,(Value.bool false))]) G' (H'+2)) (aB (aQ .add (e 6) (Value.int IntKind.i64 1)) fun I'=>Q .normal (puts e [(7,c'),(8,(e 6)),(3,(e 6)),(9,(e 0)),(10,(e 6)),(11,d'),(12,e'),(13,a'),(14,a'),(15,f'),(16,g'),(17,b'),(18,h'),(19,i'),(20,j'),(21,k'),(22,l'),(23,m'),(24,n'),(25,I'),(6,I')]) G' (H'+3))) (Q (.exit 0) (puts e [(7,c')]) h (nx+1))
@[irreducible] def aF7 (ro:Ro) (v0:Value) (h:T Obj) (nx:Nat) (K:KV):Prop:=aB (aAX v0) fun e'=>dZ (aCH ro) (puts (fT [v0]) [(2,(Value.bool false)),(4,v0),(5,e'),(6,(Value.int IntKind.i64 0))]) h (nx+4) fun f' a' b' c'=>gI f' (sN ro K a' b' c') (fun g'=>dH (Nat.beq g' 0) (sN ro K a' b' c') (False)) (∃ d',aZ d' b'∧K (a' 2) d' c')
theorem aH6 {ro:Ro}{v0:Value}{h:T Obj}{nx:Nat}{K:KV} (hw:aF7 ro v0 h nx K):aO Tryz.prog ro tT [v0] h nx K:=zzO (fn:=Tryz.f69) hw
@[irreducible] def aFL (ro:Ro) (v0 v1:Value) (h:T Obj) (nx:Nat) (K:KV):Prop:=dM h nx (.cells (Value.cells v0) dX) fun h1=>aB (loadA ro h1 260 (ptr nx)) fun b'=>aB (aT 1 v1) fun c'=>aB (load1 ro h1 c') fun d'=>aB (bS d') fun e'=>aO Tryz.prog ro aDO [b',e'] h1 (nx+7) fun f' h7 n8=>aB (unV .not f') fun g'=>∃ a',aZ a' h7∧K g' a' (n8+2)
theorem aGb {ro:Ro}{v0 v1:Value}{h:T Obj}{nx:Nat}{K:KV} (hw:aFL ro v0 v1 h nx K):aO Tryz.prog ro yX [v0,v1] h nx K:=zzO (fn:=Tryz.f72) hw
@[irreducible] def yA (ro:Ro) (K:KV):dL→T Obj→Nat→Prop:=fun e h nx=>aB (aT 0 (e 2)) fun b'=>aB (loadA ro h 259 b') fun c'=>aO Tryz.prog ro vI [c'] h (nx+3) fun d' h5 n6=>aB (unV .not d') fun e'=>aW e' (∃ h8,aZ h8 h5∧K (Value.bool false) h8 (n6+2)) (aB (aT 0 (e 2)) fun f'=>aB (aT 258 f') fun g'=>aB (load1 ro h5 g') fun h'=>aO Tryz.prog ro eP [h',(.func (.func aAP) #[] #[(e 2)])] h5 (n6+6) fun i' j' k'=>aB (unV .not i') fun l'=>∃ a',aZ a' j'∧K l' a' (k'+2))
@[irreducible] def aFM (ro:Ro):PT:=fun e h nx Q=>aB (aQ .lss (e 11) (e 10)) fun c'=>aW c' (aB (cQ 1 (e 9) (e 11)) fun d'=>aB (load1 ro h d') fun a'=>aB (aQ .leq a' (e 5)) fun b'=>bA b' false h (nx+8) (fun p'=>p' a' h (nx+9)) fun e' i' j'=>bA b' false i' j' (fun q'=>q' (e 1) i' (j'+1)) fun f' k' l'=>bA b' false k' l' (fun r'=>aB (aQ .geq e' f') fun s'=>r' s' k' (l'+1)) fun g' m' n'=>aB (cS b' (Value.bool true) g') fun h'=>aW h' (Q .ret (puts e [(12,c'),(13,d'),(14,a'),(7,a'),(15,a'),(16,(e 5)),(17,b'),(18,b'),(19,e'),(20,f'),(21,g'),(22,h'),(4,(Value.bool false))]) m' (n'+2)) (aB (aQ .add (e 11) (Value.int IntKind.i64 1)) fun o'=>Q .normal (puts e [(12,c'),(13,d'),(14,a'),(7,a'),(15,a'),(16,(e 5)),(17,b'),(18,b'),(19,e'),(20,f'),(21,g'),(22,h'),(23,a'),(5,a'),(24,o'),(11,o')]) m' (n'+5))) (Q (.exit 0) (puts e [(12,c')]) h (nx+1))
@[irreducible] def aKz (ro:Ro) (v0 v1:Value) (h:T Obj) (nx:Nat) (K:KV):Prop:=dM h nx (.cells (Value.cells v0) dX) fun h1=>aB (aT 259 (ptr nx)) fun d'=>aB (load1 ro h1 d') fun e'=>aB (bS e') fun g'=>dZ (aFM ro) (puts (fT [v0,v1]) [(2,(ptr nx)),(4,(Value.bool false)),(5,(Value.int IntKind.i64 (-1))),(8,d'),(9,e'),(10,g'),(11,(Value.int IntKind.i64 0))]) h1 (nx+7) fun h' a' b' c'=>gI h' (yA ro K a' b' c') (fun i'=>dH (Nat.beq i' 0) (yA ro K a' b' c') (False)) (∃ f',aZ f' b'∧K (a' 4) f' c')
theorem aLA {ro:Ro}{v0 v1:Value}{h:T Obj}{nx:Nat}{K:KV} (hw:aKz ro v0 v1 h nx K):aO Tryz.prog ro aDO [v0,v1] h nx K:=zzO (fn:=Tryz.f73) hw
@[irreducible] def aEL (ro:Ro) (v0:Value) (h:T Obj) (nx:Nat) (K:KV):Prop:=aB (aQ .geq v0 (Value.int IntKind.u8 97)) fun b'=>bA b' true h (nx+4) (fun k2=>k2 v0 h (nx+5)) fun t' h4 n5=>bA b' true h4 n5 (fun k6=>aB (aQ .leq t' (Value.int IntKind.u8 122)) fun u'=>k6 u' h4 (n5+1)) fun v' h8 n9=>aB (cS b' v' (Value.bool false)) fun a'=>bA a' false h8 (n9+2) (fun w'=>w' v0 h8 (n9+3)) fun x' e' f'=>bA a' false e' f' (fun y'=>aB (aQ .geq x' (Value.int IntKind.u8 65)) fun z'=>y' z' e' (f'+1)) fun A' g' h'=>bA a' false g' h' (fun B'=>B' A' g' (h'+1)) fun c' i' j'=>bA c' true i' j' (fun C'=>C' v0 i' (j'+1)) fun D' k' l'=>bA c' true k' l' (fun E'=>aB (aQ .leq D' (Value.int IntKind.u8 90)) fun F'=>E' F' k' (l'+1)) fun G' m' n'=>bA a' false m' n' (fun H'=>aB (cS c' G' (Value.bool false)) fun I'=>H' I' m' (n'+1)) fun J' o' p'=>aB (cS a' (Value.bool true) J') fun d'=>bA d' false o' (p'+2) (fun K'=>K' v0 o' (p'+3)) fun L' q' r'=>bA d' false q' r' (fun M'=>aB (aQ .eql L' (Value.int IntKind.u8 95)) fun N'=>M' N' q' (r'+1)) fun O' P' Q'=>aB (cS d' (Value.bool true) O') fun R'=>∃ s',aZ s' P'∧K R' s' (Q'+2)
theorem aFj {ro:Ro}{v0:Value}{h:T Obj}{nx:Nat}{K:KV} (hw:aEL ro v0 h nx K):aO Tryz.prog ro wR [v0] h nx K:=zzO (fn:=Tryz.f81) hw
@[irreducible] def aFV (ro:Ro) (v0:Value) (h:T Obj) (nx:Nat) (K:KV):Prop:=aB (aQ .geq v0 (Value.int IntKind.u8 48)) fun a'=>bA a' true h (nx+4) (fun k2=>k2 v0 h (nx+5)) fun c' h4 n5=>bA a' true h4 n5 (fun k6=>aB (aQ .leq c' (Value.int IntKind.u8 57)) fun d'=>k6 d' h4 (n5+1)) fun e' h8 n9=>aB (cS a' e' (Value.bool false)) fun f'=>∃ b',aZ b' h8∧K f' b' (n9+2)
theorem aHI {ro:Ro}{v0:Value}{h:T Obj}{nx:Nat}{K:KV} (hw:aFV ro v0 h nx K):aO Tryz.prog ro y6 [v0] h nx K:=zzO (fn:=Tryz.f82) hw
@[irreducible] def aDE (ro:Ro) (v0:Value) (h:T Obj) (nx:Nat) (K:KV):Prop:=aB (aQ .geq v0 (Value.int IntKind.u8 97)) fun b'=>bA b' true h (nx+4) (fun k2=>k2 v0 h (nx+5)) fun t' h4 n5=>bA b' true h4 n5 (fun k6=>aB (aQ .leq t' (Value.int IntKind.u8 122)) fun u'=>k6 u' h4 (n5+1)) fun v' h8 n9=>aB (cS b' v' (Value.bool false)) fun a'=>bA a' false h8 (n9+2) (fun w'=>w' v0 h8 (n9+3)) fun x' e' f'=>bA a' false e' f' (fun y'=>aB (aQ .geq x' (Value.int IntKind.u8 65)) fun z'=>y' z' e' (f'+1)) fun A' g' h'=>bA a' false g' h' (fun B'=>B' A' g' (h'+1)) fun c' i' j'=>bA c' true i' j' (fun C'=>C' v0 i' (j'+1)) fun D' k' l'=>bA c' true k' l' (fun E'=>aB (aQ .leq D' (Value.int IntKind.u8 90)) fun F'=>E' F' k' (l'+1)) fun G' m' n'=>bA a' false m' n' (fun H'=>aB (cS c' G' (Value.bool false)) fun I'=>H' I' m' (n'+1)) fun J' o' p'=>aB (cS a' (Value.bool true) J') fun d'=>bA d' false o' (p'+2) (fun K'=>K' v0 o' (p'+3)) fun L' q' r'=>bA d' false q' r' (fun M'=>aB (aQ .eql L' (Value.int IntKind.u8 95)) fun N'=>M' N' q' (r'+1)) fun O' P' Q'=>aB (cS d' (Value.bool true) O') fun R'=>∃ s',aZ s' P'∧K R' s' (Q'+2)
theorem aEw {ro:Ro}{v0:Value}{h:T Obj}{nx:Nat}{K:KV} (hw:aDE ro v0 h nx K):aO Tryz.prog ro uU [v0] h nx K:=zzO (fn:=Tryz.f109) hw
@[irreducible] def aEZ (ro:Ro) (v0:Value) (h:T Obj) (nx:Nat) (K:KV):Prop:=aB (aQ .geq v0 (Value.int IntKind.u8 48)) fun a'=>bA a' true h (nx+4) (fun k2=>k2 v0 h (nx+5)) fun c' h4 n5=>bA a' true h4 n5 (fun k6=>aB (aQ .leq c' (Value.int IntKind.u8 57)) fun d'=>k6 d' h4 (n5+1)) fun e' h8 n9=>aB (cS a' e' (Value.bool false)) fun f'=>∃ b',aZ b' h8∧K f' b' (n9+2)
theorem aFl {ro:Ro}{v0:Value}{h:T Obj}{nx:Nat}{K:KV} (hw:aEZ ro v0 h nx K):aO Tryz.prog ro wS [v0] h nx K:=zzO (fn:=Tryz.f110) hw
@[irreducible] def aGc (ro:Ro) (v0 v1:Value) (h:T Obj) (nx:Nat) (K:KV):Prop:=dM h nx (.cells (Value.cells v0) bG) fun h1=>aB (aT 2 (ptr nx)) fun c'=>aB (load1 ro h1 c') fun d'=>aO Tryz.prog ro o5 [d'] h1 (nx+10) fun e' h5 n6=>aB (aT 259 v1) fun a'=>aB (load1 ro h5 a') fun f'=>(gZ a' h1 h5)∧(aB (bS f') fun g'=>aB (aQ .geq e' g') fun h'=>∃ b',aZ b' h5∧K h' b' n6)
theorem aHt {ro:Ro}{v0 v1:Value}{h:T Obj}{nx:Nat}{K:KV} (hw:aGc ro v0 v1 h nx K):aO Tryz.prog ro aAP [v0,v1] h nx K:=zzO (fn:=Tryz.f113) hw
end V
end Go.Proofs.YtcaccnneblghgaaGreat
namespace Go.Proofs.YtcaccnneblghgaaGreat
namespace V
attribute [local irreducible] aB bA aW dM eR gI dH
section
variable {ro:Ro}{h:T Obj}{nx:Nat}{K:KV}
theorem aFm {c:Nat} (hK:∀ nx',nx≤nx'→K (.bool (aJ8 c)) h nx'):aO Tryz.prog ro uU [.int .u8 (c:Int)] h nx K:=by
 have fin:∀ (b:Bool) n',nx≤n'→aJ8 c=b→∃ h',aZ h' h∧K (.bool b) h' n':=fun b n' hn hb=>⟨h,aZ.refl _,by rw[← hb]; exact hK _ hn⟩
 apply aEw
 unfold aDE
 by_cases h1:97≤c
 ·by_cases h2:c≤122
  ·(repeat refine zzC ?_)
   exact fin _ _ (by omega) (decide_eq_true (by omega))
  ·(repeat refine zzC ?_)
   exact fin _ _ (by omega) (decide_eq_false (by omega))
 ·by_cases h3:65≤c
  ·by_cases h4:c≤90
   ·(repeat refine zzC ?_)
    exact fin _ _ (by omega) (decide_eq_true (by omega))
   ·by_cases h5:c=95
    ·(repeat refine zzC ?_)
     exact fin _ _ (by omega) (decide_eq_true (by omega))
    ·(repeat refine zzC ?_)
     exact fin _ _ (by omega) (decide_eq_false (by omega))
  ·(repeat refine zzC ?_)
   exact fin _ _ (by omega) (decide_eq_false (by omega))
theorem aHJ {c:Nat} (hK:∀ nx',nx≤nx'→K (.bool (aJ8 c)) h nx'):aO Tryz.prog ro wR [.int .u8 (c:Int)] h nx K:=by
 have fin:∀ (b:Bool) n',nx≤n'→aJ8 c=b→∃ h',aZ h' h∧K (.bool b) h' n':=fun b n' hn hb=>⟨h,aZ.refl _,by rw[← hb]; exact hK _ hn⟩
 apply aFj
 unfold aEL
 by_cases h1:97≤c
 ·by_cases h2:c≤122
  ·(repeat refine zzC ?_)
   exact fin _ _ (by omega) (decide_eq_true (by omega))
  ·(repeat refine zzC ?_)
   exact fin _ _ (by omega) (decide_eq_false (by omega))
 ·by_cases h3:65≤c
  ·by_cases h4:c≤90
   ·(repeat refine zzC ?_)
    exact fin _ _ (by omega) (decide_eq_true (by omega))
   ·by_cases h5:c=95
    ·(repeat refine zzC ?_)
     exact fin _ _ (by omega) (decide_eq_true (by omega))
    ·(repeat refine zzC ?_)
     exact fin _ _ (by omega) (decide_eq_false (by omega))
  ·(repeat refine zzC ?_)
   exact fin _ _ (by omega) (decide_eq_false (by omega))
theorem aH7 {c:Nat} (hK:∀ nx',nx≤nx'→K (.bool (aJQ c)) h nx'):aO Tryz.prog ro wS [.int .u8 (c:Int)] h nx K:=by
 have fin:∀ (b:Bool) n',nx≤n'→aJQ c=b→∃ h',aZ h' h∧K (.bool b) h' n':=fun b n' hn hb=>⟨h,aZ.refl _,by rw[← hb]; exact hK _ hn⟩
 apply aFl
 unfold aEZ
 by_cases h1:48≤c
 ·by_cases h2:c≤57
  ·(repeat refine zzC ?_)
   exact fin _ _ (by omega) (decide_eq_true (by omega))
  ·(repeat refine zzC ?_)
   exact fin _ _ (by omega) (decide_eq_false (by omega))
 ·(repeat refine zzC ?_)
  exact fin _ _ (by omega) (decide_eq_false (by omega))
theorem aIE {c:Nat} (hK:∀ nx',nx≤nx'→K (.bool (aJQ c)) h nx'):aO Tryz.prog ro y6 [.int .u8 (c:Int)] h nx K:=by
 have fin:∀ (b:Bool) n',nx≤n'→aJQ c=b→∃ h',aZ h' h∧K (.bool b) h' n':=fun b n' hn hb=>⟨h,aZ.refl _,by rw[← hb]; exact hK _ hn⟩
 apply aHI
 unfold aFV
 by_cases h1:48≤c
 ·by_cases h2:c≤57
  ·(repeat refine zzC ?_)
   exact fin _ _ (by omega) (decide_eq_true (by omega))
  ·(repeat refine zzC ?_)
   exact fin _ _ (by omega) (decide_eq_false (by omega))
 ·(repeat refine zzC ?_)
  exact fin _ _ (by omega) (decide_eq_false (by omega))
end
end V
end Go.Proofs.YtcaccnneblghgaaGreat
namespace Go.Proofs.YtcaccnneblghgaaGreat
namespace V
attribute [local irreducible] aB bA aW dM eR gI dH
section
variable {ro:Ro}{h:T Obj}{nx:Nat}{K:KV}
set_option maxRecDepth 4000 in
theorem aDD {s:ByteArray} (hs:s.size≤9223372036854775807) (hK:∀ nx',nx≤nx'→K (.bool (mF s)) h nx'):aO Tryz.prog ro tT [.string s] h nx K:=by
 have hbl:=aJL s
 have hl:=aGm s
 rw[hbl] at hl
 apply aH6
 unfold aF7
 refine aA hl ?_
 refine bM (fun j e h' nx'=>∃ k:Nat,k+j=s.size∧nx≤nx'∧h'=h∧e 0=.string s∧e 5=.int .i64 (s.size:Nat)∧e 2=.bool false∧e 6=.int .i64 k∧sV true (bts s)=sV (decide (k=0)) ((bts s).drop k)) ?_ (n:=s.size) ⟨0,by omega,by omega,rfl,rfl,rfl, rfl,rfl,rfl⟩
 rintro j e h' nx' ⟨k,hj,hnx,rfl,e0,e5,e2,eI,hq⟩ Q' hc hx
 unfold aCH
 rw[e5, e0,eI]
 refine dS (fun hk=>?_) (fun hk=>?_)
 ·have hk:k < s.size:=by omega
  have hkb:k < (bts s).length:=by omega
  have hbb:=aP6 _ (List.getElem_mem hkb)
  have hix:=aId (s:=s) (k:=.i64) hkb
  have hdr:(bts s).drop k=(bts s)[k]::(bts s).drop (k+1):=List.drop_eq_getElem_cons hkb
  rw[hdr] at hq
  generalize (bts s)[k]=b at hbb hix hq
  have hq:sV true (bts s)=((aJ8 b || !(decide (k=0))&&aJQ b)&&sV false ((bts s).drop (k+1))):=hq
  have hcont:∀ (e':dL) n',nx≤n'→e' 0=.string s→e' 5=.int .i64 (s.size:Nat)→e' 2=.bool false→e' 6=.int .i64 ((k:Int)+1)→sV true (bts s)=sV false ((bts s).drop (k+1))→Q' .normal e' h' n':=by
   intro e' n' hn f0 f5 f2 fI hqq
   refine hc (j - 1) _ _ _ _ (by omega) ⟨k+1,by omega,hn,rfl,f0,f5,f2,by rw[fI]; rfl,?_⟩ (aZ.refl _)
   rw[hqq,decide_eq_false (by omega)]
  have hno:sV true (bts s)=false→K (.bool false) h'=K (.bool (mF s)) h':=fun hn=>by
   have:mF s=false:=by unfold mF; rw[hn]; rfl
   rw[this]
  (have zz:=hix;repeat refine zzCz ?_)
  refine aFm fun n1 hn1=>?_
  cases hlt:aJ8 b with
  | true =>
   rw[hlt] at hq
   (repeat refine zzC ?_)
   exact hcont _ _ (by omega) e0 e5 e2 rfl (by rw[hq]; simp)
  | false =>
   rw[hlt] at hq
   by_cases hk0:k=0
   ·(repeat refine zzC ?_)
    refine hx _ _ _ _ (fun e=>by cases e) (fP ?_)
    refine⟨h',aZ.refl _,?_⟩
    show K (.bool false) h' _
    rw[hno (by rw[hq,decide_eq_true hk0]; rfl)]
    exact hK _ (by omega)
   ·(have zz:=hix;repeat refine zzCz ?_)
    refine aH7 fun n2 hn2=>?_
    cases hdg:aJQ b with
    | true =>
     rw[hdg] at hq
     (repeat refine zzC ?_)
     exact hcont _ _ (by omega) e0 e5 e2 rfl (by rw[hq,decide_eq_false hk0]; simp)
    | false =>
     rw[hdg] at hq
     (repeat refine zzC ?_)
     refine hx _ _ _ _ (fun e=>by cases e) (fP ?_)
     refine⟨h',aZ.refl _,?_⟩
     show K (.bool false) h' _
     rw[hno (by rw[hq,decide_eq_false hk0]; rfl)]
     exact hK _ (by omega)
 ·have hk:k=s.size:=by omega
  have hnl:sV true (bts s)=true:=by rw[hq,List.drop_of_length_le (by omega)]; rfl
  (repeat refine zzC ?_)
  refine hx _ _ _ _ (fun e=>by cases e) (eE (dG ?_))
  have hend:∀ (e':dL) n',nx≤n'→e' 0=.string s→sN ro K e' h' n':=by
   intro e' n' hn f0
   unfold sN
   rw[f0]
   refine aA hl ?_
   by_cases h1:1≤s.size
   ·(repeat refine zzC ?_)
    refine aA hl ?_
    by_cases h2:s.size≤32
    ·(repeat refine zzC ?_)
     refine⟨h',aZ.refl _,?_⟩
     have:mF s=true:=by unfold mF; rw[hnl,decide_eq_true h1,decide_eq_true h2]; rfl
     rw[← this]; exact hK _ (by omega)
    ·(repeat refine zzC ?_)
     refine⟨h',aZ.refl _,?_⟩
     have:mF s=false:=by unfold mF; rw[hnl,decide_eq_true h1,decide_eq_false h2]; rfl
     rw[← this]; exact hK _ (by omega)
   ·(repeat refine zzC ?_)
    refine⟨h',aZ.refl _,?_⟩
    have:mF s=false:=by unfold mF; rw[hnl,decide_eq_false h1]; rfl
    rw[← this]; exact hK _ (by omega)
  exact hend _ _ (by omega) e0
set_option maxRecDepth 4000 in
theorem aEK {s:ByteArray} (hs:s.size≤9223372036854775807) (hK:∀ nx',nx≤nx'→K (.bool (mF s)) h nx'):aO Tryz.prog ro vK [.string s] h nx K:=by
 have hbl:=aJL s
 have hl:=aGm s
 rw[hbl] at hl
 apply aID
 unfold aHH
 skip
 refine bM (fun j e h' nx'=>∃ k:Nat,k+j=s.size∧nx≤nx'∧h'=h∧e 0=.string s∧ e 2=.bool false∧e 3=.int .i64 k∧sV true (bts s)=sV (decide (k=0)) ((bts s).drop k)) ?_ (n:=s.size) ⟨0,by omega,by omega,rfl,rfl, rfl,rfl,rfl⟩
 rintro j e h' nx' ⟨k,hj,hnx,rfl,e0, e2,eI,hq⟩ Q' hc hx
 unfold aCm
 rw[ e0,eI]
 refine aA hl ?_
 refine dS (fun hk=>?_) (fun hk=>?_)
 ·have hk:k < s.size:=by omega
  have hkb:k < (bts s).length:=by omega
  have hbb:=aP6 _ (List.getElem_mem hkb)
  have hix:=aId (s:=s) (k:=.i64) hkb
  have hdr:(bts s).drop k=(bts s)[k]::(bts s).drop (k+1):=List.drop_eq_getElem_cons hkb
  rw[hdr] at hq
  generalize (bts s)[k]=b at hbb hix hq
  have hq:sV true (bts s)=((aJ8 b || !(decide (k=0))&&aJQ b)&&sV false ((bts s).drop (k+1))):=hq
  have hcont:∀ (e':dL) n',nx≤n'→e' 0=.string s→ e' 2=.bool false→e' 3=.int .i64 ((k:Int)+1)→sV true (bts s)=sV false ((bts s).drop (k+1))→Q' .normal e' h' n':=by
   intro e' n' hn f0  f2 fI hqq
   refine hc (j - 1) _ _ _ _ (by omega) ⟨k+1,by omega,hn,rfl,f0, f2,by rw[fI]; rfl,?_⟩ (aZ.refl _)
   rw[hqq,decide_eq_false (by omega)]
  have hno:sV true (bts s)=false→K (.bool false) h'=K (.bool (mF s)) h':=fun hn=>by
   have:mF s=false:=by unfold mF; rw[hn]; rfl
   rw[this]
  (have zz:=hix;repeat refine zzCz ?_)
  refine aHJ fun n1 hn1=>?_
  cases hlt:aJ8 b with
  | true =>
   rw[hlt] at hq
   (repeat refine zzC ?_)
   exact hcont _ _ (by omega) e0  e2 rfl (by rw[hq]; simp)
  | false =>
   rw[hlt] at hq
   by_cases hk0:k=0
   ·(repeat refine zzC ?_)
    refine hx _ _ _ _ (fun e=>by cases e) (fP ?_)
    refine⟨h',aZ.refl _,?_⟩
    show K (.bool false) h' _
    rw[hno (by rw[hq,decide_eq_true hk0]; rfl)]
    exact hK _ (by omega)
   ·(have zz:=hix;repeat refine zzCz ?_)
    refine aIE fun n2 hn2=>?_
    cases hdg:aJQ b with
    | true =>
     rw[hdg] at hq
     (repeat refine zzC ?_)
     exact hcont _ _ (by omega) e0  e2 rfl (by rw[hq,decide_eq_false hk0]; simp)
    | false =>
     rw[hdg] at hq
     (repeat refine zzC ?_)
     refine hx _ _ _ _ (fun e=>by cases e) (fP ?_)
     refine⟨h',aZ.refl _,?_⟩
     show K (.bool false) h' _
     rw[hno (by rw[hq,decide_eq_false hk0]; rfl)]
     exact hK _ (by omega)
 ·have hk:k=s.size:=by omega
  have hnl:sV true (bts s)=true:=by rw[hq,List.drop_of_length_le (by omega)]; rfl
  (repeat refine zzC ?_)
  refine hx _ _ _ _ (fun e=>by cases e) (eE (dG ?_))
  have hend:∀ (e':dL) n',nx≤n'→e' 0=.string s→tX ro K e' h' n':=by
   intro e' n' hn f0
   unfold tX
   rw[f0]
   refine aA hl ?_
   by_cases h1:1≤s.size
   ·(repeat refine zzC ?_)
    refine aA hl ?_
    by_cases h2:s.size≤32
    ·(repeat refine zzC ?_)
     refine⟨h',aZ.refl _,?_⟩
     have:mF s=true:=by unfold mF; rw[hnl,decide_eq_true h1,decide_eq_true h2]; rfl
     rw[← this]; exact hK _ (by omega)
    ·(repeat refine zzC ?_)
     refine⟨h',aZ.refl _,?_⟩
     have:mF s=false:=by unfold mF; rw[hnl,decide_eq_true h1,decide_eq_false h2]; rfl
     rw[← this]; exact hK _ (by omega)
   ·(repeat refine zzC ?_)
    refine⟨h',aZ.refl _,?_⟩
    have:mF s=false:=by unfold mF; rw[hnl,decide_eq_false h1]; rfl
    rw[← this]; exact hK _ (by omega)
  exact hend _ _ (by omega) e0
end
end V
end Go.Proofs.YtcaccnneblghgaaGreat
namespace Go.Proofs.YtcaccnneblghgaaGreat
namespace V
attribute [local irreducible] aB bA aW dM eR gI dH
section
variable {ro:Ro}{h:T Obj}{p a n w nx:Nat}{L:List Nat}{K:KV}
theorem aD8 (hR:WJ h p a n L w) (hf:Fr h nx) (hw:w+1≤1000000) (hK:∀ a' h' nx',nx≤a'→nx≤nx'→Fr h' nx'→WJ h' p a' n [] (w+1)→(∀ k,k < nx→k≠p→k≠a→h'.get k=h.get k)→K (.tuple #[]) h' nx'):aO Tryz.prog ro iP [ptr p] h nx K :=
 aIC hR.1 hf hw fun a' h' n' h1 h2 h3 h4 h5=>hK a' h' n' h1 h2 h3 ⟨h4,List.Pairwise.nil,fun x hx=>by cases hx⟩ h5
theorem aRw (hp:L.Pairwise (fun x y=>y < x)) (hb:∀ x∈L,1≤x∧x≤n) (hn:1≤n):(aEi L).Pairwise (fun x y=>y < x)∧∀ x∈aEi L,1≤x∧x≤n:=by
 by_cases h:L.getD (L.length - 1) 0=1
 ·have:aEi L=L:=if_pos h
  rw[this]; exact⟨hp,hb⟩
 ·rw[aEj h]
  exact⟨aJm h hp hb,aNG hn hb⟩
theorem aRF (hR:WJ h p a n L w) (hf:Fr h nx) (hw:w+1≤1000000) (hK:∀ h' nx',nx≤nx'→Fr h' nx'→WJ h' p a n (aEi L) (w+1)→(∀ k,k < nx→k≠p→k≠a→h'.get k=h.get k)→K (.tuple #[]) h' nx'):aO Tryz.prog ro pI [ptr p] h nx K:=by
 have hl:=aRw hR.2.1 hR.2.2 hR.1.2.2.2.1
 exact aLm hR.1 hf hw fun h' n' h2 h3 h4 h5=>hK h' n' h2 h3 ⟨h4,hl⟩ h5
theorem aRE (hR:WJ h p a n L w) (hf:Fr h nx) (hw:w+1≤1000000) (hK:∀ a' h' nx',nx≤a'→nx≤nx'→Fr h' nx'→WJ h' p a' n (aAV n L) (w+1)→(∀ k,k < nx→k≠p→k≠a→h'.get k=h.get k)→K (.tuple #[]) h' nx'):aO Tryz.prog ro pH [ptr p] h nx K :=
 aLk hR.1 hR.2.1 hR.2.2 hf hw fun a' h' n' h1 h2 h3 h4 h5=>hK a' h' n' h1 h2 h3 ⟨h4,aJ3 hR.2.1,aMn hR.2.1 hR.2.2⟩ h5
theorem aJC (hR:WJ h p a n L w) (hf:Fr h nx) (hK:∀ r h' nx',nx≤nx'→aZ h h'→Fr h' nx'→Own h' r 1 dY (oA L.reverse) nx nx'→K r h' nx'):aO Tryz.prog ro lH [ptr p] h nx K :=
 aJr hR.1 hR.2.1 hR.2.2 hf hK
end
theorem aNJ {ro:Ro}{v:Value}{l:List Int}{p:Int} (hlen:l.length≤1000000) {h:T Obj}{nx:Nat}{K:KV} (hv:ZI ro h v l) (hK:∀ nx',nx≤nx'→K (.bool (l.contains p)) h nx'):aO Tryz.prog ro aDR [v,.int .i64 p] h nx K:=by
 apply aLr
 unfold aLq
 generalize hR:l.contains p=R at hK
 refine bM (fun j e h' nx'=>∃ (k:Nat),k+j=l.length∧nx≤nx'∧h'=h∧e 0=v∧e 1=.int .i64 p∧e 5=.int .i64 k∧(l.drop k).contains p=R) ?_ (n:=l.length) ⟨0,by omega,by omega,rfl,rfl,rfl,rfl,hR⟩
 rintro j e h' nx' ⟨k,hj,hnx,rfl,e0,e1,e5,hr⟩ Q' hq hx
 unfold aF1
 rw[e0,e1,e5]
 refine aA hv.len ?_
 refine dS (fun hk=>?_) (fun hk=>?_)
 ·have hk:k < l.length:=by omega
  rw[cU hk] at hr
  (repeat refine zzC ?_)
  refine aA (hv.ix _ hk) (aA (hv.load hk) ?_)
  generalize l[k]=x at hr
  refine uY (fun he=>?_) (fun he=>?_)
  ·(repeat refine zzC ?_)
   refine hx _ _ _ _ (fun e=>by cases e) (fP ?_)
   exact⟨_,aZ.refl _,kb hK (by rw[← hr,he]; simp) (by omega)⟩
  ·(repeat refine zzC ?_)
   refine hq (j - 1) _ _ _ _ (by omega) ⟨k+1,by omega,by omega,rfl,e0,e1,rfl,?_⟩ (aZ.refl _)
   rw[← hr,List.contains_cons,beq_eq_false_iff_ne.2 (Ne.symm he),Bool.false_or]
 ·(repeat refine zzC ?_)
  refine hx _ _ _ _ (fun e=>by cases e) (eE (dG ?_))
  unfold aBp
  rw[gG (by omega)] at hr
  exact⟨_,aZ.refl _,kb hK hr.symm (by omega)⟩
def Lo (h:T Obj) (L:List (Nat × List Value × TypeId)):Prop:=∀ b∈L,h.get b.1=some (.cells b.2.1.toArray b.2.2)∧b.2.2≠cG∧b.2.2≠jK
def SW (hs:T Obj) (X:List Nat) (n0:Nat) (p:Nat) (pc:List Value) (L:List (Nat × List Value × TypeId)) (ps0:List (Nat × Nat)) (C:List (Int × Int)) (h:T Obj) (nx:Nat) (rs:List RgD) (ps:List (Nat × Nat)):Prop :=
 h.get p=some (.cells pc.toArray bN)∧Lo h L∧aZ (del hs X) h∧RsX WJ h ps C rs∧Dst ps∧mJ ps=mJ ps0∧(∀ q∈ps,q.1∈ps0.map (·.1)∧(q.2∈ps0.map (·.2)∨n0≤q.2))∧eB (p::iD ps0) hs h∧Fr h nx∧n0≤nx∧Fr hs n0∧∀ k∈p::iD ps0,k∈X
section
variable {ro:Ro}{hs h h':T Obj}{X:List Nat}{n0 p nx:Nat}{pc:List Value}{L:List (Nat × List Value × TypeId)}{ps0 ps:List (Nat × Nat)}{C:List (Int × Int)}{rs:List RgD}{K:KV}
theorem SW.mono {n':Nat} (hi:SW hs X n0 p pc L ps0 C h nx rs ps) (hn:nx≤n'):SW hs X n0 p pc L ps0 C h n' rs ps:=by
 obtain⟨g1,g2,g3,g4,g5,g6,g7,g8,g9,g10,g11⟩:=hi
 exact⟨g1,g2,g3,g4,g5,g6,g7,g8,g9.mono hn,by omega,g11⟩
theorem SW.sub {n':Nat} (hi:SW hs X n0 p pc L ps0 C h nx rs ps) (hs':aZ h h') (hf:Fr h' n') (hn:nx≤n'):SW hs X n0 p pc L ps0 C h' n' rs ps:=by
 obtain⟨g1,g2,g3,g4,g5,g6,g7,g8,g9,g10,g11⟩:=hi
 exact⟨hs' _ _ g1,fun b hb=>⟨hs' _ _ (g2 b hb).1,(g2 b hb).2⟩,g3.trans hs',g4.sub rH hs',g5,g6,g7,fun k o hk hn=>hs' _ _ (g8 k o hk hn),hf,by omega,g11⟩
theorem aFv {ps:List (Nat × Nat)}{k:Nat} (h:k∈ps.map (·.1)):k∈iD ps:=by
 obtain⟨q,hq,rfl⟩:=List.mem_map.1 h
 exact jN.2 ⟨q,hq,.inl rfl⟩
theorem aFw {ps:List (Nat × Nat)}{k:Nat} (h:k∈ps.map (·.2)):k∈iD ps:=by
 obtain⟨q,hq,rfl⟩:=List.mem_map.1 h
 exact jN.2 ⟨q,hq,.inr rfl⟩
theorem SW.ring {i n' a' w n:Nat}{q:Nat × Nat}{c:Int × Int}{M:List Nat}{r:RgD} (hi:SW hs X n0 p pc L ps0 C h nx rs ps) (hq:ps[i]?=some q) (hc:C[i]?=some c) (hR:WJ h q.1 q.2 n M w) (hR':WJ h' q.1 a' c.2.toNat r.1 r.2) (ha:a'=q.2∨nx≤a') (hg:∀ k,k < nx→k≠q.1→k≠q.2→h'.get k=h.get k) (hf:Fr h' n') (hn:nx≤n') :
  SW hs X n0 p pc L ps0 C h' n' (rs.set i r) (ps.set i (q.1,a')):=by
 obtain⟨g1,g2,g3,g4,g5,g6,g7,g8,g9,g10,g11,g12⟩:=hi
 have hm:=List.mem_of_getElem? hq
 obtain⟨m1,m2⟩:=g7 q hm
 obtain⟨c1,t1⟩:=rH.p hR
 obtain⟨c2,t2⟩:=rH.a hR
 have hlt:=g4.lt rH g9
 have hget:∀ {k:Nat} {c:Array Value} {e:TypeId},h.get k=some (.cells c e)→e≠cG→e≠jK→h'.get k=some (.cells c e):=fun hk h1 h2=>by
  rw[hg _ (g9.lt' hk) (mG hk t1 h1) (mG hk t2 h2)]; exact hk
 refine⟨hget g1 (by decide) (by decide),fun b hb=>⟨hget (g2 b hb).1 (g2 b hb).2.1 (g2 b hb).2.2,(g2 b hb).2⟩,fun k o hk=>?_,g4.set rH g5 g9 hq hc hR' hg,g5.set hq ?_,(aOy hq).trans g6,fun r hr=>?_,fun k o hk hkn=>?_,hf,by omega,g11,g12⟩
 ·have h1:=hk
  rw[lD] at h1
  split at h1
  ·cases h1
  ·rename_i hnX
   have hk0:=g11.lt' h1
   rw[hg k (by omega) (fun e=>hnX (by rw[e]; exact g12 _ (List.mem_cons_of_mem _ (aFv m1)))) (fun e=>?_)]
   ·exact g3 k o hk
   ·rcases m2 with m2 | m2
    ·exact hnX (by rw[e]; exact g12 _ (List.mem_cons_of_mem _ (aFw m2)))
    ·omega
 ·rcases ha with ha | ha
  ·exact .inl ha
  ·exact .inr fun s hs=>by have:=(hlt s hs).2; omega
 ·rcases List.mem_or_eq_of_mem_set hr with h1 | h1
  ·exact g7 r h1
  ·subst h1
   refine⟨m1,?_⟩
   rcases ha with ha | ha
   ·subst ha; exact m2
   ·exact .inr (show n0≤a' by omega)
 ·have hk0:=g11.lt' hk
  rw[hg k (by omega) (fun e=>hkn (by rw[e]; exact List.mem_cons_of_mem _ (aFv m1))) (fun e=>?_)]
  ·exact g8 k o hk hkn
  ·rcases m2 with m2 | m2
   ·exact hkn (by rw[e]; exact List.mem_cons_of_mem _ (aFw m2))
   ·omega
theorem SW.cell {pc':List Value} (hi:SW hs X n0 p pc L ps0 C h nx rs ps) (h1:h'.get p=some (.cells pc'.toArray bN)) (h2:∀ k,k≠p→h'.get k=h.get k) (hL:∀ b∈L,b.2.2≠bN):SW hs X n0 p pc' L ps0 C h' nx rs ps:=by
 obtain⟨g1,g2,g3,g4,g5,g6,g7,g8,g9,g10,g11,g12⟩:=hi
 have hp:=g9.lt' g1
 refine⟨h1,fun b hb=>⟨?_,(g2 b hb).2⟩,fun k o hk=>?_,g4.keep rH fun q hq=>?_,g5,g6,g7,fun k o hk hkn=>?_,fun k hk=>by rw[h2 k (by omega)]; exact g9 k hk,g10,g11,g12⟩
 ·rw[h2 _ (mG (g2 b hb).1 g1 (hL b hb))]; exact (g2 b hb).1
 ·have h9:=hk
  rw[lD] at h9
  split at h9
  ·cases h9
  ·rename_i hnX
   rw[h2 k (fun e=>hnX (by rw[e]; exact g12 _ (List.mem_cons_self ..)))]; exact g3 k o hk
 ·obtain⟨⟨c1,t1⟩,c2,t2⟩:=g4.ty rH q hq
  exact⟨h2 _ (mG t1 g1 (by decide)),h2 _ (mG t2 g1 (by decide))⟩
 ·rw[h2 k fun e=>hkn (by rw[e]; exact List.mem_cons_self ..)]
  exact g8 k o hk hkn
def X2 (X:List Nat) (ps:List (Nat × Nat)):List Nat:=ps.map (·.2)++X
end
def aDa (ro:Ro) (h:T Obj) (nx:Nat) (X:List Nat) (p:Nat) (ps:List (Nat × Nat)) (d:AutoD) (m':MacD) (h':T Obj) (nx':Nat) (X':List Nat) (ps':List (Nat × Nat)):Prop :=
 nx≤nx'∧Fr h' nx'∧eB (p::iD ps) h h'∧(∀ k∈X',k∈X∨h.get k=none)∧(∀ k∈X,k∈X')∧(∀ k∈iD ps',k∈iD ps∨nx≤k)∧MW ro h' X' p ps' d m'
section
variable {ro:Ro}{h h':T Obj}{X:List Nat}{n0 p nx n':Nat}{L:List (Nat × List Value × TypeId)}{ps ps':List (Nat × Nat)}{d:AutoD}{m m':MacD}{cv sv rv:Value}{K:KV}
theorem SW.left (hA:sR ro (del h X) (eU d.c d.many cv sv) d) (hP:Sl ro (del h X) rv 1 (mJ ps)) (hn:nx≤n0) (hi:SW h X n0 p (dV d.c d.many cv sv m'.cur rv m'.steps) L ps d.counts h' n' m'.rs ps'):aDa ro h nx X p ps d m' h' n' (X2 X ps') ps':=by
 obtain⟨g1,g2,g3,g4,g5,g6,g7,g8,g9,g10,g11,g12⟩:=hi
 have hX:∀ k∈X2 X ps',k∈X∨h.get k=none:=fun k hk=>by
  rcases List.mem_append.1 hk with h1 | h1
  ·obtain⟨q,hq,rfl⟩:=List.mem_map.1 h1
   rcases (g7 q hq).2 with h2 | h2
   ·exact .inl (g12 _ (List.mem_cons_of_mem _ (aFw h2)))
   ·exact .inr (g11 _ h2)
  ·exact .inl h1
 have hre:=aRY g3 hX
 refine⟨by omega,g9,g8,hX,fun k hk=>List.mem_append.2 (.inr hk),fun k hk=>?_,cv,sv,rv,g1,hA.sub hre,by rw[g6]; exact hP.sub hre,g4,g5,List.mem_append.2 (.inr (g12 _ (List.mem_cons_self ..))),fun k hk=>?_⟩
 ·obtain⟨q,hq,h1⟩:=jN.1 hk
  rcases h1 with rfl | rfl
  ·exact .inl (aFv (g7 q hq).1)
  ·rcases (g7 q hq).2 with h2 | h2
   ·exact .inl (aFw h2)
   ·exact .inr (by omega)
 obtain⟨q,hq,h1⟩:=jN.1 hk
 rcases h1 with rfl | rfl
 ·exact List.mem_append.2 (.inr (g12 _ (List.mem_cons_of_mem _ (aFv (g7 q hq).1))))
 ·exact List.mem_append.2 (.inl (List.mem_map.2 ⟨q,hq,rfl⟩))
theorem MX.sw (hm:MW ro h X p ps d m) (hf:Fr h nx):∃ cv sv rv,SW h X nx p (dV d.c d.many cv sv m.cur rv m.steps) [] ps d.counts h nx m.rs ps∧sR ro (del h X) (eU d.c d.many cv sv) d∧Sl ro (del h X) rv 1 (mJ ps):=by
 obtain⟨cv,sv,rv,g1,g2,g3,g4,g5,g6,g7⟩:=hm
 refine⟨cv,sv,rv,⟨g1,(fun b hb=>by cases hb),cX h X,g4,g5,rfl,fun q hq=>⟨List.mem_map.2 ⟨q,hq,rfl⟩,.inl (List.mem_map.2 ⟨q,hq,rfl⟩)⟩,(aZ.refl h).keepL,hf,Nat.le_refl _,hf,fun k hk=>?_⟩,g2,g3⟩
 rcases List.mem_cons.1 hk with rfl | hk
 ·exact g6
 ·exact g7 k hk
theorem aDa.refl (hm:MW ro h X p ps d m) (hf:Fr h nx) (hn:nx≤n'):aDa ro h nx X p ps d m h n' X ps:=⟨hn,hf.mono hn,(aZ.refl h).keepL,fun k hk=>.inl hk,fun k hk=>hk,fun k hk=>.inl hk,hm⟩
theorem MX.inX {RR:RgP}{ty:TypeId} (hm:MX RR ty ro h X p ps d m):∀ k∈p::iD ps,k∈X:=fun k hk=>by
 obtain⟨cv,sv,rv,g1,g2,g3,g4,g5,g6,g7⟩:=hm
 rcases List.mem_cons.1 hk with rfl | hk
 ·exact g6
 ·exact g7 k hk
end
end V
end Go.Proofs.YtcaccnneblghgaaGreat
namespace Go.Proofs.YtcaccnneblghgaaGreat
namespace V
attribute [local irreducible] aB bA aW dM eR gI dH
theorem aIb {l:List Nat}{i:Nat} (hi:i < l.length):(oA l)[i]?=some [.int .i64 (l[i]:Nat)]:=by simp[oA,hi]
theorem aPo {C:List (Int × Int)}{rs:List RgD}{c:Int}{l:List Nat} (hl:(kW rs c).1.reverse=l):aGZ C rs c=if l.length=0 then 0 else if ((l.getD (l.length - 1) 0:Nat):Int) < (iE C c).1 then 0 else if ((l.getD 0 0:Nat):Int) < (iE C c).2 then 2 else 1:=by
 unfold aGZ
 subst hl
 generalize (kW rs c).1=L
 rw[List.length_reverse]
 by_cases h0:L.length=0
 ·rw[if_pos h0,if_pos h0]
 ·rw[if_neg h0,if_neg h0]
  have e1:L.reverse.getD (L.length - 1) 0=L.getD 0 0:=by
   rw[List.getD_eq_getElem?_getD,List.getD_eq_getElem?_getD,List.getElem?_reverse (by omega)]
   congr 2; omega
  have e2:L.reverse.getD 0 0=L.getD (L.length - 1) 0:=by
   rw[List.getD_eq_getElem?_getD,List.getD_eq_getElem?_getD,List.getElem?_reverse (by omega)]
   congr 2
  rw[e1,e2]
section
variable {ro:Ro}{h:T Obj}{nx:Nat}{X:List Nat}{p:Nat}{ps:List (Nat × Nat)}{d:AutoD}{m:MacD}{K:KV}
set_option maxRecDepth 8000 in
set_option maxHeartbeats 1000000 in
theorem aEN (hm:MW ro h X p ps d m) (hf:Fr h nx) (ha:fF d=true) (ho:MOk d m) (hc:m.cur≠-1) (hK:∀ nx',nx≤nx'→K (.int .i64 (gP d.counts m.rs (eS d m).r:Nat)) h nx'):aO Tryz.prog ro lI [ptr p] h nx K:=by
 have hsf:=aEW ha ho hc
 obtain⟨cv,sv,rv,gp,hA,hP,hR,hD,hpX,hbX⟩:=id hm
 obtain⟨hcl,hclt,hcv,hsv⟩:=hA.parts
 have hsv:=hsv.sub (cX h X) (eT.sub (cX h X))
 have hcv:=hcv.sub (cX h X) fun _ _ h=>h
 have hP:=hP.sub (cX h X)
 have m7:=aIf (n:=d.many) (cv:=cv) (sv:=sv) (cur:=m.cur) (rv:=rv) (steps:=m.steps) hcl
 have m8:=tG (n:=d.many) (cv:=cv) (sv:=sv) (cur:=m.cur) (rv:=rv) (steps:=m.steps) hcl
 have m9:=tH (n:=d.many) (cv:=cv) (sv:=sv) (cur:=m.cur) (rv:=rv) (steps:=m.steps) hcl
 have m0:=lB (n:=d.many) (cv:=cv) (sv:=sv) (cur:=m.cur) (rv:=rv) (steps:=m.steps) hcl
 have hcur:0≤m.cur∧m.cur < d.states.length:=by rcases ho.1 with h | h<;>omega
 have hi:m.cur.toNat < d.states.length:=by omega
 have hs:d.states[m.cur.toNat]=eS d m:=by unfold eS; rw[List.getD_eq_getElem?_getD,List.getElem?_eq_getElem hi]; rfl
 have hsi:=hsv.ixI .i64 hcur.1 hcur.2
 obtain⟨x,⟨lv,rv',uv,nv,rfl,y1,y2,y3,y4,y5⟩,hx2,hx3,hx4,hx5⟩:=hsv.at hi
 have hl1:=hx5 1 rv' rfl
 have hx41:=hx4 1
 rw[hs] at y2
 have hrl:=y2.len
 have hR3:=hsf.r3
 have hRl:=hsf.rl
 generalize (eS d m).r=R at y2 hrl hR3 hRl hK
 have htot:gP d.counts m.rs R≤26:=by
  have h9:=aBN (C:=d.counts) (rs:=m.rs) hR3
  have h10:=aBO (R.length:Int)
  omega
 apply aBA
 unfold xJ
 (have zz:=And.intro @aR (And.intro gp (And.intro m8 m9));repeat refine zzCz ?_)
 refine aA hsi (aA hx41 (aA hl1 ?_))
 generalize hT:gP d.counts m.rs R=tot at hK htot
 refine bM (fun j e h' nx'=>∃ (k n w:Nat),k+j=R.length∧nx≤nx'∧aZ h h'∧Fr h' nx'∧e 0=ptr p∧e 3=.int .i64 (n:Int)∧e 4=.int .i64 (w:Int)∧e 5=rv'∧e 6=.int .i64 k∧n+w*gP d.counts m.rs (R.drop k)=tot∧(k=0∧w=1∨k=1∧w=3∨k=2∧w=9∨k=3∧w=27)) ?_ (n:=R.length) ⟨0,0,1,by omega,by omega,aZ.refl _,hf.mono (by omega),rfl,rfl,rfl,rfl,rfl,by rw[List.drop_zero,hT]; omega,by omega⟩
 rintro j e h' nx' ⟨k,n,w,hj,hnx,hs',hf',e0,e3,e4,e5,e6,ht,hw⟩ Q' hq hx
 unfold sZ
 rw[e0,e3,e4,e5,e6]
 have y2':=y2.sub hs'
 refine aA y2'.len ?_
 refine dS (fun hk=>?_) (fun hk=>?_)
 ·have hk:k < R.length:=by omega
  rw[cU hk] at ht
  have hcm:=hRl _ (List.getElem_mem hk)
  have rix:=y2'.ix .i64 hk
  have rld:=y2'.load hk
  generalize R[k]=c at ht hcm rld
  change n+w*(aGZ d.counts m.rs c+3*gP d.counts m.rs (R.drop (k+1)))=tot at ht
  obtain⟨q,hq',hri⟩:=hR.at hcm.1 hcm.2
  have gp':=hs' _ _ gp
  have hP':=hP.sub hs'
  have hpi:=hP'.ixI .i64 hcm.1 (by rw[gN,hR.1]; exact hcm.2)
  have hp1:=hP'.load1 (p9 hq')
  have hri':WJ h' q.1 q.2 (iE d.counts c).2.toNat (kW m.rs c).1 (kW m.rs c).2:=⟨hri.1.sub hs',hri.2⟩
  have hdl:=aJR d.counts m.rs c
  have hw27:w≤27:=by omega
  have hdig:=aPo (C:=d.counts) (rs:=m.rs) (c:=c) rfl
  have hlenr:(kW m.rs c).1.length≤4096:=by
   have:=rH.L hri
   rcases aFs (Nat.le_refl 1) this.1 this.2.1 with h9 | h9
   ·omega
   ·rw[h9]; simp
  have hend:∀ (e':dL) h2 n2 (g:Nat),e' 0=ptr p→e' 3=.int .i64 ((n+w*g:Nat):Int)→e' 4=.int .i64 (w:Int)→e' 5=rv'→e' 6=.int .i64 k→nx≤n2→aZ h h2→Fr h2 n2→aGZ d.counts m.rs c=g→iL ro Q' e' h2 n2:=by
   intro e' h2 n2 g f0 f3 f4 f5 f6 hn hs2 hf2 hg
   rw[hg] at ht hdl
   have hwg:w*g≤54:=Nat.mul_le_mul hw27 (show g≤2 by omega)
   rw[Nat.mul_add,← Nat.mul_assoc] at ht
   unfold iL
   rw[f4]
   have hmul3:aQ .mul (.int .i64 (w:Int)) (.int .i64 3)=some (.int .i64 ((w*3:Nat):Int)):=by
    rw[dI,dT (by omega) (by omega)]; simp
   refine aA hmul3 ?_
   have hj2:∀ (e2:dL) n3,e2 0=ptr p→e2 3=.int .i64 ((n+w*g:Nat):Int)→e2 4=.int .i64 ((w*3:Nat):Int)→e2 5=rv'→e2 6=.int .i64 k→n2≤n3→nV ro Q' e2 h2 n3:=by
    intro e2 n3 u0 u3 u4 u5 u6 hn3
    unfold nV
    rw[u6]
    (repeat refine zzC ?_)
    exact hq (j - 1) _ _ _ _ (by omega) ⟨k+1,n+w*g,w*3,by omega,by omega,hs2,hf2.mono (by omega),u0,u3,u4,u5,rfl,by omega,by omega⟩ (aZ.refl _)
   exact hj2 _ _ f0 f3 rfl f5 f6 (by omega)
  have hnb:n≤26:=by omega
  (have zz:=And.intro @aR (And.intro gp' m0);repeat refine zzCz ?_)
  refine aA rix (aA rld (aA hpi (aA hp1 ?_)))
  refine aJC hri' (hf'.mono (by omega)) fun r h2 n2 hn2 hs2 hf2 ho2=>?_
  generalize hl:(kW m.rs c).1.reverse=l at hdig ho2
  have hll:l.length≤4096:=by rw[← hl,List.length_reverse]; exact hlenr
  have hsl:=ho2.sl (ro:=ro)
  have hln:=hsl.len
  rw[zV] at hln
  have hs2':=hs'.trans hs2
  have hf2':∀ n3,n2≤n3→Fr h2 n3:=fun n3 h9=>hf2.mono h9
  have gp2:=hs2' _ _ gp
  have hcv2:=hcv.sub hs2' fun _ _ h=>h
  have y22:=y2.sub hs2'
  have hci:=hcv2.ixI .i64 hcm.1 hcm.2
  have hic:c.toNat < d.counts.length:=by omega
  obtain⟨x,hx1,hx2',hx3',hx4',hx5'⟩:=hcv2.at hic
  rw[xY hcm.1 hcm.2] at hx1
  obtain rfl:x=[.int .i64 (iE d.counts c).1,.int .i64 (iE d.counts c).2]:=hx1
  have ha0:V.ixArr 2 1 (i3 2 cv c.toNat) (.int .i64 0)=some (mT 2 cv c.toNat 0):=hcv2.sl' hic 2 1 .i64 (j:=0) (by omega) (by omega)
  have ha1:V.ixArr 2 1 (i3 2 cv c.toNat) (.int .i64 1)=some (mT 2 cv c.toNat 1):=hcv2.sl' hic 2 1 .i64 (j:=1) (by omega) (by omega)
  have hl0:=hx5' 0 _ rfl
  have hl1':=hx5' 1 _ rfl
  have rix2:cQ 1 rv' (.int .i64 (k:Int))=some (i3 1 rv' k):=rix
  have rld2:load1 ro h2 (i3 1 rv' k)=some (.int .i64 c):=nO hs2 rld
  generalize iE d.counts c=ct at hdig hl0 hl1' hri hri'
  refine aA hln ?_
  have hz:w*0=0:=Nat.mul_zero w
  refine nH (fun hg=>?_) (fun hg=>?_)
  ·rw[if_neg (by omega)] at hdig
   have e1:(l.length:Int) - 1=((l.length - 1:Nat):Int):=by omega
   have lix:=hsl.ix .i64 (i:=l.length - 1) (by rw[zV]; omega)
   have lld:=hsl.load1 (aIb (show l.length - 1 < l.length by omega))
   have lix0:cQ 1 r (.int .i64 0)=some (i3 1 r 0):=hsl.ix .i64 (i:=0) (by rw[zV]; omega)
   have lld0:=hsl.load1 (aIb (show 0 < l.length by omega))
   have d1:l.getD (l.length - 1) 0=l[l.length - 1]:=by rw[List.getD_eq_getElem?_getD,List.getElem?_eq_getElem (by omega)]; rfl
   have d0:l.getD 0 0=l[0]:=by rw[List.getD_eq_getElem?_getD,List.getElem?_eq_getElem (by omega)]; rfl
   rw[d1,d0] at hdig
   generalize l[l.length - 1]=gr at hdig lld
   generalize l[0]=le at hdig lld0
   (have zz:=hln;repeat refine zzCz ?_)
   rw[e1]
   (have zz:=And.intro lix (And.intro lld (And.intro @aR (And.intro gp2 (And.intro m7 (And.intro rix2 (And.intro rld2 (And.intro hci (And.intro ha0 hl0))))))));repeat refine zzCz ?_)
   refine yB (fun h3=>?_) (fun h3=>?_)
   ·rw[if_neg (by omega)] at hdig
    (have zz:=And.intro lix0 (And.intro lld0 (And.intro @aR (And.intro gp2 (And.intro m7 (And.intro rix2 (And.intro rld2 (And.intro hci (And.intro ha1 hl1'))))))));repeat refine zzCz ?_)
    refine dS (fun h4=>?_) (fun h4=>?_)
    ·rw[if_pos h4] at hdig
     have hm2:aQ .mul (.int .i64 2) (.int .i64 (w:Int))=some (.int .i64 ((w*2:Nat):Int)):=by
      rw[dI,dT (by omega) (by omega)]; congr 2; omega
     have ha2:aQ .add (.int .i64 (n:Int)) (.int .i64 ((w*2:Nat):Int))=some (.int .i64 ((n+w*2:Nat):Int)):=by
      rw[cH,← Int.natCast_add,dT (by omega) (by omega)]
     refine aH (aA hm2 (aA ha2 ?_))
     exact hend _ _ _ 2 e0 rfl e4 e5 e6 (by omega) hs2' (hf2' _ (by omega)) hdig
    ·rw[if_neg (by omega)] at hdig
     have ha2:aQ .add (.int .i64 (n:Int)) (.int .i64 (w:Int))=some (.int .i64 ((n+w*1:Nat):Int)):=by
      rw[cH,Nat.mul_one,← Int.natCast_add,dT (by omega) (by omega)]
     refine aG (aA ha2 ?_)
     exact hend _ _ _ 1 e0 rfl e4 e5 e6 (by omega) hs2' (hf2' _ (by omega)) hdig
   ·rw[if_pos h3] at hdig
    (repeat refine zzC ?_)
    exact hend _ _ _ 0 e0 e3 e4 e5 e6 (by omega) hs2' (hf2' _ (by omega)) hdig
  ·rw[if_pos (by omega)] at hdig
   (repeat refine zzC ?_)
   exact hend _ _ _ 0 e0 e3 e4 e5 e6 (by omega) hs2' (hf2' _ (by omega)) hdig
 ·(repeat refine zzC ?_)
  refine hx _ _ _ _ (fun e=>by cases e) (eE (dG ?_))
  unfold nU
  rw[gG (by omega)] at ht
  have ht:n+w*0=tot:=ht
  have f3:∀ (e':dL) n',e' 3=.int .i64 (n:Int)→nx≤n'→∃ h2,aZ h2 h'∧K (e' 3) h2 n':=fun e' n' h5 hn=>by
   rw[h5]
   exact⟨h,hs',ki hK (by omega) hn⟩
  exact f3 _ _ e3 (by omega)
end
end V
end Go.Proofs.YtcaccnneblghgaaGreat
namespace Go.Proofs.YtcaccnneblghgaaGreat
namespace V
attribute [local irreducible] aB bA aW dM eR gI dH
theorem aNV {ro:Ro}{h h':T Obj}{v w:Value} (hs:aZ h h') (hl:load1 ro h v=some w):gZ v h h':=by
 unfold load1 asP at hl
 cases v with
 | pointer a =>
  cases a with
  | none=>cases hl
  | some a =>
   simp only[Option.bind_some] at hl
   cases hc:cellsAt ro h a 1 with
   | none=>rw[hc] at hl; cases hl
   | some l=>exact aPB hs hc
 | _=>cases hl
section
variable {ro:Ro}{h:T Obj}{nx:Nat}{X:List Nat}{p:Nat}{ps:List (Nat × Nat)}{d:AutoD}{m:MacD}{K:KV}
set_option maxRecDepth 8000 in
theorem aJv (hm:MW ro h X p ps d m) (ha:fF d=true) (ho:MOk d m) (hf:Fr h nx) (hK:∀ nx',nx≤nx'→K (.int .i64 (nL d m)) h nx'):aO Tryz.prog ro oU [ptr p] h nx K:=by
 obtain⟨cv,sv,rv,gp,hA,hP,hR,hD,hpX,hbX⟩:=id hm
 obtain⟨hcl,hclt,hcv,hsv⟩:=hA.parts
 have hsv:=hsv.sub (cX h X) (eT.sub (cX h X))
 have m8:=tG (n:=d.many) (cv:=cv) (sv:=sv) (cur:=m.cur) (rv:=rv) (steps:=m.steps) hcl
 have m9:=tH (n:=d.many) (cv:=cv) (sv:=sv) (cur:=m.cur) (rv:=rv) (steps:=m.steps) hcl
 apply aAx
 unfold xG
 unfold nL at hK
 (have zz:=And.intro @aR (And.intro gp m9);repeat refine zzCz ?_)
 by_cases hc:m.cur=-1
 ·rw[if_pos hc] at hK
  refine aLP (by omega) ?_
  (repeat refine zzC ?_)
  exact⟨h,aZ.refl _,hK _ (by omega)⟩
 ·rw[if_neg hc] at hK
  have hsf:=aEW ha ho hc
  have hcur:0≤m.cur∧m.cur < d.states.length:=by rcases ho.1 with h | h<;>omega
  have hi:m.cur.toNat < d.states.length:=by omega
  have hs:d.states[m.cur.toNat]=eS d m:=by unfold eS; rw[List.getD_eq_getElem?_getD,List.getElem?_eq_getElem hi]; rfl
  have hsi:=hsv.ixI .i64 hcur.1 hcur.2
  obtain⟨x,⟨lv,rv',uv,nv,rfl,y1,y2,y3,y4,y5⟩,hx2,hx3,hx4,hx5⟩:=hsv.at hi
  have hl2:=hx5 2 uv rfl
  have hx42:=hx4 2
  rw[hs] at y3
  refine aLO (by omega) ?_
  (have zz:=And.intro @aR (And.intro gp (And.intro m8 m9));repeat refine zzCz ?_)
  refine aA hsi (aA hx42 (aA hl2 ?_))
  refine aEN hm (hf.mono (by omega)) ha ho hc fun n2 hn2=>?_
  refine⟨aNV (aZ.refl _) hl2,eL gp gp,eL gp gp,?_⟩
  have hkr:=hsf.kr
  refine aA (y3.ix _ hkr) (aA (y3.load hkr) ?_)
  refine⟨h,aZ.refl _,?_⟩
  rw[List.getD_eq_getElem?_getD,List.getElem?_eq_getElem hkr] at hK
  exact hK _ (by omega)
set_option maxRecDepth 8000 in
theorem aJx {B:Nat} (hm:MW ro h X p ps d m) (ho:MOk d m) (hC:d.counts.length≤512) (hB:WLe B m.rs) (hB2:B≤1000000) (hst:m.steps≤1000000000) (hK:∀ nx',nx≤nx'→K (.int .i64 (jY m:Nat)) h nx'):aO Tryz.prog ro oW [ptr p] h nx K:=by
 obtain⟨cv,sv,rv,gp,hA,hP,hR,hD,hpX,hbX⟩:=id hm
 obtain⟨hcl,hclt,hcv,hsv⟩:=hA.parts
 have m0:=lB (n:=d.many) (cv:=cv) (sv:=sv) (cur:=m.cur) (rv:=rv) (steps:=m.steps) hcl
 have m1:=aCV (n:=d.many) (cv:=cv) (sv:=sv) (cur:=m.cur) (rv:=rv) (steps:=m.steps) hcl
 have hPh:=hP.sub (cX h X)
 have hpl:=hPh.len
 rw[gN,hR.1] at hpl
 apply aAz
 unfold xI
 unfold jY at hK
 (have zz:=And.intro @aR (And.intro gp m1);repeat refine zzCz ?_)
 have hrl:=ho.2
 have hsl:(m.rs.map (·.2)).length=d.counts.length:=by rw[List.length_map]; exact hrl
 have hwb:∀ x∈m.rs.map (·.2),x≤1000000:=fun x hx=>by
  obtain⟨r,hr,rfl⟩:=List.mem_map.1 hx
  exact Nat.le_trans (hB r hr) hB2
 have hwat:∀ (i:Nat) (hi:i < m.rs.length),(m.rs.map (·.2))[i]?=some (m.rs[i]).2:=fun i hi=>by rw[List.getElem?_map,List.getElem?_eq_getElem hi]; rfl
 generalize m.rs.map (·.2)=ws at hK hsl hwb hwat
 refine bM (fun j e h' nx'=>∃ (k:Nat),k+j=d.counts.length∧nx≤nx'∧h'=h∧e 0=ptr p∧e 3=.int .i64 ((m.steps+(ws.take k).sum:Nat):Int)∧e 4=.int .i64 k) ?_ (n:=d.counts.length) ⟨0,by omega,by omega,rfl,rfl,rfl,rfl⟩
 rintro j e h' nx' ⟨k,hj,hnx,rfl,e0,e3,e4⟩ Q' hq hx
 unfold sY
 rw[e0,e3,e4]
 (have zz:=And.intro @aR (And.intro gp (And.intro m0 hpl));repeat refine zzCz ?_)
 refine dS (fun hk=>?_) (fun hk=>?_)
 ·have hk:k < d.counts.length:=by omega
  have hkr:k < m.rs.length:=by omega
  obtain⟨q,hq',hri⟩:=hR.at (c:=(k:Int)) (by omega) (by omega)
  rw[Int.toNat_natCast] at hq'
  rw[aLu hkr] at hri
  have hws:=aMW (hwat k hkr)
  have h1:=aKL (l:=ws.take k) fun x hx=>hwb x (List.mem_of_mem_take hx)
  have h2:(ws.take k).length≤512:=by rw[List.length_take]; omega
  have h3:=Nat.mul_le_mul_left 1000000 h2
  have h4:=hB _ (List.getElem_mem hkr)
  have gq:=hri.1.1
  (have zz:=And.intro @aR (And.intro gp m0);repeat refine zzCz ?_)
  refine aA (hPh.ix _ (by rw[gN,hR.1]; exact hk)) (aA (hPh.load1 (p9 hq')) ?_)
  refine aA (aR _ _ _) (aA (a:=at_ q.1 1 0) rfl (aA (aV (l:=[.slice (some (V.own q.2 1)) ((iE d.counts (k:Int)).2.toNat+1) ((iE d.counts (k:Int)).2.toNat+1),.int .i64 (m.rs[k].2:Nat)]) gq rfl) ?_))
  have hadd:aQ .add (.int .i64 ((m.steps+(ws.take k).sum:Nat):Int)) (.int .i64 ((m.rs[k].2:Nat):Int))=some (.int .i64 ((m.steps+(ws.take (k+1)).sum:Nat):Int)):=by
   rw[cH,← Int.natCast_add,hws,dT (by omega) (by omega),Nat.add_assoc]
  refine aA hadd ?_
  (repeat refine zzC ?_)
  exact hq (j - 1) _ _ _ _ (by omega) ⟨k+1,by omega,by omega,rfl,e0,rfl,rfl⟩ (aZ.refl _)
 ·(repeat refine zzC ?_)
  refine hx _ _ _ _ (fun e=>by cases e) (eE (dG ?_))
  unfold nT
  rw[List.take_of_length_le (by omega)] at e3
  have f3:∀ (e':dL) n',e' 3=.int .i64 ((m.steps+ws.sum:Nat):Int)→nx≤n'→∃ h2,aZ h2 h'∧K (e' 3) h2 n':=fun e' n' h3 hn=>by
   rw[h3]
   exact⟨h',aZ.refl _,hK _ hn⟩
  exact f3 _ _ e3 (by omega)
set_option maxRecDepth 8000 in
theorem aII {B:Nat} (hm:MW ro h X p ps d m) (ho:MOk d m) (hC:d.counts.length≤512) (hf:Fr h nx) (hB:WLe B m.rs) (hB2:B+1≤1000000)
  (hK:∀ h' nx' X' ps',aDa ro h nx X p ps d (aBv m) h' nx' X' ps'→K (.tuple #[]) h' nx'):aO Tryz.prog ro nS [ptr p] h nx K:=by
 obtain⟨cv,sv,rv,hSW0,hA,hP⟩:=hm.sw hf
 obtain⟨hcl,hclt,hcv,hsv⟩:=hA.parts
 have gp:=hSW0.1
 have hlen0:=hSW0.2.2.2.1.1
 apply aA4
 unfold uZ
 (have zz:=@aR;repeat refine zzCz ?_)
 refine aA (bX (v:=.int .i64 0) gp (by rw[pJ hcl]; omega) rfl rfl) ?_
 rw[vO hcl]
 have hSW:=hSW0.cell (h':=h.upd p (some (.cells (dV d.c d.many cv sv 0 rv m.steps).toArray bN))) (T.get_upd_same _ _ _) (fun k hk=>T.get_upd_ne _ _ hk) (fun b hb=>by cases hb)
 generalize (h.upd p (some (.cells (dV d.c d.many cv sv 0 rv m.steps).toArray bN)))=h4 at hSW
 have m0:=lB (n:=d.many) (cv:=cv) (sv:=sv) (cur:=0) (rv:=rv) (steps:=m.steps) hcl
 have hrl:=ho.2
 have hfin:∀ h' n' ps',SW h X nx p (dV d.c d.many cv sv 0 rv m.steps) [] ps d.counts h' n' (m.rs.map kA) ps'→K (.tuple #[]) h' n':=fun h' n' ps' hi' =>
  hK h' n' _ ps' (SW.left (m':=aBv m) hA hP (Nat.le_refl _) hi')
 refine bM (fun j e h' nx'=>∃ (k:Nat) (ps':List (Nat × Nat)),k+j=d.counts.length∧nx≤nx'∧e 0=ptr p∧e 2=.int .i64 k∧SW h X nx p (dV d.c d.many cv sv 0 rv m.steps) [] ps d.counts h' nx' ((m.rs.take k).map kA++m.rs.drop k) ps') ?_ (n:=d.counts.length) ⟨0,ps,by omega,by omega,rfl,rfl,hSW.mono (by omega)⟩
 rintro j e h' nx' ⟨k,ps',hj,hnx,e0,e2,hi⟩ Q' hq hx
 obtain⟨g1,g2,g3,g4,g5,g6,g7,g8,g9,g10,g11,g12⟩:=id hi
 have hP':=hP.sub g3
 rw[← g6] at hP'
 have hpl:=hP'.len
 rw[gN,g4.1] at hpl
 unfold sA
 rw[e0,e2]
 (have zz:=And.intro @aR (And.intro g1 (And.intro m0 hpl));repeat refine zzCz ?_)
 refine dS (fun hk=>?_) (fun hk=>?_)
 ·have hk:k < d.counts.length:=by omega
  have hkr:k < m.rs.length:=by omega
  obtain⟨q,hq',hri⟩:=g4.at (c:=(k:Int)) (by omega) (by omega)
  rw[Int.toNat_natCast] at hq'
  have hlen:((m.rs.take k).map kA).length=k:=by simp; omega
  have hg:kW ((m.rs.take k).map kA++m.rs.drop k) (k:Int)=m.rs[k]:=by
   unfold kW
   rw[Int.toNat_natCast,List.getD_eq_getElem?_getD,List.getElem?_append_right (by omega),hlen,Nat.sub_self,List.getElem?_drop,Nat.add_zero,List.getElem?_eq_getElem hkr]; rfl
  rw[hg] at hri
  have hset:∀ x,((m.rs.take k).map kA++m.rs.drop k).set k x=(m.rs.take k).map kA++[x]++m.rs.drop (k+1):=fun x=>by
   rw[List.set_append_right _ _ (by omega),hlen,Nat.sub_self,cU hkr,List.append_assoc]; rfl
  have htk:(m.rs.take (k+1)).map kA=(m.rs.take k).map kA++[kA m.rs[k]]:=by rw[List.take_succ_eq_append_getElem hkr,List.map_append]; rfl
  have hci:d.counts[k]?=some (iE d.counts (k:Int)):=by
   rw[← xY (by omega) (by omega)]
   simp only[Int.toNat_natCast]
   exact List.getElem?_eq_getElem _
  have hj1:∀ (e':dL) h2 n2 ps2,e' 0=ptr p→e' 2=.int .i64 k→nx'≤n2→SW h X nx p (dV d.c d.many cv sv 0 rv m.steps) [] ps d.counts h2 n2 ((m.rs.take (k+1)).map kA++m.rs.drop (k+1)) ps2→jS ro Q' e' h2 n2:=by
   intro e' h2 n2 ps2 f0 f2 hn hi2
   unfold jS
   rw[f2]
   (repeat refine zzC ?_)
   exact hq (j - 1) _ _ _ _ (by omega) ⟨k+1,ps2,by omega,by omega,f0,rfl,hi2.mono (by omega)⟩ (aZ.refl _)
  have hdk:m.rs.drop k=[m.rs[k]]++m.rs.drop (k+1):=cU hkr
  have hw:(m.rs[k]).2≤B:=hB _ (List.getElem_mem hkr)
  generalize m.rs[k]=r at hri htk hw hdk
  have hpi:=hP'.ix .i64 (i:=k) (by rw[gN,g4.1]; exact hk)
  have hp1:=hP'.load1 (p9 hq')
  (have zz:=And.intro @aR (And.intro g1 (And.intro m0 (And.intro hpi hp1)));repeat refine zzCz ?_)
  refine aJC hri (g9.mono (by omega)) fun l h2 n2 hn2 hs2 hf2 ho2=>?_
  have hln:=(ho2.sl (ro:=ro)).len
  rw[zV,List.length_reverse] at hln
  have hi2:=hi.sub (n':=n2) hs2 hf2 (by omega)
  refine aA hln ?_
  refine nH (fun hl=>?_) (fun hl=>?_)
  ·have hx1:kA r=aDM r:=if_neg (by omega)
   rw[hx1] at htk
   have g1':=hi2.1
   have hpi2:cQ 1 rv (.int .i64 (k:Int))=some (i3 1 rv k):=hpi
   have hp12:=nO hs2 hp1
   have hri2:WJ h2 q.1 q.2 (iE d.counts (k:Int)).2.toNat r.1 r.2:=⟨hri.1.sub hs2,hri.2⟩
   (have zz:=And.intro @aR (And.intro g1' (And.intro m0 (And.intro hpi2 hp12)));repeat refine zzCz ?_)
   refine aD8 hri2 (hf2.mono (by omega)) (by omega) fun a' h3 n3 ha3 hn3 hf3 hR3 hg3=>?_
   have:=(hi2.mono (n':=n2+10) (by omega)).ring (r:=aDM r) (n':=n3) hq' hci hri2 hR3 (.inr ha3) hg3 hf3 (by omega)
   rw[hset,← htk] at this
   exact hj1 _ _ _ _ e0 e2 (by omega) this
  ·have hx1:kA r=r:=if_pos (by omega)
   rw[hx1] at htk
   (repeat refine zzC ?_)
   refine hj1 _ _ _ ps' e0 e2 (by omega) ?_
   have e9:(m.rs.take (k+1)).map kA++m.rs.drop (k+1)=(m.rs.take k).map kA++m.rs.drop k:=by
    rw[htk,List.append_assoc,hdk]
   rw[e9]
   exact hi2.mono (by omega)
 ·(repeat refine zzC ?_)
  refine hx _ _ _ _ (fun e=>by cases e) (eE (dG ?_))
  rw[List.take_of_length_le (by omega),List.drop_eq_nil_of_le (by omega),List.append_nil] at hi
  exact⟨h',aZ.refl _,hfin _ _ _ (hi.mono (by omega))⟩
end
end V
end Go.Proofs.YtcaccnneblghgaaGreat
namespace Go.Proofs.YtcaccnneblghgaaGreat
namespace V
attribute [local irreducible] aB bA aW dM eR gI dH
theorem aRn {d:AutoD}{R:List Int}{m:MoveD} (h:jC d.states R m=true):decide (0≤m.to)=!decide (m.to=-1):=by
 rcases wW h with ⟨h1,_⟩ | ⟨h1,_⟩
 ·rw[decide_eq_true h1,decide_eq_false (show ¬ 0≤m.to by omega)]; rfl
 ·rw[decide_eq_true (by omega),decide_eq_false (by omega)]; rfl
section
variable {ro:Ro}{hs h h':T Obj}{X:List Nat}{n0 p sb mb nx:Nat}{lv rv' uv nv:Value}{ps0 ps:List (Nat × Nat)}{C:List (Int × Int)}{rs:List RgD}{K:KV}
variable {cc:List Nat}{many cur:Int}{cv sv rv:Value}{steps:Nat}{to:Int}{ov nxv:Value}{ops:List Nat}{R:List Int}
set_option maxRecDepth 8000 in
theorem aT4 {e:dL}{B:Nat} (hcl:cc.length=256) (e0:e 0=ptr p) (e6:e 6=ptr mb) (e7:e 7=nxv) (hi:SW hs X n0 p (dV cc many cv sv cur rv steps) [(sb,[lv,rv',uv,nv],bG),(mb,[.int .i64 to,ov],bR)] ps0 C h nx rs ps) (hP:Sl ro (del hs X) rv 1 (mJ ps0))
  (hR:ZI ro (del hs X) nxv R) (ho:iO ro (del hs X) ov 1 RU8 ops) (hl:ops.length=R.length) (hor:∀ o∈ops,1≤o∧o≤3) (hRl:∀ c∈R,0≤c∧c < C.length) (hR3:R.length≤3) (hB:WLe B rs) (hB2:B+8≤1000000)
  (fin:∀ h' n' ps',nx≤n'→SW hs X n0 p (dV cc many cv sv to rv steps) [(sb,[lv,rv',uv,nv],bG),(mb,[.int .i64 to,ov],bR)] ps0 C h' n' (vP C R ops rs) ps'→K (.bool (decide (0≤to))) h' n'):iK ro K e h nx:=by
 unfold iK
 have m0:=lB (n:=many) (cv:=cv) (sv:=sv) (cur:=cur) (rv:=rv) (steps:=steps) hcl
 generalize hF:vP C R ops rs=fin0 at fin
 refine bM (fun j e h' nx'=>∃ (k:Nat) (rs':List RgD) (ps':List (Nat × Nat)),k+j=R.length∧nx≤nx'∧e 0=ptr p∧e 6=ptr mb∧e 7=nxv∧e 9=.int .i64 k ∧
  SW hs X n0 p (dV cc many cv sv cur rv steps) [(sb,[lv,rv',uv,nv],bG),(mb,[.int .i64 to,ov],bR)] ps0 C h' nx' rs' ps'∧WLe (B+2*k) rs'∧vP C (R.drop k) (ops.drop k) rs'=fin0) ?_ (n:=R.length) ⟨0,rs,ps,by omega,by omega,e0,e6,e7,rfl,hi.mono (by omega),hB.mono (by omega),hF⟩
 rintro j e h' nx' ⟨k,rs',ps',hj,hnx,e0,e6,e7,e9,hi,hw,hF⟩ Q' hq hx
 obtain⟨g1,gL,g4,g5,g5b,g6,_,_,g9,_⟩:=id hi
 have g3:h'.get mb=some (.cells [Value.int .i64 to,ov].toArray bR):=(gL (mb,[.int .i64 to,ov],bR) (by simp)).1
 unfold sW
 rw[e0,e6,e7,e9]
 have hR':=hR.sub g4
 refine aA hR'.len ?_
 refine dS (fun hk=>?_) (fun hk=>?_)
 ·have hk:k < R.length:=by omega
  have hko:k < ops.length:=by omega
  rw[cU hk,cU hko] at hF
  have hcm:=hRl _ (List.getElem_mem hk)
  have hom:=hor _ (List.getElem_mem hko)
  have hP':=hP.sub g4
  rw[← g6] at hP'
  have hoD:=ho
  have ho':=ho.sub g4 fun _ _ h=>h
  have rix:=hR'.ix .i64 hk
  have rld:=hR'.load hk
  have oix:=ho'.ix .i64 hko
  obtain⟨w,⟨ow,olt⟩,o1⟩:=ho'.at1 hko
  obtain⟨wD,⟨owD,_⟩,oD⟩:=hoD.at1 hko
  simp only[List.cons.injEq,and_true] at ow owD
  subst ow owD
  generalize R[k]=c at hF hcm rld
  generalize ops[k]=o at hF hom o1 oD olt
  change vP C _ _ (rs'.set c.toNat (aEl (iE C c).2.toNat o (kW rs' c)))=fin0 at hF
  obtain⟨q,hq',hri⟩:=g5.at hcm.1 hcm.2
  have hpi:=hP'.ixI .i64 hcm.1 (by rw[gN,g5.1]; exact hcm.2)
  have hp1:=hP'.load1 (p9 hq')
  have hwc:=hw.at c
  have hci:C[c.toNat]?=some (iE C c):=by rw[← xY hcm.1 hcm.2]; exact List.getElem?_eq_getElem _
  have hwo:=aNM (iE C c).2.toNat o (kW rs' c)
  have hcr:c.toNat < rs'.length:=by have:=g5.2.1; omega
  have hcp:c.toNat < ps'.length:=by have:=g5.1; omega
  have hj4:∀ (e':dL) h2 n2 ps2,e' 0=ptr p→e' 6=ptr mb→e' 7=nxv→e' 9=.int .i64 k→nx'≤n2→SW hs X n0 p (dV cc many cv sv cur rv steps) [(sb,[lv,rv',uv,nv],bG),(mb,[.int .i64 to,ov],bR)] ps0 C h2 n2 (rs'.set c.toNat (aEl (iE C c).2.toNat o (kW rs' c))) ps2→kM ro Q' e' h2 n2:=by
   intro e' h2 n2 ps2 f0 f6 f7 f9 hn hi2
   unfold kM
   rw[f9]
   (repeat refine zzC ?_)
   exact hq (j - 1) _ _ _ _ (by omega) ⟨k+1,_,ps2,by omega,by omega,f0,f6,f7,rfl,hi2.mono (by omega),(hw.mono (by omega)).set (by omega),hF⟩ (aZ.refl _)
  have hj5:∀ (e':dL) h2 n2 a' (r1:RgD),e' 0=ptr p→e' 6=ptr mb→e' 7=nxv→e' 9=.int .i64 k→e' 10=ptr q.1→nx'≤n2→SW hs X n0 p (dV cc many cv sv cur rv steps) [(sb,[lv,rv',uv,nv],bG),(mb,[.int .i64 to,ov],bR)] ps0 C h2 n2 (rs'.set c.toNat r1) (ps'.set c.toNat (q.1,a'))→WJ h2 q.1 a' (iE C c).2.toNat r1.1 r1.2→r1.2≤(kW rs' c).2+1→(if o=1 then r1 else aQh r1)=aEl (iE C c).2.toNat o (kW rs' c)→kN ro Q' e' h2 n2:=by
   intro e' h2 n2 a' r1 f0 f6 f7 f9 f10 hn hi2 hR2 hw2 hop
   obtain⟨k1,kL,k4,k5,k5b,k6,_,_,k9,_⟩:=id hi2
   have k3:h2.get mb=some (.cells [Value.int .i64 to,ov].toArray bR):=(kL (mb,[.int .i64 to,ov],bR) (by simp)).1
   have oix2:cQ 1 ov (.int .i64 (k:Int))=some (i3 1 ov k):=oix
   have o2:=nO k4 oD
   unfold kN
   rw[f6,f9,f10]
   (have zz:=And.intro k3 (And.intro oix2 o2);repeat refine zzCz ?_)
   by_cases ho1:o=1
   ·rw[if_pos ho1] at hop
    refine zX (by omega) ?_
    (repeat refine zzC ?_)
    rw[hop] at hi2
    exact hj4 _ _ _ _ f0 f6 f7 f9 (by omega) (hi2.mono (by omega))
   ·rw[if_neg ho1] at hop
    refine aBa (by omega) ?_
    (repeat refine zzC ?_)
    refine aRF hR2 (k9.mono (by omega)) (by omega) fun h3 n3 hn3 hf3 hR3 hg3=>?_
    have hq2:(ps'.set c.toNat (q.1,a'))[c.toNat]?=some (q.1,a'):=List.getElem?_set_self hcp
    have:=(hi2.mono (n':=n2+8) (by omega)).ring (r:=aQh r1) (n':=n3) (a':=a') hq2 hci hR2 hR3 (.inl rfl) hg3 hf3 (by omega)
    rw[List.set_set,hop] at this
    exact hj4 _ _ _ _ f0 f6 f7 f9 (by omega) this
  (have zz:=And.intro @aR (And.intro g1 (And.intro m0 (And.intro rix (And.intro rld (And.intro hpi (And.intro hp1 (And.intro g3 (And.intro oix o1))))))));repeat refine zzCz ?_)
  unfold aEl at hj5
  by_cases h3:o=3
  ·simp only[if_neg (show ¬ o=1 by omega),if_pos h3] at hj5
   refine aI5 (by omega) ?_
   (repeat refine zzC ?_)
   refine aD8 hri (g9.mono (by omega)) (by omega) fun a' h2 n2 ha2 hn2 hf2 hR2 hg2=>?_
   exact hj5 _ _ _ a' (aDM (kW rs' c)) e0 e6 e7 e9 rfl (by omega) ((hi.mono (n':=nx'+23) (by omega)).ring (r:=aDM (kW rs' c)) hq' hci hri hR2 (.inr ha2) hg2 hf2 (by omega)) hR2 (Nat.le_refl _) rfl
  ·refine aI3 (by omega) ?_
   (repeat refine zzC ?_)
   refine aRE hri (g9.mono (by omega)) (by omega) fun a' h2 n2 ha2 hn2 hf2 hR2 hg2=>?_
   refine hj5 _ _ _ a' (aQB (iE C c).2.toNat (kW rs' c)) e0 e6 e7 e9 rfl (by omega) ((hi.mono (n':=nx'+23) (by omega)).ring (r:=aQB (iE C c).2.toNat (kW rs' c)) hq' hci hri hR2 (.inr ha2) hg2 hf2 (by omega)) hR2 (Nat.le_refl _) ?_
   by_cases h1:o=1
   ·rw[if_pos h1,if_neg h3,if_neg (by omega)]
   ·rw[if_neg h1,if_neg h3,if_pos (by omega)]
 ·(repeat refine zzC ?_)
  refine hx _ _ _ _ (fun e=>by cases e) (eE (dG ?_))
  rw[gG (by omega)] at hF
  have hF:rs'=fin0:=hF
  subst hF
  have hj3:∀ (e':dL) n',e' 0=ptr p→e' 6=ptr mb→nx'≤n'→kK ro K e' h' n':=by
   intro e' n' f0 f6 hn
   unfold kK
   rw[f0,f6]
   (repeat refine zzC ?_)
   refine aA (aV g3 rfl) ?_
   (have zz:=@aR;repeat refine zzCz ?_)
   refine aA (bX (v:=.int .i64 to) g1 (by rw[pJ hcl]; omega) rfl rfl) ?_
   rw[vO hcl]
   have hi3:=hi.cell (h':=h'.upd p (some (.cells (dV cc many cv sv to rv steps).toArray bN))) (T.get_upd_same _ _ _) (fun k hk=>T.get_upd_ne _ _ hk) (fun b hb=>by
    simp only[List.mem_cons,List.mem_nil_iff,or_false] at hb
    rcases hb with rfl | rfl
    ·show bG≠bN; decide
    ·show bR≠bN; decide)
   generalize (h'.upd p (some (.cells (dV cc many cv sv to rv steps).toArray bN)))=h8 at hi3
   (have zz:=@aR;repeat refine zzCz ?_)
   refine aA (aV hi3.1 (tH hcl)) ?_
   refine aA (bH _ _ _) ?_
   exact⟨h8,aZ.refl _,fin _ _ ps' (by omega) (hi3.mono (by omega))⟩
  exact hj3 _ _ e0 e6 (by omega)
set_option maxRecDepth 8000 in
theorem aT3 {e:dL}{B:Nat}{S:List Int} (hcl:cc.length=256) (e0:e 0=ptr p) (e5:e 5=ptr sb) (e6:e 6=ptr mb) (e7:e 7=nxv) (hi:SW hs X n0 p (dV cc many cv sv cur rv steps) [(sb,[lv,rv',uv,nv],bG),(mb,[.int .i64 to,ov],bR)] ps0 C h nx rs ps) (hP:Sl ro (del hs X) rv 1 (mJ ps0))
  (hS:ZI ro (del hs X) rv' S) (hSl:∀ c∈S,0≤c∧c < C.length) (hS3:S.length≤3)
  (hR:ZI ro (del hs X) nxv R) (ho:iO ro (del hs X) ov 1 RU8 ops) (hl:ops.length=R.length) (hor:∀ o∈ops,1≤o∧o≤3) (hRl:∀ c∈R,0≤c∧c < C.length) (hR3:R.length≤3) (hB:WLe B rs) (hB2:B+20≤1000000)
  (fin:∀ h' n' ps',nx≤n'→SW hs X n0 p (dV cc many cv sv to rv steps) [(sb,[lv,rv',uv,nv],bG),(mb,[.int .i64 to,ov],bR)] ps0 C h' n' (vP C R ops (rJ R S rs)) ps'→K (.bool (decide (0≤to))) h' n'):iJ ro K e h nx:=by
 unfold iJ
 have m0:=lB (n:=many) (cv:=cv) (sv:=sv) (cur:=cur) (rv:=rv) (steps:=steps) hcl
 generalize hF:rJ R S rs=fin0 at fin
 refine bM (fun j e h' nx'=>∃ (k:Nat) (rs':List RgD) (ps':List (Nat × Nat)),k+j=S.length∧nx≤nx'∧e 0=ptr p∧e 5=ptr sb∧e 6=ptr mb∧e 7=nxv∧e 8=.int .i64 k ∧
  SW hs X n0 p (dV cc many cv sv cur rv steps) [(sb,[lv,rv',uv,nv],bG),(mb,[.int .i64 to,ov],bR)] ps0 C h' nx' rs' ps'∧WLe (B+2*k) rs'∧rJ R (S.drop k) rs'=fin0) ?_ (n:=S.length) ⟨0,rs,ps,by omega,by omega,e0,e5,e6,e7,rfl,hi.mono (by omega),hB.mono (by omega),hF⟩
 rintro j e h' nx' ⟨k,rs',ps',hj,hnx,e0,e5,e6,e7,e8,hi,hw,hF⟩ Q' hq hx
 obtain⟨g1,gL,g4,g5,g5b,g6,_,_,g9,_⟩:=id hi
 have g2:h'.get sb=some (.cells [lv,rv',uv,nv].toArray bG):=(gL (sb,[lv,rv',uv,nv],bG) (by simp)).1
 have hS':=hS.sub g4
 have hR':=hR.sub g4
 have hsl:=hS'.len
 unfold sX
 rw[e0,e5,e7,e8]
 (have zz:=And.intro g2 hsl;repeat refine zzCz ?_)
 refine dS (fun hk=>?_) (fun hk=>?_)
 ·have hk:k < S.length:=by omega
  rw[cU hk] at hF
  have hcm:=hSl _ (List.getElem_mem hk)
  have hP':=hP.sub g4
  rw[← g6] at hP'
  have six:=hS'.ix .i64 hk
  have sld:=hS'.load hk
  generalize S[k]=c at hF hcm sld
  change rJ R _ (if R.contains c then rs' else rs'.set c.toNat (aDM (kW rs' c)))=fin0 at hF
  obtain⟨q,hq',hri⟩:=g5.at hcm.1 hcm.2
  have hpi:=hP'.ixI .i64 hcm.1 (by rw[gN,g5.1]; exact hcm.2)
  have hp1:=hP'.load1 (p9 hq')
  have hwc:=hw.at c
  have hci:C[c.toNat]?=some (iE C c):=by rw[← xY hcm.1 hcm.2]; exact List.getElem?_eq_getElem _
  have hj6:∀ (e':dL) h2 n2 rs2 ps2,e' 0=ptr p→e' 5=ptr sb→e' 6=ptr mb→e' 7=nxv→e' 8=.int .i64 k→nx≤n2→SW hs X n0 p (dV cc many cv sv cur rv steps) [(sb,[lv,rv',uv,nv],bG),(mb,[.int .i64 to,ov],bR)] ps0 C h2 n2 rs2 ps2→WLe (B+2*(k+1)) rs2→rJ R (S.drop (k+1)) rs2=fin0→kO ro Q' e' h2 n2:=by
   intro e' h2 n2 rs2 ps2 f0 f5 f6 f7 f8 hn hi2 hw2 hF2
   unfold kO
   rw[f8]
   (repeat refine zzC ?_)
   exact hq (j - 1) _ _ _ _ (by omega) ⟨k+1,rs2,ps2,by omega,by omega,f0,f5,f6,f7,rfl,hi2.mono (by omega),hw2,hF2⟩ (aZ.refl _)
  (have zz:=And.intro g2 (And.intro six sld);repeat refine zzCz ?_)
  refine aNJ (by omega) hR' fun n2 hn2=>?_
  cases hcn:R.contains c with
  | true =>
   rw[hcn,if_pos rfl] at hF
   (repeat refine zzC ?_)
   exact hj6 _ _ _ rs' ps' e0 e5 e6 e7 e8 (by omega) (hi.mono (by omega)) (hw.mono (by omega)) hF
  | false =>
   rw[hcn,if_neg (by decide)] at hF
   (have zz:=And.intro @aR (And.intro g1 (And.intro m0 (And.intro g2 (And.intro six (And.intro sld (And.intro hpi hp1))))));repeat refine zzCz ?_)
   refine aD8 hri (g9.mono (by omega)) (by omega) fun a' h2 n3 ha2 hn3 hf2 hR2 hg2=>?_
   exact hj6 _ _ _ _ _ e0 e5 e6 e7 e8 (by omega) ((hi.mono (n':=n2+13) (by omega)).ring (r:=aDM (kW rs' c)) hq' hci hri hR2 (.inr ha2) hg2 hf2 (by omega)) ((hw.mono (by omega)).set (by show (kW rs' c).2+1≤_; omega)) hF
 ·(repeat refine zzC ?_)
  refine hx _ _ _ _ (fun e=>by cases e) (eE (dG ?_))
  rw[gG (by omega)] at hF
  have hF:rs'=fin0:=hF
  subst hF
  have hj2:∀ (e':dL) n',e' 0=ptr p→e' 6=ptr mb→e' 7=nxv→nx'≤n'→iK ro K e' h' n':=fun e' n' f0 f6 f7 hn =>
   aT4 hcl f0 f6 f7 (hi.mono hn) hP hR ho hl hor hRl hR3 hw (by omega) fun h2 n2 ps2 hn2 hi2=>fin h2 n2 ps2 (by omega) hi2
  exact hj2 _ _ e0 e6 e7 (by omega)
end
section
variable {ro:Ro}{h:T Obj}{nx:Nat}{X:List Nat}{p:Nat}{ps:List (Nat × Nat)}{d:AutoD}{m:MacD}{K:KV}
theorem SW.lo {hs h h':T Obj}{X:List Nat}{n0 p nx n':Nat}{pc:List Value}{L L':List (Nat × List Value × TypeId)}{ps0 ps:List (Nat × Nat)}{C:List (Int × Int)}{rs:List RgD} (hi:SW hs X n0 p pc L ps0 C h nx rs ps) (hs':aZ h h') (hf:Fr h' n') (hn:nx≤n') (hL:Lo h' L'):SW hs X n0 p pc L' ps0 C h' n' rs ps:=by
 obtain⟨g1,g2,g3⟩:=hi.sub hs' hf hn
 exact⟨g1,hL,g3⟩
set_option maxRecDepth 8000 in
set_option maxHeartbeats 1000000 in
theorem aJw {b B:Nat} (hm:MW ro h X p ps d m) (ha:fF d=true) (ho:MOk d m) (hb:b < 256) (hf:Fr h nx) (hB:WLe B m.rs) (hB2:B+20≤1000000) (hst:m.steps≤1000000000)
  (hK:∀ h' nx' X' ps',aDa ro h nx X p ps d (jX d m b) h' nx' X' ps'→K (.bool (onM d m b)) h' nx'):aO Tryz.prog ro oV [ptr p,.int .u8 (b:Int)] h nx K:=by
 apply aAy
 unfold xH
 unfold onM jX at hK
 obtain⟨cv,sv,rv,hSW0,hA,hP⟩:=hm.sw hf
 obtain⟨hcl,hclt,hcv,hsv⟩:=hA.parts
 have gp:=hSW0.1
 have m8:=tG (n:=d.many) (cv:=cv) (sv:=sv) (cur:=m.cur) (rv:=rv) (steps:=m.steps) hcl
 have m9:=tH (n:=d.many) (cv:=cv) (sv:=sv) (cur:=m.cur) (rv:=rv) (steps:=m.steps) hcl
 have m1:=aCV (n:=d.many) (cv:=cv) (sv:=sv) (cur:=m.cur) (rv:=rv) (steps:=m.steps) hcl
 have mb:=aNv (n:=d.many) (cv:=cv) (sv:=sv) (cur:=m.cur) (rv:=rv) (steps:=m.steps) hcl hb
 (have zz:=And.intro @aR (And.intro gp m9);repeat refine zzCz ?_)
 by_cases hc:m.cur=-1
 ·rw[if_pos hc,decide_eq_true hc] at hK
  refine aLP (by omega) ?_
  (repeat refine zzC ?_)
  exact⟨h,aZ.refl _,hK _ _ X ps (aDa.refl hm hf (by omega))⟩
 ·rw[if_neg hc,decide_eq_false hc] at hK
  have hsf:=aEW ha ho hc
  have hmv:=aFx ha ho hc hcl hb
  have hops:=aFy (S:=[]) ha hmv.2
  have hmp:=wW hmv.2
  have hon:=aRn hmv.2
  have hsvD:=hsv
  have hsv:=hsv.sub (cX h X) (eT.sub (cX h X))
  have hcur:0≤m.cur∧m.cur < d.states.length:=by rcases ho.1 with h | h<;>omega
  have hi:m.cur.toNat < d.states.length:=by omega
  have hs:d.states[m.cur.toNat]=eS d m:=by unfold eS; rw[List.getD_eq_getElem?_getD,List.getElem?_eq_getElem hi]; rfl
  have hsi:=hsv.ixI .i64 hcur.1 hcur.2
  obtain⟨x,⟨lv,rv',uv,nv,rfl,y1,y2,y3,y4,y5⟩,hx2,hx3,hx4,hx5⟩:=hsv.at hi
  obtain⟨xD,⟨lvD,rvD,uvD,nvD,rfl,z1,z2,z3,z4,z5⟩,w2,w3,w4,w5⟩:=hsvD.at hi
  have hsame:[lv,rv',uv,nv]=[lvD,rvD,uvD,nvD]:=by
   have:=vZ (cX h X) w3
   rw[hx3] at this
   simpa using this
  simp only[List.cons.injEq,and_true] at hsame
  obtain⟨rfl,rfl,rfl,rfl⟩:=hsame
  rw[hs] at y1 y2 y3 y4 y5 z2 z4
  refine aLO (by omega) ?_
  (have zz:=And.intro @aR (And.intro gp (And.intro m8 (And.intro m9 (And.intro hsi hx3))));repeat refine zzCz ?_)
  refine jB (x:=[lv,rv',uv,nv]) tN rfl rfl rfl (by simp[y1.ok,y2.ok,y3.ok,iO.okC y4]) hf (by omega) fun h2 hs2 hf2 g2 _=>?_
  (have zz:=g2;repeat refine zzCz ?_)
  have hm2:=hm.subX rH hs2
  have gp2:=hs2 _ _ gp
  refine aEN hm2 (hf2.mono (by omega)) ha ho hc fun n3 hn3=>?_
  have hkn:=hsf.kn
  have z4':=z4.sub ((cX h X).trans hs2) (vC.sub ((cX h X).trans hs2))
  have nix:=z4'.ix .i64 hkn
  obtain⟨w,⟨w',hw1,hw2,hw3⟩,hw4⟩:=z4'.at1 hkn
  simp only[List.cons.injEq,and_true] at hw1
  subst hw1
  have hrow:(eS d m).next[gP d.counts m.rs (eS d m).r]=(eS d m).next.getD (gP d.counts m.rs (eS d m).r) []:=by rw[List.getD_eq_getElem?_getD,List.getElem?_eq_getElem hkn]; rfl
  rw[hrow] at hw2 hw3
  have hrowD:iO ro (del h X) w 2 (aAg ro (del h X)) ((eS d m).next.getD (gP d.counts m.rs (eS d m).r) []):=by
   obtain⟨u,⟨u',hu1,hu2,hu3⟩,hu4⟩:=z4.at1 hkn
   simp only[List.cons.injEq,and_true] at hu1
   subst hu1
   have:=nO ((cX h X).trans hs2) hu4
   rw[hw4] at this
   cases this
   rw[hrow] at hu2
   exact hu2
  generalize hcb:d.c.getD b 0=cb at mb hmv
  have hci:cb < ((eS d m).next.getD (gP d.counts m.rs (eS d m).r) []).length:=hmv.1
  have hmvd:qZ d m b=((eS d m).next.getD (gP d.counts m.rs (eS d m).r) [])[cb]:=by
   unfold qZ
   rw[hcb,List.getD_eq_getElem?_getD (a:=aRl),List.getElem?_eq_getElem hci]; rfl
  refine⟨eL g2 g2,?_⟩
  have rix:=hw2.ix .u8 hci
  obtain⟨x,⟨ov,rfl,hov,hol⟩,v2,v3,v4,v5⟩:=hw2.at hci
  obtain⟨xD,⟨ovD,rfl,hovD,holD⟩,u2,u3,u4,u5⟩:=hrowD.at hci
  have hsame2:[Value.int .i64 ((eS d m).next.getD (gP d.counts m.rs (eS d m).r) [])[cb].to,ov]=[Value.int .i64 ((eS d m).next.getD (gP d.counts m.rs (eS d m).r) [])[cb].to,ovD]:=by
   have:=vZ ((cX h X).trans hs2) u3
   rw[v3] at this
   simpa using this
  simp only[List.cons.injEq,and_true,true_and] at hsame2
  subst hsame2
  rw[← hmvd] at v3 hovD hov
  refine aA nix (aA hw4 ?_)
  (have zz:=And.intro @aR (And.intro gp2 mb);repeat refine zzCz ?_)
  refine⟨eL gp2 gp2,?_⟩
  refine aA rix (aA v3 ?_)
  generalize hMV:qZ d m b=mv at hK hops hmp hovD hov hon
  refine jB (x:=[.int .i64 mv.to,ov]) aE0 rfl rfl rfl (by simp[show eA ov=true from iO.okC hov,show eA (Value.int .i64 mv.to)=true from rfl]) hf2 (by omega) fun h3 hs3 hf3 g3 _=>?_
  have gp3:=hs3 _ _ gp2
  have g23:=hs3 _ _ g2
  have hSW3:SW h X nx p (dV d.c d.many cv sv m.cur rv m.steps) [(nx+17,[lv,rv',uv,nv],bG),(nx+35,[.int .i64 mv.to,ov],bR)] ps d.counts h3 (nx+36) m.rs ps:=hSW0.lo (hs2.trans hs3) hf3 (by omega) fun b hb=>by
   simp only[List.mem_cons,List.mem_nil_iff,or_false] at hb
   rcases hb with rfl | rfl
   ·exact⟨g23,by show bG≠cG; decide,by show bG≠jK; decide⟩
   ·exact⟨g3,by show bR≠cG; decide,by show bR≠jK; decide⟩
  (have zz:=@aR;repeat refine zzCz ?_)
  refine aA (aV gp3 m1) ?_
  (repeat refine zzC ?_)
  refine aA (aV (l:=[lv,rv',uv,nv]) g23 rfl) ?_
  refine aA y2.len ?_
  have hr3:=hsf.r3
  (have zz:=@aR;repeat refine zzCz ?_)
  have esteps:(m.steps:Int)+1+((eS d m).r.length:Int)=((m.steps+1+(eS d m).r.length:Nat):Int):=by omega
  rw[esteps]
  refine aA (bX (v:=.int .i64 ((m.steps+1+(eS d m).r.length:Nat):Int)) gp3 (by rw[pJ hcl]; omega) rfl rfl) ?_
  rw[aDz hcl]
  have hSW4:=hSW3.cell (h':=h3.upd p (some (.cells (dV d.c d.many cv sv m.cur rv (m.steps+1+(eS d m).r.length)).toArray bN))) (T.get_upd_same _ _ _) (fun k hk=>T.get_upd_ne _ _ hk) (fun b hb=>by
   simp only[List.mem_cons,List.mem_nil_iff,or_false] at hb
   rcases hb with rfl | rfl
   ·show bG≠bN; decide
   ·show bR≠bN; decide)
  generalize (h3.upd p (some (.cells (dV d.c d.many cv sv m.cur rv (m.steps+1+(eS d m).r.length)).toArray bN)))=h5 at hSW4
  have gp5:=hSW4.1
  have g35:h5.get (nx+35)=some (.cells [Value.int .i64 mv.to,ov].toArray bR):=(hSW4.2.1 (nx+35,[.int .i64 mv.to,ov],bR) (by simp)).1
  have hD5:=hSW4.2.2.1
  have hfin:∀ h' n' ps',nx≤n'→SW h X nx p (dV d.c d.many cv sv mv.to rv (m.steps+1+(eS d m).r.length)) [(nx+17,[lv,rv',uv,nv],bG),(nx+35,[.int .i64 mv.to,ov],bR)] ps d.counts h' n' (vP d.counts (oB d mv.to) mv.ops (rJ (oB d mv.to) (eS d m).r m.rs)) ps'→K (.bool (decide (0≤mv.to))) h' n':=by
   intro h' n' ps' hn' hi'
   have:=hK h' n' _ ps' (SW.left (m':=⟨mv.to,vP d.counts (oB d mv.to) mv.ops (rJ (oB d mv.to) (eS d m).r m.rs),m.steps+1+(eS d m).r.length⟩) hA hP (Nat.le_refl _) hi')
   rw[hon]
   simpa using this
  have hj1:∀ (e':dL) n' nxv,e' 0=ptr p→e' 5=ptr (nx+17)→e' 6=ptr (nx+35)→e' 7=nxv→ZI ro (del h X) nxv (oB d mv.to)→nx+36≤n'→iJ ro K e' h5 n':=fun e' n' nxv f0 f5 f6 f7 hz hn' =>
   aT3 hcl f0 f5 f6 f7 (hSW4.mono hn') hP z2 hsf.rl hsf.r3 hz hovD hops.1 hops.2.1 hops.2.2.1 hops.2.2.2 hB hB2 fun h' n'' ps'' hn'' hi'=>hfin h' n'' ps'' (by omega) hi'
  have m85:=tG (n:=d.many) (cv:=cv) (sv:=sv) (cur:=m.cur) (rv:=rv) (steps:=m.steps+1+(eS d m).r.length) hcl
  (repeat refine zzC ?_)
  refine aA (aV (l:=[.int .i64 mv.to,ov]) g35 rfl) ?_
  by_cases hto:mv.to=-1
  ·refine aGd (by omega) ?_
   (repeat refine zzC ?_)
   refine hj1 _ _ (.slice none 0 0) rfl rfl rfl rfl ?_ (by omega)
   unfold oB
   rw[if_pos hto]
   exact Sl.nil
  ·have htr:1≤mv.to∧mv.to < d.states.length:=by rcases hmp with h | h<;>omega
   refine aGe (by omega) ?_
   have hti:mv.to.toNat < d.states.length:=by omega
   have hsv5:=hsvD.sub hD5 (eT.sub hD5)
   have tix:=hsv5.ixI .i64 (show 0≤mv.to by omega) htr.2
   obtain⟨x,⟨lv2,rv2,uv2,nv2,rfl,a1,a2,a3,a4,a5⟩,b2,b3,b4,b5⟩:=hsvD.at hti
   have hl5:=nO hD5 (b5 1 rv2 rfl)
   have b4':=b4 1
   (have zz:=@aR;repeat refine zzCz ?_)
   refine aA (aV gp5 m85) ?_
   (repeat refine zzC ?_)
   refine aA (aV (l:=[.int .i64 mv.to,ov]) g35 rfl) ?_
   refine aA tix (aA b4' (aA hl5 ?_))
   refine hj1 _ _ rv2 rfl rfl rfl rfl ?_ (by omega)
   unfold oB
   rw[if_neg hto,List.getD_eq_getElem?_getD,List.getElem?_eq_getElem hti]
   exact a2
end
end V
end Go.Proofs.YtcaccnneblghgaaGreat
namespace Go.Proofs.YtcaccnneblghgaaGreat
namespace V
attribute [local irreducible] aB bA aW dM eR gI dH
theorem aSD {ro:Ro}{h:T Obj}{v:Value}{z:Nat}{l:List (List Value)} (hl:Sl ro h v z l):(v=.slice none 0 0∧l=[]∧slB .eql v (.slice none 0 0)=some (.bool true))∨slB .eql v (.slice none 0 0)=some (.bool false):=by
 rcases hl with ⟨rfl,rfl⟩ | ⟨a,cap,rfl,_⟩
 ·exact .inl ⟨rfl,rfl,rfl⟩
 ·exact .inr rfl
theorem wH {ro:Ro}{h:T Obj}{v:Value}{z nx:Nat}{t e:TypeId}{i:TypeInfo}{zv:Value}{m:List (List Value)}{K:KV} (hx:Sl ro h v z m) (hlit:∀ id,b7 Tryz.prog t id 0 []=some (.slice (some (own id z)) 0 0,some (.cells #[] e))) (hu:iM Tryz.prog t=some (.slice e)) (hi':tin Tryz.prog e=some i) (hz:i.size=z) (hz0:0 < z) (hzer:nF Tryz.prog e=some zv) (hzs:zv.cells.size=z)
  (hok:m.flatten.all eA=true) (hb:m.length*i.bytes≤oG) (hb2:m.length≤oG) (hf:Fr h nx)
  (hK:∀ r h' n',nx≤n'→Fr h' n'→aZ h h'→eD h' r z e m nx→K r h' n') :
  aB (slB .eql v (.slice none 0 0)) fun t4=>aW t4 (∃ h2,aZ h2 h∧K (.slice none 0 0) h2 (nx+4)) (aB (b7 Tryz.prog t (nx+3) 0 []) fun r3=>eR h (nx+3) r3.2 fun h4=>aB (cZ Tryz.prog ro h4 (nx+6) #[t,t] [r3.1,v]) fun r5=>∃ h6,aZ h6 r5.2.1∧K r5.1 h6 (r5.2.2+1)):=by
 rcases aSD hx with ⟨rfl,rfl,h1⟩ | h1
 ·refine aA h1 (aH ⟨h,aZ.refl _,hK _ _ _ (by omega) (hf.mono (by omega)) (aZ.refl _) eD.nil⟩)
 ·refine aA h1 (aG (aA (hlit _) (aF ?_)))
  have hs1:aZ h (h.upd (nx+3) (some (.cells #[] e))):=(aZ.refl h).new hf (by omega)
  have hf1:Fr (h.upd (nx+3) (some (.cells #[] e))) (nx+6):=(hf.mono (by omega)).upd (Nat.le_refl _) (by omega)
  have ho:eD (h.upd (nx+3) (some (.cells #[] e))) (.slice (some (own (nx+3) z)) 0 0) z e [] nx:=.inr ⟨nx+3,by omega,rfl,(fun x hx=>by cases hx),by rw[T.get_upd_same]; rfl⟩
  obtain⟨r,h',n',q1,q2,q3,q4,q5,q6⟩:=aGF (P:=Tryz.prog) (t:=t) (nx:=nx+6) ho (hx.sub hs1) hu hi' hz hz0 hzer hzs hok (by simpa using hb) (by simpa using hb2) (by omega) hf1
  refine aA q1 ⟨h',aZ.refl _,hK r h' (n'+1) (by omega) (q5.mono (by omega)) (fun k o hk=>q3 k o (hs1 k o hk) fun e=>?_) (by simpa using q2)⟩
  have hkk:nx+3=k:=Option.some.inj e
  have:=hf.lt' hk
  omega
theorem aQP (id:Nat):b7 Tryz.prog fY id 0 []=some (.slice (some (own id 1)) 0 0,some (.cells #[] dY)):=by kernel_rfl
theorem aRa (id:Nat):b7 Tryz.prog pE id 0 []=some (.slice (some (own id 2)) 0 0,some (.cells #[] iN)):=by kernel_rfl
theorem aOj (id:Nat):b7 Tryz.prog fN id 0 []=some (.slice (some (own id 2)) 0 0,some (.cells #[] bR)):=by kernel_rfl
theorem aJ9 (id:Nat):b7 Tryz.prog bO id 0 []=some (.slice (some (own id 1)) 0 0,some (.cells #[] cI)):=by kernel_rfl
theorem aSO:iM Tryz.prog pE=some (.slice iN):=by kernel_rfl
theorem aTW:∃ i,tin Tryz.prog iN=some i∧i.size=2∧i.bytes=16:=yP (by kernel_rfl)
theorem aSS:iM Tryz.prog bO=some (.slice cI):=by kernel_rfl
theorem aSL:∃ i,tin Tryz.prog cI=some i∧i.size=1∧i.bytes=1:=yP (by kernel_rfl)
theorem aSZ:nF Tryz.prog cI=some (.int .u8 0):=by kernel_rfl
section
variable {ro:Ro}{h:T Obj}{v:Value}{nx:Nat}{K:KV}
theorem xX {l:List Int} (hv:ZI ro h v l) (hl:l.length≤1000000) (hf:Fr h nx) (hK:∀ r h' n',nx≤n'→Fr h' n'→aZ h h'→eD h' r 1 dY (lL l) nx→K r h' n'):aO Tryz.prog ro gD [v] h nx K:=by
 apply aAB
 unfold uL
 obtain⟨i,g1,g2,g3⟩:=aQv
 exact wH hv aQP aRA g1 (by omega) (by omega) aUe rfl (by simp[lL,eA]) (by rw[fB,g3]; unfold oG; omega) (by rw[fB]; unfold oG; omega) hf hK
theorem aMc {l:List Nat} (hv:iO ro h v 1 RU8 l) (hl:l.length≤1000000) (hf:Fr h nx) (hK:∀ r h' n',nx≤n'→Fr h' n'→aZ h h'→eD h' r 1 cI (aJi l) nx→K r h' n'):aO Tryz.prog ro j9 [v] h nx K:=by
 apply vV
 unfold qC
 obtain⟨i,g1,g2,g3⟩:=aSL
 obtain⟨cs,h1,h2,h3⟩:=hv
 have hcs:cs=aJi l:=by
  apply List.ext_getElem?
  intro k
  rcases Nat.lt_or_ge k l.length with hk | hk
  ·have e1:cs[k]?=some (cs[k]'(by omega)):=List.getElem?_eq_getElem _
   have e2:l[k]?=some l[k]:=List.getElem?_eq_getElem _
   have:=(h3 k _ _ e1 e2).1
   rw[e1,this]; simp[aJi,hk]
  ·rw[List.getElem?_eq_none (by omega),List.getElem?_eq_none (by rw[aEE]; omega)]
 subst hcs
 exact wH h1 aJ9 aSS g1 (by omega) (by omega) aSZ rfl (by simp[aJi,eA]) (by rw[aEE,g3]; unfold oG; omega) (by rw[aEE]; unfold oG; omega) hf hK
theorem aMb {l:List (Int × Int)} (hv:iO ro h v 2 aAG l) (hl:l.length≤1000000) (hf:Fr h nx) (hK:∀ r h' n',nx≤n'→Fr h' n'→aZ h h'→eD h' r 2 iN (aHo l) nx→K r h' n'):aO Tryz.prog ro j8 [v] h nx K:=by
 apply vU
 unfold qB
 obtain⟨i,g1,g2,g3⟩:=aTW
 obtain⟨cs,h1,h2,h3⟩:=hv
 have hcs:cs=aHo l:=by
  apply List.ext_getElem?
  intro k
  rcases Nat.lt_or_ge k l.length with hk | hk
  ·have e1:cs[k]?=some (cs[k]'(by omega)):=List.getElem?_eq_getElem _
   have e2:l[k]?=some l[k]:=List.getElem?_eq_getElem _
   have:=h3 k _ _ e1 e2
   unfold aAG at this
   rw[e1,this]; simp[aHo,hk]
  ·rw[List.getElem?_eq_none (by omega),List.getElem?_eq_none (by rw[aDg]; omega)]
 subst hcs
 have hok:(aHo l).flatten.all eA=true:=by
  rw[List.all_eq_true]
  intro x hx
  obtain⟨y,hy,hxy⟩:=List.mem_flatten.1 hx
  obtain⟨p,_,rfl⟩:=List.mem_map.1 hy
  simp at hxy
  rcases hxy with rfl | rfl<;>rfl
 exact wH h1 aRa aSO g1 (by omega) (by omega) aKQ rfl hok (by rw[aDg,g3]; unfold oG; omega) (by rw[aDg]; unfold oG; omega) hf hK
theorem aJP {cs:List (List Value)} (hv:Sl ro h v 2 cs) (hok:cs.flatten.all eA=true) (hl:cs.length≤1000000) (hf:Fr h nx) (hK:∀ r h' n',nx≤n'→Fr h' n'→aZ h h'→eD h' r 2 bR cs nx→K r h' n'):aO Tryz.prog ro gY [v] h nx K:=by
 apply rG
 unfold mL
 obtain⟨i,g1,g2,g3⟩:=aQt
 exact wH hv aOj aPQ g1 (by omega) (by omega) aE0 rfl hok (by rw[g3]; unfold oG; omega) (by unfold oG; omega) hf hK
end
theorem yR {ro:Ro}{h:T Obj}{v w:Value}{z n1 n2 lo:Nat}{t e:TypeId}{i:TypeInfo}{zv:Value}{l:List (List Value)}{y:List Value}{K:Value × Option Obj→T Obj→Value × T Obj × Nat→Prop} (hlit:b7 Tryz.prog t n1 1 [(0,w)]=some (.slice (some (own n1 z)) 1 1,some (.cells y.toArray e))) (hy:y.length=z) (ho:eD h v z e l lo)
  (hu:iM Tryz.prog t=some (.slice e)) (hi':tin Tryz.prog e=some i) (hz:i.size=z) (hz0:0 < z) (hzer:nF Tryz.prog e=some zv) (hzs:zv.cells.size=z) (hok:y.all eA=true) (hb:(l.length+1)*i.bytes≤oG) (hb2:l.length+1≤oG) (hf:Fr h n2) (hlo:lo≤n2) (hn:n1 < n2) (hne:jU v≠some n1)
  (hK:∀ h',eD h' (.slice (some (own n2 z)) (l++[y]).length (l++[y]).length) z e (l++[y]) lo→(∀ k o,h.get k=some o→k≠n1→jU v≠some k→h'.get k=some o)→Fr h' (n2+1)→K (.slice (some (own n1 z)) 1 1,some (.cells y.toArray e)) (h.upd n1 (some (.cells y.toArray e))) (.slice (some (own n2 z)) (l++[y]).length (l++[y]).length,h',n2+1)) :
  aB (b7 Tryz.prog t n1 1 [(0,w)]) fun r=>eR h n1 r.2 fun h'=>aB (cZ Tryz.prog ro h' n2 #[t,t] [v,r.1]) (K r h'):=by
 refine aA hlit (aF ?_)
 have hkk:eB [n1] h (h.upd n1 (some (.cells y.toArray e))):=(aZ.refl h).keepL.upd (by simp)
 have ho1:eD (h.upd n1 (some (.cells y.toArray e))) v z e l lo:=ho.keepK hkk fun id hid hm=>hne (by rw[hid]; simp at hm; rw[hm])
 have hf1:Fr (h.upd n1 (some (.cells y.toArray e))) n2:=hf.upd (Nat.le_refl _) hn
 have hx1:Sl ro (h.upd n1 (some (.cells y.toArray e))) (.slice (some (own n1 z)) 1 1) z [y]:=Sl.own (l:=[y]) (e:=e) (f:=(0,0)) (by rw[T.get_upd_same]; simp) (by simpa using hy) (Nat.le_refl _)
 obtain⟨h',q1,q2,q3,q4,q5⟩:=aNb (P:=Tryz.prog) (t:=t) (nx:=n2) ho1 hx1 hu hi' hz hz0 hzer hzs (by simp) (by simpa using hok) hb hb2 hlo hf1
 exact aA q1 (hK h' q2 (fun k o hk h1 h2=>q3 k o (hkk k o hk (by simpa using h1)) h2) q4)
section
variable {RR:RgP}{tp ta:TypeId}{h h':T Obj}{ps:List (Nat × Nat)}{C:List (Int × Int)}{rs:List RgD}
theorem RsX.snoc (hr:RsX RR h ps C rs) {q:Nat × Nat}{c:Int × Int}{r:RgD} (hn:RR h q.1 q.2 c.2.toNat r.1 r.2):RsX RR h (ps++[q]) (C++[c]) (rs++[r]):=by
 obtain⟨r1,r2,r3⟩:=hr
 refine⟨by simp[r1],by simp[r2],fun i p c' r' h1 h2 h3=>?_⟩
 rcases Nat.lt_or_ge i ps.length with hi | hi
 ·rw[List.getElem?_append_left hi] at h1
  rw[List.getElem?_append_left (by omega)] at h2
  rw[List.getElem?_append_left (by omega)] at h3
  exact r3 i p c' r' h1 h2 h3
 ·rw[List.getElem?_append_right hi] at h1
  rw[List.getElem?_append_right (by omega)] at h2
  rw[List.getElem?_append_right (by omega)] at h3
  have hlt:=(List.getElem?_eq_some_iff.1 h1).1
  have hi0:i=ps.length:=by simp at hlt; omega
  subst hi0
  rw[Nat.sub_self] at h1
  rw[r1,Nat.sub_self] at h2
  rw[show ps.length - rs.length=0 by omega] at h3
  cases h1; cases h2; cases h3
  exact hn
theorem Dst.snoc (hd:Dst ps) {q:Nat × Nat} (hq:∀ p∈ps,p.1≠q.1∧p.2≠q.2):Dst (ps++[q]):=by
 intro i j p p2 h1 h2 hij
 rcases Nat.lt_or_ge i ps.length with hi | hi
 ·rw[List.getElem?_append_left hi] at h1
  rcases Nat.lt_or_ge j ps.length with hj | hj
  ·rw[List.getElem?_append_left hj] at h2
   exact hd i j p p2 h1 h2 hij
  ·rw[List.getElem?_append_right hj] at h2
   have:p2=q:=by have:=List.mem_of_getElem? h2; simpa using this
   subst this
   exact hq p (List.mem_of_getElem? h1)
 ·rw[List.getElem?_append_right hi] at h1
  have hp:p=q:=by have:=List.mem_of_getElem? h1; simpa using this
  subst hp
  rcases Nat.lt_or_ge j ps.length with hj | hj
  ·rw[List.getElem?_append_left hj] at h2
   have:=hq p2 (List.mem_of_getElem? h2)
   exact⟨Ne.symm this.1,Ne.symm this.2⟩
  ·rw[List.getElem?_append_right hj] at h2
   have h3:=(List.getElem?_eq_some_iff.1 h1).1
   have h4:=(List.getElem?_eq_some_iff.1 h2).1
   simp at h3 h4
   omega
theorem Dst.nil:Dst []:=fun i j p q h1=>by simp at h1
end
end V
end Go.Proofs.YtcaccnneblghgaaGreat
namespace Go.Proofs.YtcaccnneblghgaaGreat
namespace V
attribute [local irreducible] aB bA aW dM eR gI dH
def aAH (x:List Value) (s:ByteArray):Prop:=x=[.string s]∧s.size≤nJ
def qH (ro:Ro) (h:T Obj) (x:List Value) (e:EntD):Prop:=∃ ax rv,x=ax++[rv]∧sR ro h ax e.a∧Sl ro h rv 1 (lL e.rules)∧e.rules.length≤nJ
theorem qH.sub {ro:Ro}{h h':T Obj} (hs:aZ h h'):∀ x e,qH ro h x e→qH ro h' x e:=fun x e ⟨ax,rv,h1,h2,h3,h4⟩=>⟨ax,rv,h1,h2.sub hs,h3.sub hs,h4⟩
def aE2 (ro:Ro) (h:T Obj) (x:List Value) (T:TabD):Prop:=∃ cv kv tv ev,x=[cv,kv,tv,ev]∧iO ro h cv 1 aAH T.conds∧iO ro h kv 1 aAH T.kinds∧Sl ro h tv 1 (lL T.to)∧iO ro h ev 260 (qH ro h) T.entries ∧
 T.conds.length≤nJ∧T.kinds.length≤nJ∧T.to.length≤nJ∧T.entries.length≤nJ
theorem aE2.sub {ro:Ro}{h h':T Obj}{x:List Value}{T:TabD} (hd:aE2 ro h x T) (hs:aZ h h'):aE2 ro h' x T:=by
 obtain⟨cv,kv,tv,ev,h1,h2,h3,h4,h5,h6⟩:=hd
 exact⟨cv,kv,tv,ev,h1,h2.sub hs fun _ _ h=>h,h3.sub hs fun _ _ h=>h,h4.sub hs,h5.sub hs (qH.sub hs),h6⟩
def aO8:List Value:=aAK++[dU]
theorem aKP:nF Tryz.prog dX=some (.agg aO8.toArray):=by kernel_rfl
theorem aG1:aO8.length=260:=by simp[aO8,wF]
section
variable {ro:Ro}{h:T Obj}{x:List Value}{e:EntD}
theorem qH.len (hd:qH ro h x e):x.length=260:=by
 obtain⟨ax,rv,rfl,h2,h3,_⟩:=hd
 obtain⟨cv,sv,rfl,hc,_⟩:=h2
 simp[d5 hc]
theorem qH.okL (hd:qH ro h x e):x.all eA=true:=by
 obtain⟨ax,rv,rfl,h2,h3,_⟩:=hd
 obtain⟨cv,sv,rfl,hc,_,h1,h4,_⟩:=h2
 have:=aFq (c:=e.a.c) (n:=e.a.many) (iO.okC h1) (iO.okC h4)
 rw[List.all_append,this]
 simp[h3.ok]
theorem qH.cells (hd:qH ro h x e):∃ cv sv rv,x=eU e.a.c e.a.many cv sv++[rv]∧x[258]?=some sv∧x[259]?=some rv∧(x.take 259)=eU e.a.c e.a.many cv sv∧sR ro h (eU e.a.c e.a.many cv sv) e.a∧iO ro h sv 4 (eT ro h) e.a.states∧e.a.states.length≤nJ∧Sl ro h rv 1 (lL e.rules)∧e.rules.length≤nJ:=by
 obtain⟨ax,rv,rfl,h2,h3,h4⟩:=hd
 obtain⟨cv,sv,rfl,hc,hclt,h5,h6,h7,h8⟩:=id h2
 refine⟨cv,sv,rv,rfl,?_,?_,?_,h2,h6,h8,h3,h4⟩
 ·rw[List.getElem?_append_left (by rw[d5 hc]; omega)]; exact jW hc
 ·rw[List.getElem?_append_right (by rw[d5 hc]; omega),d5 hc]; rfl
 ·rw[List.take_append_of_le_length (by rw[d5 hc]; omega),List.take_of_length_le (by rw[d5 hc]; omega)]
end
def aKs (T:TabD):Bool:=T.entries.all (fun e=>decide (e.a.states.length≤60))&&decide (T.entries.length≤8)
section
variable {ro:Ro}{h:T Obj}{nx:Nat}{K:KV}
set_option maxRecDepth 8000 in
theorem aLG {x:List Value}{T:TabD} (hf:Fr h nx) (hd:aE2 ro h x T) (hK:∀ nx',nx≤nx'→K (.bool (aKs T)) h nx'):aO Tryz.prog ro aB0 [.agg x.toArray] h nx K:=by
 obtain⟨cv,kv,tv,ev,rfl,q1,q2,q3,q4,q5,q6,q7,q8⟩:=id hd
 have q8:T.entries.length≤9223372036854775807:=q8
 apply aJ7
 unfold aIe
 refine eZ hf (Nat.le_refl _) fun h1 hs1 hf1 g1 _=>?_
 have g1:h1.get nx=some (.cells [cv,kv,tv,ev].toArray d4):=g1
 have m3:[cv,kv,tv,ev][3]?=some ev:=rfl
 have hev:=q4.sub hs1 (qH.sub hs1)
 have hlen:=hev.len
 (repeat refine zzC ?_)
 refine aA (aV g1 m3) (aA hlen ?_)
 generalize hB:T.entries.all (fun e=>decide (e.a.states.length≤60))=B
 refine bM (fun j e h' nx'=>∃ (k:Nat),k+j=T.entries.length∧nx+1≤nx'∧e 1=ptr nx∧e 2=.bool false∧e 6=ev∧e 7=.int .i64 T.entries.length∧e 8=.int .i64 k∧aZ h1 h'∧Fr h' nx'∧(T.entries.drop k).all (fun e=>decide (e.a.states.length≤60))=B) ?_ (n:=T.entries.length)
  ⟨0,by omega,by omega,rfl,rfl,rfl,rfl,rfl,aZ.refl _,hf1.mono (by omega),hB⟩
 rintro j e h' nx' ⟨k,hj,hnx,e1,e2,e6,e7,e8,hs',hf',hr⟩ Q' hq hx
 unfold aDx
 rw[e6,e7,e8]
 refine dS (fun hk=>?_) (fun hk=>?_)
 ·have hk:k < T.entries.length:=by omega
  rw[cU hk,List.all_cons] at hr
  have hev':=hev.sub hs' (qH.sub hs')
  have hix:=hev'.ix .i64 hk
  obtain⟨y,hy1,hy2,hy3,hy4,hy5⟩:=hev'.at hk
  generalize T.entries[k]=ee at hr hy1
  obtain⟨ecv,esv,erv,_,c258,c259,_,_,hsv,hsl,_,_⟩:=hy1.cells
  have hsl:ee.a.states.length≤9223372036854775807:=hsl
  have hsvl:=hsv.len
  (have zz:=And.intro hix hy3;repeat refine zzCz ?_)
  refine jB (x:=y) aKP (by show aO8.toArray.size=260; simp[aG1]) rfl hy1.len hy1.okL hf' (by omega) fun h2 hs2 hf2 g2 _=>?_
  (repeat refine zzC ?_)
  refine aA (aV g2 c258) (aA hsvl ?_)
  by_cases hb:ee.a.states.length≤60
  ·rw[decide_eq_true hb,Bool.true_and] at hr
   (repeat refine zzC ?_)
   exact hq (j - 1) _ _ _ _ (by omega) ⟨k+1,by omega,by omega,e1,e2,e6,e7,rfl,hs'.trans hs2,hf2.mono (by omega),hr⟩ (aZ.refl _)
  ·rw[decide_eq_false hb,Bool.false_and] at hr
   (repeat refine zzC ?_)
   refine hx _ _ _ _ (fun e=>by cases e) (fP ?_)
   refine⟨h,hs1.trans (hs'.trans hs2),?_⟩
   have:aKs T=false:=by unfold aKs; rw[hB,← hr]; rfl
   show K (.bool false) h _
   rw[← this]; exact hK _ (by omega)
 ·have hk:k=T.entries.length:=by omega
  have hr:B=true:=by rw[← hr,List.drop_of_length_le (by omega)]; rfl
  have g1':=hs' _ _ g1
  (repeat refine zzC ?_)
  refine hx _ _ _ _ (fun e=>by cases e) (eE (dG ?_))
  have hend:∀ (e':dL) n',nx≤n'→e' 1=ptr nx→vN ro K e' h' n':=by
   intro e' n' hn f1
   unfold vN
   rw[f1]
   (repeat refine zzC ?_)
   refine aA (aV g1' m3) (aA hlen ?_)
   by_cases h8:T.entries.length≤8
   ·(repeat refine zzC ?_)
    refine⟨h,hs1.trans hs',?_⟩
    have:aKs T=true:=by unfold aKs; rw[hB,hr,decide_eq_true h8]; rfl
    rw[← this]; exact hK _ (by omega)
   ·(repeat refine zzC ?_)
    refine⟨h,hs1.trans hs',?_⟩
    have:aKs T=false:=by unfold aKs; rw[hB,hr,decide_eq_false h8]; rfl
    rw[← this]; exact hK _ (by omega)
  exact hend _ _ (by omega) e1
end
end V
end Go.Proofs.YtcaccnneblghgaaGreat
set_option maxRecDepth 8000
namespace Go.Proofs.YtcaccnneblghgaaGreat
namespace V
open Go.ChangeShapes Go.WideShapes Go.ChangeAt Go.RowKit Go.Deep
set_option maxRecDepth 8000
section
variable {H:Type}{enc:TypeId × Value→H}{W:World}
def fieldsOf (P:Program) (t:TypeId):Option (List (Nat × TypeId)):=match iM P t with
 | some (.struct fs)=>some (fs.toList.map fun f=>(f.offset,f.type))
 | _=>none
theorem rE {t:TypeId}{L:List (Nat × TypeId)} (hL:fieldsOf Tryz.prog t=some L) {fuel:Nat}{cs:List Value}{x:DataW H × List MemPlace} (h:DataW.trod enc Tryz.prog W 0 (fun _=>true) true fuel t cs=some x) :
  cs.length=Tryz.prog.cellsOf t∧∃ n,∀ (i o:Nat) (ty:TypeId),L[i]?=some (o,ty)→∃ y,DataW.trod enc Tryz.prog W 0 (fun _=>true) true n ty ((cs.drop o).take (Tryz.prog.cellsOf ty))=some y:=by
 unfold fieldsOf at hL
 split at hL
 ·rename_i fs hu
  cases hL
  obtain⟨xs,n,_,_,hlen,hxs,hf⟩:=DataW.trod_struct (gO hu) h
  refine⟨hlen,n,fun i o ty hi=>?_⟩
  rw[List.getElem?_map] at hi
  cases hq:fs.toList[i]? with
  | none=>rw[hq] at hi; cases hi
  | some f =>
   rw[hq] at hi
   cases hi
   have hfs:fs[i]?=some f:=by simpa using hq
   have hil:=(List.getElem?_eq_some_iff.1 hq).1
   have hx:xs[i]?=some (xs[i]'(by rw[hxs]; simpa using hil)):=List.getElem?_eq_getElem _
   exact⟨_,by rw[hf i f hfs,hx]⟩
 ·cases hL
theorem aMv {t:TypeId}{L:List (Nat × TypeId)} (hL:fieldsOf Tryz.prog t=some L) {v:Value}{base:Nat} (hval:Value.okWide Tryz.prog W .any base t v):∃ cs,v=.agg cs:=by
 unfold fieldsOf at hL
 split at hL
 ·rename_i fs hu
  unfold Value.okWide at hval
  rw[gO hu] at hval
  obtain⟨cs,e,_⟩:=hval
  exact⟨cs,e⟩
 ·cases hL
theorem aDu {n:Nat}{cs:List Value}{y:DataW H × List MemPlace} (h:DataW.trod enc Tryz.prog W 0 (fun _=>true) true n dY cs=some y):∃ a:Int,cs=[.int .i64 a]:=by
 have hu:Tryz.prog.underlying dY=some (.int .i64):=by kernel_rfl
 obtain⟨a,rfl,_⟩:=DataW.trod_int hu h
 exact⟨a,rfl⟩
theorem aON {n:Nat}{cs:List Value}{y:DataW H × List MemPlace} (h:DataW.trod enc Tryz.prog W 0 (fun _=>true) true n cI cs=some y):∃ a:Nat,cs=[.int .u8 (a:Int)]∧a < 256:=by
 have hu:Tryz.prog.underlying cI=some (.int .u8):=by kernel_rfl
 obtain⟨a,rfl,_,hw⟩:=DataW.trod_int hu h
 have:=aS8 hw
 exact⟨a.toNat,by rw[Int.toNat_of_nonneg this.1],by omega⟩
theorem aLW {N:Nat}{v v':Value}{o:Option Addr}{l c:Nat} (hv:v=.slice o l c) (h:aA1 N v=some v'):bS v'=some (.int .i64 l):=by
 subst hv
 unfold aA1 at h
 split at h
 ·rename_i h1
  cases h
  cases h1
  rfl
 ·rename_i h1
  cases h1
  split at h
  ·cases h; rfl
  ·cases h
 ·rename_i h1; cases h1
 ·split at h
  ·cases h; rfl
  ·cases h
theorem rU {D:Type}{t e:TypeId}{z:Nat}{R:List Value→D→Prop} (ht:Tryz.prog.underlying t=some (.slice e)) (hz:Tryz.prog.cellsOf e=z) (hz0:0 < z) {fuel:Nat}{cs:List Value}{x:DataW H × List MemPlace} (h:DataW.trod enc Tryz.prog W 0 (fun _=>true) true fuel t cs=some x)
  (hel:∀ n cs' y,DataW.trod enc Tryz.prog W 0 (fun _=>true) true n e cs'=some y→∃ cs'',mH W.heap.size cs'=some cs''∧∃ d,R cs'' d):∃ v v' l,cs=[v]∧aA1 W.heap.size v=some v'∧iO (qS W) .e v' z R l∧l.length≤nJ:=by
 obtain⟨v,v',hv,hn,l,hl,hall⟩:=aRq ht hz hz0 h (El:=fun x=>∃ d,R x d) hel
 have hbound:l.length≤nJ:=by
  have hlen:=hl.len
  rcases open_slice ht h with ⟨h1,_⟩ | ⟨a,len,cap,m,n,D,Pl,h1,_,hle,hm,_⟩
  ·rw[hv] at h1
   have h2:=aLW (List.cons.inj h1).1 hn
   rw[hlen] at h2
   simp only[Option.some.injEq,Value.int.injEq,true_and] at h2
   have:l.length=0:=by omega
   rw[this]; unfold nJ; omega
  ·rw[hv] at h1
   have h2:=aLW (List.cons.inj h1).1 hn
   rw[hlen] at h2
   simp only[Option.some.injEq,Value.int.injEq,true_and] at h2
   unfold maxLen at hm
   unfold nJ
   omega
 refine⟨v,v',?_⟩
 have e:∃ ds:List D,l.length=ds.length∧∀ (i:Nat) x d,l[i]?=some x→ds[i]?=some d→R x d:=by
  clear hl hbound
  induction l with
  | nil=>exact⟨[],rfl,fun i x d hx=>by simp at hx⟩
  | cons x l ih =>
   obtain⟨ds,h1,h2⟩:=ih fun y hy=>hall y (by simp[hy])
   obtain⟨d,hd⟩:=hall x (by simp)
   refine⟨d::ds,by simp[h1],fun i x' d' hx hd'=>?_⟩
   cases i with
   | zero=>simp at hx hd'; subst hx; subst hd'; exact hd
   | succ i=>exact h2 i x' d' (by simpa using hx) (by simpa using hd')
 obtain⟨ds,h1,h2⟩:=e
 exact⟨ds,hv,hn,⟨l,hl,h1,h2⟩,by rw[← h1]; exact hbound⟩
theorem wU {n:Nat}{cs:List Value}{y:DataW H × List MemPlace} (h:DataW.trod enc Tryz.prog W 0 (fun _=>true) true n fY cs=some y):∃ v v' l,cs=[v]∧aA1 W.heap.size v=some v'∧ZI (qS W) .e v' l∧l.length≤nJ:=by
 have hu:Tryz.prog.underlying fY=some (.slice dY):=by kernel_rfl
 have hc:Tryz.prog.cellsOf dY=1:=by kernel_rfl
 obtain⟨v,v',l,hv,hn,⟨cs,h1,h2,h3⟩,hb⟩:=rU (R:=fun x (a:Int)=>x=[Value.int .i64 a]) hu hc (by omega) h fun n cs' y hy=>by
  obtain⟨a,rfl⟩:=aDu hy
  exact⟨_,rfl,a,rfl⟩
 refine⟨v,v',l,hv,hn,?_,hb⟩
 have e:cs=lL l:=by
  refine List.ext_getElem? fun i=>?_
  unfold lL
  rw[List.getElem?_map]
  cases hi:l[i]? with
  | none =>
   have:=List.getElem?_eq_none_iff.1 hi
   rw[List.getElem?_eq_none (by omega)]; rfl
  | some a =>
   have hil:=(List.getElem?_eq_some_iff.1 hi).1
   have hx:cs[i]?=some (cs[i]'(by omega)):=List.getElem?_eq_getElem (by omega)
   rw[hx,h3 i _ a hx hi]; rfl
 unfold ZI
 rw[← e]; exact h1
theorem aGw {W:World}{v v':Value} (hn:aA1 W.heap.size v=some v'):mH W.heap.size [v]=some [v']:=by
 simp only[mH,hn]; rfl
theorem aIm {n:Nat}{cs:List Value}{y:DataW H × List MemPlace} (h:DataW.trod enc Tryz.prog W 0 (fun _=>true) true n bO cs=some y):∃ v v' l,cs=[v]∧aA1 W.heap.size v=some v'∧iO (qS W) .e v' 1 RU8 l∧l.length≤nJ:=by
 have hu:Tryz.prog.underlying bO=some (.slice cI):=by kernel_rfl
 have hc:Tryz.prog.cellsOf cI=1:=by kernel_rfl
 exact rU hu hc (by omega) h fun n cs' y hy=>by
  obtain⟨a,rfl,ha⟩:=aON hy
  exact⟨_,rfl,a,rfl,ha⟩
theorem aMt {n:Nat}{cs:List Value}{y:DataW H × List MemPlace} (h:DataW.trod enc Tryz.prog W 0 (fun _=>true) true n bR cs=some y):∃ cs'',mH W.heap.size cs=some cs''∧∃ d,aAg (qS W) .e cs'' d:=by
 have hL:fieldsOf Tryz.prog bR=some [(0,dY),(1,bO)]:=by kernel_rfl
 have c0:Tryz.prog.cellsOf bR=2:=by kernel_rfl
 have c2:Tryz.prog.cellsOf dY=1:=by kernel_rfl
 have c4:Tryz.prog.cellsOf bO=1:=by kernel_rfl
 obtain⟨hlen,m,hf⟩:=rE hL h
 obtain⟨_,f0⟩:=hf 0 _ _ rfl
 obtain⟨_,f1⟩:=hf 1 _ _ rfl
 rw[c0] at hlen
 rw[c2] at f0
 rw[c4] at f1
 obtain⟨p,g0⟩:=aDu f0
 obtain⟨v,v',l,g1,hn,hz,hb⟩:=aIm f1
 match cs,hlen with
 | [a0,a1],_ =>
  simp at g0 g1
  subst g0 g1
  refine⟨[.int .i64 p,v'],?_,⟨p,l⟩,v',rfl,hz,hb⟩
  simp only[mH,hn]; rfl
theorem aPA {n:Nat}{cs:List Value}{y:DataW H × List MemPlace} (h:DataW.trod enc Tryz.prog W 0 (fun _=>true) true n fN cs=some y):∃ cs'',mH W.heap.size cs=some cs''∧∃ d,vC (qS W) .e cs'' d:=by
 have hu:Tryz.prog.underlying fN=some (.slice bR):=by kernel_rfl
 have hc:Tryz.prog.cellsOf bR=2:=by kernel_rfl
 obtain⟨v,v',l,rfl,hn,hl,hb⟩:=rU hu hc (by omega) h fun n cs' y hy=>aMt hy
 exact⟨[v'],aGw hn,l,v',rfl,hl,hb⟩
theorem aNQ {n:Nat}{cs:List Value}{y:DataW H × List MemPlace} (h:DataW.trod enc Tryz.prog W 0 (fun _=>true) true n hU cs=some y):∃ v v' l,cs=[v]∧aA1 W.heap.size v=some v'∧iO (qS W) .e v' 1 (vC (qS W) .e) l∧l.length≤nJ:=by
 have hu:Tryz.prog.underlying hU=some (.slice fN):=by kernel_rfl
 have hc:Tryz.prog.cellsOf fN=1:=by kernel_rfl
 exact rU hu hc (by omega) h fun n cs' y hy=>aPA hy
theorem aMT {n:Nat}{cs:List Value}{y:DataW H × List MemPlace} (h:DataW.trod enc Tryz.prog W 0 (fun _=>true) true n bG cs=some y):∃ cs'',mH W.heap.size cs=some cs''∧∃ d,eT (qS W) .e cs'' d:=by
 have hL:fieldsOf Tryz.prog bG=some [(0,fY),(1,fY),(2,fY),(3,hU)]:=by kernel_rfl
 have c0:Tryz.prog.cellsOf bG=4:=by kernel_rfl
 have c2:Tryz.prog.cellsOf fY=1:=by kernel_rfl
 have c4:Tryz.prog.cellsOf hU=1:=by kernel_rfl
 obtain⟨hlen,m,hf⟩:=rE hL h
 obtain⟨_,f0⟩:=hf 0 _ _ rfl
 obtain⟨_,f1⟩:=hf 1 _ _ rfl
 obtain⟨_,f2⟩:=hf 2 _ _ rfl
 obtain⟨_,f3⟩:=hf 3 _ _ rfl
 rw[c0] at hlen
 rw[c2] at f0 f1 f2
 rw[c4] at f3
 obtain⟨v0,w0,l0,g0,n0,z0,b0⟩:=wU f0
 obtain⟨v1,w1,l1,g1,n1,z1,b1⟩:=wU f1
 obtain⟨v2,w2,l2,g2,n2,z2,b2⟩:=wU f2
 obtain⟨v3,w3,l3,g3,n3,z3,b3⟩:=aNQ f3
 match cs,hlen with
 | [a0,a1,a2,a3],_ =>
  simp at g0 g1 g2 g3
  subst g0 g1 g2 g3
  refine⟨[w0,w1,w2,w3],?_,⟨l0,l1,l2,l3⟩,w0,w1,w2,w3,rfl,z0,z1,z2,z3,b1⟩
  simp only[mH,n0,n1,n2,n3]; rfl
theorem aKd {n:Nat}{cs:List Value}{y:DataW H × List MemPlace} (h:DataW.trod enc Tryz.prog W 0 (fun _=>true) true n iN cs=some y):∃ cs'',mH W.heap.size cs=some cs''∧∃ d,aAG cs'' d:=by
 have hu:Tryz.prog.underlying iN=some (.array 2 dY):=by kernel_rfl
 have hc:Tryz.prog.cellsOf iN=2:=by kernel_rfl
 have hc1:Tryz.prog.cellsOf dY=1:=by kernel_rfl
 obtain⟨xs,m,_,_,hlen,hxs,hel⟩:=DataW.trod_array hu h
 rw[hc] at hlen
 have el:∀ i,i < 2→∃ a:Int,(cs.drop i).take 1=[.int .i64 a]:=by
  intro i hi
  have:=hel i hi
  rw[hc1,Nat.mul_one] at this
  have hx:xs[i]?=some xs[i]:=List.getElem?_eq_getElem (by omega)
  rw[hx] at this
  exact aDu this
 match cs,hlen with
 | [a0,a1],_ =>
  obtain⟨x0,g0⟩:=el 0 (by omega)
  obtain⟨x1,g1⟩:=el 1 (by omega)
  simp at g0 g1
  subst g0 g1
  exact⟨_,rfl,(x0,x1),rfl⟩
theorem aMS {n:Nat}{cs:List Value}{y:DataW H × List MemPlace} (h:DataW.trod enc Tryz.prog W 0 (fun _=>true) true n eM cs=some y):∃ (c:List Nat) (k:Int),c.length=256∧(∀ x∈c,x < 256)∧cs=gF c k:=by
 have hL:fieldsOf Tryz.prog eM=some [(0,aAe),(256,dY)]:=by kernel_rfl
 have c0:Tryz.prog.cellsOf eM=257:=by kernel_rfl
 have c2:Tryz.prog.cellsOf aAe=256:=by kernel_rfl
 have c4:Tryz.prog.cellsOf dY=1:=by kernel_rfl
 have hc8:Tryz.prog.cellsOf cI=1:=by kernel_rfl
 have hua:Tryz.prog.underlying aAe=some (.array 256 cI):=by kernel_rfl
 obtain⟨hlen,m,hf⟩:=rE hL h
 obtain⟨_,f0⟩:=hf 0 _ _ rfl
 obtain⟨_,f1⟩:=hf 1 _ _ rfl
 rw[c0] at hlen
 rw[c2,List.drop_zero] at f0
 rw[c4] at f1
 obtain⟨k,hk⟩:=aDu f1
 obtain⟨xs,m,_,_,hl0,hxs,hel⟩:=DataW.trod_array hua f0
 have el:∀ i,i < 256→∃ a:Nat,cs[i]?=some (.int .u8 (a:Int))∧a < 256:=by
  intro i hi
  have h1:=hel i hi
  rw[hc8,Nat.mul_one,List.drop_take,List.take_take] at h1
  have hx:xs[i]?=some xs[i]:=List.getElem?_eq_getElem (by omega)
  rw[hx,show min 1 (256 - i)=1 by omega] at h1
  obtain⟨a,h2,h3⟩:=aON h1
  refine⟨a,?_,h3⟩
  have h4:((cs.drop i).take 1)[0]?=some (.int .u8 (a:Int)):=by rw[h2]; rfl
  rw[List.getElem?_take] at h4
  simpa using h4
 have key:∀ i,i≤256→∃ c:List Nat,c.length=i∧(∀ x∈c,x < 256)∧cs.take i=u8s c:=by
  intro i
  induction i with
  | zero=>intro _; exact⟨[],rfl,by simp,by simp[u8s]⟩
  | succ i ih =>
   intro hi
   obtain⟨c,c1,c2,c3⟩:=ih (by omega)
   obtain⟨a,h1,h2⟩:=el i (by omega)
   refine⟨c++[a],by simp[c1],?_,?_⟩
   ·intro x hx
    rcases List.mem_append.1 hx with h | h
    ·exact c2 x h
    ·simp at h; omega
   ·have hil:i < cs.length:=by omega
    rw[List.getElem?_eq_getElem hil] at h1
    rw[List.take_succ_eq_append_getElem hil,Option.some.inj h1,c3]
    simp[u8s]
 obtain⟨c,c1,c2,c3⟩:=key 256 (Nat.le_refl _)
 refine⟨c,k,c1,c2,?_⟩
 unfold gF
 rw[← List.take_append_drop 256 cs,c3]
 congr 1
 rw[← hk,List.take_of_length_le (by rw[List.length_drop]; omega)]
theorem aFP {N:Nat} (k:Int) {v w v' w':Value} (h1:aA1 N v=some v') (h2:aA1 N w=some w'):∀ c:List Nat,mH N (eU c k v w)=some (eU c k v' w')
 | []=>by
  show mH N [.int .i64 k,v,w]=some [.int .i64 k,v',w']
  simp only[mH,h1,h2]; rfl
 | a::c=>by
  have e:∀ x y,eU (a::c) k x y=.int .u8 (a:Int)::eU c k x y:=fun _ _=>rfl
  rw[e,e]
  simp only[mH,aFP k h1 h2 c]; rfl
theorem aM3 {n:Nat}{cs:List Value}{y:DataW H × List MemPlace} (h:DataW.trod enc Tryz.prog W 0 (fun _=>true) true n cD cs=some y):∃ cs'',mH W.heap.size cs=some cs''∧∃ d,sR (qS W) .e cs'' d:=by
 have hL:fieldsOf Tryz.prog cD=some [(0,eM),(257,pE),(258,j5)]:=by kernel_rfl
 have c0:Tryz.prog.cellsOf cD=259:=by kernel_rfl
 have c2:Tryz.prog.cellsOf eM=257:=by kernel_rfl
 have c4:Tryz.prog.cellsOf pE=1:=by kernel_rfl
 have c5:Tryz.prog.cellsOf j5=1:=by kernel_rfl
 have hu1:Tryz.prog.underlying pE=some (.slice iN):=by kernel_rfl
 have hu2:Tryz.prog.underlying j5=some (.slice bG):=by kernel_rfl
 have hc1:Tryz.prog.cellsOf iN=2:=by kernel_rfl
 have hc2:Tryz.prog.cellsOf bG=4:=by kernel_rfl
 obtain⟨hlen,m,hf⟩:=rE hL h
 obtain⟨_,f0⟩:=hf 0 _ _ rfl
 obtain⟨_,f1⟩:=hf 1 _ _ rfl
 obtain⟨_,f2⟩:=hf 2 _ _ rfl
 rw[c0] at hlen
 rw[c2,List.drop_zero] at f0
 rw[c4] at f1
 rw[c5] at f2
 obtain⟨c,k,hc,hcl,g0⟩:=aMS f0
 obtain⟨v,v',C,g1,n1,z1,b1⟩:=rU hu1 hc1 (by omega) f1 fun n cs' y hy=>aKd hy
 obtain⟨w,w',S,g2,n2,z2,b2⟩:=rU hu2 hc2 (by omega) f2 fun n cs' y hy=>aMT hy
 have hcs:cs=eU c k v w:=by
  unfold eU
  rw[← List.take_append_drop 257 cs,g0]
  congr 1
  have h1:cs.drop 257=(cs.drop 257).take 1++(cs.drop 257).drop 1:=(List.take_append_drop 1 _).symm
  rw[h1,g1,List.drop_drop,← List.take_of_length_le (i:=1) (l:=cs.drop (257+1)) (by rw[List.length_drop]; omega)]
  show [v]++(cs.drop 258).take 1=_
  rw[g2]; rfl
 refine⟨eU c k v' w',?_,⟨c,k,C,S⟩,v',w',rfl,hc,hcl,z1,z2,b1,b2⟩
 rw[hcs]
 exact aFP k n1 n2 c
theorem aQq {n:Nat}{cs:List Value}{y:DataW H × List MemPlace} (h:DataW.trod enc Tryz.prog W 0 (fun _=>true) true n sQ cs=some y):∃ a:ByteArray,aAH cs a:=by
 have hu:Tryz.prog.underlying sQ=some .string:=by kernel_rfl
 obtain⟨a,rfl,_,hb⟩:=DataW.trod_string hu h
 exact⟨a,rfl,by unfold maxLen at hb; unfold nJ; omega⟩
theorem aH4 {n:Nat}{cs:List Value}{y:DataW H × List MemPlace} (h:DataW.trod enc Tryz.prog W 0 (fun _=>true) true n lX cs=some y):∃ v v' l,cs=[v]∧aA1 W.heap.size v=some v'∧iO (qS W) .e v' 1 aAH l∧l.length≤nJ:=by
 have hu:Tryz.prog.underlying lX=some (.slice sQ):=by kernel_rfl
 have hc:Tryz.prog.cellsOf sQ=1:=by kernel_rfl
 exact rU hu hc (by omega) h fun n cs' y hy=>by
  obtain⟨a,ha⟩:=aQq hy
  exact⟨cs',by rw[ha.1]; rfl,a,ha⟩
theorem aIi {N:Nat}:∀ {l l' m m':List Value},mH N l=some l'→mH N m=some m'→mH N (l++m)=some (l'++m')
 | [],l',m,m',h1,h2=>by cases h1; exact h2
 | x::l,l',m,m',h1,h2=>by
  simp only[mH] at h1
  obtain⟨x',e1,h1⟩:=aP h1
  obtain⟨r',e2,h1⟩:=aP h1
  cases h1
  simp only[List.cons_append,mH,e1,aIi e2 h2]; rfl
theorem aO9 {n:Nat}{cs:List Value}{y:DataW H × List MemPlace} (h:DataW.trod enc Tryz.prog W 0 (fun _=>true) true n dX cs=some y):∃ cs'',mH W.heap.size cs=some cs''∧∃ d,qH (qS W) .e cs'' d:=by
 have hL:fieldsOf Tryz.prog dX=some [(0,cD),(259,fY)]:=by kernel_rfl
 have c0:Tryz.prog.cellsOf dX=260:=by kernel_rfl
 have c2:Tryz.prog.cellsOf cD=259:=by kernel_rfl
 have c4:Tryz.prog.cellsOf fY=1:=by kernel_rfl
 obtain⟨hlen,m,hf⟩:=rE hL h
 obtain⟨_,f0⟩:=hf 0 _ _ rfl
 obtain⟨_,f1⟩:=hf 1 _ _ rfl
 rw[c0] at hlen
 rw[c2,List.drop_zero] at f0
 rw[c4] at f1
 obtain⟨cs'',n0,d,hd⟩:=aM3 f0
 obtain⟨v,v',l,g1,n1,z1,b1⟩:=wU f1
 have hcs:cs=cs.take 259++[v]:=by
  have h1:cs=cs.take 259++cs.drop 259:=(List.take_append_drop 259 _).symm
  rw[List.take_of_length_le (by rw[List.length_drop]; omega)] at g1
  rw[← g1]; exact h1
 refine⟨cs''++[v'],?_,⟨d,l⟩,cs'',v',rfl,hd,z1,b1⟩
 rw[hcs]
 exact aIi n0 (aGw n1)
theorem aQ9 {v:Value}{d:DataW H}{p:List MemPlace} (h:DataW.Trod enc Tryz.prog W 0 (fun _=>true) true d4 v d p) {base:Nat} (hval:Value.okWide Tryz.prog W .any base d4 v):∃ x T,Arg W.heap.size (.agg x.toArray) v∧aE2 (qS W) .e x T:=by
 have hL:fieldsOf Tryz.prog d4=some [(0,lX),(1,lX),(2,fY),(3,jZ)]:=by kernel_rfl
 have c0:Tryz.prog.cellsOf d4=4:=by kernel_rfl
 have c1:Tryz.prog.cellsOf lX=1:=by kernel_rfl
 have c2:Tryz.prog.cellsOf fY=1:=by kernel_rfl
 have c3:Tryz.prog.cellsOf jZ=1:=by kernel_rfl
 have hu:Tryz.prog.underlying jZ=some (.slice dX):=by kernel_rfl
 have hc:Tryz.prog.cellsOf dX=260:=by kernel_rfl
 obtain⟨cs,rfl⟩:=aMv hL hval
 obtain⟨fuel,hf⟩:=h
 have ecs:(Value.agg cs).cells.toList=cs.toList:=rfl
 rw[ecs] at hf
 obtain⟨hlen,m,hf⟩:=rE hL hf
 obtain⟨_,f0⟩:=hf 0 _ _ rfl
 obtain⟨_,f1⟩:=hf 1 _ _ rfl
 obtain⟨_,f2⟩:=hf 2 _ _ rfl
 obtain⟨_,f3⟩:=hf 3 _ _ rfl
 rw[c0] at hlen
 rw[c1] at f0 f1
 rw[c2] at f2
 rw[c3] at f3
 obtain⟨v0,w0,l0,g0,n0,z0,b0⟩:=aH4 f0
 obtain⟨v1,w1,l1,g1,n1,z1,b1⟩:=aH4 f1
 obtain⟨v2,w2,l2,g2,n2,z2,b2⟩:=wU f2
 obtain⟨v3,w3,l3,g3,n3,z3,b3⟩:=rU hu hc (by omega) f3 fun n cs' y hy=>aO9 hy
 refine⟨[w0,w1,w2,w3],⟨l0,l1,l2,l3⟩,.agg ?_,w0,w1,w2,w3,rfl,z0,z1,z2,z3,b0,b1,b2,b3⟩
 generalize cs.toList=cl at *
 match cl,hlen with
 | [a0,a1,a2,a3],_ =>
  simp at g0 g1 g2 g3
  subst g0 g1 g2 g3
  simp only[mH,n0,n1,n2,n3]; rfl
def aN8 (ro:Ro) (h:V.T Obj) (x:List Value) (l:List Nat):Prop:=∃ w,x=[w]∧iO ro h w 1 RU8 l∧l.length≤nJ
theorem aMx {v:Value}{d:DataW H}{p:List MemPlace} (h:DataW.Trod enc Tryz.prog W 0 (fun _=>true) true iA v d p) {base:Nat} (hval:Value.okWide Tryz.prog W .any base iA v):∃ v' l,Arg W.heap.size v' v∧iO (qS W) .e v' 1 (aN8 (qS W) .e) l∧l.length≤nJ:=by
 have hu:Tryz.prog.underlying iA=some (.slice bO):=by kernel_rfl
 have hc:Tryz.prog.cellsOf bO=1:=by kernel_rfl
 obtain⟨fuel,hf⟩:=h
 obtain⟨v1,v',l,hv,hn,hl,hb⟩:=rU hu hc (by omega) hf (R:=aN8 (qS W) .e) fun n cs' y hy=>by
  obtain⟨v9,v9',l9,rfl,hn9,hl9,hb9⟩:=aIm hy
  exact⟨_,aGw hn9,l9,v9',rfl,hl9,hb9⟩
 have hvv:v.cells.toList=[v1]:=hv
 have hv1:v=v1:=by
  obtain⟨a,len,cap,rfl⟩:=okWide_slice hu hval
  simpa [Value.cells] using hvv
 subst hv1
 exact⟨v',l,.one hn,hl,hb⟩
end
end V
end Go.Proofs.YtcaccnneblghgaaGreat
namespace Go.Proofs.YtcaccnneblghgaaGreat
namespace V
attribute [local irreducible] aB bA aW dM eR gI dH
theorem aDo:∀ {mcs:List (List Value)}{k:Nat}{a b r:Value},(∀ x∈mcs,x.length=2)→mcs[k]?=some [a,b]→mcs.flatten.set (k*2+1) r=(mcs.set k [a,r]).flatten
 | [],k,a,b,r,_,h=>by simp at h
 | y::l,0,a,b,r,hz,h=>by
  simp at h; subst h; rfl
 | y::l,k+1,a,b,r,hz,h=>by
  have hy:=hz y (by simp)
  have ih:=aDo (mcs:=l) (k:=k) (a:=a) (b:=b) (r:=r) (fun x hx=>hz x (by simp[hx])) (by simpa using h)
  rw[List.set_cons_succ,List.flatten_cons,List.flatten_cons,List.set_append_right _ _ (by omega),hy,show (k+1)*2+1 - 2=k*2+1 by omega,ih]
theorem aTt {ro:Ro}{h:T Obj}{v:Value}{l:List Nat} (hs:Sl ro h v 1 (aJi l)) (hl:∀ x∈l,x < 256):iO ro h v 1 RU8 l:=⟨aJi l,hs,aEE l,fun i x d hx hd=>by
 simp only[aJi,List.getElem?_map] at hx
 rw[hd] at hx
 cases hx
 exact⟨rfl,hl d (List.mem_of_getElem? hd)⟩⟩
theorem RU8.lt {ro:Ro}{h:T Obj}{v:Value}{l:List Nat} (hs:iO ro h v 1 RU8 l):∀ x∈l,x < 256:=fun x hx=>by
 obtain⟨cs,h1,h2,h3⟩:=hs
 obtain⟨i,hi⟩:=List.getElem?_of_mem hx
 have hlt:=(List.getElem?_eq_some_iff.1 hi).1
 exact (h3 i _ _ (List.getElem?_eq_getElem (by omega)) hi).2
theorem aMh (mid n c k j:Nat):mT 2 (.slice (some (own mid 2)) n c) k j=at_ mid (k*2+j) 0:=by simp[mT,elt,own]
def kV (v:Value):List Nat:=(jU v).toList
theorem eW {v:Value}{k:Nat}:k∈kV v ↔ jU v=some k:=by unfold kV; cases jU v<;>simp[eq_comm]
section
variable {ro:Ro}{h:T Obj}{nx nA:Nat}{X:List Nat}{Q:KE}{e:dL}
set_option maxRecDepth 8000 in
theorem aTf {mid:Nat}{row:List MoveD}{mcs0:List (List Value)}{w2 w3 w6 w19 w20 w21 w33 w34 w35:Value} (e2:e 2=w2) (e3:e 3=w3) (e6:e 6=w6) (e19:e 19=w19) (e20:e 20=w20) (e21:e 21=w21) (e33:e 33=w33) (e34:e 34=w34) (e35:e 35=w35)
  (e9:e 9=.slice (some (own mid 2)) row.length row.length) (e41:e 41=.slice (some (own mid 2)) row.length row.length) (e42:e 42=.int .i64 row.length) (e43:e 43=.int .i64 0)
  (hg:h.get mid=some (.cells mcs0.flatten.toArray bR)) (hl:mcs0.length=row.length) (h2:∀ x∈mcs0,x.length=2) (hlen:row.length≤1000000)
  (hsrc:∀ (i:Nat) x m,mcs0[i]?=some x→row[i]?=some m→∃ ov,x=[.int .i64 m.to,ov]∧iO ro (del h [mid]) ov 1 RU8 m.ops∧m.ops.length≤1000000) (hf:Fr h nx) (hX:∀ k∈X,k < nA) (hmid:nA≤mid) (hnA:nA≤nx)
  (hQ:∀ (e':dL) h' n',e' 2=w2→e' 3=w3→e' 6=w6→e' 9=.slice (some (own mid 2)) row.length row.length→e' 19=w19→e' 20=w20→e' 21=w21→e' 33=w33→e' 34=w34→e' 35=w35→nx≤n'→Fr h' n'→eB [mid] h h' →
   iO ro (del h' X) (.slice (some (own mid 2)) row.length row.length) 2 (aAg ro (del h' X)) row→Q (.exit 4) e' h' n'):dZ (wO ro) e h nx Q:=by
 have hlt:=hf.lt' hg
 refine bM (fun j e h' nx'=>∃ (k:Nat) (mcs:List (List Value)),k+j=row.length∧nx≤nx'∧e 2=w2∧e 3=w3∧e 6=w6∧e 19=w19∧e 20=w20∧e 21=w21∧e 33=w33∧e 34=w34∧e 35=w35∧e 9=.slice (some (own mid 2)) row.length row.length∧e 41=.slice (some (own mid 2)) row.length row.length∧e 42=.int .i64 row.length∧e 43=.int .i64 k ∧
  h'.get mid=some (.cells mcs.flatten.toArray bR)∧mcs.length=row.length∧(∀ x∈mcs,x.length=2)∧(∀ i,k≤i→mcs[i]?=mcs0[i]?)∧(∀ (i:Nat) x m,i < k→mcs[i]?=some x→row[i]?=some m→∃ ov,x=[.int .i64 m.to,ov]∧iO ro (del h' (mid::X)) ov 1 RU8 m.ops∧m.ops.length≤1000000)∧eB [mid] h h'∧Fr h' nx') ?_ (n:=row.length)
  ⟨0,mcs0,by omega,by omega,e2,e3,e6,e19,e20,e21,e33,e34,e35,e9,e41,e42,e43,hg,hl,h2,fun _ _=>rfl,fun i x m hi=>by omega,(aZ.refl h).keepL,hf⟩
 rintro j e h' nx' ⟨k,mcs,hj,hnx,e2,e3,e6,e19,e20,e21,e33,e34,e35,e9,e41,e42,e43,hg',hl',h2',hun,hpr,hk',hf'⟩ Q' hq hx
 have hsl:Sl ro h' (.slice (some (own mid 2)) row.length row.length) 2 mcs:=by rw[← hl']; exact Sl.own hg' h2' (Nat.le_refl _)
 unfold wO
 rw[e9,e41,e42,e43]
 refine dS (fun hk=>?_) (fun hk=>?_)
 ·have hk:k < row.length:=by omega
  have hmk:mcs[k]?=some (mcs[k]'(by omega)):=List.getElem?_eq_getElem _
  have hmk0:=hun k (Nat.le_refl _)
  rw[hmk] at hmk0
  have hrk:row[k]?=some row[k]:=List.getElem?_eq_getElem _
  obtain⟨ov,hx0,hov,hol⟩:=hsrc k _ _ hmk0.symm hrk
  rw[hx0] at hmk
  have hix:=hsl.ix .i64 (i:=k) (by omega)
  have hld:=hsl.loadA hmk
  have hfw:=hsl.fwd (i:=k) (by omega) 1
  rw[aMh] at hfw
  generalize row[k]=m at hx0 hov hol hmk hrk hld
  (repeat refine zzC ?_)
  refine aA hix (aA hld ?_)
  refine jB (x:=[.int .i64 m.to,ov]) aE0 rfl rfl rfl (by simp[show eA ov=true from iO.okC hov,show eA (Value.int .i64 m.to)=true from rfl]) hf' (by omega) fun h3 hs3 hf3 g3 _=>?_
  (repeat refine zzC ?_)
  refine aA (aV (l:=[.int .i64 m.to,ov]) g3 rfl) ?_
  have hD3:aZ (del h [mid]) h3:=(hk'.delS (fun k h=>h)).trans hs3
  refine aMc (hov.sub hD3 fun _ _ h=>h) hol (hf3.mono (by omega)) fun r h4 n4 hn4 hf4 hs4 ho4=>?_
  have g4:=hs4 _ _ (hs3 _ _ hg')
  refine aA hix (aA hfw ?_)
  have hfl:mcs.flatten.length=row.length*2:=by rw[(mU h2').1,hl']
  refine aA (bX (l:=mcs.flatten) g4 (by omega) ho4.ok (by rcases ho4 with ⟨rfl,_⟩ | ⟨id,_,rfl,_⟩<;>rfl)) ?_
  rw[aDo h2' hmk]
  have hk5:eB [mid] h' (h4.upd mid (some (.cells (mcs.set k [.int .i64 m.to,r]).flatten.toArray bR))):=((hs3.trans hs4).keepL).upd (by simp)
  have hk45:eB [mid] h4 (h4.upd mid (some (.cells (mcs.set k [.int .i64 m.to,r]).flatten.toArray bR))):=(aZ.refl h4).keepL.upd (by simp)
  have hf5:Fr (h4.upd mid (some (.cells (mcs.set k [.int .i64 m.to,r]).flatten.toArray bR))) n4:=hf4.upd (Nat.le_refl _) (by omega)
  have g5:(h4.upd mid (some (.cells (mcs.set k [.int .i64 m.to,r]).flatten.toArray bR))).get mid=some (.cells (mcs.set k [.int .i64 m.to,r]).flatten.toArray bR):=T.get_upd_same _ _ _
  generalize (h4.upd mid (some (.cells (mcs.set k [.int .i64 m.to,r]).flatten.toArray bR)))=h5 at hk5 hk45 hf5 g5
  have ho5:=(ho4.keepK hk45 fun id hid hm=>by have:=(ho4.blk hid).1; simp at hm; omega).del (ids:=mid::X) fun id hid hm=>by
   have:=(ho4.blk hid).1
   rcases List.mem_cons.1 hm with h9 | h9
   ·omega
   ·have:=hX id h9; omega
  have hR5:=aTt (ro:=ro) ho5.sl (RU8.lt hov)
  (repeat refine zzC ?_)
  refine hq (j - 1) _ _ _ _ (by omega) ⟨k+1,mcs.set k [.int .i64 m.to,r],by omega,by omega,e2,e3,e6,e19,e20,e21,e33,e34,e35,e9,e41,e42,rfl,g5,by rw[List.length_set]; exact hl',fun x hx=>?_,fun i hi=>?_,fun i x m' hi hxi hmi=>?_,hk'.trans hk5,hf5.mono (by omega)⟩ (aZ.refl _)
  ·rcases List.mem_or_eq_of_mem_set hx with h9 | h9
   ·exact h2' x h9
   ·subst h9; rfl
  ·rw[List.getElem?_set_ne (by omega)]; exact hun i (by omega)
  ·by_cases hik:k=i
   ·subst hik
    rw[List.getElem?_set_self (by omega)] at hxi
    cases hxi
    rw[hrk] at hmi
    cases hmi
    exact⟨r,rfl,hR5,hol⟩
   ·rw[List.getElem?_set_ne hik] at hxi
    obtain⟨ov',q1,q2,q3⟩:=hpr i x m' (by omega) hxi hmi
    exact⟨ov',q1,q2.sub (hk5.del (l:=mid::X) (l':=mid::X) (fun k hk=>by simp at hk; subst hk; exact List.mem_cons_self ..) fun k hk=>.inl hk) fun _ _ h=>h,q3⟩
 ·(repeat refine zzC ?_)
  refine hx _ _ _ _ (fun e=>by cases e) ?_
  have hmX:mid ∉ X:=fun hm=>by have:=hX mid hm; omega
  refine hQ _ _ _ e2 e3 e6 e9 e19 e20 e21 e33 e34 e35 (by omega) (hf'.mono (by omega)) hk' ⟨mcs,?_,hl',fun i x m hx hm=>?_⟩
  ·have:(del h' X).get mid=some (.cells mcs.flatten.toArray bR):=jL hg' hmX
   rw[← hl']
   exact Sl.own this h2' (Nat.le_refl _)
  ·have hi:=(List.getElem?_eq_some_iff.1 hx).1
   obtain⟨ov',q1,q2,q3⟩:=hpr i x m (by omega) hx hm
   exact⟨ov',q1,q2.sub (t7 fun k hk=>List.mem_cons_of_mem _ hk) fun _ _ h=>h,by unfold nJ; omega⟩
end
end V
end Go.Proofs.YtcaccnneblghgaaGreat
namespace Go.Proofs.YtcaccnneblghgaaGreat
namespace V
attribute [local irreducible] aB bA aW dM eR gI dH
theorem aSR:iM Tryz.prog hU=some (.slice fN):=by kernel_rfl
theorem aT0:∃ i,tin Tryz.prog fN=some i∧i.size=1∧i.bytes=24:=yP (by kernel_rfl)
theorem aT9:nF Tryz.prog fN=some (.slice none 0 0):=by kernel_rfl
theorem aTA (aid:Nat) (a:Option Addr) (n c:Nat):b7 Tryz.prog hU aid 1 [(0,.slice a n c)]=some (.slice (some (own aid 1)) 1 1,some (.cells [Value.slice a n c].toArray fN)):=by kernel_rfl
def wsC (ws:List Value):List (List Value):=ws.map fun w=>[w]
theorem aKO (ws:List Value):(wsC ws).length=ws.length:=by simp[wsC]
theorem aTQ {ro:Ro}{h:T Obj}{w:Value}{row:List MoveD} (hr:iO ro h w 2 (aAg ro h) row):∃ cs,Sl ro h w 2 cs∧cs.length=row.length∧cs.flatten.all eA=true∧(∀ x∈cs,x.length=2)∧∀ (i:Nat) x m,cs[i]?=some x→row[i]?=some m→aAg ro h x m:=by
 obtain⟨cs,h1,h2,h3⟩:=hr
 refine⟨cs,h1,h2,?_,?_,h3⟩
 ·rw[List.all_eq_true]
  intro x hx
  obtain⟨y,hy,hxy⟩:=List.mem_flatten.1 hx
  obtain⟨i,hi⟩:=List.getElem?_of_mem hy
  have hlt:=(List.getElem?_eq_some_iff.1 hi).1
  obtain⟨ov,rfl,hov,_⟩:=h3 i _ _ hi (List.getElem?_eq_getElem (by omega))
  simp at hxy
  rcases hxy with rfl | rfl
  ·rfl
  ·exact iO.okC hov
 ·intro y hy
  obtain⟨i,hi⟩:=List.getElem?_of_mem hy
  have hlt:=(List.getElem?_eq_some_iff.1 hi).1
  obtain⟨ov,rfl,_⟩:=h3 i _ _ hi (List.getElem?_eq_getElem (by omega))
  rfl
section
variable {ro:Ro}{h:T Obj}{nx nA:Nat}{X:List Nat}{Q:KE}{e:dL}
set_option maxRecDepth 8000 in
set_option maxHeartbeats 1000000 in
theorem aTe {tid:Nat}{nvs R' U':Value}{rows:List (List MoveD)}{w2 w3 w19 w20 w21:Value} (e2:e 2=w2) (e3:e 3=w3) (e6:e 6=ptr tid) (e19:e 19=w19) (e20:e 20=w20) (e21:e 21=w21) (e33:e 33=nvs) (e34:e 34=.int .i64 rows.length) (e35:e 35=.int .i64 0)
  (hg:h.get tid=some (.cells [dU,R',U',dU].toArray bG)) (hlen:rows.length≤1000000) (hsrc:iO ro (del h [tid]) nvs 1 (vC ro (del h [tid])) rows) (hrow:∀ row∈rows,row≠[]∧row.length≤1000000∧∀ m∈row,m.ops.length≤1000000)
  (hf:Fr h nx) (hX:∀ k∈X,k < nA) (htid:nA≤tid) (hnA:nA≤nx)
  (hQ:∀ (e':dL) h' n' nv,e' 2=w2→e' 3=w3→e' 6=ptr tid→e' 19=w19→e' 20=w20→e' 21=w21→nx≤n'→Fr h' n'→eB [tid] h h'→h'.get tid=some (.cells [dU,R',U',nv].toArray bG) →
   iO ro (del h' (tid::X)) nv 1 (vC ro (del h' (tid::X))) rows→Q (.exit 2) e' h' n'):dZ (wN ro) e h nx Q:=by
 have hlt:=hf.lt' hg
 refine bM (fun j e h' nx'=>∃ (k:Nat) (ws:List Value) (nv:Value),k+j=rows.length∧nx≤nx'∧e 2=w2∧e 3=w3∧e 6=ptr tid∧e 19=w19∧e 20=w20∧e 21=w21∧e 33=nvs∧e 34=.int .i64 rows.length∧e 35=.int .i64 k ∧
  h'.get tid=some (.cells [dU,R',U',nv].toArray bG)∧eD h' nv 1 fN (wsC ws) nx∧ws.length=k∧(∀ (i:Nat) w row,ws[i]?=some w→rows[i]?=some row→vC ro (del h' (tid::(kV nv++X))) [w] row)∧eB [tid] h h'∧Fr h' nx') ?_ (n:=rows.length)
  ⟨0,[],dU,by omega,by omega,e2,e3,e6,e19,e20,e21,e33,e34,e35,hg,eD.nil,rfl,fun i w row hw=>by simp at hw,(aZ.refl h).keepL,hf⟩
 rintro j e h' nx' ⟨k,ws,nv,hj,hnx,e2,e3,e6,e19,e20,e21,e33,e34,e35,hg',ho',hwl,hfa,hk',hf'⟩ Q' hq hx
 unfold wN
 rw[e33,e34,e35]
 refine dS (fun hk=>?_) (fun hk=>?_)
 ·have hk:k < rows.length:=by omega
  have hD:aZ (del h [tid]) h':=hk'.delS fun k h=>h
  have hs':=hsrc.sub hD (vC.sub hD)
  have hix:=hs'.ix .i64 hk
  obtain⟨w0,⟨w0',hw1,hw2,hw3⟩,hld⟩:=hs'.at1 hk
  simp only[List.cons.injEq,and_true] at hw1
  subst hw1
  have hrk:rows[k]?=some rows[k]:=List.getElem?_eq_getElem _
  obtain⟨b1,b2,b3⟩:=hrow _ (List.getElem_mem hk)
  generalize rows[k]=row at hw2 hw3 hrk b1 b2 b3
  obtain⟨cs,c1,c2,c3,c4,c5⟩:=aTQ hw2
  (repeat refine zzC ?_)
  refine aA hix (aA hld ?_)
  refine aJP c1 c3 (by omega) (hf'.mono (by omega)) fun r h1 n1 hn1 hf1 hs1 ho1=>?_
  have hlnr:=(ho1.sl (ro:=ro)).len
  rw[c2] at hlnr
  rcases ho1 with ⟨_,hnil⟩ | ⟨mid,hmid,rfl,hz1,hg1⟩
  ·exact absurd (List.length_eq_zero_iff.1 (by rw[← c2,hnil]; rfl)) b1
  rw[c2]
  refine aA rfl ?_
  have hmlt:=hf1.lt' hg1
  have hs1m:aZ h' (del h1 [mid]):=hs1.delN hf' fun i hi=>by simp at hi; omega
  refine aTf (ro:=ro) (mid:=mid) (row:=row) (mcs0:=cs) (nA:=nx'+6) (X:=tid::(kV nv++X)) e2 e3 e6 e19 e20 e21 e33 e34 e35 rfl rfl rfl rfl hg1 c2 hz1 b2 (fun i x m hxi hmi=>?_) (hf1.mono (by omega)) (fun k hk=>?_) hmid (by omega) ?_
  ·obtain⟨ov,rfl,hov,_⟩:=c5 i x m hxi hmi
   exact⟨ov,rfl,hov.sub hs1m fun _ _ h=>h,b3 m (List.mem_of_getElem? hmi)⟩
  ·rcases List.mem_cons.1 hk with rfl | hk
   ·have:=hf'.lt' hg'; omega
   ·rcases List.mem_append.1 hk with hk | hk
    ·have h9:=(ho'.blk (eW.1 hk)).2
     have:=hf'.lt' h9; omega
    ·have:=hX k hk; omega
  ·intro e4 h2 n2 f2 f3 f6 f9 f19 f20 f21 f33 f34 f35 hn2 hf2 hk2 hrw
   have hs2:aZ h' h2:=fun k o hk=>hk2 k o (hs1 k o hk) fun hm=>by have:=hf'.lt' hk; simp at hm; omega
   have hg2:=hs2 _ _ hg'
   have ho2:=ho'.keepS hs2
   have hj5:∀ (e5:dL) n3,e5 2=w2→e5 3=w3→e5 6=ptr tid→e5 9=.slice (some (own mid 2)) row.length row.length→e5 19=w19→e5 20=w20→e5 21=w21→e5 33=nvs→e5 34=.int .i64 rows.length→e5 35=.int .i64 k→n2≤n3→rP ro Q' e5 h2 n3:=by
    intro e5 n3 u2 u3 u6 u9 u19 u20 u21 u33 u34 u35 hn3
    unfold rP
    rw[u6,u9]
    (repeat refine zzC ?_)
    refine aA (aV (l:=[dU,R',U',nv]) hg2 rfl) ?_
    obtain⟨i,t1,t2,t3⟩:=aT0
    have hn1lt:jU nv≠some (n3+3):=fun e=>by
     have h9:=(ho2.blk e).2
     have:=hf2.lt' h9; omega
    refine yR (z:=1) (l:=wsC ws) (y:=[.slice (some (own mid 2)) row.length row.length]) (aTA _ _ _ _) rfl ho2 aSR t1 (by omega) (by omega) aT9 rfl rfl (by rw[aKO,t3]; unfold oG; omega) (by rw[aKO]; unfold oG; omega) (hf2.mono (by omega)) (by omega) (by omega) hn1lt fun h3 ho3 hk3 hf3=>?_
    have ewc:wsC ws++[[.slice (some (own mid 2)) row.length row.length]]=wsC (ws++[.slice (some (own mid 2)) row.length row.length]):=by simp[wsC]
    rw[ewc] at ho3 ⊢
    generalize hnv:Value.slice (some (own (n3+5) 1)) (wsC (ws++[.slice (some (own mid 2)) row.length row.length])).length (wsC (ws++[.slice (some (own mid 2)) row.length row.length])).length=nv2 at ho3
    have hsb2:jU nv2=some (n3+5):=by rw[← hnv]; rfl
    have hg3:=hk3 _ _ hg2 (by have:=hf2.lt' hg2; omega) (fun e=>(ho2.ne hg2 (by decide)) e)
    dsimp only
    (repeat refine zzC ?_)
    refine aA (bX (l:=[dU,R',U',nv]) hg3 (by show 3 < 4; omega) ho3.ok (by rw[← hnv]; rfl)) ?_
    have hk4:eB (tid::kV nv) h2 (h3.upd tid (some (.cells ([dU,R',U',nv].set 3 nv2).toArray bG))):=fun k o hk hn=>by
     have h9:k≠tid:=fun e=>hn (by rw[e]; exact List.mem_cons_self ..)
     have h10:jU nv≠some k:=fun e=>hn (List.mem_cons_of_mem _ (eW.2 e))
     rw[T.get_upd_ne _ _ h9]
     exact hk3 k o hk (by have:=hf2.lt' hk; omega) h10
    have ho4:eD (h3.upd tid (some (.cells ([dU,R',U',nv].set 3 nv2).toArray bG))) nv2 1 fN (wsC (ws++[.slice (some (own mid 2)) row.length row.length])) nx:=by
     have hkk:eB [tid] h3 (h3.upd tid (some (.cells ([dU,R',U',nv].set 3 nv2).toArray bG))):=(aZ.refl h3).keepL.upd (by simp)
     exact ho3.keepK hkk fun id hid hm=>by rw[hsb2] at hid; cases hid; simp at hm; have:=hf2.lt' hg2; omega
    have hf4:Fr (h3.upd tid (some (.cells ([dU,R',U',nv].set 3 nv2).toArray bG))) (n3+6):=(hf3.mono (by omega)).upd (Nat.le_refl _) (by omega)
    have g4:(h3.upd tid (some (.cells ([dU,R',U',nv].set 3 nv2).toArray bG))).get tid=some (.cells [dU,R',U',nv2].toArray bG):=T.get_upd_same _ _ _
    generalize (h3.upd tid (some (.cells ([dU,R',U',nv].set 3 nv2).toArray bG)))=h4 at hk4 ho4 hf4 g4
    have hmono:aZ (del h2 (tid::(kV nv++X))) (del h4 (tid::(kV nv2++X))):=hk4.del (fun k hk=>by
      rcases List.mem_cons.1 hk with rfl | hk
      ·exact List.mem_cons_self ..
      ·exact List.mem_cons_of_mem _ (List.mem_append.2 (.inl hk))) fun k hk=>by
     rcases List.mem_cons.1 hk with rfl | hk
     ·exact .inl (List.mem_cons_self ..)
     ·rcases List.mem_append.1 hk with hk | hk
      ·have:=eW.1 hk
       rw[hsb2] at this
       cases this
       exact .inr (hf2 _ (by omega))
      ·exact .inl (List.mem_cons_of_mem _ (List.mem_append.2 (.inr hk)))
    have hj4:∀ (e6':dL) n6,e6' 2=w2→e6' 3=w3→e6' 6=ptr tid→e6' 19=w19→e6' 20=w20→e6' 21=w21→e6' 33=nvs→e6' 34=.int .i64 rows.length→e6' 35=.int .i64 k→n3+6≤n6→rO ro Q' e6' h4 n6:=by
     intro e6' n6 v2 v3 v6 v19 v20 v21 v33 v34 v35 hn6
     unfold rO
     rw[v35]
     (repeat refine zzC ?_)
     refine hq (j - 1) _ _ _ _ (by omega) ⟨k+1,ws++[.slice (some (own mid 2)) row.length row.length],nv2,by omega,by omega,v2,v3,v6,v19,v20,v21,v33,v34,rfl,g4,ho4,by simp[hwl],fun i w row' hwi hri=>?_,fun k' o hk9 hn9=>?_,hf4.mono (by omega)⟩ (aZ.refl _)
     ·rcases Nat.lt_or_ge i ws.length with hi | hi
      ·rw[List.getElem?_append_left hi] at hwi
       have h9:=hfa i w row' hwi hri
       have hkeep2:aZ (del h' (tid::(kV nv++X))) (del h2 (tid::(kV nv++X))):=(aZ.keepL hs2:eB [] h' h2).del (fun k hk=>by cases hk) fun k hk=>.inl hk
       exact vC.sub (hkeep2.trans hmono) _ _ h9
      ·rw[List.getElem?_append_right hi] at hwi
       have hlt9:=(List.getElem?_eq_some_iff.1 hwi).1
       have:i=k:=by simp at hlt9; omega
       subst this
       rw[hrk] at hri
       cases hri
       have:w=.slice (some (own mid 2)) row.length row.length:=by have:=List.mem_of_getElem? hwi; simpa using this
       subst this
       exact⟨_,rfl,hrw.sub hmono (aAg.sub hmono),by unfold nJ; omega⟩
     ·have h10:=hs2 _ _ (hk' k' o hk9 hn9)
      have hk'lt:=hf.lt' hk9
      refine hk4 k' o h10 fun hm=>?_
      rcases List.mem_cons.1 hm with rfl | hm
      ·exact hn9 (by simp)
      ·have:=(ho2.blk (eW.1 hm)).1; omega
    exact hj4 _ _ u2 u3 u6 u19 u20 u21 u33 u34 u35 (by omega)
   refine eE (dG ?_)
   exact hj5 _ _ f2 f3 f6 f9 f19 f20 f21 f33 f34 f35 (Nat.le_refl _)
 ·(repeat refine zzC ?_)
  refine hx _ _ _ _ (fun e=>by cases e) ?_
  have hnt:∀ id,jU nv=some id→id ∉ tid::X:=fun id hid hm=>by
   have h9:=ho'.blk hid
   rcases List.mem_cons.1 hm with rfl | hm
   ·exact (ho'.ne hg' (by decide)) hid
   ·have:=hX id hm; omega
  have hsub:aZ (del h' (tid::(kV nv++X))) (del h' (tid::X)):=t7 fun k hk=>by
   rcases List.mem_cons.1 hk with rfl | hk
   ·exact List.mem_cons_self ..
   ·exact List.mem_cons_of_mem _ (List.mem_append.2 (.inr hk))
  refine hQ _ _ _ nv e2 e3 e6 e19 e20 e21 (by omega) (hf'.mono (by omega)) hk' hg' ⟨wsC ws,(ho'.del hnt).sl,by rw[aKO]; omega,fun i x row hxi hri=>?_⟩
  simp only[wsC,List.getElem?_map] at hxi
  cases hw:ws[i]? with
  | none=>rw[hw] at hxi; cases hxi
  | some w =>
   rw[hw] at hxi
   cases hxi
   exact vC.sub hsub _ _ (hfa i w row hw hri)
end
end V
end Go.Proofs.YtcaccnneblghgaaGreat
namespace Go.Proofs.YtcaccnneblghgaaGreat
namespace V
attribute [local irreducible] aB bA aW dM eR gI dH
def erS (s:StateD):StateD:=⟨[],s.r,s.rule,s.next⟩
def er (d:AutoD):AutoD:=⟨d.c,d.many,d.counts,d.states.map erS⟩
theorem aCN {P:Program}{t:TypeId}{z:Array Value}{fs:Array Field}{pl:List (Nat × Nat)}{parts:List (Nat × Value)}{l:List Value} (h1:nF P t=some (.agg z)) (h2:iM P t=some (.struct fs)) (h3:rV P fs.toList=some pl) (h4:qX (pl[·]?) z.toList parts=some l):fG P t parts=some (.agg l.toArray):=by
 unfold fG
 rw[h1]
 simp only[Option.bind,h2,h3,Value.cells_agg,h4]
theorem aOJ {P:Program}{t:TypeId}{pl:List (Nat × Nat)} (h:((iM P t).bind fun d=>match d with
  | .struct fs=>rV P fs.toList
  | _=>none)=some pl):∃ fs,iM P t=some (.struct fs)∧rV P fs.toList=some pl:=by
 obtain⟨d,h2,h3⟩:=aP h
 cases d<;>try (cases h3; done)
 exact⟨_,h2,h3⟩
theorem aL4 {a b c:List Value} (h:c.length=a.length):over (a++b) 0 c=c++b:=by
 unfold over
 rw[List.take_zero,List.nil_append,Nat.zero_add,h,List.drop_left]
theorem aK3 {c:List Nat}{n:Int}{cv:Value} (hc:c.length=256) (hcv:cv.cells=#[cv]):fG Tryz.prog cD [(0,pZ c n),(1,cv)]=some (.agg (eU c n cv dU).toArray):=by
 obtain⟨fs,h1,h2⟩:=aOJ (P:=Tryz.prog) (t:=cD) (pl:=[(0,257),(257,1),(258,1)]) (by kernel_rfl)
 refine aCN aHe h1 h2 ?_
 have hs:(gF (List.replicate 256 0) 0).length=257:=fM List.length_replicate
 have hs2:(gF c n).length=257:=fM hc
 have e1:Nat.beq (pZ c n).cells.size 257=true:=by rw[pN]; simp[hs2]
 have e2:Nat.ble (0+257) aAK.length=true:=by rw[wF]; rfl
 have o1:over aAK 0 (pZ c n).cells.toList=eU c n dU dU:=by
  rw[pN]
  exact aL4 (by rw[hs,hs2])
 have e3:Nat.beq cv.cells.size 1=true:=by rw[hcv]; rfl
 have e4:Nat.ble (257+1) (eU c n dU dU).length=true:=by rw[d5 hc]; rfl
 have o2:over (eU c n dU dU) 257 cv.cells.toList=eU c n cv dU:=by
  rw[hcv]
  show over _ 257 [cv]=_
  rw[aGz _ (by rw[d5 hc]; omega),aKY hc]
 show qX _ aAK _=_
 simp only[qX,List.getElem?_cons_zero,List.getElem?_cons_succ,Option.bind,e1,e2,o1,e3,e4,o2]
theorem aLJ {P:Program}{h:T Obj}{a n:Nat}{ty:TypeId}{zv v:Value}{x:List Value}{K:T Obj→Prop} (hz:nF P ty=some zv) (hzs:zv.cells.size=n) (hv:v.cells=x.toArray) (hx:x.length=n) (hok:x.all eA=true)
  (hK:∀ h',h'.get a=some (.cells x.toArray ty)→(∀ k,k≠a→h'.get k=h.get k)→K h') :
  aB (nF P ty) fun z=>dM h a (.cells z.cells ty) fun h1=>aB (bU n h1 (ptr a) v) K:=by
 refine aA hz (aE (aA (nD (l:=zv.cells.toList) (vs:=x) (e:=ty) (f:=(0,0)) (by rw[T.get_upd_same]) hv hx (by simpa using hzs) hok) ?_))
 exact hK _ (by rw[T.get_upd_same]) fun k hk=>by rw[T.get_upd_ne _ _ hk,T.get_upd_ne _ _ hk]
theorem aJN (a b:Value) (h1:a.cells=#[a]) (h2:b.cells=#[b]):fG Tryz.prog bG [(1,a),(2,b)]=some (.agg #[dU,a,b,dU]):=by
 obtain⟨fs,g1,g2⟩:=aOJ (P:=Tryz.prog) (t:=bG) (pl:=[(0,1),(1,1),(2,1),(3,1)]) (by kernel_rfl)
 refine aCN tN g1 g2 ?_
 simp only[qX,List.getElem?_cons_zero,List.getElem?_cons_succ,Option.bind,h1,h2]
 rfl
theorem eD.cells {h:T Obj}{v:Value}{z:Nat}{e:TypeId}{l:List (List Value)}{lo:Nat} (ho:eD h v z e l lo):v.cells=#[v]:=by
 rcases ho with ⟨rfl,_⟩ | ⟨id,_,rfl,_⟩<;>rfl
def Fit (d:AutoD):Prop:=d.counts.length≤1000000∧d.states.length≤1000000∧∀ s∈d.states,s.r.length≤1000000∧s.rule.length≤1000000∧s.next.length≤1000000∧∀ row∈s.next,row≠[]∧row.length≤1000000∧∀ m∈row,m.ops.length≤1000000
section
variable {ro:Ro}{h:T Obj}{nx:Nat}{Q:KE}{e:dL}
set_option maxRecDepth 8000 in
set_option maxHeartbeats 2000000 in
theorem aTd {X:List Nat}{rid oid:Nat}{c:List Nat}{n:Int}{cv svs:Value}{S:List StateD} (hc:c.length=256) (e2:e 2=ptr rid) (e3:e 3=ptr oid) (e19:e 19=svs) (e20:e 20=.int .i64 S.length) (e21:e 21=.int .i64 0)
  (hg:h.get oid=some (.cells (eU c n cv dU).toArray cD)) (hgr:h.get rid=some (.cells aAK.toArray cD)) (hro:rid≠oid) (hsrc:iO ro (del h [oid]) svs 4 (eT ro (del h [oid])) S) (hlen:S.length≤1000000)
  (hfit:∀ s∈S,s.r.length≤1000000∧s.rule.length≤1000000∧s.next.length≤1000000∧∀ row∈s.next,row≠[]∧row.length≤1000000∧∀ m∈row,m.ops.length≤1000000) (hf:Fr h nx) (hX:∀ k∈X,k < nx)
  (hQ:∀ (e':dL) h' n' sv,e' 2=ptr rid→e' 3=ptr oid→nx≤n'→Fr h' n'→eB [oid] h h'→h'.get oid=some (.cells (eU c n cv sv).toArray cD)→eA sv=true →
   iO ro (del h' (oid::X)) sv 4 (eT ro (del h' (oid::X))) (S.map erS)→Q (.exit 0) e' h' n'):dZ (wM ro) e h nx Q:=by
 have hlt:=hf.lt' hg
 have hltr:=hf.lt' hgr
 refine bM (fun j e h' nx'=>∃ (k:Nat) (cs:List (List Value)) (sv:Value),k+j=S.length∧nx≤nx'∧e 2=ptr rid∧e 3=ptr oid∧e 19=svs∧e 20=.int .i64 S.length∧e 21=.int .i64 k ∧
  h'.get oid=some (.cells (eU c n cv sv).toArray cD)∧eD h' sv 4 bG cs nx∧cs.length=k∧(∀ (i:Nat) x s,cs[i]?=some x→S[i]?=some s→eT ro (del h' (oid::(kV sv++X))) x (erS s))∧eB [oid] h h'∧Fr h' nx') ?_ (n:=S.length)
  ⟨0,[],dU,by omega,by omega,e2,e3,e19,e20,e21,hg,eD.nil,rfl,fun i x s hx=>by simp at hx,(aZ.refl h).keepL,hf⟩
 rintro j e h' nx' ⟨k,cs,sv,hj,hnx,e2,e3,e19,e20,e21,hg',ho',hcl,hfa,hk',hf'⟩ Q' hq hx
 unfold wM
 rw[e19,e20,e21]
 refine dS (fun hk=>?_) (fun hk=>?_)
 ·have hk:k < S.length:=by omega
  have hD:aZ (del h [oid]) h':=hk'.delS fun k h=>h
  have hs':=hsrc.sub hD (eT.sub hD)
  have hix:=hs'.ix .i64 hk
  have hsk:S[k]?=some S[k]:=List.getElem?_eq_getElem _
  obtain⟨x,⟨lv,rv,uv,nv,rfl,y1,y2,y3,y4,y5⟩,hx2,hx3,hx4,hx5⟩:=hs'.at hk
  obtain⟨b1,b2,b3,b4⟩:=hfit _ (List.getElem_mem hk)
  generalize S[k]=s at y1 y2 y3 y4 y5 b1 b2 b3 b4 hsk
  have hlt':=hf'.lt' hg'
  (repeat refine zzC ?_)
  refine aA hix (aA hx3 ?_)
  refine jB (x:=[lv,rv,uv,nv]) tN rfl rfl rfl (by simp[y1.ok,y2.ok,y3.ok,iO.okC y4]) hf' (by omega) fun h1 hs1 hf1 g1 _=>?_
  (repeat refine zzC ?_)
  refine aA (aV (l:=[lv,rv,uv,nv]) g1 rfl) ?_
  refine xX (y2.sub hs1) b1 (hf1.mono (by omega)) fun R' h2 n2 hn2 hf2 hs2 ho2=>?_
  (repeat refine zzC ?_)
  refine aA (aV (l:=[lv,rv,uv,nv]) (hs2 _ _ g1) rfl) ?_
  refine⟨eL g1 (hs2 _ _ g1),?_⟩
  refine xX (y3.sub (hs1.trans hs2)) b2 hf2 fun U' h3 n3 hn3 hf3 hs3 ho3=>?_
  refine aA (aJN _ _ ho2.cells ho3.cells) ?_
  refine aLJ (x:=[dU,R',U',dU]) tN rfl rfl rfl (by simp[show eA dU=true from rfl,ho2.ok,ho3.ok]) fun h4 g4 ho4=>?_
  have hs13:aZ h' h3:=(hs1.trans hs2).trans hs3
  have hs4:aZ h' h4:=fun k o hk=>by rw[ho4 k (by have:=hf'.lt' hk; omega)]; exact hs13 k o hk
  have hs4t:aZ h' (del h4 [nx'+12]):=fun k o hk=>jL (hs4 k o hk) (by have:=hf'.lt' hk; simp; omega)
  have hf4:Fr h4 n3:=fun k hk=>by rw[ho4 k (by omega)]; exact hf3 k hk
  have g14:h4.get (nx'+3)=some (.cells [lv,rv,uv,nv].toArray bG):=by rw[ho4 _ (by omega)]; exact hs3 _ _ (hs2 _ _ g1)
  have hnl:=(y4.sub hs4 (vC.sub hs4)).len
  (repeat refine zzC ?_)
  refine aA (aV (l:=[lv,rv,uv,nv]) g14 rfl) ?_
  refine aA hnl ?_
  refine aTe (ro:=ro) (tid:=nx'+12) (rows:=s.next) (R':=R') (U':=U') (X:=oid::(kV sv++X)) (nA:=nx') e2 e3 rfl e19 e20 e21 rfl rfl rfl g4 b3 (y4.sub hs4t (vC.sub hs4t)) b4 (hf4.mono (by omega)) (fun k hk=>?_) (by omega) (by omega) ?_
  ·rcases List.mem_cons.1 hk with rfl | hk
   ·exact hlt'
   ·rcases List.mem_append.1 hk with hk | hk
    ·exact hf'.lt' (ho'.blk (eW.1 hk)).2
    ·have:=hX k hk; omega
  ·intro e5 h5 n5 nv5 f2 f3 f6 f19 f20 f21 hn5 hf5 hk5 g5 hnx5
   have hs5:aZ h' h5:=fun k o hk=>hk5 k o (hs4 k o hk) (by have:=hf'.lt' hk; simp; omega)
   have hg5:=hs5 _ _ hg'
   have ho5:=ho'.keepS hs5
   have hR5:eD h5 R' 1 dY (lL s.r) (nx'+14):=((ho2.keepS hs3).keepK (ids:=[nx'+12]) (h':=h4) (fun k o hk hn=>by rw[ho4 k (by simpa using hn)]; exact hk) fun id hid hm=>by have:=(ho2.blk hid).1; simp at hm; omega).keepK hk5 fun id hid hm=>by have:=(ho2.blk hid).1; simp at hm; omega
   have hU5:eD h5 U' 1 dY (lL s.rule) n2:=(ho3.keepK (ids:=[nx'+12]) (h':=h4) (fun k o hk hn=>by rw[ho4 k (by simpa using hn)]; exact hk) fun id hid hm=>by have:=(ho3.blk hid).1; simp at hm; omega).keepK hk5 fun id hid hm=>by have:=(ho3.blk hid).1; simp at hm; omega
   have hXlt:∀ k∈oid::(kV sv++X),k < nx':=fun k hk=>by
    rcases List.mem_cons.1 hk with rfl | hk
    ·exact hlt'
    ·rcases List.mem_append.1 hk with hk | hk
     ·exact hf'.lt' (ho'.blk (eW.1 hk)).2
     ·have:=hX k hk; omega
   have hst:eT ro (del h5 (oid::(kV sv++X))) [dU,R',U',nv5] (erS s):=by
    refine⟨dU,R',U',nv5,rfl,Sl.nil,(hR5.del fun id hid hm=>?_).sl,(hU5.del fun id hid hm=>?_).sl,hnx5.sub (t7 fun k hk=>List.mem_cons_of_mem _ hk) (vC.sub (t7 fun k hk=>List.mem_cons_of_mem _ hk)),y5⟩
    ·have:=(hR5.blk hid).1; have:=hXlt id hm; omega
    ·have:=(hU5.blk hid).1; have:=hXlt id hm; omega
   have hnv5:eA nv5=true:=iO.okC hnx5
   have hj3:∀ (e6:dL) n6,e6 2=ptr rid→e6 3=ptr oid→e6 6=ptr (nx'+12)→e6 19=svs→e6 20=.int .i64 S.length→e6 21=.int .i64 k→n5≤n6→rN ro Q' e6 h5 n6:=by
    intro e6 n6 u2 u3 u6 u19 u20 u21 hn6
    unfold rN
    rw[u3,u6]
    (repeat refine zzC ?_)
    refine aA (aV hg5 (jW hc)) ?_
    refine aA (dW (l:=[dU,R',U',nv5]) g5 rfl) ?_
    obtain⟨i,t1,t2,t3⟩:=aPK
    have hn1lt:jU sv≠some (n6+3):=fun e=>by
     have h9:=(ho5.blk e).2
     have:=hf5.lt' h9; omega
    refine yR (z:=4) (l:=cs) (y:=[dU,R',U',nv5]) (aOl _ _ _ _ _) rfl ho5 aN5 t1 (by omega) (by omega) tN rfl (by simp[show eA dU=true from rfl,hR5.ok,hU5.ok,hnv5]) (by rw[t3]; unfold oG; omega) (by unfold oG; omega) (hf5.mono (by omega)) (by omega) (by omega) hn1lt fun h7 ho7 hk7 hf7=>?_
    generalize hnv:Value.slice (some (own (n6+5) 4)) (cs++[[dU,R',U',nv5]]).length (cs++[[dU,R',U',nv5]]).length=sv2 at ho7
    have hsb2:jU sv2=some (n6+5):=by rw[← hnv]; rfl
    have hg7:=hk7 _ _ hg5 (by have:=hf5.lt' hg5; omega) (fun e=>(ho5.ne hg5 (by decide)) e)
    dsimp only
    (repeat refine zzC ?_)
    refine aA (bX hg7 (by rw[d5 hc]; omega) ho7.ok (by rw[← hnv]; rfl)) ?_
    rw[aP2 hc]
    have hk8:eB (oid::kV sv) h5 (h7.upd oid (some (.cells (eU c n cv sv2).toArray cD))):=fun k o hk hn=>by
     have h9:k≠oid:=fun e=>hn (by rw[e]; exact List.mem_cons_self ..)
     have h10:jU sv≠some k:=fun e=>hn (List.mem_cons_of_mem _ (eW.2 e))
     rw[T.get_upd_ne _ _ h9]
     exact hk7 k o hk (by have:=hf5.lt' hk; omega) h10
    have ho8:eD (h7.upd oid (some (.cells (eU c n cv sv2).toArray cD))) sv2 4 bG (cs++[[dU,R',U',nv5]]) nx:=by
     have hkk:eB [oid] h7 (h7.upd oid (some (.cells (eU c n cv sv2).toArray cD))):=(aZ.refl h7).keepL.upd (by simp)
     exact ho7.keepK hkk fun id hid hm=>by rw[hsb2] at hid; cases hid; simp at hm; have:=hf5.lt' hg5; omega
    have hf8:Fr (h7.upd oid (some (.cells (eU c n cv sv2).toArray cD))) (n6+6):=(hf7.mono (by omega)).upd (Nat.le_refl _) (by omega)
    have g8:(h7.upd oid (some (.cells (eU c n cv sv2).toArray cD))).get oid=some (.cells (eU c n cv sv2).toArray cD):=T.get_upd_same _ _ _
    generalize (h7.upd oid (some (.cells (eU c n cv sv2).toArray cD)))=h8 at hk8 ho8 hf8 g8
    have hmono:aZ (del h5 (oid::(kV sv++X))) (del h8 (oid::(kV sv2++X))):=hk8.del (fun k hk=>by
      rcases List.mem_cons.1 hk with rfl | hk
      ·exact List.mem_cons_self ..
      ·exact List.mem_cons_of_mem _ (List.mem_append.2 (.inl hk))) fun k hk=>by
     rcases List.mem_cons.1 hk with rfl | hk
     ·exact .inl (List.mem_cons_self ..)
     ·rcases List.mem_append.1 hk with hk | hk
      ·have:=eW.1 hk
       rw[hsb2] at this
       cases this
       exact .inr (hf5 _ (by omega))
      ·exact .inl (List.mem_cons_of_mem _ (List.mem_append.2 (.inr hk)))
    have hj2:∀ (e9:dL) n9,e9 2=ptr rid→e9 3=ptr oid→e9 19=svs→e9 20=.int .i64 S.length→e9 21=.int .i64 k→n6+6≤n9→rM ro Q' e9 h8 n9:=by
     intro e9 n9 v2 v3 v19 v20 v21 hn9
     unfold rM
     rw[v21]
     (repeat refine zzC ?_)
     refine hq (j - 1) _ _ _ _ (by omega) ⟨k+1,cs++[[dU,R',U',nv5]],sv2,by omega,by omega,v2,v3,v19,v20,rfl,g8,ho8,by simp[hcl],fun i x s' hxi hsi=>?_,fun k' o hk9 hn9=>?_,hf8.mono (by omega)⟩ (aZ.refl _)
     ·rcases Nat.lt_or_ge i cs.length with hi | hi
      ·rw[List.getElem?_append_left hi] at hxi
       have h9:=hfa i x s' hxi hsi
       have hkeep2:aZ (del h' (oid::(kV sv++X))) (del h5 (oid::(kV sv++X))):=(aZ.keepL hs5:eB [] h' h5).del (fun k hk=>by cases hk) fun k hk=>.inl hk
       exact eT.sub (hkeep2.trans hmono) _ _ h9
      ·rw[List.getElem?_append_right hi] at hxi
       have hlt9:=(List.getElem?_eq_some_iff.1 hxi).1
       have:i=k:=by simp at hlt9; omega
       subst this
       rw[hsk] at hsi
       cases hsi
       have:x=[dU,R',U',nv5]:=by have:=List.mem_of_getElem? hxi; simpa using this
       subst this
       exact eT.sub hmono _ _ hst
     ·have h10:=hs5 _ _ (hk' k' o hk9 hn9)
      have hk'lt:=hf.lt' hk9
      refine hk8 k' o h10 fun hm=>?_
      rcases List.mem_cons.1 hm with rfl | hm
      ·exact hn9 (by simp)
      ·have:=(ho5.blk (eW.1 hm)).1; omega
    exact hj2 _ _ u2 u3 u19 u20 u21 (by omega)
   refine eE (dG ?_)
   exact hj3 _ _ f2 f3 f6 f19 f20 f21 (Nat.le_refl _)
 ·(repeat refine zzC ?_)
  refine hx _ _ _ _ (fun e=>by cases e) ?_
  have hnt:∀ id,jU sv=some id→id ∉ oid::X:=fun id hid hm=>by
   have h9:=ho'.blk hid
   rcases List.mem_cons.1 hm with rfl | hm
   ·exact (ho'.ne hg' (by decide)) hid
   ·have:=hX id hm; omega
  have hsub:aZ (del h' (oid::(kV sv++X))) (del h' (oid::X)):=t7 fun k hk=>by
   rcases List.mem_cons.1 hk with rfl | hk
   ·exact List.mem_cons_self ..
   ·exact List.mem_cons_of_mem _ (List.mem_append.2 (.inr hk))
  refine hQ _ _ _ sv e2 e3 (by omega) (hf'.mono (by omega)) hk' hg' ho'.ok ⟨cs,(ho'.del hnt).sl,by rw[List.length_map]; omega,fun i x s hxi hsi=>?_⟩
  rw[List.getElem?_map] at hsi
  cases hs:S[i]? with
  | none=>rw[hs] at hsi; cases hsi
  | some s0 =>
   rw[hs] at hsi
   cases hsi
   exact eT.sub hsub _ _ (hfa i x s0 hxi hs)
end
end V
end Go.Proofs.YtcaccnneblghgaaGreat
namespace Go.Proofs.YtcaccnneblghgaaGreat
namespace V
attribute [local irreducible] aB bA aW dM eR gI dH
theorem aTJ {d:AutoD} (ha:fF d=true) (hcl:d.c.length=256):Fit d:=by
 obtain⟨h1,h2,h3,h4,h5,h6⟩:=eV ha
 have hm0:=aLw hcl h1 0 (by omega)
 have hm:=aDZ h1
 refine⟨by omega,by omega,fun s hs=>?_⟩
 have hk:=h6 s hs
 obtain⟨k1,k2,k3,k4,k5⟩:=uQ hk
 have hc:=aBO (s.r.length:Int)
 refine⟨by omega,by omega,by omega,fun row hrow=>?_⟩
 obtain⟨i,hi⟩:=List.getElem?_of_mem hrow
 have hlt:=(List.getElem?_eq_some_iff.1 hi).1
 have hro:=aKF k5 (by omega) i row _ hi (List.getElem?_eq_getElem (by omega))
 unfold aAp at hro
 simp only[Bool.and_eq_true,decide_eq_true_eq] at hro
 obtain⟨_,_,r3,r4⟩:=hro
 refine⟨fun e=>by rw[e] at r3; simp at r3; omega,by omega,fun m hm=>?_⟩
 have:=aFy (S:=[]) ha (List.all_eq_true.1 r4 m hm)
 omega
theorem aDs (S:List StateD) (i:Nat):(S.map erS).getD i noS=erS (S.getD i noS):=by
 rw[List.getD_eq_getElem?_getD,List.getD_eq_getElem?_getD,List.getElem?_map]
 cases S[i]?<;>rfl
theorem aKK (d:AutoD) (m:MacD):eS (er d) m=erS (eS d m):=aDs _ _
theorem aQl (d:AutoD) (m:MacD):nL (er d) m=nL d m:=by unfold nL; rw[aKK]; rfl
theorem aLV (d:AutoD) (m:MacD) (b:Nat):qZ (er d) m b=qZ d m b:=by unfold qZ; rw[aKK]; rfl
theorem aQ1 (d:AutoD) (t:Int):oB (er d) t=oB d t:=by
 unfold oB
 show (if t=-1 then [] else ((d.states.map erS).getD t.toNat noS).r)=_
 rw[aDs]; rfl
theorem aTK (d:AutoD) (m:MacD) (b:Nat):onM (er d) m b=onM d m b:=by unfold onM; rw[aLV]
theorem aQp (d:AutoD) (m:MacD) (b:Nat):jX (er d) m b=jX d m b:=by unfold jX; rw[aLV,aQ1,aKK]; rfl
theorem aOm {S:List StateD}{R:List Int} (m:MoveD):jC (S.map erS) R m=jC S R m:=by
 unfold jC
 rw[aDs,List.length_map]; rfl
theorem aIw {S:List StateD}{R:List Int}{n:Int}:∀ (us:List Int) (rows:List (List MoveD)),sI (S.map erS) R n us rows=sI S R n us rows
 | [],_=>rfl
 | u::us,[]=>by rw[aAa,aAa]
 | u::us,row::rows=>by
  rw[uG,uG,aIw us rows]
  unfold aAp
  have:row.all (jC (S.map erS) R)=row.all (jC S R):=by congr 1; funext m; exact aOm m
  rw[this]
theorem aOT {d:AutoD} (ha:fF d=true):fF (er d)=true:=by
 unfold fF at ha ⊢
 simp only[Bool.and_eq_true,decide_eq_true_eq] at ha ⊢
 obtain⟨h1,h2,h3,h4,h5,h6,h7⟩:=ha
 refine⟨h1,h2,by show 1≤(d.states.map erS).length; rw[List.length_map]; exact h3,by show (d.states.map erS).length≤256; rw[List.length_map]; exact h4,?_,h6,?_⟩
 ·unfold aCR at h5 ⊢
  simp only[Bool.and_eq_true,decide_eq_true_eq] at h5 ⊢
  refine⟨?_,?_⟩
  ·show ((d.states.map erS).getD 0 noS).l.length=0
   rw[aDs]; rfl
  ·show ((d.states.map erS).getD 0 noS).r.length=0
   rw[aDs]; exact h5.2
 ·show (d.states.map erS).all _=true
  rw[List.all_map,List.all_eq_true]
  intro s hs
  have:=List.all_eq_true.1 h7 s hs
  show iZ (d.states.map erS) d.many d.counts.length (erS s)=true
  unfold iZ at this ⊢
  simp only[Bool.and_eq_true,decide_eq_true_eq] at this ⊢
  obtain⟨k1,k2,k3,k4,k5,k6⟩:=this
  refine⟨k1,k2,k3,rfl,k5,?_⟩
  show sI (d.states.map erS) s.r d.many s.rule s.next=true
  rw[aIw]; exact k6
theorem aJE {d:AutoD}{m:MacD} (h:MOk d m):MOk (er d) m:=⟨by have:=h.1; show m.cur=-1∨0≤m.cur∧m.cur < ((d.states.map erS).length:Int); rw[List.length_map]; exact this,h.2⟩
section
variable {ro:Ro}{h:T Obj}{nx:Nat}{K:KV}
set_option maxRecDepth 8000 in
set_option maxHeartbeats 1000000 in
theorem aHr {X0:List Nat}{x:List Value}{d:AutoD} (hf:Fr h nx) (hX0:∀ k∈X0,k < nx) (hd:sR ro h x d) (hfit:Fit d) (hK:∀ cv sv h' nx',nx≤nx'→Fr h' nx'→aZ h h'→sR ro (del h' X0) (eU d.c d.many cv sv) (er d)→K (.agg (eU d.c d.many cv sv).toArray) h' nx'):aO Tryz.prog ro yW [.agg x.toArray] h nx K:=by
 obtain⟨cv,sv,rfl,hc,hclt,hcv,hS,hb1,hb2⟩:=hd
 obtain⟨f1,f2,f3⟩:=hfit
 have m7:=mQ (n:=d.many) (cv:=cv) (sv:=sv) hc
 have m8:=jW (n:=d.many) (cv:=cv) (sv:=sv) hc
 apply aG6
 unfold aFJ
 refine eZ hf (Nat.le_refl _) fun h1 hs1 hf1 g1 _=>?_
 have g1:h1.get nx=some (.cells (eU d.c d.many cv sv).toArray cD):=g1
 refine aA aHe ?_
 refine aDV hf1 (Nat.le_refl _) fun h2 hs2 hf2 g2 _=>?_
 have g2:h2.get (nx+1)=some (.cells aAK.toArray cD):=g2
 have g12:=hs2 _ _ g1
 (repeat refine zzC ?_)
 refine aA (aQV g12 hc) ?_
 (repeat refine zzC ?_)
 refine aA (aV g12 m7) ?_
 refine aMb (hcv.sub (hs1.trans hs2) fun _ _ h=>h) f1 (hf2.mono (by omega)) fun cv' h3 n3 hn3 hf3 hs3 ho3=>?_
 have g13:=hs3 _ _ g12
 have g23:=hs3 _ _ g2
 refine⟨eL g12 g13,?_⟩
 refine aA (aK3 hc ho3.cells) ?_
 refine aLJ (x:=eU d.c d.many cv' dU) aHe (by show aAK.toArray.size=259; simp[wF]) rfl (d5 hc) (aFq ho3.ok rfl) fun h4 g4 hk4=>?_
 have g14:h4.get nx=some (.cells (eU d.c d.many cv sv).toArray cD):=by rw[hk4 _ (by omega)]; exact g13
 have g24:h4.get (nx+1)=some (.cells aAK.toArray cD):=by rw[hk4 _ (by omega)]; exact g23
 have hs13:aZ h h3:=(hs1.trans hs2).trans hs3
 have hs4:aZ h h4:=fun k o hk=>by rw[hk4 k (by have:=hf.lt' hk; omega)]; exact hs13 k o hk
 have hs4o:aZ h (del h4 [nx+8]):=fun k o hk=>jL (hs4 k o hk) (by have:=hf.lt' hk; simp; omega)
 have hf4:Fr h4 n3:=fun k hk=>by rw[hk4 k (by omega)]; exact hf3 k hk
 have hsl:=(hS.sub hs4 (eT.sub hs4)).len
 (repeat refine zzC ?_)
 refine aA (aV g14 m8) ?_
 refine aA hsl ?_
 refine aTd (ro:=ro) (X:=(nx+1)::X0) (rid:=nx+1) (oid:=nx+8) (S:=d.states) hc rfl rfl rfl rfl rfl g4 g24 (by omega) (hS.sub hs4o (eT.sub hs4o)) f2 f3 (hf4.mono (by omega)) (fun k hk=>by
  rcases List.mem_cons.1 hk with rfl | hk
  ·omega
  ·have:=hX0 k hk; omega) fun e5 h5 n5 sv5 u2 u3 hn5 hf5 hk5 g5 hsv5 hS5=>?_
 refine eE (dG ?_)
 have g25:=hk5 _ _ g24 (by simp)
 have hj1:∀ (e6:dL),e6 2=ptr (nx+1)→e6 3=ptr (nx+8)→rL ro K e6 h5 n5:=by
  intro e6 v2 v3
  unfold rL
  rw[v2,v3]
  refine aA (dW g5 (d5 hc)) ?_
  refine aA (nD (l:=aAK) (vs:=eU d.c d.many cv' sv5) g25 rfl (d5 hc) wF (aFq ho3.ok hsv5)) ?_
  refine aA (dW (l:=eU d.c d.many cv' sv5) (by rw[T.get_upd_same]) (d5 hc)) ?_
  have hk6:eB [nx+1] h5 (h5.upd (nx+1) (some (.cells (eU d.c d.many cv' sv5).toArray cD))):=(aZ.refl h5).keepL.upd (by simp)
  have hf6:Fr (h5.upd (nx+1) (some (.cells (eU d.c d.many cv' sv5).toArray cD))) n5:=hf5.upd (Nat.le_refl _) (by have:=hf5.lt' g25; omega)
  generalize h5.upd (nx+1) (some (.cells (eU d.c d.many cv' sv5).toArray cD))=h6 at hk6 hf6
  have hd6:aZ (del h5 ((nx+8)::(nx+1)::X0)) (del h6 X0):=fun k o hk=>by
   have h9:=(hk6.delS (l:=(nx+8)::(nx+1)::X0) fun k hk=>by simp at hk; simp[hk]) k o hk
   rw[lD] at hk
   split at hk
   ·cases hk
   ·rename_i hn; exact jL h9 fun hm=>hn (by simp[hm])
  have ho6:eD h6 cv' 2 iN (aHo d.counts) (nx+10):=((ho3.keepK (ids:=[nx+8]) (h':=h4) (fun k o hk hn=>by rw[hk4 k (by simpa using hn)]; exact hk) fun id hid hm=>by have:=(ho3.blk hid).1; simp at hm; omega).keepK hk5 fun id hid hm=>by have:=(ho3.blk hid).1; simp at hm; omega).keepK hk6 fun id hid hm=>by have:=(ho3.blk hid).1; simp at hm; omega
  refine⟨h6,aZ.refl _,hK cv' sv5 h6 _ (by omega) (hf6.mono (by omega)) (fun k o hk=>?_) ⟨cv',sv5,rfl,hc,hclt,aTc (ho6.del fun id hid hm=>by have:=(ho6.blk hid).1; have:=hX0 id hm; omega),hS5.sub hd6 (eT.sub hd6),hb1,by show (d.states.map erS).length≤_; rw[List.length_map]; exact hb2⟩⟩
  have:=hf.lt' hk
  exact hk6 k o (hk5 k o (hs4 k o hk) (by simp; omega)) (by simp; omega)
 exact hj1 _ u2 u3
end
def aPR:List Value:=dV (List.replicate 256 0) 0 dU dU 0 dU 0
theorem aRH:nF Tryz.prog cE=some (.agg aPR.toArray):=by kernel_rfl
theorem aRI:nF Tryz.prog bN=some (.agg aPR.toArray):=by kernel_rfl
theorem aKt {c:List Nat}{n:Int}{cv sv:Value}{pl:List (Nat × Nat)} (hp:pl[0]?=some (0,259)) (hc:c.length=256):qX (pl[·]?) aPR [(0,.agg (eU c n cv sv).toArray)]=some (dV c n cv sv 0 dU 0):=by
 have h0:aPR.length=262:=pJ List.length_replicate
 have e1:Nat.beq (Value.agg (eU c n cv sv).toArray).cells.size 259=true:=by rw[Value.cells_agg]; simp[d5 hc]
 have e2:Nat.ble (0+259) aPR.length=true:=by rw[h0]; rfl
 have o1:over aPR 0 (Value.agg (eU c n cv sv).toArray).cells.toList=dV c n cv sv 0 dU 0:=by
  rw[Value.cells_agg]
  exact aL4 (by rw[d5 hc,d5 List.length_replicate])
 simp only[qX,hp,Option.bind,e1,e2,o1]
theorem aM6 {c:List Nat}{n:Int}{cv sv:Value} (hc:c.length=256):fG Tryz.prog cE [(0,.agg (eU c n cv sv).toArray)]=some (.agg (dV c n cv sv 0 dU 0).toArray):=by
 obtain⟨fs,h1,h2⟩:=aOJ (P:=Tryz.prog) (t:=cE) (pl:=[(0,259),(259,1),(260,1),(261,1)]) (by kernel_rfl)
 exact aCN aRH h1 h2 (aKt rfl hc)
theorem aM7 {c:List Nat}{n:Int}{cv sv:Value} (hc:c.length=256):fG Tryz.prog bN [(0,.agg (eU c n cv sv).toArray)]=some (.agg (dV c n cv sv 0 dU 0).toArray):=by
 obtain⟨fs,h1,h2⟩:=aOJ (P:=Tryz.prog) (t:=bN) (pl:=[(0,259),(259,1),(260,1),(261,1)]) (by kernel_rfl)
 exact aCN aRI h1 h2 (aKt rfl hc)
theorem aSx (aid q:Nat):b7 Tryz.prog nM aid 1 [(0,ptr q)]=some (.slice (some (own aid 1)) 1 1,some (.cells [ptr q].toArray nQ)):=by kernel_rfl
theorem aSP:iM Tryz.prog nM=some (.slice nQ):=by kernel_rfl
theorem aTX:∃ i,tin Tryz.prog nQ=some i∧i.size=1∧i.bytes=8:=yP (by kernel_rfl)
theorem aT6:nF Tryz.prog nQ=some (.pointer none):=by kernel_rfl
theorem aSy (aid q:Nat):b7 Tryz.prog hN aid 1 [(0,ptr q)]=some (.slice (some (own aid 1)) 1 1,some (.cells [ptr q].toArray gU)):=by kernel_rfl
theorem aSQ:iM Tryz.prog hN=some (.slice gU):=by kernel_rfl
theorem aTY:∃ i,tin Tryz.prog gU=some i∧i.size=1∧i.bytes=8:=yP (by kernel_rfl)
theorem aT7:nF Tryz.prog gU=some (.pointer none):=by kernel_rfl
theorem aNF (ps:List (Nat × Nat)) (q:Nat × Nat):mJ (ps++[q])=mJ ps++[[ptr q.1]]:=by simp[mJ]
end V
end Go.Proofs.YtcaccnneblghgaaGreat
namespace Go.Proofs.YtcaccnneblghgaaGreat
namespace V
attribute [local irreducible] tP aO aB
abbrev pV:FuncId:=22
abbrev oZ:FuncId:=23
abbrev pU:FuncId:=24
abbrev pW:FuncId:=25
abbrev jR:FuncId:=41
abbrev kJ:FuncId:=43
abbrev pX:FuncId:=79
abbrev qL:FuncId:=80
abbrev lK:FuncId:=122
@[irreducible] def yJ (ro:Ro) (K:KV):dL→T Obj→Nat→Prop:=fun e h nx=>∃ h39,aZ h39 h∧K (.tuple #[(e 6),(Value.int IntKind.i64 0)]) h39 (nx+3)
@[irreducible] def aF4 (ro:Ro):PT:=fun e h nx Q=>aB (aQ .lss (e 35) (e 34)) fun e'=>aW e' (aB (cQ 260 (e 33) (e 35)) fun i'=>aB (loadA ro h 260 i') fun j'=>aB (nF Tryz.prog dX) fun J'=>dM h (nx+3) (.cells J'.cells dX) fun K'=>aB (bU 260 K' (ptr (nx+3)) j') fun r'=>aB (aT 0 (ptr (nx+3))) fun k'=>aB (loadA ro r' 259 k') fun l'=>aO Tryz.prog ro aDN [l'] r' (nx+8) fun b' m' f'=>aB (nth 0 b') fun c'=>aB (nth 1 b') fun a'=>aB (aQ .neq a' (Value.int IntKind.i64 0)) fun n'=>aW n' (Q .ret (puts e [(36,e'),(37,i'),(38,j'),(8,(ptr (nx+3))),(40,k'),(41,l'),(42,b'),(39,b'),(43,c'),(44,a'),(9,c'),(10,a'),(45,a'),(46,n'),(47,a'),(4,(Value.pointer none)),(5,a')]) m' (f'+10)) (aB (bF (e 6)) fun s'=>aB (aT 4 s') fun t'=>aB (load1 ro m' t') fun u'=>aB (b7 Tryz.prog kE (f'+13) 1 [(0,c')]) fun o'=>eR m' (f'+13) o'.2 fun L'=>aB (cZ Tryz.prog ro L' (f'+15) #[kE,kE] [u',o'.1]) fun d'=>aB (bF (e 6)) fun v'=>aB (aT 4 v') fun w'=>aB (bU 1 d'.2.1 w' d'.1) fun g'=>aB (bF (e 6)) fun x'=>aB (aT 0 x') fun y'=>aB (aT 3 y') fun p'=>aB (load1 ro g' p') fun z'=>aB (aT 259 (ptr (nx+3))) fun A'=>aB (load1 ro g' A') fun B'=>aO Tryz.prog ro gD [B'] g' (d'.2.2+19) fun C' D' M'=>(gZ p' g' D')∧(aB (fG Tryz.prog dX [(1,C')]) fun E'=>aB (b7 Tryz.prog jZ (d'.2.2+13) 1 [(0,E')]) fun q'=>eR D' (d'.2.2+13) q'.2 fun N'=>aB (cZ Tryz.prog ro N' M' #[jZ,jZ] [z',q'.1]) fun h'=>aB (bF (e 6)) fun F'=>aB (aT 0 F') fun G'=>aB (aT 3 G') fun H'=>aB (bU 1 h'.2.1 H' h'.1) fun O'=>aB (aQ .add (e 35) (Value.int IntKind.i64 1)) fun I'=>Q .normal (puts e [(36,e'),(37,i'),(38,j'),(8,(ptr (nx+3))),(40,k'),(41,l'),(42,b'),(39,b'),(43,c'),(44,a'),(9,c'),(10,a'),(45,a'),(46,n'),(48,(e 6)),(49,(e 6)),(50,s'),(51,t'),(52,u'),(53,c'),(54,o'.1),(55,d'.1),(56,v'),(57,w'),(58,(e 6)),(59,(e 6)),(60,x'),(61,y'),(62,p'),(63,z'),(64,A'),(65,B'),(66,C'),(67,E'),(68,q'.1),(69,h'.1),(70,F'),(71,G'),(72,H'),(73,I'),(35,I')]) O' (h'.2.2+2)))) (Q (.exit 0) (puts e [(36,e')]) h (nx+1))
@[irreducible] def aMI (ro:Ro) (v0 v1:Value) (h:T Obj) (nx:Nat) (K:KV):Prop:=dM h nx (.cells (Value.cells v0) d4) fun h1=>aB (aQ .lss v1 (Value.int IntKind.i64 1)) fun b'=>bA b' false h1 (nx+6) (fun k3=>aB (loadA ro h1 4 (ptr nx)) fun E'=>k3 E' h1 (nx+7)) fun i' h5 n6=>bA b' false h5 n6 (fun k8=>aO Tryz.prog ro aBZ [i'] h5 (n6+1) fun F' G' H'=>k8 F' G' H') fun j' k' l'=>bA b' false k' l' (fun I'=>aB (unV .not j') fun J'=>I' J' k' (l'+1)) fun m' n' a'=>aB (cS b' (Value.bool true) m') fun o'=>aW o' (∃ p',aZ p' n'∧K (.tuple #[(Value.pointer none),(Value.int IntKind.i64 1)]) p' (a'+3)) (aB (fG Tryz.prog mN [(2,(Value.int IntKind.i64 (-1)))]) fun q'=>aB (fG Tryz.prog bE [(2,v1),(5,(Value.bool true)),(7,q')]) fun r'=>dM n' (a'+4) (.cells (Value.cells r') bE) fun d'=>aB (aT 1 (ptr nx)) fun s'=>aB (load1 ro d' s') fun t'=>aO Tryz.prog ro jI [t'] d' (a'+17) fun u' e' K'=>aB (aT 2 (ptr nx)) fun f'=>aB (load1 ro e' f') fun v'=>(gZ f' d' e')∧(aO Tryz.prog ro gD [v'] e' K' fun w' L' M'=>aB (fG Tryz.prog d4 [(1,u'),(2,w')]) fun x'=>aB (bF (ptr (a'+4))) fun y'=>aB (aT 0 y') fun z'=>aB (bU 4 L' z' x') fun A'=>aB (aT 3 (ptr nx)) fun B'=>aB (load1 ro A' B') fun C'=>aB (bS C') fun N'=>dZ (aF4 ro) (puts (fT [v0,v1]) [(2,(ptr nx)),(4,(Value.pointer none)),(5,(Value.int IntKind.i64 0)),(11,v1),(12,b'),(13,b'),(14,i'),(15,j'),(16,m'),(17,o'),(18,v1),(19,q'),(20,r'),(21,(ptr (a'+4))),(6,(ptr (a'+4))),(22,(ptr (a'+4))),(23,s'),(24,t'),(25,u'),(26,f'),(27,v'),(28,w'),(29,x'),(30,y'),(31,z'),(32,B'),(33,C'),(34,N'),(35,(Value.int IntKind.i64 0))]) A' (M'+4) fun O' c' g' h'=>gI O' (yJ ro K c' g' h') (fun P'=>dH (Nat.beq P' 0) (yJ ro K c' g' h') (False)) (∃ D',aZ D' g'∧K (.tuple #[(c' 4),(c' 5)]) D' h')))
theorem aMJ {ro:Ro}{v0 v1:Value}{h:T Obj}{nx:Nat}{K:KV} (hw:aMI ro v0 v1 h nx K):aO Tryz.prog ro aAU [v0,v1] h nx K:=zzO (fn:=Tryz.f13) hw
@[irreducible] def lP (ro:Ro) (K:KV):dL→T Obj→Nat→Prop:=fun e h nx=>aB (bF (e 0)) fun b'=>aB (aT 13 b') fun c'=>aB (load1 ro h c') fun d'=>∃ a',aZ a' h∧K (.tuple #[(e 7),d']) a' (nx+7)
@[irreducible] def sJ (ro:Ro) (v0 v1:Value) (h:T Obj) (nx:Nat) (K:KV):Prop:=aO Tryz.prog ro jR [v0] h (nx+4) fun a' h2 n3=>aB (aQ .neq a' (Value.int IntKind.i64 0)) fun d'=>aW d' (∃ h5,aZ h5 h2∧K (.tuple #[(Value.slice none 0 0),a']) h5 (n3+6)) (aB (bF v0) fun e'=>aB (aT 6 e') fun f'=>aB (load1 ro h2 f') fun g'=>aB (b7 Tryz.prog iA (n3+9) 2 [(0,g'),(1,v1)]) fun r9=>eR h2 (n3+9) r9.2 fun v'=>aO Tryz.prog ro kZ [r9.1] v' (n3+11) fun h' w' x'=>aB (bF v0) fun i'=>aB (aT 6 i') fun j'=>aB (bU 1 w' j' h') fun y'=>aO Tryz.prog ro kJ [v0] y' (x'+5) fun b' c' s'=>aB (bF v0) fun k'=>aB (aT 6 k') fun l'=>aB (load1 ro c' l') fun m'=>aB (bS m') fun n'=>aB (bF v0) fun o'=>aB (aT 5 o') fun p'=>aB (load1 ro c' p') fun q'=>aB (aQ .gtr n' q') fun r'=>aW r' (aB (bF v0) fun t'=>aB (aT 13 t') fun u'=>aB (bU 1 c' u' (Value.int IntKind.i64 180)) fun z'=>lP ro K (puts (fT [v0,v1]) [(4,(Value.slice none 0 0)),(5,(Value.int IntKind.i64 0)),(8,v0),(9,a'),(6,a'),(10,a'),(11,d'),(13,v0),(14,v0),(15,e'),(16,f'),(17,g'),(18,v1),(19,r9.1),(20,h'),(21,i'),(22,j'),(23,v0),(24,b'),(7,b'),(25,v0),(26,k'),(27,l'),(28,m'),(29,n'),(30,v0),(31,o'),(32,p'),(33,q'),(34,r'),(35,v0),(36,t'),(37,u')]) z' (s'+15)) (lP ro K (puts (fT [v0,v1]) [(4,(Value.slice none 0 0)),(5,(Value.int IntKind.i64 0)),(8,v0),(9,a'),(6,a'),(10,a'),(11,d'),(13,v0),(14,v0),(15,e'),(16,f'),(17,g'),(18,v1),(19,r9.1),(20,h'),(21,i'),(22,j'),(23,v0),(24,b'),(7,b'),(25,v0),(26,k'),(27,l'),(28,m'),(29,n'),(30,v0),(31,o'),(32,p'),(33,q'),(34,r')]) c' (s'+11)))
theorem uH {ro:Ro}{v0 v1:Value}{h:T Obj}{nx:Nat}{K:KV} (hw:sJ ro v0 v1 h nx K):aO Tryz.prog ro jM [v0,v1] h nx K:=zzO (fn:=Tryz.f18) hw
@[irreducible] def qT (ro:Ro) (v0:Value) (h:T Obj) (nx:Nat) (K:KV):Prop:=aO Tryz.prog ro jR [v0] h (nx+4) fun a' h2 n3=>aB (aQ .neq a' (Value.int IntKind.i64 0)) fun c'=>aW c' (∃ h5,aZ h5 h2∧K (.tuple #[(Value.slice none 0 0),a']) h5 (n3+6)) (aB (bF v0) fun d'=>aB (aT 14 d') fun e'=>aB (bU 1 h2 e' (Value.bool true)) fun h8=>aO Tryz.prog ro kJ [v0] h8 (n3+9) fun f' g' h'=>∃ b',aZ b' g'∧K (.tuple #[f',(Value.int IntKind.i64 0)]) b' (h'+2))
theorem tB {ro:Ro}{v0:Value}{h:T Obj}{nx:Nat}{K:KV} (hw:qT ro v0 h nx K):aO Tryz.prog ro jA [v0] h nx K:=zzO (fn:=Tryz.f19) hw
@[irreducible] def yL (ro:Ro) (v0:Value) (h:T Obj) (nx:Nat) (K:KV):Prop:=aB (xU .eql v0 (Value.pointer none)) fun a'=>aW a' (∃ h2,aZ h2 h∧K (Value.int IntKind.i64 0) h2 (nx+4)) (aB (bF v0) fun b'=>aB (aT 6 b') fun c'=>aB (load1 ro h c') fun d'=>aB (bS d') fun e'=>∃ h7,aZ h7 h∧K e' h7 (nx+9))
theorem aCA {ro:Ro}{v0:Value}{h:T Obj}{nx:Nat}{K:KV} (hw:yL ro v0 h nx K):aO Tryz.prog ro pV [v0] h nx K:=zzO (fn:=Tryz.f22) hw
@[irreducible] def xO (ro:Ro) (v0:Value) (h:T Obj) (nx:Nat) (K:KV):Prop:=aB (xU .eql v0 (Value.pointer none)) fun a'=>aW a' (∃ h2,aZ h2 h∧K (Value.int IntKind.i64 0) h2 (nx+4)) (aB (bF v0) fun b'=>aB (aT 15 b') fun c'=>aB (load1 ro h c') fun d'=>∃ h6,aZ h6 h∧K d' h6 (nx+8))
theorem aBD {ro:Ro}{v0:Value}{h:T Obj}{nx:Nat}{K:KV} (hw:xO ro v0 h nx K):aO Tryz.prog ro oZ [v0] h nx K:=zzO (fn:=Tryz.f23) hw
@[irreducible] def yK (ro:Ro) (v0:Value) (h:T Obj) (nx:Nat) (K:KV):Prop:=aB (xU .eql v0 (Value.pointer none)) fun a'=>aW a' (∃ h2,aZ h2 h∧K (Value.int IntKind.i64 0) h2 (nx+4)) (aB (bF v0) fun b'=>aB (aT 9 b') fun c'=>aB (load1 ro h c') fun d'=>∃ h6,aZ h6 h∧K d' h6 (nx+8))
theorem aBz {ro:Ro}{v0:Value}{h:T Obj}{nx:Nat}{K:KV} (hw:yK ro v0 h nx K):aO Tryz.prog ro pU [v0] h nx K:=zzO (fn:=Tryz.f24) hw
@[irreducible] def lQ (ro:Ro) (K:KV):dL→T Obj→Nat→Prop:=fun e h nx=>∃ h3,aZ h3 h∧K (e 3) h3 (nx+2)
@[irreducible] def uI (ro:Ro):PT:=fun e h nx Q=>aB (aQ .lss (e 13) (e 12)) fun b'=>aW b' (aB (cQ 1 (e 11) (e 13)) fun c'=>aB (load1 ro h c') fun a'=>aO Tryz.prog ro pS [a'] h (nx+7) fun d' g' h'=>aB (aQ .add (e 3) d') fun e'=>aB (aQ .add (e 13) (Value.int IntKind.i64 1)) fun f'=>Q .normal (puts e [(14,b'),(15,c'),(16,a'),(5,a'),(17,(e 3)),(18,a'),(19,d'),(20,e'),(3,e'),(21,f'),(13,f')]) g' (h'+4)) (Q (.exit 0) (puts e [(14,b')]) h (nx+1))
@[irreducible] def yM (ro:Ro) (v0:Value) (h:T Obj) (nx:Nat) (K:KV):Prop:=aB (xU .eql v0 (Value.pointer none)) fun d'=>aW d' (∃ h2,aZ h2 h∧K (Value.int IntKind.i64 0) h2 (nx+4)) (aB (bF v0) fun e'=>aB (aT 4 e') fun f'=>aB (load1 ro h f') fun g'=>aB (bS g') fun i'=>dZ (uI ro) (puts (fT [v0]) [(2,(Value.int IntKind.i64 0)),(6,v0),(7,d'),(3,(Value.int IntKind.i64 0)),(8,v0),(9,e'),(10,f'),(11,g'),(12,i'),(13,(Value.int IntKind.i64 0))]) h (nx+10) fun j' a' b' c'=>gI j' (lQ ro K a' b' c') (fun k'=>dH (Nat.beq k' 0) (lQ ro K a' b' c') (False)) (∃ h',aZ h' b'∧K (a' 2) h' c'))
theorem aCB {ro:Ro}{v0:Value}{h:T Obj}{nx:Nat}{K:KV} (hw:yM ro v0 h nx K):aO Tryz.prog ro pW [v0] h nx K:=zzO (fn:=Tryz.f25) hw
@[irreducible] def uK (ro:Ro) (v0:Value) (h:T Obj) (nx:Nat) (K:KV):Prop:=aB (xU .eql v0 (Value.pointer none)) fun k'=>aW k' (∃ h2,aZ h2 h∧K (Value.int IntKind.i64 2) h2 (nx+5)) (aB (bF v0) fun l'=>aB (aT 13 l') fun m'=>aB (load1 ro h m') fun n'=>aB (aQ .eql n' (Value.int IntKind.i64 0)) fun a'=>bA a' true h (nx+10) (fun k7=>k7 v0 h (nx+11)) fun o' h9 d'=>bA a' true h9 d' (fun p'=>aB (bF o') fun q'=>p' q' h9 (d'+1)) fun r' e' f'=>bA a' true e' f' (fun s'=>aB (aT 14 r') fun t'=>s' t' e' (f'+1)) fun u' b' g'=>bA a' true b' g' (fun v'=>aB (load1 ro b' u') fun w'=>v' w' b' (g'+1)) fun x' c' h'=>aB (cS a' x' (Value.bool false)) fun y'=>aW y' (∃ i',aZ i' c'∧K (Value.int IntKind.i64 181) i' (h'+3)) (aB (bF v0) fun z'=>aB (aT 13 z') fun A'=>aB (load1 ro c' A') fun B'=>∃ j',aZ j' c'∧K B' j' (h'+7)))
theorem z9 {ro:Ro}{v0:Value}{h:T Obj}{nx:Nat}{K:KV} (hw:uK ro v0 h nx K):aO Tryz.prog ro jR [v0] h nx K:=zzO (fn:=Tryz.f41) hw
@[irreducible] def jV (ro:Ro) (K:KV):dL→T Obj→Nat→Prop:=fun e h nx=>∃ h1,aZ h1 h∧K (e 3) h1 (nx+2)
@[irreducible] def sK (ro:Ro):PT:=fun e h nx Q=>aB (bF (e 0)) fun d'=>aB (aT 6 d') fun e'=>aB (load1 ro h e') fun f'=>aB (bS f') fun g'=>aB (aQ .gtr g' (Value.int IntKind.i64 0)) fun b'=>bA b' true h (nx+7) (fun k7=>k7 (e 0) h (nx+8)) fun h' h9 G'=>bA b' true h9 G' (fun Z'=>aO Tryz.prog ro pX [h'] h9 (G'+1) fun aa' ab' ac'=>Z' aa' ab' ac') fun i' H' I'=>aB (cS b' i' (Value.bool false)) fun j'=>aW j' (aO Tryz.prog ro qL [(e 0)] H' (I'+3) fun m' ad' c'=>aB (nF Tryz.prog a9) fun ae'=>dM ad' c' (.cells ae'.cells a9) fun af'=>aB (bU 3 af' (ptr c') m') fun n'=>aB (aT 0 (ptr c')) fun o'=>aB (load1 ro n' o') fun p'=>aB (aQ .eql p' (Value.int IntKind.i64 (-1))) fun a'=>bA a' false n' (c'+17) (fun ag'=>ag' (e 0) n' (c'+17)) fun q' J' K'=>bA a' false J' K' (fun ah'=>aB (bF q') fun ai'=>ah' ai' J' K') fun r' L' M'=>bA a' false L' M' (fun aj'=>aB (aT 0 r') fun ak'=>aj' ak' L' M') fun s' N' O'=>bA a' false N' O' (fun al'=>aB (aT 1 s') fun am'=>al' am' N' O') fun t' u' P'=>bA a' false u' P' (fun an'=>aB (load1 ro u' t') fun ao'=>an' ao' u' P') fun v' Q' R'=>bA a' false Q' R' (fun ap'=>aB (aT 0 (ptr c')) fun aq'=>ap' aq' Q' R') fun w' x' S'=>bA a' false x' S' (fun ar'=>aB (load1 ro x' w') fun as'=>ar' as' x' S') fun y' T' U'=>bA a' false T' U' (fun at'=>aB (cQ 1 v' y') fun au'=>at' au' T' U') fun z' A' V'=>bA a' false A' V' (fun av'=>aB (load1 ro A' z') fun aw'=>av' aw' A' V') fun B' W' X'=>bA a' false W' X' (fun ax'=>aB (aFk .neq B' (Value.string { data:=#[] })) fun ay'=>ax' ay' W' X') fun C' D' k'=>aB (cS a' (Value.bool true) C') fun E'=>aW E' (aB (loadA ro D' 3 (ptr c')) fun Y'=>aB (b7 Tryz.prog fE (k'+2) 1 [(0,Y')]) fun F'=>eR D' (k'+2) F'.2 fun az'=>aB (cZ Tryz.prog ro az' (k'+4) #[fE,fE] [(e 3),F'.1]) fun l'=>Q .normal (puts e [(5,(e 0)),(6,d'),(7,e'),(8,f'),(9,g'),(10,b'),(11,b'),(12,h'),(13,i'),(14,j'),(15,(e 0)),(16,m'),(4,(ptr c')),(17,o'),(18,p'),(19,a'),(20,a'),(21,q'),(22,r'),(23,s'),(24,t'),(25,v'),(26,w'),(27,y'),(28,z'),(29,B'),(30,C'),(31,E'),(32,(e 3)),(33,Y'),(34,F'.1),(35,l'.1),(3,l'.1)]) l'.2.1 (l'.2.2+1)) (Q .normal (puts e [(5,(e 0)),(6,d'),(7,e'),(8,f'),(9,g'),(10,b'),(11,b'),(12,h'),(13,i'),(14,j'),(15,(e 0)),(16,m'),(4,(ptr c')),(17,o'),(18,p'),(19,a'),(20,a'),(21,q'),(22,r'),(23,s'),(24,t'),(25,v'),(26,w'),(27,y'),(28,z'),(29,B'),(30,C'),(31,E')]) D' k')) (Q (.exit 0) (puts e [(5,(e 0)),(6,d'),(7,e'),(8,f'),(9,g'),(10,b'),(11,b'),(12,h'),(13,i'),(14,j')]) H' (I'+1))
@[irreducible] def vB (ro:Ro) (v0:Value) (h:T Obj) (nx:Nat) (K:KV):Prop:=dZ (sK ro) (puts (fT [v0]) [(2,(Value.slice none 0 0)),(3,(Value.slice none 0 0))]) h (nx+2) fun x85 e82 h83 n84=>gI x85 (jV ro K e82 h83 n84) (fun i86=>dH (Nat.beq i86 0) (jV ro K e82 h83 n84) (False)) (∃ h87,aZ h87 h83∧K (e82 2) h87 n84)
theorem aAb {ro:Ro}{v0:Value}{h:T Obj}{nx:Nat}{K:KV} (hw:vB ro v0 h nx K):aO Tryz.prog ro kJ [v0] h nx K:=zzO (fn:=Tryz.f43) hw
@[irreducible] def lS (ro:Ro) (K:KV):dL→T Obj→Nat→Prop:=fun e h nx=>aB (bF (e 0)) fun b'=>aB (aT 14 b') fun c'=>aB (load1 ro h c') fun d'=>∃ a',aZ a' h∧K d' a' (nx+5)
@[irreducible] def lT (ro:Ro) (Q:KE):dL→T Obj→Nat→Prop:=fun e h nx=>aB (aQ .add (e 34) (Value.int IntKind.i64 1)) fun a'=>Q .normal (puts e [(76,a'),(34,a')]) h (nx+2)
@[irreducible] def uJ (ro:Ro):PT:=fun e h nx Q=>aB (aQ .lss (e 34) (e 33)) fun c'=>aW c' (aB (cQ 1 (e 32) (e 34)) fun d'=>aB (load1 ro h d') fun a'=>aB (bF (e 0)) fun e'=>aB (aT 10 e') fun f'=>aB (aT 0 f') fun g'=>aB (load1 ro h g') fun h'=>aB (aQ .add h' (Value.int IntKind.i64 1)) fun i'=>aB (bF (e 0)) fun j'=>aB (aT 10 j') fun k'=>aB (aT 0 k') fun l'=>aB (bU 1 h l' i') fun w'=>aB (bF (e 0)) fun m'=>aB (aT 15 m') fun n'=>aB (load1 ro w' n') fun o'=>aB (aQ .add o' (Value.int IntKind.i64 1)) fun p'=>aB (bF (e 0)) fun q'=>aB (aT 15 q') fun r'=>aB (bU 1 w' r' p') fun K'=>aO Tryz.prog ro pR [(e 3),a'] K' (nx+25) fun s' x' y'=>aB (unV .not s') fun t'=>aW t' (Q .ret (puts e [(35,c'),(36,d'),(37,a'),(5,a'),(38,(e 0)),(39,e'),(40,f'),(41,g'),(42,h'),(43,i'),(44,j'),(45,k'),(46,l'),(47,(e 0)),(48,m'),(49,n'),(50,o'),(51,p'),(52,q'),(53,r'),(54,(e 3)),(55,a'),(56,s'),(57,t'),(2,(Value.bool true))]) x' (y'+2)) (aO Tryz.prog ro pQ [(e 3)] x' (y'+3) fun b' u' z'=>aB (aQ .neq b' (Value.int IntKind.i64 (-1))) fun v'=>aW v' (aB (bF (e 0)) fun A'=>aB (aT 10 A') fun B'=>aB (aT 0 B') fun C'=>aB (load1 ro u' C') fun D'=>aB (bF (e 0)) fun E'=>aB (aT 10 E') fun F'=>aB (aT 1 F') fun G'=>aB (bU 1 u' G' D') fun L'=>aB (bF (e 0)) fun H'=>aB (aT 10 H') fun I'=>aB (aT 2 I') fun J'=>aB (bU 1 L' J' b') fun M'=>lT ro Q (puts e [(35,c'),(36,d'),(37,a'),(5,a'),(38,(e 0)),(39,e'),(40,f'),(41,g'),(42,h'),(43,i'),(44,j'),(45,k'),(46,l'),(47,(e 0)),(48,m'),(49,n'),(50,o'),(51,p'),(52,q'),(53,r'),(54,(e 3)),(55,a'),(56,s'),(57,t'),(58,(e 3)),(59,b'),(6,b'),(60,b'),(61,v'),(62,(e 0)),(63,(e 0)),(64,(e 0)),(65,A'),(66,B'),(67,C'),(68,D'),(69,b'),(70,E'),(71,F'),(72,G'),(73,H'),(74,I'),(75,J')]) M' (z'+19)) (lT ro Q (puts e [(35,c'),(36,d'),(37,a'),(5,a'),(38,(e 0)),(39,e'),(40,f'),(41,g'),(42,h'),(43,i'),(44,j'),(45,k'),(46,l'),(47,(e 0)),(48,m'),(49,n'),(50,o'),(51,p'),(52,q'),(53,r'),(54,(e 3)),(55,a'),(56,s'),(57,t'),(58,(e 3)),(59,b'),(6,b'),(60,b'),(61,v')]) u' (z'+3)))) (Q (.exit 0) (puts e [(35,c')]) h (nx+1))
@[irreducible] def lR (ro:Ro) (K:KV):dL→T Obj→Nat→Prop:=fun e h nx=>aB (bF (e 0)) fun d'=>aB (aT 6 d') fun e'=>aB (load1 ro h e') fun f'=>aB (bF (e 0)) fun g'=>aB (aT 10 g') fun h'=>aB (aT 0 h') fun i'=>aB (load1 ro h i') fun j'=>aB (nX Tryz.prog bO f' (some j') none none) fun k'=>aB (bS k') fun m'=>dZ (uJ ro) (puts e [(23,(e 0)),(24,d'),(25,e'),(26,f'),(27,(e 0)),(28,g'),(29,h'),(30,i'),(31,j'),(32,k'),(33,m'),(34,(Value.int IntKind.i64 0))]) h (nx+12) fun n' a' b' c'=>gI n' (lS ro K a' b' c') (fun o'=>dH (Nat.beq o' 0) (lS ro K a' b' c') (False)) (∃ l',aZ l' b'∧K (a' 2) l' c')
@[irreducible] def yN (ro:Ro) (v0:Value) (h:T Obj) (nx:Nat) (K:KV):Prop:=aB (bF v0) fun c'=>aB (aT 4 c') fun b'=>aB (load1 ro h b') fun d'=>aO Tryz.prog ro lK [v0] h (nx+10) fun e' h5 n6=>(gZ b' h h5)∧(aB (cQ 1 d' e') fun f'=>aB (load1 ro h5 f') fun a'=>aB (bF v0) fun g'=>aB (aT 10 g') fun h'=>aB (loadA ro h5 3 h') fun i'=>aB (fG Tryz.prog mN [(2,(Value.int IntKind.i64 (-1)))]) fun j'=>aB (eQ Tryz.prog 20 mN) fun l'=>aB (aHg l' .eql i' j') fun k'=>aW k' (aO Tryz.prog ro oS [a'] h5 (n6+8) fun m' n' o'=>lR ro K (puts (fT [v0]) [(2,(Value.bool false)),(7,v0),(8,c'),(9,b'),(10,d'),(11,v0),(12,e'),(13,f'),(14,a'),(3,a'),(15,v0),(16,g'),(17,h'),(18,i'),(19,j'),(20,k'),(21,a'),(22,m')]) n' o') (lR ro K (puts (fT [v0]) [(2,(Value.bool false)),(7,v0),(8,c'),(9,b'),(10,d'),(11,v0),(12,e'),(13,f'),(14,a'),(3,a'),(15,v0),(16,g'),(17,h'),(18,i'),(19,j'),(20,k')]) h5 (n6+6)))
theorem aCC {ro:Ro}{v0:Value}{h:T Obj}{nx:Nat}{K:KV} (hw:yN ro v0 h nx K):aO Tryz.prog ro pX [v0] h nx K:=zzO (fn:=Tryz.f79) hw
@[irreducible] def mC (ro:Ro) (K:KV):dL→T Obj→Nat→Prop:=fun e h nx=>aB (loadA ro h 3 (e 3)) fun c'=>aB (bU 3 h (e 2) c') fun a'=>aB (loadA ro a' 3 (e 2)) fun d'=>∃ b',aZ b' a'∧K d' b' (nx+2)
@[irreducible] def mB (ro:Ro) (K:KV):dL→T Obj→Nat→Prop:=fun e h nx=>aB (aT 2 (e 3)) fun f'=>aB (load1 ro h f') fun g'=>aB (aT 1 (e 3)) fun h'=>aB (load1 ro h h') fun i'=>aB (aQ .sub g' i') fun b'=>aB (bF (e 0)) fun j'=>aB (aT 6 j') fun k'=>aB (load1 ro h k') fun l'=>aB (aQ .sub b' (Value.int IntKind.i64 1)) fun m'=>aB (cQ 1 l' m') fun n'=>aB (load1 ro h n') fun o'=>aB (aQ .eql o' (Value.int IntKind.u8 10)) fun p'=>aB (bF (e 0)) fun q'=>aB (aT 8 q') fun r'=>aB (bU 1 h r' p') fun d'=>aB (bF (e 0)) fun s'=>aB (aT 6 s') fun t'=>aB (load1 ro d' t') fun u'=>aB (nX Tryz.prog bO u' (some b') none none) fun v'=>aB (aT 2 (e 3)) fun e'=>aB (load1 ro d' e') fun w'=>aB (bF (e 0)) fun x'=>aB (aT 6 x') fun y'=>aB (bU 1 d' y' v') fun V'=>(gZ e' d' V')∧(aB (bF (e 0)) fun z'=>aB (aT 7 z') fun A'=>aB (bU 1 V' A' w') fun aw'=>aB (fG Tryz.prog mN [(2,(Value.int IntKind.i64 (-1)))]) fun B'=>aB (bF (e 0)) fun C'=>aB (aT 10 C') fun D'=>aB (bU 3 aw' D' B') fun E'=>aB (aT 0 (e 3)) fun F'=>aB (load1 ro E' F') fun G'=>aB (aQ .neq G' (Value.int IntKind.i64 (-1))) fun a'=>bA a' true E' (nx+55) (fun ax'=>ax' (e 0) E' (nx+55)) fun H' W' X'=>bA a' true W' X' (fun ay'=>aB (bF H') fun az'=>ay' az' W' X') fun I' Y' Z'=>bA a' true Y' Z' (fun aA'=>aB (aT 0 I') fun aB'=>aA' aB' Y' Z') fun J' aa' ab'=>bA a' true aa' ab' (fun aC'=>aB (aT 2 J') fun aD'=>aC' aD' aa' ab') fun K' L' ac'=>bA a' true L' ac' (fun aE'=>aB (load1 ro L' K') fun aF'=>aE' aF' L' ac') fun M' ad' ae'=>bA a' true ad' ae' (fun aG'=>aB (aT 0 (e 3)) fun aH'=>aG' aH' ad' ae') fun N' O' af'=>bA a' true O' af' (fun aI'=>aB (load1 ro O' N') fun aJ'=>aI' aJ' O' af') fun P' ag' ah'=>bA a' true ag' ah' (fun aK'=>aB (cQ 1 M' P') fun aL'=>aK' aL' ag' ah') fun Q' R' ai'=>bA a' true R' ai' (fun aM'=>aB (load1 ro R' Q') fun aN'=>aM' aN' R' ai') fun S' aj' ak'=>bA a' true aj' ak' (fun aO'=>aB (aQ .geq S' (Value.int IntKind.i64 0)) fun aP'=>aO' aP' aj' ak') fun T' c' al'=>aB (cS a' T' (Value.bool false)) fun U'=>aW U' (aB (bF (e 0)) fun am'=>aB (aT 0 am') fun an'=>aB (aT 2 an') fun ao'=>aB (load1 ro c' ao') fun ap'=>aB (aT 0 (e 3)) fun aq'=>aB (load1 ro c' aq') fun ar'=>aB (cQ 1 ap' ar') fun as'=>aB (load1 ro c' as') fun at'=>aB (bF (e 0)) fun au'=>aB (aT 9 au') fun av'=>aB (bU 1 c' av' at') fun aQ'=>mC ro K (puts e [(50,f'),(51,g'),(52,h'),(53,i'),(54,b'),(4,b'),(55,(e 0)),(56,(e 0)),(57,j'),(58,k'),(59,l'),(60,b'),(61,m'),(62,n'),(63,o'),(64,p'),(65,q'),(66,r'),(67,(e 0)),(68,(e 0)),(69,(e 0)),(70,s'),(71,t'),(72,u'),(73,b'),(74,v'),(75,e'),(76,w'),(77,x'),(78,y'),(79,z'),(80,A'),(81,(e 0)),(82,B'),(83,C'),(84,D'),(85,F'),(86,G'),(87,a'),(88,a'),(89,H'),(90,I'),(91,J'),(92,K'),(93,M'),(94,N'),(95,P'),(96,Q'),(97,S'),(98,T'),(99,U'),(100,(e 0)),(101,(e 0)),(102,am'),(103,an'),(104,ao'),(105,ap'),(106,aq'),(107,ar'),(108,as'),(109,at'),(110,au'),(111,av')]) aQ' (al'+13)) (mC ro K (puts e [(50,f'),(51,g'),(52,h'),(53,i'),(54,b'),(4,b'),(55,(e 0)),(56,(e 0)),(57,j'),(58,k'),(59,l'),(60,b'),(61,m'),(62,n'),(63,o'),(64,p'),(65,q'),(66,r'),(67,(e 0)),(68,(e 0)),(69,(e 0)),(70,s'),(71,t'),(72,u'),(73,b'),(74,v'),(75,e'),(76,w'),(77,x'),(78,y'),(79,z'),(80,A'),(81,(e 0)),(82,B'),(83,C'),(84,D'),(85,F'),(86,G'),(87,a'),(88,a'),(89,H'),(90,I'),(91,J'),(92,K'),(93,M'),(94,N'),(95,P'),(96,Q'),(97,S'),(98,T'),(99,U')]) c' al'))
@[irreducible] def z8 (ro:Ro) (v0:Value) (h:T Obj) (nx:Nat) (K:KV):Prop:=aB (nF Tryz.prog a9) fun z1=>dM h nx (.cells z1.cells a9) fun h2=>aB (bF v0) fun e'=>aB (aT 7 e') fun f'=>aB (load1 ro h2 f') fun g'=>aB (bF v0) fun h'=>aB (aT 7 h') fun i'=>aB (load1 ro h2 i') fun j'=>aB (aQ .add j' (Value.int IntKind.i64 1)) fun k'=>aB (fG Tryz.prog a9 [(0,(Value.int IntKind.i64 (-1))),(1,g'),(2,k')]) fun l'=>aB (nF Tryz.prog a9) fun O'=>dM h2 (nx+11) (.cells O'.cells a9) fun P'=>aB (bU 3 P' (ptr (nx+11)) l') fun b'=>aB (bF v0) fun m'=>aB (aT 10 m') fun n'=>aB (aT 2 n') fun o'=>aB (load1 ro b' o') fun p'=>aB (aQ .neq p' (Value.int IntKind.i64 (-1))) fun q'=>aW q' (aB (bF v0) fun u'=>aB (aT 0 u') fun v'=>aB (aT 3 v') fun r'=>aB (load1 ro b' r') fun w'=>aO Tryz.prog ro lK [v0] b' (nx+50) fun x' a' Q'=>(gZ r' b' a')∧(aB (cQ 260 w' x') fun y'=>aB (aT 259 y') fun z'=>aB (load1 ro a' z') fun A'=>aB (bF v0) fun B'=>aB (aT 10 B') fun C'=>aB (aT 2 C') fun s'=>aB (load1 ro a' s') fun D'=>(gZ s' b' a')∧(aB (cQ 1 A' D') fun E'=>aB (load1 ro a' E') fun F'=>aB (bF v0) fun G'=>aB (aT 7 G') fun c'=>aB (load1 ro a' c') fun H'=>(gZ c' b' a')∧(aB (bF v0) fun I'=>aB (aT 10 I') fun J'=>aB (aT 1 J') fun d'=>aB (load1 ro a' d') fun K'=>(gZ d' b' a')∧(aB (aQ .add H' K') fun L'=>aB (aT 0 (ptr (nx+11))) fun M'=>aB (bU 1 a' M' F') fun t'=>(gZ d' a' t')∧((gZ c' a' t')∧(aB (aT 2 (ptr (nx+11))) fun N'=>aB (bU 1 t' N' L') fun R'=>mB ro K (puts (fT [v0]) [(2,(ptr nx)),(5,v0),(6,e'),(7,f'),(8,g'),(9,v0),(10,h'),(11,i'),(12,j'),(13,k'),(14,l'),(3,(ptr (nx+11))),(15,v0),(16,m'),(17,n'),(18,o'),(19,p'),(20,q'),(21,v0),(22,u'),(23,v'),(24,r'),(25,w'),(26,v0),(27,x'),(28,y'),(29,z'),(30,A'),(31,v0),(32,B'),(33,C'),(34,s'),(35,D'),(36,E'),(37,F'),(38,v0),(39,G'),(40,c'),(41,H'),(42,v0),(43,I'),(44,J'),(45,d'),(46,K'),(47,L'),(48,M'),(49,N')]) R' Q'))))))) (mB ro K (puts (fT [v0]) [(2,(ptr nx)),(5,v0),(6,e'),(7,f'),(8,g'),(9,v0),(10,h'),(11,i'),(12,j'),(13,k'),(14,l'),(3,(ptr (nx+11))),(15,v0),(16,m'),(17,n'),(18,o'),(19,p'),(20,q')]) b' (nx+19))
theorem aC5 {ro:Ro}{v0:Value}{h:T Obj}{nx:Nat}{K:KV} (hw:z8 ro v0 h nx K):aO Tryz.prog ro qL [v0] h nx K:=zzO (fn:=Tryz.f80) hw
@[irreducible] def xP (ro:Ro) (v0:Value) (h:T Obj) (nx:Nat) (K:KV):Prop:=aB (bF v0) fun b'=>aB (aT 8 b') fun c'=>aB (load1 ro h c') fun d'=>aW d' (aB (bF v0) fun e'=>aB (aT 9 e') fun f'=>aB (load1 ro h f') fun g'=>aB (aQ .mul (Value.int IntKind.i64 2) g') fun h'=>aB (aQ .add h' (Value.int IntKind.i64 1)) fun i'=>∃ h9,aZ h9 h∧K i' h9 (nx+12)) (aB (bF v0) fun j'=>aB (aT 9 j') fun k'=>aB (load1 ro h k') fun l'=>aB (aQ .mul (Value.int IntKind.i64 2) l') fun m'=>∃ a',aZ a' h∧K m' a' (nx+11))
theorem aBE {ro:Ro}{v0:Value}{h:T Obj}{nx:Nat}{K:KV} (hw:xP ro v0 h nx K):aO Tryz.prog ro lK [v0] h nx K:=zzO (fn:=Tryz.f122) hw
end V
end Go.Proofs.YtcaccnneblghgaaGreat
namespace Go.Proofs.YtcaccnneblghgaaGreat
namespace V
attribute [local irreducible] aB bA aW dM eR gI dH
abbrev oI:=Nat × List (Nat × Nat)
def kU (q:oI):List Nat:=q.1::iD q.2
structure MsX (ro:Ro) (h:T Obj) (X:List Nat) (qs:List oI) (ds:List AutoD) (ms:List MacD):Prop where
 lq:qs.length=ds.length
 lm:ms.length=ds.length
 at_:∀ (i:Nat) q d m,qs[i]?=some q→ds[i]?=some d→ms[i]?=some m→MI ro h X q.1 q.2 (er d) m
 dis:∀ (i j:Nat) q r,qs[i]?=some q→qs[j]?=some r→i≠j→∀ k∈kU q,k ∉ kU r
section
variable {ro:Ro}{h h':T Obj}{X X':List Nat}{qs:List oI}{ds:List AutoD}{ms:List MacD}
theorem MsX.subX (hm:MsX ro h X qs ds ms) (hs:aZ h h'):MsX ro h' X qs ds ms:=⟨hm.lq,hm.lm,fun i q d m h1 h2 h3=>(hm.at_ i q d m h1 h2 h3).subX lY hs,hm.dis⟩
theorem MsX.keep {ids:List Nat} (hm:MsX ro h X qs ds ms) (hs:eB ids h h') (h1:∀ k∈ids,k∈X) (h2:∀ q∈qs,∀ k∈ids,k ∉ kU q) (h3:∀ k∈X',k∈X∨h.get k=none) (h4:∀ k∈X,k∈X'):MsX ro h' X' qs ds ms :=
 ⟨hm.lq,hm.lm,fun i q d m g1 g2 g3=>(hm.at_ i q d m g1 g2 g3).keep lY hs h1 (fun k hk=>by
  have:=h2 q (List.mem_of_getElem? g1) k hk
  exact⟨fun e=>this (by rw[e]; exact List.mem_cons_self ..),fun e=>this (List.mem_cons_of_mem _ e)⟩) h3 h4,hm.dis⟩
theorem MsX.step (hm:MsX ro h X qs ds ms) {i:Nat}{q:oI}{d:AutoD}{m':MacD} (hq:qs[i]?=some q) (hd:ds[i]?=some d) (hk:eB (q.1::iD q.2) h h') (hX:∀ k∈kU q,k∈X) (hn:MI ro h' X q.1 q.2 (er d) m'):MsX ro h' X qs ds (ms.set i m'):=by
 refine⟨hm.lq,by rw[List.length_set]; exact hm.lm,fun j r d2 m2 g1 g2 g3=>?_,hm.dis⟩
 have hl:=(List.getElem?_eq_some_iff.1 hq).1
 by_cases hij:i=j
 ·subst hij
  rw[List.getElem?_set_self (by rw[hm.lm,← hm.lq]; exact hl)] at g3
  rw[hq] at g1
  rw[hd] at g2
  cases g1; cases g2; cases g3
  exact hn
 ·rw[List.getElem?_set_ne hij] at g3
  refine (hm.at_ j r d2 m2 g1 g2 g3).keep lY hk hX (fun k hk2=>?_) (fun k hk2=>.inl hk2) fun k hk2=>hk2
  have:=hm.dis i j q r hq g1 hij k hk2
  exact⟨fun e=>this (by rw[e]; exact List.mem_cons_self ..),fun e=>this (List.mem_cons_of_mem _ e)⟩
theorem MsX.inX (hm:MsX ro h X qs ds ms) {i:Nat}{q:oI} (hq:qs[i]?=some q):∀ k∈kU q,k∈X:=fun k hk=>by
 have hl:=(List.getElem?_eq_some_iff.1 hq).1
 have e1:ds[i]?=some (ds[i]'(by rw[← hm.lq]; exact hl)):=List.getElem?_eq_getElem _
 have e2:ms[i]?=some (ms[i]'(by rw[hm.lm,← hm.lq]; exact hl)):=List.getElem?_eq_getElem _
 exact (hm.at_ i q _ _ hq e1 e2).inX k hk
theorem MsX.nil:MsX ro h X [] [] []:=⟨rfl,rfl,fun i q d m h1=>by simp at h1,fun i j q r h1=>by simp at h1⟩
theorem MsX.snoc (hm:MsX ro h X qs ds ms) {q:oI}{d:AutoD}{m:MacD} (hn:MI ro h X q.1 q.2 (er d) m) (hd:∀ r∈qs,∀ k∈kU r,k ∉ kU q):MsX ro h X (qs++[q]) (ds++[d]) (ms++[m]):=by
 have l1:=hm.lq
 have l2:=hm.lm
 refine⟨by simp[l1],by simp[l2],fun i q2 d2 m2 g1 g2 g3=>?_,fun i j q2 r g1 g2 hij k hk=>?_⟩
 ·rcases Nat.lt_or_ge i qs.length with hi | hi
  ·rw[List.getElem?_append_left hi] at g1
   rw[List.getElem?_append_left (by omega)] at g2 g3
   exact hm.at_ i q2 d2 m2 g1 g2 g3
  ·rw[List.getElem?_append_right hi] at g1
   rw[List.getElem?_append_right (by omega)] at g2 g3
   have hi0:i - qs.length=0:=by
    rcases Nat.eq_zero_or_pos (i - qs.length) with h0 | h0
    ·exact h0
    ·rw[List.getElem?_eq_none (by simp; omega)] at g1; cases g1
   rw[hi0] at g1
   rw[show i - ds.length=0 by omega] at g2
   rw[show i - ms.length=0 by omega] at g3
   simp at g1 g2 g3
   subst g1; subst g2; subst g3
   exact hn
 ·have key:∀ {i:Nat} {q2:oI},(qs++[q])[i]?=some q2→(i < qs.length∧qs[i]?=some q2)∨(i=qs.length∧q2=q):=fun {i q2} g=>by
   rcases Nat.lt_or_ge i qs.length with hi | hi
   ·rw[List.getElem?_append_left hi] at g; exact .inl ⟨hi,g⟩
   ·rw[List.getElem?_append_right hi] at g
    rcases Nat.eq_zero_or_pos (i - qs.length) with h0 | h0
    ·rw[h0] at g; simp at g; exact .inr ⟨by omega,g.symm⟩
    ·rw[List.getElem?_eq_none (by simp; omega)] at g; cases g
  rcases key g1 with ⟨i1,i2⟩ | ⟨i1,rfl⟩
  ·rcases key g2 with ⟨j1,j2⟩ | ⟨j1,rfl⟩
   ·exact hm.dis i j q2 r i2 j2 hij k hk
   ·exact hd q2 (List.mem_of_getElem? i2) k hk
  ·rcases key g2 with ⟨j1,j2⟩ | ⟨j1,_⟩
   ·intro hk2
    exact hd r (List.mem_of_getElem? j2) k hk2 hk
   ·omega
end
def aDC (l:List ByteArray):List (List Value):=l.map fun s=>[Value.string s]
theorem aC0 (l:List ByteArray):(aDC l).length=l.length:=by simp[aDC]
theorem aIz {l:List ByteArray}{i:Nat} (hi:i < l.length):(aDC l)[i]?=some [.string l[i]]:=by simp[aDC,hi]
def mK (qs:List oI):List (List Value):=qs.map fun q=>[ptr q.1]
theorem nP (l:List oI):(mK l).length=l.length:=by simp[mK]
theorem aCX {l:List oI}{i:Nat} (hi:i < l.length):(mK l)[i]?=some [ptr l[i].1]:=by simp[mK,hi]
def wB (ro:Ro) (h:T Obj) (x:List Value) (e:EntD):Prop:=∃ rv,x[259]?=some rv∧Sl ro h rv 1 (lL e.rules)
theorem wB.sub {ro:Ro}{h h':T Obj} (hs:aZ h h'):∀ x e,wB ro h x e→wB ro h' x e:=fun x e ⟨rv,h1,h2⟩=>⟨rv,h1,h2.sub hs⟩
def gS (kv tv ev mv:Value) (most:Int) (bv:Value) (s:ScD) (er_:Int):List Value :=
 [dU,kv,tv,ev,mv,.int .i64 most,bv,.int .i64 (s.at_:Int),.bool s.line,.int .i64 (s.cond:Int),.int .i64 (s.took:Int),.int .i64 (s.held:Int),.int .i64 s.rule,.int .i64 er_,.bool s.closed,.int .i64 (s.steps:Int)]
def ScX (ro:Ro) (h:T Obj) (X:List Nat) (p:Nat) (qs:List oI) (T:TabD) (most er_:Int) (s:ScD):Prop:=∃ kv tv ev mv bv,h.get p=some (.cells (gS kv tv ev mv most bv s er_).toArray bE) ∧
 Sl ro (del h X) kv 1 (aDC T.kinds)∧Sl ro (del h X) tv 1 (lL T.to)∧iO ro (del h X) ev 260 (wB ro (del h X)) T.entries∧Sl ro (del h X) mv 1 (mK qs)∧Sl ro (del h X) bv 1 (cC s.kept)∧MsX ro h X qs (T.entries.map (·.a)) s.ms∧p∈X∧∀ q∈qs,p ∉ kU q
section
variable {ro:Ro}{h h':T Obj}{X X':List Nat}{p:Nat}{qs:List oI}{T:TabD}{most er_:Int}{s:ScD}
theorem ScX.sub (hm:ScX ro h X p qs T most er_ s) (hs:aZ h h') (h3:∀ k∈X',k∈X∨h.get k=none) (h4:∀ k∈X,k∈X'):ScX ro h' X' p qs T most er_ s:=by
 obtain⟨kv,tv,ev,mv,bv,g1,g2,g3,g4,g5,g6,g7,g8,g9⟩:=hm
 have hD:aZ (del h X) (del h' X'):=eB.del (ids:=[]) hs.keepL (fun k hk=>by cases hk) h3
 exact⟨kv,tv,ev,mv,bv,hs _ _ g1,g2.sub hD,g3.sub hD,g4.sub hD (wB.sub hD),g5.sub hD,g6.sub hD,g7.keep (ids:=[]) hs.keepL (fun k hk=>by cases hk) (fun q hq k hk=>by cases hk) h3 h4,h4 p g8,g9⟩
end
end V
end Go.Proofs.YtcaccnneblghgaaGreat
namespace Go.Proofs.YtcaccnneblghgaaGreat
namespace V
attribute [local irreducible] aB bA aW dM eR gI dH
theorem aJd (id off z:Nat):xU .eql (at_ id off z) (.pointer none)=some (.bool false):=rfl
section
variable {ro:Ro}{h:T Obj}{nx:Nat}{K:KV}
end
section
variable {ro:Ro}{h:T Obj}{nx:Nat}{K:KV}{X:List Nat}{p:Nat}{qs:List oI}{T:TabD}{most er_:Int}{s:ScD}
theorem aMF (hm:ScX ro h X p qs T most er_ s) (hK:∀ nx',nx≤nx'→K (.int .i64 (s.cond:Nat)) h nx'):aO Tryz.prog ro pU [ptr p] h nx K:=by
 obtain⟨kv,tv,ev,mv,bv,g1,g2,g3,g4,g5,g6,g7,g8,g9⟩:=hm
 apply aBz
 unfold yK
 have l9:=aV (ro:=ro) (z:=0) g1 (show (gS kv tv ev mv most bv s er_)[9]?=some (.int .i64 (s.cond:Int)) from rfl)
 (have zz:=And.intro @aJd (And.intro @aR l9);repeat refine zzCz ?_)
 exact⟨h,aZ.refl _,hK _ (by omega)⟩
theorem aKI (hm:ScX ro h X p qs T most er_ s) (hK:∀ nx',nx≤nx'→K (.int .i64 (s.steps:Nat)) h nx'):aO Tryz.prog ro oZ [ptr p] h nx K:=by
 obtain⟨kv,tv,ev,mv,bv,g1,g2,g3,g4,g5,g6,g7,g8,g9⟩:=hm
 apply aBD
 unfold xO
 have l15:=aV (ro:=ro) (z:=0) g1 (show (gS kv tv ev mv most bv s er_)[15]?=some (.int .i64 (s.steps:Int)) from rfl)
 (have zz:=And.intro @aJd (And.intro @aR l15);repeat refine zzCz ?_)
 exact⟨h,aZ.refl _,hK _ (by omega)⟩
theorem aMH (hm:ScX ro h X p qs T most er_ s) (hK:∀ nx',nx≤nx'→K (.int .i64 (s.kept.length:Nat)) h nx'):aO Tryz.prog ro pV [ptr p] h nx K:=by
 obtain⟨kv,tv,ev,mv,bv,g1,g2,g3,g4,g5,g6,g7,g8,g9⟩:=hm
 apply aCA
 unfold yL
 have l6:=aV (ro:=ro) (z:=0) g1 (show (gS kv tv ev mv most bv s er_)[6]?=some bv from rfl)
 have hl:=g6.len
 rw[dJ] at hl
 (have zz:=And.intro @aJd (And.intro @aR (And.intro l6 hl));repeat refine zzCz ?_)
 exact⟨h,aZ.refl _,hK _ (by omega)⟩
def nW (er_:Int) (closed:Bool):Int:=if er_=0∧closed=true then 181 else er_
theorem sL (hm:ScX ro h X p qs T most er_ s) (hK:∀ nx',nx≤nx'→K (.int .i64 (nW er_ s.closed)) h nx'):aO Tryz.prog ro jR [ptr p] h nx K:=by
 obtain⟨kv,tv,ev,mv,bv,g1,g2,g3,g4,g5,g6,g7,g8,g9⟩:=hm
 apply z9
 unfold uK
 have l13:=aV (ro:=ro) (z:=0) g1 (show (gS kv tv ev mv most bv s er_)[13]?=some (.int .i64 er_) from rfl)
 have l14:=aV (ro:=ro) (z:=0) g1 (show (gS kv tv ev mv most bv s er_)[14]?=some (.bool s.closed) from rfl)
 by_cases he:er_=0
 ·cases hc:s.closed with
  | true =>
   rw[hc] at l14
   have:nW er_ s.closed=181:=if_pos ⟨he,hc⟩
   rw[this] at hK
   (have zz:=And.intro @aJd (And.intro @aR (And.intro l13 l14));repeat refine zzCz ?_)
   exact⟨h,aZ.refl _,hK _ (by omega)⟩
  | false =>
   rw[hc] at l14
   have:nW er_ s.closed=er_:=if_neg fun e=>by rw[hc] at e; exact absurd e.2 (by decide)
   rw[this] at hK
   (have zz:=And.intro @aJd (And.intro @aR (And.intro l13 l14));repeat refine zzCz ?_)
   exact⟨h,aZ.refl _,hK _ (by omega)⟩
 ·have:nW er_ s.closed=er_:=if_neg fun e=>he e.1
  rw[this] at hK
  (have zz:=And.intro @aJd (And.intro @aR (And.intro l13 l14));repeat refine zzCz ?_)
  exact⟨h,aZ.refl _,hK _ (by omega)⟩
theorem aET (hm:ScX ro h X p qs T most er_ s) (hc:s.cond≤1000000) (hK:∀ nx',nx≤nx'→K (.int .i64 (nG s:Nat)) h nx'):aO Tryz.prog ro lK [ptr p] h nx K:=by
 obtain⟨kv,tv,ev,mv,bv,g1,g2,g3,g4,g5,g6,g7,g8,g9⟩:=hm
 apply aBE
 unfold xP
 have l8:=aV (ro:=ro) (z:=0) g1 (show (gS kv tv ev mv most bv s er_)[8]?=some (.bool s.line) from rfl)
 have l9:=aV (ro:=ro) (z:=0) g1 (show (gS kv tv ev mv most bv s er_)[9]?=some (.int .i64 (s.cond:Int)) from rfl)
 cases hl:s.line with
 | true =>
  rw[hl] at l8
  have:((nG s:Nat):Int)=2*(s.cond:Int)+1:=by unfold nG; rw[hl]; simp
  rw[this] at hK
  (have zz:=And.intro @aR (And.intro l8 l9);repeat refine zzCz ?_)
  exact⟨h,aZ.refl _,hK _ (by omega)⟩
 | false =>
  rw[hl] at l8
  have:((nG s:Nat):Int)=2*(s.cond:Int):=by unfold nG; rw[hl]; simp
  rw[this] at hK
  (have zz:=And.intro @aR (And.intro l8 l9);repeat refine zzCz ?_)
  exact⟨h,aZ.refl _,hK _ (by omega)⟩
end
end V
end Go.Proofs.YtcaccnneblghgaaGreat
namespace Go.Proofs.YtcaccnneblghgaaGreat
namespace V
theorem aCf {z:Nat}:∀ {l:List (List Value)} (n:Nat),(∀ x∈l,x.length=z)→l.flatten.drop (n*z)=(l.drop n).flatten
 | [],n,_=>by simp
 | y::r,0,_=>by simp
 | y::r,n+1,hz=>by
  have hy:=hz y (by simp)
  rw[List.drop_succ_cons,List.flatten_cons,Nat.succ_mul,show n*z+z=y.length+n*z by omega,List.drop_append,List.drop_of_length_le (Nat.le_add_right _ _),List.nil_append,Nat.add_sub_cancel_left]
  exact aCf n fun x hx=>hz x (by simp[hx])
theorem aDn {z:Nat}:∀ {l:List (List Value)},(∀ x∈l,x.length=z)→l.flatten.length=l.length*z
 | [],_=>by simp
 | y::r,hz=>by
  rw[List.flatten_cons,List.length_append,aDn fun x hx=>hz x (by simp[hx]),hz y (by simp),List.length_cons,Nat.succ_mul]; omega
theorem Sl.drop {P:Program}{t e:TypeId}{ro:Ro}{h:T Obj}{v:Value}{z:Nat}{l:List (List Value)} (hl:Sl ro h v z l) (hu:iM P t=some (.slice e)) (hz:p6 P e=some z) {n:Nat} (hn:n≤l.length) (k:IntKind) :
  ∃ r,nX P t v (some (.int k (n:Int))) none none=some r∧Sl ro h r z (l.drop n):=by
 have hnv:pL (.int k (n:Int))=some n:=by simp[pL]
 rcases hl with ⟨rfl,rfl⟩ | ⟨a,cap,rfl,h2,h3,h4⟩
 ·simp at hn; subst hn
  refine⟨.slice none 0 0,?_,.inl ⟨rfl,rfl⟩⟩
  unfold nX
  simp[hu,hz,kX,pL]
 ·have hb1:Nat.ble l.length cap=true:=Nat.ble_eq_true_of_le h2
  have hbn:Nat.ble n l.length=true:=Nat.ble_eq_true_of_le hn
  have e1:kX none cap cap=some cap:=rfl
  have e2:kX none l.length cap=some l.length:=rfl
  have e3:kX (some (.int k (n:Int))) 0 l.length=some n:=by simp[kX,hnv,hbn]
  have hlen:(l.drop n).length=l.length - n:=List.length_drop
  have hk:n*z+(l.length - n)*z≤l.length*z:=by rw[← Nat.add_mul]; exact Nat.mul_le_mul_right _ (by omega)
  have hp:=pG h4.2 hk
  rw[aCf n h4.1] at hp
  have hl2:(l.drop n).flatten.length=(l.length - n)*z:=by rw[aDn fun x hx=>h4.1 x (List.mem_of_mem_drop hx),hlen]
  rw[List.take_of_length_le (by rw[hl2]; exact Nat.le_refl _)] at hp
  unfold nX
  simp only[hu,hz,Option.bind,e1,e2,e3,hb1,Option.isNone,Bool.true_or]
  rcases h3 with h3 | h3
  ·simp only[h3]
   cases hc:Nat.beq cap n with
   | true =>
    have hcn:cap=n:=Nat.eq_of_beq_eq_true hc
    have hd:l.drop n=[]:=List.drop_of_length_le (by omega)
    refine⟨_,rfl,.inr ⟨a,cap - n,by rw[hlen],by rw[hlen]; omega,.inl h3,fun x hx=>(by rw[hd] at hx; cases hx),?_⟩⟩
    have h0:=pG (off:=0) (k:=0) h4.2 (Nat.zero_le _)
    have e:elt a 0=a:=by obtain⟨b,o,sp⟩:=a; change sp=none at h3; subst h3; rfl
    rw[e] at h0
    rw[hd]
    simpa using h0
   | false =>
    refine⟨_,rfl,.inr ⟨V.fwd a (n*z),cap - n,by rw[hlen],by rw[hlen]; omega,.inl h3,fun x hx=>h4.1 x (List.mem_of_mem_drop hx),?_⟩⟩
    have e:elt a (n*z)=V.fwd a (n*z):=by obtain⟨b,o,sp⟩:=a; change sp=none at h3; subst h3; rfl
    rw[e] at hp
    rw[hlen]; exact hp
  ·simp only[h3,Nat.beq_refl]
   refine⟨_,rfl,.inr ⟨V.fwd a (n*z),cap - n,by rw[hlen],by rw[hlen]; omega,.inr h3,fun x hx=>h4.1 x (List.mem_of_mem_drop hx),?_⟩⟩
   rw[hlen]
   unfold cellsAt at hp ⊢
   simp only[elt,V.fwd,h3,Option.map] at hp ⊢
   exact hp
end V
end Go.Proofs.YtcaccnneblghgaaGreat
namespace Go.Proofs.YtcaccnneblghgaaGreat
namespace V
attribute [local irreducible] aB bA aW dM eR gI dH
theorem aDj {ro:Ro}{v f:Value}{D:Type}{l:List D}{R:List Value→D→Prop}{q:D→Bool} (hlen:l.length≤1000000) {h:T Obj}{nx:Nat}{K:KV} (hv:iO ro h v 260 R l)
  (hf:∀ (i:Nat) (hi:i < l.length) x n K',R x l[i]→nx≤n→(∀ n',n≤n'→K' (.bool (q l[i])) h n')→aBK (aO Tryz.prog ro) f [.agg x.toArray] h n K')
  (hK:∀ nx',nx≤nx'→K (.int .i64 (sU q 0 l)) h nx'):aO Tryz.prog ro gA [v,f] h nx K:=by
 apply oE
 unfold jO
 generalize hR:sU q 0 l=r at hK
 refine aA hv.len ?_
 refine bM (fun j e h' nx'=>∃ (k:Nat),k+j=l.length∧nx≤nx'∧h'=h∧e 0=v∧e 1=f∧e 7=.int .i64 l.length∧e 8=.int .i64 k∧sU q k (l.drop k)=r) ?_ (n:=l.length) ⟨0,by omega,by omega,rfl,rfl,rfl,rfl,rfl,hR⟩
 rintro j e h' nx' ⟨k,hj,hnx,rfl,e0,e1,e7,e8,hr⟩ Q' hq hx
 unfold iV
 rw[e0,e1,e7,e8]
 refine dS (fun hk=>?_) (fun hk=>?_)
 ·have hk:k < l.length:=by omega
  rw[cU hk,qK] at hr
  obtain⟨x,hx1,hx2,hx3,hx4,hx5⟩:=hv.at hk
  (repeat refine zzC ?_)
  refine aA (hv.ix _ hk) (aA hx3 ?_)
  refine hf k hk x _ _ hx1 (by omega) fun n hn=>?_
  cases hc:q l[k] with
  | true =>
   rw[hc,if_pos rfl] at hr
   (repeat refine zzC ?_)
   refine hx _ _ _ _ (fun e=>by cases e) (fP ?_)
   exact⟨_,aZ.refl _,ki hK hr.symm (by omega)⟩
  | false =>
   rw[hc,if_neg (by decide)] at hr
   (repeat refine zzC ?_)
   exact hq (j - 1) _ _ _ _ (by omega) ⟨k+1,by omega,by omega,rfl,e0,e1,e7,rfl,hr⟩ (aZ.refl _)
 ·(repeat refine zzC ?_)
  refine hx _ _ _ _ (fun e=>by cases e) (eE (dG ?_))
  unfold fV
  rw[gG (by omega)] at hr
  exact⟨_,aZ.refl _,ki hK hr.symm (by omega)⟩
theorem aBS {ro:Ro}{v f:Value}{D:Type}{l:List D}{R:List Value→D→Prop}{q:D→Bool} (hlen:l.length≤1000000) {h:T Obj}{nx:Nat}{K:KV} (hv:iO ro h v 260 R l)
  (hf:∀ (i:Nat) (hi:i < l.length) x n K',R x l[i]→nx≤n→(∀ n',n≤n'→K' (.bool (q l[i])) h n')→aBK (aO Tryz.prog ro) f [.agg x.toArray] h n K')
  (hK:∀ nx',nx≤nx'→K (.bool (l.any q)) h nx'):aO Tryz.prog ro fQ [v,f] h nx K:=by
 apply m6
 unfold iT
 refine aDj hlen hv (fun i hi x n K' hx hn hk=>hf i hi x n K' hx (by omega) hk) fun n hn=>?_
 rw[← aCQ q l 0 (by omega)] at hK
 (first | refine dS (fun hb=>?_) (fun hb=>?_) | refine aGn (fun hb=>?_) (fun hb=>?_) | refine nH (fun hb=>?_) (fun hb=>?_) | refine yB (fun hb=>?_) (fun hb=>?_) | refine uY (fun hb=>?_) (fun hb=>?_) | refine uF (fun hb=>?_) (fun hb=>?_))
 ·exact⟨_,aZ.refl _,kb hK (decide_eq_true hb) (by omega)⟩
 ·exact⟨_,aZ.refl _,kb hK (decide_eq_false (by omega)) (by omega)⟩
theorem aRe (h:T Obj) (ts:Array TypeId) (a b:Int):fZ Tryz.prog h .max ts [.int .i64 a,.int .i64 b]=some (.int .i64 (max a b)):=by
 unfold fZ
 simp only[aJa,aQY,aMs]
 by_cases e:a < b
 ·simp only[e,decide_true]; congr 2; omega
 ·simp only[e,decide_false]; congr 2; omega
theorem aKw {n:Int}:∀ (l:List Int) (x:Int),decide (n≤l.foldl max x)=(decide (n≤x) || l.any fun r=>decide (n≤r))
 | [],x=>(Bool.or_false _).symm
 | y::l,x=>by
  rw[List.foldl_cons,aKw l,List.any_cons,← Bool.or_assoc]
  congr 1
  by_cases h1:n≤x
  ·rw[decide_eq_true h1,decide_eq_true (show n≤max x y by omega)]; rfl
  ·by_cases h2:n≤y
   ·rw[decide_eq_false h1,decide_eq_true h2,decide_eq_true (show n≤max x y by omega)]; rfl
   ·rw[decide_eq_false h1,decide_eq_false h2,decide_eq_false (show ¬n≤max x y by omega)]; rfl
section
variable {ro:Ro}{h:T Obj}{nx:Nat}{K:KV}
set_option maxRecDepth 4000 in
theorem aKJ {v:Value}{x:Int}{l:List Int} (hl:l.length≤1000000) (hv:Sl ro h v 1 (lL (x::l))) (hK:∀ nx',nx≤nx'→K (.int .i64 (l.foldl max x)) h nx'):aO Tryz.prog ro o5 [v] h nx K:=by
 have hlen:=hv.len
 rw[fB,List.length_cons] at hlen
 apply aBF
 unfold xS
 have h0x:=hv.ix .i64 (i:=0) (by rw[fB]; simp)
 have h0l:=hv.load1 (j6 (l:=x::l) (i:=0) (by simp))
 have hz:((0:Nat):Int)=0:=rfl
 rw[hz] at h0x
 refine aA hlen ?_
 (repeat refine zzC ?_)
 have key:∀ (e:dL) n,nx≤n→e 0=v→nZ ro K e h n:=by
  intro e n hn e0
  unfold nZ
  rw[e0]
  refine aA h0x (aA h0l ?_)
  refine bM (fun j e h' nx'=>∃ (k:Nat) (m:Int),k+j=(x::l).length∧1≤k∧nx≤nx'∧h'=h∧e 0=v∧e 3=.int .i64 m∧e 4=.int .i64 k∧((x::l).drop k).foldl max m=l.foldl max x) ?_ (n:=l.length) ⟨1,x,by rw[List.length_cons]; omega,by omega,by omega,rfl,e0,rfl,rfl,rfl⟩
  rintro j e' h' nx' ⟨k,m,hj,hk1,hnx,rfl,f0,f3,f4,hr⟩ Q' hq hx
  unfold tD
  rw[f0,f3,f4]
  refine aA hlen ?_
  rw[List.length_cons] at hj
  refine dS (fun hk=>?_) (fun hk=>?_)
  ·have hk:k < (x::l).length:=by rw[List.length_cons]; omega
   have hkx:=hv.ix .i64 (i:=k) (by rw[fB]; exact hk)
   have hkl:=hv.load1 (j6 (l:=x::l) (i:=k) hk)
   rw[cU hk,List.foldl_cons] at hr
   generalize (x::l)[k]=y at hr hkl
   (repeat refine zzC ?_)
   refine aA hkx (aA hkl (aA (aRe _ _ _ _) ?_))
   (repeat refine zzC ?_)
   exact hq (j - 1) _ _ _ _ (by omega) ⟨k+1,max m y,by rw[List.length_cons]; omega,by omega,by omega,rfl,f0,rfl,rfl,hr⟩ (aZ.refl _)
  ·(repeat refine zzC ?_)
   refine hx _ _ _ _ (fun e=>by cases e) (eE (dG ?_))
   have hm:m=l.foldl max x:=by rw[← hr,List.drop_of_length_le (by rw[List.length_cons]; omega)]; rfl
   have hend:∀ (e9:dL) n',nx≤n'→e9 3=.int .i64 m→kS ro K e9 h' n':=by
    intro e9 n' hn f
    unfold kS
    rw[f,hm]
    exact⟨_,aZ.refl _,hK _ (by omega)⟩
   exact hend _ _ (by omega) f3
 exact key _ _ (by omega) rfl
end
end V
end Go.Proofs.YtcaccnneblghgaaGreat
namespace Go.Proofs.YtcaccnneblghgaaGreat
namespace V
attribute [local irreducible] aB bA aW dM eR gI dH
section
variable {ro:Ro}{h:T Obj}{nx:Nat}{K:KV}
set_option maxRecDepth 8000 in
theorem aJ0 {lv rv uv nv xrv:Value}{s:StateD}{x:List Value}{rules:List Int}{i1:Nat} (hne:s.rule≠[]) (hsl:s.rule.length≤1000000) (hf:Fr h nx) (g1:h.get i1=some (.cells x.toArray dX)) (m1:x[259]?=some xrv) (hrl:Sl ro h xrv 1 (lL rules)) (hru:rules.length≤nJ) (hu:ZI ro h uv s.rule)
  (hK:∀ nx',nx≤nx'→K (.bool (s.rule.any fun r=>decide ((rules.length:Int)≤r))) h nx'):aO Tryz.prog ro aAP [.agg #[lv,rv,uv,nv],ptr i1] h nx K:=by
 have hru:rules.length≤9223372036854775807:=hru
 apply aHt
 unfold aGc
 refine eZ hf (Nat.le_refl _) fun h1 hs1 hf1 g3 _=>?_
 have g3:h1.get nx=some (.cells [lv,rv,uv,nv].toArray bG):=g3
 have m2:[lv,rv,uv,nv][2]?=some uv:=rfl
 have g1':=hs1 _ _ g1
 have hlen:=(hrl.sub hs1).len
 rw[fB] at hlen
 (repeat refine zzC ?_)
 refine aA (aV g3 m2) ?_
 cases hq:s.rule with
 | nil=>exact absurd hq hne
 | cons y r =>
  rw[hq] at hsl
  have hu1:Sl ro h1 uv 1 (lL (y::r)):=by rw[← hq]; exact (hu.sub hs1:ZI ro h1 uv s.rule)
  refine aKJ (by rw[List.length_cons] at hsl; omega) hu1 fun n2 hn2=>?_
  have hany:(s.rule.any fun r=>decide ((rules.length:Int)≤r))=decide ((rules.length:Int)≤r.foldl max y):=by
   rw[hq,List.any_cons,aKw]
  rw[hany] at hK
  (repeat refine zzC ?_)
  refine aA (aV g1' m1) ⟨eL g1' g1',aA hlen ?_⟩
  by_cases hc:(rules.length:Int)≤r.foldl max y
  ·rw[decide_eq_true hc] at hK
   (repeat refine zzC ?_)
   exact⟨h,hs1,hK _ (by omega)⟩
  ·rw[decide_eq_false hc] at hK
   (repeat refine zzC ?_)
   exact⟨h,hs1,hK _ (by omega)⟩
theorem aNe {m:Nat} (h:m≤3):mD (m:Int)≤27:=by
 have:m=0∨m=1∨m=2∨m=3:=by omega
 rcases this with rfl | rfl | rfl | rfl<;>decide
theorem aSf {m:Nat} (h:m≤3):1≤mD (m:Int):=by
 have:m=0∨m=1∨m=2∨m=3:=by omega
 rcases this with rfl | rfl | rfl | rfl<;>decide
theorem aJF {α:Type}{p q:α→Bool}:∀ {l:List α},(∀ x∈l,q x=!p x)→l.all p=!(l.any q)
 | [],_=>rfl
 | y::l,hpq=>by
  rw[List.all_cons,List.any_cons,hpq y (by simp),aJF fun x hx=>hpq x (by simp[hx])]
  cases p y<;>simp
set_option maxRecDepth 8000 in
set_option maxHeartbeats 1000000 in
theorem aMl {x:List Value}{e:EntD}{many:Nat} (hmb:many≤1000000) (hf:Fr h nx) (hd:qH ro h x e) (hK:∀ nx',nx≤nx'→K (.bool (oQ many e)) h nx'):aO Tryz.prog ro aDO [.agg x.toArray,.int .i64 (many:Int)] h nx K:=by
 obtain⟨cv,sv,rv,hxe,c258,c259,htk,hA,hS,hSl,hR,hRl⟩:=hd.cells
 have hRl9:e.rules.length≤9223372036854775807:=hRl
 have hcl:e.a.c.length=256:=by obtain⟨_,_,_,hc,_⟩:=id hA; exact hc
 apply aLA
 unfold aKz
 refine eZ hf (Nat.le_refl _) fun h1 hs1 hf1 g1 _=>?_
 have g1:h1.get nx=some (.cells x.toArray dX):=g1
 have hR1:=hR.sub hs1
 have hlen:=hR1.len
 rw[fB] at hlen
 (repeat refine zzC ?_)
 refine aA (aV g1 c259) (aA hlen ?_)
 refine bM (fun j ev h' nx'=>∃ (k:Nat) (la:Int),k+j=e.rules.length∧nx+1≤nx'∧h'=h1∧ev 1=.int .i64 (many:Int)∧ev 2=ptr nx∧ev 5=.int .i64 la∧ev 9=rv∧ev 10=.int .i64 e.rules.length∧ev 11=.int .i64 k∧rz (-1) many e.rules=rz la many (e.rules.drop k)) ?_ (n:=e.rules.length)
  ⟨0,-1,by omega,by omega,rfl,rfl,rfl,rfl,rfl,rfl,rfl,rfl⟩
 rintro j ev h' nx' ⟨k,la,hj,hnx,rfl,e1,e2,e5,e9,e10,e11,hr⟩ Q' hq hx
 unfold aFM
 rw[e1,e5,e9,e10,e11]
 refine dS (fun hk=>?_) (fun hk=>?_)
 ·have hk:k < e.rules.length:=by omega
  have hix:=hR1.ix .i64 (i:=k) (by rw[fB]; exact hk)
  have hld:=hR1.load1 (j6 (l:=e.rules) (i:=k) hk)
  rw[cU hk] at hr
  generalize e.rules[k]=y at hr hld
  have hr:rz (-1) many e.rules=(decide (la < y)&&(decide (y < many)&&rz y many (e.rules.drop (k+1)))):=hr
  have hno:rz (-1) many e.rules=false→∀ n',nx≤n'→∃ h9,aZ h9 h'∧K (.bool false) h9 n':=fun hz n' hn=>⟨h,hs1,by
   have:oQ many e=false:=by unfold oQ; rw[hz]; rfl
   rw[← this]; exact hK _ hn⟩
  by_cases c1:y≤la
  ·rw[decide_eq_false (show ¬la < y by omega),Bool.false_and] at hr
   (have zz:=And.intro hix hld;repeat refine zzCz ?_)
   refine hx _ _ _ _ (fun e=>by cases e) (fP ?_)
   exact hno hr _ (by omega)
  ·rw[decide_eq_true (show la < y by omega),Bool.true_and] at hr
   by_cases c2:(many:Int)≤y
   ·rw[decide_eq_false (show ¬y < (many:Int) by omega),Bool.false_and] at hr
    (have zz:=And.intro hix hld;repeat refine zzCz ?_)
    refine hx _ _ _ _ (fun e=>by cases e) (fP ?_)
    exact hno hr _ (by omega)
   ·rw[decide_eq_true (show y < (many:Int) by omega),Bool.true_and] at hr
    (have zz:=And.intro hix hld;repeat refine zzCz ?_)
    exact hq (j - 1) _ _ _ _ (by omega) ⟨k+1,y,by omega,by omega,rfl,e1,e2,rfl,e9,e10,rfl,hr⟩ (aZ.refl _)
 ·have hr1:rz (-1) many e.rules=true:=by rw[hr,List.drop_of_length_le (by omega)]; rfl
  have hfit:oQ many e=(fF e.a&&e.a.states.all fun s=>s.rule.all fun r=>decide (r < e.rules.length)):=by unfold oQ; rw[hr1,Bool.true_and]
  (repeat refine zzC ?_)
  refine hx _ _ _ _ (fun e=>by cases e) (eE (dG ?_))
  have hend:∀ (ev':dL) n',nx+1≤n'→ev' 2=ptr nx→yA ro K ev' h' n':=by
   intro ev' n' hn f2
   unfold yA
   rw[f2]
   have hld:loadA ro h' 259 (at_ nx 0 0)=some (.agg (eU e.a.c e.a.many cv sv).toArray):=by
    rw[cJ,g1,bP]
    simp only[Option.bind_some,tl]
    rw[if_pos (by rw[hd.len]; omega),List.drop_zero,htk]
   (repeat refine zzC ?_)
   refine aA hld ?_
   refine aDc (hf1.mono (by omega)) (hA.sub hs1) fun n2 hn2=>?_
   cases hok:fF e.a with
   | false =>
    rw[hok,Bool.false_and] at hfit
    (repeat refine zzC ?_)
    refine⟨h,hs1,?_⟩
    rw[← hfit]; exact hK _ (by omega)
   | true =>
    rw[hok,Bool.true_and] at hfit
    obtain⟨_,_,_,k4,_,k6⟩:=eV hok
    (repeat refine zzC ?_)
    refine aA (aV g1 c258) ?_
    refine uP (q:=fun s=>s.rule.any fun r=>decide ((e.rules.length:Int)≤r)) (by omega) (hS.sub hs1 (eT.sub hs1)) (fun i hi y n' K' hy hn' hk'=>?_) fun n' hn'=>?_
    ·obtain⟨lv,rv',uv,nv,rfl,w1,w2,w3,w4,w5⟩:=hy
     have hso:=k6 _ (List.getElem_mem hi)
     obtain⟨p1,p2,p3,p4,p5⟩:=uQ hso
     have hcd:=aNe p1
     exact aJ0 (fun e9=>by have:=aSf p1; rw[e9] at p2; have p2:(0:Int)=_:=p2; omega) (by omega) (hf1.mono (by omega)) g1 c259 hR1 hRl w3 hk'
    ·have hall:(e.a.states.all fun s=>s.rule.all fun r=>decide (r < (e.rules.length:Int)))=!(e.a.states.any fun s=>s.rule.any fun r=>decide ((e.rules.length:Int)≤r)):=aJF fun s _=>by
      rw[aJF (q:=fun r=>decide ((e.rules.length:Int)≤r)) fun r _=>by
       by_cases h9:r < (e.rules.length:Int)
       ·rw[decide_eq_true h9,decide_eq_false (by omega)]; rfl
       ·rw[decide_eq_false h9,decide_eq_true (by omega)]; rfl]
      simp
     rw[hall] at hfit
     (repeat refine zzC ?_)
     refine⟨h,hs1,?_⟩
     rw[← hfit]; exact hK _ (by omega)
  exact hend _ _ (by omega) e2
end
end V
end Go.Proofs.YtcaccnneblghgaaGreat
namespace Go.Proofs.YtcaccnneblghgaaGreat
namespace V
attribute [local irreducible] aB bA aW dM eR gI dH
section
variable {ro:Ro}{h:T Obj}{nx:Nat}{K:KV}
set_option maxRecDepth 8000 in
set_option maxHeartbeats 2000000 in
theorem aJy {x:List Value}{e:EntD}{many:Nat} (hmb:many≤1000000) (hf:Fr h nx) (hd:qH ro h x e) (hK:∀ nx',nx≤nx'→K (.bool (oQ many e)) h nx'):aO Tryz.prog ro aAT [.agg x.toArray,.int .i64 (many:Int)] h nx K:=by
 obtain⟨cv,sv,rv,hxe,c258,c259,htk,hA,hS,hSl,hR,hRl⟩:=hd.cells
 have hRl9:e.rules.length≤9223372036854775807:=hRl
 have hcl:e.a.c.length=256:=by obtain⟨_,_,_,hc,_⟩:=id hA; exact hc
 apply aIK
 unfold aHQ
 refine eZ hf (Nat.le_refl _) fun h1 hs1 hf1 g1 _=>?_
 have g1:h1.get nx=some (.cells x.toArray dX):=g1
 have hld:loadA ro h1 259 (at_ nx 0 0)=some (.agg (eU e.a.c e.a.many cv sv).toArray):=by
  rw[cJ,g1,bP]
  simp only[Option.bind_some,tl]
  rw[if_pos (by rw[hd.len]; omega),List.drop_zero,htk]
 have hR1:=hR.sub hs1
 have hS1:=hS.sub hs1 (eT.sub hs1)
 have hlen:=hR1.len
 rw[fB] at hlen
 have hSlen:=hS1.len
 have l259:=aV (ro:=ro) (z:=0) g1 c259
 have l258:=aV (ro:=ro) (z:=0) g1 c258
 (repeat refine zzC ?_)
 refine aA hld ?_
 refine aCn (hf1.mono (by omega)) (hA.sub hs1) fun n2 hn2=>?_
 have hno:oQ many e=false→∀ n',nx≤n'→∃ h9,aZ h9 h1∧K (.bool false) h9 n':=fun hz n' hn=>⟨h,hs1,by rw[← hz]; exact hK _ hn⟩
 cases hok:fF e.a with
 | false =>
  (repeat refine zzC ?_)
  exact hno (by unfold oQ; rw[hok]; simp) _ (by omega)
 | true =>
  obtain⟨_,_,_,k4,_,k6⟩:=eV hok
  (repeat refine zzC ?_)
  refine bM (fun j ev h' nx'=>∃ (k:Nat) (la:Int),k+j=e.rules.length∧nx+1≤nx'∧h'=h1∧ev 1=.int .i64 (many:Int)∧ev 2=ptr nx∧ev 5=.int .i64 k∧-1≤la∧(∀ (hk:0 < k),∃ hl:k - 1 < e.rules.length,e.rules[k - 1]=la∧0≤la)∧(k=0→la=-1)∧rz (-1) many e.rules=rz la many (e.rules.drop k)) ?_ (n:=e.rules.length)
   ⟨0,-1,by omega,by omega,rfl,rfl,rfl,rfl,by omega,fun hk=>by omega,fun _=>rfl,rfl⟩
  rintro j ev h' nx' ⟨k,la,hj,hnx,rfl,e1,e2,e5,hla,hprev,hla0,hr⟩ Q' hq hx
  unfold aCs
  rw[e1,e2,e5]
  (repeat refine zzC ?_)
  refine aA l259 (aA hlen ?_)
  refine dS (fun hk=>?_) (fun hk=>?_)
  ·have hk:k < e.rules.length:=by omega
   have hix:=hR1.ix .i64 (i:=k) (by rw[fB]; exact hk)
   have hldk:=hR1.load1 (j6 (l:=e.rules) (i:=k) hk)
   rw[cU hk] at hr
   have hyk:e.rules[k]=e.rules[k]:=rfl
   generalize hy:e.rules[k]=y at hr hldk
   have hr:rz (-1) many e.rules=(decide (la < y)&&(decide (y < many)&&rz y many (e.rules.drop (k+1)))):=hr
   have hbad:rz (-1) many e.rules=false→∀ n',nx≤n'→∃ h9,aZ h9 h'∧K (.bool false) h9 n':=fun hz n' hn=>hno (by unfold oQ; rw[hz]; rfl) n' hn
   by_cases c1:y < 0
   ·have hz:rz (-1) many e.rules=false:=by
     by_cases c2:la < y
     ·by_cases hk0:k=0
      ·have:=hla0 hk0; omega
      ·obtain⟨_,_,h0⟩:=hprev (by omega); omega
     ·rw[hr,decide_eq_false c2]; rfl
    (have zz:=And.intro l259 (And.intro hix hldk);repeat refine zzCz ?_)
    refine hx _ _ _ _ (fun e=>by cases e) (fP ?_)
    exact hbad hz _ (by omega)
   ·by_cases c2:(many:Int)≤y
    ·have hz:rz (-1) many e.rules=false:=by rw[hr,decide_eq_false (show ¬y < (many:Int) by omega)]; simp
     (have zz:=And.intro l259 (And.intro hix hldk);repeat refine zzCz ?_)
     refine hx _ _ _ _ (fun e=>by cases e) (fP ?_)
     exact hbad hz _ (by omega)
    ·by_cases hk0:k=0
     ·have hl0:=hla0 hk0
      rw[decide_eq_true (show la < y by omega),decide_eq_true (show y < (many:Int) by omega),Bool.true_and,Bool.true_and] at hr
      (have zz:=And.intro l259 (And.intro hix hldk);repeat refine zzCz ?_)
      exact hq (j - 1) _ _ _ _ (by omega) ⟨k+1,y,by omega,by omega,rfl,e1,e2,rfl,by omega,fun _=>⟨by omega,by show e.rules[k]=y; exact hy,by omega⟩,fun h9=>by omega,hr⟩ (aZ.refl _)
     ·obtain⟨hkl,hp1,hp0⟩:=hprev (by omega)
      have hixp:=hR1.ix .i64 (i:=k - 1) (by rw[fB]; exact hkl)
      have hldp:=hR1.load1 (j6 (l:=e.rules) (i:=k - 1) hkl)
      rw[hp1] at hldp
      rw[show ((k - 1:Nat):Int)=(k:Int) - 1 by omega] at hixp
      by_cases c3:y≤la
      ·have hz:rz (-1) many e.rules=false:=by rw[hr,decide_eq_false (show ¬la < y by omega)]; rfl
       (have zz:=And.intro l259 (And.intro hix (And.intro hldk (And.intro hixp hldp)));repeat refine zzCz ?_)
       refine hx _ _ _ _ (fun e=>by cases e) (fP ?_)
       exact hbad hz _ (by omega)
      ·rw[decide_eq_true (show la < y by omega),decide_eq_true (show y < (many:Int) by omega),Bool.true_and,Bool.true_and] at hr
       (have zz:=And.intro l259 (And.intro hix (And.intro hldk (And.intro hixp hldp)));repeat refine zzCz ?_)
       exact hq (j - 1) _ _ _ _ (by omega) ⟨k+1,y,by omega,by omega,rfl,e1,e2,rfl,by omega,fun _=>⟨by omega,by show e.rules[k]=y; exact hy,by omega⟩,fun h9=>by omega,hr⟩ (aZ.refl _)
  ·have hr1:rz (-1) many e.rules=true:=by rw[hr,List.drop_of_length_le (by omega)]; rfl
   have hfit:oQ many e=(e.a.states.all fun s=>s.rule.all fun r=>decide (r < e.rules.length)):=by unfold oQ; rw[hr1,hok]; rfl
   (repeat refine zzC ?_)
   refine hx _ _ _ _ (fun e=>by cases e) (eE (dG ?_))
   have key:∀ (ev':dL) n',nx+1≤n'→ev' 2=ptr nx→tY ro K ev' h' n':=by
    intro ev' n' hn f2
    unfold tY
    generalize hB:(e.a.states.all fun s=>s.rule.all fun r=>decide (r < (e.rules.length:Int)))=B at hfit
    refine bM (fun j e0 h'' nx2=>∃ (k:Nat),k+j=e.a.states.length∧nx+1≤nx2∧h''=h'∧e0 2=ptr nx∧e0 6=.int .i64 k∧((e.a.states.drop k).all fun s=>s.rule.all fun r=>decide (r < (e.rules.length:Int)))=B) ?_ (n:=e.a.states.length)
     ⟨0,by omega,by omega,rfl,f2,rfl,hB⟩
    rintro j2 e0 h'' nx2 ⟨k2,hj2,hnx2,rfl,f2,f6,hr2⟩ Q2 hq2 hx2
    unfold aCq
    rw[f2,f6]
    (repeat refine zzC ?_)
    refine aA l258 (aA hSlen ?_)
    refine dS (fun hk2=>?_) (fun hk2=>?_)
    ·have hk2:k2 < e.a.states.length:=by omega
     rw[cU hk2,List.all_cons] at hr2
     have six:=hS1.ix .i64 hk2
     obtain⟨y,hy1,hy2,hy3,hy4,hy5⟩:=hS1.at hk2
     have hso:=k6 _ (List.getElem_mem hk2)
     generalize e.a.states[k2]=st at hr2 hy1 hso
     obtain⟨lv,rv',uv,nv,rfl,w1,w2,w3,w4,w5⟩:=hy1
     obtain⟨p1,p2,p3,p4,p5⟩:=uQ hso
     have hcd:=aNe p1
     have y2:=hy5 2 uv rfl
     have y2p:=hy4 2
     have w3:Sl ro h'' uv 1 (lL st.rule):=w3
     have ulen:=w3.len
     rw[fB] at ulen
     (repeat refine zzC ?_)
     generalize hB2:(st.rule.all fun r=>decide (r < (e.rules.length:Int)))=Bq at hr2
     refine bM (fun j3 e3 h3 nx3=>∃ (k3:Nat),k3+j3=st.rule.length∧nx+1≤nx3∧h3=h''∧e3 2=ptr nx∧e3 6=.int .i64 k2∧e3 7=.int .i64 k3∧((st.rule.drop k3).all fun r=>decide (r < (e.rules.length:Int)))=Bq) ?_ (n:=st.rule.length)
      ⟨0,by omega,by omega,rfl,f2,f6,rfl,hB2⟩
     rintro j3 e3 h3 nx3 ⟨k3,hj3,hnx3,rfl,f2,f6,f7,hr3⟩ Q3 hq3 hx3
     unfold aCr
     rw[f2,f6,f7]
     (have zz:=And.intro six y2p;repeat refine zzCz ?_)
     refine aA l258 ?_
     (have zz:=And.intro six y2p;repeat refine zzCz ?_)
     refine aA y2 (aA ulen ?_)
     refine dS (fun hk3=>?_) (fun hk3=>?_)
     ·have hk3:k3 < st.rule.length:=by omega
      have uix:=w3.ix .i64 (i:=k3) (by rw[fB]; exact hk3)
      have uld:=w3.load1 (j6 (l:=st.rule) (i:=k3) hk3)
      rw[cU hk3,List.all_cons] at hr3
      generalize st.rule[k3]=u at hr3 uld
      have hcount:∀ b:Bool,decide (u < (e.rules.length:Int))=b→True:=fun _ _=>trivial
      (have zz:=And.intro l258 (And.intro l259 (And.intro six (And.intro y2p (And.intro y2 (And.intro uix (And.intro uld hlen))))));repeat refine zzCz ?_)
      by_cases hc:(e.rules.length:Int)≤u
      ·rw[decide_eq_false (show ¬u < (e.rules.length:Int) by omega),Bool.false_and] at hr3
       (repeat refine zzC ?_)
       refine hx3 _ _ _ _ (fun e=>by cases e) (fP ?_)
       refine hx2 _ _ _ _ (fun e=>by cases e) (fP ?_)
       refine hno ?_ _ (by omega)
       rw[hfit,← hr2,← hr3]; rfl
      ·rw[decide_eq_true (show u < (e.rules.length:Int) by omega),Bool.true_and] at hr3
       (repeat refine zzC ?_)
       exact hq3 (j3 - 1) _ _ _ _ (by omega) ⟨k3+1,by omega,by omega,rfl,f2,f6,rfl,hr3⟩ (aZ.refl _)
     ·have hb2:Bq=true:=by rw[← hr3,List.drop_of_length_le (by omega)]; rfl
      rw[hb2,Bool.true_and] at hr2
      (repeat refine zzC ?_)
      refine hx3 _ _ _ _ (fun e=>by cases e) (eE (dG ?_))
      have hj:∀ (e9:dL) n9,nx+1≤n9→e9 2=ptr nx→e9 6=.int .i64 k2→qA ro Q2 e9 h3 n9:=by
       intro e9 n9 hn9 f2 f6
       unfold qA
       rw[f6]
       have hk29:k2 < 256:=by omega
       (repeat refine zzC ?_)
       exact hq2 (j2 - 1) _ _ _ _ (by omega) ⟨k2+1,by omega,by omega,rfl,f2,rfl,hr2⟩ (aZ.refl _)
      exact hj _ _ (by omega) f2 f6
    ·have hb:B=true:=by rw[← hr2,List.drop_of_length_le (by omega)]; rfl
     (repeat refine zzC ?_)
     refine hx2 _ _ _ _ (fun e=>by cases e) (eE (dG ?_))
     have hj:∀ (e9:dL) n9,nx≤n9→tZ ro K e9 h'' n9:=by
      intro e9 n9 hn9
      unfold tZ
      refine⟨h,hs1,?_⟩
      rw[← hb,← hfit]; exact hK _ (by omega)
     exact hj _ _ (by omega)
   exact key _ _ (by omega) e2
end
end V
end Go.Proofs.YtcaccnneblghgaaGreat
namespace Go.Proofs.YtcaccnneblghgaaGreat
namespace V
attribute [local irreducible] aB bA aW dM eR gI dH
theorem aOK (a b:ByteArray):(a.data.toList==b.data.toList)=decide (a=b):=by
 by_cases h:a=b
 ·subst h; simp
 ·rw[decide_eq_false h,beq_eq_false_iff_ne]
  intro he
  apply h
  have:a.data=b.data:=Array.toList_inj.1 he
  cases a; cases b
  simp only at this
  rw[this]
theorem aMV (a b:ByteArray):aFk .eql (.string a) (.string b)=some (.bool (decide (a=b))):=by
 rw[← aOK]; rfl
theorem aAD (a b:ByteArray):aFk .neq (.string a) (.string b)=some (.bool (!decide (a=b))):=by
 rw[← aOK]; rfl
theorem aFK {D:Type}{q:D→Bool}:∀ {l:List D}{k:Int}{i:Nat}{x:D},0≤k→l[i]?=some x→q x=true→decide (sU q k l=k+i)=!((l.take i).any q)
 | [],k,i,x,_,h,_=>by simp at h
 | y::l,k,0,x,_,h,hq=>by
  simp at h
  subst h
  rw[qK,if_pos hq]
  simp
 | y::l,k,i+1,x,hk,h,hq=>by
  rw[qK,List.take_succ_cons,List.any_cons]
  by_cases hy:q y=true
  ·rw[if_pos hy,hy,Bool.true_or,decide_eq_false (by omega)]; rfl
  ·rw[if_neg hy]
   have:=aFK (l:=l) (k:=k+1) (i:=i) (by omega) (by simpa using h) hq
   have hyf:q y=false:=by simpa using hy
   rw[hyf,Bool.false_or,← this]
   congr 1
   have e:k+1+(i:Int)=k+((i+1:Nat):Int):=by omega
   rw[e]
section
variable {ro:Ro}{h:T Obj}{nx:Nat}{K:KV}
theorem aAH.load {v:Value}{l:List ByteArray} (hv:iO ro h v 1 aAH l) {i:Nat} (hi:i < l.length):load1 ro h (i3 1 v i)=some (.string l[i])∧l[i].size≤nJ:=by
 obtain⟨w,h1,h2⟩:=hv.at1 hi
 obtain⟨h3,h4⟩:=h1
 have:w=.string l[i]:=by simpa using h3
 rw[this] at h2
 exact⟨h2,h4⟩
set_option maxRecDepth 4000 in
theorem aH0 {v:Value}{l:List ByteArray}{s:ByteArray} (hlen:l.length≤1000000) (hv:iO ro h v 1 aAH l) (hK:∀ nx',nx≤nx'→K (.int .i64 (sU (fun t=>decide (s=t)) 0 l)) h nx'):aO Tryz.prog ro jJ [v,.string s] h nx K:=by
 apply uO
 unfold pD
 generalize hR:sU (fun t=>decide (s=t)) 0 l=r at hK
 refine aA hv.len ?_
 refine bM (fun j e h' nx'=>∃ (k:Nat),k+j=l.length∧nx≤nx'∧h'=h∧e 0=v∧e 1=.string s∧e 7=.int .i64 l.length∧e 8=.int .i64 k∧sU (fun t=>decide (s=t)) k (l.drop k)=r) ?_ (n:=l.length) ⟨0,by omega,by omega,rfl,rfl,rfl,rfl,rfl,hR⟩
 rintro j e h' nx' ⟨k,hj,hnx,rfl,e0,e1,e7,e8,hr⟩ Q' hq hx
 unfold mR
 rw[e0,e1,e7,e8]
 refine dS (fun hk=>?_) (fun hk=>?_)
 ·have hk:k < l.length:=by omega
  have hix:=hv.ix .i64 hk
  obtain⟨hld,_⟩:=aAH.load hv hk
  rw[cU hk,qK] at hr
  generalize l[k]=y at hr hld
  have hsb:=aMV s y
  by_cases hc:s=y
  ·rw[decide_eq_true hc] at hsb
   rw[if_pos (decide_eq_true hc)] at hr
   (have zz:=And.intro hix (And.intro hld hsb);repeat refine zzCz ?_)
   refine hx _ _ _ _ (fun e=>by cases e) (fP ?_)
   refine⟨_,aZ.refl _,?_⟩
   show K (.int .i64 (k:Int)) h' _
   rw[hr]; exact hK _ (by omega)
  ·rw[decide_eq_false hc] at hsb
   rw[if_neg (by rw[decide_eq_false hc]; decide)] at hr
   (have zz:=And.intro hix (And.intro hld hsb);repeat refine zzCz ?_)
   exact hq (j - 1) _ _ _ _ (by omega) ⟨k+1,by omega,by omega,rfl,e0,e1,e7,rfl,by rw[← hr]; rfl⟩ (aZ.refl _)
 ·rw[List.drop_of_length_le (by omega)] at hr
  (repeat refine zzC ?_)
  refine hx _ _ _ _ (fun e=>by cases e) (eE (dG ?_))
  unfold jD
  refine⟨_,aZ.refl _,?_⟩
  have hr:(-1:Int)=r:=hr
  rw[hr]; exact hK _ (by omega)
end
end V
end Go.Proofs.YtcaccnneblghgaaGreat