/- Texts laid one behind the other: XE, XG, XH, SC, SE, GA, SN, SO, XI, XM, XU, SP, TO, XW, XX, XY, XZ, GS, SX, SY, SZ, SQ, SR, ST, SU, SV.
   No condition. -/
import Derived.KernelRfl
import Derived.Test.YtcaccnneblghgaaGreatQ54
set_option linter.unusedVariables false
set_option linter.unusedSimpArgs false
namespace Go.Proofs.YtcaccnneblghgaaGreat
namespace V
attribute [local irreducible] aB ifP aR cT eQ exP cO
theorem rS.trans {a b c:T Obj}{p q:Nat} (h1:rS a b p q) (h2:rS b c p q):rS a c p q:=fun k k1 k2=>by rw[h2 k k1 k2,h1 k k1 k2]
theorem rS.get {h h':T Obj}{p a n w k:Nat}{L:List Nat}{c:Array Value}{e:TypeId} (ho:rS h h' p a) (hR:RI h p a n L w) (hg:h.get k=some (.cells c e)) (h1:e≠bM) (h2:e≠dR):h'.get k=some (.cells c e):=by
 obtain⟨c1,t1⟩:=jR.p hR
 obtain⟨c2,t2⟩:=jR.a hR
 rw[ho k (kC hg t1 h1) (kC hg t2 h2)]; exact hg
theorem rS.frR {h h':T Obj}{p a n w nx:Nat}{L:List Nat} (ho:rS h h' p a) (hR:RI h p a n L w) (hf:Fr h nx):Fr h' nx:=fun k hk=>by
 obtain⟨c1,t1⟩:=jR.p hR
 obtain⟨c2,t2⟩:=jR.a hR
 have:=hf.lt' t1
 have:=hf.lt' t2
 rw[ho k (by omega) (by omega)]; exact hf k hk
theorem aEu {ro:Ro}{h:T Obj}{p a n w o nx:Nat}{L:List Nat}{K:KV} (hR:RI h p a n L w) (ho:1≤o∧o≤3) (hw:w+2≤1000000) (hK:∀ h' nx',nx≤nx'→RI h' p a n (aGu n o (L,w)).1 (aGu n o (L,w)).2→rS h h' p a→K (.tuple #[]) h' nx'):aN Tryz.prog ro tY [ptr p,.int .u8 (o:Int)] h nx K:=by
 apply aDd
 unfold aCQ
 unfold aGu at hK
 refine sD (fun h3=>?_) (fun h3=>?_)
 ·rw[if_pos (by omega)] at hK
  (repeat(first|refine zzB ?_|apply aD|apply aE|with_reducible first|apply aG|apply aF|apply aK|apply aH|apply aJ|apply aI|apply aL|apply aC))
  refine wD hR (by omega) fun h1 n1 hn1 hR1 ho1=>?_
  refine aEZ hR1 (by omega) fun h2 n2 hn2 hR2 ho2=>?_
  exact⟨_,Sub.refl _,hK _ _ (by omega) hR2 (ho1.trans ho2)⟩
 ·rw[if_neg (by omega)] at hK
  (repeat(first|refine zzB ?_|apply aD|apply aE|with_reducible first|apply aG|apply aF|apply aK|apply aH|apply aJ|apply aI|apply aL|apply aC))
  refine sD (fun h2=>?_) (fun h2=>?_)
  ·rw[if_pos (by omega)] at hK
   (repeat(first|refine zzB ?_|apply aD|apply aE|with_reducible first|apply aG|apply aF|apply aK|apply aH|apply aJ|apply aI|apply aL|apply aC))
   refine aEY hR (by omega) fun h1 n1 hn1 hR1 ho1=>?_
   refine aEZ hR1 (by omega) fun h2 n2 hn2 hR2 ho2=>?_
   exact⟨_,Sub.refl _,hK _ _ (by omega) hR2 (ho1.trans ho2)⟩
  ·rw[if_neg (by omega)] at hK
   (repeat(first|refine zzB ?_|apply aD|apply aE|with_reducible first|apply aG|apply aF|apply aK|apply aH|apply aJ|apply aI|apply aL|apply aC))
   refine aEY hR (by omega) fun h1 n1 hn1 hR1 ho1=>?_
   exact⟨_,Sub.refl _,hK _ _ (by omega) hR1 ho1⟩
def SIn (D hs:T Obj) (p sb mb:Nat) (pc sc mc:List Value) (ps:List (Nat × Nat)) (C:List (Int × Int)) (h:T Obj) (nx:Nat) (rs:List RgD):Prop :=
 h.get p=some (.cells pc.toArray bJ)∧h.get sb=some (.cells sc.toArray bD)∧h.get mb=some (.cells mc.toArray cE)∧Sub D h∧RsX RI h ps C rs∧dM (p::j5 ps) hs h∧Fr h nx
theorem rS.subD {h0 h h':T Obj}{p a:Nat}{X:List Nat} (ho:rS h h' p a) (hp:p∈X) (ha:a∈X) (hs:Sub (del h0 X) h):Sub (del h0 X) h':=fun k o hk=>by
 have h1:=hk
 rw[jU] at h1
 split at h1
 ·cases h1
 ·rename_i hn
  rw[ho k (fun e=>hn (by rw[e]; exact hp)) (fun e=>hn (by rw[e]; exact ha))]
  exact hs k o hk
section
variable {ro:Ro}{h0 hs h h':T Obj}{X:List Nat}{p sb mb nx:Nat}{pc sc mc:List Value}{ps:List (Nat × Nat)}{C:List (Int × Int)}{rs:List RgD}{K:KV}
theorem SIn.mono {n':Nat} (hi:SIn (del h0 X) hs p sb mb pc sc mc ps C h nx rs) (hn:nx≤n'):SIn (del h0 X) hs p sb mb pc sc mc ps C h n' rs:=by
 obtain⟨g1,g2,g3,g4,g5,g6,g7⟩:=hi
 exact⟨g1,g2,g3,g4,g5,g6,g7.mono hn⟩
theorem SIn.ring {i n':Nat}{q:Nat × Nat}{c:Int × Int}{L:List Nat}{w n:Nat}{r:RgD} (hi:SIn (del h0 X) hs p sb mb pc sc mc ps C h nx rs) (hd:Dst ps) (hX:∀ k∈j5 ps,k∈X) (hq:ps[i]?=some q) (hc:C[i]?=some c) (hR:RI h q.1 q.2 n L w) (hR':RI h' q.1 q.2 c.2.toNat r.1 r.2) (ho:rS h h' q.1 q.2) (hn:nx≤n') :
  SIn (del h0 X) hs p sb mb pc sc mc ps C h' n' (rs.set i r):=by
 obtain⟨g1,g2,g3,g4,g5,g6,g7⟩:=hi
 have hm:=List.mem_of_getElem? hq
 have m1:q.1∈j5 ps:=iS.2 ⟨q,hm,.inl rfl⟩
 have m2:q.2∈j5 ps:=iS.2 ⟨q,hm,.inr rfl⟩
 have hr:=g5.set jR hd g7 hq hc hR' fun k _ k1 k2=>ho k k1 k2
 rw[aIk hq] at hr
 refine⟨ho.get hR g1 (by decide) (by decide),ho.get hR g2 (by decide) (by decide),ho.get hR g3 (by decide) (by decide),ho.subD (hX _ m1) (hX _ m2) g4,hr,fun k o hk hn=>?_,(ho.frR hR g7).mono hn⟩
 rw[ho k (fun e=>hn (List.mem_cons_of_mem _ (by rw[e]; exact m1))) (fun e=>hn (List.mem_cons_of_mem _ (by rw[e]; exact m2)))]
 exact g6 k o hk hn
variable {cc:List Nat}{many cur:Int}{cv sv rv:Value}{steps:Nat}{to:Int}{ov nxv:Value}{ops:List Nat}{R:List Int}
set_option maxRecDepth 8000 in
theorem aL3 {e:Env}{B:Nat} (hcl:cc.length=256) (e0:e 0=ptr p) (e6:e 6=ptr mb) (e7:e 7=nxv) (hi:SIn (del h0 X) hs p sb mb (eC cc many cv sv cur rv steps) sc [.int .i64 to,ov] ps C h nx rs) (hd:Dst ps) (hX:∀ k∈j5 ps,k∈X) (hP:Sl ro (del h0 X) rv 1 (mW ps))
  (hR:ZI ro (del h0 X) nxv R) (ho:SlR ro (del h0 X) ov 1 RU8 ops) (hl:ops.length=R.length) (hor:∀ o∈ops,1≤o∧o≤3) (hRl:∀ c∈R,0≤c∧c < C.length) (hR3:R.length≤3) (hB:WLe B rs) (hB2:B+8≤1000000)
  (fin:∀ h' n',nx≤n'→SIn (del h0 X) hs p sb mb (eC cc many cv sv cur rv steps) sc [.int .i64 to,ov] ps C h' n' (x7 C R ops rs)→K (.bool (!decide (to=-1))) h' n'):gY ro K e h nx:=by
 unfold gY
 rw[e7]
 refine aA hR.len ?_
 have m0:=vB (n:=many) (cv:=cv) (sv:=sv) (cur:=cur) (rv:=rv) (steps:=steps) hcl
 generalize hF:x7 C R ops rs=fin0 at fin
 refine bE (fun j e h' nx'=>∃ (k:Nat) (rs':List RgD),k+j=R.length∧nx≤nx'∧e 0=ptr p∧e 6=ptr mb∧e 7=nxv∧e 92=nxv∧e 93=.int .i64 R.length∧e 94=.int .i64 k ∧
  SIn (del h0 X) hs p sb mb (eC cc many cv sv cur rv steps) sc [.int .i64 to,ov] ps C h' nx' rs'∧WLe (B+2*k) rs'∧x7 C (R.drop k) (ops.drop k) rs'=fin0) ?_ (n:=R.length) ⟨0,rs,by omega,by omega,e0,e6,e7,rfl,rfl,rfl,hi.mono (by omega),hB.mono (by omega),hF⟩
 rintro j e h' nx' ⟨k,rs',hj,hnx,e0,e6,e7,e92,e93,e94,hi,hw,hF⟩ Q' hq hx
 obtain⟨g1,g2,g3,g4,g5,g6,g7⟩:=id hi
 unfold pS
 rw[e0,e6,e92,e93,e94]
 refine cV (fun hk=>?_) (fun hk=>?_)
 ·have hk:k < R.length:=by omega
  have hko:k < ops.length:=by omega
  rw[bX hk,bX hko] at hF
  have hcm:=hRl _ (List.getElem_mem hk)
  have hom:=hor _ (List.getElem_mem hko)
  have hR':=hR.sub g4
  have hP':=hP.sub g4
  have ho':=ho.sub g4 fun _ _ h=>h
  have rix:=hR'.ix .i64 hk
  have rld:=hR'.load hk
  have oix:=ho'.ix .i64 hko
  obtain⟨w,⟨ow,olt⟩,o1⟩:=ho'.at1 hko
  simp only[List.cons.injEq,and_true] at ow
  subst ow
  generalize R[k]=c at hF hcm rld
  generalize ops[k]=o at hF hom o1 olt
  change x7 C _ _ (rs'.set c.toNat (aGu (oW C c).2.toNat o (rI rs' c)))=fin0 at hF
  obtain⟨q,hq',hri⟩:=g5.at hcm.1 hcm.2
  have hpi:=hP'.ixI .i64 hcm.1 (by rw[pB,g5.1]; exact hcm.2)
  have hp1:=hP'.load1 (aBV hq')
  have hwc:=hw.at c
  have hci:C[c.toNat]?=some (oW C c):=by rw[← aDC hcm.1 hcm.2]; exact List.getElem?_eq_getElem _
  (repeat(first|refine aA (by simp (disch:=first|omega|exact nnN _|assumption) only [BB,B2,↓reduceIte,Nat.reduceLeDiff,Nat.reduceAdd,CC,bC,rix,rld,g1,m0,hpi,hp1,g3,oix,o1]<;>rfl) ?_|apply aD|apply aE|with_reducible first|apply aG|apply aF|apply aK|apply aH|apply aJ|apply aI|apply aL|apply aC))
  refine aEu hri hom (by omega) fun h2 n2 hn2 hR2 ho2=>?_
  have hwo:=aNB (oW C c).2.toNat o (rI rs' c)
  (repeat(first|refine zzB ?_|apply aD|apply aE|with_reducible first|apply aG|apply aF|apply aK|apply aH|apply aJ|apply aI|apply aL|apply aC))
  exact hq (j - 1) _ _ _ _ (by omega) ⟨k+1,_,by omega,by omega,e0,e6,e7,e92,e93,rfl,hi.ring (r:=aGu (oW C c).2.toNat o (rI rs' c)) hd hX hq' hci hri hR2 ho2 (by omega),(hw.mono (by omega)).set (by omega),hF⟩ (Sub.refl _)
 ·(repeat(first|refine zzB ?_|apply aD|apply aE|with_reducible first|apply aG|apply aF|apply aK|apply aH|apply aJ|apply aI|apply aL|apply aC))
  refine hx _ _ _ _ (fun e=>by cases e) (eD (cQ ?_))
  rw[gJ (by omega)] at hF
  have hF:rs'=fin0:=hF
  subst hF
  have hj3:∀ (e':Env) n',e' 6=ptr mb→nx'≤n'→jD ro K e' h' n':=by
   intro e' n' f6 hn
   unfold jD
   rw[f6]
   (repeat(first|refine aA (by simp (disch:=first|omega|exact nnN _|assumption) only [BB,B2,↓reduceIte,Nat.reduceLeDiff,Nat.reduceAdd,CC,g3]<;>rfl) ?_|apply aD|apply aE|with_reducible first|apply aG|apply aF|apply aK|apply aH|apply aJ|apply aI|apply aL|apply aC))
   refine aA (aU _ _ _) ?_
   exact⟨h',Sub.refl _,fin _ _ (by omega) (hi.mono (by omega))⟩
  exact hj3 _ _ e6 (by omega)
set_option maxRecDepth 8000 in
theorem aL2 {e:Env}{B:Nat}{lv rv' uv nv:Value}{S:List Int} (hcl:cc.length=256) (e0:e 0=ptr p) (e5:e 5=ptr sb) (e6:e 6=ptr mb) (e7:e 7=nxv) (hi:SIn (del h0 X) hs p sb mb (eC cc many cv sv cur rv steps) [lv,rv',uv,nv] [.int .i64 to,ov] ps C h nx rs) (hd:Dst ps) (hX:∀ k∈j5 ps,k∈X) (hP:Sl ro (del h0 X) rv 1 (mW ps))
  (hS:ZI ro (del h0 X) rv' S) (hSl:∀ c∈S,0≤c∧c < C.length) (hS3:S.length≤3)
  (hR:ZI ro (del h0 X) nxv R) (ho:SlR ro (del h0 X) ov 1 RU8 ops) (hl:ops.length=R.length) (hor:∀ o∈ops,1≤o∧o≤3) (hRl:∀ c∈R,0≤c∧c < C.length) (hR3:R.length≤3) (hB:WLe B rs) (hB2:B+20≤1000000)
  (fin:∀ h' n',nx≤n'→SIn (del h0 X) hs p sb mb (eC cc many cv sv cur rv steps) [lv,rv',uv,nv] [.int .i64 to,ov] ps C h' n' (x7 C R ops (wN R S rs))→K (.bool (!decide (to=-1))) h' n'):gX ro K e h nx:=by
 unfold gX
 rw[e5]
 have g2:=hi.2.1
 have hSh:=(hS.sub hi.2.2.2.1).len
 (repeat(first|refine aA (by simp (disch:=first|omega|exact nnN _|assumption) only [BB,B2,↓reduceIte,Nat.reduceLeDiff,Nat.reduceAdd,CC,g2,hSh]<;>rfl) ?_|apply aD|apply aE|with_reducible first|apply aG|apply aF|apply aK|apply aH|apply aJ|apply aI|apply aL|apply aC))
 have m0:=vB (n:=many) (cv:=cv) (sv:=sv) (cur:=cur) (rv:=rv) (steps:=steps) hcl
 generalize hF:wN R S rs=fin0 at fin
 refine bE (fun j e h' nx'=>∃ (k:Nat) (rs':List RgD),k+j=S.length∧nx≤nx'∧e 0=ptr p∧e 6=ptr mb∧e 7=nxv∧e 73=rv'∧e 74=.int .i64 S.length∧e 75=.int .i64 k ∧
  SIn (del h0 X) hs p sb mb (eC cc many cv sv cur rv steps) [lv,rv',uv,nv] [.int .i64 to,ov] ps C h' nx' rs'∧WLe (B+2*k) rs'∧wN R (S.drop k) rs'=fin0) ?_ (n:=S.length) ⟨0,rs,by omega,by omega,e0,e6,e7,rfl,rfl,rfl,hi.mono (by omega),hB.mono (by omega),hF⟩
 rintro j e h' nx' ⟨k,rs',hj,hnx,e0,e6,e7,e73,e74,e75,hi,hw,hF⟩ Q' hq hx
 obtain⟨g1,g2,g3,g4,g5,g6,g7⟩:=id hi
 unfold pT
 rw[e0,e7,e73,e74,e75]
 refine cV (fun hk=>?_) (fun hk=>?_)
 ·have hk:k < S.length:=by omega
  rw[bX hk] at hF
  have hcm:=hSl _ (List.getElem_mem hk)
  have hS':=hS.sub g4
  have hR':=hR.sub g4
  have hP':=hP.sub g4
  have six:=hS'.ix .i64 hk
  have sld:=hS'.load hk
  generalize S[k]=c at hF hcm sld
  change wN R _ (if R.contains c then rs' else rs'.set c.toNat (aGM (rI rs' c)))=fin0 at hF
  obtain⟨q,hq',hri⟩:=g5.at hcm.1 hcm.2
  have hpi:=hP'.ixI .i64 hcm.1 (by rw[pB,g5.1]; exact hcm.2)
  have hp1:=hP'.load1 (aBV hq')
  have hwc:=hw.at c
  have hci:C[c.toNat]?=some (oW C c):=by rw[← aDC hcm.1 hcm.2]; exact List.getElem?_eq_getElem _
  have hj4:∀ (e':Env) h2 n2 rs2,e' 0=ptr p→e' 6=ptr mb→e' 7=nxv→e' 73=rv'→e' 74=.int .i64 S.length→e' 75=.int .i64 k→nx≤n2→SIn (del h0 X) hs p sb mb (eC cc many cv sv cur rv steps) [lv,rv',uv,nv] [.int .i64 to,ov] ps C h2 n2 rs2→WLe (B+2*(k+1)) rs2→wN R (S.drop (k+1)) rs2=fin0→jE ro Q' e' h2 n2:=by
   intro e' h2 n2 rs2 f0 f6 f7 f73 f74 f75 hn hi2 hw2 hF2
   unfold jE
   rw[f75]
   (repeat(first|refine zzB ?_|apply aD|apply aE|with_reducible first|apply aG|apply aF|apply aK|apply aH|apply aJ|apply aI|apply aL|apply aC))
   exact hq (j - 1) _ _ _ _ (by omega) ⟨k+1,rs2,by omega,by omega,f0,f6,f7,f73,f74,rfl,hi2.mono (by omega),hw2,hF2⟩ (Sub.refl _)
  (repeat(first|refine aA (by simp (disch:=first|omega|exact nnN _|assumption) only [BB,B2,↓reduceIte,Nat.reduceLeDiff,Nat.reduceAdd,CC,six,sld]<;>rfl) ?_|apply aD|apply aE|with_reducible first|apply aG|apply aF|apply aK|apply aH|apply aJ|apply aI|apply aL|apply aC))
  refine tU (by omega) hR' fun n2 hn2=>?_
  cases hcn:R.contains c with
  | true =>
   rw[hcn,if_pos rfl] at hF
   (repeat(first|refine zzB ?_|apply aD|apply aE|with_reducible first|apply aG|apply aF|apply aK|apply aH|apply aJ|apply aI|apply aL|apply aC))
   exact hj4 _ _ _ rs' e0 e6 e7 e73 e74 e75 (by omega) (hi.mono (by omega)) (hw.mono (by omega)) hF
  | false =>
   rw[hcn,if_neg (by decide)] at hF
   (repeat(first|refine aA (by simp (disch:=first|omega|exact nnN _|assumption) only [BB,B2,↓reduceIte,Nat.reduceLeDiff,Nat.reduceAdd,CC,bC,g1,m0,hpi,hp1]<;>rfl) ?_|apply aD|apply aE|with_reducible first|apply aG|apply aF|apply aK|apply aH|apply aJ|apply aI|apply aL|apply aC))
   refine wD hri (by omega) fun h2 n3 hn3 hR2 ho2=>?_
   exact hj4 _ _ _ _ e0 e6 e7 e73 e74 e75 (by omega) (hi.ring (r:=aGM (rI rs' c)) hd hX hq' hci hri hR2 ho2 (by omega)) ((hw.mono (by omega)).set (by show (rI rs' c).2+1≤_; omega)) hF
 ·(repeat(first|refine zzB ?_|apply aD|apply aE|with_reducible first|apply aG|apply aF|apply aK|apply aH|apply aJ|apply aI|apply aL|apply aC))
  refine hx _ _ _ _ (fun e=>by cases e) (eD (cQ ?_))
  rw[gJ (by omega)] at hF
  have hF:rs'=fin0:=hF
  subst hF
  have hj2:∀ (e':Env) n',e' 0=ptr p→e' 6=ptr mb→e' 7=nxv→nx'≤n'→gY ro K e' h' n':=fun e' n' f0 f6 f7 hn =>
   aL3 hcl f0 f6 f7 (hi.mono hn) hd hX hP hR ho hl hor hRl hR3 hw (by omega) fun h2 n2 hn2 hi2=>fin h2 n2 (by omega) hi2
  exact hj2 _ _ e0 e6 e7 (by omega)
end
end V
end Go.Proofs.YtcaccnneblghgaaGreat
namespace Go.Proofs.YtcaccnneblghgaaGreat
namespace V
attribute [local irreducible] aB ifP aR cT eQ exP cO
theorem aGj {d:AutoD}{R S:List Int}{m:MoveD} (ha:fH d=true) (h:hZ d.states R m=true):m.ops.length=(pX d m.to).length∧(∀ o∈m.ops,1≤o∧o≤3)∧(∀ c∈pX d m.to,0≤c∧c < d.counts.length)∧(pX d m.to).length≤3:=by
 rcases aAa h with ⟨h1,h2⟩ | ⟨h1,h2,h3,h4⟩
 ·unfold pX
  rw[if_pos h1,h2]
  exact⟨rfl,(fun o ho=>by cases ho),(fun o ho=>by cases ho),by simp⟩
 ·have hne:m.to≠-1:=by omega
  unfold pX
  rw[if_neg hne]
  have hi:m.to.toNat < d.states.length:=by omega
  have hs:d.states.getD m.to.toNat noS=d.states[m.to.toNat]:=by rw[List.getD_eq_getElem?_getD,List.getElem?_eq_getElem hi]; rfl
  have hk:=qE ((fW ha).2.2.2.2.2 _ (List.getElem_mem hi))
  rw[← hs] at hk
  exact⟨h3,aFl h4 h3,hk.2.2.2.1,hk.1⟩
theorem aLu {nx:List Int}{B:Nat}:∀ {S:List Int}{rs:List RgD},WLe B rs→WLe (B+S.length) (wN nx S rs)
 | [],rs,h=>h
 | c::r,rs,h=>by
  unfold wN
  have h1:WLe (B+1) (if nx.contains c then rs else rs.set c.toNat (aGM (rI rs c))):=by
   split
   ·exact h.mono (by omega)
   ·exact (h.mono (by omega)).set (by show (rI rs c).2+1≤_; have:=h.at c; omega)
  have:=aLu (nx:=nx) (S:=r) h1
  rw[List.length_cons]
  exact this.mono (by omega)
theorem aOs {C:List (Int × Int)}{B:Nat}:∀ {R:List Int}{os:List Nat}{rs:List RgD},WLe B rs→WLe (B+2*R.length) (x7 C R os rs)
 | [],_,rs,h=>by simpa [x7] using h
 | c::r,[],rs,h=>by
  unfold x7; exact h.mono (by omega)
 | c::r,o::os,rs,h=>by
  unfold x7
  have:=aOs (C:=C) (R:=r) (os:=os) (show WLe (B+2) (rs.set c.toNat (aGu (oW C c).2.toNat o (rI rs c))) from (h.mono (by omega)).set (by have:=h.at c; have:=aNB (oW C c).2.toNat o (rI rs c); omega))
  rw[List.length_cons]
  exact this.mono (by omega)
theorem aPi {d:AutoD}{m:MacD}{b B:Nat} (ha:fH d=true) (ho:MOk d m) (hcl:d.c.length=256) (hb:b < 256) (h:WLe B m.rs):WLe (B+9) (mM d m b).rs:=by
 unfold mM
 by_cases hc:m.cur=-1
 ·rw[if_pos hc]; exact h.mono (by omega)
 ·rw[if_neg hc]
  have h1:=(aFu ha ho hc).r3
  have h2:=aGj (S:=[]) ha (aG8 ha ho hc hcl hb).2
  have h3:=aOs (C:=d.counts) (R:=pX d (pV d m b).to) (os:=(pV d m b).ops) (aLu (nx:=pX d (pV d m b).to) (S:=(gH d m).r) h)
  exact h3.mono (by omega)
section
variable {ro:Ro}{h:T Obj}{nx:Nat}{X:List Nat}{p:Nat}{ps:List (Nat × Nat)}{d:AutoD}{m:MacD}{K:KV}
set_option maxRecDepth 8000 in
set_option maxHeartbeats 1000000 in
theorem aHf {b B:Nat} (hm:MI ro h X p ps d m) (ha:fH d=true) (ho:MOk d m) (hb:b < 256) (hf:Fr h nx) (hB:WLe B m.rs) (hB2:B+20≤1000000) (hst:m.steps≤1000000000)
  (hK:∀ h' nx',nx≤nx'→Fr h' nx'→dM (p::j5 ps) h h'→MI ro h' X p ps d (mM d m b)→K (.bool (onM d m b)) h' nx'):aN Tryz.prog ro mQ [ptr p,.int .u8 (b:Int)] h nx K:=by
 apply xS
 unfold tI
 refine aAy hm fun n1 hn1=>?_
 unfold onM mM at hK
 by_cases hc:m.cur=-1
 ·rw[if_pos hc,decide_eq_true hc] at hK
  refine aKJ hc ?_
  (repeat(first|refine zzB ?_|apply aD|apply aE|with_reducible first|apply aG|apply aF|apply aK|apply aH|apply aJ|apply aI|apply aL|apply aC))
  exact⟨h,Sub.refl _,hK _ _ (by omega) (hf.mono (by omega)) (Sub.refl _).keepL hm⟩
 ·rw[if_neg hc,decide_eq_false hc] at hK
  have hsf:=aFu ha ho hc
  obtain⟨cv,sv,rv,gp,hA,hP,hR,hD,hpX,hbX⟩:=id hm
  obtain⟨hcl,hclt,hcv,hsv⟩:=hA.parts
  have hmv:=aG8 ha ho hc hcl hb
  have hops:=aGj (S:=[]) ha hmv.2
  have hmp:=aAa hmv.2
  have hsvD:=hsv
  have hsv:=hsv.sub (eF h X) (eG.sub (eF h X))
  have m8:=aBt (n:=d.many) (cv:=cv) (sv:=sv) (cur:=m.cur) (rv:=rv) (steps:=m.steps) hcl
  have m9:=aBu (n:=d.many) (cv:=cv) (sv:=sv) (cur:=m.cur) (rv:=rv) (steps:=m.steps) hcl
  have m1:=aLF (n:=d.many) (cv:=cv) (sv:=sv) (cur:=m.cur) (rv:=rv) (steps:=m.steps) hcl
  have mb:=aNw (n:=d.many) (cv:=cv) (sv:=sv) (cur:=m.cur) (rv:=rv) (steps:=m.steps) hcl hb
  have hcur:0≤m.cur∧m.cur < d.states.length:=by rcases ho.1 with h | h<;>omega
  have hi:m.cur.toNat < d.states.length:=by omega
  have hs:d.states[m.cur.toNat]=gH d m:=by unfold gH; rw[List.getD_eq_getElem?_getD,List.getElem?_eq_getElem hi]; rfl
  have hsi:=hsv.ixI .i64 hcur.1 hcur.2
  obtain⟨x,⟨lv,rv',uv,nv,rfl,y1,y2,y3,y4,y5⟩,hx2,hx3,hx4,hx5⟩:=hsv.at hi
  obtain⟨xD,⟨lvD,rvD,uvD,nvD,rfl,z1,z2,z3,z4,z5⟩,w2,w3,w4,w5⟩:=hsvD.at hi
  have hsame:[lv,rv',uv,nv]=[lvD,rvD,uvD,nvD]:=by
   have:=aBs (eF h X) w3
   rw[hx3] at this
   simpa using this
  simp only[List.cons.injEq,and_true] at hsame
  obtain⟨rfl,rfl,rfl,rfl⟩:=hsame
  rw[hs] at y1 y2 y3 y4 y5 z2 z4
  refine aKI hc ?_
  (repeat(first|refine aA (by simp (disch:=first|omega|exact nnN _|assumption) only [BB,B2,↓reduceIte,Nat.reduceLeDiff,Nat.reduceAdd,CC,bC,gp,m8,m9,hsi,hx3]<;>rfl) ?_|apply aD|apply aE|with_reducible first|apply aG|apply aF|apply aK|apply aH|apply aJ|apply aI|apply aL|apply aC))
  refine kA (x:=[lv,rv',uv,nv]) rQ rfl rfl rfl (by simp[y1.ok,y2.ok,y3.ok,SlR.okC y4]) hf (by omega) fun h2 hs2 hf2 g2 _=>?_
  (repeat(first|refine aA (by simp (disch:=first|omega|exact nnN _|assumption) only [BB,B2,↓reduceIte,Nat.reduceLeDiff,Nat.reduceAdd,CC,g2]<;>rfl) ?_|apply aD|apply aE|with_reducible first|apply aG|apply aF|apply aK|apply aH|apply aJ|apply aI|apply aL|apply aC))
  have hm2:=hm.subX jR hs2
  have gp2:=hs2 _ _ gp
  refine aCR hm2 (hf2.mono (by omega)) hsf.r3 hsf.rl (y2.sub hs2) fun n3 hn3=>?_
  have hkn:=hsf.kn
  have z4':=z4.sub ((eF h X).trans hs2) (rT.sub ((eF h X).trans hs2))
  have nix:=z4'.ix .i64 hkn
  obtain⟨w,⟨w',hw1,hw2,hw3⟩,hw4⟩:=z4'.at1 hkn
  simp only[List.cons.injEq,and_true] at hw1
  subst hw1
  have hrow:(gH d m).next[iM d.counts m.rs (gH d m).r]=(gH d m).next.getD (iM d.counts m.rs (gH d m).r) []:=by rw[List.getD_eq_getElem?_getD,List.getElem?_eq_getElem hkn]; rfl
  rw[hrow] at hw2 hw3
  have hrowD:SlR ro (del h X) w 2 (xI ro (del h X)) ((gH d m).next.getD (iM d.counts m.rs (gH d m).r) []):=by
   obtain⟨u,⟨u',hu1,hu2,hu3⟩,hu4⟩:=z4.at1 hkn
   simp only[List.cons.injEq,and_true] at hu1
   subst hu1
   have:=aBr ((eF h X).trans hs2) hu4
   rw[hw4] at this
   cases this
   rw[hrow] at hu2
   exact hu2
  generalize hcb:d.c.getD b 0=cb at mb hmv
  have hci:cb < ((gH d m).next.getD (iM d.counts m.rs (gH d m).r) []).length:=hmv.1
  have hmvd:pV d m b=((gH d m).next.getD (iM d.counts m.rs (gH d m).r) [])[cb]:=by
   unfold pV
   rw[hcb,List.getD_eq_getElem?_getD (a:=aP2),List.getElem?_eq_getElem hci]; rfl
  refine⟨fT g2 g2,?_⟩
  have rix:=hw2.ix .u8 hci
  obtain⟨x,⟨ov,rfl,hov,hol⟩,v2,v3,v4,v5⟩:=hw2.at hci
  obtain⟨xD,⟨ovD,rfl,hovD,holD⟩,u2,u3,u4,u5⟩:=hrowD.at hci
  have hsame2:[Value.int .i64 ((gH d m).next.getD (iM d.counts m.rs (gH d m).r) [])[cb].to,ov]=[Value.int .i64 ((gH d m).next.getD (iM d.counts m.rs (gH d m).r) [])[cb].to,ovD]:=by
   have:=aBs ((eF h X).trans hs2) u3
   rw[v3] at this
   simpa using this
  simp only[List.cons.injEq,and_true,true_and] at hsame2
  subst hsame2
  rw[← hmvd] at v3 hovD hov
  refine aA nix (aA hw4 ?_)
  (repeat(first|refine aA (by simp (disch:=first|omega|exact nnN _|assumption) only [BB,B2,↓reduceIte,Nat.reduceLeDiff,Nat.reduceAdd,CC,bC,gp2,mb]<;>rfl) ?_|apply aD|apply aE|with_reducible first|apply aG|apply aF|apply aK|apply aH|apply aJ|apply aI|apply aL|apply aC))
  refine⟨fT gp2 gp2,?_⟩
  refine aA rix (aA v3 ?_)
  generalize hMV:pV d m b=mv at hK hops hmp hovD hov
  refine kA (x:=[.int .i64 mv.to,ov]) aEj rfl rfl rfl (by simp[show cU ov=true from SlR.okC hov,show cU (Value.int .i64 mv.to)=true from rfl]) hf2 (by omega) fun h3 hs3 hf3 g3 _=>?_
  have gp3:=hs3 _ _ gp2
  have g23:=hs3 _ _ g2
  (repeat(first|refine aA (by simp (disch:=first|omega|exact nnN _|assumption) only [BB,B2,↓reduceIte,Nat.reduceLeDiff,Nat.reduceAdd,CC,bC]<;>rfl) ?_|apply aD|apply aE|with_reducible first|apply aG|apply aF|apply aK|apply aH|apply aJ|apply aI|apply aL|apply aC))
  refine aA (aZ gp3 m1) ?_
  (repeat(first|refine zzB ?_|apply aD|apply aE|with_reducible first|apply aG|apply aF|apply aK|apply aH|apply aJ|apply aI|apply aL|apply aC))
  refine aA (aZ (l:=[lv,rv',uv,nv]) g23 rfl) ?_
  refine aA y2.len ?_
  have hr3:=hsf.r3
  (repeat(first|refine aA (by simp (disch:=first|omega|exact nnN _|assumption) only [BB,B2,↓reduceIte,Nat.reduceLeDiff,Nat.reduceAdd,CC,bC]<;>rfl) ?_|apply aD|apply aE|with_reducible first|apply aG|apply aF|apply aK|apply aH|apply aJ|apply aI|apply aL|apply aC))
  have esteps:(m.steps:Int)+(1+((gH d m).r.length:Int))=((m.steps+1+(gH d m).r.length:Nat):Int):=by omega
  rw[esteps]
  refine aA (dJ (v:=.int .i64 ((m.steps+1+(gH d m).r.length:Nat):Int)) gp3 (by rw[vC hcl]; omega) rfl rfl) ?_
  rw[aG5 hcl]
  have n2lt:=hf.lt' gp
  have gp4:(h3.upd p (some (.cells (eC d.c d.many cv sv m.cur rv (m.steps+1+(gH d m).r.length)).toArray bJ))).get p=some (.cells (eC d.c d.many cv sv m.cur rv (m.steps+1+(gH d m).r.length)).toArray bJ):=T.get_upd_same _ _ _
  have ho4:∀ k,k≠p→(h3.upd p (some (.cells (eC d.c d.many cv sv m.cur rv (m.steps+1+(gH d m).r.length)).toArray bJ))).get k=h3.get k:=fun k hk=>T.get_upd_ne _ _ hk
  generalize (h3.upd p (some (.cells (eC d.c d.many cv sv m.cur rv (m.steps+1+(gH d m).r.length)).toArray bJ)))=h4 at gp4 ho4
  have g24:=(ho4 (n1+12) (by omega)).trans g23
  have g34:=(ho4 (n1+31) (by omega)).trans g3
  (repeat(first|refine zzB ?_|apply aD|apply aE|with_reducible first|apply aG|apply aF|apply aK|apply aH|apply aJ|apply aI|apply aL|apply aC))
  refine aA (aZ (l:=[.int .i64 mv.to,ov]) g34 rfl) ?_
  (repeat(first|refine aA (by simp (disch:=first|omega|exact nnN _|assumption) only [BB,B2,↓reduceIte,Nat.reduceLeDiff,Nat.reduceAdd,CC,bC]<;>rfl) ?_|apply aD|apply aE|with_reducible first|apply aG|apply aF|apply aK|apply aH|apply aJ|apply aI|apply aL|apply aC))
  refine aA (dJ (v:=.int .i64 mv.to) gp4 (by rw[vC hcl]; omega) rfl rfl) ?_
  rw[aBN hcl]
  have gp5:(h4.upd p (some (.cells (eC d.c d.many cv sv mv.to rv (m.steps+1+(gH d m).r.length)).toArray bJ))).get p=some (.cells (eC d.c d.many cv sv mv.to rv (m.steps+1+(gH d m).r.length)).toArray bJ):=T.get_upd_same _ _ _
  have ho5:∀ k,k≠p→(h4.upd p (some (.cells (eC d.c d.many cv sv mv.to rv (m.steps+1+(gH d m).r.length)).toArray bJ))).get k=h3.get k:=fun k hk=>(T.get_upd_ne _ _ hk).trans (ho4 k hk)
  generalize (h4.upd p (some (.cells (eC d.c d.many cv sv mv.to rv (m.steps+1+(gH d m).r.length)).toArray bJ)))=h5 at gp5 ho5
  have g25:=(ho5 (n1+12) (by omega)).trans g23
  have g35:=(ho5 (n1+31) (by omega)).trans g3
  have hs5:Sub h h3:=hs2.trans hs3
  have hD5:Sub (del h X) h5:=fun k o hk=>by
   have h9:=hk
   rw[jU] at h9
   split at h9
   ·cases h9
   ·rename_i hn
    rw[ho5 k (fun e=>hn (by rw[e]; exact hpX))]
    exact hs5 _ _ h9
  have hf5:Fr h5 (n1+32):=fun k hk=>by rw[ho5 k (by omega)]; exact hf3 k (by omega)
  have hSI:SIn (del h X) h p (n1+12) (n1+31) (eC d.c d.many cv sv mv.to rv (m.steps+1+(gH d m).r.length)) [lv,rv',uv,nv] [.int .i64 mv.to,ov] ps d.counts h5 (n1+32) m.rs:=by
   refine⟨gp5,g25,g35,hD5,hR.keep jR fun q hq=>?_,fun k o hk hn=>?_,hf5⟩
   ·obtain⟨⟨c1,t1⟩,c2,t2⟩:=hR.ty jR q hq
    rw[ho5 _ (kC t1 gp (by decide)),ho5 _ (kC t2 gp (by decide)),t1,t2,hs5 _ _ t1,hs5 _ _ t2]
    exact⟨rfl,rfl⟩
   ·rw[ho5 k fun e=>hn (by rw[e]; exact List.mem_cons_self ..)]
    exact hs5 _ _ hk
  have hfin:∀ h' n',n1+32≤n'→SIn (del h X) h p (n1+12) (n1+31) (eC d.c d.many cv sv mv.to rv (m.steps+1+(gH d m).r.length)) [lv,rv',uv,nv] [.int .i64 mv.to,ov] ps d.counts h' n' (x7 d.counts (pX d mv.to) mv.ops (wN (pX d mv.to) (gH d m).r m.rs))→K (.bool (!decide (mv.to=-1))) h' n':=by
   intro h' n' hn' hi'
   obtain⟨q1,q2,q3,q4,q5,q6,q7⟩:=hi'
   have hre:=aMI q4
   have:=hK h' n' (by omega) q7 q6 ⟨cv,sv,rv,q1,hA.sub hre,hP.sub hre,q5,hD,hpX,hbX⟩
   simpa using this
  have hj1:∀ (e':Env) n' nxv,e' 0=ptr p→e' 5=ptr (n1+12)→e' 6=ptr (n1+31)→e' 7=nxv→ZI ro (del h X) nxv (pX d mv.to)→n1+32≤n'→gX ro K e' h5 n':=fun e' n' nxv f0 f5 f6 f7 hz hn' =>
   aL2 hcl f0 f5 f6 f7 (hSI.mono hn') hD hbX hP z2 hsf.rl hsf.r3 hz hovD hops.1 hops.2.1 hops.2.2.1 hops.2.2.2 hB hB2 fun h' n'' hn'' hi'=>hfin h' n'' (by omega) hi'
  have m85:=aBt (n:=d.many) (cv:=cv) (sv:=sv) (cur:=mv.to) (rv:=rv) (steps:=m.steps+1+(gH d m).r.length) hcl
  (repeat(first|refine zzB ?_|apply aD|apply aE|with_reducible first|apply aG|apply aF|apply aK|apply aH|apply aJ|apply aI|apply aL|apply aC))
  refine aA (aZ (l:=[.int .i64 mv.to,ov]) g35 rfl) ?_
  by_cases hto:mv.to=-1
  ·refine aAA hto ?_
   (repeat(first|refine zzB ?_|apply aD|apply aE|with_reducible first|apply aG|apply aF|apply aK|apply aH|apply aJ|apply aI|apply aL|apply aC))
   refine hj1 _ _ (.slice none 0 0) rfl rfl rfl rfl ?_ (by omega)
   unfold pX
   rw[if_pos hto]
   exact Sl.nil
  ·refine aFf hto ?_
   have htr:1≤mv.to∧mv.to < d.states.length:=by rcases hmp with h | h<;>omega
   have hti:mv.to.toNat < d.states.length:=by omega
   have hsv5:=hsvD.sub hD5 (eG.sub hD5)
   have tix:=hsv5.ixI .i64 (show 0≤mv.to by omega) htr.2
   obtain⟨x,⟨lv2,rv2,uv2,nv2,rfl,a1,a2,a3,a4,a5⟩,b2,b3,b4,b5⟩:=hsvD.at hti
   have hl5:=aBr hD5 (b5 1 rv2 rfl)
   have b4':=b4 1
   (repeat(first|refine aA (by simp (disch:=first|omega|exact nnN _|assumption) only [BB,B2,↓reduceIte,Nat.reduceLeDiff,Nat.reduceAdd,CC,bC]<;>rfl) ?_|apply aD|apply aE|with_reducible first|apply aG|apply aF|apply aK|apply aH|apply aJ|apply aI|apply aL|apply aC))
   refine aA (aZ gp5 m85) ?_
   (repeat(first|refine zzB ?_|apply aD|apply aE|with_reducible first|apply aG|apply aF|apply aK|apply aH|apply aJ|apply aI|apply aL|apply aC))
   refine aA (aZ (l:=[.int .i64 mv.to,ov]) g35 rfl) ?_
   refine aA tix (aA b4' (aA hl5 ?_))
   refine hj1 _ _ rv2 rfl rfl rfl rfl ?_ (by omega)
   unfold pX
   rw[if_neg hto,List.getD_eq_getElem?_getD,List.getElem?_eq_getElem hti]
   exact a2
end
end V
end Go.Proofs.YtcaccnneblghgaaGreat
namespace Go.Proofs.YtcaccnneblghgaaGreat
namespace V
attribute [local irreducible] aB ifP aR cT eQ exP cO
def bts (s:ByteArray):List Nat:=s.data.toList.map (·.toNat)
theorem aGH (s:ByteArray):(bts s).length=s.size:=by unfold bts; rw[List.length_map]; rfl
theorem aLq {s:ByteArray}:∀ b∈bts s,b < 256:=fun b hb=>by
 unfold bts at hb
 rw[List.mem_map] at hb
 obtain⟨x,_,rfl⟩:=hb
 exact x.toNat_lt
theorem aDs (s:ByteArray):vZ (.string s)=some (.int .i64 (bts s).length):=by rw[aGH]; rfl
theorem aFb {s:ByteArray}{k:IntKind}{i:Nat} (hi:i < (bts s).length):aDp (.string s) (.int k (i:Int))=some (.int .u8 ((bts s)[i]:Nat)):=by
 have hn:mH (.int k (i:Int))=some i:=by simp[mH]
 have hl:i < s.data.toList.length:=by simpa [bts] using hi
 unfold aDp
 rw[hn]
 simp only[Option.bind]
 rw[List.getElem?_eq_getElem hl]
 simp[bts]
theorem aJl {d:AutoD}{m:MacD}{b:Nat} (ha:fH d=true) (ho:MOk d m):(mM d m b).steps≤m.steps+4:=by
 unfold mM
 by_cases hc:m.cur=-1
 ·rw[if_pos hc]; omega
 ·rw[if_neg hc]
  have:=(aFu ha ho hc).r3
  show m.steps+1+_≤_
  omega
theorem aOO {B:Nat}{m:MacD} (h:WLe B m.rs):WLe (B+1) (aEX m).rs:=fun r hr=>by
 obtain⟨x,hx,rfl⟩:=List.mem_map.1 hr
 have:=h x hx
 unfold p6
 split
 ·omega
 ·show x.2+1≤_; omega
def SJn (D hs:T Obj) (p:Nat) (pc:List Value) (ps:List (Nat × Nat)) (C:List (Int × Int)) (h:T Obj) (nx:Nat) (rs:List RgD):Prop :=
 h.get p=some (.cells pc.toArray bJ)∧Sub D h∧RsX RI h ps C rs∧dM (p::j5 ps) hs h∧Fr h nx
section
variable {ro:Ro}{h0 hs h h':T Obj}{X:List Nat}{p nx:Nat}{pc:List Value}{ps:List (Nat × Nat)}{C:List (Int × Int)}{rs:List RgD}{K:KV}
theorem SJn.mono {n':Nat} (hi:SJn (del h0 X) hs p pc ps C h nx rs) (hn:nx≤n'):SJn (del h0 X) hs p pc ps C h n' rs:=by
 obtain⟨g1,g4,g5,g6,g7⟩:=hi
 exact⟨g1,g4,g5,g6,g7.mono hn⟩
theorem SJn.ring {i n':Nat}{q:Nat × Nat}{c:Int × Int}{L:List Nat}{w n:Nat}{r:RgD} (hi:SJn (del h0 X) hs p pc ps C h nx rs) (hd:Dst ps) (hX:∀ k∈j5 ps,k∈X) (hq:ps[i]?=some q) (hc:C[i]?=some c) (hR:RI h q.1 q.2 n L w) (hR':RI h' q.1 q.2 c.2.toNat r.1 r.2) (ho:rS h h' q.1 q.2) (hn:nx≤n') :
  SJn (del h0 X) hs p pc ps C h' n' (rs.set i r):=by
 obtain⟨g1,g4,g5,g6,g7⟩:=hi
 have hm:=List.mem_of_getElem? hq
 have m1:q.1∈j5 ps:=iS.2 ⟨q,hm,.inl rfl⟩
 have m2:q.2∈j5 ps:=iS.2 ⟨q,hm,.inr rfl⟩
 have hr:=g5.set jR hd g7 hq hc hR' fun k _ k1 k2=>ho k k1 k2
 rw[aIk hq] at hr
 refine⟨ho.get hR g1 (by decide) (by decide),ho.subD (hX _ m1) (hX _ m2) g4,hr,fun k o hk hn=>?_,(ho.frR hR g7).mono hn⟩
 rw[ho k (fun e=>hn (List.mem_cons_of_mem _ (by rw[e]; exact m1))) (fun e=>hn (List.mem_cons_of_mem _ (by rw[e]; exact m2)))]
 exact g6 k o hk hn
end
section
variable {ro:Ro}{h:T Obj}{nx:Nat}{X:List Nat}{p:Nat}{ps:List (Nat × Nat)}{d:AutoD}{m:MacD}{K:KV}
set_option maxRecDepth 8000 in
theorem aGQ {B:Nat} (hm:MI ro h X p ps d m) (ho:MOk d m) (hC:d.counts.length≤512) (hf:Fr h nx) (hB:WLe B m.rs) (hB2:B+1≤1000000)
  (hK:∀ h' nx',nx≤nx'→Fr h' nx'→dM (p::j5 ps) h h'→MI ro h' X p ps d (aEX m)→K (.tuple #[]) h' nx'):aN Tryz.prog ro lM [ptr p] h nx K:=by
 obtain⟨cv,sv,rv,gp,hA,hP,hR,hD,hpX,hbX⟩:=id hm
 obtain⟨hcl,hclt,hcv,hsv⟩:=hA.parts
 have n2lt:=hf.lt' gp
 apply wZ
 unfold sE
 refine aA (pY _ _ _) ?_
 (repeat(first|refine aA (by simp (disch:=first|omega|exact nnN _|assumption) only [BB,B2,↓reduceIte,Nat.reduceLeDiff,Nat.reduceAdd,CC,bC]<;>rfl) ?_|apply aD|apply aE|with_reducible first|apply aG|apply aF|apply aK|apply aH|apply aJ|apply aI|apply aL|apply aC))
 refine aA (dJ (v:=.int .i64 0) gp (by rw[vC hcl]; omega) rfl rfl) ?_
 rw[aBN hcl]
 have gp4:(h.upd p (some (.cells (eC d.c d.many cv sv 0 rv m.steps).toArray bJ))).get p=some (.cells (eC d.c d.many cv sv 0 rv m.steps).toArray bJ):=T.get_upd_same _ _ _
 have ho4:∀ k,k≠p→(h.upd p (some (.cells (eC d.c d.many cv sv 0 rv m.steps).toArray bJ))).get k=h.get k:=fun k hk=>T.get_upd_ne _ _ hk
 generalize (h.upd p (some (.cells (eC d.c d.many cv sv 0 rv m.steps).toArray bJ)))=h4 at gp4 ho4
 have m0:=vB (n:=d.many) (cv:=cv) (sv:=sv) (cur:=0) (rv:=rv) (steps:=m.steps) hcl
 have hSJ:SJn (del h X) h p (eC d.c d.many cv sv 0 rv m.steps) ps d.counts h4 nx m.rs:=by
  refine⟨gp4,fun k o hk=>?_,hR.keep jR fun q hq=>?_,fun k o hk hn=>?_,fun k hk=>by rw[ho4 k (by omega)]; exact hf k hk⟩
  ·have h9:=hk
   rw[jU] at h9
   split at h9
   ·cases h9
   ·rename_i hn
    rw[ho4 k (fun e=>hn (by rw[e]; exact hpX))]; exact h9
  ·obtain⟨⟨c1,t1⟩,c2,t2⟩:=hR.ty jR q hq
   exact⟨ho4 _ (kC t1 gp (by decide)),ho4 _ (kC t2 gp (by decide))⟩
  ·rw[ho4 k fun e=>hn (by rw[e]; exact List.mem_cons_self ..)]; exact hk
 have hPh:=hP.sub hSJ.2.1
 have hpl:=hPh.len
 rw[pB,hR.1] at hpl
 (repeat(first|refine aA (by simp (disch:=first|omega|exact nnN _|assumption) only [BB,B2,↓reduceIte,Nat.reduceLeDiff,Nat.reduceAdd,CC,bC,gp4,m0,hpl]<;>rfl) ?_|apply aD|apply aE|with_reducible first|apply aG|apply aF|apply aK|apply aH|apply aJ|apply aI|apply aL|apply aC))
 have hrl:=ho.2
 have hfin:∀ h' n',nx≤n'→SJn (del h X) h p (eC d.c d.many cv sv 0 rv m.steps) ps d.counts h' n' (m.rs.map p6)→K (.tuple #[]) h' n':=by
  intro h' n' hn' hi'
  obtain⟨q1,q4,q5,q6,q7⟩:=hi'
  have hre:=aMI q4
  exact hK h' n' hn' q7 q6 ⟨cv,sv,rv,q1,hA.sub hre,hP.sub hre,q5,hD,hpX,hbX⟩
 refine bE (fun j e h' nx'=>∃ (k:Nat),k+j=d.counts.length∧nx≤nx'∧e 12=rv∧e 13=.int .i64 d.counts.length∧e 14=.int .i64 k∧SJn (del h X) h p (eC d.c d.many cv sv 0 rv m.steps) ps d.counts h' nx' ((m.rs.take k).map p6++m.rs.drop k)) ?_ (n:=d.counts.length) ⟨0,by omega,by omega,rfl,rfl,rfl,hSJ.mono (by omega)⟩
 rintro j e h' nx' ⟨k,hj,hnx,e12,e13,e14,hi⟩ Q' hq hx
 obtain⟨g1,g4,g5,g6,g7⟩:=id hi
 unfold oX
 rw[e12,e13,e14]
 refine cV (fun hk=>?_) (fun hk=>?_)
 ·have hk:k < d.counts.length:=by omega
  have hkr:k < m.rs.length:=by omega
  have hP':=hP.sub g4
  obtain⟨q,hq',hri⟩:=g5.at (c:=(k:Int)) (by omega) (by omega)
  rw[Int.toNat_natCast] at hq'
  have hlen:((m.rs.take k).map p6).length=k:=by simp; omega
  have hg:rI ((m.rs.take k).map p6++m.rs.drop k) (k:Int)=m.rs[k]:=by
   unfold rI
   rw[Int.toNat_natCast,List.getD_eq_getElem?_getD,List.getElem?_append_right (by omega),hlen,Nat.sub_self,List.getElem?_drop,Nat.add_zero,List.getElem?_eq_getElem hkr]; rfl
  rw[hg] at hri
  have hset:∀ x,((m.rs.take k).map p6++m.rs.drop k).set k x=(m.rs.take k).map p6++[x]++m.rs.drop (k+1):=fun x=>by
   rw[List.set_append_right _ _ (by omega),hlen,Nat.sub_self,bX hkr,List.append_assoc]; rfl
  have htk:(m.rs.take (k+1)).map p6=(m.rs.take k).map p6++[p6 m.rs[k]]:=by rw[List.take_succ_eq_append_getElem hkr,List.map_append]; rfl
  have hci:d.counts[k]?=some (oW d.counts (k:Int)):=by
   rw[← aDC (by omega) (by omega)]
   simp only[Int.toNat_natCast]
   exact List.getElem?_eq_getElem _
  have hj1:∀ (e':Env) h2 n2,e' 12=rv→e' 13=.int .i64 d.counts.length→e' 14=.int .i64 k→nx'≤n2→SJn (del h X) h p (eC d.c d.many cv sv 0 rv m.steps) ps d.counts h2 n2 ((m.rs.take (k+1)).map p6++m.rs.drop (k+1))→iY ro Q' e' h2 n2:=by
   intro e' h2 n2 f12 f13 f14 hn hi2
   unfold iY
   rw[f14]
   (repeat(first|refine zzB ?_|apply aD|apply aE|with_reducible first|apply aG|apply aF|apply aK|apply aH|apply aJ|apply aI|apply aL|apply aC))
   exact hq (j - 1) _ _ _ _ (by omega) ⟨k+1,by omega,by omega,f12,f13,rfl,hi2.mono (by omega)⟩ (Sub.refl _)
  have hdk:m.rs.drop k=[m.rs[k]]++m.rs.drop (k+1):=bX hkr
  have hw:(m.rs[k]).2≤B:=hB _ (List.getElem_mem hkr)
  generalize m.rs[k]=r at hri htk hw hdk
  (repeat(first|refine zzB ?_|apply aD|apply aE|with_reducible first|apply aG|apply aF|apply aK|apply aH|apply aJ|apply aI|apply aL|apply aC))
  refine aA (hP'.ix _ (by rw[pB,hR.1]; exact hk)) (aA (hP'.load1 (aBV hq')) ?_)
  refine aAe hri fun n2 hn2=>?_
  refine lK (fun hl=>?_) (fun hl=>?_)
  ·have hx1:p6 r=aGM r:=if_neg (by omega)
   rw[hx1] at htk
   (repeat(first|refine zzB ?_|apply aD|apply aE|with_reducible first|apply aG|apply aF|apply aK|apply aH|apply aJ|apply aI|apply aL|apply aC))
   refine wD hri (by omega) fun h2 n3 hn3 hR2 ho2=>?_
   have:=hi.ring (r:=aGM r) (n':=n3) hD hbX hq' hci hri hR2 ho2 (by omega)
   rw[hset,← htk] at this
   exact hj1 _ _ _ e12 e13 e14 (by omega) this
  ·have hx1:p6 r=r:=if_pos (by omega)
   rw[hx1] at htk
   (repeat(first|refine zzB ?_|apply aD|apply aE|with_reducible first|apply aG|apply aF|apply aK|apply aH|apply aJ|apply aI|apply aL|apply aC))
   refine hj1 _ _ _ e12 e13 e14 (by omega) ?_
   have e2:(m.rs.take (k+1)).map p6++m.rs.drop (k+1)=(m.rs.take k).map p6++m.rs.drop k:=by
    rw[htk,List.append_assoc,hdk]
   rw[e2]
   exact hi.mono (by omega)
 ·(repeat(first|refine zzB ?_|apply aD|apply aE|with_reducible first|apply aG|apply aF|apply aK|apply aH|apply aJ|apply aI|apply aL|apply aC))
  refine hx _ _ _ _ (fun e=>by cases e) (eD (cQ ?_))
  rw[List.take_of_length_le (by omega),List.drop_eq_nil_of_le (by omega),List.append_nil] at hi
  exact⟨h',Sub.refl _,hfin _ _ (by omega) (hi.mono (by omega))⟩
end
end V
end Go.Proofs.YtcaccnneblghgaaGreat
namespace Go.Proofs.YtcaccnneblghgaaGreat
namespace V
section
variable {T:TabD}
def aCj (s:ScD):Prop:=2*s.steps≤s.at_*(s.at_+2*s.kept.length+1)+2*s.took
theorem aPe {a c e t:Nat} (ht:t≤c+1+e):a*(a+2*(c+1+e)+1)+2*t≤(a+(c+1))*(a+(c+1)+2*e+1):=by
 have h1:a*(a+2*(c+1+e)+1)=a*a+2*(a*c)+2*(a*e)+3*a:=by
  rw[show a+2*(c+1+e)+1=a+(c+c)+(e+e)+3 by omega,Nat.mul_add,Nat.mul_add,Nat.mul_add,Nat.mul_add,Nat.mul_add]; omega
 have h2:(a+(c+1))*(a+(c+1)+2*e+1)=a*a+2*(a*c)+2*(a*e)+3*a+c*c+2*(c*e)+3*c+2*e+2:=by
  rw[show a+(c+1)+2*e+1=a+c+(e+e)+2 by omega,show a+(c+1)=a+c+1 by omega]
  simp only[Nat.mul_add,Nat.add_mul,Nat.one_mul,Nat.mul_one]
  rw[Nat.mul_comm c a]
  omega
 rw[h1,h2]
 have:0≤c*c:=Nat.zero_le _
 omega
theorem aPg {s:ScD} (h:ScOk T s) (hk:s.kept≠[]) (hs:aCj s):aCj (mN T s):=by
 obtain⟨h1,h2⟩:=aBM h hk
 have h3:=h.took
 obtain⟨c,hc⟩:∃ c,fP s=c+1:=⟨fP s - 1,by omega⟩
 obtain⟨e,he⟩:∃ e,s.kept.length=c+1+e:=⟨s.kept.length - (c+1),by omega⟩
 unfold aCj at hs ⊢
 have e1:(mN T s).kept.length=e:=by rw[aDD]; omega
 have e2:(mN T s).at_=s.at_+(c+1):=by show s.at_+fP s=_; rw[hc]
 have e3:(mN T s).took=0:=rfl
 have e4:(mN T s).steps=s.steps:=rfl
 rw[e1,e2,e3,e4]
 rw[he] at hs
 have:=aPe (a:=s.at_) (c:=c) (e:=e) (t:=s.took) (by omega)
 omega
theorem aOV {s:ScD} (h:ScOk T s) (hs:aCj s):aCj (d5 T s).2:=by
 obtain⟨_,_,_,_,h5,_⟩:=uW (qV T s).a (s.kept.drop s.took) (uN s) h.tr
 have e1:(d5 T s).2.steps+s.took=s.steps+(d5 T s).2.took:=h5
 have e2:(d5 T s).2.kept=s.kept:=rfl
 have e3:(d5 T s).2.at_=s.at_:=rfl
 unfold aCj at hs ⊢
 rw[e2,e3]
 omega
theorem aPf {s:ScD} (b:List Nat) (hs:aCj s):aCj (uQ s b):=by
 unfold aCj at hs ⊢
 rw[aCz]
 show 2*s.steps≤s.at_*(s.at_+2*(s.kept.length+b.length)+1)+2*s.took
 have:s.at_*(s.at_+2*s.kept.length+1)≤s.at_*(s.at_+2*(s.kept.length+b.length)+1):=Nat.mul_le_mul_left _ (by omega)
 omega
theorem aPh {s:ScD} (h:ScOk T s) (hs:aCj s):2*s.steps≤(s.at_+s.kept.length)*(s.at_+s.kept.length+1):=by
 unfold aCj at hs
 have h3:=h.took
 generalize s.at_=a at hs
 generalize s.kept.length=k at hs h3
 have h1:a*(a+2*k+1)=a*a+2*(a*k)+a:=by
  rw[show a+2*k+1=a+k+k+1 by omega]
  simp only[Nat.mul_add,Nat.mul_one]; omega
 have h2:(a+k)*(a+k+1)=a*a+2*(a*k)+k*k+a+k:=by
  simp only[Nat.mul_add,Nat.add_mul,Nat.mul_one,Nat.one_mul]
  rw[Nat.mul_comm k a]; omega
 rw[h1] at hs
 rw[h2]
 have:k≤k*k:=by
  cases k with
  | zero=>exact Nat.le_refl _
  | succ k=>exact Nat.le_mul_of_pos_left _ (Nat.succ_pos _)
 omega
structure TabR (T:TabD):Prop where
 ok:∀ e∈T.entries,fH e.a=true
 c256:∀ e∈T.entries,e.a.c.length=256
 rl:∀ e∈T.entries,∀ s∈e.a.states,∀ ru∈s.rule,ru < e.rules.length
 rk:∀ e∈T.entries,∀ r∈e.rules,0≤r∧r < T.kinds.length
 to:T.to.length=T.kinds.length
 tb:∀ t∈T.to,-1≤t∧t < T.conds.length
 len:T.entries.length=2*T.conds.length
 pos:1≤T.conds.length
theorem TabR.tok (h:TabR T):aJs T:=fun c r hc=>by
 unfold aD3
 rw[h.len] at hc ⊢
 split
 ·rename_i hr
  by_cases hlt:r.toNat < T.to.length
  ·have hm:=h.tb _ (List.getElem_mem hlt)
   rw[List.getD_eq_getElem?_getD,List.getElem?_eq_getElem hlt]
   show 2*(T.to[r.toNat]).toNat+1 < _
   omega
  ·have hp:=h.pos
   rw[List.getD_eq_getElem?_getD,List.getElem?_eq_none (by omega)]
   show 2*(0:Int).toNat+1 < _
   have:(0:Int).toNat=0:=rfl
   omega
 ·exact hc
def aHG (T:TabD) (ms:List MacD) (n:Nat):Prop:=∀ (i:Nat) e m,T.entries[i]?=some e→ms[i]?=some m→MOk e.a m∧WLe (10*n) m.rs∧m.steps≤4*n
theorem aHG.mono {ms:List MacD}{n n':Nat} (h:aHG T ms n) (hn:n≤n'):aHG T ms n':=fun i e m he hm=>by
 obtain⟨h1,h2,h3⟩:=h i e m he hm
 exact⟨h1,h2.mono (by omega),by omega⟩
theorem aHG.set {ms:List MacD}{n j:Nat}{m':MacD} (h:aHG T ms n) (hm':∀ e,T.entries[j]?=some e→MOk e.a m'∧WLe (10*n) m'.rs∧m'.steps≤4*n):aHG T (ms.set j m') n:=fun i e m he hm=>by
 rw[List.getElem?_set] at hm
 split at hm
 ·rename_i hji
  subst hji
  split at hm
  ·cases hm; exact hm' e he
  ·cases hm
 ·exact h i e m he hm
theorem aOQ (hT:TabR T) {e:EntD} (he:e∈T.entries) {m:MacD} (hm:MOk e.a m):qP e.a m=-1∨0≤qP e.a m∧qP e.a m < e.rules.length:=by
 unfold qP
 by_cases hc:m.cur=-1
 ·rw[if_pos hc]; exact .inl rfl
 ·rw[if_neg hc]
  have hf:=aFu (hT.ok e he) hm hc
  have h1:=hf.ru
  have hcur:0≤m.cur∧m.cur < e.a.states.length:=by rcases hm.1 with h | h<;>omega
  have hi:m.cur.toNat < e.a.states.length:=by omega
  have hs:gH e.a m∈e.a.states:=by
   unfold gH
   rw[List.getD_eq_getElem?_getD,List.getElem?_eq_getElem hi]
   exact List.getElem_mem hi
  have h2:(gH e.a m).rule.getD (iM e.a.counts m.rs (gH e.a m).r) 0∈(gH e.a m).rule:=by
   rw[List.getD_eq_getElem?_getD,List.getElem?_eq_getElem hf.kr]
   exact List.getElem_mem hf.kr
  have h3:=hT.rl e he _ hs _ h2
  omega
structure LkOk (K:Nat) (e:EntD) (t:TryD):Prop where
 mok:MOk e.a t.m
 w:WLe (K+9*t.steps) t.m.rs
 st:t.m.steps≤4*t.steps
 ru:t.rule=-1∨0≤t.rule∧t.rule < e.rules.length
theorem LkOk.tk0 (hT:TabR T) {K:Nat}{e:EntD} (he:e∈T.entries) {t:TryD}{b:Nat} (hb:b < 256) (h:LkOk K e t):LkOk K e (tk0 e.a t b):=by
 have h1:=aOW (hT.ok e he) h.mok (hT.c256 e he) hb
 have h2:=aPi (hT.ok e he) h.mok (hT.c256 e he) hb h.w
 have h3:=aJl (b:=b) (hT.ok e he) h.mok
 have h4:=h.st
 exact⟨h1,h2.mono (by show K+9*t.steps+9≤K+9*(t.steps+1); omega),by show (mM e.a t.m b).steps≤4*(t.steps+1); omega,h.ru⟩
theorem LkOk.tk1 (hT:TabR T) {K:Nat}{e:EntD} (he:e∈T.entries) {t:TryD}{b:Nat} (hb:b < 256) (h:LkOk K e t):LkOk K e (tk1 e.a t b):=by
 have h0:=h.tk0 hT he hb
 unfold V.tk1
 split
 ·exact h0
 ·rename_i hr
  exact⟨h0.mok,h0.w,h0.st,.inr ((aOQ hT he h0.mok).resolve_left hr)⟩
theorem aKE (hT:TabR T) {K:Nat}{e:EntD} (he:e∈T.entries):∀ (l:List Nat) (t:TryD),(∀ b∈l,b < 256)→LkOk K e t→LkOk K e (zL e.a l t).2
 | [],t,_,h=>h
 | b::r,t,hl,h=>by
  have hb:=hl b (by simp)
  rw[aBh]
  split
  ·exact aKE hT he r _ (fun x hx=>hl x (by simp[hx])) (h.tk1 hT he hb)
  ·exact h.tk0 hT he hb
structure ScI (T:TabD) (s:ScD):Prop where
 ok:ScOk T s
 c:2*s.cond+1 < T.entries.length
 ms:aHG T s.ms s.steps
 ru:s.rule=-1∨0≤s.rule∧s.rule < (qV T s).rules.length
 kb:∀ b∈s.kept,b < 256
 st:aCj s
theorem ScI.at {s:ScD} (h:ScI T s):T.entries[qU s]?=some (qV T s)∧qV T s∈T.entries∧∃ m,s.ms[qU s]?=some m∧s.ms.getD (qU s) aP1=m:=by
 have h1:=h.ok.lt
 have h2:=h.ok.len
 have h3:T.entries[qU s]?=some (qV T s):=by
  unfold qV
  rw[List.getD_eq_getElem?_getD,List.getElem?_eq_getElem (by omega)]; rfl
 refine⟨h3,List.mem_of_getElem? h3,s.ms[qU s],List.getElem?_eq_getElem h1,?_⟩
 rw[List.getD_eq_getElem?_getD,List.getElem?_eq_getElem h1]; rfl
theorem ScI.lk (hT:TabR T) {s:ScD} (h:ScI T s):LkOk (s.steps+1) (qV T s) (uN s):=by
 obtain⟨h1,h2,m,h3,h4⟩:=h.at
 obtain⟨m1,m2,m3⟩:=h.ms _ _ _ h1 h3
 unfold uN
 rw[h4]
 split
 ·exact⟨aNA (hT.ok _ h2) m1,(aOO m2).mono (by show 10*s.steps+1≤s.steps+1+9*s.steps; omega),m3,h.ru⟩
 ·exact⟨m1,m2.mono (by show 10*s.steps≤s.steps+1+9*s.steps; omega),m3,h.ru⟩
theorem aJJ (hT:TabR T) {s:ScD} (h:ScI T s) (hk:s.kept≠[]):ScI T (d5 T s).2:=by
 obtain⟨h1,h2,m,h3,h4⟩:=h.at
 have hl:0 < s.kept.length:=List.length_pos_iff.2 hk
 have htk:=h.ok.took
 have hend:LkOk (s.steps+1) (qV T s) (o8 T s).2:=aKE hT h2 _ _ (fun b hb=>h.kb b (List.mem_of_mem_drop hb)) (h.lk hT)
 obtain⟨_,e2,_,_,e5,e6⟩:=uW (qV T s).a (s.kept.drop s.took) (uN s) h.ok.tr
 have e5:(o8 T s).2.steps+s.took=s.steps+(o8 T s).2.took:=e5
 have e2:s.took≤(o8 T s).2.took:=e2
 refine⟨(aKG h.ok).1,h.c,?_,hend.ru,h.kb,aOV h.ok h.st⟩
 show aHG T (s.ms.set (qU s) (o8 T s).2.m) (o8 T s).2.steps
 refine (h.ms.mono (by omega)).set fun e he=>?_
 rw[h1] at he
 cases he
 by_cases hd:s.kept.drop s.took=[]
 ·have e:o8 T s=(false,uN s):=by unfold o8; rw[hd]; rfl
  have h0:s.took≠0:=fun e0=>by rw[e0,List.drop_zero] at hd; exact hk hd
  obtain⟨m1,m2,m3⟩:=h.ms _ _ _ h1 h3
  have em:(uN s).m=m:=by unfold uN; rw[if_neg h0]; exact h4
  rw[e]
  show MOk (qV T s).a (uN s).m∧WLe (10*s.steps) (uN s).m.rs∧(uN s).m.steps≤4*s.steps
  rw[em]
  exact⟨m1,m2,m3⟩
 ·have e6:s.took < (o8 T s).2.took:=e6 hd
  exact⟨hend.mok,hend.w.mono (by omega),hend.st⟩
theorem aMF (hT:TabR T) {s:ScD} (h:ScI T s) (hk:s.kept≠[]):ScI T (mN T s):=by
 obtain⟨c1,c2⟩:=aMH hT.tok h.c h.ok
 exact⟨c1,c2,h.ms,.inl rfl,fun b hb=>h.kb b (List.mem_of_mem_drop hb),aPg h.ok hk h.st⟩
theorem aNR (hT:TabR T):∀ (n:Nat) (s:ScD),ScI T s→ScI T (iG T n s).2
 | 0,s,h=>h
 | n+1,s,h=>by
  by_cases hk:s.kept=[]
  ·rw[aB9 _ hk]; exact h
  ·have h1:=aJJ hT h hk
   rw[tA,if_neg hk]
   split
   ·exact aNR hT n _ (aMF hT h1 hk)
   ·exact h1
theorem aLg {s:ScD} (h:ScI T s) {b:List Nat} (hb:∀ x∈b,x < 256):ScI T (uQ s b):=⟨aLh h.ok b,h.c,h.ms,h.ru,fun x hx=>(List.mem_append.1 hx).elim (h.kb x) (hb x),aPf b h.st⟩
theorem aMQ (hT:TabR T) {s:ScD} (h:ScI T s) {b:List Nat} (hb:∀ x∈b,x < 256):ScI T (fV T s b).2:=aNR hT _ _ (aLg h hb)
theorem aQK (hT:TabR T):ScI T (kY T):=by
 have h1:=hT.len
 have h2:=hT.pos
 obtain⟨n1,n2,_,_⟩:=aP0 (T:=T) (by omega)
 refine⟨n1,n2,fun i e m he hm=>?_,.inl rfl,(fun b hb=>by cases hb),Nat.zero_le _⟩
 have hm:(T.entries.map fun e=>aDy e.a)[i]?=some m:=hm
 rw[List.getElem?_map,he] at hm
 cases hm
 refine⟨aPZ (hT.ok e (List.mem_of_getElem? he)),fun r hr=>?_,Nat.zero_le _⟩
 obtain⟨c9,_,rfl⟩:=List.mem_map.1 hr
 exact Nat.zero_le _
theorem aNK {s:ScD} (h:ScI T s):2*s.steps≤(s.at_+s.kept.length)*(s.at_+s.kept.length+1):=aPh h.ok h.st
end
end V
end Go.Proofs.YtcaccnneblghgaaGreat
namespace Go.Proofs.YtcaccnneblghgaaGreat
namespace V
def aG3 (c:Nat):Bool:=decide (97≤c∧c≤122∨65≤c∧c≤90∨c=95)
def aGN (c:Nat):Bool:=decide (48≤c∧c≤57)
def oZ:Bool→List Nat→Bool
 | _,[]=>true
 | first,c::r=>(aG3 c || !first&&aGN c)&&oZ false r
def kB (s:ByteArray):Bool:=oZ true (bts s)&&(decide (1≤s.size)&&decide (s.size≤32))
def wT:List ByteArray→List ByteArray→Bool
 | _,[]=>true
 | seen,s::r=>kB s&&!(seen.any fun t=>decide (s=t))&&wT (seen++[s]) r
def jS (n:Nat) (s:ByteArray) (t:Int):Bool:=(decide (s=.empty) || kB s)&&(decide (-1≤t)&&decide (t < n))
def lJ (n:Nat) (e:EntD):Bool:=rz (-1) n e.rules&&(fH e.a&&e.a.states.all fun s=>s.rule.all fun r=>decide (r < e.rules.length))
def yZ : ByteArray := "start".toUTF8
def fQ (T:TabD):Bool :=
 decide (1≤T.conds.length)&&(decide (T.conds.length≤8)&&(decide (T.conds.head?=some yZ)&&(decide (T.kinds.length≤64)&&(decide (T.to.length=T.kinds.length)&&(decide (T.entries.length=2*T.conds.length) &&
  (wT [] T.conds&&((List.zip T.kinds T.to).all (fun x=>jS T.conds.length x.1 x.2)&&T.entries.all (lJ T.kinds.length))))))))
theorem aI7 {T:TabD} (h:fQ T=true) (hc:∀ e∈T.entries,e.a.c.length=256):TabR T∧T.kinds.length≤64∧T.conds.length≤8:=by
 unfold fQ at h
 simp only[Bool.and_eq_true,decide_eq_true_eq] at h
 obtain⟨h1,h2,_,h4,h5,h6,_,h8,h9⟩:=h
 have hf:∀ e∈T.entries,rz (-1) T.kinds.length e.rules=true∧fH e.a=true∧∀ s∈e.a.states,∀ r∈s.rule,r < e.rules.length:=fun e he=>by
  have:=List.all_eq_true.1 h9 e he
  unfold lJ at this
  simp only[Bool.and_eq_true] at this
  refine⟨this.1,this.2.1,fun s hs r hr=>?_⟩
  have h3:=List.all_eq_true.1 this.2.2 s hs
  exact of_decide_eq_true (List.all_eq_true.1 h3 r hr)
 refine⟨⟨fun e he=>(hf e he).2.1,hc,fun e he=>(hf e he).2.2,fun e he r hr=>?_,h5,fun t ht=>?_,h6,h1⟩,h4,h2⟩
 ·have:=aJe (hf e he).1 r hr
  omega
 ·obtain⟨i,hi⟩:=List.getElem?_of_mem ht
  have hl:=(List.getElem?_eq_some_iff.1 hi).1
  have hz:(List.zip T.kinds T.to)[i]?=some (T.kinds[i]'(by omega),t):=by
   rw[List.getElem?_zip_eq_some]
   exact⟨List.getElem?_eq_getElem _,hi⟩
  have:=List.all_eq_true.1 h8 _ (List.mem_of_getElem? hz)
  unfold jS at this
  simp only[Bool.and_eq_true,decide_eq_true_eq] at this
  exact this.2
end V
end Go.Proofs.YtcaccnneblghgaaGreat
namespace Go.Proofs.YtcaccnneblghgaaGreat
namespace V
attribute [local irreducible] qR aN aB
@[irreducible] def oC (ro:Ro) (K:KV):Env→T Obj→Nat→Prop:=fun e h nx=>∃ h1,Sub h1 h∧K (e 3) h1 (nx+2)
@[irreducible] def oD (ro:Ro) (Q:KE):Env→T Obj→Nat→Prop:=fun e h nx=>aB (aO .add (e 8) (Value.int IntKind.i64 1)) fun a'=>Q .normal (puts e [(23,a'),(8,a')]) h (nx+2)
@[irreducible] def x5 (ro:Ro):PT:=fun e h nx Q=>aB (aO .lss (e 8) (e 7)) fun b'=>aR b' (aB (cM 1 (e 6) (e 8)) fun d'=>aB (load1 ro h d') fun a'=>aB (aO .lss (e 8) (Value.int IntKind.i64 12)) fun e'=>aR e' (aB (bH a') fun g'=>aB (eH Tryz.prog h .min #[dR,dR] [g',(Value.int IntKind.i64 20)]) fun h'=>aB (lT Tryz.prog a9 a' none (some h') none) fun i'=>aB (bR Tryz.prog fN (nx+14) 1 [(0,i')]) fun f'=>eQ h (nx+14) f'.2 fun j'=>aB (cC Tryz.prog ro j' (nx+16) #[fN,fN] [(e 3),f'.1]) fun c'=>oD ro Q (puts e [(9,b'),(10,(e 8)),(11,d'),(12,a'),(4,(e 8)),(5,a'),(13,(e 8)),(14,e'),(15,(e 3)),(16,a'),(17,a'),(18,g'),(19,h'),(20,i'),(21,f'.1),(22,c'.1),(3,c'.1)]) c'.2.1 (c'.2.2+1)) (oD ro Q (puts e [(9,b'),(10,(e 8)),(11,d'),(12,a'),(4,(e 8)),(5,a'),(13,(e 8)),(14,e')]) h (nx+8))) (Q (.exit 0) (puts e [(9,b')]) h (nx+1))
@[irreducible] def aCX (ro:Ro) (v0:Value) (h:T Obj) (nx:Nat) (K:KV):Prop:=aB (bH v0) fun e'=>dT (x5 ro) (puts (gM [v0]) [(2,(Value.slice none 0 0)),(3,(Value.slice none 0 0)),(6,v0),(7,e'),(8,(Value.int IntKind.i64 0))]) h (nx+5) fun f' a' b' c'=>exP f' (oC ro K a' b' c') (fun g'=>cO (Nat.beq g' 0) (oC ro K a' b' c') (False)) (∃ d',Sub d' b'∧K (a' 2) d' c')
theorem aDr {ro:Ro}{v0:Value}{h:T Obj}{nx:Nat}{K:KV} (hw:aCX ro v0 h nx K):aN Tryz.prog ro pE [v0] h nx K:=bA (P:=Tryz.prog) (fn:=Tryz.f14) (by kernel_rfl) (by kernel_rfl) (by kernel_rfl) (Eq.mpr (by kernel_rfl) hw)
@[irreducible] def rF (ro:Ro) (K:KV):Env→T Obj→Nat→Prop:=fun e h nx=>aB (aS 3 (e 1)) fun a'=>aB (load1 ro h a') fun b'=>aB (bH b') fun c'=>aB (aO .leq c' (Value.int IntKind.i64 8)) fun d'=>∃ h6,Sub h6 h∧K d' h6 (nx+5)
@[irreducible] def aBL (ro:Ro):PT:=fun e h nx Q=>aB (aO .lss (e 8) (e 7)) fun a'=>aR a' (aB (cM 260 (e 6) (e 8)) fun b'=>aB (loadA ro h 260 b') fun c'=>aB (zer Tryz.prog cN) fun k'=>cT h (nx+3) (.cells k'.cells cN) fun l'=>aB (bV 260 l' (ptr (nx+3)) c') fun d'=>aB (aS 0 (ptr (nx+3))) fun e'=>aB (aS 258 e') fun f'=>aB (load1 ro d' f') fun g'=>aB (bH g') fun h'=>aB (aO .gtr h' (Value.int IntKind.i64 60)) fun i'=>aR i' (Q .ret (puts e [(9,a'),(10,b'),(11,c'),(4,(ptr (nx+3))),(12,e'),(13,f'),(14,g'),(15,h'),(16,i'),(2,(Value.bool false))]) d' (nx+11)) (aB (aO .add (e 8) (Value.int IntKind.i64 1)) fun j'=>Q .normal (puts e [(9,a'),(10,b'),(11,c'),(4,(ptr (nx+3))),(12,e'),(13,f'),(14,g'),(15,h'),(16,i'),(17,j'),(8,j')]) d' (nx+12))) (Q (.exit 0) (puts e [(9,a')]) h (nx+1))
@[irreducible] def aFc (ro:Ro) (v0:Value) (h:T Obj) (nx:Nat) (K:KV):Prop:=cT h nx (.cells (Value.cells v0) dI) fun h1=>aB (aS 3 (ptr nx)) fun d'=>aB (load1 ro h1 d') fun e'=>aB (bH e') fun g'=>dT (aBL ro) (puts (gM [v0]) [(1,(ptr nx)),(2,(Value.bool false)),(5,d'),(6,e'),(7,g'),(8,(Value.int IntKind.i64 0))]) h1 (nx+6) fun h' a' b' c'=>exP h' (rF ro K a' b' c') (fun i'=>cO (Nat.beq i' 0) (rF ro K a' b' c') (False)) (∃ f',Sub f' b'∧K (a' 2) f' c')
theorem aG2 {ro:Ro}{v0:Value}{h:T Obj}{nx:Nat}{K:KV} (hw:aFc ro v0 h nx K):aN Tryz.prog ro xX [v0] h nx K:=bA (P:=Tryz.prog) (fn:=Tryz.f20) (by kernel_rfl) (by kernel_rfl) (by kernel_rfl) (Eq.mpr (by kernel_rfl) hw)
@[irreducible] def oL (ro:Ro) (K:KV):Env→T Obj→Nat→Prop:=fun e h nx=>∃ h152,Sub h152 h∧K (Value.bool true) h152 (nx+1)
@[irreducible] def yL (ro:Ro):PT:=fun e h nx Q=>aB (aS 3 (e 1)) fun a'=>aB (load1 ro h a') fun b'=>aB (bH b') fun c'=>aB (aO .lss (e 6) c') fun d'=>aR d' (aB (aS 3 (e 1)) fun e'=>aB (load1 ro h e') fun f'=>aB (cM 260 f' (e 6)) fun g'=>aB (loadA ro h 260 g') fun h'=>aB (aS 1 (e 1)) fun i'=>aB (load1 ro h i') fun j'=>aB (bH j') fun k'=>aN Tryz.prog ro vX [h',k'] h (nx+15) fun l' n' o'=>aB (unV .not l') fun m'=>aR m' (Q .ret (puts e [(120,(e 6)),(121,a'),(122,b'),(123,c'),(124,d'),(127,e'),(128,f'),(129,(e 6)),(130,g'),(131,h'),(132,i'),(133,j'),(134,k'),(135,l'),(136,m'),(2,(Value.bool false))]) n' (o'+1)) (aB (aO .add (e 6) (Value.int IntKind.i64 1)) fun p'=>Q .normal (puts e [(120,(e 6)),(121,a'),(122,b'),(123,c'),(124,d'),(127,e'),(128,f'),(129,(e 6)),(130,g'),(131,h'),(132,i'),(133,j'),(134,k'),(135,l'),(136,m'),(125,(e 6)),(126,p'),(6,p')]) n' (o'+3))) (Q (.exit 6) (puts e [(120,(e 6)),(121,a'),(122,b'),(123,c'),(124,d')]) h (nx+5))
@[irreducible] def oK (ro:Ro) (K:KV):Env→T Obj→Nat→Prop:=fun e h nx=>dT (yL ro) (puts e [(6,(Value.int IntKind.i64 0))]) h (nx+1) fun x172 e169 h170 n171=>exP x172 (oL ro K e169 h170 n171) (fun i173=>cO (Nat.beq i173 6) (oL ro K e169 h170 n171) (False)) (∃ h174,Sub h174 h170∧K (e169 2) h174 n171)
@[irreducible] def yM (ro:Ro):PT:=fun e h nx Q=>aB (aS 1 (e 1)) fun d'=>aB (load1 ro h d') fun e'=>aB (bH e') fun f'=>aB (aO .lss (e 5) f') fun g'=>aR g' (aB (aS 1 (e 1)) fun h'=>aB (load1 ro h h') fun i'=>aB (cM 1 i' (e 5)) fun j'=>aB (load1 ro h j') fun k'=>aB (aE8 .neq k' (Value.string { data:=#[] })) fun b'=>ifP b' true h (nx+39) (fun aB'=>aB (aS 1 (e 1)) fun aC'=>aB' aC' h (nx+39)) fun l' m' P'=>ifP b' true m' P' (fun aD'=>aB (load1 ro m' l') fun aE'=>aD' aE' m' P') fun n' Q' R'=>ifP b' true Q' R' (fun aF'=>aF' (e 5) Q' R') fun o' S' T'=>ifP b' true S' T' (fun aG'=>aB (cM 1 n' o') fun aH'=>aG' aH' S' T') fun p' q' U'=>ifP b' true q' U' (fun aI'=>aB (load1 ro q' p') fun aJ'=>aI' aJ' q' U') fun r' V' W'=>ifP b' true V' W' (fun aK'=>aN Tryz.prog ro rB [r'] V' W' fun aL' aM' aN'=>aK' aL' aM' aN') fun s' X' Y'=>ifP b' true X' Y' (fun aO'=>aB (unV .not s') fun aP'=>aO' aP' X' Y') fun t' Z' aa'=>aB (bO b' t' (Value.bool false)) fun c'=>ifP c' false Z' aa' (fun aQ'=>aB (aS 2 (e 1)) fun aR'=>aQ' aR' Z' aa') fun u' v' ab'=>ifP c' false v' ab' (fun aS'=>aB (load1 ro v' u') fun aT'=>aS' aT' v' ab') fun w' ac' ad'=>ifP c' false ac' ad' (fun aU'=>aU' (e 5) ac' ad') fun x' ae' af'=>ifP c' false ae' af' (fun aV'=>aB (cM 1 w' x') fun aW'=>aV' aW' ae' af') fun y' z' ag'=>ifP c' false z' ag' (fun aX'=>aB (load1 ro z' y') fun aY'=>aX' aY' z' ag') fun A' ah' ai'=>ifP c' false ah' ai' (fun aZ'=>aB (aO .lss A' (Value.int IntKind.i64 (-1))) fun a0'=>aZ' a0' ah' ai') fun B' aj' ak'=>aB (bO c' (Value.bool true) B') fun a'=>ifP a' false aj' ak' (fun a1'=>aB (aS 2 (e 1)) fun a2'=>a1' a2' aj' ak') fun C' D' al'=>ifP a' false D' al' (fun a3'=>aB (load1 ro D' C') fun a4'=>a3' a4' D' al') fun E' am' an'=>ifP a' false am' an' (fun a5'=>a5' (e 5) am' an') fun F' ao' ap'=>ifP a' false ao' ap' (fun a6'=>aB (cM 1 E' F') fun a7'=>a6' a7' ao' ap') fun G' H' aq'=>ifP a' false H' aq' (fun a8'=>aB (load1 ro H' G') fun a9'=>a8' a9' H' aq') fun I' ar' as'=>ifP a' false ar' as' (fun ba'=>aB (aS 0 (e 1)) fun bb'=>ba' bb' ar' as') fun J' K' at'=>ifP a' false K' at' (fun bc'=>aB (load1 ro K' J') fun bd'=>bc' bd' K' at') fun L' au' av'=>ifP a' false au' av' (fun be'=>aB (bH L') fun bf'=>be' bf' au' av') fun M' aw' ax'=>ifP a' false aw' ax' (fun bg'=>aB (aO .geq I' M') fun bh'=>bg' bh' aw' ax') fun N' ay' az'=>aB (bO a' (Value.bool true) N') fun O'=>aR O' (Q .ret (puts e [(79,(e 5)),(80,d'),(81,e'),(82,f'),(83,g'),(86,h'),(87,i'),(88,(e 5)),(89,j'),(90,k'),(91,b'),(92,b'),(93,l'),(94,n'),(95,o'),(96,p'),(97,r'),(98,s'),(99,t'),(100,c'),(101,c'),(102,u'),(103,w'),(104,x'),(105,y'),(106,A'),(107,B'),(108,a'),(109,a'),(110,C'),(111,E'),(112,F'),(113,G'),(114,I'),(115,J'),(116,L'),(117,M'),(118,N'),(119,O'),(2,(Value.bool false))]) ay' (az'+1)) (aB (aO .add (e 5) (Value.int IntKind.i64 1)) fun aA'=>Q .normal (puts e [(79,(e 5)),(80,d'),(81,e'),(82,f'),(83,g'),(86,h'),(87,i'),(88,(e 5)),(89,j'),(90,k'),(91,b'),(92,b'),(93,l'),(94,n'),(95,o'),(96,p'),(97,r'),(98,s'),(99,t'),(100,c'),(101,c'),(102,u'),(103,w'),(104,x'),(105,y'),(106,A'),(107,B'),(108,a'),(109,a'),(110,C'),(111,E'),(112,F'),(113,G'),(114,I'),(115,J'),(116,L'),(117,M'),(118,N'),(119,O'),(84,(e 5)),(85,aA'),(5,aA')]) ay' (az'+3))) (Q (.exit 4) (puts e [(79,(e 5)),(80,d'),(81,e'),(82,f'),(83,g')]) h (nx+5))
@[irreducible] def oJ (ro:Ro) (K:KV):Env→T Obj→Nat→Prop:=fun e h nx=>dT (yM ro) (puts e [(5,(Value.int IntKind.i64 0))]) h (nx+1) fun x300 e297 h298 n299=>exP x300 (oK ro K e297 h298 n299) (fun i301=>cO (Nat.beq i301 4) (oK ro K e297 h298 n299) (False)) (∃ h302,Sub h302 h298∧K (e297 2) h302 n299)
@[irreducible] def lR (ro:Ro) (Q:KE):Env→T Obj→Nat→Prop:=fun e h nx=>aB (aO .add (e 3) (Value.int IntKind.i64 1)) fun a'=>Q .normal (puts e [(54,(e 3)),(55,a'),(3,a')]) h (nx+3)
@[irreducible] def yO (ro:Ro):PT:=fun e h nx Q=>aB (aO .lss (e 4) (e 3)) fun a'=>aR a' (aB (aS 0 (e 1)) fun b'=>aB (load1 ro h b') fun c'=>aB (cM 1 c' (e 4)) fun d'=>aB (load1 ro h d') fun e'=>aB (aS 0 (e 1)) fun f'=>aB (load1 ro h f') fun g'=>aB (cM 1 g' (e 3)) fun h'=>aB (load1 ro h h') fun i'=>aB (aE8 .eql e' i') fun j'=>aR j' (Q .ret (puts e [(63,(e 4)),(64,(e 3)),(65,a'),(68,b'),(69,c'),(70,(e 4)),(71,d'),(72,e'),(73,f'),(74,g'),(75,(e 3)),(76,h'),(77,i'),(78,j'),(2,(Value.bool false))]) h (nx+15)) (aB (aO .add (e 4) (Value.int IntKind.i64 1)) fun k'=>Q .normal (puts e [(63,(e 4)),(64,(e 3)),(65,a'),(68,b'),(69,c'),(70,(e 4)),(71,d'),(72,e'),(73,f'),(74,g'),(75,(e 3)),(76,h'),(77,i'),(78,j'),(66,(e 4)),(67,k'),(4,k')]) h (nx+17))) (Q (.exit 2) (puts e [(63,(e 4)),(64,(e 3)),(65,a')]) h (nx+3))
@[irreducible] def yN (ro:Ro):PT:=fun e h nx Q=>aB (aS 0 (e 1)) fun d'=>aB (load1 ro h d') fun e'=>aB (bH e') fun f'=>aB (aO .lss (e 3) f') fun g'=>aR g' (aB (aS 0 (e 1)) fun h'=>aB (load1 ro h h') fun i'=>aB (cM 1 i' (e 3)) fun j'=>aB (load1 ro h j') fun k'=>aN Tryz.prog ro rB [k'] h (nx+11) fun l' o' p'=>aB (unV .not l') fun m'=>aR m' (Q .ret (puts e [(49,(e 3)),(50,d'),(51,e'),(52,f'),(53,g'),(56,h'),(57,i'),(58,(e 3)),(59,j'),(60,k'),(61,l'),(62,m'),(2,(Value.bool false))]) o' (p'+2)) (dT (yO ro) (puts e [(49,(e 3)),(50,d'),(51,e'),(52,f'),(53,g'),(56,h'),(57,i'),(58,(e 3)),(59,j'),(60,k'),(61,l'),(62,m'),(4,(Value.int IntKind.i64 0))]) o' (p'+2) fun q' a' b' c'=>exP q' (lR ro Q a' b' c') (fun n'=>cO (Nat.beq n' 2) (lR ro Q a' b' c') (cO (Nat.beq n' 1) (lR ro Q a' b' c') (Q (.exit n') a' b' c'))) (Q .ret a' b' c'))) (Q (.exit 0) (puts e [(49,(e 3)),(50,d'),(51,e'),(52,f'),(53,g')]) h (nx+5))
@[irreducible] def aCb (ro:Ro) (v0:Value) (h:T Obj) (nx:Nat) (K:KV):Prop:=cT h nx (.cells (Value.cells v0) dI) fun h1=>aB (aS 0 (ptr nx)) fun p'=>aB (load1 ro h1 p') fun q'=>aB (bH q') fun r'=>aB (aO .lss r' (Value.int IntKind.i64 1)) fun d'=>ifP d' false h1 (nx+7) (fun k6=>aB (aS 0 (ptr nx)) fun aS'=>k6 aS' h1 (nx+8)) fun s' h8 n9=>ifP d' false h8 n9 (fun aT'=>aB (load1 ro h8 s') fun aU'=>aT' aU' h8 (n9+1)) fun t' u' v'=>ifP d' false u' v' (fun aV'=>aB (bH t') fun aW'=>aV' aW' u' (v'+1)) fun w' x' y'=>ifP d' false x' y' (fun aX'=>aB (aO .gtr w' (Value.int IntKind.i64 8)) fun aY'=>aX' aY' x' (y'+1)) fun z' A' B'=>aB (bO d' (Value.bool true) z') fun c'=>ifP c' false A' (B'+2) (fun aZ'=>aB (aS 0 (ptr nx)) fun a0'=>aZ' a0' A' (B'+3)) fun C' f' D'=>ifP c' false f' D' (fun a1'=>aB (load1 ro f' C') fun a2'=>a1' a2' f' (D'+1)) fun E' F' G'=>ifP c' false F' G' (fun a3'=>aB (cM 1 E' (Value.int IntKind.i64 0)) fun a4'=>a3' a4' F' (G'+1)) fun H' g' I'=>ifP c' false g' I' (fun a5'=>aB (load1 ro g' H') fun a6'=>a5' a6' g' (I'+1)) fun J' K' L'=>ifP c' false K' L' (fun a7'=>aB (aE8 .neq J' (Value.string { data:=#[115,116,97,114,116] })) fun a8'=>a7' a8' K' (L'+1)) fun M' N' O'=>aB (bO c' (Value.bool true) M') fun e'=>ifP e' false N' (O'+2) (fun a9'=>aB (aS 1 (ptr nx)) fun ba'=>a9' ba' N' (O'+3)) fun P' h' Q'=>ifP e' false h' Q' (fun bb'=>aB (load1 ro h' P') fun bc'=>bb' bc' h' (Q'+1)) fun R' S' T'=>ifP e' false S' T' (fun bd'=>aB (bH R') fun be'=>bd' be' S' (T'+1)) fun U' V' W'=>ifP e' false V' W' (fun bf'=>aB (aO .gtr U' (Value.int IntKind.i64 64)) fun bg'=>bf' bg' V' (W'+1)) fun X' Y' Z'=>aB (bO e' (Value.bool true) X') fun b'=>ifP b' false Y' (Z'+2) (fun bh'=>aB (aS 2 (ptr nx)) fun bi'=>bh' bi' Y' (Z'+3)) fun aa' i' ab'=>ifP b' false i' ab' (fun bj'=>aB (load1 ro i' aa') fun bk'=>bj' bk' i' (ab'+1)) fun ac' ad' ae'=>ifP b' false ad' ae' (fun bl'=>aB (bH ac') fun bm'=>bl' bm' ad' (ae'+1)) fun af' ag' ah'=>ifP b' false ag' ah' (fun bn'=>aB (aS 1 (ptr nx)) fun bo'=>bn' bo' ag' (ah'+1)) fun ai' j' aj'=>ifP b' false j' aj' (fun bp'=>aB (load1 ro j' ai') fun bq'=>bp' bq' j' (aj'+1)) fun ak' al' am'=>ifP b' false al' am' (fun br'=>aB (bH ak') fun bs'=>br' bs' al' (am'+1)) fun an' ao' ap'=>ifP b' false ao' ap' (fun bt'=>aB (aO .neq af' an') fun bu'=>bt' bu' ao' (ap'+1)) fun aq' ar' as'=>aB (bO b' (Value.bool true) aq') fun a'=>ifP a' false ar' (as'+2) (fun bv'=>aB (aS 3 (ptr nx)) fun bw'=>bv' bw' ar' (as'+3)) fun at' k' au'=>ifP a' false k' au' (fun bx'=>aB (load1 ro k' at') fun by'=>bx' by' k' (au'+1)) fun av' aw' ax'=>ifP a' false aw' ax' (fun bz'=>aB (bH av') fun bA'=>bz' bA' aw' (ax'+1)) fun ay' az' aA'=>ifP a' false az' aA' (fun bB'=>aB (aS 0 (ptr nx)) fun bC'=>bB' bC' az' (aA'+1)) fun aB' l' aC'=>ifP a' false l' aC' (fun bD'=>aB (load1 ro l' aB') fun bE'=>bD' bE' l' (aC'+1)) fun aD' aE' aF'=>ifP a' false aE' aF' (fun bF'=>aB (bH aD') fun bG'=>bF' bG' aE' (aF'+1)) fun aG' aH' aI'=>ifP a' false aH' aI' (fun bH'=>aB (aO .mul (Value.int IntKind.i64 2) aG') fun bI'=>bH' bI' aH' (aI'+1)) fun aJ' aK' aL'=>ifP a' false aK' aL' (fun bJ'=>aB (aO .neq ay' aJ') fun bK'=>bJ' bK' aK' (aL'+1)) fun aM' aN' aO'=>aB (bO a' (Value.bool true) aM') fun aP'=>aR aP' (∃ aQ',Sub aQ' aN'∧K (Value.bool false) aQ' (aO'+2)) (dT (yN ro) (puts (gM [v0]) [(1,(ptr nx)),(2,(Value.bool false)),(7,p'),(8,q'),(9,r'),(10,d'),(11,d'),(12,s'),(13,t'),(14,w'),(15,z'),(16,c'),(17,c'),(18,C'),(19,E'),(20,H'),(21,J'),(22,M'),(23,e'),(24,e'),(25,P'),(26,R'),(27,U'),(28,X'),(29,b'),(30,b'),(31,aa'),(32,ac'),(33,af'),(34,ai'),(35,ak'),(36,an'),(37,aq'),(38,a'),(39,a'),(40,at'),(41,av'),(42,ay'),(43,aB'),(44,aD'),(45,aG'),(46,aJ'),(47,aM'),(48,aP'),(3,(Value.int IntKind.i64 0))]) aN' (aO'+2) fun bL' m' n' o'=>exP bL' (oJ ro K m' n' o') (fun bM'=>cO (Nat.beq bM' 0) (oJ ro K m' n' o') (False)) (∃ aR',Sub aR' n'∧K (m' 2) aR' o'))
theorem aEU {ro:Ro}{v0:Value}{h:T Obj}{nx:Nat}{K:KV} (hw:aCb ro v0 h nx K):aN Tryz.prog ro uE [v0] h nx K:=bA (P:=Tryz.prog) (fn:=Tryz.f21) (by kernel_rfl) (by kernel_rfl) (by kernel_rfl) (Eq.mpr (by kernel_rfl) hw)
@[irreducible] def qX (ro:Ro) (K:KV):Env→T Obj→Nat→Prop:=fun e h nx=>aB (aS 3 (e 1)) fun b'=>aB (load1 ro h b') fun c'=>aN Tryz.prog ro eN [c',(.func (.func t5) #[] #[(e 1)])] h (nx+4) fun d' e' f'=>aB (unV .not d') fun g'=>∃ a',Sub a' e'∧K g' a' (f'+2)
@[irreducible] def aBF (ro:Ro):PT:=fun e h nx Q=>aB (aO .lss (e 72) (e 71)) fun e'=>aR e' (aB (cM 1 (e 70) (e 72)) fun f'=>aB (load1 ro h f') fun c'=>aB (aE8 .neq c' (Value.string { data:=#[] })) fun d'=>ifP d' true h (nx+32) (fun ak'=>ak' c' h (nx+32)) fun g' E' F'=>ifP d' true E' F' (fun al'=>aN Tryz.prog ro pH [g'] E' F' fun am' an' ao'=>al' am' an' ao') fun h' G' H'=>ifP d' true G' H' (fun ap'=>aB (unV .not h') fun aq'=>ap' aq' G' H') fun i' I' J'=>aB (bO d' i' (Value.bool false)) fun b'=>ifP b' false I' J' (fun ar'=>aB (aS 2 (e 1)) fun as'=>ar' as' I' J') fun j' k' K'=>ifP b' false k' K' (fun at'=>aB (load1 ro k' j') fun au'=>at' au' k' K') fun l' L' M'=>ifP b' false L' M' (fun av'=>av' (e 72) L' M') fun m' N' O'=>ifP b' false N' O' (fun aw'=>aB (cM 1 l' m') fun ax'=>aw' ax' N' O') fun n' o' P'=>ifP b' false o' P' (fun ay'=>aB (load1 ro o' n') fun az'=>ay' az' o' P') fun p' Q' R'=>ifP b' false Q' R' (fun aA'=>aB (aO .lss p' (Value.int IntKind.i64 (-1))) fun aB'=>aA' aB' Q' R') fun q' S' T'=>aB (bO b' (Value.bool true) q') fun a'=>ifP a' false S' T' (fun aC'=>aB (aS 2 (e 1)) fun aD'=>aC' aD' S' T') fun r' s' U'=>ifP a' false s' U' (fun aE'=>aB (load1 ro s' r') fun aF'=>aE' aF' s' U') fun t' V' W'=>ifP a' false V' W' (fun aG'=>aG' (e 72) V' W') fun u' X' Y'=>ifP a' false X' Y' (fun aH'=>aB (cM 1 t' u') fun aI'=>aH' aI' X' Y') fun v' w' Z'=>ifP a' false w' Z' (fun aJ'=>aB (load1 ro w' v') fun aK'=>aJ' aK' w' Z') fun x' aa' ab'=>ifP a' false aa' ab' (fun aL'=>aB (aS 0 (e 1)) fun aM'=>aL' aM' aa' ab') fun y' z' ac'=>ifP a' false z' ac' (fun aN'=>aB (load1 ro z' y') fun aO'=>aN' aO' z' ac') fun A' ad' ae'=>ifP a' false ad' ae' (fun aP'=>aB (bH A') fun aQ'=>aP' aQ' ad' ae') fun B' af' ag'=>ifP a' false af' ag' (fun aR'=>aB (aO .geq x' B') fun aS'=>aR' aS' af' ag') fun C' ah' ai'=>aB (bO a' (Value.bool true) C') fun D'=>aR D' (Q .ret (puts e [(73,e'),(74,(e 72)),(75,f'),(76,c'),(5,(e 72)),(6,c'),(77,c'),(78,d'),(79,d'),(80,g'),(81,h'),(82,i'),(83,b'),(84,b'),(85,j'),(86,l'),(87,m'),(88,n'),(89,p'),(90,q'),(91,a'),(92,a'),(93,r'),(94,t'),(95,u'),(96,v'),(97,x'),(98,y'),(99,A'),(100,B'),(101,C'),(102,D'),(2,(Value.bool false))]) ah' (ai'+1)) (aB (aO .add (e 72) (Value.int IntKind.i64 1)) fun aj'=>Q .normal (puts e [(73,e'),(74,(e 72)),(75,f'),(76,c'),(5,(e 72)),(6,c'),(77,c'),(78,d'),(79,d'),(80,g'),(81,h'),(82,i'),(83,b'),(84,b'),(85,j'),(86,l'),(87,m'),(88,n'),(89,p'),(90,q'),(91,a'),(92,a'),(93,r'),(94,t'),(95,u'),(96,v'),(97,x'),(98,y'),(99,A'),(100,B'),(101,C'),(102,D'),(103,aj'),(72,aj')]) ah' (ai'+2))) (Q (.exit 2) (puts e [(73,e')]) h (nx+1))
@[irreducible] def qW (ro:Ro) (K:KV):Env→T Obj→Nat→Prop:=fun e h nx=>aB (aS 1 (e 1)) fun d'=>aB (load1 ro h d') fun e'=>aB (bH e') fun g'=>dT (aBF ro) (puts e [(69,d'),(70,e'),(71,g'),(72,(Value.int IntKind.i64 0))]) h (nx+4) fun h' a' b' c'=>exP h' (qX ro K a' b' c') (fun i'=>cO (Nat.beq i' 2) (qX ro K a' b' c') (False)) (∃ f',Sub f' b'∧K (a' 2) f' c')
@[irreducible] def aBG (ro:Ro):PT:=fun e h nx Q=>aB (aO .lss (e 52) (e 51)) fun c'=>aR c' (aB (cM 1 (e 50) (e 52)) fun d'=>aB (load1 ro h d') fun b'=>aN Tryz.prog ro pH [b'] h (nx+8) fun e' n' o'=>aB (unV .not e') fun a'=>ifP a' false n' (o'+2) (fun B'=>aB (aS 0 (e 1)) fun C'=>B' C' n' (o'+3)) fun f' g' p'=>ifP a' false g' p' (fun D'=>aB (load1 ro g' f') fun E'=>D' E' g' (p'+1)) fun h' q' r'=>ifP a' false q' r' (fun F'=>F' b' q' (r'+1)) fun i' s' t'=>ifP a' false s' t' (fun G'=>aN Tryz.prog ro hU [h',i'] s' (t'+1) fun H' I' J'=>G' H' I' J') fun j' u' v'=>ifP a' false u' v' (fun K'=>K' (e 52) u' (v'+1)) fun k' w' x'=>ifP a' false w' x' (fun L'=>aB (aO .neq j' k') fun M'=>L' M' w' (x'+1)) fun l' y' z'=>aB (bO a' (Value.bool true) l') fun m'=>aR m' (Q .ret (puts e [(53,c'),(54,(e 52)),(55,d'),(56,b'),(3,(e 52)),(4,b'),(57,b'),(58,e'),(59,a'),(60,a'),(61,f'),(62,h'),(63,i'),(64,j'),(65,k'),(66,l'),(67,m'),(2,(Value.bool false))]) y' (z'+2)) (aB (aO .add (e 52) (Value.int IntKind.i64 1)) fun A'=>Q .normal (puts e [(53,c'),(54,(e 52)),(55,d'),(56,b'),(3,(e 52)),(4,b'),(57,b'),(58,e'),(59,a'),(60,a'),(61,f'),(62,h'),(63,i'),(64,j'),(65,k'),(66,l'),(67,m'),(68,A'),(52,A')]) y' (z'+3))) (Q (.exit 0) (puts e [(53,c')]) h (nx+1))
@[irreducible] def aF9 (ro:Ro) (v0:Value) (h:T Obj) (nx:Nat) (K:KV):Prop:=cT h nx (.cells (Value.cells v0) dI) fun h1=>aB (aS 0 (ptr nx)) fun q'=>aB (load1 ro h1 q') fun r'=>aB (bH r') fun s'=>aB (aO .lss s' (Value.int IntKind.i64 1)) fun d'=>ifP d' false h1 (nx+7) (fun k6=>aB (aS 0 (ptr nx)) fun aU'=>k6 aU' h1 (nx+8)) fun t' h8 n9=>ifP d' false h8 n9 (fun aV'=>aB (load1 ro h8 t') fun aW'=>aV' aW' h8 (n9+1)) fun u' v' w'=>ifP d' false v' w' (fun aX'=>aB (bH u') fun aY'=>aX' aY' v' (w'+1)) fun x' y' z'=>ifP d' false y' z' (fun aZ'=>aB (aO .gtr x' (Value.int IntKind.i64 8)) fun a0'=>aZ' a0' y' (z'+1)) fun A' B' C'=>aB (bO d' (Value.bool true) A') fun c'=>ifP c' false B' (C'+2) (fun a1'=>aB (aS 0 (ptr nx)) fun a2'=>a1' a2' B' (C'+3)) fun D' f' E'=>ifP c' false f' E' (fun a3'=>aB (load1 ro f' D') fun a4'=>a3' a4' f' (E'+1)) fun F' G' H'=>ifP c' false G' H' (fun a5'=>aB (cM 1 F' (Value.int IntKind.i64 0)) fun a6'=>a5' a6' G' (H'+1)) fun I' g' J'=>ifP c' false g' J' (fun a7'=>aB (load1 ro g' I') fun a8'=>a7' a8' g' (J'+1)) fun K' L' M'=>ifP c' false L' M' (fun a9'=>aB (aE8 .neq K' (Value.string { data:=#[115,116,97,114,116] })) fun ba'=>a9' ba' L' (M'+1)) fun N' O' P'=>aB (bO c' (Value.bool true) N') fun e'=>ifP e' false O' (P'+2) (fun bb'=>aB (aS 1 (ptr nx)) fun bc'=>bb' bc' O' (P'+3)) fun Q' h' R'=>ifP e' false h' R' (fun bd'=>aB (load1 ro h' Q') fun be'=>bd' be' h' (R'+1)) fun S' T' U'=>ifP e' false T' U' (fun bf'=>aB (bH S') fun bg'=>bf' bg' T' (U'+1)) fun V' W' X'=>ifP e' false W' X' (fun bh'=>aB (aO .gtr V' (Value.int IntKind.i64 64)) fun bi'=>bh' bi' W' (X'+1)) fun Y' Z' aa'=>aB (bO e' (Value.bool true) Y') fun b'=>ifP b' false Z' (aa'+2) (fun bj'=>aB (aS 2 (ptr nx)) fun bk'=>bj' bk' Z' (aa'+3)) fun ab' i' ac'=>ifP b' false i' ac' (fun bl'=>aB (load1 ro i' ab') fun bm'=>bl' bm' i' (ac'+1)) fun ad' ae' af'=>ifP b' false ae' af' (fun bn'=>aB (bH ad') fun bo'=>bn' bo' ae' (af'+1)) fun ag' ah' ai'=>ifP b' false ah' ai' (fun bp'=>aB (aS 1 (ptr nx)) fun bq'=>bp' bq' ah' (ai'+1)) fun aj' j' ak'=>ifP b' false j' ak' (fun br'=>aB (load1 ro j' aj') fun bs'=>br' bs' j' (ak'+1)) fun al' am' an'=>ifP b' false am' an' (fun bt'=>aB (bH al') fun bu'=>bt' bu' am' (an'+1)) fun ao' ap' aq'=>ifP b' false ap' aq' (fun bv'=>aB (aO .neq ag' ao') fun bw'=>bv' bw' ap' (aq'+1)) fun ar' as' at'=>aB (bO b' (Value.bool true) ar') fun a'=>ifP a' false as' (at'+2) (fun bx'=>aB (aS 3 (ptr nx)) fun by'=>bx' by' as' (at'+3)) fun au' k' av'=>ifP a' false k' av' (fun bz'=>aB (load1 ro k' au') fun bA'=>bz' bA' k' (av'+1)) fun aw' ax' ay'=>ifP a' false ax' ay' (fun bB'=>aB (bH aw') fun bC'=>bB' bC' ax' (ay'+1)) fun az' aA' aB'=>ifP a' false aA' aB' (fun bD'=>aB (aS 0 (ptr nx)) fun bE'=>bD' bE' aA' (aB'+1)) fun aC' l' aD'=>ifP a' false l' aD' (fun bF'=>aB (load1 ro l' aC') fun bG'=>bF' bG' l' (aD'+1)) fun aE' aF' aG'=>ifP a' false aF' aG' (fun bH'=>aB (bH aE') fun bI'=>bH' bI' aF' (aG'+1)) fun aH' aI' aJ'=>ifP a' false aI' aJ' (fun bJ'=>aB (aO .mul (Value.int IntKind.i64 2) aH') fun bK'=>bJ' bK' aI' (aJ'+1)) fun aK' aL' aM'=>ifP a' false aL' aM' (fun bL'=>aB (aO .neq az' aK') fun bM'=>bL' bM' aL' (aM'+1)) fun aN' m' aO'=>aB (bO a' (Value.bool true) aN') fun aP'=>aR aP' (∃ aQ',Sub aQ' m'∧K (Value.bool false) aQ' (aO'+2)) (aB (aS 0 (ptr nx)) fun aR'=>aB (load1 ro m' aR') fun aS'=>aB (bH aS') fun bN'=>dT (aBG ro) (puts (gM [v0]) [(1,(ptr nx)),(2,(Value.bool false)),(7,q'),(8,r'),(9,s'),(10,d'),(11,d'),(12,t'),(13,u'),(14,x'),(15,A'),(16,c'),(17,c'),(18,D'),(19,F'),(20,I'),(21,K'),(22,N'),(23,e'),(24,e'),(25,Q'),(26,S'),(27,V'),(28,Y'),(29,b'),(30,b'),(31,ab'),(32,ad'),(33,ag'),(34,aj'),(35,al'),(36,ao'),(37,ar'),(38,a'),(39,a'),(40,au'),(41,aw'),(42,az'),(43,aC'),(44,aE'),(45,aH'),(46,aK'),(47,aN'),(48,aP'),(49,aR'),(50,aS'),(51,bN'),(52,(Value.int IntKind.i64 0))]) m' (aO'+5) fun bO' n' o' p'=>exP bO' (qW ro K n' o' p') (fun bP'=>cO (Nat.beq bP' 0) (qW ro K n' o' p') (False)) (∃ aT',Sub aT' o'∧K (n' 2) aT' p'))
theorem aGW {ro:Ro}{v0:Value}{h:T Obj}{nx:Nat}{K:KV} (hw:aF9 ro v0 h nx K):aN Tryz.prog ro xW [v0] h nx K:=bA (P:=Tryz.prog) (fn:=Tryz.f36) (by kernel_rfl) (by kernel_rfl) (by kernel_rfl) (Eq.mpr (by kernel_rfl) hw)
@[irreducible] def pL (ro:Ro) (K:KV):Env→T Obj→Nat→Prop:=fun e h nx=>aB (vZ (e 0)) fun d'=>aB (aO .geq d' (Value.int IntKind.i64 1)) fun a'=>ifP a' true h (nx+4) (fun k3=>k3 (e 0) h (nx+5)) fun e' h5 n6=>ifP a' true h5 n6 (fun k7=>aB (vZ e') fun f'=>k7 f' h5 (n6+1)) fun g' h9 b'=>ifP a' true h9 b' (fun h'=>aB (aO .leq g' (Value.int IntKind.i64 32)) fun i'=>h' i' h9 (b'+1)) fun j' k' l'=>aB (bO a' j' (Value.bool false)) fun m'=>∃ c',Sub c' k'∧K m' c' (l'+2)
@[irreducible] def aAF (ro:Ro):PT:=fun e h nx Q=>aB (vZ (e 0)) fun c'=>aB (aO .lss (e 3) c') fun d'=>aR d' (aB (aDp (e 0) (e 3)) fun e'=>aN Tryz.prog ro sM [e'] h (nx+8) fun f' p' q'=>aB (unV .not f') fun a'=>ifP a' true p' (q'+2) (fun K'=>K' (e 3) p' (q'+3)) fun g' r' s'=>ifP a' true r' s' (fun L'=>aB (aO .eql g' (Value.int IntKind.i64 0)) fun M'=>L' M' r' (s'+1)) fun h' t' u'=>ifP a' true t' u' (fun N'=>N' h' t' (u'+1)) fun b' v' w'=>ifP b' false v' w' (fun O'=>O' (e 0) v' (w'+1)) fun i' x' y'=>ifP b' false x' y' (fun P'=>P' (e 3) x' (y'+1)) fun j' z' A'=>ifP b' false z' A' (fun Q'=>aB (aDp i' j') fun R'=>Q' R' z' (A'+1)) fun k' B' C'=>ifP b' false B' C' (fun S'=>aN Tryz.prog ro uA [k'] B' (C'+1) fun T' U' V'=>S' T' U' V') fun l' D' E'=>ifP b' false D' E' (fun W'=>aB (unV .not l') fun X'=>W' X' D' (E'+1)) fun m' F' G'=>ifP a' true F' G' (fun Y'=>aB (bO b' (Value.bool true) m') fun Z'=>Y' Z' F' (G'+1)) fun n' H' I'=>aB (bO a' n' (Value.bool false)) fun o'=>aR o' (Q .ret (puts e [(4,(e 3)),(5,(e 0)),(6,c'),(7,d'),(10,(e 0)),(11,(e 3)),(12,e'),(13,f'),(14,a'),(15,a'),(16,g'),(17,h'),(18,b'),(19,i'),(20,j'),(21,k'),(22,l'),(23,m'),(24,n'),(25,o'),(2,(Value.bool false))]) H' (I'+2)) (aB (aO .add (e 3) (Value.int IntKind.i64 1)) fun J'=>Q .normal (puts e [(4,(e 3)),(5,(e 0)),(6,c'),(7,d'),(10,(e 0)),(11,(e 3)),(12,e'),(13,f'),(14,a'),(15,a'),(16,g'),(17,h'),(18,b'),(19,i'),(20,j'),(21,k'),(22,l'),(23,m'),(24,n'),(25,o'),(8,(e 3)),(9,J'),(3,J')]) H' (I'+4))) (Q (.exit 0) (puts e [(4,(e 3)),(5,(e 0)),(6,c'),(7,d')]) h (nx+4))
@[irreducible] def aEM (ro:Ro) (v0:Value) (h:T Obj) (nx:Nat) (K:KV):Prop:=dT (aAF ro) (puts (gM [v0]) [(2,(Value.bool false)),(3,(Value.int IntKind.i64 0))]) h (nx+2) fun x74 e71 h72 n73=>exP x74 (pL ro K e71 h72 n73) (fun i75=>cO (Nat.beq i75 0) (pL ro K e71 h72 n73) (False)) (∃ h76,Sub h76 h72∧K (e71 2) h76 n73)
theorem aFF {ro:Ro}{v0:Value}{h:T Obj}{nx:Nat}{K:KV} (hw:aEM ro v0 h nx K):aN Tryz.prog ro rB [v0] h nx K:=bA (P:=Tryz.prog) (fn:=Tryz.f44) (by kernel_rfl) (by kernel_rfl) (by kernel_rfl) (Eq.mpr (by kernel_rfl) hw)
@[irreducible] def pN (ro:Ro) (K:KV):Env→T Obj→Nat→Prop:=fun e h nx=>∃ h9,Sub h9 h∧K (Value.bool true) h9 (nx+1)
@[irreducible] def mX (ro:Ro) (Q:KE):Env→T Obj→Nat→Prop:=fun e h nx=>aB (aO .add (e 6) (Value.int IntKind.i64 1)) fun a'=>Q .normal (puts e [(58,(e 6)),(59,a'),(6,a')]) h (nx+3)
@[irreducible] def aAJ (ro:Ro):PT:=fun e h nx Q=>aB (aS 0 (e 2)) fun a'=>aB (aS 258 a') fun b'=>aB (load1 ro h b') fun c'=>aB (cM 4 c' (e 6)) fun d'=>aB (aS 2 d') fun e'=>aB (load1 ro h e') fun f'=>aB (bH f') fun g'=>aB (aO .lss (e 7) g') fun h'=>aR h' (aB (aS 0 (e 2)) fun i'=>aB (aS 258 i') fun j'=>aB (load1 ro h j') fun k'=>aB (cM 4 k' (e 6)) fun l'=>aB (aS 2 l') fun m'=>aB (load1 ro h m') fun n'=>aB (cM 1 n' (e 7)) fun o'=>aB (load1 ro h o') fun p'=>aB (aS 259 (e 2)) fun q'=>aB (load1 ro h q') fun r'=>aB (bH r') fun s'=>aB (aO .geq p' s') fun t'=>aR t' (Q .ret (puts e [(60,(e 7)),(61,a'),(62,b'),(63,c'),(64,(e 6)),(65,d'),(66,e'),(67,f'),(68,g'),(69,h'),(72,i'),(73,j'),(74,k'),(75,(e 6)),(76,l'),(77,m'),(78,n'),(79,(e 7)),(80,o'),(81,p'),(82,q'),(83,r'),(84,s'),(85,t'),(4,(Value.bool false))]) h (nx+25)) (aB (aO .add (e 7) (Value.int IntKind.i64 1)) fun u'=>Q .normal (puts e [(60,(e 7)),(61,a'),(62,b'),(63,c'),(64,(e 6)),(65,d'),(66,e'),(67,f'),(68,g'),(69,h'),(72,i'),(73,j'),(74,k'),(75,(e 6)),(76,l'),(77,m'),(78,n'),(79,(e 7)),(80,o'),(81,p'),(82,q'),(83,r'),(84,s'),(85,t'),(70,(e 7)),(71,u'),(7,u')]) h (nx+27))) (Q (.exit 4) (puts e [(60,(e 7)),(61,a'),(62,b'),(63,c'),(64,(e 6)),(65,d'),(66,e'),(67,f'),(68,g'),(69,h')]) h (nx+10))
@[irreducible] def aAI (ro:Ro):PT:=fun e h nx Q=>aB (aS 0 (e 2)) fun d'=>aB (aS 258 d') fun e'=>aB (load1 ro h e') fun f'=>aB (bH f') fun g'=>aB (aO .lss (e 6) g') fun h'=>aR h' (dT (aAJ ro) (puts e [(52,(e 6)),(53,d'),(54,e'),(55,f'),(56,g'),(57,h'),(7,(Value.int IntKind.i64 0))]) h (nx+7) fun j' a' b' c'=>exP j' (mX ro Q a' b' c') (fun i'=>cO (Nat.beq i' 4) (mX ro Q a' b' c') (cO (Nat.beq i' 3) (mX ro Q a' b' c') (Q (.exit i') a' b' c'))) (Q .ret a' b' c')) (Q (.exit 2) (puts e [(52,(e 6)),(53,d'),(54,e'),(55,f'),(56,g'),(57,h')]) h (nx+6))
@[irreducible] def pM (ro:Ro) (K:KV):Env→T Obj→Nat→Prop:=fun e h nx=>dT (aAI ro) (puts e [(6,(Value.int IntKind.i64 0))]) h (nx+1) fun x45 e42 h43 n44=>exP x45 (pN ro K e42 h43 n44) (fun i46=>cO (Nat.beq i46 2) (pN ro K e42 h43 n44) (False)) (∃ h47,Sub h47 h43∧K (e42 4) h47 n44)
@[irreducible] def aAK (ro:Ro):PT:=fun e h nx Q=>aB (aS 259 (e 2)) fun d'=>aB (load1 ro h d') fun e'=>aB (bH e') fun f'=>aB (aO .lss (e 5) f') fun g'=>aR g' (aB (aS 259 (e 2)) fun h'=>aB (load1 ro h h') fun i'=>aB (cM 1 i' (e 5)) fun j'=>aB (load1 ro h j') fun k'=>aB (aO .lss k' (Value.int IntKind.i64 0)) fun b'=>ifP b' false h (nx+38) (fun aD'=>aB (aS 259 (e 2)) fun aE'=>aD' aE' h (nx+38)) fun l' m' O'=>ifP b' false m' O' (fun aF'=>aB (load1 ro m' l') fun aG'=>aF' aG' m' O') fun n' P' Q'=>ifP b' false P' Q' (fun aH'=>aH' (e 5) P' Q') fun o' R' S'=>ifP b' false R' S' (fun aI'=>aB (cM 1 n' o') fun aJ'=>aI' aJ' R' S') fun p' q' T'=>ifP b' false q' T' (fun aK'=>aB (load1 ro q' p') fun aL'=>aK' aL' q' T') fun r' U' V'=>ifP b' false U' V' (fun aM'=>aM' (e 1) U' V') fun s' W' X'=>ifP b' false W' X' (fun aN'=>aB (aO .geq r' s') fun aO'=>aN' aO' W' X') fun t' Y' Z'=>aB (bO b' (Value.bool true) t') fun c'=>ifP c' false Y' Z' (fun aP'=>aP' (e 5) Y' Z') fun u' aa' ab'=>ifP c' false aa' ab' (fun aQ'=>aB (aO .gtr u' (Value.int IntKind.i64 0)) fun aR'=>aQ' aR' aa' ab') fun v' ac' ad'=>ifP c' false ac' ad' (fun aS'=>aS' v' ac' ad') fun a' ae' af'=>ifP a' true ae' af' (fun aT'=>aB (aS 259 (e 2)) fun aU'=>aT' aU' ae' af') fun w' x' ag'=>ifP a' true x' ag' (fun aV'=>aB (load1 ro x' w') fun aW'=>aV' aW' x' ag') fun y' ah' ai'=>ifP a' true ah' ai' (fun aX'=>aX' (e 5) ah' ai') fun z' aj' ak'=>ifP a' true aj' ak' (fun aY'=>aB (aO .sub z' (Value.int IntKind.i64 1)) fun aZ'=>aY' aZ' aj' ak') fun A' al' am'=>ifP a' true al' am' (fun a0'=>aB (cM 1 y' A') fun a1'=>a0' a1' al' am') fun B' C' an'=>ifP a' true C' an' (fun a2'=>aB (load1 ro C' B') fun a3'=>a2' a3' C' an') fun D' ao' ap'=>ifP a' true ao' ap' (fun a4'=>aB (aS 259 (e 2)) fun a5'=>a4' a5' ao' ap') fun E' F' aq'=>ifP a' true F' aq' (fun a6'=>aB (load1 ro F' E') fun a7'=>a6' a7' F' aq') fun G' ar' as'=>ifP a' true ar' as' (fun a8'=>a8' (e 5) ar' as') fun H' at' au'=>ifP a' true at' au' (fun a9'=>aB (cM 1 G' H') fun ba'=>a9' ba' at' au') fun I' J' av'=>ifP a' true J' av' (fun bb'=>aB (load1 ro J' I') fun bc'=>bb' bc' J' av') fun K' aw' ax'=>ifP a' true aw' ax' (fun bd'=>aB (aO .geq D' K') fun be'=>bd' be' aw' ax') fun L' ay' az'=>ifP c' false ay' az' (fun bf'=>aB (bO a' L' (Value.bool false)) fun bg'=>bf' bg' ay' az') fun M' aA' aB'=>aB (bO c' (Value.bool true) M') fun N'=>aR N' (Q .ret (puts e [(12,(e 5)),(13,d'),(14,e'),(15,f'),(16,g'),(19,h'),(20,i'),(21,(e 5)),(22,j'),(23,k'),(24,b'),(25,b'),(26,l'),(27,n'),(28,o'),(29,p'),(30,r'),(31,s'),(32,t'),(33,c'),(34,c'),(35,u'),(36,v'),(37,a'),(38,w'),(39,y'),(40,z'),(41,A'),(42,B'),(43,D'),(44,E'),(45,G'),(46,H'),(47,I'),(48,K'),(49,L'),(50,M'),(51,N'),(4,(Value.bool false))]) aA' (aB'+1)) (aB (aO .add (e 5) (Value.int IntKind.i64 1)) fun aC'=>Q .normal (puts e [(12,(e 5)),(13,d'),(14,e'),(15,f'),(16,g'),(19,h'),(20,i'),(21,(e 5)),(22,j'),(23,k'),(24,b'),(25,b'),(26,l'),(27,n'),(28,o'),(29,p'),(30,r'),(31,s'),(32,t'),(33,c'),(34,c'),(35,u'),(36,v'),(37,a'),(38,w'),(39,y'),(40,z'),(41,A'),(42,B'),(43,D'),(44,E'),(45,G'),(46,H'),(47,I'),(48,K'),(49,L'),(50,M'),(51,N'),(17,(e 5)),(18,aC'),(5,aC')]) aA' (aB'+3))) (Q (.exit 0) (puts e [(12,(e 5)),(13,d'),(14,e'),(15,f'),(16,g')]) h (nx+5))
@[irreducible] def aEV (ro:Ro) (v0 v1:Value) (h:T Obj) (nx:Nat) (K:KV):Prop:=cT h nx (.cells (Value.cells v0) cN) fun h1=>aB (aS 0 (ptr nx)) fun d'=>aB (loadA ro h1 259 d') fun e'=>aN Tryz.prog ro uC [e'] h1 (nx+5) fun f' h5 n6=>aB (unV .not f') fun g'=>aR g' (∃ h8,Sub h8 h5∧K (Value.bool false) h8 (n6+2)) (dT (aAK ro) (puts (gM [v0,v1]) [(2,(ptr nx)),(4,(Value.bool false)),(8,d'),(9,e'),(10,f'),(11,g'),(5,(Value.int IntKind.i64 0))]) h5 (n6+2) fun i' a' b' c'=>exP i' (pM ro K a' b' c') (fun j'=>cO (Nat.beq j' 0) (pM ro K a' b' c') (False)) (∃ h',Sub h' b'∧K (a' 4) h' c'))
theorem aFM {ro:Ro}{v0 v1:Value}{h:T Obj}{nx:Nat}{K:KV} (hw:aEV ro v0 v1 h nx K):aN Tryz.prog ro vX [v0,v1] h nx K:=bA (P:=Tryz.prog) (fn:=Tryz.f45) (by kernel_rfl) (by kernel_rfl) (by kernel_rfl) (Eq.mpr (by kernel_rfl) hw)
@[irreducible] def oQ (ro:Ro) (K:KV):Env→T Obj→Nat→Prop:=fun e h nx=>aB (vZ (e 0)) fun d'=>aB (aO .geq d' (Value.int IntKind.i64 1)) fun a'=>ifP a' true h (nx+4) (fun k3=>k3 (e 0) h (nx+5)) fun e' h5 n6=>ifP a' true h5 n6 (fun k7=>aB (vZ e') fun f'=>k7 f' h5 (n6+1)) fun g' h9 b'=>ifP a' true h9 b' (fun h'=>aB (aO .leq g' (Value.int IntKind.i64 32)) fun i'=>h' i' h9 (b'+1)) fun j' k' l'=>aB (bO a' j' (Value.bool false)) fun m'=>∃ c',Sub c' k'∧K m' c' (l'+2)
@[irreducible] def y7 (ro:Ro):PT:=fun e h nx Q=>aB (aO .lss (e 6) (e 5)) fun c'=>aR c' (aB (aDp (e 0) (e 6)) fun d'=>aN Tryz.prog ro qK [d'] h (nx+7) fun e' o' p'=>aB (unV .not e') fun a'=>ifP a' true o' (p'+2) (fun J'=>J' (e 6) o' (p'+3)) fun f' q' r'=>ifP a' true q' r' (fun K'=>aB (aO .eql f' (Value.int IntKind.i64 0)) fun L'=>K' L' q' (r'+1)) fun g' s' t'=>ifP a' true s' t' (fun M'=>M' g' s' (t'+1)) fun b' u' v'=>ifP b' false u' v' (fun N'=>N' (e 0) u' (v'+1)) fun h' w' x'=>ifP b' false w' x' (fun O'=>O' (e 6) w' (x'+1)) fun i' y' z'=>ifP b' false y' z' (fun P'=>aB (aDp h' i') fun Q'=>P' Q' y' (z'+1)) fun j' A' B'=>ifP b' false A' B' (fun R'=>aN Tryz.prog ro sN [j'] A' (B'+1) fun S' T' U'=>R' S' T' U') fun k' C' D'=>ifP b' false C' D' (fun V'=>aB (unV .not k') fun W'=>V' W' C' (D'+1)) fun l' E' F'=>ifP a' true E' F' (fun X'=>aB (bO b' (Value.bool true) l') fun Y'=>X' Y' E' (F'+1)) fun m' G' H'=>aB (bO a' m' (Value.bool false)) fun n'=>aR n' (Q .ret (puts e [(7,c'),(8,(e 6)),(3,(e 6)),(9,(e 0)),(10,(e 6)),(11,d'),(12,e'),(13,a'),(14,a'),(15,f'),(16,g'),(17,b'),(18,h'),(19,i'),(20,j'),(21,k'),(22,l'),(23,m'),(24,n'),(2,(Value.bool false))]) G' (H'+2)) (aB (aO .add (e 6) (Value.int IntKind.i64 1)) fun I'=>Q .normal (puts e [(7,c'),(8,(e 6)),(3,(e 6)),(9,(e 0)),(10,(e 6)),(11,d'),(12,e'),(13,a'),(14,a'),(15,f'),(16,g'),(17,b'),(18,h'),(19,i'),(20,j'),(21,k'),(22,l'),(23,m'),(24,n'),(25,I'),(6,I')]) G' (H'+3))) (Q (.exit 0) (puts e [(7,c')]) h (nx+1))
@[irreducible] def aCh (ro:Ro) (v0:Value) (h:T Obj) (nx:Nat) (K:KV):Prop:=aB (vZ v0) fun e'=>dT (y7 ro) (puts (gM [v0]) [(2,(Value.bool false)),(4,v0),(5,e'),(6,(Value.int IntKind.i64 0))]) h (nx+4) fun f' a' b' c'=>exP f' (oQ ro K a' b' c') (fun g'=>cO (Nat.beq g' 0) (oQ ro K a' b' c') (False)) (∃ d',Sub d' b'∧K (a' 2) d' c')
theorem aEb {ro:Ro}{v0:Value}{h:T Obj}{nx:Nat}{K:KV} (hw:aCh ro v0 h nx K):aN Tryz.prog ro pH [v0] h nx K:=bA (P:=Tryz.prog) (fn:=Tryz.f69) (by kernel_rfl) (by kernel_rfl) (by kernel_rfl) (Eq.mpr (by kernel_rfl) hw)
@[irreducible] def aCU (ro:Ro) (v0 v1:Value) (h:T Obj) (nx:Nat) (K:KV):Prop:=cT h nx (.cells (Value.cells v0) cN) fun h1=>aB (loadA ro h1 260 (ptr nx)) fun b'=>aB (aS 1 v1) fun c'=>aB (load1 ro h1 c') fun d'=>aB (bH d') fun e'=>aN Tryz.prog ro aA5 [b',e'] h1 (nx+7) fun f' h7 n8=>aB (unV .not f') fun g'=>∃ a',Sub a' h7∧K g' a' (n8+2)
theorem aDj {ro:Ro}{v0 v1:Value}{h:T Obj}{nx:Nat}{K:KV} (hw:aCU ro v0 v1 h nx K):aN Tryz.prog ro t5 [v0,v1] h nx K:=bA (P:=Tryz.prog) (fn:=Tryz.f72) (by kernel_rfl) (by kernel_rfl) (by kernel_rfl) (Eq.mpr (by kernel_rfl) hw)
@[irreducible] def tL (ro:Ro) (K:KV):Env→T Obj→Nat→Prop:=fun e h nx=>aB (aS 0 (e 2)) fun b'=>aB (loadA ro h 259 b') fun c'=>aN Tryz.prog ro qZ [c'] h (nx+3) fun d' h5 n6=>aB (unV .not d') fun e'=>aR e' (∃ h8,Sub h8 h5∧K (Value.bool false) h8 (n6+2)) (aB (aS 0 (e 2)) fun f'=>aB (aS 258 f') fun g'=>aB (load1 ro h5 g') fun h'=>aN Tryz.prog ro dP [h',(.func (.func vT) #[] #[(e 2)])] h5 (n6+6) fun i' j' k'=>aB (unV .not i') fun l'=>∃ a',Sub a' j'∧K l' a' (k'+2))
@[irreducible] def aCV (ro:Ro):PT:=fun e h nx Q=>aB (aO .lss (e 11) (e 10)) fun c'=>aR c' (aB (cM 1 (e 9) (e 11)) fun d'=>aB (load1 ro h d') fun a'=>aB (aO .leq a' (e 5)) fun b'=>ifP b' false h (nx+8) (fun p'=>p' a' h (nx+9)) fun e' i' j'=>ifP b' false i' j' (fun q'=>q' (e 1) i' (j'+1)) fun f' k' l'=>ifP b' false k' l' (fun r'=>aB (aO .geq e' f') fun s'=>r' s' k' (l'+1)) fun g' m' n'=>aB (bO b' (Value.bool true) g') fun h'=>aR h' (Q .ret (puts e [(12,c'),(13,d'),(14,a'),(7,a'),(15,a'),(16,(e 5)),(17,b'),(18,b'),(19,e'),(20,f'),(21,g'),(22,h'),(4,(Value.bool false))]) m' (n'+2)) (aB (aO .add (e 11) (Value.int IntKind.i64 1)) fun o'=>Q .normal (puts e [(12,c'),(13,d'),(14,a'),(7,a'),(15,a'),(16,(e 5)),(17,b'),(18,b'),(19,e'),(20,f'),(21,g'),(22,h'),(23,a'),(5,a'),(24,o'),(11,o')]) m' (n'+5))) (Q (.exit 0) (puts e [(12,c')]) h (nx+1))
@[irreducible] def aHm (ro:Ro) (v0 v1:Value) (h:T Obj) (nx:Nat) (K:KV):Prop:=cT h nx (.cells (Value.cells v0) cN) fun h1=>aB (aS 259 (ptr nx)) fun d'=>aB (load1 ro h1 d') fun e'=>aB (bH e') fun g'=>dT (aCV ro) (puts (gM [v0,v1]) [(2,(ptr nx)),(4,(Value.bool false)),(5,(Value.int IntKind.i64 (-1))),(8,d'),(9,e'),(10,g'),(11,(Value.int IntKind.i64 0))]) h1 (nx+7) fun h' a' b' c'=>exP h' (tL ro K a' b' c') (fun i'=>cO (Nat.beq i' 0) (tL ro K a' b' c') (False)) (∃ f',Sub f' b'∧K (a' 4) f' c')
theorem aHn {ro:Ro}{v0 v1:Value}{h:T Obj}{nx:Nat}{K:KV} (hw:aHm ro v0 v1 h nx K):aN Tryz.prog ro aA5 [v0,v1] h nx K:=bA (P:=Tryz.prog) (fn:=Tryz.f73) (by kernel_rfl) (by kernel_rfl) (by kernel_rfl) (Eq.mpr (by kernel_rfl) hw)
@[irreducible] def aBY (ro:Ro) (v0:Value) (h:T Obj) (nx:Nat) (K:KV):Prop:=aB (aO .geq v0 (Value.int IntKind.u8 97)) fun b'=>ifP b' true h (nx+4) (fun k2=>k2 v0 h (nx+5)) fun t' h4 n5=>ifP b' true h4 n5 (fun k6=>aB (aO .leq t' (Value.int IntKind.u8 122)) fun u'=>k6 u' h4 (n5+1)) fun v' h8 n9=>aB (bO b' v' (Value.bool false)) fun a'=>ifP a' false h8 (n9+2) (fun w'=>w' v0 h8 (n9+3)) fun x' e' f'=>ifP a' false e' f' (fun y'=>aB (aO .geq x' (Value.int IntKind.u8 65)) fun z'=>y' z' e' (f'+1)) fun A' g' h'=>ifP a' false g' h' (fun B'=>B' A' g' (h'+1)) fun c' i' j'=>ifP c' true i' j' (fun C'=>C' v0 i' (j'+1)) fun D' k' l'=>ifP c' true k' l' (fun E'=>aB (aO .leq D' (Value.int IntKind.u8 90)) fun F'=>E' F' k' (l'+1)) fun G' m' n'=>ifP a' false m' n' (fun H'=>aB (bO c' G' (Value.bool false)) fun I'=>H' I' m' (n'+1)) fun J' o' p'=>aB (bO a' (Value.bool true) J') fun d'=>ifP d' false o' (p'+2) (fun K'=>K' v0 o' (p'+3)) fun L' q' r'=>ifP d' false q' r' (fun M'=>aB (aO .eql L' (Value.int IntKind.u8 95)) fun N'=>M' N' q' (r'+1)) fun O' P' Q'=>aB (bO d' (Value.bool true) O') fun R'=>∃ s',Sub s' P'∧K R' s' (Q'+2)
theorem aCv {ro:Ro}{v0:Value}{h:T Obj}{nx:Nat}{K:KV} (hw:aBY ro v0 h nx K):aN Tryz.prog ro sM [v0] h nx K:=bA (P:=Tryz.prog) (fn:=Tryz.f81) (by kernel_rfl) (by kernel_rfl) (by kernel_rfl) (Eq.mpr (by kernel_rfl) hw)
@[irreducible] def aC5 (ro:Ro) (v0:Value) (h:T Obj) (nx:Nat) (K:KV):Prop:=aB (aO .geq v0 (Value.int IntKind.u8 48)) fun a'=>ifP a' true h (nx+4) (fun k2=>k2 v0 h (nx+5)) fun c' h4 n5=>ifP a' true h4 n5 (fun k6=>aB (aO .leq c' (Value.int IntKind.u8 57)) fun d'=>k6 d' h4 (n5+1)) fun e' h8 n9=>aB (bO a' e' (Value.bool false)) fun f'=>∃ b',Sub b' h8∧K f' b' (n9+2)
theorem aEN {ro:Ro}{v0:Value}{h:T Obj}{nx:Nat}{K:KV} (hw:aC5 ro v0 h nx K):aN Tryz.prog ro uA [v0] h nx K:=bA (P:=Tryz.prog) (fn:=Tryz.f82) (by kernel_rfl) (by kernel_rfl) (by kernel_rfl) (Eq.mpr (by kernel_rfl) hw)
@[irreducible] def aAU (ro:Ro) (v0:Value) (h:T Obj) (nx:Nat) (K:KV):Prop:=aB (aO .geq v0 (Value.int IntKind.u8 97)) fun b'=>ifP b' true h (nx+4) (fun k2=>k2 v0 h (nx+5)) fun t' h4 n5=>ifP b' true h4 n5 (fun k6=>aB (aO .leq t' (Value.int IntKind.u8 122)) fun u'=>k6 u' h4 (n5+1)) fun v' h8 n9=>aB (bO b' v' (Value.bool false)) fun a'=>ifP a' false h8 (n9+2) (fun w'=>w' v0 h8 (n9+3)) fun x' e' f'=>ifP a' false e' f' (fun y'=>aB (aO .geq x' (Value.int IntKind.u8 65)) fun z'=>y' z' e' (f'+1)) fun A' g' h'=>ifP a' false g' h' (fun B'=>B' A' g' (h'+1)) fun c' i' j'=>ifP c' true i' j' (fun C'=>C' v0 i' (j'+1)) fun D' k' l'=>ifP c' true k' l' (fun E'=>aB (aO .leq D' (Value.int IntKind.u8 90)) fun F'=>E' F' k' (l'+1)) fun G' m' n'=>ifP a' false m' n' (fun H'=>aB (bO c' G' (Value.bool false)) fun I'=>H' I' m' (n'+1)) fun J' o' p'=>aB (bO a' (Value.bool true) J') fun d'=>ifP d' false o' (p'+2) (fun K'=>K' v0 o' (p'+3)) fun L' q' r'=>ifP d' false q' r' (fun M'=>aB (aO .eql L' (Value.int IntKind.u8 95)) fun N'=>M' N' q' (r'+1)) fun O' P' Q'=>aB (bO d' (Value.bool true) O') fun R'=>∃ s',Sub s' P'∧K R' s' (Q'+2)
theorem aCF {ro:Ro}{v0:Value}{h:T Obj}{nx:Nat}{K:KV} (hw:aAU ro v0 h nx K):aN Tryz.prog ro qK [v0] h nx K:=bA (P:=Tryz.prog) (fn:=Tryz.f109) (by kernel_rfl) (by kernel_rfl) (by kernel_rfl) (Eq.mpr (by kernel_rfl) hw)
@[irreducible] def aB8 (ro:Ro) (v0:Value) (h:T Obj) (nx:Nat) (K:KV):Prop:=aB (aO .geq v0 (Value.int IntKind.u8 48)) fun a'=>ifP a' true h (nx+4) (fun k2=>k2 v0 h (nx+5)) fun c' h4 n5=>ifP a' true h4 n5 (fun k6=>aB (aO .leq c' (Value.int IntKind.u8 57)) fun d'=>k6 d' h4 (n5+1)) fun e' h8 n9=>aB (bO a' e' (Value.bool false)) fun f'=>∃ b',Sub b' h8∧K f' b' (n9+2)
theorem aCw {ro:Ro}{v0:Value}{h:T Obj}{nx:Nat}{K:KV} (hw:aB8 ro v0 h nx K):aN Tryz.prog ro sN [v0] h nx K:=bA (P:=Tryz.prog) (fn:=Tryz.f110) (by kernel_rfl) (by kernel_rfl) (by kernel_rfl) (Eq.mpr (by kernel_rfl) hw)
@[irreducible] def aDk (ro:Ro) (v0 v1:Value) (h:T Obj) (nx:Nat) (K:KV):Prop:=cT h nx (.cells (Value.cells v0) bD) fun h1=>aB (aS 2 (ptr nx)) fun c'=>aB (load1 ro h1 c') fun d'=>aN Tryz.prog ro lO [d'] h1 (nx+10) fun e' h5 n6=>aB (aS 259 v1) fun a'=>aB (load1 ro h5 a') fun f'=>(jT a' h1 h5)∧(aB (bH f') fun g'=>aB (aO .geq e' g') fun h'=>∃ b',Sub b' h5∧K h' b' n6)
theorem aEx {ro:Ro}{v0 v1:Value}{h:T Obj}{nx:Nat}{K:KV} (hw:aDk ro v0 v1 h nx K):aN Tryz.prog ro vT [v0,v1] h nx K:=bA (P:=Tryz.prog) (fn:=Tryz.f113) (by kernel_rfl) (by kernel_rfl) (by kernel_rfl) (Eq.mpr (by kernel_rfl) hw)
end V
end Go.Proofs.YtcaccnneblghgaaGreat
namespace Go.Proofs.YtcaccnneblghgaaGreat
namespace V
attribute [local irreducible] aB ifP aR cT eQ exP cO
section
variable {ro:Ro}{h:T Obj}{nx:Nat}{K:KV}
theorem aCx {c:Nat} (hK:∀ nx',nx≤nx'→K (.bool (aG3 c)) h nx'):aN Tryz.prog ro qK [.int .u8 (c:Int)] h nx K:=by
 have fin:∀ (b:Bool) n',nx≤n'→aG3 c=b→∃ h',Sub h' h∧K (.bool b) h' n':=fun b n' hn hb=>⟨h,Sub.refl _,by rw[← hb]; exact hK _ hn⟩
 apply aCF
 unfold aAU
 by_cases h1:97≤c
 ·by_cases h2:c≤122
  ·(repeat(first|refine zzB ?_|apply aD|apply aE|with_reducible first|apply aG|apply aF|apply aK|apply aH|apply aJ|apply aI|apply aL|apply aC))
   exact fin _ _ (by omega) (decide_eq_true (by omega))
  ·(repeat(first|refine zzB ?_|apply aD|apply aE|with_reducible first|apply aG|apply aF|apply aK|apply aH|apply aJ|apply aI|apply aL|apply aC))
   exact fin _ _ (by omega) (decide_eq_false (by omega))
 ·by_cases h3:65≤c
  ·by_cases h4:c≤90
   ·(repeat(first|refine zzB ?_|apply aD|apply aE|with_reducible first|apply aG|apply aF|apply aK|apply aH|apply aJ|apply aI|apply aL|apply aC))
    exact fin _ _ (by omega) (decide_eq_true (by omega))
   ·by_cases h5:c=95
    ·(repeat(first|refine zzB ?_|apply aD|apply aE|with_reducible first|apply aG|apply aF|apply aK|apply aH|apply aJ|apply aI|apply aL|apply aC))
     exact fin _ _ (by omega) (decide_eq_true (by omega))
    ·(repeat(first|refine zzB ?_|apply aD|apply aE|with_reducible first|apply aG|apply aF|apply aK|apply aH|apply aJ|apply aI|apply aL|apply aC))
     exact fin _ _ (by omega) (decide_eq_false (by omega))
  ·(repeat(first|refine zzB ?_|apply aD|apply aE|with_reducible first|apply aG|apply aF|apply aK|apply aH|apply aJ|apply aI|apply aL|apply aC))
   exact fin _ _ (by omega) (decide_eq_false (by omega))
theorem aEO {c:Nat} (hK:∀ nx',nx≤nx'→K (.bool (aG3 c)) h nx'):aN Tryz.prog ro sM [.int .u8 (c:Int)] h nx K:=by
 have fin:∀ (b:Bool) n',nx≤n'→aG3 c=b→∃ h',Sub h' h∧K (.bool b) h' n':=fun b n' hn hb=>⟨h,Sub.refl _,by rw[← hb]; exact hK _ hn⟩
 apply aCv
 unfold aBY
 by_cases h1:97≤c
 ·by_cases h2:c≤122
  ·(repeat(first|refine zzB ?_|apply aD|apply aE|with_reducible first|apply aG|apply aF|apply aK|apply aH|apply aJ|apply aI|apply aL|apply aC))
   exact fin _ _ (by omega) (decide_eq_true (by omega))
  ·(repeat(first|refine zzB ?_|apply aD|apply aE|with_reducible first|apply aG|apply aF|apply aK|apply aH|apply aJ|apply aI|apply aL|apply aC))
   exact fin _ _ (by omega) (decide_eq_false (by omega))
 ·by_cases h3:65≤c
  ·by_cases h4:c≤90
   ·(repeat(first|refine zzB ?_|apply aD|apply aE|with_reducible first|apply aG|apply aF|apply aK|apply aH|apply aJ|apply aI|apply aL|apply aC))
    exact fin _ _ (by omega) (decide_eq_true (by omega))
   ·by_cases h5:c=95
    ·(repeat(first|refine zzB ?_|apply aD|apply aE|with_reducible first|apply aG|apply aF|apply aK|apply aH|apply aJ|apply aI|apply aL|apply aC))
     exact fin _ _ (by omega) (decide_eq_true (by omega))
    ·(repeat(first|refine zzB ?_|apply aD|apply aE|with_reducible first|apply aG|apply aF|apply aK|apply aH|apply aJ|apply aI|apply aL|apply aC))
     exact fin _ _ (by omega) (decide_eq_false (by omega))
  ·(repeat(first|refine zzB ?_|apply aD|apply aE|with_reducible first|apply aG|apply aF|apply aK|apply aH|apply aJ|apply aI|apply aL|apply aC))
   exact fin _ _ (by omega) (decide_eq_false (by omega))
theorem aEc {c:Nat} (hK:∀ nx',nx≤nx'→K (.bool (aGN c)) h nx'):aN Tryz.prog ro sN [.int .u8 (c:Int)] h nx K:=by
 have fin:∀ (b:Bool) n',nx≤n'→aGN c=b→∃ h',Sub h' h∧K (.bool b) h' n':=fun b n' hn hb=>⟨h,Sub.refl _,by rw[← hb]; exact hK _ hn⟩
 apply aCw
 unfold aB8
 by_cases h1:48≤c
 ·by_cases h2:c≤57
  ·(repeat(first|refine zzB ?_|apply aD|apply aE|with_reducible first|apply aG|apply aF|apply aK|apply aH|apply aJ|apply aI|apply aL|apply aC))
   exact fin _ _ (by omega) (decide_eq_true (by omega))
  ·(repeat(first|refine zzB ?_|apply aD|apply aE|with_reducible first|apply aG|apply aF|apply aK|apply aH|apply aJ|apply aI|apply aL|apply aC))
   exact fin _ _ (by omega) (decide_eq_false (by omega))
 ·(repeat(first|refine zzB ?_|apply aD|apply aE|with_reducible first|apply aG|apply aF|apply aK|apply aH|apply aJ|apply aI|apply aL|apply aC))
  exact fin _ _ (by omega) (decide_eq_false (by omega))
theorem aFG {c:Nat} (hK:∀ nx',nx≤nx'→K (.bool (aGN c)) h nx'):aN Tryz.prog ro uA [.int .u8 (c:Int)] h nx K:=by
 have fin:∀ (b:Bool) n',nx≤n'→aGN c=b→∃ h',Sub h' h∧K (.bool b) h' n':=fun b n' hn hb=>⟨h,Sub.refl _,by rw[← hb]; exact hK _ hn⟩
 apply aEN
 unfold aC5
 by_cases h1:48≤c
 ·by_cases h2:c≤57
  ·(repeat(first|refine zzB ?_|apply aD|apply aE|with_reducible first|apply aG|apply aF|apply aK|apply aH|apply aJ|apply aI|apply aL|apply aC))
   exact fin _ _ (by omega) (decide_eq_true (by omega))
  ·(repeat(first|refine zzB ?_|apply aD|apply aE|with_reducible first|apply aG|apply aF|apply aK|apply aH|apply aJ|apply aI|apply aL|apply aC))
   exact fin _ _ (by omega) (decide_eq_false (by omega))
 ·(repeat(first|refine zzB ?_|apply aD|apply aE|with_reducible first|apply aG|apply aF|apply aK|apply aH|apply aJ|apply aI|apply aL|apply aC))
  exact fin _ _ (by omega) (decide_eq_false (by omega))
end
end V
end Go.Proofs.YtcaccnneblghgaaGreat
namespace Go.Proofs.YtcaccnneblghgaaGreat
namespace V
attribute [local irreducible] aB ifP aR cT eQ exP cO
section
variable {ro:Ro}{h:T Obj}{nx:Nat}{K:KV}
set_option maxRecDepth 4000 in
theorem aAT {s:ByteArray} (hs:s.size≤9223372036854775807) (hK:∀ nx',nx≤nx'→K (.bool (kB s)) h nx'):aN Tryz.prog ro pH [.string s] h nx K:=by
 have hbl:=aGH s
 have hl:=aDs s
 rw[hbl] at hl
 apply aEb
 unfold aCh
 refine aA hl ?_
 refine bE (fun j e h' nx'=>∃ k:Nat,k+j=s.size∧nx≤nx'∧h'=h∧e 0=.string s∧e 5=.int .i64 (s.size:Nat)∧e 2=.bool false∧e 6=.int .i64 k∧oZ true (bts s)=oZ (decide (k=0)) ((bts s).drop k)) ?_ (n:=s.size) ⟨0,by omega,by omega,rfl,rfl,rfl, rfl,rfl,rfl⟩
 rintro j e h' nx' ⟨k,hj,hnx,rfl,e0,e5,e2,eI,hq⟩ Q' hc hx
 unfold y7
 rw[e5, e0,eI]
 refine cV (fun hk=>?_) (fun hk=>?_)
 ·have hk:k < s.size:=by omega
  have hkb:k < (bts s).length:=by omega
  have hbb:=aLq _ (List.getElem_mem hkb)
  have hix:=aFb (s:=s) (k:=.i64) hkb
  have hdr:(bts s).drop k=(bts s)[k]::(bts s).drop (k+1):=List.drop_eq_getElem_cons hkb
  rw[hdr] at hq
  generalize (bts s)[k]=b at hbb hix hq
  have hq:oZ true (bts s)=((aG3 b || !(decide (k=0))&&aGN b)&&oZ false ((bts s).drop (k+1))):=hq
  have hcont:∀ (e':Env) n',nx≤n'→e' 0=.string s→e' 5=.int .i64 (s.size:Nat)→e' 2=.bool false→e' 6=.int .i64 ((k:Int)+1)→oZ true (bts s)=oZ false ((bts s).drop (k+1))→Q' .normal e' h' n':=by
   intro e' n' hn f0 f5 f2 fI hqq
   refine hc (j - 1) _ _ _ _ (by omega) ⟨k+1,by omega,hn,rfl,f0,f5,f2,by rw[fI]; rfl,?_⟩ (Sub.refl _)
   rw[hqq,decide_eq_false (by omega)]
  have hno:oZ true (bts s)=false→K (.bool false) h'=K (.bool (kB s)) h':=fun hn=>by
   have:kB s=false:=by unfold kB; rw[hn]; rfl
   rw[this]
  (repeat(first|refine aA (by simp (disch:=first|omega|exact nnN _|assumption) only [BB,B2,↓reduceIte,Nat.reduceLeDiff,Nat.reduceAdd,CC,hix]<;>rfl) ?_|apply aD|apply aE|with_reducible first|apply aG|apply aF|apply aK|apply aH|apply aJ|apply aI|apply aL|apply aC))
  refine aCx fun n1 hn1=>?_
  cases hlt:aG3 b with
  | true =>
   rw[hlt] at hq
   (repeat(first|refine zzB ?_|apply aD|apply aE|with_reducible first|apply aG|apply aF|apply aK|apply aH|apply aJ|apply aI|apply aL|apply aC))
   exact hcont _ _ (by omega) e0 e5 e2 rfl (by rw[hq]; simp)
  | false =>
   rw[hlt] at hq
   by_cases hk0:k=0
   ·(repeat(first|refine zzB ?_|apply aD|apply aE|with_reducible first|apply aG|apply aF|apply aK|apply aH|apply aJ|apply aI|apply aL|apply aC))
    refine hx _ _ _ _ (fun e=>by cases e) (eS ?_)
    refine⟨h',Sub.refl _,?_⟩
    show K (.bool false) h' _
    rw[hno (by rw[hq,decide_eq_true hk0]; rfl)]
    exact hK _ (by omega)
   ·(repeat(first|refine aA (by simp (disch:=first|omega|exact nnN _|assumption) only [BB,B2,↓reduceIte,Nat.reduceLeDiff,Nat.reduceAdd,CC,hix]<;>rfl) ?_|apply aD|apply aE|with_reducible first|apply aG|apply aF|apply aK|apply aH|apply aJ|apply aI|apply aL|apply aC))
    refine aEc fun n2 hn2=>?_
    cases hdg:aGN b with
    | true =>
     rw[hdg] at hq
     (repeat(first|refine zzB ?_|apply aD|apply aE|with_reducible first|apply aG|apply aF|apply aK|apply aH|apply aJ|apply aI|apply aL|apply aC))
     exact hcont _ _ (by omega) e0 e5 e2 rfl (by rw[hq,decide_eq_false hk0]; simp)
    | false =>
     rw[hdg] at hq
     (repeat(first|refine zzB ?_|apply aD|apply aE|with_reducible first|apply aG|apply aF|apply aK|apply aH|apply aJ|apply aI|apply aL|apply aC))
     refine hx _ _ _ _ (fun e=>by cases e) (eS ?_)
     refine⟨h',Sub.refl _,?_⟩
     show K (.bool false) h' _
     rw[hno (by rw[hq,decide_eq_false hk0]; rfl)]
     exact hK _ (by omega)
 ·have hk:k=s.size:=by omega
  have hnl:oZ true (bts s)=true:=by rw[hq,List.drop_of_length_le (by omega)]; rfl
  (repeat(first|refine zzB ?_|apply aD|apply aE|with_reducible first|apply aG|apply aF|apply aK|apply aH|apply aJ|apply aI|apply aL|apply aC))
  refine hx _ _ _ _ (fun e=>by cases e) (eD (cQ ?_))
  have hend:∀ (e':Env) n',nx≤n'→e' 0=.string s→oQ ro K e' h' n':=by
   intro e' n' hn f0
   unfold oQ
   rw[f0]
   refine aA hl ?_
   by_cases h1:1≤s.size
   ·(repeat(first|refine zzB ?_|apply aD|apply aE|with_reducible first|apply aG|apply aF|apply aK|apply aH|apply aJ|apply aI|apply aL|apply aC))
    refine aA hl ?_
    by_cases h2:s.size≤32
    ·(repeat(first|refine zzB ?_|apply aD|apply aE|with_reducible first|apply aG|apply aF|apply aK|apply aH|apply aJ|apply aI|apply aL|apply aC))
     refine⟨h',Sub.refl _,?_⟩
     have:kB s=true:=by unfold kB; rw[hnl,decide_eq_true h1,decide_eq_true h2]; rfl
     rw[← this]; exact hK _ (by omega)
    ·(repeat(first|refine zzB ?_|apply aD|apply aE|with_reducible first|apply aG|apply aF|apply aK|apply aH|apply aJ|apply aI|apply aL|apply aC))
     refine⟨h',Sub.refl _,?_⟩
     have:kB s=false:=by unfold kB; rw[hnl,decide_eq_true h1,decide_eq_false h2]; rfl
     rw[← this]; exact hK _ (by omega)
   ·(repeat(first|refine zzB ?_|apply aD|apply aE|with_reducible first|apply aG|apply aF|apply aK|apply aH|apply aJ|apply aI|apply aL|apply aC))
    refine⟨h',Sub.refl _,?_⟩
    have:kB s=false:=by unfold kB; rw[hnl,decide_eq_false h1]; rfl
    rw[← this]; exact hK _ (by omega)
  exact hend _ _ (by omega) e0
set_option maxRecDepth 4000 in
theorem aBX {s:ByteArray} (hs:s.size≤9223372036854775807) (hK:∀ nx',nx≤nx'→K (.bool (kB s)) h nx'):aN Tryz.prog ro rB [.string s] h nx K:=by
 have hbl:=aGH s
 have hl:=aDs s
 rw[hbl] at hl
 apply aFF
 unfold aEM
 skip
 refine bE (fun j e h' nx'=>∃ k:Nat,k+j=s.size∧nx≤nx'∧h'=h∧e 0=.string s∧ e 2=.bool false∧e 3=.int .i64 k∧oZ true (bts s)=oZ (decide (k=0)) ((bts s).drop k)) ?_ (n:=s.size) ⟨0,by omega,by omega,rfl,rfl, rfl,rfl,rfl⟩
 rintro j e h' nx' ⟨k,hj,hnx,rfl,e0, e2,eI,hq⟩ Q' hc hx
 unfold aAF
 rw[ e0,eI]
 refine aA hl ?_
 refine cV (fun hk=>?_) (fun hk=>?_)
 ·have hk:k < s.size:=by omega
  have hkb:k < (bts s).length:=by omega
  have hbb:=aLq _ (List.getElem_mem hkb)
  have hix:=aFb (s:=s) (k:=.i64) hkb
  have hdr:(bts s).drop k=(bts s)[k]::(bts s).drop (k+1):=List.drop_eq_getElem_cons hkb
  rw[hdr] at hq
  generalize (bts s)[k]=b at hbb hix hq
  have hq:oZ true (bts s)=((aG3 b || !(decide (k=0))&&aGN b)&&oZ false ((bts s).drop (k+1))):=hq
  have hcont:∀ (e':Env) n',nx≤n'→e' 0=.string s→ e' 2=.bool false→e' 3=.int .i64 ((k:Int)+1)→oZ true (bts s)=oZ false ((bts s).drop (k+1))→Q' .normal e' h' n':=by
   intro e' n' hn f0  f2 fI hqq
   refine hc (j - 1) _ _ _ _ (by omega) ⟨k+1,by omega,hn,rfl,f0, f2,by rw[fI]; rfl,?_⟩ (Sub.refl _)
   rw[hqq,decide_eq_false (by omega)]
  have hno:oZ true (bts s)=false→K (.bool false) h'=K (.bool (kB s)) h':=fun hn=>by
   have:kB s=false:=by unfold kB; rw[hn]; rfl
   rw[this]
  (repeat(first|refine aA (by simp (disch:=first|omega|exact nnN _|assumption) only [BB,B2,↓reduceIte,Nat.reduceLeDiff,Nat.reduceAdd,CC,hix]<;>rfl) ?_|apply aD|apply aE|with_reducible first|apply aG|apply aF|apply aK|apply aH|apply aJ|apply aI|apply aL|apply aC))
  refine aEO fun n1 hn1=>?_
  cases hlt:aG3 b with
  | true =>
   rw[hlt] at hq
   (repeat(first|refine zzB ?_|apply aD|apply aE|with_reducible first|apply aG|apply aF|apply aK|apply aH|apply aJ|apply aI|apply aL|apply aC))
   exact hcont _ _ (by omega) e0  e2 rfl (by rw[hq]; simp)
  | false =>
   rw[hlt] at hq
   by_cases hk0:k=0
   ·(repeat(first|refine zzB ?_|apply aD|apply aE|with_reducible first|apply aG|apply aF|apply aK|apply aH|apply aJ|apply aI|apply aL|apply aC))
    refine hx _ _ _ _ (fun e=>by cases e) (eS ?_)
    refine⟨h',Sub.refl _,?_⟩
    show K (.bool false) h' _
    rw[hno (by rw[hq,decide_eq_true hk0]; rfl)]
    exact hK _ (by omega)
   ·(repeat(first|refine aA (by simp (disch:=first|omega|exact nnN _|assumption) only [BB,B2,↓reduceIte,Nat.reduceLeDiff,Nat.reduceAdd,CC,hix]<;>rfl) ?_|apply aD|apply aE|with_reducible first|apply aG|apply aF|apply aK|apply aH|apply aJ|apply aI|apply aL|apply aC))
    refine aFG fun n2 hn2=>?_
    cases hdg:aGN b with
    | true =>
     rw[hdg] at hq
     (repeat(first|refine zzB ?_|apply aD|apply aE|with_reducible first|apply aG|apply aF|apply aK|apply aH|apply aJ|apply aI|apply aL|apply aC))
     exact hcont _ _ (by omega) e0  e2 rfl (by rw[hq,decide_eq_false hk0]; simp)
    | false =>
     rw[hdg] at hq
     (repeat(first|refine zzB ?_|apply aD|apply aE|with_reducible first|apply aG|apply aF|apply aK|apply aH|apply aJ|apply aI|apply aL|apply aC))
     refine hx _ _ _ _ (fun e=>by cases e) (eS ?_)
     refine⟨h',Sub.refl _,?_⟩
     show K (.bool false) h' _
     rw[hno (by rw[hq,decide_eq_false hk0]; rfl)]
     exact hK _ (by omega)
 ·have hk:k=s.size:=by omega
  have hnl:oZ true (bts s)=true:=by rw[hq,List.drop_of_length_le (by omega)]; rfl
  (repeat(first|refine zzB ?_|apply aD|apply aE|with_reducible first|apply aG|apply aF|apply aK|apply aH|apply aJ|apply aI|apply aL|apply aC))
  refine hx _ _ _ _ (fun e=>by cases e) (eD (cQ ?_))
  have hend:∀ (e':Env) n',nx≤n'→e' 0=.string s→pL ro K e' h' n':=by
   intro e' n' hn f0
   unfold pL
   rw[f0]
   refine aA hl ?_
   by_cases h1:1≤s.size
   ·(repeat(first|refine zzB ?_|apply aD|apply aE|with_reducible first|apply aG|apply aF|apply aK|apply aH|apply aJ|apply aI|apply aL|apply aC))
    refine aA hl ?_
    by_cases h2:s.size≤32
    ·(repeat(first|refine zzB ?_|apply aD|apply aE|with_reducible first|apply aG|apply aF|apply aK|apply aH|apply aJ|apply aI|apply aL|apply aC))
     refine⟨h',Sub.refl _,?_⟩
     have:kB s=true:=by unfold kB; rw[hnl,decide_eq_true h1,decide_eq_true h2]; rfl
     rw[← this]; exact hK _ (by omega)
    ·(repeat(first|refine zzB ?_|apply aD|apply aE|with_reducible first|apply aG|apply aF|apply aK|apply aH|apply aJ|apply aI|apply aL|apply aC))
     refine⟨h',Sub.refl _,?_⟩
     have:kB s=false:=by unfold kB; rw[hnl,decide_eq_true h1,decide_eq_false h2]; rfl
     rw[← this]; exact hK _ (by omega)
   ·(repeat(first|refine zzB ?_|apply aD|apply aE|with_reducible first|apply aG|apply aF|apply aK|apply aH|apply aJ|apply aI|apply aL|apply aC))
    refine⟨h',Sub.refl _,?_⟩
    have:kB s=false:=by unfold kB; rw[hnl,decide_eq_false h1]; rfl
    rw[← this]; exact hK _ (by omega)
  exact hend _ _ (by omega) e0
end
end V
end Go.Proofs.YtcaccnneblghgaaGreat
namespace Go.Proofs.YtcaccnneblghgaaGreat
namespace V
attribute [local irreducible] aB ifP aR cT eQ exP cO
section
variable {ro:Ro}{h:T Obj}{p a n w nx:Nat}{L:List Nat}{K:KV}
end
def Lo (h:T Obj) (L:List (Nat × List Value × TypeId)):Prop:=∀ b∈L,h.get b.1=some (.cells b.2.1.toArray b.2.2)∧b.2.2≠kS∧b.2.2≠aEh
def SW (hs:T Obj) (X:List Nat) (n0:Nat) (p:Nat) (pc:List Value) (L:List (Nat × List Value × TypeId)) (ps0:List (Nat × Nat)) (C:List (Int × Int)) (h:T Obj) (nx:Nat) (rs:List RgD) (ps:List (Nat × Nat)):Prop :=
 h.get p=some (.cells pc.toArray i3)∧Lo h L∧Sub (del hs X) h∧RsX WJ h ps C rs∧Dst ps∧mW ps=mW ps0∧(∀ q∈ps,q.1∈ps0.map (·.1)∧(q.2∈ps0.map (·.2)∨n0≤q.2))∧dM (p::j5 ps0) hs h∧Fr h nx∧n0≤nx∧Fr hs n0∧∀ k∈p::j5 ps0,k∈X
section
variable {ro:Ro}{hs h h':T Obj}{X:List Nat}{n0 p nx:Nat}{pc:List Value}{L:List (Nat × List Value × TypeId)}{ps0 ps:List (Nat × Nat)}{C:List (Int × Int)}{rs:List RgD}{K:KV}
theorem SW.mono {n':Nat} (hi:SW hs X n0 p pc L ps0 C h nx rs ps) (hn:nx≤n'):SW hs X n0 p pc L ps0 C h n' rs ps:=by
 obtain⟨g1,g2,g3,g4,g5,g6,g7,g8,g9,g10,g11⟩:=hi
 exact⟨g1,g2,g3,g4,g5,g6,g7,g8,g9.mono hn,by omega,g11⟩
theorem SW.sub {n':Nat} (hi:SW hs X n0 p pc L ps0 C h nx rs ps) (hs':Sub h h') (hf:Fr h' n') (hn:nx≤n'):SW hs X n0 p pc L ps0 C h' n' rs ps:=by
 obtain⟨g1,g2,g3,g4,g5,g6,g7,g8,g9,g10,g11⟩:=hi
 exact⟨hs' _ _ g1,fun b hb=>⟨hs' _ _ (g2 b hb).1,(g2 b hb).2⟩,g3.trans hs',g4.sub aDN hs',g5,g6,g7,fun k o hk hn=>hs' _ _ (g8 k o hk hn),hf,by omega,g11⟩
theorem aDI {ps:List (Nat × Nat)}{k:Nat} (h:k∈ps.map (·.1)):k∈j5 ps:=by
 obtain⟨q,hq,rfl⟩:=List.mem_map.1 h
 exact iS.2 ⟨q,hq,.inl rfl⟩
theorem aDJ {ps:List (Nat × Nat)}{k:Nat} (h:k∈ps.map (·.2)):k∈j5 ps:=by
 obtain⟨q,hq,rfl⟩:=List.mem_map.1 h
 exact iS.2 ⟨q,hq,.inr rfl⟩
theorem SW.ring {i n' a' w n:Nat}{q:Nat × Nat}{c:Int × Int}{M:List Nat}{r:RgD} (hi:SW hs X n0 p pc L ps0 C h nx rs ps) (hq:ps[i]?=some q) (hc:C[i]?=some c) (hR:WJ h q.1 q.2 n M w) (hR':WJ h' q.1 a' c.2.toNat r.1 r.2) (ha:a'=q.2∨nx≤a') (hg:∀ k,k < nx→k≠q.1→k≠q.2→h'.get k=h.get k) (hf:Fr h' n') (hn:nx≤n') :
  SW hs X n0 p pc L ps0 C h' n' (rs.set i r) (ps.set i (q.1,a')):=by
 obtain⟨g1,g2,g3,g4,g5,g6,g7,g8,g9,g10,g11,g12⟩:=hi
 have hm:=List.mem_of_getElem? hq
 obtain⟨m1,m2⟩:=g7 q hm
 obtain⟨c1,t1⟩:=aDN.p hR
 obtain⟨c2,t2⟩:=aDN.a hR
 have hlt:=g4.lt aDN g9
 have hget:∀ {k:Nat} {c:Array Value} {e:TypeId},h.get k=some (.cells c e)→e≠kS→e≠aEh→h'.get k=some (.cells c e):=fun hk h1 h2=>by
  rw[hg _ (g9.lt' hk) (kC hk t1 h1) (kC hk t2 h2)]; exact hk
 refine⟨hget g1 (by decide) (by decide),fun b hb=>⟨hget (g2 b hb).1 (g2 b hb).2.1 (g2 b hb).2.2,(g2 b hb).2⟩,fun k o hk=>?_,g4.set aDN g5 g9 hq hc hR' hg,g5.set hq ?_,(aLT hq).trans g6,fun r hr=>?_,fun k o hk hkn=>?_,hf,by omega,g11,g12⟩
 ·have h1:=hk
  rw[jU] at h1
  split at h1
  ·cases h1
  ·rename_i hnX
   have hk0:=g11.lt' h1
   rw[hg k (by omega) (fun e=>hnX (by rw[e]; exact g12 _ (List.mem_cons_of_mem _ (aDI m1)))) (fun e=>?_)]
   ·exact g3 k o hk
   ·rcases m2 with m2 | m2
    ·exact hnX (by rw[e]; exact g12 _ (List.mem_cons_of_mem _ (aDJ m2)))
    ·omega
 ·rcases ha with ha | ha
  ·exact .inl ha
  ·exact .inr fun s hs=>by have:=(hlt s hs).2; omega
 ·rcases List.mem_or_eq_of_mem_set hr with h1 | h1
  ·exact g7 r h1
  ·subst h1
   refine⟨m1,?_⟩
   rcases ha with ha | ha
   ·subst ha; exact m2
   ·exact .inr (show n0≤a' by omega)
 ·have hk0:=g11.lt' hk
  rw[hg k (by omega) (fun e=>hkn (by rw[e]; exact List.mem_cons_of_mem _ (aDI m1))) (fun e=>?_)]
  ·exact g8 k o hk hkn
  ·rcases m2 with m2 | m2
   ·exact hkn (by rw[e]; exact List.mem_cons_of_mem _ (aDJ m2))
   ·omega
theorem SW.cell {pc':List Value} (hi:SW hs X n0 p pc L ps0 C h nx rs ps) (h1:h'.get p=some (.cells pc'.toArray i3)) (h2:∀ k,k≠p→h'.get k=h.get k) (hL:∀ b∈L,b.2.2≠i3):SW hs X n0 p pc' L ps0 C h' nx rs ps:=by
 obtain⟨g1,g2,g3,g4,g5,g6,g7,g8,g9,g10,g11,g12⟩:=hi
 have hp:=g9.lt' g1
 refine⟨h1,fun b hb=>⟨?_,(g2 b hb).2⟩,fun k o hk=>?_,g4.keep aDN fun q hq=>?_,g5,g6,g7,fun k o hk hkn=>?_,fun k hk=>by rw[h2 k (by omega)]; exact g9 k hk,g10,g11,g12⟩
 ·rw[h2 _ (kC (g2 b hb).1 g1 (hL b hb))]; exact (g2 b hb).1
 ·have h9:=hk
  rw[jU] at h9
  split at h9
  ·cases h9
  ·rename_i hnX
   rw[h2 k (fun e=>hnX (by rw[e]; exact g12 _ (List.mem_cons_self ..)))]; exact g3 k o hk
 ·obtain⟨⟨c1,t1⟩,c2,t2⟩:=g4.ty aDN q hq
  exact⟨h2 _ (kC t1 g1 (by decide)),h2 _ (kC t2 g1 (by decide))⟩
 ·rw[h2 k fun e=>hkn (by rw[e]; exact List.mem_cons_self ..)]
  exact g8 k o hk hkn
def X2 (X:List Nat) (ps:List (Nat × Nat)):List Nat:=ps.map (·.2)++X
end
def zP (ro:Ro) (h:T Obj) (nx:Nat) (X:List Nat) (p:Nat) (ps:List (Nat × Nat)) (d:AutoD) (m':MacD) (h':T Obj) (nx':Nat) (X':List Nat) (ps':List (Nat × Nat)):Prop :=
 nx≤nx'∧Fr h' nx'∧dM (p::j5 ps) h h'∧(∀ k∈X',k∈X∨h.get k=none)∧(∀ k∈X,k∈X')∧(∀ k∈j5 ps',k∈j5 ps∨nx≤k)∧MW ro h' X' p ps' d m'
section
variable {ro:Ro}{h h':T Obj}{X:List Nat}{n0 p nx n':Nat}{L:List (Nat × List Value × TypeId)}{ps ps':List (Nat × Nat)}{d:AutoD}{m m':MacD}{cv sv rv:Value}{K:KV}
theorem SW.left (hA:qN ro (del h X) (eA d.c d.many cv sv) d) (hP:Sl ro (del h X) rv 1 (mW ps)) (hn:nx≤n0) (hi:SW h X n0 p (eC d.c d.many cv sv m'.cur rv m'.steps) L ps d.counts h' n' m'.rs ps'):zP ro h nx X p ps d m' h' n' (X2 X ps') ps':=by
 obtain⟨g1,g2,g3,g4,g5,g6,g7,g8,g9,g10,g11,g12⟩:=hi
 have hX:∀ k∈X2 X ps',k∈X∨h.get k=none:=fun k hk=>by
  rcases List.mem_append.1 hk with h1 | h1
  ·obtain⟨q,hq,rfl⟩:=List.mem_map.1 h1
   rcases (g7 q hq).2 with h2 | h2
   ·exact .inl (g12 _ (List.mem_cons_of_mem _ (aDJ h2)))
   ·exact .inr (g11 _ h2)
  ·exact .inl h1
 have hre:=aNh g3 hX
 refine⟨by omega,g9,g8,hX,fun k hk=>List.mem_append.2 (.inr hk),fun k hk=>?_,cv,sv,rv,g1,hA.sub hre,by rw[g6]; exact hP.sub hre,g4,g5,List.mem_append.2 (.inr (g12 _ (List.mem_cons_self ..))),fun k hk=>?_⟩
 ·obtain⟨q,hq,h1⟩:=iS.1 hk
  rcases h1 with rfl | rfl
  ·exact .inl (aDI (g7 q hq).1)
  ·rcases (g7 q hq).2 with h2 | h2
   ·exact .inl (aDJ h2)
   ·exact .inr (by omega)
 obtain⟨q,hq,h1⟩:=iS.1 hk
 rcases h1 with rfl | rfl
 ·exact List.mem_append.2 (.inr (g12 _ (List.mem_cons_of_mem _ (aDI (g7 q hq).1))))
 ·exact List.mem_append.2 (.inl (List.mem_map.2 ⟨q,hq,rfl⟩))
theorem zP.refl (hm:MW ro h X p ps d m) (hf:Fr h nx) (hn:nx≤n'):zP ro h nx X p ps d m h n' X ps:=⟨hn,hf.mono hn,(Sub.refl h).keepL,fun k hk=>.inl hk,fun k hk=>hk,fun k hk=>.inl hk,hm⟩
theorem MX.inX {RR:RgP}{ty:TypeId} (hm:MX RR ty ro h X p ps d m):∀ k∈p::j5 ps,k∈X:=fun k hk=>by
 obtain⟨cv,sv,rv,g1,g2,g3,g4,g5,g6,g7⟩:=hm
 rcases List.mem_cons.1 hk with rfl | hk
 ·exact g6
 ·exact g7 k hk
theorem zP.trans {h1 h2:T Obj}{n1 n2:Nat}{X1 X2:List Nat}{ps1 ps2:List (Nat × Nat)}{m1 m2:MacD} (hf:Fr h nx) (hX:∀ k∈p::j5 ps,k∈X) (a:zP ro h nx X p ps d m1 h1 n1 X1 ps1) (b:zP ro h1 n1 X1 p ps1 d m2 h2 n2 X2 ps2):zP ro h nx X p ps d m2 h2 n2 X2 ps2:=by
 obtain⟨a1,a2,a3,a4,a5,hb,a6⟩:=a
 obtain⟨b1,b2,b3,b4,b5,hb2,b6⟩:=b
 refine⟨by omega,b2,fun k o hk hn=>b3 k o (a3 k o hk hn) fun hm=>?_,fun k hk=>?_,fun k hk=>b5 k (a5 k hk),fun k hk=>?_,b6⟩
 ·have hlt:=hf.lt' hk
  rcases List.mem_cons.1 hm with rfl | hm
  ·exact hn (List.mem_cons_self ..)
  ·rcases hb k hm with h9 | h9
   ·exact hn (List.mem_cons_of_mem _ h9)
   ·omega
 ·rcases b4 k hk with h9 | h9
  ·exact a4 k h9
  ·by_cases hp:k∈p::j5 ps
   ·exact .inl (hX k hp)
   ·cases hq:h.get k with
    | none=>exact .inr rfl
    | some o=>rw[a3 k o hq hp] at h9; cases h9
 ·rcases hb2 k hk with h9 | h9
  ·exact hb k h9
  ·exact .inr (by omega)
theorem zP.mono {n2:Nat}{X':List Nat} (a:zP ro h nx X p ps d m h' n' X' ps') (hn:n'≤n2):zP ro h nx X p ps d m h' n2 X' ps':=by
 obtain⟨a1,a2,a3⟩:=a
 exact⟨by omega,a2.mono hn,a3⟩
end
end V
end Go.Proofs.YtcaccnneblghgaaGreat
namespace Go.Proofs.YtcaccnneblghgaaGreat
namespace V
attribute [local irreducible] aB ifP aR cT eQ exP cO
section
variable {ro:Ro}{hs h h':T Obj}{X:List Nat}{n0 p sb mb nx:Nat}{lv rv' uv nv:Value}{ps0 ps:List (Nat × Nat)}{C:List (Int × Int)}{rs:List RgD}{K:KV}
variable {cc:List Nat}{many cur:Int}{cv sv rv:Value}{steps:Nat}{to:Int}{ov nxv:Value}{ops:List Nat}{R:List Int}
end
section
variable {ro:Ro}{h:T Obj}{nx:Nat}{X:List Nat}{p:Nat}{ps:List (Nat × Nat)}{d:AutoD}{m:MacD}{K:KV}
theorem SW.lo {hs h h':T Obj}{X:List Nat}{n0 p nx n':Nat}{pc:List Value}{L L':List (Nat × List Value × TypeId)}{ps0 ps:List (Nat × Nat)}{C:List (Int × Int)}{rs:List RgD} (hi:SW hs X n0 p pc L ps0 C h nx rs ps) (hs':Sub h h') (hf:Fr h' n') (hn:nx≤n') (hL:Lo h' L'):SW hs X n0 p pc L' ps0 C h' n' rs ps:=by
 obtain⟨g1,g2,g3⟩:=hi.sub hs' hf hn
 exact⟨g1,hL,g3⟩
end
end V
end Go.Proofs.YtcaccnneblghgaaGreat
namespace Go.Proofs.YtcaccnneblghgaaGreat
namespace V
attribute [local irreducible] aB ifP aR cT eQ exP cO
theorem aOT {ro:Ro}{h:T Obj}{v:Value}{z:Nat}{l:List (List Value)} (hl:Sl ro h v z l):(v=.slice none 0 0∧l=[]∧slB .eql v (.slice none 0 0)=some (.bool true))∨slB .eql v (.slice none 0 0)=some (.bool false):=by
 rcases hl with ⟨rfl,rfl⟩ | ⟨a,cap,rfl,_⟩
 ·exact .inl ⟨rfl,rfl,rfl⟩
 ·exact .inr rfl
theorem rZ {ro:Ro}{h:T Obj}{v:Value}{z nx:Nat}{t e:TypeId}{i:TypeInfo}{zv:Value}{m:List (List Value)}{K:KV} (hx:Sl ro h v z m) (hlit:∀ id,bR Tryz.prog t id 0 []=some (.slice (some (own id z)) 0 0,some (.cells #[] e))) (hu:und Tryz.prog t=some (.slice e)) (hi':tin Tryz.prog e=some i) (hz:i.size=z) (hz0:0 < z) (hzer:zer Tryz.prog e=some zv) (hzs:zv.cells.size=z)
  (hok:m.flatten.all cU=true) (hb:m.length*i.bytes≤big) (hb2:m.length≤big) (hf:Fr h nx)
  (hK:∀ r h' n',nx≤n'→Fr h' n'→Sub h h'→cW h' r z e m nx→K r h' n') :
  aB (slB .eql v (.slice none 0 0)) fun t4=>aR t4 (∃ h2,Sub h2 h∧K (.slice none 0 0) h2 (nx+4)) (aB (bR Tryz.prog t (nx+3) 0 []) fun r3=>eQ h (nx+3) r3.2 fun h4=>aB (cC Tryz.prog ro h4 (nx+6) #[t,t] [r3.1,v]) fun r5=>∃ h6,Sub h6 r5.2.1∧K r5.1 h6 (r5.2.2+1)):=by
 rcases aOT hx with ⟨rfl,rfl,h1⟩ | h1
 ·refine aA h1 (aG ⟨h,Sub.refl _,hK _ _ _ (by omega) (hf.mono (by omega)) (Sub.refl _) cW.nil⟩)
 ·refine aA h1 (aF (aA (hlit _) (aE ?_)))
  have hs1:Sub h (h.upd (nx+3) (some (.cells #[] e))):=(Sub.refl h).new hf (by omega)
  have hf1:Fr (h.upd (nx+3) (some (.cells #[] e))) (nx+6):=(hf.mono (by omega)).upd (Nat.le_refl _) (by omega)
  have ho:cW (h.upd (nx+3) (some (.cells #[] e))) (.slice (some (own (nx+3) z)) 0 0) z e [] nx:=.inr ⟨nx+3,by omega,rfl,(fun x hx=>by cases hx),by rw[T.get_upd_same]; rfl⟩
  obtain⟨r,h',n',q1,q2,q3,q4,q5,q6⟩:=aDR (P:=Tryz.prog) (t:=t) (nx:=nx+6) ho (hx.sub hs1) hu hi' hz hz0 hzer hzs hok (by simpa using hb) (by simpa using hb2) (by omega) hf1
  refine aA q1 ⟨h',Sub.refl _,hK r h' (n'+1) (by omega) (q5.mono (by omega)) (fun k o hk=>q3 k o (hs1 k o hk) fun e=>?_) (by simpa using q2)⟩
  have hkk:nx+3=k:=Option.some.inj e
  have:=hf.lt' hk
  omega
theorem aM9 (id:Nat):bR Tryz.prog i4 id 0 []=some (.slice (some (own id 1)) 0 0,some (.cells #[] dR)):=by kernel_rfl
theorem aNs (id:Nat):bR Tryz.prog lZ id 0 []=some (.slice (some (own id 2)) 0 0,some (.cells #[] gL)):=by kernel_rfl
theorem aLC (id:Nat):bR Tryz.prog eL id 0 []=some (.slice (some (own id 2)) 0 0,some (.cells #[] cE)):=by kernel_rfl
theorem aKR (id:Nat):bR Tryz.prog a9 id 0 []=some (.slice (some (own id 1)) 0 0,some (.cells #[] bS)):=by kernel_rfl
theorem aO6:und Tryz.prog lZ=some (.slice gL):=by kernel_rfl
theorem aPj:∃ i,tin Tryz.prog gL=some i∧i.size=2∧i.bytes=16:=wW (by kernel_rfl)
theorem aO9:und Tryz.prog a9=some (.slice bS):=by kernel_rfl
theorem aO3:∃ i,tin Tryz.prog bS=some i∧i.size=1∧i.bytes=1:=wW (by kernel_rfl)
theorem aOh:zer Tryz.prog bS=some (.int .u8 0):=by kernel_rfl
section
variable {ro:Ro}{h:T Obj}{v:Value}{nx:Nat}{K:KV}
theorem tE {l:List Int} (hv:ZI ro h v l) (hl:l.length≤1000000) (hf:Fr h nx) (hK:∀ r h' n',nx≤n'→Fr h' n'→Sub h h'→cW h' r 1 dR (kK l) nx→K r h' n'):aN Tryz.prog ro fE [v] h nx K:=by
 apply vH
 unfold p9
 obtain⟨i,g1,g2,g3⟩:=aNP
 exact rZ hv aM9 aNX g1 (by omega) (by omega) aRB rfl (by simp[kK,cU]) (by rw[eP,g3]; unfold big; omega) (by rw[eP]; unfold big; omega) hf hK
theorem aJC {l:List Nat} (hv:SlR ro h v 1 RU8 l) (hl:l.length≤1000000) (hf:Fr h nx) (hK:∀ r h' n',nx≤n'→Fr h' n'→Sub h h'→cW h' r 1 bS (aGh l) nx→K r h' n'):aN Tryz.prog ro iR [v] h nx K:=by
 apply rK
 unfold m5
 obtain⟨i,g1,g2,g3⟩:=aO3
 obtain⟨cs,h1,h2,h3⟩:=hv
 have hcs:cs=aGh l:=by
  apply List.ext_getElem?
  intro k
  rcases Nat.lt_or_ge k l.length with hk | hk
  ·have e1:cs[k]?=some (cs[k]'(by omega)):=List.getElem?_eq_getElem _
   have e2:l[k]?=some l[k]:=List.getElem?_eq_getElem _
   have:=(h3 k _ _ e1 e2).1
   rw[e1,this]; simp[aGh,hk]
  ·rw[List.getElem?_eq_none (by omega),List.getElem?_eq_none (by rw[aBS]; omega)]
 subst hcs
 exact rZ h1 aKR aO9 g1 (by omega) (by omega) aOh rfl (by simp[aGh,cU]) (by rw[aBS,g3]; unfold big; omega) (by rw[aBS]; unfold big; omega) hf hK
theorem aJB {l:List (Int × Int)} (hv:SlR ro h v 2 vM l) (hl:l.length≤1000000) (hf:Fr h nx) (hK:∀ r h' n',nx≤n'→Fr h' n'→Sub h h'→cW h' r 2 gL (aEs l) nx→K r h' n'):aN Tryz.prog ro iQ [v] h nx K:=by
 apply rJ
 unfold mZ
 obtain⟨i,g1,g2,g3⟩:=aPj
 obtain⟨cs,h1,h2,h3⟩:=hv
 have hcs:cs=aEs l:=by
  apply List.ext_getElem?
  intro k
  rcases Nat.lt_or_ge k l.length with hk | hk
  ·have e1:cs[k]?=some (cs[k]'(by omega)):=List.getElem?_eq_getElem _
   have e2:l[k]?=some l[k]:=List.getElem?_eq_getElem _
   have:=h3 k _ _ e1 e2
   unfold vM at this
   rw[e1,this]; simp[aEs,hk]
  ·rw[List.getElem?_eq_none (by omega),List.getElem?_eq_none (by rw[aAt]; omega)]
 subst hcs
 have hok:(aEs l).flatten.all cU=true:=by
  rw[List.all_eq_true]
  intro x hx
  obtain⟨y,hy,hxy⟩:=List.mem_flatten.1 hx
  obtain⟨p,_,rfl⟩:=List.mem_map.1 hy
  simp at hxy
  rcases hxy with rfl | rfl<;>rfl
 exact rZ h1 aNs aO6 g1 (by omega) (by omega) aHE rfl hok (by rw[aAt,g3]; unfold big; omega) (by rw[aAt]; unfold big; omega) hf hK
theorem aGL {cs:List (List Value)} (hv:Sl ro h v 2 cs) (hok:cs.flatten.all cU=true) (hl:cs.length≤1000000) (hf:Fr h nx) (hK:∀ r h' n',nx≤n'→Fr h' n'→Sub h h'→cW h' r 2 cE cs nx→K r h' n'):aN Tryz.prog ro fZ [v] h nx K:=by
 apply nS
 unfold kF
 obtain⟨i,g1,g2,g3⟩:=aNO
 exact rZ hv aLC aLa g1 (by omega) (by omega) aEj rfl hok (by rw[g3]; unfold big; omega) (by unfold big; omega) hf hK
end
theorem aAX {ro:Ro}{h:T Obj}{v w:Value}{z n1 n2 lo:Nat}{t e:TypeId}{i:TypeInfo}{zv:Value}{l:List (List Value)}{y:List Value}{K:Value × Option Obj→T Obj→Value × T Obj × Nat→Prop} (hlit:bR Tryz.prog t n1 1 [(0,w)]=some (.slice (some (own n1 z)) 1 1,some (.cells y.toArray e))) (hy:y.length=z) (ho:cW h v z e l lo)
  (hu:und Tryz.prog t=some (.slice e)) (hi':tin Tryz.prog e=some i) (hz:i.size=z) (hz0:0 < z) (hzer:zer Tryz.prog e=some zv) (hzs:zv.cells.size=z) (hok:y.all cU=true) (hb:(l.length+1)*i.bytes≤big) (hb2:l.length+1≤big) (hf:Fr h n2) (hlo:lo≤n2) (hn:n1 < n2) (hne:iK v≠some n1)
  (hK:∀ h',cW h' (.slice (some (own n2 z)) (l++[y]).length (l++[y]).length) z e (l++[y]) lo→(∀ k o,h.get k=some o→k≠n1→iK v≠some k→h'.get k=some o)→Fr h' (n2+1)→K (.slice (some (own n1 z)) 1 1,some (.cells y.toArray e)) (h.upd n1 (some (.cells y.toArray e))) (.slice (some (own n2 z)) (l++[y]).length (l++[y]).length,h',n2+1)) :
  aB (bR Tryz.prog t n1 1 [(0,w)]) fun r=>eQ h n1 r.2 fun h'=>aB (cC Tryz.prog ro h' n2 #[t,t] [v,r.1]) (K r h'):=by
 refine aA hlit (aE ?_)
 have hkk:dM [n1] h (h.upd n1 (some (.cells y.toArray e))):=(Sub.refl h).keepL.upd (by simp)
 have ho1:cW (h.upd n1 (some (.cells y.toArray e))) v z e l lo:=ho.keepK hkk fun id hid hm=>hne (by rw[hid]; simp at hm; rw[hm])
 have hf1:Fr (h.upd n1 (some (.cells y.toArray e))) n2:=hf.upd (Nat.le_refl _) hn
 have hx1:Sl ro (h.upd n1 (some (.cells y.toArray e))) (.slice (some (own n1 z)) 1 1) z [y]:=Sl.own (l:=[y]) (e:=e) (f:=(0,0)) (by rw[T.get_upd_same]; simp) (by simpa using hy) (Nat.le_refl _)
 obtain⟨h',q1,q2,q3,q4,q5⟩:=aJu (P:=Tryz.prog) (t:=t) (nx:=n2) ho1 hx1 hu hi' hz hz0 hzer hzs (by simp) (by simpa using hok) hb hb2 hlo hf1
 exact aA q1 (hK h' q2 (fun k o hk h1 h2=>q3 k o (hkk k o hk (by simpa using h1)) h2) q4)
section
variable {RR:RgP}{tp ta:TypeId}{h h':T Obj}{ps:List (Nat × Nat)}{C:List (Int × Int)}{rs:List RgD}
theorem RsX.snoc (hr:RsX RR h ps C rs) {q:Nat × Nat}{c:Int × Int}{r:RgD} (hn:RR h q.1 q.2 c.2.toNat r.1 r.2):RsX RR h (ps++[q]) (C++[c]) (rs++[r]):=by
 obtain⟨r1,r2,r3⟩:=hr
 refine⟨by simp[r1],by simp[r2],fun i p c' r' h1 h2 h3=>?_⟩
 rcases Nat.lt_or_ge i ps.length with hi | hi
 ·rw[List.getElem?_append_left hi] at h1
  rw[List.getElem?_append_left (by omega)] at h2
  rw[List.getElem?_append_left (by omega)] at h3
  exact r3 i p c' r' h1 h2 h3
 ·rw[List.getElem?_append_right hi] at h1
  rw[List.getElem?_append_right (by omega)] at h2
  rw[List.getElem?_append_right (by omega)] at h3
  have hlt:=(List.getElem?_eq_some_iff.1 h1).1
  have hi0:i=ps.length:=by simp at hlt; omega
  subst hi0
  rw[Nat.sub_self] at h1
  rw[r1,Nat.sub_self] at h2
  rw[show ps.length - rs.length=0 by omega] at h3
  cases h1; cases h2; cases h3
  exact hn
theorem Dst.snoc (hd:Dst ps) {q:Nat × Nat} (hq:∀ p∈ps,p.1≠q.1∧p.2≠q.2):Dst (ps++[q]):=by
 intro i j p p2 h1 h2 hij
 rcases Nat.lt_or_ge i ps.length with hi | hi
 ·rw[List.getElem?_append_left hi] at h1
  rcases Nat.lt_or_ge j ps.length with hj | hj
  ·rw[List.getElem?_append_left hj] at h2
   exact hd i j p p2 h1 h2 hij
  ·rw[List.getElem?_append_right hj] at h2
   have:p2=q:=by have:=List.mem_of_getElem? h2; simpa using this
   subst this
   exact hq p (List.mem_of_getElem? h1)
 ·rw[List.getElem?_append_right hi] at h1
  have hp:p=q:=by have:=List.mem_of_getElem? h1; simpa using this
  subst hp
  rcases Nat.lt_or_ge j ps.length with hj | hj
  ·rw[List.getElem?_append_left hj] at h2
   have:=hq p2 (List.mem_of_getElem? h2)
   exact⟨Ne.symm this.1,Ne.symm this.2⟩
  ·rw[List.getElem?_append_right hj] at h2
   have h3:=(List.getElem?_eq_some_iff.1 h1).1
   have h4:=(List.getElem?_eq_some_iff.1 h2).1
   simp at h3 h4
   omega
theorem Dst.nil:Dst []:=fun i j p q h1=>by simp at h1
end
end V
end Go.Proofs.YtcaccnneblghgaaGreat
namespace Go.Proofs.YtcaccnneblghgaaGreat
namespace V
attribute [local irreducible] aB ifP aR cT eQ exP cO
def zK (x:List Value) (s:ByteArray):Prop:=x=[.string s]∧s.size≤kN
def uP (ro:Ro) (h:T Obj) (x:List Value) (e:EntD):Prop:=∃ ax rv,x=ax++[rv]∧qN ro h ax e.a∧Sl ro h rv 1 (kK e.rules)∧e.rules.length≤kN
theorem uP.sub {ro:Ro}{h h':T Obj} (hs:Sub h h'):∀ x e,uP ro h x e→uP ro h' x e:=fun x e ⟨ax,rv,h1,h2,h3,h4⟩=>⟨ax,rv,h1,h2.sub hs,h3.sub hs,h4⟩
def aCi (ro:Ro) (h:T Obj) (x:List Value) (T:TabD):Prop:=∃ cv kv tv ev,x=[cv,kv,tv,ev]∧SlR ro h cv 1 zK T.conds∧SlR ro h kv 1 zK T.kinds∧Sl ro h tv 1 (kK T.to)∧SlR ro h ev 260 (uP ro h) T.entries ∧
 T.conds.length≤kN∧T.kinds.length≤kN∧T.to.length≤kN∧T.entries.length≤kN
theorem aCi.sub {ro:Ro}{h h':T Obj}{x:List Value}{T:TabD} (hd:aCi ro h x T) (hs:Sub h h'):aCi ro h' x T:=by
 obtain⟨cv,kv,tv,ev,h1,h2,h3,h4,h5,h6⟩:=hd
 exact⟨cv,kv,tv,ev,h1,h2.sub hs fun _ _ h=>h,h3.sub hs fun _ _ h=>h,h4.sub hs,h5.sub hs (uP.sub hs),h6⟩
def aKr:List Value:=vO++[cX]
theorem aHD:zer Tryz.prog cN=some (.agg aKr.toArray):=by kernel_rfl
theorem aD9:aKr.length=260:=by simp[aKr,rW]
section
variable {ro:Ro}{h:T Obj}{x:List Value}{e:EntD}
theorem uP.len (hd:uP ro h x e):x.length=260:=by
 obtain⟨ax,rv,rfl,h2,h3,_⟩:=hd
 obtain⟨cv,sv,rfl,hc,_⟩:=h2
 simp[cS hc]
theorem uP.okL (hd:uP ro h x e):x.all cU=true:=by
 obtain⟨ax,rv,rfl,h2,h3,_⟩:=hd
 obtain⟨cv,sv,rfl,hc,_,h1,h4,_⟩:=h2
 have:=aDA (c:=e.a.c) (n:=e.a.many) (SlR.okC h1) (SlR.okC h4)
 rw[List.all_append,this]
 simp[h3.ok]
theorem uP.cells (hd:uP ro h x e):∃ cv sv rv,x=eA e.a.c e.a.many cv sv++[rv]∧x[258]?=some sv∧x[259]?=some rv∧(x.take 259)=eA e.a.c e.a.many cv sv∧qN ro h (eA e.a.c e.a.many cv sv) e.a∧SlR ro h sv 4 (eG ro h) e.a.states∧e.a.states.length≤kN∧Sl ro h rv 1 (kK e.rules)∧e.rules.length≤kN:=by
 obtain⟨ax,rv,rfl,h2,h3,h4⟩:=hd
 obtain⟨cv,sv,rfl,hc,hclt,h5,h6,h7,h8⟩:=id h2
 refine⟨cv,sv,rv,rfl,?_,?_,?_,h2,h6,h8,h3,h4⟩
 ·rw[List.getElem?_append_left (by rw[cS hc]; omega)]; exact iF hc
 ·rw[List.getElem?_append_right (by rw[cS hc]; omega),cS hc]; rfl
 ·rw[List.take_append_of_le_length (by rw[cS hc]; omega),List.take_of_length_le (by rw[cS hc]; omega)]
end
def aHg (T:TabD):Bool:=T.entries.all (fun e=>decide (e.a.states.length≤60))&&decide (T.entries.length≤8)
section
variable {ro:Ro}{h:T Obj}{nx:Nat}{K:KV}
set_option maxRecDepth 8000 in
theorem aHu {x:List Value}{T:TabD} (hf:Fr h nx) (hd:aCi ro h x T) (hK:∀ nx',nx≤nx'→K (.bool (aHg T)) h nx'):aN Tryz.prog ro xX [.agg x.toArray] h nx K:=by
 obtain⟨cv,kv,tv,ev,rfl,q1,q2,q3,q4,q5,q6,q7,q8⟩:=id hd
 have q8:T.entries.length≤9223372036854775807:=q8
 apply aG2
 unfold aFc
 refine eJ hf (Nat.le_refl _) fun h1 hs1 hf1 g1 _=>?_
 have g1:h1.get nx=some (.cells [cv,kv,tv,ev].toArray dI):=g1
 have m3:[cv,kv,tv,ev][3]?=some ev:=rfl
 have hev:=q4.sub hs1 (uP.sub hs1)
 have hlen:=hev.len
 (repeat(first|refine zzB ?_|apply aD|apply aE|with_reducible first|apply aG|apply aF|apply aK|apply aH|apply aJ|apply aI|apply aL|apply aC))
 refine aA (aZ g1 m3) (aA hlen ?_)
 generalize hB:T.entries.all (fun e=>decide (e.a.states.length≤60))=B
 refine bE (fun j e h' nx'=>∃ (k:Nat),k+j=T.entries.length∧nx+1≤nx'∧e 1=ptr nx∧e 2=.bool false∧e 6=ev∧e 7=.int .i64 T.entries.length∧e 8=.int .i64 k∧Sub h1 h'∧Fr h' nx'∧(T.entries.drop k).all (fun e=>decide (e.a.states.length≤60))=B) ?_ (n:=T.entries.length)
  ⟨0,by omega,by omega,rfl,rfl,rfl,rfl,rfl,Sub.refl _,hf1.mono (by omega),hB⟩
 rintro j e h' nx' ⟨k,hj,hnx,e1,e2,e6,e7,e8,hs',hf',hr⟩ Q' hq hx
 unfold aBL
 rw[e6,e7,e8]
 refine cV (fun hk=>?_) (fun hk=>?_)
 ·have hk:k < T.entries.length:=by omega
  rw[bX hk,List.all_cons] at hr
  have hev':=hev.sub hs' (uP.sub hs')
  have hix:=hev'.ix .i64 hk
  obtain⟨y,hy1,hy2,hy3,hy4,hy5⟩:=hev'.at hk
  generalize T.entries[k]=ee at hr hy1
  obtain⟨ecv,esv,erv,_,c258,c259,_,_,hsv,hsl,_,_⟩:=hy1.cells
  have hsl:ee.a.states.length≤9223372036854775807:=hsl
  have hsvl:=hsv.len
  (repeat(first|refine aA (by simp (disch:=first|omega|exact nnN _|assumption) only [BB,B2,↓reduceIte,Nat.reduceLeDiff,Nat.reduceAdd,CC,hix,hy3]<;>rfl) ?_|apply aD|apply aE|with_reducible first|apply aG|apply aF|apply aK|apply aH|apply aJ|apply aI|apply aL|apply aC))
  refine kA (x:=y) aHD (by show aKr.toArray.size=260; simp[aD9]) rfl hy1.len hy1.okL hf' (by omega) fun h2 hs2 hf2 g2 _=>?_
  (repeat(first|refine zzB ?_|apply aD|apply aE|with_reducible first|apply aG|apply aF|apply aK|apply aH|apply aJ|apply aI|apply aL|apply aC))
  refine aA (aZ g2 c258) (aA hsvl ?_)
  by_cases hb:ee.a.states.length≤60
  ·rw[decide_eq_true hb,Bool.true_and] at hr
   (repeat(first|refine zzB ?_|apply aD|apply aE|with_reducible first|apply aG|apply aF|apply aK|apply aH|apply aJ|apply aI|apply aL|apply aC))
   exact hq (j - 1) _ _ _ _ (by omega) ⟨k+1,by omega,by omega,e1,e2,e6,e7,rfl,hs'.trans hs2,hf2.mono (by omega),hr⟩ (Sub.refl _)
  ·rw[decide_eq_false hb,Bool.false_and] at hr
   (repeat(first|refine zzB ?_|apply aD|apply aE|with_reducible first|apply aG|apply aF|apply aK|apply aH|apply aJ|apply aI|apply aL|apply aC))
   refine hx _ _ _ _ (fun e=>by cases e) (eS ?_)
   refine⟨h,hs1.trans (hs'.trans hs2),?_⟩
   have:aHg T=false:=by unfold aHg; rw[hB,← hr]; rfl
   show K (.bool false) h _
   rw[← this]; exact hK _ (by omega)
 ·have hk:k=T.entries.length:=by omega
  have hr:B=true:=by rw[← hr,List.drop_of_length_le (by omega)]; rfl
  have g1':=hs' _ _ g1
  (repeat(first|refine zzB ?_|apply aD|apply aE|with_reducible first|apply aG|apply aF|apply aK|apply aH|apply aJ|apply aI|apply aL|apply aC))
  refine hx _ _ _ _ (fun e=>by cases e) (eD (cQ ?_))
  have hend:∀ (e':Env) n',nx≤n'→e' 1=ptr nx→rF ro K e' h' n':=by
   intro e' n' hn f1
   unfold rF
   rw[f1]
   (repeat(first|refine zzB ?_|apply aD|apply aE|with_reducible first|apply aG|apply aF|apply aK|apply aH|apply aJ|apply aI|apply aL|apply aC))
   refine aA (aZ g1' m3) (aA hlen ?_)
   by_cases h8:T.entries.length≤8
   ·(repeat(first|refine zzB ?_|apply aD|apply aE|with_reducible first|apply aG|apply aF|apply aK|apply aH|apply aJ|apply aI|apply aL|apply aC))
    refine⟨h,hs1.trans hs',?_⟩
    have:aHg T=true:=by unfold aHg; rw[hB,hr,decide_eq_true h8]; rfl
    rw[← this]; exact hK _ (by omega)
   ·(repeat(first|refine zzB ?_|apply aD|apply aE|with_reducible first|apply aG|apply aF|apply aK|apply aH|apply aJ|apply aI|apply aL|apply aC))
    refine⟨h,hs1.trans hs',?_⟩
    have:aHg T=false:=by unfold aHg; rw[hB,hr,decide_eq_false h8]; rfl
    rw[← this]; exact hK _ (by omega)
  exact hend _ _ (by omega) e1
end
end V
end Go.Proofs.YtcaccnneblghgaaGreat
set_option maxRecDepth 8000
namespace Go.Proofs.YtcaccnneblghgaaGreat
namespace V
open Go.ChangeShapes Go.WideShapes Go.ChangeAt Go.RowKit Go.Deep
set_option maxRecDepth 8000
section
variable {H:Type}{enc:TypeId × Value→H}{W:World}
def fieldsOf (P:Program) (t:TypeId):Option (List (Nat × TypeId)):=match und P t with
 | some (.struct fs)=>some (fs.toList.map fun f=>(f.offset,f.type))
 | _=>none
theorem nQ {t:TypeId}{L:List (Nat × TypeId)} (hL:fieldsOf Tryz.prog t=some L) {fuel:Nat}{cs:List Value}{x:DataW H × List MemPlace} (h:DataW.trod enc Tryz.prog W 0 (fun _=>true) true fuel t cs=some x) :
  cs.length=Tryz.prog.cellsOf t∧∃ n,∀ (i o:Nat) (ty:TypeId),L[i]?=some (o,ty)→∃ y,DataW.trod enc Tryz.prog W 0 (fun _=>true) true n ty ((cs.drop o).take (Tryz.prog.cellsOf ty))=some y:=by
 unfold fieldsOf at hL
 split at hL
 ·rename_i fs hu
  cases hL
  obtain⟨xs,n,_,_,hlen,hxs,hf⟩:=DataW.trod_struct (fO hu) h
  refine⟨hlen,n,fun i o ty hi=>?_⟩
  rw[List.getElem?_map] at hi
  cases hq:fs.toList[i]? with
  | none=>rw[hq] at hi; cases hi
  | some f =>
   rw[hq] at hi
   cases hi
   have hfs:fs[i]?=some f:=by simpa using hq
   have hil:=(List.getElem?_eq_some_iff.1 hq).1
   have hx:xs[i]?=some (xs[i]'(by rw[hxs]; simpa using hil)):=List.getElem?_eq_getElem _
   exact⟨_,by rw[hf i f hfs,hx]⟩
 ·cases hL
theorem aJV {t:TypeId}{L:List (Nat × TypeId)} (hL:fieldsOf Tryz.prog t=some L) {v:Value}{base:Nat} (hval:Value.okWide Tryz.prog W .any base t v):∃ cs,v=.agg cs:=by
 unfold fieldsOf at hL
 split at hL
 ·rename_i fs hu
  unfold Value.okWide at hval
  rw[fO hu] at hval
  obtain⟨cs,e,_⟩:=hval
  exact⟨cs,e⟩
 ·cases hL
theorem aBJ {n:Nat}{cs:List Value}{y:DataW H × List MemPlace} (h:DataW.trod enc Tryz.prog W 0 (fun _=>true) true n dR cs=some y):∃ a:Int,cs=[.int .i64 a]:=by
 have hu:Tryz.prog.underlying dR=some (.int .i64):=by kernel_rfl
 obtain⟨a,rfl,_⟩:=DataW.trod_int hu h
 exact⟨a,rfl⟩
theorem aK7 {n:Nat}{cs:List Value}{y:DataW H × List MemPlace} (h:DataW.trod enc Tryz.prog W 0 (fun _=>true) true n bS cs=some y):∃ a:Nat,cs=[.int .u8 (a:Int)]∧a < 256:=by
 have hu:Tryz.prog.underlying bS=some (.int .u8):=by kernel_rfl
 obtain⟨a,rfl,_,hw⟩:=DataW.trod_int hu h
 have:=aQS hw
 exact⟨a.toNat,by rw[Int.toNat_of_nonneg this.1],by omega⟩
theorem aIH {N:Nat}{v v':Value}{o:Option Addr}{l c:Nat} (hv:v=.slice o l c) (h:wA N v=some v'):bH v'=some (.int .i64 l):=by
 subst hv
 unfold wA at h
 split at h
 ·rename_i h1
  cases h
  cases h1
  rfl
 ·rename_i h1
  cases h1
  split at h
  ·cases h; rfl
  ·cases h
 ·rename_i h1; cases h1
 ·split at h
  ·cases h; rfl
  ·cases h
theorem oE {D:Type}{t e:TypeId}{z:Nat}{R:List Value→D→Prop} (ht:Tryz.prog.underlying t=some (.slice e)) (hz:Tryz.prog.cellsOf e=z) (hz0:0 < z) {fuel:Nat}{cs:List Value}{x:DataW H × List MemPlace} (h:DataW.trod enc Tryz.prog W 0 (fun _=>true) true fuel t cs=some x)
  (hel:∀ n cs' y,DataW.trod enc Tryz.prog W 0 (fun _=>true) true n e cs'=some y→∃ cs'',kD W.heap.size cs'=some cs''∧∃ d,R cs'' d):∃ v v' l,cs=[v]∧wA W.heap.size v=some v'∧SlR (nI W) .e v' z R l∧l.length≤kN:=by
 obtain⟨v,v',hv,hn,l,hl,hall⟩:=aOH ht hz hz0 h (El:=fun x=>∃ d,R x d) hel
 have hbound:l.length≤kN:=by
  have hlen:=hl.len
  rcases open_slice ht h with ⟨h1,_⟩ | ⟨a,len,cap,m,n,D,Pl,h1,_,hle,hm,_⟩
  ·rw[hv] at h1
   have h2:=aIH (List.cons.inj h1).1 hn
   rw[hlen] at h2
   simp only[Option.some.injEq,Value.int.injEq,true_and] at h2
   have:l.length=0:=by omega
   rw[this]; unfold kN; omega
  ·rw[hv] at h1
   have h2:=aIH (List.cons.inj h1).1 hn
   rw[hlen] at h2
   simp only[Option.some.injEq,Value.int.injEq,true_and] at h2
   unfold maxLen at hm
   unfold kN
   omega
 refine⟨v,v',?_⟩
 have e:∃ ds:List D,l.length=ds.length∧∀ (i:Nat) x d,l[i]?=some x→ds[i]?=some d→R x d:=by
  clear hl hbound
  induction l with
  | nil=>exact⟨[],rfl,fun i x d hx=>by simp at hx⟩
  | cons x l ih =>
   obtain⟨ds,h1,h2⟩:=ih fun y hy=>hall y (by simp[hy])
   obtain⟨d,hd⟩:=hall x (by simp)
   refine⟨d::ds,by simp[h1],fun i x' d' hx hd'=>?_⟩
   cases i with
   | zero=>simp at hx hd'; subst hx; subst hd'; exact hd
   | succ i=>exact h2 i x' d' (by simpa using hx) (by simpa using hd')
 obtain⟨ds,h1,h2⟩:=e
 exact⟨ds,hv,hn,⟨l,hl,h1,h2⟩,by rw[← h1]; exact hbound⟩
theorem sO {n:Nat}{cs:List Value}{y:DataW H × List MemPlace} (h:DataW.trod enc Tryz.prog W 0 (fun _=>true) true n i4 cs=some y):∃ v v' l,cs=[v]∧wA W.heap.size v=some v'∧ZI (nI W) .e v' l∧l.length≤kN:=by
 have hu:Tryz.prog.underlying i4=some (.slice dR):=by kernel_rfl
 have hc:Tryz.prog.cellsOf dR=1:=by kernel_rfl
 obtain⟨v,v',l,hv,hn,⟨cs,h1,h2,h3⟩,hb⟩:=oE (R:=fun x (a:Int)=>x=[Value.int .i64 a]) hu hc (by omega) h fun n cs' y hy=>by
  obtain⟨a,rfl⟩:=aBJ hy
  exact⟨_,rfl,a,rfl⟩
 refine⟨v,v',l,hv,hn,?_,hb⟩
 have e:cs=kK l:=by
  refine List.ext_getElem? fun i=>?_
  unfold kK
  rw[List.getElem?_map]
  cases hi:l[i]? with
  | none =>
   have:=List.getElem?_eq_none_iff.1 hi
   rw[List.getElem?_eq_none (by omega)]; rfl
  | some a =>
   have hil:=(List.getElem?_eq_some_iff.1 hi).1
   have hx:cs[i]?=some (cs[i]'(by omega)):=List.getElem?_eq_getElem (by omega)
   rw[hx,h3 i _ a hx hi]; rfl
 unfold ZI
 rw[← e]; exact h1
theorem aEB {W:World}{v v':Value} (hn:wA W.heap.size v=some v'):kD W.heap.size [v]=some [v']:=by
 simp only[kD,hn]; rfl
theorem aFk {n:Nat}{cs:List Value}{y:DataW H × List MemPlace} (h:DataW.trod enc Tryz.prog W 0 (fun _=>true) true n a9 cs=some y):∃ v v' l,cs=[v]∧wA W.heap.size v=some v'∧SlR (nI W) .e v' 1 RU8 l∧l.length≤kN:=by
 have hu:Tryz.prog.underlying a9=some (.slice bS):=by kernel_rfl
 have hc:Tryz.prog.cellsOf bS=1:=by kernel_rfl
 exact oE hu hc (by omega) h fun n cs' y hy=>by
  obtain⟨a,rfl,ha⟩:=aK7 hy
  exact⟨_,rfl,a,rfl,ha⟩
theorem aJT {n:Nat}{cs:List Value}{y:DataW H × List MemPlace} (h:DataW.trod enc Tryz.prog W 0 (fun _=>true) true n cE cs=some y):∃ cs'',kD W.heap.size cs=some cs''∧∃ d,xI (nI W) .e cs'' d:=by
 have hL:fieldsOf Tryz.prog cE=some [(0,dR),(1,a9)]:=by kernel_rfl
 have c0:Tryz.prog.cellsOf cE=2:=by kernel_rfl
 have c2:Tryz.prog.cellsOf dR=1:=by kernel_rfl
 have c4:Tryz.prog.cellsOf a9=1:=by kernel_rfl
 obtain⟨hlen,m,hf⟩:=nQ hL h
 obtain⟨_,f0⟩:=hf 0 _ _ rfl
 obtain⟨_,f1⟩:=hf 1 _ _ rfl
 rw[c0] at hlen
 rw[c2] at f0
 rw[c4] at f1
 obtain⟨p,g0⟩:=aBJ f0
 obtain⟨v,v',l,g1,hn,hz,hb⟩:=aFk f1
 match cs,hlen with
 | [a0,a1],_ =>
  simp at g0 g1
  subst g0 g1
  refine⟨[.int .i64 p,v'],?_,⟨p,l⟩,v',rfl,hz,hb⟩
  simp only[kD,hn]; rfl
theorem aLW {n:Nat}{cs:List Value}{y:DataW H × List MemPlace} (h:DataW.trod enc Tryz.prog W 0 (fun _=>true) true n eL cs=some y):∃ cs'',kD W.heap.size cs=some cs''∧∃ d,rT (nI W) .e cs'' d:=by
 have hu:Tryz.prog.underlying eL=some (.slice cE):=by kernel_rfl
 have hc:Tryz.prog.cellsOf cE=2:=by kernel_rfl
 obtain⟨v,v',l,rfl,hn,hl,hb⟩:=oE hu hc (by omega) h fun n cs' y hy=>aJT hy
 exact⟨[v'],aEB hn,l,v',rfl,hl,hb⟩
theorem aJd {n:Nat}{cs:List Value}{y:DataW H × List MemPlace} (h:DataW.trod enc Tryz.prog W 0 (fun _=>true) true n gE cs=some y):∃ v v' l,cs=[v]∧wA W.heap.size v=some v'∧SlR (nI W) .e v' 1 (rT (nI W) .e) l∧l.length≤kN:=by
 have hu:Tryz.prog.underlying gE=some (.slice eL):=by kernel_rfl
 have hc:Tryz.prog.cellsOf eL=1:=by kernel_rfl
 exact oE hu hc (by omega) h fun n cs' y hy=>aLW hy
theorem aIn {n:Nat}{cs:List Value}{y:DataW H × List MemPlace} (h:DataW.trod enc Tryz.prog W 0 (fun _=>true) true n bD cs=some y):∃ cs'',kD W.heap.size cs=some cs''∧∃ d,eG (nI W) .e cs'' d:=by
 have hL:fieldsOf Tryz.prog bD=some [(0,i4),(1,i4),(2,i4),(3,gE)]:=by kernel_rfl
 have c0:Tryz.prog.cellsOf bD=4:=by kernel_rfl
 have c2:Tryz.prog.cellsOf i4=1:=by kernel_rfl
 have c4:Tryz.prog.cellsOf gE=1:=by kernel_rfl
 obtain⟨hlen,m,hf⟩:=nQ hL h
 obtain⟨_,f0⟩:=hf 0 _ _ rfl
 obtain⟨_,f1⟩:=hf 1 _ _ rfl
 obtain⟨_,f2⟩:=hf 2 _ _ rfl
 obtain⟨_,f3⟩:=hf 3 _ _ rfl
 rw[c0] at hlen
 rw[c2] at f0 f1 f2
 rw[c4] at f3
 obtain⟨v0,w0,l0,g0,n0,z0,b0⟩:=sO f0
 obtain⟨v1,w1,l1,g1,n1,z1,b1⟩:=sO f1
 obtain⟨v2,w2,l2,g2,n2,z2,b2⟩:=sO f2
 obtain⟨v3,w3,l3,g3,n3,z3,b3⟩:=aJd f3
 match cs,hlen with
 | [a0,a1,a2,a3],_ =>
  simp at g0 g1 g2 g3
  subst g0 g1 g2 g3
  refine⟨[w0,w1,w2,w3],?_,⟨l0,l1,l2,l3⟩,w0,w1,w2,w3,rfl,z0,z1,z2,z3,b1⟩
  simp only[kD,n0,n1,n2,n3]; rfl
theorem aH2 {n:Nat}{cs:List Value}{y:DataW H × List MemPlace} (h:DataW.trod enc Tryz.prog W 0 (fun _=>true) true n gL cs=some y):∃ cs'',kD W.heap.size cs=some cs''∧∃ d,vM cs'' d:=by
 have hu:Tryz.prog.underlying gL=some (.array 2 dR):=by kernel_rfl
 have hc:Tryz.prog.cellsOf gL=2:=by kernel_rfl
 have hc1:Tryz.prog.cellsOf dR=1:=by kernel_rfl
 obtain⟨xs,m,_,_,hlen,hxs,hel⟩:=DataW.trod_array hu h
 rw[hc] at hlen
 have el:∀ i,i < 2→∃ a:Int,(cs.drop i).take 1=[.int .i64 a]:=by
  intro i hi
  have:=hel i hi
  rw[hc1,Nat.mul_one] at this
  have hx:xs[i]?=some xs[i]:=List.getElem?_eq_getElem (by omega)
  rw[hx] at this
  exact aBJ this
 match cs,hlen with
 | [a0,a1],_ =>
  obtain⟨x0,g0⟩:=el 0 (by omega)
  obtain⟨x1,g1⟩:=el 1 (by omega)
  simp at g0 g1
  subst g0 g1
  exact⟨_,rfl,(x0,x1),rfl⟩
theorem aIm {n:Nat}{cs:List Value}{y:DataW H × List MemPlace} (h:DataW.trod enc Tryz.prog W 0 (fun _=>true) true n dN cs=some y):∃ (c:List Nat) (k:Int),c.length=256∧(∀ x∈c,x < 256)∧cs=fG c k:=by
 have hL:fieldsOf Tryz.prog dN=some [(0,wK),(256,dR)]:=by kernel_rfl
 have c0:Tryz.prog.cellsOf dN=257:=by kernel_rfl
 have c2:Tryz.prog.cellsOf wK=256:=by kernel_rfl
 have c4:Tryz.prog.cellsOf dR=1:=by kernel_rfl
 have hc8:Tryz.prog.cellsOf bS=1:=by kernel_rfl
 have hua:Tryz.prog.underlying wK=some (.array 256 bS):=by kernel_rfl
 obtain⟨hlen,m,hf⟩:=nQ hL h
 obtain⟨_,f0⟩:=hf 0 _ _ rfl
 obtain⟨_,f1⟩:=hf 1 _ _ rfl
 rw[c0] at hlen
 rw[c2,List.drop_zero] at f0
 rw[c4] at f1
 obtain⟨k,hk⟩:=aBJ f1
 obtain⟨xs,m,_,_,hl0,hxs,hel⟩:=DataW.trod_array hua f0
 have el:∀ i,i < 256→∃ a:Nat,cs[i]?=some (.int .u8 (a:Int))∧a < 256:=by
  intro i hi
  have h1:=hel i hi
  rw[hc8,Nat.mul_one,List.drop_take,List.take_take] at h1
  have hx:xs[i]?=some xs[i]:=List.getElem?_eq_getElem (by omega)
  rw[hx,show min 1 (256 - i)=1 by omega] at h1
  obtain⟨a,h2,h3⟩:=aK7 h1
  refine⟨a,?_,h3⟩
  have h4:((cs.drop i).take 1)[0]?=some (.int .u8 (a:Int)):=by rw[h2]; rfl
  rw[List.getElem?_take] at h4
  simpa using h4
 have key:∀ i,i≤256→∃ c:List Nat,c.length=i∧(∀ x∈c,x < 256)∧cs.take i=u8s c:=by
  intro i
  induction i with
  | zero=>intro _; exact⟨[],rfl,by simp,by simp[u8s]⟩
  | succ i ih =>
   intro hi
   obtain⟨c,c1,c2,c3⟩:=ih (by omega)
   obtain⟨a,h1,h2⟩:=el i (by omega)
   refine⟨c++[a],by simp[c1],?_,?_⟩
   ·intro x hx
    rcases List.mem_append.1 hx with h | h
    ·exact c2 x h
    ·simp at h; omega
   ·have hil:i < cs.length:=by omega
    rw[List.getElem?_eq_getElem hil] at h1
    rw[List.take_succ_eq_append_getElem hil,Option.some.inj h1,c3]
    simp[u8s]
 obtain⟨c,c1,c2,c3⟩:=key 256 (Nat.le_refl _)
 refine⟨c,k,c1,c2,?_⟩
 unfold fG
 rw[← List.take_append_drop 256 cs,c3]
 congr 1
 rw[← hk,List.take_of_length_le (by rw[List.length_drop]; omega)]
theorem aCZ {N:Nat} (k:Int) {v w v' w':Value} (h1:wA N v=some v') (h2:wA N w=some w'):∀ c:List Nat,kD N (eA c k v w)=some (eA c k v' w')
 | []=>by
  show kD N [.int .i64 k,v,w]=some [.int .i64 k,v',w']
  simp only[kD,h1,h2]; rfl
 | a::c=>by
  have e:∀ x y,eA (a::c) k x y=.int .u8 (a:Int)::eA c k x y:=fun _ _=>rfl
  rw[e,e]
  simp only[kD,aCZ k h1 h2 c]; rfl
theorem aIv {n:Nat}{cs:List Value}{y:DataW H × List MemPlace} (h:DataW.trod enc Tryz.prog W 0 (fun _=>true) true n bK cs=some y):∃ cs'',kD W.heap.size cs=some cs''∧∃ d,qN (nI W) .e cs'' d:=by
 have hL:fieldsOf Tryz.prog bK=some [(0,dN),(257,lZ),(258,iI)]:=by kernel_rfl
 have c0:Tryz.prog.cellsOf bK=259:=by kernel_rfl
 have c2:Tryz.prog.cellsOf dN=257:=by kernel_rfl
 have c4:Tryz.prog.cellsOf lZ=1:=by kernel_rfl
 have c5:Tryz.prog.cellsOf iI=1:=by kernel_rfl
 have hu1:Tryz.prog.underlying lZ=some (.slice gL):=by kernel_rfl
 have hu2:Tryz.prog.underlying iI=some (.slice bD):=by kernel_rfl
 have hc1:Tryz.prog.cellsOf gL=2:=by kernel_rfl
 have hc2:Tryz.prog.cellsOf bD=4:=by kernel_rfl
 obtain⟨hlen,m,hf⟩:=nQ hL h
 obtain⟨_,f0⟩:=hf 0 _ _ rfl
 obtain⟨_,f1⟩:=hf 1 _ _ rfl
 obtain⟨_,f2⟩:=hf 2 _ _ rfl
 rw[c0] at hlen
 rw[c2,List.drop_zero] at f0
 rw[c4] at f1
 rw[c5] at f2
 obtain⟨c,k,hc,hcl,g0⟩:=aIm f0
 obtain⟨v,v',C,g1,n1,z1,b1⟩:=oE hu1 hc1 (by omega) f1 fun n cs' y hy=>aH2 hy
 obtain⟨w,w',S,g2,n2,z2,b2⟩:=oE hu2 hc2 (by omega) f2 fun n cs' y hy=>aIn hy
 have hcs:cs=eA c k v w:=by
  unfold eA
  rw[← List.take_append_drop 257 cs,g0]
  congr 1
  have h1:cs.drop 257=(cs.drop 257).take 1++(cs.drop 257).drop 1:=(List.take_append_drop 1 _).symm
  rw[h1,g1,List.drop_drop,← List.take_of_length_le (i:=1) (l:=cs.drop (257+1)) (by rw[List.length_drop]; omega)]
  show [v]++(cs.drop 258).take 1=_
  rw[g2]; rfl
 refine⟨eA c k v' w',?_,⟨c,k,C,S⟩,v',w',rfl,hc,hcl,z1,z2,b1,b2⟩
 rw[hcs]
 exact aCZ k n1 n2 c
theorem aNL {n:Nat}{cs:List Value}{y:DataW H × List MemPlace} (h:DataW.trod enc Tryz.prog W 0 (fun _=>true) true n oU cs=some y):∃ a:ByteArray,zK cs a:=by
 have hu:Tryz.prog.underlying oU=some .string:=by kernel_rfl
 obtain⟨a,rfl,_,hb⟩:=DataW.trod_string hu h
 exact⟨a,rfl,by unfold maxLen at hb; unfold kN; omega⟩
theorem aE9 {n:Nat}{cs:List Value}{y:DataW H × List MemPlace} (h:DataW.trod enc Tryz.prog W 0 (fun _=>true) true n jQ cs=some y):∃ v v' l,cs=[v]∧wA W.heap.size v=some v'∧SlR (nI W) .e v' 1 zK l∧l.length≤kN:=by
 have hu:Tryz.prog.underlying jQ=some (.slice oU):=by kernel_rfl
 have hc:Tryz.prog.cellsOf oU=1:=by kernel_rfl
 exact oE hu hc (by omega) h fun n cs' y hy=>by
  obtain⟨a,ha⟩:=aNL hy
  exact⟨cs',by rw[ha.1]; rfl,a,ha⟩
theorem aFg {N:Nat}:∀ {l l' m m':List Value},kD N l=some l'→kD N m=some m'→kD N (l++m)=some (l'++m')
 | [],l',m,m',h1,h2=>by cases h1; exact h2
 | x::l,l',m,m',h1,h2=>by
  simp only[kD] at h1
  obtain⟨x',e1,h1⟩:=aM h1
  obtain⟨r',e2,h1⟩:=aM h1
  cases h1
  simp only[List.cons_append,kD,e1,aFg e2 h2]; rfl
theorem aKs {n:Nat}{cs:List Value}{y:DataW H × List MemPlace} (h:DataW.trod enc Tryz.prog W 0 (fun _=>true) true n cN cs=some y):∃ cs'',kD W.heap.size cs=some cs''∧∃ d,uP (nI W) .e cs'' d:=by
 have hL:fieldsOf Tryz.prog cN=some [(0,bK),(259,i4)]:=by kernel_rfl
 have c0:Tryz.prog.cellsOf cN=260:=by kernel_rfl
 have c2:Tryz.prog.cellsOf bK=259:=by kernel_rfl
 have c4:Tryz.prog.cellsOf i4=1:=by kernel_rfl
 obtain⟨hlen,m,hf⟩:=nQ hL h
 obtain⟨_,f0⟩:=hf 0 _ _ rfl
 obtain⟨_,f1⟩:=hf 1 _ _ rfl
 rw[c0] at hlen
 rw[c2,List.drop_zero] at f0
 rw[c4] at f1
 obtain⟨cs'',n0,d,hd⟩:=aIv f0
 obtain⟨v,v',l,g1,n1,z1,b1⟩:=sO f1
 have hcs:cs=cs.take 259++[v]:=by
  have h1:cs=cs.take 259++cs.drop 259:=(List.take_append_drop 259 _).symm
  rw[List.take_of_length_le (by rw[List.length_drop]; omega)] at g1
  rw[← g1]; exact h1
 refine⟨cs''++[v'],?_,⟨d,l⟩,cs'',v',rfl,hd,z1,b1⟩
 rw[hcs]
 exact aFg n0 (aEB n1)
theorem aMt {v:Value}{d:DataW H}{p:List MemPlace} (h:DataW.Trod enc Tryz.prog W 0 (fun _=>true) true dI v d p) {base:Nat} (hval:Value.okWide Tryz.prog W .any base dI v):∃ x T,Arg W.heap.size (.agg x.toArray) v∧aCi (nI W) .e x T:=by
 have hL:fieldsOf Tryz.prog dI=some [(0,jQ),(1,jQ),(2,i4),(3,iH)]:=by kernel_rfl
 have c0:Tryz.prog.cellsOf dI=4:=by kernel_rfl
 have c1:Tryz.prog.cellsOf jQ=1:=by kernel_rfl
 have c2:Tryz.prog.cellsOf i4=1:=by kernel_rfl
 have c3:Tryz.prog.cellsOf iH=1:=by kernel_rfl
 have hu:Tryz.prog.underlying iH=some (.slice cN):=by kernel_rfl
 have hc:Tryz.prog.cellsOf cN=260:=by kernel_rfl
 obtain⟨cs,rfl⟩:=aJV hL hval
 obtain⟨fuel,hf⟩:=h
 have ecs:(Value.agg cs).cells.toList=cs.toList:=rfl
 rw[ecs] at hf
 obtain⟨hlen,m,hf⟩:=nQ hL hf
 obtain⟨_,f0⟩:=hf 0 _ _ rfl
 obtain⟨_,f1⟩:=hf 1 _ _ rfl
 obtain⟨_,f2⟩:=hf 2 _ _ rfl
 obtain⟨_,f3⟩:=hf 3 _ _ rfl
 rw[c0] at hlen
 rw[c1] at f0 f1
 rw[c2] at f2
 rw[c3] at f3
 obtain⟨v0,w0,l0,g0,n0,z0,b0⟩:=aE9 f0
 obtain⟨v1,w1,l1,g1,n1,z1,b1⟩:=aE9 f1
 obtain⟨v2,w2,l2,g2,n2,z2,b2⟩:=sO f2
 obtain⟨v3,w3,l3,g3,n3,z3,b3⟩:=oE hu hc (by omega) f3 fun n cs' y hy=>aKs hy
 refine⟨[w0,w1,w2,w3],⟨l0,l1,l2,l3⟩,.agg ?_,w0,w1,w2,w3,rfl,z0,z1,z2,z3,b0,b1,b2,b3⟩
 generalize cs.toList=cl at *
 match cl,hlen with
 | [a0,a1,a2,a3],_ =>
  simp at g0 g1 g2 g3
  subst g0 g1 g2 g3
  simp only[kD,n0,n1,n2,n3]; rfl
def aHI (ro:Ro) (h:V.T Obj) (x:List Value) (l:List Nat):Prop:=∃ w,x=[w]∧SlR ro h w 1 RU8 l∧l.length≤kN
theorem aEE {v:Value}{d:DataW H}{p:List MemPlace} (h:DataW.Trod enc Tryz.prog W 0 (fun _=>true) true fN v d p) {base:Nat} (hval:Value.okWide Tryz.prog W .any base fN v):∃ v' l,Arg W.heap.size v' v∧SlR (nI W) .e v' 1 (aHI (nI W) .e) l∧l.length≤kN:=by
 have hu:Tryz.prog.underlying fN=some (.slice a9):=by kernel_rfl
 have hc:Tryz.prog.cellsOf a9=1:=by kernel_rfl
 obtain⟨fuel,hf⟩:=h
 obtain⟨v1,v',l,hv,hn,hl,hb⟩:=oE hu hc (by omega) hf (R:=aHI (nI W) .e) fun n cs' y hy=>by
  obtain⟨v9,v9',l9,rfl,hn9,hl9,hb9⟩:=aFk hy
  exact⟨_,aEB hn9,l9,v9',rfl,hl9,hb9⟩
 have hvv:v.cells.toList=[v1]:=hv
 have hv1:v=v1:=by
  obtain⟨a,len,cap,rfl⟩:=okWide_slice hu hval
  simpa [Value.cells] using hvv
 subst hv1
 exact⟨v',l,.one hn,hl,hb⟩
end
end V
end Go.Proofs.YtcaccnneblghgaaGreat
namespace Go.Proofs.YtcaccnneblghgaaGreat
namespace V
attribute [local irreducible] aB ifP aR cT eQ exP cO
theorem aBD:∀ {mcs:List (List Value)}{k:Nat}{a b r:Value},(∀ x∈mcs,x.length=2)→mcs[k]?=some [a,b]→mcs.flatten.set (k*2+1) r=(mcs.set k [a,r]).flatten
 | [],k,a,b,r,_,h=>by simp at h
 | y::l,0,a,b,r,hz,h=>by
  simp at h; subst h; rfl
 | y::l,k+1,a,b,r,hz,h=>by
  have hy:=hz y (by simp)
  have ih:=aBD (mcs:=l) (k:=k) (a:=a) (b:=b) (r:=r) (fun x hx=>hz x (by simp[hx])) (by simpa using h)
  rw[List.set_cons_succ,List.flatten_cons,List.flatten_cons,List.set_append_right _ _ (by omega),hy,show (k+1)*2+1 - 2=k*2+1 by omega,ih]
theorem aQO {ro:Ro}{h:T Obj}{v:Value}{l:List Nat} (hs:Sl ro h v 1 (aGh l)) (hl:∀ x∈l,x < 256):SlR ro h v 1 RU8 l:=⟨aGh l,hs,aBS l,fun i x d hx hd=>by
 simp only[aGh,List.getElem?_map] at hx
 rw[hd] at hx
 cases hx
 exact⟨rfl,hl d (List.mem_of_getElem? hd)⟩⟩
theorem RU8.lt {ro:Ro}{h:T Obj}{v:Value}{l:List Nat} (hs:SlR ro h v 1 RU8 l):∀ x∈l,x < 256:=fun x hx=>by
 obtain⟨cs,h1,h2,h3⟩:=hs
 obtain⟨i,hi⟩:=List.getElem?_of_mem hx
 have hlt:=(List.getElem?_eq_some_iff.1 hi).1
 exact (h3 i _ _ (List.getElem?_eq_getElem (by omega)) hi).2
theorem aJI (mid n c k j:Nat):o7 2 (.slice (some (own mid 2)) n c) k j=at_ mid (k*2+j) 0:=by simp[o7,elt,own]
def i7 (v:Value):List Nat:=(iK v).toList
theorem eV {v:Value}{k:Nat}:k∈i7 v ↔ iK v=some k:=by unfold i7; cases iK v<;>simp[eq_comm]
section
variable {ro:Ro}{h:T Obj}{nx nA:Nat}{X:List Nat}{Q:KE}{e:Env}
set_option maxRecDepth 8000 in
theorem aPz {mid:Nat}{row:List MoveD}{mcs0:List (List Value)}{w2 w3 w6 w19 w20 w21 w33 w34 w35:Value} (e2:e 2=w2) (e3:e 3=w3) (e6:e 6=w6) (e19:e 19=w19) (e20:e 20=w20) (e21:e 21=w21) (e33:e 33=w33) (e34:e 34=w34) (e35:e 35=w35)
  (e9:e 9=.slice (some (own mid 2)) row.length row.length) (e41:e 41=.slice (some (own mid 2)) row.length row.length) (e42:e 42=.int .i64 row.length) (e43:e 43=.int .i64 0)
  (hg:h.get mid=some (.cells mcs0.flatten.toArray cE)) (hl:mcs0.length=row.length) (h2:∀ x∈mcs0,x.length=2) (hlen:row.length≤1000000)
  (hsrc:∀ (i:Nat) x m,mcs0[i]?=some x→row[i]?=some m→∃ ov,x=[.int .i64 m.to,ov]∧SlR ro (del h [mid]) ov 1 RU8 m.ops∧m.ops.length≤1000000) (hf:Fr h nx) (hX:∀ k∈X,k < nA) (hmid:nA≤mid) (hnA:nA≤nx)
  (hQ:∀ (e':Env) h' n',e' 2=w2→e' 3=w3→e' 6=w6→e' 9=.slice (some (own mid 2)) row.length row.length→e' 19=w19→e' 20=w20→e' 21=w21→e' 33=w33→e' 34=w34→e' 35=w35→nx≤n'→Fr h' n'→dM [mid] h h' →
   SlR ro (del h' X) (.slice (some (own mid 2)) row.length row.length) 2 (xI ro (del h' X)) row→Q (.exit 4) e' h' n'):dT (sJ ro) e h nx Q:=by
 have hlt:=hf.lt' hg
 refine bE (fun j e h' nx'=>∃ (k:Nat) (mcs:List (List Value)),k+j=row.length∧nx≤nx'∧e 2=w2∧e 3=w3∧e 6=w6∧e 19=w19∧e 20=w20∧e 21=w21∧e 33=w33∧e 34=w34∧e 35=w35∧e 9=.slice (some (own mid 2)) row.length row.length∧e 41=.slice (some (own mid 2)) row.length row.length∧e 42=.int .i64 row.length∧e 43=.int .i64 k ∧
  h'.get mid=some (.cells mcs.flatten.toArray cE)∧mcs.length=row.length∧(∀ x∈mcs,x.length=2)∧(∀ i,k≤i→mcs[i]?=mcs0[i]?)∧(∀ (i:Nat) x m,i < k→mcs[i]?=some x→row[i]?=some m→∃ ov,x=[.int .i64 m.to,ov]∧SlR ro (del h' (mid::X)) ov 1 RU8 m.ops∧m.ops.length≤1000000)∧dM [mid] h h'∧Fr h' nx') ?_ (n:=row.length)
  ⟨0,mcs0,by omega,by omega,e2,e3,e6,e19,e20,e21,e33,e34,e35,e9,e41,e42,e43,hg,hl,h2,fun _ _=>rfl,fun i x m hi=>by omega,(Sub.refl h).keepL,hf⟩
 rintro j e h' nx' ⟨k,mcs,hj,hnx,e2,e3,e6,e19,e20,e21,e33,e34,e35,e9,e41,e42,e43,hg',hl',h2',hun,hpr,hk',hf'⟩ Q' hq hx
 have hsl:Sl ro h' (.slice (some (own mid 2)) row.length row.length) 2 mcs:=by rw[← hl']; exact Sl.own hg' h2' (Nat.le_refl _)
 unfold sJ
 rw[e9,e41,e42,e43]
 refine cV (fun hk=>?_) (fun hk=>?_)
 ·have hk:k < row.length:=by omega
  have hmk:mcs[k]?=some (mcs[k]'(by omega)):=List.getElem?_eq_getElem _
  have hmk0:=hun k (Nat.le_refl _)
  rw[hmk] at hmk0
  have hrk:row[k]?=some row[k]:=List.getElem?_eq_getElem _
  obtain⟨ov,hx0,hov,hol⟩:=hsrc k _ _ hmk0.symm hrk
  rw[hx0] at hmk
  have hix:=hsl.ix .i64 (i:=k) (by omega)
  have hld:=hsl.loadA hmk
  have hfw:=hsl.fwd (i:=k) (by omega) 1
  rw[aJI] at hfw
  generalize row[k]=m at hx0 hov hol hmk hrk hld
  (repeat(first|refine zzB ?_|apply aD|apply aE|with_reducible first|apply aG|apply aF|apply aK|apply aH|apply aJ|apply aI|apply aL|apply aC))
  refine aA hix (aA hld ?_)
  refine kA (x:=[.int .i64 m.to,ov]) aEj rfl rfl rfl (by simp[show cU ov=true from SlR.okC hov,show cU (Value.int .i64 m.to)=true from rfl]) hf' (by omega) fun h3 hs3 hf3 g3 _=>?_
  (repeat(first|refine zzB ?_|apply aD|apply aE|with_reducible first|apply aG|apply aF|apply aK|apply aH|apply aJ|apply aI|apply aL|apply aC))
  refine aA (aZ (l:=[.int .i64 m.to,ov]) g3 rfl) ?_
  have hD3:Sub (del h [mid]) h3:=(hk'.delS (fun k h=>h)).trans hs3
  refine aJC (hov.sub hD3 fun _ _ h=>h) hol (hf3.mono (by omega)) fun r h4 n4 hn4 hf4 hs4 ho4=>?_
  have g4:=hs4 _ _ (hs3 _ _ hg')
  refine aA hix (aA hfw ?_)
  have hfl:mcs.flatten.length=row.length*2:=by rw[(mA h2').1,hl']
  refine aA (dJ (l:=mcs.flatten) g4 (by omega) ho4.ok (by rcases ho4 with ⟨rfl,_⟩ | ⟨id,_,rfl,_⟩<;>rfl)) ?_
  rw[aBD h2' hmk]
  have hk5:dM [mid] h' (h4.upd mid (some (.cells (mcs.set k [.int .i64 m.to,r]).flatten.toArray cE))):=((hs3.trans hs4).keepL).upd (by simp)
  have hk45:dM [mid] h4 (h4.upd mid (some (.cells (mcs.set k [.int .i64 m.to,r]).flatten.toArray cE))):=(Sub.refl h4).keepL.upd (by simp)
  have hf5:Fr (h4.upd mid (some (.cells (mcs.set k [.int .i64 m.to,r]).flatten.toArray cE))) n4:=hf4.upd (Nat.le_refl _) (by omega)
  have g5:(h4.upd mid (some (.cells (mcs.set k [.int .i64 m.to,r]).flatten.toArray cE))).get mid=some (.cells (mcs.set k [.int .i64 m.to,r]).flatten.toArray cE):=T.get_upd_same _ _ _
  generalize (h4.upd mid (some (.cells (mcs.set k [.int .i64 m.to,r]).flatten.toArray cE)))=h5 at hk5 hk45 hf5 g5
  have ho5:=(ho4.keepK hk45 fun id hid hm=>by have:=(ho4.blk hid).1; simp at hm; omega).del (ids:=mid::X) fun id hid hm=>by
   have:=(ho4.blk hid).1
   rcases List.mem_cons.1 hm with h9 | h9
   ·omega
   ·have:=hX id h9; omega
  have hR5:=aQO (ro:=ro) ho5.sl (RU8.lt hov)
  (repeat(first|refine zzB ?_|apply aD|apply aE|with_reducible first|apply aG|apply aF|apply aK|apply aH|apply aJ|apply aI|apply aL|apply aC))
  refine hq (j - 1) _ _ _ _ (by omega) ⟨k+1,mcs.set k [.int .i64 m.to,r],by omega,by omega,e2,e3,e6,e19,e20,e21,e33,e34,e35,e9,e41,e42,rfl,g5,by rw[List.length_set]; exact hl',fun x hx=>?_,fun i hi=>?_,fun i x m' hi hxi hmi=>?_,hk'.trans hk5,hf5.mono (by omega)⟩ (Sub.refl _)
  ·rcases List.mem_or_eq_of_mem_set hx with h9 | h9
   ·exact h2' x h9
   ·subst h9; rfl
  ·rw[List.getElem?_set_ne (by omega)]; exact hun i (by omega)
  ·by_cases hik:k=i
   ·subst hik
    rw[List.getElem?_set_self (by omega)] at hxi
    cases hxi
    rw[hrk] at hmi
    cases hmi
    exact⟨r,rfl,hR5,hol⟩
   ·rw[List.getElem?_set_ne hik] at hxi
    obtain⟨ov',q1,q2,q3⟩:=hpr i x m' (by omega) hxi hmi
    exact⟨ov',q1,q2.sub (hk5.del (l:=mid::X) (l':=mid::X) (fun k hk=>by simp at hk; subst hk; exact List.mem_cons_self ..) fun k hk=>.inl hk) fun _ _ h=>h,q3⟩
 ·(repeat(first|refine zzB ?_|apply aD|apply aE|with_reducible first|apply aG|apply aF|apply aK|apply aH|apply aJ|apply aI|apply aL|apply aC))
  refine hx _ _ _ _ (fun e=>by cases e) ?_
  have hmX:mid ∉ X:=fun hm=>by have:=hX mid hm; omega
  refine hQ _ _ _ e2 e3 e6 e9 e19 e20 e21 e33 e34 e35 (by omega) (hf'.mono (by omega)) hk' ⟨mcs,?_,hl',fun i x m hx hm=>?_⟩
  ·have:(del h' X).get mid=some (.cells mcs.flatten.toArray cE):=j7 hg' hmX
   rw[← hl']
   exact Sl.own this h2' (Nat.le_refl _)
  ·have hi:=(List.getElem?_eq_some_iff.1 hx).1
   obtain⟨ov',q1,q2,q3⟩:=hpr i x m (by omega) hx hm
   exact⟨ov',q1,q2.sub (sB fun k hk=>List.mem_cons_of_mem _ hk) fun _ _ h=>h,by unfold kN; omega⟩
end
end V
end Go.Proofs.YtcaccnneblghgaaGreat
namespace Go.Proofs.YtcaccnneblghgaaGreat
namespace V
attribute [local irreducible] aB ifP aR cT eQ exP cO
theorem aO8:und Tryz.prog gE=some (.slice eL):=by kernel_rfl
theorem aPm:∃ i,tin Tryz.prog eL=some i∧i.size=1∧i.bytes=24:=wW (by kernel_rfl)
theorem aPt:zer Tryz.prog eL=some (.slice none 0 0):=by kernel_rfl
theorem aPV (aid:Nat) (a:Option Addr) (n c:Nat):bR Tryz.prog gE aid 1 [(0,.slice a n c)]=some (.slice (some (own aid 1)) 1 1,some (.cells [Value.slice a n c].toArray eL)):=by kernel_rfl
def wsC (ws:List Value):List (List Value):=ws.map fun w=>[w]
theorem aHC (ws:List Value):(wsC ws).length=ws.length:=by simp[wsC]
theorem aPd {ro:Ro}{h:T Obj}{w:Value}{row:List MoveD} (hr:SlR ro h w 2 (xI ro h) row):∃ cs,Sl ro h w 2 cs∧cs.length=row.length∧cs.flatten.all cU=true∧(∀ x∈cs,x.length=2)∧∀ (i:Nat) x m,cs[i]?=some x→row[i]?=some m→xI ro h x m:=by
 obtain⟨cs,h1,h2,h3⟩:=hr
 refine⟨cs,h1,h2,?_,?_,h3⟩
 ·rw[List.all_eq_true]
  intro x hx
  obtain⟨y,hy,hxy⟩:=List.mem_flatten.1 hx
  obtain⟨i,hi⟩:=List.getElem?_of_mem hy
  have hlt:=(List.getElem?_eq_some_iff.1 hi).1
  obtain⟨ov,rfl,hov,_⟩:=h3 i _ _ hi (List.getElem?_eq_getElem (by omega))
  simp at hxy
  rcases hxy with rfl | rfl
  ·rfl
  ·exact SlR.okC hov
 ·intro y hy
  obtain⟨i,hi⟩:=List.getElem?_of_mem hy
  have hlt:=(List.getElem?_eq_some_iff.1 hi).1
  obtain⟨ov,rfl,_⟩:=h3 i _ _ hi (List.getElem?_eq_getElem (by omega))
  rfl
section
variable {ro:Ro}{h:T Obj}{nx nA:Nat}{X:List Nat}{Q:KE}{e:Env}
set_option maxRecDepth 8000 in
set_option maxHeartbeats 1000000 in
theorem aPy {tid:Nat}{nvs R' U':Value}{rows:List (List MoveD)}{w2 w3 w19 w20 w21:Value} (e2:e 2=w2) (e3:e 3=w3) (e6:e 6=ptr tid) (e19:e 19=w19) (e20:e 20=w20) (e21:e 21=w21) (e33:e 33=nvs) (e34:e 34=.int .i64 rows.length) (e35:e 35=.int .i64 0)
  (hg:h.get tid=some (.cells [cX,R',U',cX].toArray bD)) (hlen:rows.length≤1000000) (hsrc:SlR ro (del h [tid]) nvs 1 (rT ro (del h [tid])) rows) (hrow:∀ row∈rows,row≠[]∧row.length≤1000000∧∀ m∈row,m.ops.length≤1000000)
  (hf:Fr h nx) (hX:∀ k∈X,k < nA) (htid:nA≤tid) (hnA:nA≤nx)
  (hQ:∀ (e':Env) h' n' nv,e' 2=w2→e' 3=w3→e' 6=ptr tid→e' 19=w19→e' 20=w20→e' 21=w21→nx≤n'→Fr h' n'→dM [tid] h h'→h'.get tid=some (.cells [cX,R',U',nv].toArray bD) →
   SlR ro (del h' (tid::X)) nv 1 (rT ro (del h' (tid::X))) rows→Q (.exit 2) e' h' n'):dT (sI ro) e h nx Q:=by
 have hlt:=hf.lt' hg
 refine bE (fun j e h' nx'=>∃ (k:Nat) (ws:List Value) (nv:Value),k+j=rows.length∧nx≤nx'∧e 2=w2∧e 3=w3∧e 6=ptr tid∧e 19=w19∧e 20=w20∧e 21=w21∧e 33=nvs∧e 34=.int .i64 rows.length∧e 35=.int .i64 k ∧
  h'.get tid=some (.cells [cX,R',U',nv].toArray bD)∧cW h' nv 1 eL (wsC ws) nx∧ws.length=k∧(∀ (i:Nat) w row,ws[i]?=some w→rows[i]?=some row→rT ro (del h' (tid::(i7 nv++X))) [w] row)∧dM [tid] h h'∧Fr h' nx') ?_ (n:=rows.length)
  ⟨0,[],cX,by omega,by omega,e2,e3,e6,e19,e20,e21,e33,e34,e35,hg,cW.nil,rfl,fun i w row hw=>by simp at hw,(Sub.refl h).keepL,hf⟩
 rintro j e h' nx' ⟨k,ws,nv,hj,hnx,e2,e3,e6,e19,e20,e21,e33,e34,e35,hg',ho',hwl,hfa,hk',hf'⟩ Q' hq hx
 unfold sI
 rw[e33,e34,e35]
 refine cV (fun hk=>?_) (fun hk=>?_)
 ·have hk:k < rows.length:=by omega
  have hD:Sub (del h [tid]) h':=hk'.delS fun k h=>h
  have hs':=hsrc.sub hD (rT.sub hD)
  have hix:=hs'.ix .i64 hk
  obtain⟨w0,⟨w0',hw1,hw2,hw3⟩,hld⟩:=hs'.at1 hk
  simp only[List.cons.injEq,and_true] at hw1
  subst hw1
  have hrk:rows[k]?=some rows[k]:=List.getElem?_eq_getElem _
  obtain⟨b1,b2,b3⟩:=hrow _ (List.getElem_mem hk)
  generalize rows[k]=row at hw2 hw3 hrk b1 b2 b3
  obtain⟨cs,c1,c2,c3,c4,c5⟩:=aPd hw2
  (repeat(first|refine zzB ?_|apply aD|apply aE|with_reducible first|apply aG|apply aF|apply aK|apply aH|apply aJ|apply aI|apply aL|apply aC))
  refine aA hix (aA hld ?_)
  refine aGL c1 c3 (by omega) (hf'.mono (by omega)) fun r h1 n1 hn1 hf1 hs1 ho1=>?_
  have hlnr:=(ho1.sl (ro:=ro)).len
  rw[c2] at hlnr
  rcases ho1 with ⟨_,hnil⟩ | ⟨mid,hmid,rfl,hz1,hg1⟩
  ·exact absurd (List.length_eq_zero_iff.1 (by rw[← c2,hnil]; rfl)) b1
  rw[c2]
  refine aA rfl ?_
  have hmlt:=hf1.lt' hg1
  have hs1m:Sub h' (del h1 [mid]):=hs1.delN hf' fun i hi=>by simp at hi; omega
  refine aPz (ro:=ro) (mid:=mid) (row:=row) (mcs0:=cs) (nA:=nx'+6) (X:=tid::(i7 nv++X)) e2 e3 e6 e19 e20 e21 e33 e34 e35 rfl rfl rfl rfl hg1 c2 hz1 b2 (fun i x m hxi hmi=>?_) (hf1.mono (by omega)) (fun k hk=>?_) hmid (by omega) ?_
  ·obtain⟨ov,rfl,hov,_⟩:=c5 i x m hxi hmi
   exact⟨ov,rfl,hov.sub hs1m fun _ _ h=>h,b3 m (List.mem_of_getElem? hmi)⟩
  ·rcases List.mem_cons.1 hk with rfl | hk
   ·have:=hf'.lt' hg'; omega
   ·rcases List.mem_append.1 hk with hk | hk
    ·have h9:=(ho'.blk (eV.1 hk)).2
     have:=hf'.lt' h9; omega
    ·have:=hX k hk; omega
  ·intro e4 h2 n2 f2 f3 f6 f9 f19 f20 f21 f33 f34 f35 hn2 hf2 hk2 hrw
   have hs2:Sub h' h2:=fun k o hk=>hk2 k o (hs1 k o hk) fun hm=>by have:=hf'.lt' hk; simp at hm; omega
   have hg2:=hs2 _ _ hg'
   have ho2:=ho'.keepS hs2
   have hj5:∀ (e5:Env) n3,e5 2=w2→e5 3=w3→e5 6=ptr tid→e5 9=.slice (some (own mid 2)) row.length row.length→e5 19=w19→e5 20=w20→e5 21=w21→e5 33=nvs→e5 34=.int .i64 rows.length→e5 35=.int .i64 k→n2≤n3→oA ro Q' e5 h2 n3:=by
    intro e5 n3 u2 u3 u6 u9 u19 u20 u21 u33 u34 u35 hn3
    unfold oA
    rw[u6,u9]
    (repeat(first|refine zzB ?_|apply aD|apply aE|with_reducible first|apply aG|apply aF|apply aK|apply aH|apply aJ|apply aI|apply aL|apply aC))
    refine aA (aZ (l:=[cX,R',U',nv]) hg2 rfl) ?_
    obtain⟨i,t1,t2,t3⟩:=aPm
    have hn1lt:iK nv≠some (n3+3):=fun e=>by
     have h9:=(ho2.blk e).2
     have:=hf2.lt' h9; omega
    refine aAX (z:=1) (l:=wsC ws) (y:=[.slice (some (own mid 2)) row.length row.length]) (aPV _ _ _ _) rfl ho2 aO8 t1 (by omega) (by omega) aPt rfl rfl (by rw[aHC,t3]; unfold big; omega) (by rw[aHC]; unfold big; omega) (hf2.mono (by omega)) (by omega) (by omega) hn1lt fun h3 ho3 hk3 hf3=>?_
    have ewc:wsC ws++[[.slice (some (own mid 2)) row.length row.length]]=wsC (ws++[.slice (some (own mid 2)) row.length row.length]):=by simp[wsC]
    rw[ewc] at ho3 ⊢
    generalize hnv:Value.slice (some (own (n3+5) 1)) (wsC (ws++[.slice (some (own mid 2)) row.length row.length])).length (wsC (ws++[.slice (some (own mid 2)) row.length row.length])).length=nv2 at ho3
    have hsb2:iK nv2=some (n3+5):=by rw[← hnv]; rfl
    have hg3:=hk3 _ _ hg2 (by have:=hf2.lt' hg2; omega) (fun e=>(ho2.ne hg2 (by decide)) e)
    dsimp only
    (repeat(first|refine zzB ?_|apply aD|apply aE|with_reducible first|apply aG|apply aF|apply aK|apply aH|apply aJ|apply aI|apply aL|apply aC))
    refine aA (dJ (l:=[cX,R',U',nv]) hg3 (by show 3 < 4; omega) ho3.ok (by rw[← hnv]; rfl)) ?_
    have hk4:dM (tid::i7 nv) h2 (h3.upd tid (some (.cells ([cX,R',U',nv].set 3 nv2).toArray bD))):=fun k o hk hn=>by
     have h9:k≠tid:=fun e=>hn (by rw[e]; exact List.mem_cons_self ..)
     have h10:iK nv≠some k:=fun e=>hn (List.mem_cons_of_mem _ (eV.2 e))
     rw[T.get_upd_ne _ _ h9]
     exact hk3 k o hk (by have:=hf2.lt' hk; omega) h10
    have ho4:cW (h3.upd tid (some (.cells ([cX,R',U',nv].set 3 nv2).toArray bD))) nv2 1 eL (wsC (ws++[.slice (some (own mid 2)) row.length row.length])) nx:=by
     have hkk:dM [tid] h3 (h3.upd tid (some (.cells ([cX,R',U',nv].set 3 nv2).toArray bD))):=(Sub.refl h3).keepL.upd (by simp)
     exact ho3.keepK hkk fun id hid hm=>by rw[hsb2] at hid; cases hid; simp at hm; have:=hf2.lt' hg2; omega
    have hf4:Fr (h3.upd tid (some (.cells ([cX,R',U',nv].set 3 nv2).toArray bD))) (n3+6):=(hf3.mono (by omega)).upd (Nat.le_refl _) (by omega)
    have g4:(h3.upd tid (some (.cells ([cX,R',U',nv].set 3 nv2).toArray bD))).get tid=some (.cells [cX,R',U',nv2].toArray bD):=T.get_upd_same _ _ _
    generalize (h3.upd tid (some (.cells ([cX,R',U',nv].set 3 nv2).toArray bD)))=h4 at hk4 ho4 hf4 g4
    have hmono:Sub (del h2 (tid::(i7 nv++X))) (del h4 (tid::(i7 nv2++X))):=hk4.del (fun k hk=>by
      rcases List.mem_cons.1 hk with rfl | hk
      ·exact List.mem_cons_self ..
      ·exact List.mem_cons_of_mem _ (List.mem_append.2 (.inl hk))) fun k hk=>by
     rcases List.mem_cons.1 hk with rfl | hk
     ·exact .inl (List.mem_cons_self ..)
     ·rcases List.mem_append.1 hk with hk | hk
      ·have:=eV.1 hk
       rw[hsb2] at this
       cases this
       exact .inr (hf2 _ (by omega))
      ·exact .inl (List.mem_cons_of_mem _ (List.mem_append.2 (.inr hk)))
    have hj4:∀ (e6':Env) n6,e6' 2=w2→e6' 3=w3→e6' 6=ptr tid→e6' 19=w19→e6' 20=w20→e6' 21=w21→e6' 33=nvs→e6' 34=.int .i64 rows.length→e6' 35=.int .i64 k→n3+6≤n6→nZ ro Q' e6' h4 n6:=by
     intro e6' n6 v2 v3 v6 v19 v20 v21 v33 v34 v35 hn6
     unfold nZ
     rw[v35]
     (repeat(first|refine zzB ?_|apply aD|apply aE|with_reducible first|apply aG|apply aF|apply aK|apply aH|apply aJ|apply aI|apply aL|apply aC))
     refine hq (j - 1) _ _ _ _ (by omega) ⟨k+1,ws++[.slice (some (own mid 2)) row.length row.length],nv2,by omega,by omega,v2,v3,v6,v19,v20,v21,v33,v34,rfl,g4,ho4,by simp[hwl],fun i w row' hwi hri=>?_,fun k' o hk9 hn9=>?_,hf4.mono (by omega)⟩ (Sub.refl _)
     ·rcases Nat.lt_or_ge i ws.length with hi | hi
      ·rw[List.getElem?_append_left hi] at hwi
       have h9:=hfa i w row' hwi hri
       have hkeep2:Sub (del h' (tid::(i7 nv++X))) (del h2 (tid::(i7 nv++X))):=(Sub.keepL hs2:dM [] h' h2).del (fun k hk=>by cases hk) fun k hk=>.inl hk
       exact rT.sub (hkeep2.trans hmono) _ _ h9
      ·rw[List.getElem?_append_right hi] at hwi
       have hlt9:=(List.getElem?_eq_some_iff.1 hwi).1
       have:i=k:=by simp at hlt9; omega
       subst this
       rw[hrk] at hri
       cases hri
       have:w=.slice (some (own mid 2)) row.length row.length:=by have:=List.mem_of_getElem? hwi; simpa using this
       subst this
       exact⟨_,rfl,hrw.sub hmono (xI.sub hmono),by unfold kN; omega⟩
     ·have h10:=hs2 _ _ (hk' k' o hk9 hn9)
      have hk'lt:=hf.lt' hk9
      refine hk4 k' o h10 fun hm=>?_
      rcases List.mem_cons.1 hm with rfl | hm
      ·exact hn9 (by simp)
      ·have:=(ho2.blk (eV.1 hm)).1; omega
    exact hj4 _ _ u2 u3 u6 u19 u20 u21 u33 u34 u35 (by omega)
   refine eD (cQ ?_)
   exact hj5 _ _ f2 f3 f6 f9 f19 f20 f21 f33 f34 f35 (Nat.le_refl _)
 ·(repeat(first|refine zzB ?_|apply aD|apply aE|with_reducible first|apply aG|apply aF|apply aK|apply aH|apply aJ|apply aI|apply aL|apply aC))
  refine hx _ _ _ _ (fun e=>by cases e) ?_
  have hnt:∀ id,iK nv=some id→id ∉ tid::X:=fun id hid hm=>by
   have h9:=ho'.blk hid
   rcases List.mem_cons.1 hm with rfl | hm
   ·exact (ho'.ne hg' (by decide)) hid
   ·have:=hX id hm; omega
  have hsub:Sub (del h' (tid::(i7 nv++X))) (del h' (tid::X)):=sB fun k hk=>by
   rcases List.mem_cons.1 hk with rfl | hk
   ·exact List.mem_cons_self ..
   ·exact List.mem_cons_of_mem _ (List.mem_append.2 (.inr hk))
  refine hQ _ _ _ nv e2 e3 e6 e19 e20 e21 (by omega) (hf'.mono (by omega)) hk' hg' ⟨wsC ws,(ho'.del hnt).sl,by rw[aHC]; omega,fun i x row hxi hri=>?_⟩
  simp only[wsC,List.getElem?_map] at hxi
  cases hw:ws[i]? with
  | none=>rw[hw] at hxi; cases hxi
  | some w =>
   rw[hw] at hxi
   cases hxi
   exact rT.sub hsub _ _ (hfa i w row hw hri)
end
end V
end Go.Proofs.YtcaccnneblghgaaGreat
namespace Go.Proofs.YtcaccnneblghgaaGreat
namespace V
attribute [local irreducible] aB ifP aR cT eQ exP cO
def erS (s:StateD):StateD:=⟨[],s.r,s.rule,s.next⟩
def er (d:AutoD):AutoD:=⟨d.c,d.many,d.counts,d.states.map erS⟩
theorem aBc {P:Program}{t:TypeId}{z:Array Value}{fs:Array Field}{pl:List (Nat × Nat)}{parts:List (Nat × Value)}{l:List Value} (h1:zer P t=some (.agg z)) (h2:und P t=some (.struct fs)) (h3:oF P fs.toList=some pl) (h4:nK (pl[·]?) z.toList parts=some l):fJ P t parts=some (.agg l.toArray):=by
 unfold fJ
 rw[h1]
 simp only[Option.bind,h2,h3,Value.cells_agg,h4]
theorem aNI {P:Program}{t:TypeId}{pl:List (Nat × Nat)} (h:((und P t).bind fun d=>match d with
  | .struct fs=>oF P fs.toList
  | _=>none)=some pl):∃ fs,und P t=some (.struct fs)∧oF P fs.toList=some pl:=by
 obtain⟨d,h2,h3⟩:=aM h
 cases d<;>try (cases h3; done)
 exact⟨_,h2,h3⟩
theorem aIP {a b c:List Value} (h:c.length=a.length):over (a++b) 0 c=c++b:=by
 unfold over
 rw[List.take_zero,List.nil_append,Nat.zero_add,h,List.drop_left]
theorem aHR {c:List Nat}{n:Int}{cv:Value} (hc:c.length=256) (hcv:cv.cells=#[cv]):fJ Tryz.prog bK [(0,mS c n),(1,cv)]=some (.agg (eA c n cv cX).toArray):=by
 obtain⟨fs,h1,h2⟩:=aNI (P:=Tryz.prog) (t:=bK) (pl:=[(0,257),(257,1),(258,1)]) (by kernel_rfl)
 refine aBc aEi h1 h2 ?_
 have hs:(fG (List.replicate 256 0) 0).length=257:=eK List.length_replicate
 have hs2:(fG c n).length=257:=eK hc
 have e1:Nat.beq (mS c n).cells.size 257=true:=by rw[mJ]; simp[hs2]
 have e2:Nat.ble (0+257) vO.length=true:=by rw[rW]; rfl
 have o1:over vO 0 (mS c n).cells.toList=eA c n cX cX:=by
  rw[mJ]
  exact aIP (by rw[hs,hs2])
 have e3:Nat.beq cv.cells.size 1=true:=by rw[hcv]; rfl
 have e4:Nat.ble (257+1) (eA c n cX cX).length=true:=by rw[cS hc]; rfl
 have o2:over (eA c n cX cX) 257 cv.cells.toList=eA c n cv cX:=by
  rw[hcv]
  show over _ 257 [cv]=_
  rw[aEF _ (by rw[cS hc]; omega),aHM hc]
 show nK _ vO _=_
 simp only[nK,List.getElem?_cons_zero,List.getElem?_cons_succ,Option.bind,e1,e2,o1,e3,e4,o2]
theorem aHw {P:Program}{h:T Obj}{a n:Nat}{ty:TypeId}{zv v:Value}{x:List Value}{K:T Obj→Prop} (hz:zer P ty=some zv) (hzs:zv.cells.size=n) (hv:v.cells=x.toArray) (hx:x.length=n) (hok:x.all cU=true)
  (hK:∀ h',h'.get a=some (.cells x.toArray ty)→(∀ k,k≠a→h'.get k=h.get k)→K h') :
  aB (zer P ty) fun z=>cT h a (.cells z.cells ty) fun h1=>aB (bV n h1 (ptr a) v) K:=by
 refine aA hz (aD (aA (lX (l:=zv.cells.toList) (vs:=x) (e:=ty) (f:=(0,0)) (by rw[T.get_upd_same]) hv hx (by simpa using hzs) hok) ?_))
 exact hK _ (by rw[T.get_upd_same]) fun k hk=>by rw[T.get_upd_ne _ _ hk,T.get_upd_ne _ _ hk]
theorem aGJ (a b:Value) (h1:a.cells=#[a]) (h2:b.cells=#[b]):fJ Tryz.prog bD [(1,a),(2,b)]=some (.agg #[cX,a,b,cX]):=by
 obtain⟨fs,g1,g2⟩:=aNI (P:=Tryz.prog) (t:=bD) (pl:=[(0,1),(1,1),(2,1),(3,1)]) (by kernel_rfl)
 refine aBc rQ g1 g2 ?_
 simp only[nK,List.getElem?_cons_zero,List.getElem?_cons_succ,Option.bind,h1,h2]
 rfl
theorem cW.cells {h:T Obj}{v:Value}{z:Nat}{e:TypeId}{l:List (List Value)}{lo:Nat} (ho:cW h v z e l lo):v.cells=#[v]:=by
 rcases ho with ⟨rfl,_⟩ | ⟨id,_,rfl,_⟩<;>rfl
def Fit (d:AutoD):Prop:=d.counts.length≤1000000∧d.states.length≤1000000∧∀ s∈d.states,s.r.length≤1000000∧s.rule.length≤1000000∧s.next.length≤1000000∧∀ row∈s.next,row≠[]∧row.length≤1000000∧∀ m∈row,m.ops.length≤1000000
section
variable {ro:Ro}{h:T Obj}{nx:Nat}{Q:KE}{e:Env}
set_option maxRecDepth 8000 in
set_option maxHeartbeats 2000000 in
theorem aPx {X:List Nat}{rid oid:Nat}{c:List Nat}{n:Int}{cv svs:Value}{S:List StateD} (hc:c.length=256) (e2:e 2=ptr rid) (e3:e 3=ptr oid) (e19:e 19=svs) (e20:e 20=.int .i64 S.length) (e21:e 21=.int .i64 0)
  (hg:h.get oid=some (.cells (eA c n cv cX).toArray bK)) (hgr:h.get rid=some (.cells vO.toArray bK)) (hro:rid≠oid) (hsrc:SlR ro (del h [oid]) svs 4 (eG ro (del h [oid])) S) (hlen:S.length≤1000000)
  (hfit:∀ s∈S,s.r.length≤1000000∧s.rule.length≤1000000∧s.next.length≤1000000∧∀ row∈s.next,row≠[]∧row.length≤1000000∧∀ m∈row,m.ops.length≤1000000) (hf:Fr h nx) (hX:∀ k∈X,k < nx)
  (hQ:∀ (e':Env) h' n' sv,e' 2=ptr rid→e' 3=ptr oid→nx≤n'→Fr h' n'→dM [oid] h h'→h'.get oid=some (.cells (eA c n cv sv).toArray bK)→cU sv=true →
   SlR ro (del h' (oid::X)) sv 4 (eG ro (del h' (oid::X))) (S.map erS)→Q (.exit 0) e' h' n'):dT (sH ro) e h nx Q:=by
 have hlt:=hf.lt' hg
 have hltr:=hf.lt' hgr
 refine bE (fun j e h' nx'=>∃ (k:Nat) (cs:List (List Value)) (sv:Value),k+j=S.length∧nx≤nx'∧e 2=ptr rid∧e 3=ptr oid∧e 19=svs∧e 20=.int .i64 S.length∧e 21=.int .i64 k ∧
  h'.get oid=some (.cells (eA c n cv sv).toArray bK)∧cW h' sv 4 bD cs nx∧cs.length=k∧(∀ (i:Nat) x s,cs[i]?=some x→S[i]?=some s→eG ro (del h' (oid::(i7 sv++X))) x (erS s))∧dM [oid] h h'∧Fr h' nx') ?_ (n:=S.length)
  ⟨0,[],cX,by omega,by omega,e2,e3,e19,e20,e21,hg,cW.nil,rfl,fun i x s hx=>by simp at hx,(Sub.refl h).keepL,hf⟩
 rintro j e h' nx' ⟨k,cs,sv,hj,hnx,e2,e3,e19,e20,e21,hg',ho',hcl,hfa,hk',hf'⟩ Q' hq hx
 unfold sH
 rw[e19,e20,e21]
 refine cV (fun hk=>?_) (fun hk=>?_)
 ·have hk:k < S.length:=by omega
  have hD:Sub (del h [oid]) h':=hk'.delS fun k h=>h
  have hs':=hsrc.sub hD (eG.sub hD)
  have hix:=hs'.ix .i64 hk
  have hsk:S[k]?=some S[k]:=List.getElem?_eq_getElem _
  obtain⟨x,⟨lv,rv,uv,nv,rfl,y1,y2,y3,y4,y5⟩,hx2,hx3,hx4,hx5⟩:=hs'.at hk
  obtain⟨b1,b2,b3,b4⟩:=hfit _ (List.getElem_mem hk)
  generalize S[k]=s at y1 y2 y3 y4 y5 b1 b2 b3 b4 hsk
  have hlt':=hf'.lt' hg'
  (repeat(first|refine zzB ?_|apply aD|apply aE|with_reducible first|apply aG|apply aF|apply aK|apply aH|apply aJ|apply aI|apply aL|apply aC))
  refine aA hix (aA hx3 ?_)
  refine kA (x:=[lv,rv,uv,nv]) rQ rfl rfl rfl (by simp[y1.ok,y2.ok,y3.ok,SlR.okC y4]) hf' (by omega) fun h1 hs1 hf1 g1 _=>?_
  (repeat(first|refine zzB ?_|apply aD|apply aE|with_reducible first|apply aG|apply aF|apply aK|apply aH|apply aJ|apply aI|apply aL|apply aC))
  refine aA (aZ (l:=[lv,rv,uv,nv]) g1 rfl) ?_
  refine tE (y2.sub hs1) b1 (hf1.mono (by omega)) fun R' h2 n2 hn2 hf2 hs2 ho2=>?_
  (repeat(first|refine zzB ?_|apply aD|apply aE|with_reducible first|apply aG|apply aF|apply aK|apply aH|apply aJ|apply aI|apply aL|apply aC))
  refine aA (aZ (l:=[lv,rv,uv,nv]) (hs2 _ _ g1) rfl) ?_
  refine⟨fT g1 (hs2 _ _ g1),?_⟩
  refine tE (y3.sub (hs1.trans hs2)) b2 hf2 fun U' h3 n3 hn3 hf3 hs3 ho3=>?_
  refine aA (aGJ _ _ ho2.cells ho3.cells) ?_
  refine aHw (x:=[cX,R',U',cX]) rQ rfl rfl rfl (by simp[show cU cX=true from rfl,ho2.ok,ho3.ok]) fun h4 g4 ho4=>?_
  have hs13:Sub h' h3:=(hs1.trans hs2).trans hs3
  have hs4:Sub h' h4:=fun k o hk=>by rw[ho4 k (by have:=hf'.lt' hk; omega)]; exact hs13 k o hk
  have hs4t:Sub h' (del h4 [nx'+12]):=fun k o hk=>j7 (hs4 k o hk) (by have:=hf'.lt' hk; simp; omega)
  have hf4:Fr h4 n3:=fun k hk=>by rw[ho4 k (by omega)]; exact hf3 k hk
  have g14:h4.get (nx'+3)=some (.cells [lv,rv,uv,nv].toArray bD):=by rw[ho4 _ (by omega)]; exact hs3 _ _ (hs2 _ _ g1)
  have hnl:=(y4.sub hs4 (rT.sub hs4)).len
  (repeat(first|refine zzB ?_|apply aD|apply aE|with_reducible first|apply aG|apply aF|apply aK|apply aH|apply aJ|apply aI|apply aL|apply aC))
  refine aA (aZ (l:=[lv,rv,uv,nv]) g14 rfl) ?_
  refine aA hnl ?_
  refine aPy (ro:=ro) (tid:=nx'+12) (rows:=s.next) (R':=R') (U':=U') (X:=oid::(i7 sv++X)) (nA:=nx') e2 e3 rfl e19 e20 e21 rfl rfl rfl g4 b3 (y4.sub hs4t (rT.sub hs4t)) b4 (hf4.mono (by omega)) (fun k hk=>?_) (by omega) (by omega) ?_
  ·rcases List.mem_cons.1 hk with rfl | hk
   ·exact hlt'
   ·rcases List.mem_append.1 hk with hk | hk
    ·exact hf'.lt' (ho'.blk (eV.1 hk)).2
    ·have:=hX k hk; omega
  ·intro e5 h5 n5 nv5 f2 f3 f6 f19 f20 f21 hn5 hf5 hk5 g5 hnx5
   have hs5:Sub h' h5:=fun k o hk=>hk5 k o (hs4 k o hk) (by have:=hf'.lt' hk; simp; omega)
   have hg5:=hs5 _ _ hg'
   have ho5:=ho'.keepS hs5
   have hR5:cW h5 R' 1 dR (kK s.r) (nx'+14):=((ho2.keepS hs3).keepK (ids:=[nx'+12]) (h':=h4) (fun k o hk hn=>by rw[ho4 k (by simpa using hn)]; exact hk) fun id hid hm=>by have:=(ho2.blk hid).1; simp at hm; omega).keepK hk5 fun id hid hm=>by have:=(ho2.blk hid).1; simp at hm; omega
   have hU5:cW h5 U' 1 dR (kK s.rule) n2:=(ho3.keepK (ids:=[nx'+12]) (h':=h4) (fun k o hk hn=>by rw[ho4 k (by simpa using hn)]; exact hk) fun id hid hm=>by have:=(ho3.blk hid).1; simp at hm; omega).keepK hk5 fun id hid hm=>by have:=(ho3.blk hid).1; simp at hm; omega
   have hXlt:∀ k∈oid::(i7 sv++X),k < nx':=fun k hk=>by
    rcases List.mem_cons.1 hk with rfl | hk
    ·exact hlt'
    ·rcases List.mem_append.1 hk with hk | hk
     ·exact hf'.lt' (ho'.blk (eV.1 hk)).2
     ·have:=hX k hk; omega
   have hst:eG ro (del h5 (oid::(i7 sv++X))) [cX,R',U',nv5] (erS s):=by
    refine⟨cX,R',U',nv5,rfl,Sl.nil,(hR5.del fun id hid hm=>?_).sl,(hU5.del fun id hid hm=>?_).sl,hnx5.sub (sB fun k hk=>List.mem_cons_of_mem _ hk) (rT.sub (sB fun k hk=>List.mem_cons_of_mem _ hk)),y5⟩
    ·have:=(hR5.blk hid).1; have:=hXlt id hm; omega
    ·have:=(hU5.blk hid).1; have:=hXlt id hm; omega
   have hnv5:cU nv5=true:=SlR.okC hnx5
   have hj3:∀ (e6:Env) n6,e6 2=ptr rid→e6 3=ptr oid→e6 6=ptr (nx'+12)→e6 19=svs→e6 20=.int .i64 S.length→e6 21=.int .i64 k→n5≤n6→nY ro Q' e6 h5 n6:=by
    intro e6 n6 u2 u3 u6 u19 u20 u21 hn6
    unfold nY
    rw[u3,u6]
    (repeat(first|refine zzB ?_|apply aD|apply aE|with_reducible first|apply aG|apply aF|apply aK|apply aH|apply aJ|apply aI|apply aL|apply aC))
    refine aA (aZ hg5 (iF hc)) ?_
    refine aA (dF (l:=[cX,R',U',nv5]) g5 rfl) ?_
    obtain⟨i,t1,t2,t3⟩:=aL5
    have hn1lt:iK sv≠some (n6+3):=fun e=>by
     have h9:=(ho5.blk e).2
     have:=hf5.lt' h9; omega
    refine aAX (z:=4) (l:=cs) (y:=[cX,R',U',nv5]) (aLD _ _ _ _ _) rfl ho5 aJp t1 (by omega) (by omega) rQ rfl (by simp[show cU cX=true from rfl,hR5.ok,hU5.ok,hnv5]) (by rw[t3]; unfold big; omega) (by unfold big; omega) (hf5.mono (by omega)) (by omega) (by omega) hn1lt fun h7 ho7 hk7 hf7=>?_
    generalize hnv:Value.slice (some (own (n6+5) 4)) (cs++[[cX,R',U',nv5]]).length (cs++[[cX,R',U',nv5]]).length=sv2 at ho7
    have hsb2:iK sv2=some (n6+5):=by rw[← hnv]; rfl
    have hg7:=hk7 _ _ hg5 (by have:=hf5.lt' hg5; omega) (fun e=>(ho5.ne hg5 (by decide)) e)
    dsimp only
    (repeat(first|refine zzB ?_|apply aD|apply aE|with_reducible first|apply aG|apply aF|apply aK|apply aH|apply aJ|apply aI|apply aL|apply aC))
    refine aA (dJ hg7 (by rw[cS hc]; omega) ho7.ok (by rw[← hnv]; rfl)) ?_
    rw[aLm hc]
    have hk8:dM (oid::i7 sv) h5 (h7.upd oid (some (.cells (eA c n cv sv2).toArray bK))):=fun k o hk hn=>by
     have h9:k≠oid:=fun e=>hn (by rw[e]; exact List.mem_cons_self ..)
     have h10:iK sv≠some k:=fun e=>hn (List.mem_cons_of_mem _ (eV.2 e))
     rw[T.get_upd_ne _ _ h9]
     exact hk7 k o hk (by have:=hf5.lt' hk; omega) h10
    have ho8:cW (h7.upd oid (some (.cells (eA c n cv sv2).toArray bK))) sv2 4 bD (cs++[[cX,R',U',nv5]]) nx:=by
     have hkk:dM [oid] h7 (h7.upd oid (some (.cells (eA c n cv sv2).toArray bK))):=(Sub.refl h7).keepL.upd (by simp)
     exact ho7.keepK hkk fun id hid hm=>by rw[hsb2] at hid; cases hid; simp at hm; have:=hf5.lt' hg5; omega
    have hf8:Fr (h7.upd oid (some (.cells (eA c n cv sv2).toArray bK))) (n6+6):=(hf7.mono (by omega)).upd (Nat.le_refl _) (by omega)
    have g8:(h7.upd oid (some (.cells (eA c n cv sv2).toArray bK))).get oid=some (.cells (eA c n cv sv2).toArray bK):=T.get_upd_same _ _ _
    generalize (h7.upd oid (some (.cells (eA c n cv sv2).toArray bK)))=h8 at hk8 ho8 hf8 g8
    have hmono:Sub (del h5 (oid::(i7 sv++X))) (del h8 (oid::(i7 sv2++X))):=hk8.del (fun k hk=>by
      rcases List.mem_cons.1 hk with rfl | hk
      ·exact List.mem_cons_self ..
      ·exact List.mem_cons_of_mem _ (List.mem_append.2 (.inl hk))) fun k hk=>by
     rcases List.mem_cons.1 hk with rfl | hk
     ·exact .inl (List.mem_cons_self ..)
     ·rcases List.mem_append.1 hk with hk | hk
      ·have:=eV.1 hk
       rw[hsb2] at this
       cases this
       exact .inr (hf5 _ (by omega))
      ·exact .inl (List.mem_cons_of_mem _ (List.mem_append.2 (.inr hk)))
    have hj2:∀ (e9:Env) n9,e9 2=ptr rid→e9 3=ptr oid→e9 19=svs→e9 20=.int .i64 S.length→e9 21=.int .i64 k→n6+6≤n9→nX ro Q' e9 h8 n9:=by
     intro e9 n9 v2 v3 v19 v20 v21 hn9
     unfold nX
     rw[v21]
     (repeat(first|refine zzB ?_|apply aD|apply aE|with_reducible first|apply aG|apply aF|apply aK|apply aH|apply aJ|apply aI|apply aL|apply aC))
     refine hq (j - 1) _ _ _ _ (by omega) ⟨k+1,cs++[[cX,R',U',nv5]],sv2,by omega,by omega,v2,v3,v19,v20,rfl,g8,ho8,by simp[hcl],fun i x s' hxi hsi=>?_,fun k' o hk9 hn9=>?_,hf8.mono (by omega)⟩ (Sub.refl _)
     ·rcases Nat.lt_or_ge i cs.length with hi | hi
      ·rw[List.getElem?_append_left hi] at hxi
       have h9:=hfa i x s' hxi hsi
       have hkeep2:Sub (del h' (oid::(i7 sv++X))) (del h5 (oid::(i7 sv++X))):=(Sub.keepL hs5:dM [] h' h5).del (fun k hk=>by cases hk) fun k hk=>.inl hk
       exact eG.sub (hkeep2.trans hmono) _ _ h9
      ·rw[List.getElem?_append_right hi] at hxi
       have hlt9:=(List.getElem?_eq_some_iff.1 hxi).1
       have:i=k:=by simp at hlt9; omega
       subst this
       rw[hsk] at hsi
       cases hsi
       have:x=[cX,R',U',nv5]:=by have:=List.mem_of_getElem? hxi; simpa using this
       subst this
       exact eG.sub hmono _ _ hst
     ·have h10:=hs5 _ _ (hk' k' o hk9 hn9)
      have hk'lt:=hf.lt' hk9
      refine hk8 k' o h10 fun hm=>?_
      rcases List.mem_cons.1 hm with rfl | hm
      ·exact hn9 (by simp)
      ·have:=(ho5.blk (eV.1 hm)).1; omega
    exact hj2 _ _ u2 u3 u19 u20 u21 (by omega)
   refine eD (cQ ?_)
   exact hj3 _ _ f2 f3 f6 f19 f20 f21 (Nat.le_refl _)
 ·(repeat(first|refine zzB ?_|apply aD|apply aE|with_reducible first|apply aG|apply aF|apply aK|apply aH|apply aJ|apply aI|apply aL|apply aC))
  refine hx _ _ _ _ (fun e=>by cases e) ?_
  have hnt:∀ id,iK sv=some id→id ∉ oid::X:=fun id hid hm=>by
   have h9:=ho'.blk hid
   rcases List.mem_cons.1 hm with rfl | hm
   ·exact (ho'.ne hg' (by decide)) hid
   ·have:=hX id hm; omega
  have hsub:Sub (del h' (oid::(i7 sv++X))) (del h' (oid::X)):=sB fun k hk=>by
   rcases List.mem_cons.1 hk with rfl | hk
   ·exact List.mem_cons_self ..
   ·exact List.mem_cons_of_mem _ (List.mem_append.2 (.inr hk))
  refine hQ _ _ _ sv e2 e3 (by omega) (hf'.mono (by omega)) hk' hg' ho'.ok ⟨cs,(ho'.del hnt).sl,by rw[List.length_map]; omega,fun i x s hxi hsi=>?_⟩
  rw[List.getElem?_map] at hsi
  cases hs:S[i]? with
  | none=>rw[hs] at hsi; cases hsi
  | some s0 =>
   rw[hs] at hsi
   cases hsi
   exact eG.sub hsub _ _ (hfa i x s0 hxi hs)
end
end V
end Go.Proofs.YtcaccnneblghgaaGreat
namespace Go.Proofs.YtcaccnneblghgaaGreat
namespace V
attribute [local irreducible] aB ifP aR cT eQ exP cO
theorem aP5 {d:AutoD} (ha:fH d=true) (hcl:d.c.length=256):Fit d:=by
 obtain⟨h1,h2,h3,h4,h5,h6⟩:=fW ha
 have hm0:=aI8 hcl h1 0 (by omega)
 have hm:=aAd h1
 refine⟨by omega,by omega,fun s hs=>?_⟩
 have hk:=h6 s hs
 obtain⟨k1,k2,k3,k4,k5⟩:=qE hk
 have hc:=aAv (s.r.length:Int)
 refine⟨by omega,by omega,by omega,fun row hrow=>?_⟩
 obtain⟨i,hi⟩:=List.getElem?_of_mem hrow
 have hlt:=(List.getElem?_eq_some_iff.1 hi).1
 have hro:=aGw k5 (by omega) i row _ hi (List.getElem?_eq_getElem (by omega))
 unfold wV at hro
 simp only[Bool.and_eq_true,decide_eq_true_eq] at hro
 obtain⟨_,_,r3,r4⟩:=hro
 refine⟨fun e=>by rw[e] at r3; simp at r3; omega,by omega,fun m hm=>?_⟩
 have:=aGj (S:=[]) ha (List.all_eq_true.1 r4 m hm)
 omega
theorem aBH (S:List StateD) (i:Nat):(S.map erS).getD i noS=erS (S.getD i noS):=by
 rw[List.getD_eq_getElem?_getD,List.getD_eq_getElem?_getD,List.getElem?_map]
 cases S[i]?<;>rfl
theorem aHA (d:AutoD) (m:MacD):gH (er d) m=erS (gH d m):=aBH _ _
theorem aND (d:AutoD) (m:MacD):qP (er d) m=qP d m:=by unfold qP; rw[aHA]; rfl
theorem aIG (d:AutoD) (m:MacD) (b:Nat):pV (er d) m b=pV d m b:=by unfold pV; rw[aHA]; rfl
theorem aMm (d:AutoD) (t:Int):pX (er d) t=pX d t:=by
 unfold pX
 show (if t=-1 then [] else ((d.states.map erS).getD t.toNat noS).r)=_
 rw[aBH]; rfl
theorem aP6 (d:AutoD) (m:MacD) (b:Nat):onM (er d) m b=onM d m b:=by unfold onM; rw[aIG]
theorem aNJ (d:AutoD) (m:MacD) (b:Nat):mM (er d) m b=mM d m b:=by unfold mM; rw[aIG,aMm,aHA]; rfl
theorem aLG {S:List StateD}{R:List Int} (m:MoveD):hZ (S.map erS) R m=hZ S R m:=by
 unfold hZ
 rw[aBH,List.length_map]; rfl
theorem aFt {S:List StateD}{R:List Int}{n:Int}:∀ (us:List Int) (rows:List (List MoveD)),oN (S.map erS) R n us rows=oN S R n us rows
 | [],_=>rfl
 | u::us,[]=>by rw[wG,wG]
 | u::us,row::rows=>by
  rw[pZ,pZ,aFt us rows]
  unfold wV
  have:row.all (hZ (S.map erS) R)=row.all (hZ S R):=by congr 1; funext m; exact aLG m
  rw[this]
theorem aKb {d:AutoD} (ha:fH d=true):fH (er d)=true:=by
 unfold fH at ha ⊢
 simp only[Bool.and_eq_true,decide_eq_true_eq] at ha ⊢
 obtain⟨h1,h2,h3,h4,h5,h6,h7⟩:=ha
 refine⟨h1,h2,by show 1≤(d.states.map erS).length; rw[List.length_map]; exact h3,by show (d.states.map erS).length≤256; rw[List.length_map]; exact h4,?_,h6,?_⟩
 ·unfold zD at h5 ⊢
  simp only[Bool.and_eq_true,decide_eq_true_eq] at h5 ⊢
  refine⟨?_,?_⟩
  ·show ((d.states.map erS).getD 0 noS).l.length=0
   rw[aBH]; rfl
  ·show ((d.states.map erS).getD 0 noS).r.length=0
   rw[aBH]; exact h5.2
 ·show (d.states.map erS).all _=true
  rw[List.all_map,List.all_eq_true]
  intro s hs
  have:=List.all_eq_true.1 h7 s hs
  show gU (d.states.map erS) d.many d.counts.length (erS s)=true
  unfold gU at this ⊢
  simp only[Bool.and_eq_true,decide_eq_true_eq] at this ⊢
  obtain⟨k1,k2,k3,k4,k5,k6⟩:=this
  refine⟨k1,k2,k3,rfl,k5,?_⟩
  show oN (d.states.map erS) s.r d.many s.rule s.next=true
  rw[aFt]; exact k6
theorem aIt {d:AutoD}{m:MacD} (h:MOk d m):MOk (er d) m:=⟨by have:=h.1; show m.cur=-1∨0≤m.cur∧m.cur < ((d.states.map erS).length:Int); rw[List.length_map]; exact this,h.2⟩
section
variable {ro:Ro}{h:T Obj}{nx:Nat}{K:KV}
set_option maxRecDepth 8000 in
set_option maxHeartbeats 1000000 in
theorem aEv {X0:List Nat}{x:List Value}{d:AutoD} (hf:Fr h nx) (hX0:∀ k∈X0,k < nx) (hd:qN ro h x d) (hfit:Fit d) (hK:∀ cv sv h' nx',nx≤nx'→Fr h' nx'→Sub h h'→qN ro (del h' X0) (eA d.c d.many cv sv) (er d)→K (.agg (eA d.c d.many cv sv).toArray) h' nx'):aN Tryz.prog ro tZ [.agg x.toArray] h nx K:=by
 obtain⟨cv,sv,rfl,hc,hclt,hcv,hS,hb1,hb2⟩:=hd
 obtain⟨f1,f2,f3⟩:=hfit
 have m7:=lF (n:=d.many) (cv:=cv) (sv:=sv) hc
 have m8:=iF (n:=d.many) (cv:=cv) (sv:=sv) hc
 apply aDe
 unfold aCS
 refine eJ hf (Nat.le_refl _) fun h1 hs1 hf1 g1 _=>?_
 have g1:h1.get nx=some (.cells (eA d.c d.many cv sv).toArray bK):=g1
 refine aA aEi ?_
 refine aGd hf1 (Nat.le_refl _) fun h2 hs2 hf2 g2 _=>?_
 have g2:h2.get (nx+1)=some (.cells vO.toArray bK):=g2
 have g12:=hs2 _ _ g1
 (repeat(first|refine zzB ?_|apply aD|apply aE|with_reducible first|apply aG|apply aF|apply aK|apply aH|apply aJ|apply aI|apply aL|apply aC))
 refine aA (aMf g12 hc) ?_
 (repeat(first|refine zzB ?_|apply aD|apply aE|with_reducible first|apply aG|apply aF|apply aK|apply aH|apply aJ|apply aI|apply aL|apply aC))
 refine aA (aZ g12 m7) ?_
 refine aJB (hcv.sub (hs1.trans hs2) fun _ _ h=>h) f1 (hf2.mono (by omega)) fun cv' h3 n3 hn3 hf3 hs3 ho3=>?_
 have g13:=hs3 _ _ g12
 have g23:=hs3 _ _ g2
 refine⟨fT g12 g13,?_⟩
 refine aA (aHR hc ho3.cells) ?_
 refine aHw (x:=eA d.c d.many cv' cX) aEi (by show vO.toArray.size=259; simp[rW]) rfl (cS hc) (aDA ho3.ok rfl) fun h4 g4 hk4=>?_
 have g14:h4.get nx=some (.cells (eA d.c d.many cv sv).toArray bK):=by rw[hk4 _ (by omega)]; exact g13
 have g24:h4.get (nx+1)=some (.cells vO.toArray bK):=by rw[hk4 _ (by omega)]; exact g23
 have hs13:Sub h h3:=(hs1.trans hs2).trans hs3
 have hs4:Sub h h4:=fun k o hk=>by rw[hk4 k (by have:=hf.lt' hk; omega)]; exact hs13 k o hk
 have hs4o:Sub h (del h4 [nx+8]):=fun k o hk=>j7 (hs4 k o hk) (by have:=hf.lt' hk; simp; omega)
 have hf4:Fr h4 n3:=fun k hk=>by rw[hk4 k (by omega)]; exact hf3 k hk
 have hsl:=(hS.sub hs4 (eG.sub hs4)).len
 (repeat(first|refine zzB ?_|apply aD|apply aE|with_reducible first|apply aG|apply aF|apply aK|apply aH|apply aJ|apply aI|apply aL|apply aC))
 refine aA (aZ g14 m8) ?_
 refine aA hsl ?_
 refine aPx (ro:=ro) (X:=(nx+1)::X0) (rid:=nx+1) (oid:=nx+8) (S:=d.states) hc rfl rfl rfl rfl rfl g4 g24 (by omega) (hS.sub hs4o (eG.sub hs4o)) f2 f3 (hf4.mono (by omega)) (fun k hk=>by
  rcases List.mem_cons.1 hk with rfl | hk
  ·omega
  ·have:=hX0 k hk; omega) fun e5 h5 n5 sv5 u2 u3 hn5 hf5 hk5 g5 hsv5 hS5=>?_
 refine eD (cQ ?_)
 have g25:=hk5 _ _ g24 (by simp)
 have hj1:∀ (e6:Env),e6 2=ptr (nx+1)→e6 3=ptr (nx+8)→nW ro K e6 h5 n5:=by
  intro e6 v2 v3
  unfold nW
  rw[v2,v3]
  refine aA (dF g5 (cS hc)) ?_
  refine aA (lX (l:=vO) (vs:=eA d.c d.many cv' sv5) g25 rfl (cS hc) rW (aDA ho3.ok hsv5)) ?_
  refine aA (dF (l:=eA d.c d.many cv' sv5) (by rw[T.get_upd_same]) (cS hc)) ?_
  have hk6:dM [nx+1] h5 (h5.upd (nx+1) (some (.cells (eA d.c d.many cv' sv5).toArray bK))):=(Sub.refl h5).keepL.upd (by simp)
  have hf6:Fr (h5.upd (nx+1) (some (.cells (eA d.c d.many cv' sv5).toArray bK))) n5:=hf5.upd (Nat.le_refl _) (by have:=hf5.lt' g25; omega)
  generalize h5.upd (nx+1) (some (.cells (eA d.c d.many cv' sv5).toArray bK))=h6 at hk6 hf6
  have hd6:Sub (del h5 ((nx+8)::(nx+1)::X0)) (del h6 X0):=fun k o hk=>by
   have h9:=(hk6.delS (l:=(nx+8)::(nx+1)::X0) fun k hk=>by simp at hk; simp[hk]) k o hk
   rw[jU] at hk
   split at hk
   ·cases hk
   ·rename_i hn; exact j7 h9 fun hm=>hn (by simp[hm])
  have ho6:cW h6 cv' 2 gL (aEs d.counts) (nx+10):=((ho3.keepK (ids:=[nx+8]) (h':=h4) (fun k o hk hn=>by rw[hk4 k (by simpa using hn)]; exact hk) fun id hid hm=>by have:=(ho3.blk hid).1; simp at hm; omega).keepK hk5 fun id hid hm=>by have:=(ho3.blk hid).1; simp at hm; omega).keepK hk6 fun id hid hm=>by have:=(ho3.blk hid).1; simp at hm; omega
  refine⟨h6,Sub.refl _,hK cv' sv5 h6 _ (by omega) (hf6.mono (by omega)) (fun k o hk=>?_) ⟨cv',sv5,rfl,hc,hclt,aPw (ho6.del fun id hid hm=>by have:=(ho6.blk hid).1; have:=hX0 id hm; omega),hS5.sub hd6 (eG.sub hd6),hb1,by show (d.states.map erS).length≤_; rw[List.length_map]; exact hb2⟩⟩
  have:=hf.lt' hk
  exact hk6 k o (hk5 k o (hs4 k o hk) (by simp; omega)) (by simp; omega)
 exact hj1 _ u2 u3
end
def aN2:List Value:=eC (List.replicate 256 0) 0 cX cX 0 cX 0
theorem aN3:zer Tryz.prog bJ=some (.agg aN2.toArray):=by kernel_rfl
theorem aMR {c:List Nat}{n:Int}{cv sv:Value}{pl:List (Nat × Nat)} (hp:pl[0]?=some (0,259)) (hc:c.length=256):nK (pl[·]?) aN2 [(0,.agg (eA c n cv sv).toArray)]=some (eC c n cv sv 0 cX 0):=by
 have h0:aN2.length=262:=vC List.length_replicate
 have e1:Nat.beq (Value.agg (eA c n cv sv).toArray).cells.size 259=true:=by rw[Value.cells_agg]; simp[cS hc]
 have e2:Nat.ble (0+259) aN2.length=true:=by rw[h0]; rfl
 have o1:over aN2 0 (Value.agg (eA c n cv sv).toArray).cells.toList=eC c n cv sv 0 cX 0:=by
  rw[Value.cells_agg]
  exact aIP (by rw[cS hc,cS List.length_replicate])
 simp only[nK,hp,Option.bind,e1,e2,o1]
theorem aIx {c:List Nat}{n:Int}{cv sv:Value} (hc:c.length=256):fJ Tryz.prog bJ [(0,.agg (eA c n cv sv).toArray)]=some (.agg (eC c n cv sv 0 cX 0).toArray):=by
 obtain⟨fs,h1,h2⟩:=aNI (P:=Tryz.prog) (t:=bJ) (pl:=[(0,259),(259,1),(260,1),(261,1)]) (by kernel_rfl)
 exact aBc aN3 h1 h2 (aMR rfl hc)
theorem aPT (aid q:Nat):bR Tryz.prog kU aid 1 [(0,ptr q)]=some (.slice (some (own aid 1)) 1 1,some (.cells [ptr q].toArray kW)):=by kernel_rfl
theorem aO7:und Tryz.prog kU=some (.slice kW):=by kernel_rfl
theorem aPk:∃ i,tin Tryz.prog kW=some i∧i.size=1∧i.bytes=8:=wW (by kernel_rfl)
theorem aPr:zer Tryz.prog kW=some (.pointer none):=by kernel_rfl
theorem aJ4 (ps:List (Nat × Nat)) (q:Nat × Nat):mW (ps++[q])=mW ps++[[ptr q.1]]:=by simp[mW]
end V
end Go.Proofs.YtcaccnneblghgaaGreat
namespace Go.Proofs.YtcaccnneblghgaaGreat
namespace V
attribute [local irreducible] qR aN aB
abbrev jX:FuncId:=22
abbrev jW:FuncId:=24
abbrev iD:FuncId:=41
abbrev iZ:FuncId:=43
abbrev mR:FuncId:=79
abbrev nG:FuncId:=80
abbrev jI:FuncId:=122
@[irreducible] def tP (ro:Ro) (K:KV):Env→T Obj→Nat→Prop:=fun e h nx=>∃ h39,Sub h39 h∧K (.tuple #[(e 6),(Value.int IntKind.i64 0)]) h39 (nx+3)
@[irreducible] def aCe (ro:Ro):PT:=fun e h nx Q=>aB (aO .lss (e 35) (e 34)) fun e'=>aR e' (aB (cM 260 (e 33) (e 35)) fun i'=>aB (loadA ro h 260 i') fun j'=>aB (zer Tryz.prog cN) fun J'=>cT h (nx+3) (.cells J'.cells cN) fun K'=>aB (bV 260 K' (ptr (nx+3)) j') fun r'=>aB (aS 0 (ptr (nx+3))) fun k'=>aB (loadA ro r' 259 k') fun l'=>aN Tryz.prog ro aA4 [l'] r' (nx+8) fun b' m' f'=>aB (nth 0 b') fun c'=>aB (nth 1 b') fun a'=>aB (aO .neq a' (Value.int IntKind.i64 0)) fun n'=>aR n' (Q .ret (puts e [(36,e'),(37,i'),(38,j'),(8,(ptr (nx+3))),(40,k'),(41,l'),(42,b'),(39,b'),(43,c'),(44,a'),(9,c'),(10,a'),(45,a'),(46,n'),(47,a'),(4,(Value.pointer none)),(5,a')]) m' (f'+10)) (aB (bN (e 6)) fun s'=>aB (aS 4 s') fun t'=>aB (load1 ro m' t') fun u'=>aB (bR Tryz.prog iW (f'+13) 1 [(0,c')]) fun o'=>eQ m' (f'+13) o'.2 fun L'=>aB (cC Tryz.prog ro L' (f'+15) #[iW,iW] [u',o'.1]) fun d'=>aB (bN (e 6)) fun v'=>aB (aS 4 v') fun w'=>aB (bV 1 d'.2.1 w' d'.1) fun g'=>aB (bN (e 6)) fun x'=>aB (aS 0 x') fun y'=>aB (aS 3 y') fun p'=>aB (load1 ro g' p') fun z'=>aB (aS 259 (ptr (nx+3))) fun A'=>aB (load1 ro g' A') fun B'=>aN Tryz.prog ro fE [B'] g' (d'.2.2+19) fun C' D' M'=>(jT p' g' D')∧(aB (fJ Tryz.prog cN [(1,C')]) fun E'=>aB (bR Tryz.prog iH (d'.2.2+13) 1 [(0,E')]) fun q'=>eQ D' (d'.2.2+13) q'.2 fun N'=>aB (cC Tryz.prog ro N' M' #[iH,iH] [z',q'.1]) fun h'=>aB (bN (e 6)) fun F'=>aB (aS 0 F') fun G'=>aB (aS 3 G') fun H'=>aB (bV 1 h'.2.1 H' h'.1) fun O'=>aB (aO .add (e 35) (Value.int IntKind.i64 1)) fun I'=>Q .normal (puts e [(36,e'),(37,i'),(38,j'),(8,(ptr (nx+3))),(40,k'),(41,l'),(42,b'),(39,b'),(43,c'),(44,a'),(9,c'),(10,a'),(45,a'),(46,n'),(48,(e 6)),(49,(e 6)),(50,s'),(51,t'),(52,u'),(53,c'),(54,o'.1),(55,d'.1),(56,v'),(57,w'),(58,(e 6)),(59,(e 6)),(60,x'),(61,y'),(62,p'),(63,z'),(64,A'),(65,B'),(66,C'),(67,E'),(68,q'.1),(69,h'.1),(70,F'),(71,G'),(72,H'),(73,I'),(35,I')]) O' (h'.2.2+2)))) (Q (.exit 0) (puts e [(36,e')]) h (nx+1))
@[irreducible] def aIe (ro:Ro) (v0 v1:Value) (h:T Obj) (nx:Nat) (K:KV):Prop:=cT h nx (.cells (Value.cells v0) dI) fun h1=>aB (aO .lss v1 (Value.int IntKind.i64 1)) fun b'=>ifP b' false h1 (nx+6) (fun k3=>aB (loadA ro h1 4 (ptr nx)) fun E'=>k3 E' h1 (nx+7)) fun i' h5 n6=>ifP b' false h5 n6 (fun k8=>aN Tryz.prog ro xW [i'] h5 (n6+1) fun F' G' H'=>k8 F' G' H') fun j' k' l'=>ifP b' false k' l' (fun I'=>aB (unV .not j') fun J'=>I' J' k' (l'+1)) fun m' n' a'=>aB (bO b' (Value.bool true) m') fun o'=>aR o' (∃ p',Sub p' n'∧K (.tuple #[(Value.pointer none),(Value.int IntKind.i64 1)]) p' (a'+3)) (aB (fJ Tryz.prog kH [(2,(Value.int IntKind.i64 (-1)))]) fun q'=>aB (fJ Tryz.prog aQ [(2,v1),(5,(Value.bool true)),(7,q')]) fun r'=>cT n' (a'+4) (.cells (Value.cells r') aQ) fun d'=>aB (aS 1 (ptr nx)) fun s'=>aB (load1 ro d' s') fun t'=>aN Tryz.prog ro hN [t'] d' (a'+17) fun u' e' K'=>aB (aS 2 (ptr nx)) fun f'=>aB (load1 ro e' f') fun v'=>(jT f' d' e')∧(aN Tryz.prog ro fE [v'] e' K' fun w' L' M'=>aB (fJ Tryz.prog dI [(1,u'),(2,w')]) fun x'=>aB (bN (ptr (a'+4))) fun y'=>aB (aS 0 y') fun z'=>aB (bV 4 L' z' x') fun A'=>aB (aS 3 (ptr nx)) fun B'=>aB (load1 ro A' B') fun C'=>aB (bH C') fun N'=>dT (aCe ro) (puts (gM [v0,v1]) [(2,(ptr nx)),(4,(Value.pointer none)),(5,(Value.int IntKind.i64 0)),(11,v1),(12,b'),(13,b'),(14,i'),(15,j'),(16,m'),(17,o'),(18,v1),(19,q'),(20,r'),(21,(ptr (a'+4))),(6,(ptr (a'+4))),(22,(ptr (a'+4))),(23,s'),(24,t'),(25,u'),(26,f'),(27,v'),(28,w'),(29,x'),(30,y'),(31,z'),(32,B'),(33,C'),(34,N'),(35,(Value.int IntKind.i64 0))]) A' (M'+4) fun O' c' g' h'=>exP O' (tP ro K c' g' h') (fun P'=>cO (Nat.beq P' 0) (tP ro K c' g' h') (False)) (∃ D',Sub D' g'∧K (.tuple #[(c' 4),(c' 5)]) D' h')))
theorem aIf {ro:Ro}{v0 v1:Value}{h:T Obj}{nx:Nat}{K:KV} (hw:aIe ro v0 v1 h nx K):aN Tryz.prog ro pA [v0,v1] h nx K:=bA (P:=Tryz.prog) (fn:=Tryz.f13) (by kernel_rfl) (by kernel_rfl) (by kernel_rfl) (Eq.mpr (by kernel_rfl) hw)
@[irreducible] def jJ (ro:Ro) (K:KV):Env→T Obj→Nat→Prop:=fun e h nx=>aB (bN (e 0)) fun b'=>aB (aS 13 b') fun c'=>aB (load1 ro h c') fun d'=>∃ a',Sub a' h∧K (.tuple #[(e 7),d']) a' (nx+7)
@[irreducible] def tR (ro:Ro) (v0 v1:Value) (h:T Obj) (nx:Nat) (K:KV):Prop:=aN Tryz.prog ro iD [v0] h (nx+4) fun a' h2 n3=>aB (aO .neq a' (Value.int IntKind.i64 0)) fun d'=>aR d' (∃ h5,Sub h5 h2∧K (.tuple #[(Value.slice none 0 0),a']) h5 (n3+6)) (aB (bN v0) fun e'=>aB (aS 6 e') fun f'=>aB (load1 ro h2 f') fun g'=>aB (bR Tryz.prog fN (n3+9) 2 [(0,g'),(1,v1)]) fun r9=>eQ h2 (n3+9) r9.2 fun v'=>aN Tryz.prog ro jA [r9.1] v' (n3+11) fun h' w' x'=>aB (bN v0) fun i'=>aB (aS 6 i') fun j'=>aB (bV 1 w' j' h') fun y'=>aN Tryz.prog ro iZ [v0] y' (x'+5) fun b' c' s'=>aB (bN v0) fun k'=>aB (aS 6 k') fun l'=>aB (load1 ro c' l') fun m'=>aB (bH m') fun n'=>aB (bN v0) fun o'=>aB (aS 5 o') fun p'=>aB (load1 ro c' p') fun q'=>aB (aO .gtr n' q') fun r'=>aR r' (aB (bN v0) fun t'=>aB (aS 13 t') fun u'=>aB (bV 1 c' u' (Value.int IntKind.i64 180)) fun z'=>jJ ro K (puts (gM [v0,v1]) [(4,(Value.slice none 0 0)),(5,(Value.int IntKind.i64 0)),(8,v0),(9,a'),(6,a'),(10,a'),(11,d'),(13,v0),(14,v0),(15,e'),(16,f'),(17,g'),(18,v1),(19,r9.1),(20,h'),(21,i'),(22,j'),(23,v0),(24,b'),(7,b'),(25,v0),(26,k'),(27,l'),(28,m'),(29,n'),(30,v0),(31,o'),(32,p'),(33,q'),(34,r'),(35,v0),(36,t'),(37,u')]) z' (s'+15)) (jJ ro K (puts (gM [v0,v1]) [(4,(Value.slice none 0 0)),(5,(Value.int IntKind.i64 0)),(8,v0),(9,a'),(6,a'),(10,a'),(11,d'),(13,v0),(14,v0),(15,e'),(16,f'),(17,g'),(18,v1),(19,r9.1),(20,h'),(21,i'),(22,j'),(23,v0),(24,b'),(7,b'),(25,v0),(26,k'),(27,l'),(28,m'),(29,n'),(30,v0),(31,o'),(32,p'),(33,q'),(34,r')]) c' (s'+11)))
theorem yT {ro:Ro}{v0 v1:Value}{h:T Obj}{nx:Nat}{K:KV} (hw:tR ro v0 v1 h nx K):aN Tryz.prog ro iA [v0,v1] h nx K:=bA (P:=Tryz.prog) (fn:=Tryz.f18) (by kernel_rfl) (by kernel_rfl) (by kernel_rfl) (Eq.mpr (by kernel_rfl) hw)
@[irreducible] def s4 (ro:Ro) (v0:Value) (h:T Obj) (nx:Nat) (K:KV):Prop:=aN Tryz.prog ro iD [v0] h (nx+4) fun a' h2 n3=>aB (aO .neq a' (Value.int IntKind.i64 0)) fun c'=>aR c' (∃ h5,Sub h5 h2∧K (.tuple #[(Value.slice none 0 0),a']) h5 (n3+6)) (aB (bN v0) fun d'=>aB (aS 14 d') fun e'=>aB (bV 1 h2 e' (Value.bool true)) fun h8=>aN Tryz.prog ro iZ [v0] h8 (n3+9) fun f' g' h'=>∃ b',Sub b' g'∧K (.tuple #[f',(Value.int IntKind.i64 0)]) b' (h'+2))
theorem xB {ro:Ro}{v0:Value}{h:T Obj}{nx:Nat}{K:KV} (hw:s4 ro v0 h nx K):aN Tryz.prog ro jH [v0] h nx K:=bA (P:=Tryz.prog) (fn:=Tryz.f19) (by kernel_rfl) (by kernel_rfl) (by kernel_rfl) (Eq.mpr (by kernel_rfl) hw)
@[irreducible] def tS (ro:Ro) (v0:Value) (h:T Obj) (nx:Nat) (K:KV):Prop:=aB (yA .eql v0 (Value.pointer none)) fun a'=>aR a' (∃ h2,Sub h2 h∧K (Value.int IntKind.i64 0) h2 (nx+4)) (aB (bN v0) fun b'=>aB (aS 6 b') fun c'=>aB (load1 ro h c') fun d'=>aB (bH d') fun e'=>∃ h7,Sub h7 h∧K e' h7 (nx+9))
theorem yU {ro:Ro}{v0:Value}{h:T Obj}{nx:Nat}{K:KV} (hw:tS ro v0 h nx K):aN Tryz.prog ro jX [v0] h nx K:=bA (P:=Tryz.prog) (fn:=Tryz.f22) (by kernel_rfl) (by kernel_rfl) (by kernel_rfl) (Eq.mpr (by kernel_rfl) hw)
@[irreducible] def tQ (ro:Ro) (v0:Value) (h:T Obj) (nx:Nat) (K:KV):Prop:=aB (yA .eql v0 (Value.pointer none)) fun a'=>aR a' (∃ h2,Sub h2 h∧K (Value.int IntKind.i64 0) h2 (nx+4)) (aB (bN v0) fun b'=>aB (aS 9 b') fun c'=>aB (load1 ro h c') fun d'=>∃ h6,Sub h6 h∧K d' h6 (nx+8))
theorem yS {ro:Ro}{v0:Value}{h:T Obj}{nx:Nat}{K:KV} (hw:tQ ro v0 h nx K):aN Tryz.prog ro jW [v0] h nx K:=bA (P:=Tryz.prog) (fn:=Tryz.f24) (by kernel_rfl) (by kernel_rfl) (by kernel_rfl) (Eq.mpr (by kernel_rfl) hw)
@[irreducible] def p8 (ro:Ro) (v0:Value) (h:T Obj) (nx:Nat) (K:KV):Prop:=aB (yA .eql v0 (Value.pointer none)) fun k'=>aR k' (∃ h2,Sub h2 h∧K (Value.int IntKind.i64 2) h2 (nx+5)) (aB (bN v0) fun l'=>aB (aS 13 l') fun m'=>aB (load1 ro h m') fun n'=>aB (aO .eql n' (Value.int IntKind.i64 0)) fun a'=>ifP a' true h (nx+10) (fun k7=>k7 v0 h (nx+11)) fun o' h9 d'=>ifP a' true h9 d' (fun p'=>aB (bN o') fun q'=>p' q' h9 (d'+1)) fun r' e' f'=>ifP a' true e' f' (fun s'=>aB (aS 14 r') fun t'=>s' t' e' (f'+1)) fun u' b' g'=>ifP a' true b' g' (fun v'=>aB (load1 ro b' u') fun w'=>v' w' b' (g'+1)) fun x' c' h'=>aB (bO a' x' (Value.bool false)) fun y'=>aR y' (∃ i',Sub i' c'∧K (Value.int IntKind.i64 181) i' (h'+3)) (aB (bN v0) fun z'=>aB (aS 13 z') fun A'=>aB (load1 ro c' A') fun B'=>∃ j',Sub j' c'∧K B' j' (h'+7)))
theorem vF {ro:Ro}{v0:Value}{h:T Obj}{nx:Nat}{K:KV} (hw:p8 ro v0 h nx K):aN Tryz.prog ro iD [v0] h nx K:=bA (P:=Tryz.prog) (fn:=Tryz.f41) (by kernel_rfl) (by kernel_rfl) (by kernel_rfl) (Eq.mpr (by kernel_rfl) hw)
@[irreducible] def iE (ro:Ro) (K:KV):Env→T Obj→Nat→Prop:=fun e h nx=>∃ h1,Sub h1 h∧K (e 3) h1 (nx+2)
@[irreducible] def oO (ro:Ro):PT:=fun e h nx Q=>aB (bN (e 0)) fun d'=>aB (aS 6 d') fun e'=>aB (load1 ro h e') fun f'=>aB (bH f') fun g'=>aB (aO .gtr g' (Value.int IntKind.i64 0)) fun b'=>ifP b' true h (nx+7) (fun k7=>k7 (e 0) h (nx+8)) fun h' h9 G'=>ifP b' true h9 G' (fun Z'=>aN Tryz.prog ro mR [h'] h9 (G'+1) fun aa' ab' ac'=>Z' aa' ab' ac') fun i' H' I'=>aB (bO b' i' (Value.bool false)) fun j'=>aR j' (aN Tryz.prog ro nG [(e 0)] H' (I'+3) fun m' ad' c'=>aB (zer Tryz.prog bI) fun ae'=>cT ad' c' (.cells ae'.cells bI) fun af'=>aB (bV 3 af' (ptr c') m') fun n'=>aB (aS 0 (ptr c')) fun o'=>aB (load1 ro n' o') fun p'=>aB (aO .eql p' (Value.int IntKind.i64 (-1))) fun a'=>ifP a' false n' (c'+17) (fun ag'=>ag' (e 0) n' (c'+17)) fun q' J' K'=>ifP a' false J' K' (fun ah'=>aB (bN q') fun ai'=>ah' ai' J' K') fun r' L' M'=>ifP a' false L' M' (fun aj'=>aB (aS 0 r') fun ak'=>aj' ak' L' M') fun s' N' O'=>ifP a' false N' O' (fun al'=>aB (aS 1 s') fun am'=>al' am' N' O') fun t' u' P'=>ifP a' false u' P' (fun an'=>aB (load1 ro u' t') fun ao'=>an' ao' u' P') fun v' Q' R'=>ifP a' false Q' R' (fun ap'=>aB (aS 0 (ptr c')) fun aq'=>ap' aq' Q' R') fun w' x' S'=>ifP a' false x' S' (fun ar'=>aB (load1 ro x' w') fun as'=>ar' as' x' S') fun y' T' U'=>ifP a' false T' U' (fun at'=>aB (cM 1 v' y') fun au'=>at' au' T' U') fun z' A' V'=>ifP a' false A' V' (fun av'=>aB (load1 ro A' z') fun aw'=>av' aw' A' V') fun B' W' X'=>ifP a' false W' X' (fun ax'=>aB (aE8 .neq B' (Value.string { data:=#[] })) fun ay'=>ax' ay' W' X') fun C' D' k'=>aB (bO a' (Value.bool true) C') fun E'=>aR E' (aB (loadA ro D' 3 (ptr c')) fun Y'=>aB (bR Tryz.prog iJ (k'+2) 1 [(0,Y')]) fun F'=>eQ D' (k'+2) F'.2 fun az'=>aB (cC Tryz.prog ro az' (k'+4) #[iJ,iJ] [(e 3),F'.1]) fun l'=>Q .normal (puts e [(5,(e 0)),(6,d'),(7,e'),(8,f'),(9,g'),(10,b'),(11,b'),(12,h'),(13,i'),(14,j'),(15,(e 0)),(16,m'),(4,(ptr c')),(17,o'),(18,p'),(19,a'),(20,a'),(21,q'),(22,r'),(23,s'),(24,t'),(25,v'),(26,w'),(27,y'),(28,z'),(29,B'),(30,C'),(31,E'),(32,(e 3)),(33,Y'),(34,F'.1),(35,l'.1),(3,l'.1)]) l'.2.1 (l'.2.2+1)) (Q .normal (puts e [(5,(e 0)),(6,d'),(7,e'),(8,f'),(9,g'),(10,b'),(11,b'),(12,h'),(13,i'),(14,j'),(15,(e 0)),(16,m'),(4,(ptr c')),(17,o'),(18,p'),(19,a'),(20,a'),(21,q'),(22,r'),(23,s'),(24,t'),(25,v'),(26,w'),(27,y'),(28,z'),(29,B'),(30,C'),(31,E')]) D' k')) (Q (.exit 0) (puts e [(5,(e 0)),(6,d'),(7,e'),(8,f'),(9,g'),(10,b'),(11,b'),(12,h'),(13,i'),(14,j')]) H' (I'+1))
@[irreducible] def qQ (ro:Ro) (v0:Value) (h:T Obj) (nx:Nat) (K:KV):Prop:=dT (oO ro) (puts (gM [v0]) [(2,(Value.slice none 0 0)),(3,(Value.slice none 0 0))]) h (nx+2) fun x85 e82 h83 n84=>exP x85 (iE ro K e82 h83 n84) (fun i86=>cO (Nat.beq i86 0) (iE ro K e82 h83 n84) (False)) (∃ h87,Sub h87 h83∧K (e82 2) h87 n84)
theorem wH {ro:Ro}{v0:Value}{h:T Obj}{nx:Nat}{K:KV} (hw:qQ ro v0 h nx K):aN Tryz.prog ro iZ [v0] h nx K:=bA (P:=Tryz.prog) (fn:=Tryz.f43) (by kernel_rfl) (by kernel_rfl) (by kernel_rfl) (Eq.mpr (by kernel_rfl) hw)
@[irreducible] def jL (ro:Ro) (K:KV):Env→T Obj→Nat→Prop:=fun e h nx=>aB (bN (e 0)) fun b'=>aB (aS 14 b') fun c'=>aB (load1 ro h c') fun d'=>∃ a',Sub a' h∧K d' a' (nx+5)
@[irreducible] def jM (ro:Ro) (Q:KE):Env→T Obj→Nat→Prop:=fun e h nx=>aB (aO .add (e 34) (Value.int IntKind.i64 1)) fun a'=>Q .normal (puts e [(76,a'),(34,a')]) h (nx+2)
@[irreducible] def p7 (ro:Ro):PT:=fun e h nx Q=>aB (aO .lss (e 34) (e 33)) fun c'=>aR c' (aB (cM 1 (e 32) (e 34)) fun d'=>aB (load1 ro h d') fun a'=>aB (bN (e 0)) fun e'=>aB (aS 10 e') fun f'=>aB (aS 0 f') fun g'=>aB (load1 ro h g') fun h'=>aB (aO .add h' (Value.int IntKind.i64 1)) fun i'=>aB (bN (e 0)) fun j'=>aB (aS 10 j') fun k'=>aB (aS 0 k') fun l'=>aB (bV 1 h l' i') fun w'=>aB (bN (e 0)) fun m'=>aB (aS 15 m') fun n'=>aB (load1 ro w' n') fun o'=>aB (aO .add o' (Value.int IntKind.i64 1)) fun p'=>aB (bN (e 0)) fun q'=>aB (aS 15 q') fun r'=>aB (bV 1 w' r' p') fun K'=>aN Tryz.prog ro mQ [(e 3),a'] K' (nx+25) fun s' x' y'=>aB (unV .not s') fun t'=>aR t' (Q .ret (puts e [(35,c'),(36,d'),(37,a'),(5,a'),(38,(e 0)),(39,e'),(40,f'),(41,g'),(42,h'),(43,i'),(44,j'),(45,k'),(46,l'),(47,(e 0)),(48,m'),(49,n'),(50,o'),(51,p'),(52,q'),(53,r'),(54,(e 3)),(55,a'),(56,s'),(57,t'),(2,(Value.bool true))]) x' (y'+2)) (aN Tryz.prog ro mP [(e 3)] x' (y'+3) fun b' u' z'=>aB (aO .neq b' (Value.int IntKind.i64 (-1))) fun v'=>aR v' (aB (bN (e 0)) fun A'=>aB (aS 10 A') fun B'=>aB (aS 0 B') fun C'=>aB (load1 ro u' C') fun D'=>aB (bN (e 0)) fun E'=>aB (aS 10 E') fun F'=>aB (aS 1 F') fun G'=>aB (bV 1 u' G' D') fun L'=>aB (bN (e 0)) fun H'=>aB (aS 10 H') fun I'=>aB (aS 2 I') fun J'=>aB (bV 1 L' J' b') fun M'=>jM ro Q (puts e [(35,c'),(36,d'),(37,a'),(5,a'),(38,(e 0)),(39,e'),(40,f'),(41,g'),(42,h'),(43,i'),(44,j'),(45,k'),(46,l'),(47,(e 0)),(48,m'),(49,n'),(50,o'),(51,p'),(52,q'),(53,r'),(54,(e 3)),(55,a'),(56,s'),(57,t'),(58,(e 3)),(59,b'),(6,b'),(60,b'),(61,v'),(62,(e 0)),(63,(e 0)),(64,(e 0)),(65,A'),(66,B'),(67,C'),(68,D'),(69,b'),(70,E'),(71,F'),(72,G'),(73,H'),(74,I'),(75,J')]) M' (z'+19)) (jM ro Q (puts e [(35,c'),(36,d'),(37,a'),(5,a'),(38,(e 0)),(39,e'),(40,f'),(41,g'),(42,h'),(43,i'),(44,j'),(45,k'),(46,l'),(47,(e 0)),(48,m'),(49,n'),(50,o'),(51,p'),(52,q'),(53,r'),(54,(e 3)),(55,a'),(56,s'),(57,t'),(58,(e 3)),(59,b'),(6,b'),(60,b'),(61,v')]) u' (z'+3)))) (Q (.exit 0) (puts e [(35,c')]) h (nx+1))
@[irreducible] def jK (ro:Ro) (K:KV):Env→T Obj→Nat→Prop:=fun e h nx=>aB (bN (e 0)) fun d'=>aB (aS 6 d') fun e'=>aB (load1 ro h e') fun f'=>aB (bN (e 0)) fun g'=>aB (aS 10 g') fun h'=>aB (aS 0 h') fun i'=>aB (load1 ro h i') fun j'=>aB (lT Tryz.prog a9 f' (some j') none none) fun k'=>aB (bH k') fun m'=>dT (p7 ro) (puts e [(23,(e 0)),(24,d'),(25,e'),(26,f'),(27,(e 0)),(28,g'),(29,h'),(30,i'),(31,j'),(32,k'),(33,m'),(34,(Value.int IntKind.i64 0))]) h (nx+12) fun n' a' b' c'=>exP n' (jL ro K a' b' c') (fun o'=>cO (Nat.beq o' 0) (jL ro K a' b' c') (False)) (∃ l',Sub l' b'∧K (a' 2) l' c')
@[irreducible] def tT (ro:Ro) (v0:Value) (h:T Obj) (nx:Nat) (K:KV):Prop:=aB (bN v0) fun c'=>aB (aS 4 c') fun b'=>aB (load1 ro h b') fun d'=>aN Tryz.prog ro jI [v0] h (nx+10) fun e' h5 n6=>(jT b' h h5)∧(aB (cM 1 d' e') fun f'=>aB (load1 ro h5 f') fun a'=>aB (bN v0) fun g'=>aB (aS 10 g') fun h'=>aB (loadA ro h5 3 h') fun i'=>aB (fJ Tryz.prog kH [(2,(Value.int IntKind.i64 (-1)))]) fun j'=>aB (dS Tryz.prog 20 kH) fun l'=>aB (aEl l' .eql i' j') fun k'=>aR k' (aN Tryz.prog ro lM [a'] h5 (n6+8) fun m' n' o'=>jK ro K (puts (gM [v0]) [(2,(Value.bool false)),(7,v0),(8,c'),(9,b'),(10,d'),(11,v0),(12,e'),(13,f'),(14,a'),(3,a'),(15,v0),(16,g'),(17,h'),(18,i'),(19,j'),(20,k'),(21,a'),(22,m')]) n' o') (jK ro K (puts (gM [v0]) [(2,(Value.bool false)),(7,v0),(8,c'),(9,b'),(10,d'),(11,v0),(12,e'),(13,f'),(14,a'),(3,a'),(15,v0),(16,g'),(17,h'),(18,i'),(19,j'),(20,k')]) h5 (n6+6)))
theorem yV {ro:Ro}{v0:Value}{h:T Obj}{nx:Nat}{K:KV} (hw:tT ro v0 h nx K):aN Tryz.prog ro mR [v0] h nx K:=bA (P:=Tryz.prog) (fn:=Tryz.f79) (by kernel_rfl) (by kernel_rfl) (by kernel_rfl) (Eq.mpr (by kernel_rfl) hw)
@[irreducible] def jZ (ro:Ro) (K:KV):Env→T Obj→Nat→Prop:=fun e h nx=>aB (loadA ro h 3 (e 3)) fun c'=>aB (bV 3 h (e 2) c') fun a'=>aB (loadA ro a' 3 (e 2)) fun d'=>∃ b',Sub b' a'∧K d' b' (nx+2)
@[irreducible] def jY (ro:Ro) (K:KV):Env→T Obj→Nat→Prop:=fun e h nx=>aB (aS 2 (e 3)) fun f'=>aB (load1 ro h f') fun g'=>aB (aS 1 (e 3)) fun h'=>aB (load1 ro h h') fun i'=>aB (aO .sub g' i') fun b'=>aB (bN (e 0)) fun j'=>aB (aS 6 j') fun k'=>aB (load1 ro h k') fun l'=>aB (aO .sub b' (Value.int IntKind.i64 1)) fun m'=>aB (cM 1 l' m') fun n'=>aB (load1 ro h n') fun o'=>aB (aO .eql o' (Value.int IntKind.u8 10)) fun p'=>aB (bN (e 0)) fun q'=>aB (aS 8 q') fun r'=>aB (bV 1 h r' p') fun d'=>aB (bN (e 0)) fun s'=>aB (aS 6 s') fun t'=>aB (load1 ro d' t') fun u'=>aB (lT Tryz.prog a9 u' (some b') none none) fun v'=>aB (aS 2 (e 3)) fun e'=>aB (load1 ro d' e') fun w'=>aB (bN (e 0)) fun x'=>aB (aS 6 x') fun y'=>aB (bV 1 d' y' v') fun V'=>(jT e' d' V')∧(aB (bN (e 0)) fun z'=>aB (aS 7 z') fun A'=>aB (bV 1 V' A' w') fun aw'=>aB (fJ Tryz.prog kH [(2,(Value.int IntKind.i64 (-1)))]) fun B'=>aB (bN (e 0)) fun C'=>aB (aS 10 C') fun D'=>aB (bV 3 aw' D' B') fun E'=>aB (aS 0 (e 3)) fun F'=>aB (load1 ro E' F') fun G'=>aB (aO .neq G' (Value.int IntKind.i64 (-1))) fun a'=>ifP a' true E' (nx+55) (fun ax'=>ax' (e 0) E' (nx+55)) fun H' W' X'=>ifP a' true W' X' (fun ay'=>aB (bN H') fun az'=>ay' az' W' X') fun I' Y' Z'=>ifP a' true Y' Z' (fun aA'=>aB (aS 0 I') fun aB'=>aA' aB' Y' Z') fun J' aa' ab'=>ifP a' true aa' ab' (fun aC'=>aB (aS 2 J') fun aD'=>aC' aD' aa' ab') fun K' L' ac'=>ifP a' true L' ac' (fun aE'=>aB (load1 ro L' K') fun aF'=>aE' aF' L' ac') fun M' ad' ae'=>ifP a' true ad' ae' (fun aG'=>aB (aS 0 (e 3)) fun aH'=>aG' aH' ad' ae') fun N' O' af'=>ifP a' true O' af' (fun aI'=>aB (load1 ro O' N') fun aJ'=>aI' aJ' O' af') fun P' ag' ah'=>ifP a' true ag' ah' (fun aK'=>aB (cM 1 M' P') fun aL'=>aK' aL' ag' ah') fun Q' R' ai'=>ifP a' true R' ai' (fun aM'=>aB (load1 ro R' Q') fun aN'=>aM' aN' R' ai') fun S' aj' ak'=>ifP a' true aj' ak' (fun aO'=>aB (aO .geq S' (Value.int IntKind.i64 0)) fun aP'=>aO' aP' aj' ak') fun T' c' al'=>aB (bO a' T' (Value.bool false)) fun U'=>aR U' (aB (bN (e 0)) fun am'=>aB (aS 0 am') fun an'=>aB (aS 2 an') fun ao'=>aB (load1 ro c' ao') fun ap'=>aB (aS 0 (e 3)) fun aq'=>aB (load1 ro c' aq') fun ar'=>aB (cM 1 ap' ar') fun as'=>aB (load1 ro c' as') fun at'=>aB (bN (e 0)) fun au'=>aB (aS 9 au') fun av'=>aB (bV 1 c' av' at') fun aQ'=>jZ ro K (puts e [(50,f'),(51,g'),(52,h'),(53,i'),(54,b'),(4,b'),(55,(e 0)),(56,(e 0)),(57,j'),(58,k'),(59,l'),(60,b'),(61,m'),(62,n'),(63,o'),(64,p'),(65,q'),(66,r'),(67,(e 0)),(68,(e 0)),(69,(e 0)),(70,s'),(71,t'),(72,u'),(73,b'),(74,v'),(75,e'),(76,w'),(77,x'),(78,y'),(79,z'),(80,A'),(81,(e 0)),(82,B'),(83,C'),(84,D'),(85,F'),(86,G'),(87,a'),(88,a'),(89,H'),(90,I'),(91,J'),(92,K'),(93,M'),(94,N'),(95,P'),(96,Q'),(97,S'),(98,T'),(99,U'),(100,(e 0)),(101,(e 0)),(102,am'),(103,an'),(104,ao'),(105,ap'),(106,aq'),(107,ar'),(108,as'),(109,at'),(110,au'),(111,av')]) aQ' (al'+13)) (jZ ro K (puts e [(50,f'),(51,g'),(52,h'),(53,i'),(54,b'),(4,b'),(55,(e 0)),(56,(e 0)),(57,j'),(58,k'),(59,l'),(60,b'),(61,m'),(62,n'),(63,o'),(64,p'),(65,q'),(66,r'),(67,(e 0)),(68,(e 0)),(69,(e 0)),(70,s'),(71,t'),(72,u'),(73,b'),(74,v'),(75,e'),(76,w'),(77,x'),(78,y'),(79,z'),(80,A'),(81,(e 0)),(82,B'),(83,C'),(84,D'),(85,F'),(86,G'),(87,a'),(88,a'),(89,H'),(90,I'),(91,J'),(92,K'),(93,M'),(94,N'),(95,P'),(96,Q'),(97,S'),(98,T'),(99,U')]) c' al'))
@[irreducible] def vE (ro:Ro) (v0:Value) (h:T Obj) (nx:Nat) (K:KV):Prop:=aB (zer Tryz.prog bI) fun z1=>cT h nx (.cells z1.cells bI) fun h2=>aB (bN v0) fun e'=>aB (aS 7 e') fun f'=>aB (load1 ro h2 f') fun g'=>aB (bN v0) fun h'=>aB (aS 7 h') fun i'=>aB (load1 ro h2 i') fun j'=>aB (aO .add j' (Value.int IntKind.i64 1)) fun k'=>aB (fJ Tryz.prog bI [(0,(Value.int IntKind.i64 (-1))),(1,g'),(2,k')]) fun l'=>aB (zer Tryz.prog bI) fun O'=>cT h2 (nx+11) (.cells O'.cells bI) fun P'=>aB (bV 3 P' (ptr (nx+11)) l') fun b'=>aB (bN v0) fun m'=>aB (aS 10 m') fun n'=>aB (aS 2 n') fun o'=>aB (load1 ro b' o') fun p'=>aB (aO .neq p' (Value.int IntKind.i64 (-1))) fun q'=>aR q' (aB (bN v0) fun u'=>aB (aS 0 u') fun v'=>aB (aS 3 v') fun r'=>aB (load1 ro b' r') fun w'=>aN Tryz.prog ro jI [v0] b' (nx+50) fun x' a' Q'=>(jT r' b' a')∧(aB (cM 260 w' x') fun y'=>aB (aS 259 y') fun z'=>aB (load1 ro a' z') fun A'=>aB (bN v0) fun B'=>aB (aS 10 B') fun C'=>aB (aS 2 C') fun s'=>aB (load1 ro a' s') fun D'=>(jT s' b' a')∧(aB (cM 1 A' D') fun E'=>aB (load1 ro a' E') fun F'=>aB (bN v0) fun G'=>aB (aS 7 G') fun c'=>aB (load1 ro a' c') fun H'=>(jT c' b' a')∧(aB (bN v0) fun I'=>aB (aS 10 I') fun J'=>aB (aS 1 J') fun d'=>aB (load1 ro a' d') fun K'=>(jT d' b' a')∧(aB (aO .add H' K') fun L'=>aB (aS 0 (ptr (nx+11))) fun M'=>aB (bV 1 a' M' F') fun t'=>(jT d' a' t')∧((jT c' a' t')∧(aB (aS 2 (ptr (nx+11))) fun N'=>aB (bV 1 t' N' L') fun R'=>jY ro K (puts (gM [v0]) [(2,(ptr nx)),(5,v0),(6,e'),(7,f'),(8,g'),(9,v0),(10,h'),(11,i'),(12,j'),(13,k'),(14,l'),(3,(ptr (nx+11))),(15,v0),(16,m'),(17,n'),(18,o'),(19,p'),(20,q'),(21,v0),(22,u'),(23,v'),(24,r'),(25,w'),(26,v0),(27,x'),(28,y'),(29,z'),(30,A'),(31,v0),(32,B'),(33,C'),(34,s'),(35,D'),(36,E'),(37,F'),(38,v0),(39,G'),(40,c'),(41,H'),(42,v0),(43,I'),(44,J'),(45,d'),(46,K'),(47,L'),(48,M'),(49,N')]) R' Q'))))))) (jY ro K (puts (gM [v0]) [(2,(ptr nx)),(5,v0),(6,e'),(7,f'),(8,g'),(9,v0),(10,h'),(11,i'),(12,j'),(13,k'),(14,l'),(3,(ptr (nx+11))),(15,v0),(16,m'),(17,n'),(18,o'),(19,p'),(20,q')]) b' (nx+19))
theorem zO {ro:Ro}{v0:Value}{h:T Obj}{nx:Nat}{K:KV} (hw:vE ro v0 h nx K):aN Tryz.prog ro nG [v0] h nx K:=bA (P:=Tryz.prog) (fn:=Tryz.f80) (by kernel_rfl) (by kernel_rfl) (by kernel_rfl) (Eq.mpr (by kernel_rfl) hw)
@[irreducible] def s5 (ro:Ro) (v0:Value) (h:T Obj) (nx:Nat) (K:KV):Prop:=aB (bN v0) fun b'=>aB (aS 8 b') fun c'=>aB (load1 ro h c') fun d'=>aR d' (aB (bN v0) fun e'=>aB (aS 9 e') fun f'=>aB (load1 ro h f') fun g'=>aB (aO .mul (Value.int IntKind.i64 2) g') fun h'=>aB (aO .add h' (Value.int IntKind.i64 1)) fun i'=>∃ h9,Sub h9 h∧K i' h9 (nx+12)) (aB (bN v0) fun j'=>aB (aS 9 j') fun k'=>aB (load1 ro h k') fun l'=>aB (aO .mul (Value.int IntKind.i64 2) l') fun m'=>∃ a',Sub a' h∧K m' a' (nx+11))
theorem xC {ro:Ro}{v0:Value}{h:T Obj}{nx:Nat}{K:KV} (hw:s5 ro v0 h nx K):aN Tryz.prog ro jI [v0] h nx K:=bA (P:=Tryz.prog) (fn:=Tryz.f122) (by kernel_rfl) (by kernel_rfl) (by kernel_rfl) (Eq.mpr (by kernel_rfl) hw)
end V
end Go.Proofs.YtcaccnneblghgaaGreat
namespace Go.Proofs.YtcaccnneblghgaaGreat
namespace V
attribute [local irreducible] aB ifP aR cT eQ exP cO
abbrev MqD:=Nat × List (Nat × Nat)
def mU (q:MqD):List Nat:=q.1::j5 q.2
structure MsX (ro:Ro) (h:T Obj) (X:List Nat) (qs:List MqD) (ds:List AutoD) (ms:List MacD):Prop where
 lq:qs.length=ds.length
 lm:ms.length=ds.length
 at_:∀ (i:Nat) q d m,qs[i]?=some q→ds[i]?=some d→ms[i]?=some m→MI ro h X q.1 q.2 (er d) m
 dis:∀ (i j:Nat) q r,qs[i]?=some q→qs[j]?=some r→i≠j→∀ k∈mU q,k ∉ mU r
section
variable {ro:Ro}{h h':T Obj}{X X':List Nat}{qs:List MqD}{ds:List AutoD}{ms:List MacD}
theorem MsX.subX (hm:MsX ro h X qs ds ms) (hs:Sub h h'):MsX ro h' X qs ds ms:=⟨hm.lq,hm.lm,fun i q d m h1 h2 h3=>(hm.at_ i q d m h1 h2 h3).subX jR hs,hm.dis⟩
theorem MsX.keep {ids:List Nat} (hm:MsX ro h X qs ds ms) (hs:dM ids h h') (h1:∀ k∈ids,k∈X) (h2:∀ q∈qs,∀ k∈ids,k ∉ mU q) (h3:∀ k∈X',k∈X∨h.get k=none) (h4:∀ k∈X,k∈X'):MsX ro h' X' qs ds ms :=
 ⟨hm.lq,hm.lm,fun i q d m g1 g2 g3=>(hm.at_ i q d m g1 g2 g3).keep jR hs h1 (fun k hk=>by
  have:=h2 q (List.mem_of_getElem? g1) k hk
  exact⟨fun e=>this (by rw[e]; exact List.mem_cons_self ..),fun e=>this (List.mem_cons_of_mem _ e)⟩) h3 h4,hm.dis⟩
theorem MsX.step (hm:MsX ro h X qs ds ms) {i:Nat}{q:MqD}{d:AutoD}{m':MacD} (hq:qs[i]?=some q) (hd:ds[i]?=some d) (hk:dM (q.1::j5 q.2) h h') (hX:∀ k∈mU q,k∈X) (hn:MI ro h' X q.1 q.2 (er d) m'):MsX ro h' X qs ds (ms.set i m'):=by
 refine⟨hm.lq,by rw[List.length_set]; exact hm.lm,fun j r d2 m2 g1 g2 g3=>?_,hm.dis⟩
 have hl:=(List.getElem?_eq_some_iff.1 hq).1
 by_cases hij:i=j
 ·subst hij
  rw[List.getElem?_set_self (by rw[hm.lm,← hm.lq]; exact hl)] at g3
  rw[hq] at g1
  rw[hd] at g2
  cases g1; cases g2; cases g3
  exact hn
 ·rw[List.getElem?_set_ne hij] at g3
  refine (hm.at_ j r d2 m2 g1 g2 g3).keep jR hk hX (fun k hk2=>?_) (fun k hk2=>.inl hk2) fun k hk2=>hk2
  have:=hm.dis i j q r hq g1 hij k hk2
  exact⟨fun e=>this (by rw[e]; exact List.mem_cons_self ..),fun e=>this (List.mem_cons_of_mem _ e)⟩
theorem MsX.inX (hm:MsX ro h X qs ds ms) {i:Nat}{q:MqD} (hq:qs[i]?=some q):∀ k∈mU q,k∈X:=fun k hk=>by
 have hl:=(List.getElem?_eq_some_iff.1 hq).1
 have e1:ds[i]?=some (ds[i]'(by rw[← hm.lq]; exact hl)):=List.getElem?_eq_getElem _
 have e2:ms[i]?=some (ms[i]'(by rw[hm.lm,← hm.lq]; exact hl)):=List.getElem?_eq_getElem _
 exact (hm.at_ i q _ _ hq e1 e2).inX k hk
theorem MsX.nil:MsX ro h X [] [] []:=⟨rfl,rfl,fun i q d m h1=>by simp at h1,fun i j q r h1=>by simp at h1⟩
theorem MsX.snoc (hm:MsX ro h X qs ds ms) {q:MqD}{d:AutoD}{m:MacD} (hn:MI ro h X q.1 q.2 (er d) m) (hd:∀ r∈qs,∀ k∈mU r,k ∉ mU q):MsX ro h X (qs++[q]) (ds++[d]) (ms++[m]):=by
 have l1:=hm.lq
 have l2:=hm.lm
 refine⟨by simp[l1],by simp[l2],fun i q2 d2 m2 g1 g2 g3=>?_,fun i j q2 r g1 g2 hij k hk=>?_⟩
 ·rcases Nat.lt_or_ge i qs.length with hi | hi
  ·rw[List.getElem?_append_left hi] at g1
   rw[List.getElem?_append_left (by omega)] at g2 g3
   exact hm.at_ i q2 d2 m2 g1 g2 g3
  ·rw[List.getElem?_append_right hi] at g1
   rw[List.getElem?_append_right (by omega)] at g2 g3
   have hi0:i - qs.length=0:=by
    rcases Nat.eq_zero_or_pos (i - qs.length) with h0 | h0
    ·exact h0
    ·rw[List.getElem?_eq_none (by simp; omega)] at g1; cases g1
   rw[hi0] at g1
   rw[show i - ds.length=0 by omega] at g2
   rw[show i - ms.length=0 by omega] at g3
   simp at g1 g2 g3
   subst g1; subst g2; subst g3
   exact hn
 ·have key:∀ {i:Nat} {q2:MqD},(qs++[q])[i]?=some q2→(i < qs.length∧qs[i]?=some q2)∨(i=qs.length∧q2=q):=fun {i q2} g=>by
   rcases Nat.lt_or_ge i qs.length with hi | hi
   ·rw[List.getElem?_append_left hi] at g; exact .inl ⟨hi,g⟩
   ·rw[List.getElem?_append_right hi] at g
    rcases Nat.eq_zero_or_pos (i - qs.length) with h0 | h0
    ·rw[h0] at g; simp at g; exact .inr ⟨by omega,g.symm⟩
    ·rw[List.getElem?_eq_none (by simp; omega)] at g; cases g
  rcases key g1 with ⟨i1,i2⟩ | ⟨i1,rfl⟩
  ·rcases key g2 with ⟨j1,j2⟩ | ⟨j1,rfl⟩
   ·exact hm.dis i j q2 r i2 j2 hij k hk
   ·exact hd q2 (List.mem_of_getElem? i2) k hk
  ·rcases key g2 with ⟨j1,j2⟩ | ⟨j1,_⟩
   ·intro hk2
    exact hd r (List.mem_of_getElem? j2) k hk2 hk
   ·omega
end
def aAS (l:List ByteArray):List (List Value):=l.map fun s=>[Value.string s]
theorem zI (l:List ByteArray):(aAS l).length=l.length:=by simp[aAS]
theorem aFw {l:List ByteArray}{i:Nat} (hi:i < l.length):(aAS l)[i]?=some [.string l[i]]:=by simp[aAS,hi]
def sR (qs:List MqD):List (List Value):=qs.map fun q=>[ptr q.1]
theorem aBw (l:List MqD):(sR l).length=l.length:=by simp[sR]
theorem aLU {l:List MqD}{i:Nat} (hi:i < l.length):(sR l)[i]?=some [ptr l[i].1]:=by simp[sR,hi]
def pO (ro:Ro) (h:T Obj) (x:List Value) (e:EntD):Prop:=∃ rv,x[259]?=some rv∧Sl ro h rv 1 (kK e.rules)
theorem pO.sub {ro:Ro}{h h':T Obj} (hs:Sub h h'):∀ x e,pO ro h x e→pO ro h' x e:=fun x e ⟨rv,h1,h2⟩=>⟨rv,h1,h2.sub hs⟩
def scL (kv tv ev mv:Value) (most:Int) (bv:Value) (s:ScD) (er_:Int):List Value :=
 [cX,kv,tv,ev,mv,.int .i64 most,bv,.int .i64 (s.at_:Int),.bool s.line,.int .i64 (s.cond:Int),.int .i64 (s.took:Int),.int .i64 (s.held:Int),.int .i64 s.rule,.int .i64 er_,.bool s.closed,.int .i64 (s.steps:Int)]
def ScX (ro:Ro) (h:T Obj) (X:List Nat) (p:Nat) (qs:List MqD) (T:TabD) (most er_:Int) (s:ScD):Prop:=∃ kv tv ev mv bv,h.get p=some (.cells (scL kv tv ev mv most bv s er_).toArray aQ) ∧
 Sl ro (del h X) kv 1 (aAS T.kinds)∧Sl ro (del h X) tv 1 (kK T.to)∧SlR ro (del h X) ev 260 (pO ro (del h X)) T.entries∧Sl ro (del h X) mv 1 (sR qs)∧Sl ro (del h X) bv 1 (bU s.kept)∧MsX ro h X qs (T.entries.map (·.a)) s.ms∧p∈X∧∀ q∈qs,p ∉ mU q
section
variable {ro:Ro}{h h':T Obj}{X X':List Nat}{p:Nat}{qs:List MqD}{T:TabD}{most er_:Int}{s:ScD}
theorem ScX.sub (hm:ScX ro h X p qs T most er_ s) (hs:Sub h h') (h3:∀ k∈X',k∈X∨h.get k=none) (h4:∀ k∈X,k∈X'):ScX ro h' X' p qs T most er_ s:=by
 obtain⟨kv,tv,ev,mv,bv,g1,g2,g3,g4,g5,g6,g7,g8,g9⟩:=hm
 have hD:Sub (del h X) (del h' X'):=dM.del (ids:=[]) hs.keepL (fun k hk=>by cases hk) h3
 exact⟨kv,tv,ev,mv,bv,hs _ _ g1,g2.sub hD,g3.sub hD,g4.sub hD (pO.sub hD),g5.sub hD,g6.sub hD,g7.keep (ids:=[]) hs.keepL (fun k hk=>by cases hk) (fun q hq k hk=>by cases hk) h3 h4,h4 p g8,g9⟩
theorem ScX.step (hm:ScX ro h X p qs T most er_ s) {i:Nat}{q:MqD}{d:AutoD}{m':MacD} (hq:qs[i]?=some q) (hd:(T.entries.map (·.a))[i]?=some d) (hk:dM (q.1::j5 q.2) h h') (hn:MI ro h' X q.1 q.2 (er d) m'):ScX ro h' X p qs T most er_ { s with ms:=s.ms.set i m' }:=by
 obtain⟨kv,tv,ev,mv,bv,g1,g2,g3,g4,g5,g6,g7,g8,g9⟩:=hm
 have hX:=g7.inX hq
 have hD:Sub (del h X) (del h' X):=hk.del hX fun k hk=>.inl hk
 have hp:=hk p _ g1 (g9 q (List.mem_of_getElem? hq))
 exact⟨kv,tv,ev,mv,bv,hp,g2.sub hD,g3.sub hD,g4.sub hD (pO.sub hD),g5.sub hD,g6.sub hD,g7.step hq hd hk hX hn,g8,g9⟩
theorem ScX.upd (hm:ScX ro h X p qs T most er_ s) {er':Int}{s':ScD} (hms:s'.ms=s.ms) (hb:s'.kept=s.kept):∃ kv tv ev mv bv,h.get p=some (.cells (scL kv tv ev mv most bv s er_).toArray aQ)∧ScX ro (h.upd p (some (.cells (scL kv tv ev mv most bv s' er').toArray aQ))) X p qs T most er' s':=by
 obtain⟨kv,tv,ev,mv,bv,g1,g2,g3,g4,g5,g6,g7,g8,g9⟩:=hm
 have hk:dM [p] h (h.upd p (some (.cells (scL kv tv ev mv most bv s' er').toArray aQ))):=((Sub.refl _).keepL).upd (by simp)
 have hX:∀ k∈[p],k∈X:=fun k hk=>by simp at hk; subst hk; exact g8
 have hD:Sub (del h X) (del (h.upd p (some (.cells (scL kv tv ev mv most bv s' er').toArray aQ))) X):=hk.del hX fun k hk=>.inl hk
 refine⟨kv,tv,ev,mv,bv,g1,kv,tv,ev,mv,bv,V.T.get_upd_same _ _ _,g2.sub hD,g3.sub hD,g4.sub hD (pO.sub hD),g5.sub hD,by rw[hb]; exact g6.sub hD,?_,g8,g9⟩
 rw[hms]
 exact g7.keep hk hX (fun q hq k hk=>by simp at hk; subst hk; exact g9 q hq) (fun k hk=>.inl hk) fun k hk=>hk
end
end V
end Go.Proofs.YtcaccnneblghgaaGreat
namespace Go.Proofs.YtcaccnneblghgaaGreat
namespace V
attribute [local irreducible] aB ifP aR cT eQ exP cO
theorem aLI (id off z:Nat):yA .eql (at_ id off z) (.pointer none)=some (.bool false):=rfl
section
variable {ro:Ro}{h:T Obj}{nx:Nat}{K:KV}
end
section
variable {ro:Ro}{h:T Obj}{nx:Nat}{K:KV}{X:List Nat}{p:Nat}{qs:List MqD}{T:TabD}{most er_:Int}{s:ScD}
theorem aCc (hm:ScX ro h X p qs T most er_ s) (hK:∀ nx',nx≤nx'→K (.int .i64 (s.cond:Nat)) h nx'):aN Tryz.prog ro jW [ptr p] h nx K:=by
 obtain⟨kv,tv,ev,mv,bv,g1,g2,g3,g4,g5,g6,g7,g8,g9⟩:=hm
 apply yS
 unfold tQ
 have l9:=aZ (ro:=ro) (z:=0) g1 (show (scL kv tv ev mv most bv s er_)[9]?=some (.int .i64 (s.cond:Int)) from rfl)
 (repeat(first|refine aA (by simp (disch:=first|omega|exact nnN _|assumption) only [BB,B2,↓reduceIte,Nat.reduceLeDiff,Nat.reduceAdd,CC,aLI,bC,l9]<;>rfl) ?_|apply aD|apply aE|with_reducible first|apply aG|apply aF|apply aK|apply aH|apply aJ|apply aI|apply aL|apply aC))
 exact⟨h,Sub.refl _,hK _ (by omega)⟩
theorem aCd (hm:ScX ro h X p qs T most er_ s) (hK:∀ nx',nx≤nx'→K (.int .i64 (s.kept.length:Nat)) h nx'):aN Tryz.prog ro jX [ptr p] h nx K:=by
 obtain⟨kv,tv,ev,mv,bv,g1,g2,g3,g4,g5,g6,g7,g8,g9⟩:=hm
 apply yU
 unfold tS
 have l6:=aZ (ro:=ro) (z:=0) g1 (show (scL kv tv ev mv most bv s er_)[6]?=some bv from rfl)
 have hl:=g6.len
 rw[dL] at hl
 (repeat(first|refine aA (by simp (disch:=first|omega|exact nnN _|assumption) only [BB,B2,↓reduceIte,Nat.reduceLeDiff,Nat.reduceAdd,CC,aLI,bC,l6,hl]<;>rfl) ?_|apply aD|apply aE|with_reducible first|apply aG|apply aF|apply aK|apply aH|apply aJ|apply aI|apply aL|apply aC))
 exact⟨h,Sub.refl _,hK _ (by omega)⟩
def aI5 (er_:Int) (closed:Bool):Int:=if er_=0∧closed=true then 181 else er_
theorem yW (hm:ScX ro h X p qs T most er_ s) (hK:∀ nx',nx≤nx'→K (.int .i64 (aI5 er_ s.closed)) h nx'):aN Tryz.prog ro iD [ptr p] h nx K:=by
 obtain⟨kv,tv,ev,mv,bv,g1,g2,g3,g4,g5,g6,g7,g8,g9⟩:=hm
 apply vF
 unfold p8
 have l13:=aZ (ro:=ro) (z:=0) g1 (show (scL kv tv ev mv most bv s er_)[13]?=some (.int .i64 er_) from rfl)
 have l14:=aZ (ro:=ro) (z:=0) g1 (show (scL kv tv ev mv most bv s er_)[14]?=some (.bool s.closed) from rfl)
 by_cases he:er_=0
 ·cases hc:s.closed with
  | true =>
   rw[hc] at l14
   have:aI5 er_ s.closed=181:=if_pos ⟨he,hc⟩
   rw[this] at hK
   (repeat(first|refine aA (by simp (disch:=first|omega|exact nnN _|assumption) only [BB,B2,↓reduceIte,Nat.reduceLeDiff,Nat.reduceAdd,CC,aLI,bC,l13,l14]<;>rfl) ?_|apply aD|apply aE|with_reducible first|apply aG|apply aF|apply aK|apply aH|apply aJ|apply aI|apply aL|apply aC))
   exact⟨h,Sub.refl _,hK _ (by omega)⟩
  | false =>
   rw[hc] at l14
   have:aI5 er_ s.closed=er_:=if_neg fun e=>by rw[hc] at e; exact absurd e.2 (by decide)
   rw[this] at hK
   (repeat(first|refine aA (by simp (disch:=first|omega|exact nnN _|assumption) only [BB,B2,↓reduceIte,Nat.reduceLeDiff,Nat.reduceAdd,CC,aLI,bC,l13,l14]<;>rfl) ?_|apply aD|apply aE|with_reducible first|apply aG|apply aF|apply aK|apply aH|apply aJ|apply aI|apply aL|apply aC))
   exact⟨h,Sub.refl _,hK _ (by omega)⟩
 ·have:aI5 er_ s.closed=er_:=if_neg fun e=>he e.1
  rw[this] at hK
  (repeat(first|refine aA (by simp (disch:=first|omega|exact nnN _|assumption) only [BB,B2,↓reduceIte,Nat.reduceLeDiff,Nat.reduceAdd,CC,aLI,bC,l13,l14]<;>rfl) ?_|apply aD|apply aE|with_reducible first|apply aG|apply aF|apply aK|apply aH|apply aJ|apply aI|apply aL|apply aC))
  exact⟨h,Sub.refl _,hK _ (by omega)⟩
theorem aB3 (hm:ScX ro h X p qs T most er_ s) (hc:s.cond≤1000000) (hK:∀ nx',nx≤nx'→K (.int .i64 (qU s:Nat)) h nx'):aN Tryz.prog ro jI [ptr p] h nx K:=by
 obtain⟨kv,tv,ev,mv,bv,g1,g2,g3,g4,g5,g6,g7,g8,g9⟩:=hm
 apply xC
 unfold s5
 have l8:=aZ (ro:=ro) (z:=0) g1 (show (scL kv tv ev mv most bv s er_)[8]?=some (.bool s.line) from rfl)
 have l9:=aZ (ro:=ro) (z:=0) g1 (show (scL kv tv ev mv most bv s er_)[9]?=some (.int .i64 (s.cond:Int)) from rfl)
 cases hl:s.line with
 | true =>
  rw[hl] at l8
  have:((qU s:Nat):Int)=2*(s.cond:Int)+1:=by unfold qU; rw[hl]; simp
  rw[this] at hK
  (repeat(first|refine aA (by simp (disch:=first|omega|exact nnN _|assumption) only [BB,B2,↓reduceIte,Nat.reduceLeDiff,Nat.reduceAdd,CC,bC,l8,l9]<;>rfl) ?_|apply aD|apply aE|with_reducible first|apply aG|apply aF|apply aK|apply aH|apply aJ|apply aI|apply aL|apply aC))
  exact⟨h,Sub.refl _,hK _ (by omega)⟩
 | false =>
  rw[hl] at l8
  have:((qU s:Nat):Int)=2*(s.cond:Int):=by unfold qU; rw[hl]; simp
  rw[this] at hK
  (repeat(first|refine aA (by simp (disch:=first|omega|exact nnN _|assumption) only [BB,B2,↓reduceIte,Nat.reduceLeDiff,Nat.reduceAdd,CC,bC,l8,l9]<;>rfl) ?_|apply aD|apply aE|with_reducible first|apply aG|apply aF|apply aK|apply aH|apply aJ|apply aI|apply aL|apply aC))
  exact⟨h,Sub.refl _,hK _ (by omega)⟩
end
end V
end Go.Proofs.YtcaccnneblghgaaGreat
namespace Go.Proofs.YtcaccnneblghgaaGreat
namespace V
theorem zX {z:Nat}:∀ {l:List (List Value)} (n:Nat),(∀ x∈l,x.length=z)→l.flatten.drop (n*z)=(l.drop n).flatten
 | [],n,_=>by simp
 | y::r,0,_=>by simp
 | y::r,n+1,hz=>by
  have hy:=hz y (by simp)
  rw[List.drop_succ_cons,List.flatten_cons,Nat.succ_mul,show n*z+z=y.length+n*z by omega,List.drop_append,List.drop_of_length_le (Nat.le_add_right _ _),List.nil_append,Nat.add_sub_cancel_left]
  exact zX n fun x hx=>hz x (by simp[hx])
theorem aBC {z:Nat}:∀ {l:List (List Value)},(∀ x∈l,x.length=z)→l.flatten.length=l.length*z
 | [],_=>by simp
 | y::r,hz=>by
  rw[List.flatten_cons,List.length_append,aBC fun x hx=>hz x (by simp[hx]),hz y (by simp),List.length_cons,Nat.succ_mul]; omega
theorem Sl.drop {P:Program}{t e:TypeId}{ro:Ro}{h:T Obj}{v:Value}{z:Nat}{l:List (List Value)} (hl:Sl ro h v z l) (hu:und P t=some (.slice e)) (hz:siz P e=some z) {n:Nat} (hn:n≤l.length) (k:IntKind) :
  ∃ r,lT P t v (some (.int k (n:Int))) none none=some r∧Sl ro h r z (l.drop n):=by
 have hnv:mH (.int k (n:Int))=some n:=by simp[mH]
 rcases hl with ⟨rfl,rfl⟩ | ⟨a,cap,rfl,h2,h3,h4⟩
 ·simp at hn; subst hn
  refine⟨.slice none 0 0,?_,.inl ⟨rfl,rfl⟩⟩
  unfold lT
  simp[hu,hz,i8,mH]
 ·have hb1:Nat.ble l.length cap=true:=Nat.ble_eq_true_of_le h2
  have hbn:Nat.ble n l.length=true:=Nat.ble_eq_true_of_le hn
  have e1:i8 none cap cap=some cap:=rfl
  have e2:i8 none l.length cap=some l.length:=rfl
  have e3:i8 (some (.int k (n:Int))) 0 l.length=some n:=by simp[i8,hnv,hbn]
  have hlen:(l.drop n).length=l.length - n:=List.length_drop
  have hk:n*z+(l.length - n)*z≤l.length*z:=by rw[← Nat.add_mul]; exact Nat.mul_le_mul_right _ (by omega)
  have hp:=nT h4.2 hk
  rw[zX n h4.1] at hp
  have hl2:(l.drop n).flatten.length=(l.length - n)*z:=by rw[aBC fun x hx=>h4.1 x (List.mem_of_mem_drop hx),hlen]
  rw[List.take_of_length_le (by rw[hl2]; exact Nat.le_refl _)] at hp
  unfold lT
  simp only[hu,hz,Option.bind,e1,e2,e3,hb1,Option.isNone,Bool.true_or]
  rcases h3 with h3 | h3
  ·simp only[h3]
   cases hc:Nat.beq cap n with
   | true =>
    have hcn:cap=n:=Nat.eq_of_beq_eq_true hc
    have hd:l.drop n=[]:=List.drop_of_length_le (by omega)
    refine⟨_,rfl,.inr ⟨a,cap - n,by rw[hlen],by rw[hlen]; omega,.inl h3,fun x hx=>(by rw[hd] at hx; cases hx),?_⟩⟩
    have h0:=nT (off:=0) (k:=0) h4.2 (Nat.zero_le _)
    have e:elt a 0=a:=by obtain⟨b,o,sp⟩:=a; change sp=none at h3; subst h3; rfl
    rw[e] at h0
    rw[hd]
    simpa using h0
   | false =>
    refine⟨_,rfl,.inr ⟨V.fwd a (n*z),cap - n,by rw[hlen],by rw[hlen]; omega,.inl h3,fun x hx=>h4.1 x (List.mem_of_mem_drop hx),?_⟩⟩
    have e:elt a (n*z)=V.fwd a (n*z):=by obtain⟨b,o,sp⟩:=a; change sp=none at h3; subst h3; rfl
    rw[e] at hp
    rw[hlen]; exact hp
  ·simp only[h3,Nat.beq_refl]
   refine⟨_,rfl,.inr ⟨V.fwd a (n*z),cap - n,by rw[hlen],by rw[hlen]; omega,.inr h3,fun x hx=>h4.1 x (List.mem_of_mem_drop hx),?_⟩⟩
   rw[hlen]
   unfold cellsAt at hp ⊢
   simp only[elt,V.fwd,h3,Option.map] at hp ⊢
   exact hp
end V
end Go.Proofs.YtcaccnneblghgaaGreat
namespace Go.Proofs.YtcaccnneblghgaaGreat
namespace V
attribute [local irreducible] aB ifP aR cT eQ exP cO
theorem aAw {ro:Ro}{v f:Value}{D:Type}{l:List D}{R:List Value→D→Prop}{q:D→Bool} (hlen:l.length≤1000000) {h:T Obj}{nx:Nat}{K:KV} (hv:SlR ro h v 260 R l)
  (hf:∀ (i:Nat) (hi:i < l.length) x n K',R x l[i]→nx≤n→(∀ n',n≤n'→K' (.bool (q l[i])) h n')→xK (aN Tryz.prog ro) f [.agg x.toArray] h n K')
  (hK:∀ nx',nx≤nx'→K (.int .i64 (oY q 0 l)) h nx'):aN Tryz.prog ro fC [v,f] h nx K:=by
 apply lD
 unfold iB
 generalize hR:oY q 0 l=r at hK
 refine aA hv.len ?_
 refine bE (fun j e h' nx'=>∃ (k:Nat),k+j=l.length∧nx≤nx'∧h'=h∧e 0=v∧e 1=f∧e 7=.int .i64 l.length∧e 8=.int .i64 k∧oY q k (l.drop k)=r) ?_ (n:=l.length) ⟨0,by omega,by omega,rfl,rfl,rfl,rfl,rfl,hR⟩
 rintro j e h' nx' ⟨k,hj,hnx,rfl,e0,e1,e7,e8,hr⟩ Q' hq hx
 unfold gR
 rw[e0,e1,e7,e8]
 refine cV (fun hk=>?_) (fun hk=>?_)
 ·have hk:k < l.length:=by omega
  rw[bX hk,nF] at hr
  obtain⟨x,hx1,hx2,hx3,hx4,hx5⟩:=hv.at hk
  (repeat(first|refine zzB ?_|apply aD|apply aE|with_reducible first|apply aG|apply aF|apply aK|apply aH|apply aJ|apply aI|apply aL|apply aC))
  refine aA (hv.ix _ hk) (aA hx3 ?_)
  refine hf k hk x _ _ hx1 (by omega) fun n hn=>?_
  cases hc:q l[k] with
  | true =>
   rw[hc,if_pos rfl] at hr
   (repeat(first|refine zzB ?_|apply aD|apply aE|with_reducible first|apply aG|apply aF|apply aK|apply aH|apply aJ|apply aI|apply aL|apply aC))
   refine hx _ _ _ _ (fun e=>by cases e) (eS ?_)
   exact⟨_,Sub.refl _,ki hK hr.symm (by omega)⟩
  | false =>
   rw[hc,if_neg (by decide)] at hr
   (repeat(first|refine zzB ?_|apply aD|apply aE|with_reducible first|apply aG|apply aF|apply aK|apply aH|apply aJ|apply aI|apply aL|apply aC))
   exact hq (j - 1) _ _ _ _ (by omega) ⟨k+1,by omega,by omega,rfl,e0,e1,e7,rfl,hr⟩ (Sub.refl _)
 ·(repeat(first|refine zzB ?_|apply aD|apply aE|with_reducible first|apply aG|apply aF|apply aK|apply aH|apply aJ|apply aI|apply aL|apply aC))
  refine hx _ _ _ _ (fun e=>by cases e) (eD (cQ ?_))
  unfold eZ
  rw[gJ (by omega)] at hr
  exact⟨_,Sub.refl _,ki hK hr.symm (by omega)⟩
theorem xQ {ro:Ro}{v f:Value}{D:Type}{l:List D}{R:List Value→D→Prop}{q:D→Bool} (hlen:l.length≤1000000) {h:T Obj}{nx:Nat}{K:KV} (hv:SlR ro h v 260 R l)
  (hf:∀ (i:Nat) (hi:i < l.length) x n K',R x l[i]→nx≤n→(∀ n',n≤n'→K' (.bool (q l[i])) h n')→xK (aN Tryz.prog ro) f [.agg x.toArray] h n K')
  (hK:∀ nx',nx≤nx'→K (.bool (l.any q)) h nx'):aN Tryz.prog ro eN [v,f] h nx K:=by
 apply kQ
 unfold gP
 refine aAw hlen hv (fun i hi x n K' hx hn hk=>hf i hi x n K' hx (by omega) hk) fun n hn=>?_
 rw[← zC q l 0 (by omega)] at hK
 (first | refine cV (fun hb=>?_) (fun hb=>?_) | refine aDt (fun hb=>?_) (fun hb=>?_) | refine lK (fun hb=>?_) (fun hb=>?_) | refine uY (fun hb=>?_) (fun hb=>?_) | refine sD (fun hb=>?_) (fun hb=>?_) | refine pW (fun hb=>?_) (fun hb=>?_))
 ·exact⟨_,Sub.refl _,kb hK (decide_eq_true hb) (by omega)⟩
 ·exact⟨_,Sub.refl _,kb hK (decide_eq_false (by omega)) (by omega)⟩
theorem aNx (h:T Obj) (ts:Array TypeId) (a b:Int):eH Tryz.prog h .max ts [.int .i64 a,.int .i64 b]=some (.int .i64 (max a b)):=by
 unfold eH
 simp only[aG7,aMj,aIF]
 by_cases e:a < b
 ·simp only[e,decide_true]; congr 2; omega
 ·simp only[e,decide_false]; congr 2; omega
theorem aHj {n:Int}:∀ (l:List Int) (x:Int),decide (n≤l.foldl max x)=(decide (n≤x) || l.any fun r=>decide (n≤r))
 | [],x=>(Bool.or_false _).symm
 | y::l,x=>by
  rw[List.foldl_cons,aHj l,List.any_cons,← Bool.or_assoc]
  congr 1
  by_cases h1:n≤x
  ·rw[decide_eq_true h1,decide_eq_true (show n≤max x y by omega)]; rfl
  ·by_cases h2:n≤y
   ·rw[decide_eq_false h1,decide_eq_true h2,decide_eq_true (show n≤max x y by omega)]; rfl
   ·rw[decide_eq_false h1,decide_eq_false h2,decide_eq_false (show ¬n≤max x y by omega)]; rfl
section
variable {ro:Ro}{h:T Obj}{nx:Nat}{K:KV}
set_option maxRecDepth 4000 in
theorem aGz {v:Value}{x:Int}{l:List Int} (hl:l.length≤1000000) (hv:Sl ro h v 1 (kK (x::l))) (hK:∀ nx',nx≤nx'→K (.int .i64 (l.foldl max x)) h nx'):aN Tryz.prog ro lO [v] h nx K:=by
 have hlen:=hv.len
 rw[eP,List.length_cons] at hlen
 apply xE
 unfold s8
 have h0x:=hv.ix .i64 (i:=0) (by rw[eP]; simp)
 have h0l:=hv.load1 (j9 (l:=x::l) (i:=0) (by simp))
 have hz:((0:Nat):Int)=0:=rfl
 rw[hz] at h0x
 refine aA hlen ?_
 (repeat(first|refine zzB ?_|apply aD|apply aE|with_reducible first|apply aG|apply aF|apply aK|apply aH|apply aJ|apply aI|apply aL|apply aC))
 have key:∀ (e:Env) n,nx≤n→e 0=v→lA ro K e h n:=by
  intro e n hn e0
  unfold lA
  rw[e0]
  refine aA h0x (aA h0l ?_)
  refine bE (fun j e h' nx'=>∃ (k:Nat) (m:Int),k+j=(x::l).length∧1≤k∧nx≤nx'∧h'=h∧e 0=v∧e 3=.int .i64 m∧e 4=.int .i64 k∧((x::l).drop k).foldl max m=l.foldl max x) ?_ (n:=l.length) ⟨1,x,by rw[List.length_cons]; omega,by omega,by omega,rfl,e0,rfl,rfl,rfl⟩
  rintro j e' h' nx' ⟨k,m,hj,hk1,hnx,rfl,f0,f3,f4,hr⟩ Q' hq hx
  unfold o6
  rw[f0,f3,f4]
  refine aA hlen ?_
  rw[List.length_cons] at hj
  refine cV (fun hk=>?_) (fun hk=>?_)
  ·have hk:k < (x::l).length:=by rw[List.length_cons]; omega
   have hkx:=hv.ix .i64 (i:=k) (by rw[eP]; exact hk)
   have hkl:=hv.load1 (j9 (l:=x::l) (i:=k) hk)
   rw[bX hk,List.foldl_cons] at hr
   generalize (x::l)[k]=y at hr hkl
   (repeat(first|refine zzB ?_|apply aD|apply aE|with_reducible first|apply aG|apply aF|apply aK|apply aH|apply aJ|apply aI|apply aL|apply aC))
   refine aA hkx (aA hkl (aA (aNx _ _ _ _) ?_))
   (repeat(first|refine zzB ?_|apply aD|apply aE|with_reducible first|apply aG|apply aF|apply aK|apply aH|apply aJ|apply aI|apply aL|apply aC))
   exact hq (j - 1) _ _ _ _ (by omega) ⟨k+1,max m y,by rw[List.length_cons]; omega,by omega,by omega,rfl,f0,rfl,rfl,hr⟩ (Sub.refl _)
  ·(repeat(first|refine zzB ?_|apply aD|apply aE|with_reducible first|apply aG|apply aF|apply aK|apply aH|apply aJ|apply aI|apply aL|apply aC))
   refine hx _ _ _ _ (fun e=>by cases e) (eD (cQ ?_))
   have hm:m=l.foldl max x:=by rw[← hr,List.drop_of_length_le (by rw[List.length_cons]; omega)]; rfl
   have hend:∀ (e9:Env) n',nx≤n'→e9 3=.int .i64 m→i0 ro K e9 h' n':=by
    intro e9 n' hn f
    unfold i0
    rw[f,hm]
    exact⟨_,Sub.refl _,hK _ (by omega)⟩
   exact hend _ _ (by omega) f3
 exact key _ _ (by omega) rfl
end
end V
end Go.Proofs.YtcaccnneblghgaaGreat
namespace Go.Proofs.YtcaccnneblghgaaGreat
namespace V
attribute [local irreducible] aB ifP aR cT eQ exP cO
section
variable {ro:Ro}{h:T Obj}{nx:Nat}{K:KV}
set_option maxRecDepth 8000 in
theorem aGX {lv rv uv nv xrv:Value}{s:StateD}{x:List Value}{rules:List Int}{i1:Nat} (hne:s.rule≠[]) (hsl:s.rule.length≤1000000) (hf:Fr h nx) (g1:h.get i1=some (.cells x.toArray cN)) (m1:x[259]?=some xrv) (hrl:Sl ro h xrv 1 (kK rules)) (hru:rules.length≤kN) (hu:ZI ro h uv s.rule)
  (hK:∀ nx',nx≤nx'→K (.bool (s.rule.any fun r=>decide ((rules.length:Int)≤r))) h nx'):aN Tryz.prog ro vT [.agg #[lv,rv,uv,nv],ptr i1] h nx K:=by
 have hru:rules.length≤9223372036854775807:=hru
 apply aEx
 unfold aDk
 refine eJ hf (Nat.le_refl _) fun h1 hs1 hf1 g3 _=>?_
 have g3:h1.get nx=some (.cells [lv,rv,uv,nv].toArray bD):=g3
 have m2:[lv,rv,uv,nv][2]?=some uv:=rfl
 have g1':=hs1 _ _ g1
 have hlen:=(hrl.sub hs1).len
 rw[eP] at hlen
 (repeat(first|refine zzB ?_|apply aD|apply aE|with_reducible first|apply aG|apply aF|apply aK|apply aH|apply aJ|apply aI|apply aL|apply aC))
 refine aA (aZ g3 m2) ?_
 cases hq:s.rule with
 | nil=>exact absurd hq hne
 | cons y r =>
  rw[hq] at hsl
  have hu1:Sl ro h1 uv 1 (kK (y::r)):=by rw[← hq]; exact (hu.sub hs1:ZI ro h1 uv s.rule)
  refine aGz (by rw[List.length_cons] at hsl; omega) hu1 fun n2 hn2=>?_
  have hany:(s.rule.any fun r=>decide ((rules.length:Int)≤r))=decide ((rules.length:Int)≤r.foldl max y):=by
   rw[hq,List.any_cons,aHj]
  rw[hany] at hK
  (repeat(first|refine zzB ?_|apply aD|apply aE|with_reducible first|apply aG|apply aF|apply aK|apply aH|apply aJ|apply aI|apply aL|apply aC))
  refine aA (aZ g1' m1) ⟨fT g1' g1',aA hlen ?_⟩
  by_cases hc:(rules.length:Int)≤r.foldl max y
  ·rw[decide_eq_true hc] at hK
   (repeat(first|refine zzB ?_|apply aD|apply aE|with_reducible first|apply aG|apply aF|apply aK|apply aH|apply aJ|apply aI|apply aL|apply aC))
   exact⟨h,hs1,hK _ (by omega)⟩
  ·rw[decide_eq_false hc] at hK
   (repeat(first|refine zzB ?_|apply aD|apply aE|with_reducible first|apply aG|apply aF|apply aK|apply aH|apply aJ|apply aI|apply aL|apply aC))
   exact⟨h,hs1,hK _ (by omega)⟩
theorem aJx {m:Nat} (h:m≤3):j6 (m:Int)≤27:=by
 have:m=0∨m=1∨m=2∨m=3:=by omega
 rcases this with rfl | rfl | rfl | rfl<;>decide
theorem aPA {m:Nat} (h:m≤3):1≤j6 (m:Int):=by
 have:m=0∨m=1∨m=2∨m=3:=by omega
 rcases this with rfl | rfl | rfl | rfl<;>decide
theorem aGA {α:Type}{p q:α→Bool}:∀ {l:List α},(∀ x∈l,q x=!p x)→l.all p=!(l.any q)
 | [],_=>rfl
 | y::l,hpq=>by
  rw[List.all_cons,List.any_cons,hpq y (by simp),aGA fun x hx=>hpq x (by simp[hx])]
  cases p y<;>simp
set_option maxRecDepth 8000 in
set_option maxHeartbeats 1000000 in
theorem aJN {x:List Value}{e:EntD}{many:Nat} (hmb:many≤1000000) (hf:Fr h nx) (hd:uP ro h x e) (hK:∀ nx',nx≤nx'→K (.bool (lJ many e)) h nx'):aN Tryz.prog ro aA5 [.agg x.toArray,.int .i64 (many:Int)] h nx K:=by
 obtain⟨cv,sv,rv,hxe,c258,c259,htk,hA,hS,hSl,hR,hRl⟩:=hd.cells
 have hRl9:e.rules.length≤9223372036854775807:=hRl
 have hcl:e.a.c.length=256:=by obtain⟨_,_,_,hc,_⟩:=id hA; exact hc
 apply aHn
 unfold aHm
 refine eJ hf (Nat.le_refl _) fun h1 hs1 hf1 g1 _=>?_
 have g1:h1.get nx=some (.cells x.toArray cN):=g1
 have hR1:=hR.sub hs1
 have hlen:=hR1.len
 rw[eP] at hlen
 (repeat(first|refine zzB ?_|apply aD|apply aE|with_reducible first|apply aG|apply aF|apply aK|apply aH|apply aJ|apply aI|apply aL|apply aC))
 refine aA (aZ g1 c259) (aA hlen ?_)
 refine bE (fun j ev h' nx'=>∃ (k:Nat) (la:Int),k+j=e.rules.length∧nx+1≤nx'∧h'=h1∧ev 1=.int .i64 (many:Int)∧ev 2=ptr nx∧ev 5=.int .i64 la∧ev 9=rv∧ev 10=.int .i64 e.rules.length∧ev 11=.int .i64 k∧rz (-1) many e.rules=rz la many (e.rules.drop k)) ?_ (n:=e.rules.length)
  ⟨0,-1,by omega,by omega,rfl,rfl,rfl,rfl,rfl,rfl,rfl,rfl⟩
 rintro j ev h' nx' ⟨k,la,hj,hnx,rfl,e1,e2,e5,e9,e10,e11,hr⟩ Q' hq hx
 unfold aCV
 rw[e1,e5,e9,e10,e11]
 refine cV (fun hk=>?_) (fun hk=>?_)
 ·have hk:k < e.rules.length:=by omega
  have hix:=hR1.ix .i64 (i:=k) (by rw[eP]; exact hk)
  have hld:=hR1.load1 (j9 (l:=e.rules) (i:=k) hk)
  rw[bX hk] at hr
  generalize e.rules[k]=y at hr hld
  have hr:rz (-1) many e.rules=(decide (la < y)&&(decide (y < many)&&rz y many (e.rules.drop (k+1)))):=hr
  have hno:rz (-1) many e.rules=false→∀ n',nx≤n'→∃ h9,Sub h9 h'∧K (.bool false) h9 n':=fun hz n' hn=>⟨h,hs1,by
   have:lJ many e=false:=by unfold lJ; rw[hz]; rfl
   rw[← this]; exact hK _ hn⟩
  by_cases c1:y≤la
  ·rw[decide_eq_false (show ¬la < y by omega),Bool.false_and] at hr
   (repeat(first|refine aA (by simp (disch:=first|omega|exact nnN _|assumption) only [BB,B2,↓reduceIte,Nat.reduceLeDiff,Nat.reduceAdd,CC,hix,hld]<;>rfl) ?_|apply aD|apply aE|with_reducible first|apply aG|apply aF|apply aK|apply aH|apply aJ|apply aI|apply aL|apply aC))
   refine hx _ _ _ _ (fun e=>by cases e) (eS ?_)
   exact hno hr _ (by omega)
  ·rw[decide_eq_true (show la < y by omega),Bool.true_and] at hr
   by_cases c2:(many:Int)≤y
   ·rw[decide_eq_false (show ¬y < (many:Int) by omega),Bool.false_and] at hr
    (repeat(first|refine aA (by simp (disch:=first|omega|exact nnN _|assumption) only [BB,B2,↓reduceIte,Nat.reduceLeDiff,Nat.reduceAdd,CC,hix,hld]<;>rfl) ?_|apply aD|apply aE|with_reducible first|apply aG|apply aF|apply aK|apply aH|apply aJ|apply aI|apply aL|apply aC))
    refine hx _ _ _ _ (fun e=>by cases e) (eS ?_)
    exact hno hr _ (by omega)
   ·rw[decide_eq_true (show y < (many:Int) by omega),Bool.true_and] at hr
    (repeat(first|refine aA (by simp (disch:=first|omega|exact nnN _|assumption) only [BB,B2,↓reduceIte,Nat.reduceLeDiff,Nat.reduceAdd,CC,hix,hld]<;>rfl) ?_|apply aD|apply aE|with_reducible first|apply aG|apply aF|apply aK|apply aH|apply aJ|apply aI|apply aL|apply aC))
    exact hq (j - 1) _ _ _ _ (by omega) ⟨k+1,y,by omega,by omega,rfl,e1,e2,rfl,e9,e10,rfl,hr⟩ (Sub.refl _)
 ·have hr1:rz (-1) many e.rules=true:=by rw[hr,List.drop_of_length_le (by omega)]; rfl
  have hfit:lJ many e=(fH e.a&&e.a.states.all fun s=>s.rule.all fun r=>decide (r < e.rules.length)):=by unfold lJ; rw[hr1,Bool.true_and]
  (repeat(first|refine zzB ?_|apply aD|apply aE|with_reducible first|apply aG|apply aF|apply aK|apply aH|apply aJ|apply aI|apply aL|apply aC))
  refine hx _ _ _ _ (fun e=>by cases e) (eD (cQ ?_))
  have hend:∀ (ev':Env) n',nx+1≤n'→ev' 2=ptr nx→tL ro K ev' h' n':=by
   intro ev' n' hn f2
   unfold tL
   rw[f2]
   have hld:loadA ro h' 259 (at_ nx 0 0)=some (.agg (eA e.a.c e.a.many cv sv).toArray):=by
    rw[cD,g1,bG]
    simp only[Option.bind_some,tl]
    rw[if_pos (by rw[hd.len]; omega),List.drop_zero,htk]
   (repeat(first|refine zzB ?_|apply aD|apply aE|with_reducible first|apply aG|apply aF|apply aK|apply aH|apply aJ|apply aI|apply aL|apply aC))
   refine aA hld ?_
   refine aAp (hf1.mono (by omega)) (hA.sub hs1) fun n2 hn2=>?_
   cases hok:fH e.a with
   | false =>
    rw[hok,Bool.false_and] at hfit
    (repeat(first|refine zzB ?_|apply aD|apply aE|with_reducible first|apply aG|apply aF|apply aK|apply aH|apply aJ|apply aI|apply aL|apply aC))
    refine⟨h,hs1,?_⟩
    rw[← hfit]; exact hK _ (by omega)
   | true =>
    rw[hok,Bool.true_and] at hfit
    obtain⟨_,_,_,k4,_,k6⟩:=fW hok
    (repeat(first|refine zzB ?_|apply aD|apply aE|with_reducible first|apply aG|apply aF|apply aK|apply aH|apply aJ|apply aI|apply aL|apply aC))
    refine aA (aZ g1 c258) ?_
    refine qD (q:=fun s=>s.rule.any fun r=>decide ((e.rules.length:Int)≤r)) (by omega) (hS.sub hs1 (eG.sub hs1)) (fun i hi y n' K' hy hn' hk'=>?_) fun n' hn'=>?_
    ·obtain⟨lv,rv',uv,nv,rfl,w1,w2,w3,w4,w5⟩:=hy
     have hso:=k6 _ (List.getElem_mem hi)
     obtain⟨p1,p2,p3,p4,p5⟩:=qE hso
     have hcd:=aJx p1
     exact aGX (fun e9=>by have:=aPA p1; rw[e9] at p2; have p2:(0:Int)=_:=p2; omega) (by omega) (hf1.mono (by omega)) g1 c259 hR1 hRl w3 hk'
    ·have hall:(e.a.states.all fun s=>s.rule.all fun r=>decide (r < (e.rules.length:Int)))=!(e.a.states.any fun s=>s.rule.any fun r=>decide ((e.rules.length:Int)≤r)):=aGA fun s _=>by
      rw[aGA (q:=fun r=>decide ((e.rules.length:Int)≤r)) fun r _=>by
       by_cases h9:r < (e.rules.length:Int)
       ·rw[decide_eq_true h9,decide_eq_false (by omega)]; rfl
       ·rw[decide_eq_false h9,decide_eq_true (by omega)]; rfl]
      simp
     rw[hall] at hfit
     (repeat(first|refine zzB ?_|apply aD|apply aE|with_reducible first|apply aG|apply aF|apply aK|apply aH|apply aJ|apply aI|apply aL|apply aC))
     refine⟨h,hs1,?_⟩
     rw[← hfit]; exact hK _ (by omega)
  exact hend _ _ (by omega) e2
end
end V
end Go.Proofs.YtcaccnneblghgaaGreat
namespace Go.Proofs.YtcaccnneblghgaaGreat
namespace V
attribute [local irreducible] aB ifP aR cT eQ exP cO
section
variable {ro:Ro}{h:T Obj}{nx:Nat}{K:KV}
set_option maxRecDepth 8000 in
set_option maxHeartbeats 2000000 in
theorem aGs {x:List Value}{e:EntD}{many:Nat} (hmb:many≤1000000) (hf:Fr h nx) (hd:uP ro h x e) (hK:∀ nx',nx≤nx'→K (.bool (lJ many e)) h nx'):aN Tryz.prog ro vX [.agg x.toArray,.int .i64 (many:Int)] h nx K:=by
 obtain⟨cv,sv,rv,hxe,c258,c259,htk,hA,hS,hSl,hR,hRl⟩:=hd.cells
 have hRl9:e.rules.length≤9223372036854775807:=hRl
 have hcl:e.a.c.length=256:=by obtain⟨_,_,_,hc,_⟩:=id hA; exact hc
 apply aFM
 unfold aEV
 refine eJ hf (Nat.le_refl _) fun h1 hs1 hf1 g1 _=>?_
 have g1:h1.get nx=some (.cells x.toArray cN):=g1
 have hld:loadA ro h1 259 (at_ nx 0 0)=some (.agg (eA e.a.c e.a.many cv sv).toArray):=by
  rw[cD,g1,bG]
  simp only[Option.bind_some,tl]
  rw[if_pos (by rw[hd.len]; omega),List.drop_zero,htk]
 have hR1:=hR.sub hs1
 have hS1:=hS.sub hs1 (eG.sub hs1)
 have hlen:=hR1.len
 rw[eP] at hlen
 have hSlen:=hS1.len
 have l259:=aZ (ro:=ro) (z:=0) g1 c259
 have l258:=aZ (ro:=ro) (z:=0) g1 c258
 (repeat(first|refine zzB ?_|apply aD|apply aE|with_reducible first|apply aG|apply aF|apply aK|apply aH|apply aJ|apply aI|apply aL|apply aC))
 refine aA hld ?_
 refine aFI (hf1.mono (by omega)) (hA.sub hs1) fun n2 hn2=>?_
 have hno:lJ many e=false→∀ n',nx≤n'→∃ h9,Sub h9 h1∧K (.bool false) h9 n':=fun hz n' hn=>⟨h,hs1,by rw[← hz]; exact hK _ hn⟩
 cases hok:fH e.a with
 | false =>
  (repeat(first|refine zzB ?_|apply aD|apply aE|with_reducible first|apply aG|apply aF|apply aK|apply aH|apply aJ|apply aI|apply aL|apply aC))
  exact hno (by unfold lJ; rw[hok]; simp) _ (by omega)
 | true =>
  obtain⟨_,_,_,k4,_,k6⟩:=fW hok
  (repeat(first|refine zzB ?_|apply aD|apply aE|with_reducible first|apply aG|apply aF|apply aK|apply aH|apply aJ|apply aI|apply aL|apply aC))
  refine bE (fun j ev h' nx'=>∃ (k:Nat) (la:Int),k+j=e.rules.length∧nx+1≤nx'∧h'=h1∧ev 1=.int .i64 (many:Int)∧ev 2=ptr nx∧ev 5=.int .i64 k∧-1≤la∧(∀ (hk:0 < k),∃ hl:k - 1 < e.rules.length,e.rules[k - 1]=la∧0≤la)∧(k=0→la=-1)∧rz (-1) many e.rules=rz la many (e.rules.drop k)) ?_ (n:=e.rules.length)
   ⟨0,-1,by omega,by omega,rfl,rfl,rfl,rfl,by omega,fun hk=>by omega,fun _=>rfl,rfl⟩
  rintro j ev h' nx' ⟨k,la,hj,hnx,rfl,e1,e2,e5,hla,hprev,hla0,hr⟩ Q' hq hx
  unfold aAK
  rw[e1,e2,e5]
  (repeat(first|refine zzB ?_|apply aD|apply aE|with_reducible first|apply aG|apply aF|apply aK|apply aH|apply aJ|apply aI|apply aL|apply aC))
  refine aA l259 (aA hlen ?_)
  refine cV (fun hk=>?_) (fun hk=>?_)
  ·have hk:k < e.rules.length:=by omega
   have hix:=hR1.ix .i64 (i:=k) (by rw[eP]; exact hk)
   have hldk:=hR1.load1 (j9 (l:=e.rules) (i:=k) hk)
   rw[bX hk] at hr
   have hyk:e.rules[k]=e.rules[k]:=rfl
   generalize hy:e.rules[k]=y at hr hldk
   have hr:rz (-1) many e.rules=(decide (la < y)&&(decide (y < many)&&rz y many (e.rules.drop (k+1)))):=hr
   have hbad:rz (-1) many e.rules=false→∀ n',nx≤n'→∃ h9,Sub h9 h'∧K (.bool false) h9 n':=fun hz n' hn=>hno (by unfold lJ; rw[hz]; rfl) n' hn
   by_cases c1:y < 0
   ·have hz:rz (-1) many e.rules=false:=by
     by_cases c2:la < y
     ·by_cases hk0:k=0
      ·have:=hla0 hk0; omega
      ·obtain⟨_,_,h0⟩:=hprev (by omega); omega
     ·rw[hr,decide_eq_false c2]; rfl
    (repeat(first|refine aA (by simp (disch:=first|omega|exact nnN _|assumption) only [BB,B2,↓reduceIte,Nat.reduceLeDiff,Nat.reduceAdd,CC,l259,hix,hldk]<;>rfl) ?_|apply aD|apply aE|with_reducible first|apply aG|apply aF|apply aK|apply aH|apply aJ|apply aI|apply aL|apply aC))
    refine hx _ _ _ _ (fun e=>by cases e) (eS ?_)
    exact hbad hz _ (by omega)
   ·by_cases c2:(many:Int)≤y
    ·have hz:rz (-1) many e.rules=false:=by rw[hr,decide_eq_false (show ¬y < (many:Int) by omega)]; simp
     (repeat(first|refine aA (by simp (disch:=first|omega|exact nnN _|assumption) only [BB,B2,↓reduceIte,Nat.reduceLeDiff,Nat.reduceAdd,CC,l259,hix,hldk]<;>rfl) ?_|apply aD|apply aE|with_reducible first|apply aG|apply aF|apply aK|apply aH|apply aJ|apply aI|apply aL|apply aC))
     refine hx _ _ _ _ (fun e=>by cases e) (eS ?_)
     exact hbad hz _ (by omega)
    ·by_cases hk0:k=0
     ·have hl0:=hla0 hk0
      rw[decide_eq_true (show la < y by omega),decide_eq_true (show y < (many:Int) by omega),Bool.true_and,Bool.true_and] at hr
      (repeat(first|refine aA (by simp (disch:=first|omega|exact nnN _|assumption) only [BB,B2,↓reduceIte,Nat.reduceLeDiff,Nat.reduceAdd,CC,l259,hix,hldk]<;>rfl) ?_|apply aD|apply aE|with_reducible first|apply aG|apply aF|apply aK|apply aH|apply aJ|apply aI|apply aL|apply aC))
      exact hq (j - 1) _ _ _ _ (by omega) ⟨k+1,y,by omega,by omega,rfl,e1,e2,rfl,by omega,fun _=>⟨by omega,by show e.rules[k]=y; exact hy,by omega⟩,fun h9=>by omega,hr⟩ (Sub.refl _)
     ·obtain⟨hkl,hp1,hp0⟩:=hprev (by omega)
      have hixp:=hR1.ix .i64 (i:=k - 1) (by rw[eP]; exact hkl)
      have hldp:=hR1.load1 (j9 (l:=e.rules) (i:=k - 1) hkl)
      rw[hp1] at hldp
      rw[show ((k - 1:Nat):Int)=(k:Int) - 1 by omega] at hixp
      by_cases c3:y≤la
      ·have hz:rz (-1) many e.rules=false:=by rw[hr,decide_eq_false (show ¬la < y by omega)]; rfl
       (repeat(first|refine aA (by simp (disch:=first|omega|exact nnN _|assumption) only [BB,B2,↓reduceIte,Nat.reduceLeDiff,Nat.reduceAdd,CC,l259,hix,hldk,hixp,hldp]<;>rfl) ?_|apply aD|apply aE|with_reducible first|apply aG|apply aF|apply aK|apply aH|apply aJ|apply aI|apply aL|apply aC))
       refine hx _ _ _ _ (fun e=>by cases e) (eS ?_)
       exact hbad hz _ (by omega)
      ·rw[decide_eq_true (show la < y by omega),decide_eq_true (show y < (many:Int) by omega),Bool.true_and,Bool.true_and] at hr
       (repeat(first|refine aA (by simp (disch:=first|omega|exact nnN _|assumption) only [BB,B2,↓reduceIte,Nat.reduceLeDiff,Nat.reduceAdd,CC,l259,hix,hldk,hixp,hldp]<;>rfl) ?_|apply aD|apply aE|with_reducible first|apply aG|apply aF|apply aK|apply aH|apply aJ|apply aI|apply aL|apply aC))
       exact hq (j - 1) _ _ _ _ (by omega) ⟨k+1,y,by omega,by omega,rfl,e1,e2,rfl,by omega,fun _=>⟨by omega,by show e.rules[k]=y; exact hy,by omega⟩,fun h9=>by omega,hr⟩ (Sub.refl _)
  ·have hr1:rz (-1) many e.rules=true:=by rw[hr,List.drop_of_length_le (by omega)]; rfl
   have hfit:lJ many e=(e.a.states.all fun s=>s.rule.all fun r=>decide (r < e.rules.length)):=by unfold lJ; rw[hr1,hok]; rfl
   (repeat(first|refine zzB ?_|apply aD|apply aE|with_reducible first|apply aG|apply aF|apply aK|apply aH|apply aJ|apply aI|apply aL|apply aC))
   refine hx _ _ _ _ (fun e=>by cases e) (eD (cQ ?_))
   have key:∀ (ev':Env) n',nx+1≤n'→ev' 2=ptr nx→pM ro K ev' h' n':=by
    intro ev' n' hn f2
    unfold pM
    generalize hB:(e.a.states.all fun s=>s.rule.all fun r=>decide (r < (e.rules.length:Int)))=B at hfit
    refine bE (fun j e0 h'' nx2=>∃ (k:Nat),k+j=e.a.states.length∧nx+1≤nx2∧h''=h'∧e0 2=ptr nx∧e0 6=.int .i64 k∧((e.a.states.drop k).all fun s=>s.rule.all fun r=>decide (r < (e.rules.length:Int)))=B) ?_ (n:=e.a.states.length)
     ⟨0,by omega,by omega,rfl,f2,rfl,hB⟩
    rintro j2 e0 h'' nx2 ⟨k2,hj2,hnx2,rfl,f2,f6,hr2⟩ Q2 hq2 hx2
    unfold aAI
    rw[f2,f6]
    (repeat(first|refine zzB ?_|apply aD|apply aE|with_reducible first|apply aG|apply aF|apply aK|apply aH|apply aJ|apply aI|apply aL|apply aC))
    refine aA l258 (aA hSlen ?_)
    refine cV (fun hk2=>?_) (fun hk2=>?_)
    ·have hk2:k2 < e.a.states.length:=by omega
     rw[bX hk2,List.all_cons] at hr2
     have six:=hS1.ix .i64 hk2
     obtain⟨y,hy1,hy2,hy3,hy4,hy5⟩:=hS1.at hk2
     have hso:=k6 _ (List.getElem_mem hk2)
     generalize e.a.states[k2]=st at hr2 hy1 hso
     obtain⟨lv,rv',uv,nv,rfl,w1,w2,w3,w4,w5⟩:=hy1
     obtain⟨p1,p2,p3,p4,p5⟩:=qE hso
     have hcd:=aJx p1
     have y2:=hy5 2 uv rfl
     have y2p:=hy4 2
     have w3:Sl ro h'' uv 1 (kK st.rule):=w3
     have ulen:=w3.len
     rw[eP] at ulen
     (repeat(first|refine zzB ?_|apply aD|apply aE|with_reducible first|apply aG|apply aF|apply aK|apply aH|apply aJ|apply aI|apply aL|apply aC))
     generalize hB2:(st.rule.all fun r=>decide (r < (e.rules.length:Int)))=Bq at hr2
     refine bE (fun j3 e3 h3 nx3=>∃ (k3:Nat),k3+j3=st.rule.length∧nx+1≤nx3∧h3=h''∧e3 2=ptr nx∧e3 6=.int .i64 k2∧e3 7=.int .i64 k3∧((st.rule.drop k3).all fun r=>decide (r < (e.rules.length:Int)))=Bq) ?_ (n:=st.rule.length)
      ⟨0,by omega,by omega,rfl,f2,f6,rfl,hB2⟩
     rintro j3 e3 h3 nx3 ⟨k3,hj3,hnx3,rfl,f2,f6,f7,hr3⟩ Q3 hq3 hx3
     unfold aAJ
     rw[f2,f6,f7]
     (repeat(first|refine aA (by simp (disch:=first|omega|exact nnN _|assumption) only [BB,B2,↓reduceIte,Nat.reduceLeDiff,Nat.reduceAdd,CC,six,y2p]<;>rfl) ?_|apply aD|apply aE|with_reducible first|apply aG|apply aF|apply aK|apply aH|apply aJ|apply aI|apply aL|apply aC))
     refine aA l258 ?_
     (repeat(first|refine aA (by simp (disch:=first|omega|exact nnN _|assumption) only [BB,B2,↓reduceIte,Nat.reduceLeDiff,Nat.reduceAdd,CC,six,y2p]<;>rfl) ?_|apply aD|apply aE|with_reducible first|apply aG|apply aF|apply aK|apply aH|apply aJ|apply aI|apply aL|apply aC))
     refine aA y2 (aA ulen ?_)
     refine cV (fun hk3=>?_) (fun hk3=>?_)
     ·have hk3:k3 < st.rule.length:=by omega
      have uix:=w3.ix .i64 (i:=k3) (by rw[eP]; exact hk3)
      have uld:=w3.load1 (j9 (l:=st.rule) (i:=k3) hk3)
      rw[bX hk3,List.all_cons] at hr3
      generalize st.rule[k3]=u at hr3 uld
      have hcount:∀ b:Bool,decide (u < (e.rules.length:Int))=b→True:=fun _ _=>trivial
      (repeat(first|refine aA (by simp (disch:=first|omega|exact nnN _|assumption) only [BB,B2,↓reduceIte,Nat.reduceLeDiff,Nat.reduceAdd,CC,l258,l259,six,y2p,y2,uix,uld,hlen]<;>rfl) ?_|apply aD|apply aE|with_reducible first|apply aG|apply aF|apply aK|apply aH|apply aJ|apply aI|apply aL|apply aC))
      by_cases hc:(e.rules.length:Int)≤u
      ·rw[decide_eq_false (show ¬u < (e.rules.length:Int) by omega),Bool.false_and] at hr3
       (repeat(first|refine zzB ?_|apply aD|apply aE|with_reducible first|apply aG|apply aF|apply aK|apply aH|apply aJ|apply aI|apply aL|apply aC))
       refine hx3 _ _ _ _ (fun e=>by cases e) (eS ?_)
       refine hx2 _ _ _ _ (fun e=>by cases e) (eS ?_)
       refine hno ?_ _ (by omega)
       rw[hfit,← hr2,← hr3]; rfl
      ·rw[decide_eq_true (show u < (e.rules.length:Int) by omega),Bool.true_and] at hr3
       (repeat(first|refine zzB ?_|apply aD|apply aE|with_reducible first|apply aG|apply aF|apply aK|apply aH|apply aJ|apply aI|apply aL|apply aC))
       exact hq3 (j3 - 1) _ _ _ _ (by omega) ⟨k3+1,by omega,by omega,rfl,f2,f6,rfl,hr3⟩ (Sub.refl _)
     ·have hb2:Bq=true:=by rw[← hr3,List.drop_of_length_le (by omega)]; rfl
      rw[hb2,Bool.true_and] at hr2
      (repeat(first|refine zzB ?_|apply aD|apply aE|with_reducible first|apply aG|apply aF|apply aK|apply aH|apply aJ|apply aI|apply aL|apply aC))
      refine hx3 _ _ _ _ (fun e=>by cases e) (eD (cQ ?_))
      have hj:∀ (e9:Env) n9,nx+1≤n9→e9 2=ptr nx→e9 6=.int .i64 k2→mX ro Q2 e9 h3 n9:=by
       intro e9 n9 hn9 f2 f6
       unfold mX
       rw[f6]
       have hk29:k2 < 256:=by omega
       (repeat(first|refine zzB ?_|apply aD|apply aE|with_reducible first|apply aG|apply aF|apply aK|apply aH|apply aJ|apply aI|apply aL|apply aC))
       exact hq2 (j2 - 1) _ _ _ _ (by omega) ⟨k2+1,by omega,by omega,rfl,f2,rfl,hr2⟩ (Sub.refl _)
      exact hj _ _ (by omega) f2 f6
    ·have hb:B=true:=by rw[← hr2,List.drop_of_length_le (by omega)]; rfl
     (repeat(first|refine zzB ?_|apply aD|apply aE|with_reducible first|apply aG|apply aF|apply aK|apply aH|apply aJ|apply aI|apply aL|apply aC))
     refine hx2 _ _ _ _ (fun e=>by cases e) (eD (cQ ?_))
     have hj:∀ (e9:Env) n9,nx≤n9→pN ro K e9 h'' n9:=by
      intro e9 n9 hn9
      unfold pN
      refine⟨h,hs1,?_⟩
      rw[← hb,← hfit]; exact hK _ (by omega)
     exact hj _ _ (by omega)
   exact key _ _ (by omega) e2
end
end V
end Go.Proofs.YtcaccnneblghgaaGreat
namespace Go.Proofs.YtcaccnneblghgaaGreat
namespace V
attribute [local irreducible] aB ifP aR cT eQ exP cO
theorem aK5 (a b:ByteArray):(a.data.toList==b.data.toList)=decide (a=b):=by
 by_cases h:a=b
 ·subst h; simp
 ·rw[decide_eq_false h,beq_eq_false_iff_ne]
  intro he
  apply h
  have:a.data=b.data:=Array.toList_inj.1 he
  cases a; cases b
  simp only at this
  rw[this]
theorem aIp (a b:ByteArray):aE8 .eql (.string a) (.string b)=some (.bool (decide (a=b))):=by
 rw[← aK5]; rfl
theorem y6 (a b:ByteArray):aE8 .neq (.string a) (.string b)=some (.bool (!decide (a=b))):=by
 rw[← aK5]; rfl
theorem aCT {D:Type}{q:D→Bool}:∀ {l:List D}{k:Int}{i:Nat}{x:D},0≤k→l[i]?=some x→q x=true→decide (oY q k l=k+i)=!((l.take i).any q)
 | [],k,i,x,_,h,_=>by simp at h
 | y::l,k,0,x,_,h,hq=>by
  simp at h
  subst h
  rw[nF,if_pos hq]
  simp
 | y::l,k,i+1,x,hk,h,hq=>by
  rw[nF,List.take_succ_cons,List.any_cons]
  by_cases hy:q y=true
  ·rw[if_pos hy,hy,Bool.true_or,decide_eq_false (by omega)]; rfl
  ·rw[if_neg hy]
   have:=aCT (l:=l) (k:=k+1) (i:=i) (by omega) (by simpa using h) hq
   have hyf:q y=false:=by simpa using hy
   rw[hyf,Bool.false_or,← this]
   congr 1
   have e:k+1+(i:Int)=k+((i+1:Nat):Int):=by omega
   rw[e]
section
variable {ro:Ro}{h:T Obj}{nx:Nat}{K:KV}
theorem zK.load {v:Value}{l:List ByteArray} (hv:SlR ro h v 1 zK l) {i:Nat} (hi:i < l.length):load1 ro h (iP 1 v i)=some (.string l[i])∧l[i].size≤kN:=by
 obtain⟨w,h1,h2⟩:=hv.at1 hi
 obtain⟨h3,h4⟩:=h1
 have:w=.string l[i]:=by simpa using h3
 rw[this] at h2
 exact⟨h2,h4⟩
set_option maxRecDepth 4000 in
theorem aE5 {v:Value}{l:List ByteArray}{s:ByteArray} (hlen:l.length≤1000000) (hv:SlR ro h v 1 zK l) (hK:∀ nx',nx≤nx'→K (.int .i64 (oY (fun t=>decide (s=t)) 0 l)) h nx'):aN Tryz.prog ro hU [v,.string s] h nx K:=by
 apply qC
 unfold lW
 generalize hR:oY (fun t=>decide (s=t)) 0 l=r at hK
 refine aA hv.len ?_
 refine bE (fun j e h' nx'=>∃ (k:Nat),k+j=l.length∧nx≤nx'∧h'=h∧e 0=v∧e 1=.string s∧e 7=.int .i64 l.length∧e 8=.int .i64 k∧oY (fun t=>decide (s=t)) k (l.drop k)=r) ?_ (n:=l.length) ⟨0,by omega,by omega,rfl,rfl,rfl,rfl,rfl,hR⟩
 rintro j e h' nx' ⟨k,hj,hnx,rfl,e0,e1,e7,e8,hr⟩ Q' hq hx
 unfold kL
 rw[e0,e1,e7,e8]
 refine cV (fun hk=>?_) (fun hk=>?_)
 ·have hk:k < l.length:=by omega
  have hix:=hv.ix .i64 hk
  obtain⟨hld,_⟩:=zK.load hv hk
  rw[bX hk,nF] at hr
  generalize l[k]=y at hr hld
  have hsb:=aIp s y
  by_cases hc:s=y
  ·rw[decide_eq_true hc] at hsb
   rw[if_pos (decide_eq_true hc)] at hr
   (repeat(first|refine aA (by simp (disch:=first|omega|exact nnN _|assumption) only [BB,B2,↓reduceIte,Nat.reduceLeDiff,Nat.reduceAdd,CC,hix,hld,hsb]<;>rfl) ?_|apply aD|apply aE|with_reducible first|apply aG|apply aF|apply aK|apply aH|apply aJ|apply aI|apply aL|apply aC))
   refine hx _ _ _ _ (fun e=>by cases e) (eS ?_)
   refine⟨_,Sub.refl _,?_⟩
   show K (.int .i64 (k:Int)) h' _
   rw[hr]; exact hK _ (by omega)
  ·rw[decide_eq_false hc] at hsb
   rw[if_neg (by rw[decide_eq_false hc]; decide)] at hr
   (repeat(first|refine aA (by simp (disch:=first|omega|exact nnN _|assumption) only [BB,B2,↓reduceIte,Nat.reduceLeDiff,Nat.reduceAdd,CC,hix,hld,hsb]<;>rfl) ?_|apply aD|apply aE|with_reducible first|apply aG|apply aF|apply aK|apply aH|apply aJ|apply aI|apply aL|apply aC))
   exact hq (j - 1) _ _ _ _ (by omega) ⟨k+1,by omega,by omega,rfl,e0,e1,e7,rfl,by rw[← hr]; rfl⟩ (Sub.refl _)
 ·rw[List.drop_of_length_le (by omega)] at hr
  (repeat(first|refine zzB ?_|apply aD|apply aE|with_reducible first|apply aG|apply aF|apply aK|apply aH|apply aJ|apply aI|apply aL|apply aC))
  refine hx _ _ _ _ (fun e=>by cases e) (eD (cQ ?_))
  unfold gZ
  refine⟨_,Sub.refl _,?_⟩
  have hr:(-1:Int)=r:=hr
  rw[hr]; exact hK _ (by omega)
end
end V
end Go.Proofs.YtcaccnneblghgaaGreat
namespace Go.Proofs.YtcaccnneblghgaaGreat
namespace V
attribute [local irreducible] aB ifP aR cT eQ exP cO
theorem rP:yZ={ data:=#[115,116,97,114,116] }:=by decide
theorem rN:(ByteArray.empty:ByteArray)={ data:=#[] }:=rfl
theorem aEA (seen:List ByteArray) (s:ByteArray) (r:List ByteArray):wT seen (s::r)=(kB s&&!(seen.any fun t=>decide (s=t))&&wT (seen++[s]) r):=rfl
section
variable {ro:Ro}{h:T Obj}{nx:Nat}{K:KV}
set_option maxRecDepth 8000 in
theorem aEw {x y:List Value}{T:TabD}{e:EntD}{i1:Nat} (hf:Fr h nx) (g1:h.get i1=some (.cells x.toArray dI)) (hd:aCi ro h x T) (hk:T.kinds.length≤1000000) (he:uP ro h y e)
  (hK:∀ nx',nx≤nx'→K (.bool (!lJ T.kinds.length e)) h nx'):aN Tryz.prog ro t5 [.agg y.toArray,ptr i1] h nx K:=by
 obtain⟨cv,kv,tv,ev,rfl,q1,q2,q3,q4,q5,q6,q7,q8⟩:=id hd
 apply aDj
 unfold aCU
 refine eJ hf (Nat.le_refl _) fun h1 hs1 hf1 g2 _=>?_
 have g2:h1.get nx=some (.cells y.toArray cN):=g2
 have m1:[cv,kv,tv,ev][1]?=some kv:=rfl
 have g1':=hs1 _ _ g1
 have klen:=(q2.sub hs1 fun _ _ h=>h).len
 refine aA (dF (ro:=ro) (z:=0) (n:=260) (l:=y) g2 he.len) ?_
 (repeat(first|refine zzB ?_|apply aD|apply aE|with_reducible first|apply aG|apply aF|apply aK|apply aH|apply aJ|apply aI|apply aL|apply aC))
 refine aA (aZ g1' m1) (aA klen ?_)
 refine aJN hk (hf1.mono (by omega)) (he.sub hs1 |> fun z=>z) fun n2 hn2=>?_
 cases hb:lJ T.kinds.length e with
 | true =>
  rw[hb] at hK
  (repeat(first|refine zzB ?_|apply aD|apply aE|with_reducible first|apply aG|apply aF|apply aK|apply aH|apply aJ|apply aI|apply aL|apply aC))
  exact⟨h,hs1,hK _ (by omega)⟩
 | false =>
  rw[hb] at hK
  (repeat(first|refine zzB ?_|apply aD|apply aE|with_reducible first|apply aG|apply aF|apply aK|apply aH|apply aJ|apply aI|apply aL|apply aC))
  exact⟨h,hs1,hK _ (by omega)⟩
set_option maxRecDepth 16000 in
set_option maxHeartbeats 4000000 in
theorem aHl {x:List Value}{T:TabD} (hf:Fr h nx) (hd:aCi ro h x T) (hK:∀ nx',nx≤nx'→K (.bool (fQ T)) h nx'):aN Tryz.prog ro xW [.agg x.toArray] h nx K:=by
 obtain⟨cv,kv,tv,ev,rfl,q1,q2,q3,q4,q5,q6,q7,q8⟩:=id hd
 have q5:T.conds.length≤9223372036854775807:=q5
 have q6:T.kinds.length≤9223372036854775807:=q6
 have q7:T.to.length≤9223372036854775807:=q7
 have q8:T.entries.length≤9223372036854775807:=q8
 apply aGW
 unfold aF9
 refine eJ hf (Nat.le_refl _) fun h1 hs1 hf1 g1 _=>?_
 have g1:h1.get nx=some (.cells [cv,kv,tv,ev].toArray dI):=g1
 have l0:=aZ (ro:=ro) (z:=0) g1 (show [cv,kv,tv,ev][0]?=some cv from rfl)
 have l1:=aZ (ro:=ro) (z:=0) g1 (show [cv,kv,tv,ev][1]?=some kv from rfl)
 have l2:=aZ (ro:=ro) (z:=0) g1 (show [cv,kv,tv,ev][2]?=some tv from rfl)
 have l3:=aZ (ro:=ro) (z:=0) g1 (show [cv,kv,tv,ev][3]?=some ev from rfl)
 have q1':=q1.sub hs1 fun _ _ h=>h
 have q2':=q2.sub hs1 fun _ _ h=>h
 have q3':=q3.sub hs1
 have q4':=q4.sub hs1 (uP.sub hs1)
 have hd1:=hd.sub hs1
 have clen:=q1'.len
 have klen:=q2'.len
 have tlen:=q3'.len
 rw[eP] at tlen
 have elen:=q4'.len
 have hno:fQ T=false→∀ n',nx≤n'→∃ h9,Sub h9 h1∧K (.bool false) h9 n':=fun hz n' hn=>⟨h,hs1,by rw[← hz]; exact hK _ hn⟩
 by_cases c1:1≤T.conds.length
 case neg =>
  (repeat(first|refine aA (by simp (disch:=first|omega|exact nnN _|assumption) only [BB,B2,↓reduceIte,Nat.reduceLeDiff,Nat.reduceAdd,CC,l0,clen]<;>rfl) ?_|apply aD|apply aE|with_reducible first|apply aG|apply aF|apply aK|apply aH|apply aJ|apply aI|apply aL|apply aC))
  exact hno (by unfold fQ; rw[decide_eq_false c1]; rfl) _ (by omega)
 by_cases c2:T.conds.length≤8
 case neg =>
  (repeat(first|refine aA (by simp (disch:=first|omega|exact nnN _|assumption) only [BB,B2,↓reduceIte,Nat.reduceLeDiff,Nat.reduceAdd,CC,l0,clen]<;>rfl) ?_|apply aD|apply aE|with_reducible first|apply aG|apply aF|apply aK|apply aH|apply aJ|apply aI|apply aL|apply aC))
  exact hno (by unfold fQ; rw[decide_eq_true c1,decide_eq_false c2]; rfl) _ (by omega)
 have hix0:=q1'.ix .i64 (i:=0) (by omega)
 have hz0:((0:Nat):Int)=0:=rfl
 rw[hz0] at hix0
 obtain⟨hld0,_⟩:=zK.load q1' (i:=0) (by omega)
 have hsb:=y6 T.conds[0] yZ
 have hhd:T.conds.head?=some T.conds[0]:=by rw[List.head?_eq_getElem?,List.getElem?_eq_getElem (by omega)]
 rw[rP] at hsb
 by_cases c3:T.conds[0]=yZ
 case neg =>
  have c3':=c3
  rw[rP] at c3'
  rw[decide_eq_false c3',Bool.not_false] at hsb
  (repeat(first|refine aA (by simp (disch:=first|omega|exact nnN _|assumption) only [BB,B2,↓reduceIte,Nat.reduceLeDiff,Nat.reduceAdd,CC,l0,clen,hix0,hld0,hsb]<;>rfl) ?_|apply aD|apply aE|with_reducible first|apply aG|apply aF|apply aK|apply aH|apply aJ|apply aI|apply aL|apply aC))
  exact hno (by unfold fQ; rw[decide_eq_true c1,decide_eq_true c2,hhd,decide_eq_false (fun e=>c3 (Option.some.inj e))]; rfl) _ (by omega)
 have c3':=c3
 rw[rP] at c3'
 rw[decide_eq_true c3',Bool.not_true] at hsb
 have hr3:decide (T.conds.head?=some yZ)=true:=decide_eq_true (by rw[hhd,c3])
 by_cases c4:T.kinds.length≤64
 case neg =>
  (repeat(first|refine aA (by simp (disch:=first|omega|exact nnN _|assumption) only [BB,B2,↓reduceIte,Nat.reduceLeDiff,Nat.reduceAdd,CC,l0,l1,clen,klen,hix0,hld0,hsb]<;>rfl) ?_|apply aD|apply aE|with_reducible first|apply aG|apply aF|apply aK|apply aH|apply aJ|apply aI|apply aL|apply aC))
  exact hno (by unfold fQ; rw[decide_eq_true c1,decide_eq_true c2,hr3,decide_eq_false c4]; rfl) _ (by omega)
 by_cases c5:T.to.length=T.kinds.length
 case neg =>
  (repeat(first|refine aA (by simp (disch:=first|omega|exact nnN _|assumption) only [BB,B2,↓reduceIte,Nat.reduceLeDiff,Nat.reduceAdd,CC,l0,l1,l2,clen,klen,tlen,hix0,hld0,hsb]<;>rfl) ?_|apply aD|apply aE|with_reducible first|apply aG|apply aF|apply aK|apply aH|apply aJ|apply aI|apply aL|apply aC))
  exact hno (by unfold fQ; rw[decide_eq_true c1,decide_eq_true c2,hr3,decide_eq_true c4,decide_eq_false c5]; rfl) _ (by omega)
 by_cases c6:T.entries.length=2*T.conds.length
 case neg =>
  (repeat(first|refine aA (by simp (disch:=first|omega|exact nnN _|assumption) only [BB,B2,↓reduceIte,Nat.reduceLeDiff,Nat.reduceAdd,CC,l0,l1,l2,l3,clen,klen,tlen,elen,hix0,hld0,hsb]<;>rfl) ?_|apply aD|apply aE|with_reducible first|apply aG|apply aF|apply aK|apply aH|apply aJ|apply aI|apply aL|apply aC))
  exact hno (by unfold fQ; rw[decide_eq_true c1,decide_eq_true c2,hr3,decide_eq_true c4,decide_eq_true c5,decide_eq_false c6]; rfl) _ (by omega)
 have hrt:fQ T=(wT [] T.conds&&((List.zip T.kinds T.to).all (fun x=>jS T.conds.length x.1 x.2)&&T.entries.all (lJ T.kinds.length))):=by
  unfold fQ
  rw[decide_eq_true c1,decide_eq_true c2,hr3,decide_eq_true c4,decide_eq_true c5,decide_eq_true c6]; rfl
 (repeat(first|refine aA (by simp (disch:=first|omega|exact nnN _|assumption) only [BB,B2,↓reduceIte,Nat.reduceLeDiff,Nat.reduceAdd,CC,l0,l1,l2,l3,clen,klen,tlen,elen,hix0,hld0,hsb]<;>rfl) ?_|apply aD|apply aE|with_reducible first|apply aG|apply aF|apply aK|apply aH|apply aJ|apply aI|apply aL|apply aC))
 refine bE (fun j e h' nx'=>∃ (k:Nat),k+j=T.conds.length∧nx+1≤nx'∧h'=h1∧e 1=ptr nx∧e 50=cv∧e 51=.int .i64 T.conds.length∧e 52=.int .i64 k∧wT [] T.conds=wT (T.conds.take k) (T.conds.drop k)) ?_ (n:=T.conds.length)
  ⟨0,by omega,by omega,rfl,rfl,rfl,rfl,rfl,rfl⟩
 rintro j e h' nx' ⟨k,hj,hnx,rfl,e1,e50,e51,e52,hr⟩ Q' hq hx
 unfold aBG
 rw[e1,e50,e51,e52]
 refine cV (fun hk=>?_) (fun hk=>?_)
 ·have hk:k < T.conds.length:=by omega
  have hix:=q1'.ix .i64 hk
  obtain⟨hld,hsz⟩:=zK.load q1' hk
  rw[bX hk,aEA] at hr
  have htk:T.conds.take (k+1)=T.conds.take k++[T.conds[k]]:=List.take_succ_eq_append_getElem hk
  have hfi:=aCT (q:=fun t=>decide (T.conds[k]=t)) (l:=T.conds) (k:=0) (i:=k) (by omega) (List.getElem?_eq_getElem hk) (decide_eq_true rfl)
  rw[← htk] at hr
  generalize T.conds[k]=s at hr hld hsz hfi
  have hsz:s.size≤9223372036854775807:=hsz
  (repeat(first|refine aA (by simp (disch:=first|omega|exact nnN _|assumption) only [BB,B2,↓reduceIte,Nat.reduceLeDiff,Nat.reduceAdd,CC,hix,hld]<;>rfl) ?_|apply aD|apply aE|with_reducible first|apply aG|apply aF|apply aK|apply aH|apply aJ|apply aI|apply aL|apply aC))
  refine aAT hsz fun n2 hn2=>?_
  cases hnm:kB s with
  | false =>
   rw[hnm] at hr
   (repeat(first|refine zzB ?_|apply aD|apply aE|with_reducible first|apply aG|apply aF|apply aK|apply aH|apply aJ|apply aI|apply aL|apply aC))
   refine hx _ _ _ _ (fun e=>by cases e) (eS ?_)
   exact hno (by rw[hrt,hr]; rfl) _ (by omega)
  | true =>
   rw[hnm,Bool.true_and] at hr
   (repeat(first|refine aA (by simp (disch:=first|omega|exact nnN _|assumption) only [BB,B2,↓reduceIte,Nat.reduceLeDiff,Nat.reduceAdd,CC,l0]<;>rfl) ?_|apply aD|apply aE|with_reducible first|apply aG|apply aF|apply aK|apply aH|apply aJ|apply aI|apply aL|apply aC))
   refine aE5 (by omega) q1' fun n3 hn3=>?_
   generalize oY (fun t=>decide (s=t)) 0 T.conds=fi at hfi
   cases hct:(T.conds.take k).any (fun t=>decide (s=t)) with
   | true =>
    rw[hct,Bool.not_true] at hfi hr
    have hfi:=of_decide_eq_false hfi
    (repeat(first|refine zzB ?_|apply aD|apply aE|with_reducible first|apply aG|apply aF|apply aK|apply aH|apply aJ|apply aI|apply aL|apply aC))
    refine hx _ _ _ _ (fun e=>by cases e) (eS ?_)
    exact hno (by rw[hrt,hr]; rfl) _ (by omega)
   | false =>
    rw[hct,Bool.not_false] at hfi hr
    have hfi:=of_decide_eq_true hfi
    (repeat(first|refine zzB ?_|apply aD|apply aE|with_reducible first|apply aG|apply aF|apply aK|apply aH|apply aJ|apply aI|apply aL|apply aC))
    exact hq (j - 1) _ _ _ _ (by omega) ⟨k+1,by omega,by omega,rfl,e1,e50,e51,rfl,hr⟩ (Sub.refl _)
 ·have hr1:wT [] T.conds=true:=by rw[hr,List.drop_of_length_le (by omega)]; rfl
  rw[hr1,Bool.true_and] at hrt
  (repeat(first|refine zzB ?_|apply aD|apply aE|with_reducible first|apply aG|apply aF|apply aK|apply aH|apply aJ|apply aI|apply aL|apply aC))
  refine hx _ _ _ _ (fun e=>by cases e) (eD (cQ ?_))
  have hj1:∀ (ev1:Env) n',nx+1≤n'→ev1 1=ptr nx→qW ro K ev1 h' n':=by
   intro ev1 n' hn f1
   unfold qW
   rw[f1]
   (repeat(first|refine aA (by simp (disch:=first|omega|exact nnN _|assumption) only [BB,B2,↓reduceIte,Nat.reduceLeDiff,Nat.reduceAdd,CC,l1,klen]<;>rfl) ?_|apply aD|apply aE|with_reducible first|apply aG|apply aF|apply aK|apply aH|apply aJ|apply aI|apply aL|apply aC))
   refine bE (fun j e h2 nx2=>∃ (k:Nat),k+j=T.kinds.length∧nx+1≤nx2∧h2=h'∧e 1=ptr nx∧e 70=kv∧e 71=.int .i64 T.kinds.length∧e 72=.int .i64 k∧(List.zip T.kinds T.to).all (fun x=>jS T.conds.length x.1 x.2)=((List.zip T.kinds T.to).drop k).all (fun x=>jS T.conds.length x.1 x.2)) ?_ (n:=T.kinds.length)
    ⟨0,by omega,by omega,rfl,f1,rfl,rfl,rfl,rfl⟩
   rintro j2 e2 h2 nx2 ⟨k2,hj2,hnx2,rfl,f1,f70,f71,f72,hr2⟩ Q2 hq2 hx2
   unfold aBF
   rw[f1,f70,f71,f72]
   refine cV (fun hk2=>?_) (fun hk2=>?_)
   ·have hk2:k2 < T.kinds.length:=by omega
    have hkt:k2 < T.to.length:=by omega
    have hix:=q2'.ix .i64 hk2
    obtain⟨hld,hsz⟩:=zK.load q2' hk2
    have tix:=q3'.ix .i64 (i:=k2) (by rw[eP]; exact hkt)
    have tld:=q3'.load1 (j9 (l:=T.to) (i:=k2) hkt)
    have hzl:k2 < (List.zip T.kinds T.to).length:=by rw[List.length_zip]; omega
    rw[bX hzl,List.all_cons,List.getElem_zip] at hr2
    generalize T.kinds[k2]=s at hr2 hld hsz
    generalize T.to[k2]=t at hr2 tld
    have hsz:s.size≤9223372036854775807:=hsz
    have hse:=y6 s .empty
    rw[rN] at hse
    have hbad:jS T.conds.length s t=false→∀ n',nx≤n'→∃ h9,Sub h9 h2∧K (.bool false) h9 n':=fun hz n' hn=>hno (by rw[hrt,hr2,hz]; rfl) n' hn
    have hgo:jS T.conds.length s t=true→∀ (e9:Env) n9,nx+1≤n9→e9 1=ptr nx→e9 70=kv→e9 71=.int .i64 T.kinds.length→e9 72=.int .i64 ((k2:Int)+1)→Q2 .normal e9 h2 n9:=by
     intro hz e9 n9 hn9 u1 u70 u71 u72
     rw[hz,Bool.true_and] at hr2
     exact hq2 (j2 - 1) _ _ _ _ (by omega) ⟨k2+1,by omega,by omega,rfl,u1,u70,u71,u72,hr2⟩ (Sub.refl _)
    by_cases hs0:s=.empty
    ·have hs0':=hs0
     rw[rN] at hs0'
     rw[decide_eq_true hs0',Bool.not_true] at hse
     (repeat(first|refine aA (by simp (disch:=first|omega|exact nnN _|assumption) only [BB,B2,↓reduceIte,Nat.reduceLeDiff,Nat.reduceAdd,CC,hix,hld,hse]<;>rfl) ?_|apply aD|apply aE|with_reducible first|apply aG|apply aF|apply aK|apply aH|apply aJ|apply aI|apply aL|apply aC))
     by_cases d1:t < -1
     ·(repeat(first|refine aA (by simp (disch:=first|omega|exact nnN _|assumption) only [BB,B2,↓reduceIte,Nat.reduceLeDiff,Nat.reduceAdd,CC,l2,tix,tld]<;>rfl) ?_|apply aD|apply aE|with_reducible first|apply aG|apply aF|apply aK|apply aH|apply aJ|apply aI|apply aL|apply aC))
      refine hx2 _ _ _ _ (fun e=>by cases e) (eS ?_)
      exact hbad (by unfold jS; rw[decide_eq_false (show ¬-1≤t by omega)]; simp) _ (by omega)
     ·by_cases d2:(T.conds.length:Int)≤t
      ·(repeat(first|refine aA (by simp (disch:=first|omega|exact nnN _|assumption) only [BB,B2,↓reduceIte,Nat.reduceLeDiff,Nat.reduceAdd,CC,l2,tix,tld,l0,clen]<;>rfl) ?_|apply aD|apply aE|with_reducible first|apply aG|apply aF|apply aK|apply aH|apply aJ|apply aI|apply aL|apply aC))
       refine hx2 _ _ _ _ (fun e=>by cases e) (eS ?_)
       exact hbad (by unfold jS; rw[decide_eq_false (show ¬t < (T.conds.length:Int) by omega)]; simp) _ (by omega)
      ·(repeat(first|refine aA (by simp (disch:=first|omega|exact nnN _|assumption) only [BB,B2,↓reduceIte,Nat.reduceLeDiff,Nat.reduceAdd,CC,l2,tix,tld,l0,clen]<;>rfl) ?_|apply aD|apply aE|with_reducible first|apply aG|apply aF|apply aK|apply aH|apply aJ|apply aI|apply aL|apply aC))
       exact hgo (by unfold jS; rw[decide_eq_true hs0,decide_eq_true (show -1≤t by omega),decide_eq_true (show t < (T.conds.length:Int) by omega)]; simp) _ _ (by omega) f1 f70 f71 rfl
    ·have hs0':=hs0
     rw[rN] at hs0'
     rw[decide_eq_false hs0',Bool.not_false] at hse
     (repeat(first|refine aA (by simp (disch:=first|omega|exact nnN _|assumption) only [BB,B2,↓reduceIte,Nat.reduceLeDiff,Nat.reduceAdd,CC,hix,hld,hse]<;>rfl) ?_|apply aD|apply aE|with_reducible first|apply aG|apply aF|apply aK|apply aH|apply aJ|apply aI|apply aL|apply aC))
     refine aAT hsz fun n2 hn2=>?_
     cases hnm:kB s with
     | false =>
      (repeat(first|refine zzB ?_|apply aD|apply aE|with_reducible first|apply aG|apply aF|apply aK|apply aH|apply aJ|apply aI|apply aL|apply aC))
      refine hx2 _ _ _ _ (fun e=>by cases e) (eS ?_)
      exact hbad (by unfold jS; rw[decide_eq_false hs0,hnm]; rfl) _ (by omega)
     | true =>
      (repeat(first|refine zzB ?_|apply aD|apply aE|with_reducible first|apply aG|apply aF|apply aK|apply aH|apply aJ|apply aI|apply aL|apply aC))
      by_cases d1:t < -1
      ·(repeat(first|refine aA (by simp (disch:=first|omega|exact nnN _|assumption) only [BB,B2,↓reduceIte,Nat.reduceLeDiff,Nat.reduceAdd,CC,l2,tix,tld]<;>rfl) ?_|apply aD|apply aE|with_reducible first|apply aG|apply aF|apply aK|apply aH|apply aJ|apply aI|apply aL|apply aC))
       refine hx2 _ _ _ _ (fun e=>by cases e) (eS ?_)
       exact hbad (by unfold jS; rw[decide_eq_false (show ¬-1≤t by omega)]; simp) _ (by omega)
      ·by_cases d2:(T.conds.length:Int)≤t
       ·(repeat(first|refine aA (by simp (disch:=first|omega|exact nnN _|assumption) only [BB,B2,↓reduceIte,Nat.reduceLeDiff,Nat.reduceAdd,CC,l2,tix,tld,l0,clen]<;>rfl) ?_|apply aD|apply aE|with_reducible first|apply aG|apply aF|apply aK|apply aH|apply aJ|apply aI|apply aL|apply aC))
        refine hx2 _ _ _ _ (fun e=>by cases e) (eS ?_)
        exact hbad (by unfold jS; rw[decide_eq_false (show ¬t < (T.conds.length:Int) by omega)]; simp) _ (by omega)
       ·(repeat(first|refine aA (by simp (disch:=first|omega|exact nnN _|assumption) only [BB,B2,↓reduceIte,Nat.reduceLeDiff,Nat.reduceAdd,CC,l2,tix,tld,l0,clen]<;>rfl) ?_|apply aD|apply aE|with_reducible first|apply aG|apply aF|apply aK|apply aH|apply aJ|apply aI|apply aL|apply aC))
        exact hgo (by unfold jS; rw[hnm,decide_eq_true (show -1≤t by omega),decide_eq_true (show t < (T.conds.length:Int) by omega)]; simp) _ _ (by omega) f1 f70 f71 rfl
   ·have hall:(List.zip T.kinds T.to).all (fun x=>jS T.conds.length x.1 x.2)=true:=by rw[hr2,List.drop_of_length_le (by rw[List.length_zip]; omega)]; rfl
    rw[hall,Bool.true_and] at hrt
    (repeat(first|refine zzB ?_|apply aD|apply aE|with_reducible first|apply aG|apply aF|apply aK|apply aH|apply aJ|apply aI|apply aL|apply aC))
    refine hx2 _ _ _ _ (fun e=>by cases e) (eD (cQ ?_))
    have hj2:∀ (ev2:Env) n',nx+1≤n'→ev2 1=ptr nx→qX ro K ev2 h2 n':=by
     intro ev2 n' hn f1
     unfold qX
     rw[f1]
     (repeat(first|refine zzB ?_|apply aD|apply aE|with_reducible first|apply aG|apply aF|apply aK|apply aH|apply aJ|apply aI|apply aL|apply aC))
     refine aA l3 ?_
     refine xQ (q:=fun e=>!lJ T.kinds.length e) (by omega) q4' (fun i hi y n9 K9 hy hn9 hk9=>?_) fun n9 hn9=>?_
     ·exact aEw (hf1.mono (by omega)) g1 hd1 (by omega) hy hk9
     ·have ha:=aGB (lJ T.kinds.length) T.entries
      rw[hrt,← ha] at hK
      (repeat(first|refine zzB ?_|apply aD|apply aE|with_reducible first|apply aG|apply aF|apply aK|apply aH|apply aJ|apply aI|apply aL|apply aC))
      exact⟨h,hs1,hK _ (by omega)⟩
    exact hj2 _ _ (by omega) f1
  exact hj1 _ _ (by omega) e1
end
end V
end Go.Proofs.YtcaccnneblghgaaGreat