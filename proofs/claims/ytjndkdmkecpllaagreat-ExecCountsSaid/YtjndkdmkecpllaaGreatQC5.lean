/- Texts laid one behind the other: XE, XG, XH, XI, XJ, XM, XU, XW, XX, XY, XZ, YA, YB, XT, GP, YC, XO, GT, ZB.
   No condition. -/
import Derived.KernelRfl
import Derived.Test.YtjndkdmkecpllaaGreatQC4
set_option linter.unusedVariables false
set_option linter.unusedSimpArgs false
set_option linter.unusedVariables false
set_option linter.unusedSimpArgs false
namespace Go.Proofs.YtjndkdmkecpllaaGreat
namespace V
attribute [local irreducible] aA ifP aZ d4 eG exP d8
theorem qG.trans {a b c:T Obj} {p q:Nat} (h1:qG a b p q) (h2:qG b c p q):qG a c p q:=fun k k1 k2=>by rw [h2 k k1 k2,h1 k k1 k2]
theorem qG.get {h h':T Obj} {p a n w k:Nat} {L:List Nat} {c:Array Value} {e:TypeId} (ho:qG h h' p a) (hR:RI h p a n L w) (hg:h.get k=some (.cells c e)) (h1:e≠cE) (h2:e≠cF):h'.get k=some (.cells c e):=by
  obtain ⟨c1,t1⟩:=kB.p hR
  obtain ⟨c2,t2⟩:=kB.a hR
  rw [ho k (lC hg t1 h1) (lC hg t2 h2)]; exact hg
theorem qG.frR {h h':T Obj} {p a n w nx:Nat} {L:List Nat} (ho:qG h h' p a) (hR:RI h p a n L w) (hf:Fr h nx):Fr h' nx:=fun k hk=>by
  obtain ⟨c1,t1⟩:=kB.p hR
  obtain ⟨c2,t2⟩:=kB.a hR
  have:=hf.lt' t1
  have:=hf.lt' t2
  rw [ho k (by omega) (by omega)]; exact hf k hk
theorem aDj {ro:Ro} {h:T Obj} {p a n w o nx:Nat} {L:List Nat} {K:KV} (hR:RI h p a n L w) (ho:1≤o∧o≤3) (hw:w+2≤1000000) (hK:∀ h' nx',nx≤nx'→RI h' p a n (aFc n o (L,w)).1 (aFc n o (L,w)).2→qG h h' p a→K (.tuple #[]) h' nx'):aN Tryz.prog ro sE [ptr p,.int .u8 (o:Int)] h nx K:=by
  apply aC8
  unfold wL
  unfold aFc at hK
  refine nB (fun h3=>?_) (fun h3=>?_)
  · rw [if_pos (by omega)] at hK
    (repeat (first | refine aB (by simp (disch:=first | omega | exact Int.natCast_nonneg _ | assumption) only [BB,B2,↓reduceIte,Nat.reduceLeDiff,Nat.reduceAdd,CC]<;>rfl) ?_ | refine aD ?_ | refine aE ?_ | with_reducible first | refine aG ?_ | refine aF ?_ | refine aH ?_ | refine aI ?_ | refine aK ?_ | refine aJ ?_ | refine aL ?_ | refine aC ?_))
    refine aAh hR (by omega) fun h1 n1 hn1 hR1 ho1=>?_
    refine aDQ hR1 (by omega) fun h2 n2 hn2 hR2 ho2=>?_
    exact ⟨_,Sub.refl _,hK _ _ (by omega) hR2 (ho1.trans ho2)⟩
  · rw [if_neg (by omega)] at hK
    (repeat (first | refine aB (by simp (disch:=first | omega | exact Int.natCast_nonneg _ | assumption) only [BB,B2,↓reduceIte,Nat.reduceLeDiff,Nat.reduceAdd,CC]<;>rfl) ?_ | refine aD ?_ | refine aE ?_ | with_reducible first | refine aG ?_ | refine aF ?_ | refine aH ?_ | refine aI ?_ | refine aK ?_ | refine aJ ?_ | refine aL ?_ | refine aC ?_))
    refine nB (fun h2=>?_) (fun h2=>?_)
    · rw [if_pos (by omega)] at hK
      (repeat (first | refine aB (by simp (disch:=first | omega | exact Int.natCast_nonneg _ | assumption) only [BB,B2,↓reduceIte,Nat.reduceLeDiff,Nat.reduceAdd,CC]<;>rfl) ?_ | refine aD ?_ | refine aE ?_ | with_reducible first | refine aG ?_ | refine aF ?_ | refine aH ?_ | refine aI ?_ | refine aK ?_ | refine aJ ?_ | refine aL ?_ | refine aC ?_))
      refine aDO hR (by omega) fun h1 n1 hn1 hR1 ho1=>?_
      refine aDQ hR1 (by omega) fun h2 n2 hn2 hR2 ho2=>?_
      exact ⟨_,Sub.refl _,hK _ _ (by omega) hR2 (ho1.trans ho2)⟩
    · rw [if_neg (by omega)] at hK
      (repeat (first | refine aB (by simp (disch:=first | omega | exact Int.natCast_nonneg _ | assumption) only [BB,B2,↓reduceIte,Nat.reduceLeDiff,Nat.reduceAdd,CC]<;>rfl) ?_ | refine aD ?_ | refine aE ?_ | with_reducible first | refine aG ?_ | refine aF ?_ | refine aH ?_ | refine aI ?_ | refine aK ?_ | refine aJ ?_ | refine aL ?_ | refine aC ?_))
      refine aDO hR (by omega) fun h1 n1 hn1 hR1 ho1=>?_
      exact ⟨_,Sub.refl _,hK _ _ (by omega) hR1 ho1⟩
def SIn (D hs:T Obj) (p sb mb:Nat) (pc sc mc:List Value) (ps:List (Nat × Nat)) (C:List (Int × Int)) (h:T Obj) (nx:Nat) (rs:List RgD):Prop :=
  h.get p=some (.cells pc.toArray cL)∧h.get sb=some (.cells sc.toArray aP)∧h.get mb=some (.cells mc.toArray bC)∧Sub D h∧RsX RI h ps C rs∧dY (p::l6 ps) hs h∧Fr h nx
theorem qG.subD {h0 h h':T Obj} {p a:Nat} {X:List Nat} (ho:qG h h' p a) (hp:p∈X) (ha:a∈X) (hs:Sub (del h0 X) h):Sub (del h0 X) h':=fun k o hk=>by
  have h1:=hk
  rw [iG] at h1
  split at h1
  · cases h1
  · rename_i hn
    rw [ho k (fun e=>hn (by rw [e]; exact hp)) (fun e=>hn (by rw [e]; exact ha))]
    exact hs k o hk
section
variable {ro:Ro} {h0 hs h h':T Obj} {X:List Nat} {p sb mb nx:Nat} {pc sc mc:List Value} {ps:List (Nat × Nat)} {C:List (Int × Int)} {rs:List RgD} {K:KV}
theorem SIn.mono {n':Nat} (hi:SIn (del h0 X) hs p sb mb pc sc mc ps C h nx rs) (hn:nx≤n'):SIn (del h0 X) hs p sb mb pc sc mc ps C h n' rs:=by
  obtain ⟨g1,g2,g3,g4,g5,g6,g7⟩:=hi
  exact ⟨g1,g2,g3,g4,g5,g6,g7.mono hn⟩
theorem SIn.ring {i n':Nat} {q:Nat × Nat} {c:Int × Int} {L:List Nat} {w n:Nat} {r:RgD} (hi:SIn (del h0 X) hs p sb mb pc sc mc ps C h nx rs) (hd:Dst ps) (hX:∀ k∈l6 ps,k∈X) (hq:ps[i]?=some q) (hc:C[i]?=some c) (hR:RI h q.1 q.2 n L w) (hR':RI h' q.1 q.2 c.2.toNat r.1 r.2) (ho:qG h h' q.1 q.2) (hn:nx≤n') :
    SIn (del h0 X) hs p sb mb pc sc mc ps C h' n' (rs.set i r):=by
  obtain ⟨g1,g2,g3,g4,g5,g6,g7⟩:=hi
  have hm:=List.mem_of_getElem? hq
  have m1:q.1∈l6 ps:=iN.2 ⟨q,hm,.inl rfl⟩
  have m2:q.2∈l6 ps:=iN.2 ⟨q,hm,.inr rfl⟩
  have hr:=g5.set kB hd g7 hq hc hR' fun k _ k1 k2=>ho k k1 k2
  rw [aH3 hq] at hr
  refine ⟨ho.get hR g1 (by decide) (by decide),ho.get hR g2 (by decide) (by decide),ho.get hR g3 (by decide) (by decide),ho.subD (hX _ m1) (hX _ m2) g4,hr,fun k o hk hn=>?_,(ho.frR hR g7).mono hn⟩
  rw [ho k (fun e=>hn (List.mem_cons_of_mem _ (by rw [e]; exact m1))) (fun e=>hn (List.mem_cons_of_mem _ (by rw [e]; exact m2)))]
  exact g6 k o hk hn
variable {cc:List Nat} {many cur:Int} {cv sv rv:Value} {steps:Nat} {to:Int} {ov nxv:Value} {ops:List Nat} {R:List Int}
set_option maxRecDepth 8000 in
theorem aK3 {e:Env} {B:Nat} (hcl:cc.length=256) (e0:e 0=ptr p) (e6:e 6=ptr mb) (e7:e 7=nxv) (hi:SIn (del h0 X) hs p sb mb (eM cc many cv sv cur rv steps) sc [.int .i64 to,ov] ps C h nx rs) (hd:Dst ps) (hX:∀ k∈l6 ps,k∈X) (hP:Sl ro (del h0 X) rv 1 (lT ps))
    (hR:ZI ro (del h0 X) nxv R) (ho:SlR ro (del h0 X) ov 1 RU8 ops) (hl:ops.length=R.length) (hor:∀ o∈ops,1≤o∧o≤3) (hRl:∀ c∈R,0≤c∧c < C.length) (hR3:R.length≤3) (hB:WLe B rs) (hB2:B+8≤1000000)
    (fin:∀ h' n',nx≤n'→SIn (del h0 X) hs p sb mb (eM cc many cv sv cur rv steps) sc [.int .i64 to,ov] ps C h' n' (vM C R ops rs)→K (.bool (!decide (to=-1))) h' n'):gF ro K e h nx:=by
  unfold gF
  rw [e7]
  refine aB hR.len ?_
  have m0:=qE (n:=many) (cv:=cv) (sv:=sv) (cur:=cur) (rv:=rv) (steps:=steps) hcl
  generalize hF:vM C R ops rs=fin0 at fin
  refine bI (fun j e h' nx'=>∃ (k:Nat) (rs':List RgD),k+j=R.length∧nx≤nx'∧e 0=ptr p∧e 6=ptr mb∧e 7=nxv∧e 92=nxv∧e 93=.int .i64 R.length∧e 94=.int .i64 k ∧
    SIn (del h0 X) hs p sb mb (eM cc many cv sv cur rv steps) sc [.int .i64 to,ov] ps C h' nx' rs'∧WLe (B+2*k) rs'∧vM C (R.drop k) (ops.drop k) rs'=fin0) ?_ (n:=R.length) ⟨0,rs,by omega,by omega,e0,e6,e7,rfl,rfl,rfl,hi.mono (by omega),hB.mono (by omega),hF⟩
  rintro j e h' nx' ⟨k,rs',hj,hnx,e0,e6,e7,e92,e93,e94,hi,hw,hF⟩ Q' hq hx
  obtain ⟨g1,g2,g3,g4,g5,g6,g7⟩:=id hi
  unfold oW
  rw [e0,e6,e92,e93,e94]
  refine dO (fun hk=>?_) (fun hk=>?_)
  · have hk:k < R.length:=by omega
    have hko:k < ops.length:=by omega
    rw [eL hk,eL hko] at hF
    have hcm:=hRl _ (List.getElem_mem hk)
    have hom:=hor _ (List.getElem_mem hko)
    have hR':=hR.sub g4
    have hP':=hP.sub g4
    have ho':=ho.sub g4 fun _ _ h=>h
    have rix:=hR'.ix .i64 hk
    have rld:=hR'.load hk
    have oix:=ho'.ix .i64 hko
    obtain ⟨w,⟨ow,olt⟩,o1⟩:=ho'.at1 hko
    simp only [List.cons.injEq,and_true] at ow
    subst ow
    generalize R[k]=c at hF hcm rld
    generalize ops[k]=o at hF hom o1 olt
    change vM C _ _ (rs'.set c.toNat (aFc (oT C c).2.toNat o (pF rs' c)))=fin0 at hF
    obtain ⟨q,hq',hri⟩:=g5.at hcm.1 hcm.2
    have hpi:=hP'.ixI .i64 hcm.1 (by rw [lE,g5.1]; exact hcm.2)
    have hp1:=hP'.load1 (wS hq')
    have hwc:=hw.at c
    have hci:C[c.toNat]?=some (oT C c):=by rw [← aFB hcm.1 hcm.2]; exact List.getElem?_eq_getElem _
    (repeat (first | refine aB (by simp (disch:=first | omega | exact Int.natCast_nonneg _ | assumption) only [BB,B2,↓reduceIte,Nat.reduceLeDiff,Nat.reduceAdd,CC,a8,rix,rld,g1,m0,hpi,hp1,g3,oix,o1]<;>rfl) ?_ | refine aD ?_ | refine aE ?_ | with_reducible first | refine aG ?_ | refine aF ?_ | refine aH ?_ | refine aI ?_ | refine aK ?_ | refine aJ ?_ | refine aL ?_ | refine aC ?_))
    refine aDj hri hom (by omega) fun h2 n2 hn2 hR2 ho2=>?_
    have hwo:=aMH (oT C c).2.toNat o (pF rs' c)
    (repeat (first | refine aB (by simp (disch:=first | omega | exact Int.natCast_nonneg _ | assumption) only [BB,B2,↓reduceIte,Nat.reduceLeDiff,Nat.reduceAdd,CC]<;>rfl) ?_ | refine aD ?_ | refine aE ?_ | with_reducible first | refine aG ?_ | refine aF ?_ | refine aH ?_ | refine aI ?_ | refine aK ?_ | refine aJ ?_ | refine aL ?_ | refine aC ?_))
    exact hq (j - 1) _ _ _ _ (by omega) ⟨k+1,_,by omega,by omega,e0,e6,e7,e92,e93,rfl,hi.ring (r:=aFc (oT C c).2.toNat o (pF rs' c)) hd hX hq' hci hri hR2 ho2 (by omega),(hw.mono (by omega)).set (by omega),hF⟩ (Sub.refl _)
  · (repeat (first | refine aB (by simp (disch:=first | omega | exact Int.natCast_nonneg _ | assumption) only [BB,B2,↓reduceIte,Nat.reduceLeDiff,Nat.reduceAdd,CC]<;>rfl) ?_ | refine aD ?_ | refine aE ?_ | with_reducible first | refine aG ?_ | refine aF ?_ | refine aH ?_ | refine aI ?_ | refine aK ?_ | refine aJ ?_ | refine aL ?_ | refine aC ?_))
    refine hx _ _ _ _ (fun e=>by cases e) (fG (dR ?_))
    rw [iH (by omega)] at hF
    have hF:rs'=fin0:=hF
    subst hF
    have hj3:∀ (e':Env) n',e' 6=ptr mb→nx'≤n'→iI ro K e' h' n':=by
      intro e' n' f6 hn
      unfold iI
      rw [f6]
      (repeat (first | refine aB (by simp (disch:=first | omega | exact Int.natCast_nonneg _ | assumption) only [BB,B2,↓reduceIte,Nat.reduceLeDiff,Nat.reduceAdd,CC,g3]<;>rfl) ?_ | refine aD ?_ | refine aE ?_ | with_reducible first | refine aG ?_ | refine aF ?_ | refine aH ?_ | refine aI ?_ | refine aK ?_ | refine aJ ?_ | refine aL ?_ | refine aC ?_))
      refine aB (aS _ _ _) ?_
      exact ⟨h',Sub.refl _,fin _ _ (by omega) (hi.mono (by omega))⟩
    exact hj3 _ _ e6 (by omega)
set_option maxRecDepth 8000 in
theorem aK2 {e:Env} {B:Nat} {lv rv' uv nv:Value} {S:List Int} (hcl:cc.length=256) (e0:e 0=ptr p) (e5:e 5=ptr sb) (e6:e 6=ptr mb) (e7:e 7=nxv) (hi:SIn (del h0 X) hs p sb mb (eM cc many cv sv cur rv steps) [lv,rv',uv,nv] [.int .i64 to,ov] ps C h nx rs) (hd:Dst ps) (hX:∀ k∈l6 ps,k∈X) (hP:Sl ro (del h0 X) rv 1 (lT ps))
    (hS:ZI ro (del h0 X) rv' S) (hSl:∀ c∈S,0≤c∧c < C.length) (hS3:S.length≤3)
    (hR:ZI ro (del h0 X) nxv R) (ho:SlR ro (del h0 X) ov 1 RU8 ops) (hl:ops.length=R.length) (hor:∀ o∈ops,1≤o∧o≤3) (hRl:∀ c∈R,0≤c∧c < C.length) (hR3:R.length≤3) (hB:WLe B rs) (hB2:B+20≤1000000)
    (fin:∀ h' n',nx≤n'→SIn (del h0 X) hs p sb mb (eM cc many cv sv cur rv steps) [lv,rv',uv,nv] [.int .i64 to,ov] ps C h' n' (vM C R ops (s8 R S rs))→K (.bool (!decide (to=-1))) h' n'):gE ro K e h nx:=by
  unfold gE
  rw [e5]
  have g2:=hi.2.1
  have hSh:=(hS.sub hi.2.2.2.1).len
  (repeat (first | refine aB (by simp (disch:=first | omega | exact Int.natCast_nonneg _ | assumption) only [BB,B2,↓reduceIte,Nat.reduceLeDiff,Nat.reduceAdd,CC,g2,hSh]<;>rfl) ?_ | refine aD ?_ | refine aE ?_ | with_reducible first | refine aG ?_ | refine aF ?_ | refine aH ?_ | refine aI ?_ | refine aK ?_ | refine aJ ?_ | refine aL ?_ | refine aC ?_))
  have m0:=qE (n:=many) (cv:=cv) (sv:=sv) (cur:=cur) (rv:=rv) (steps:=steps) hcl
  generalize hF:s8 R S rs=fin0 at fin
  refine bI (fun j e h' nx'=>∃ (k:Nat) (rs':List RgD),k+j=S.length∧nx≤nx'∧e 0=ptr p∧e 6=ptr mb∧e 7=nxv∧e 73=rv'∧e 74=.int .i64 S.length∧e 75=.int .i64 k ∧
    SIn (del h0 X) hs p sb mb (eM cc many cv sv cur rv steps) [lv,rv',uv,nv] [.int .i64 to,ov] ps C h' nx' rs'∧WLe (B+2*k) rs'∧s8 R (S.drop k) rs'=fin0) ?_ (n:=S.length) ⟨0,rs,by omega,by omega,e0,e6,e7,rfl,rfl,rfl,hi.mono (by omega),hB.mono (by omega),hF⟩
  rintro j e h' nx' ⟨k,rs',hj,hnx,e0,e6,e7,e73,e74,e75,hi,hw,hF⟩ Q' hq hx
  obtain ⟨g1,g2,g3,g4,g5,g6,g7⟩:=id hi
  unfold oX
  rw [e0,e7,e73,e74,e75]
  refine dO (fun hk=>?_) (fun hk=>?_)
  · have hk:k < S.length:=by omega
    rw [eL hk] at hF
    have hcm:=hSl _ (List.getElem_mem hk)
    have hS':=hS.sub g4
    have hR':=hR.sub g4
    have hP':=hP.sub g4
    have six:=hS'.ix .i64 hk
    have sld:=hS'.load hk
    generalize S[k]=c at hF hcm sld
    change s8 R _ (if R.contains c then rs' else rs'.set c.toNat (aJ9 (pF rs' c)))=fin0 at hF
    obtain ⟨q,hq',hri⟩:=g5.at hcm.1 hcm.2
    have hpi:=hP'.ixI .i64 hcm.1 (by rw [lE,g5.1]; exact hcm.2)
    have hp1:=hP'.load1 (wS hq')
    have hwc:=hw.at c
    have hci:C[c.toNat]?=some (oT C c):=by rw [← aFB hcm.1 hcm.2]; exact List.getElem?_eq_getElem _
    have hj4:∀ (e':Env) h2 n2 rs2,e' 0=ptr p→e' 6=ptr mb→e' 7=nxv→e' 73=rv'→e' 74=.int .i64 S.length→e' 75=.int .i64 k→nx≤n2→SIn (del h0 X) hs p sb mb (eM cc many cv sv cur rv steps) [lv,rv',uv,nv] [.int .i64 to,ov] ps C h2 n2 rs2→WLe (B+2*(k+1)) rs2→s8 R (S.drop (k+1)) rs2=fin0→iJ ro Q' e' h2 n2:=by
      intro e' h2 n2 rs2 f0 f6 f7 f73 f74 f75 hn hi2 hw2 hF2
      unfold iJ
      rw [f75]
      (repeat (first | refine aB (by simp (disch:=first | omega | exact Int.natCast_nonneg _ | assumption) only [BB,B2,↓reduceIte,Nat.reduceLeDiff,Nat.reduceAdd,CC]<;>rfl) ?_ | refine aD ?_ | refine aE ?_ | with_reducible first | refine aG ?_ | refine aF ?_ | refine aH ?_ | refine aI ?_ | refine aK ?_ | refine aJ ?_ | refine aL ?_ | refine aC ?_))
      exact hq (j - 1) _ _ _ _ (by omega) ⟨k+1,rs2,by omega,by omega,f0,f6,f7,f73,f74,rfl,hi2.mono (by omega),hw2,hF2⟩ (Sub.refl _)
    (repeat (first | refine aB (by simp (disch:=first | omega | exact Int.natCast_nonneg _ | assumption) only [BB,B2,↓reduceIte,Nat.reduceLeDiff,Nat.reduceAdd,CC,six,sld]<;>rfl) ?_ | refine aD ?_ | refine aE ?_ | with_reducible first | refine aG ?_ | refine aF ?_ | refine aH ?_ | refine aI ?_ | refine aK ?_ | refine aJ ?_ | refine aL ?_ | refine aC ?_))
    refine rY (by omega) hR' fun n2 hn2=>?_
    cases hcn:R.contains c with
    | true =>
      rw [hcn,if_pos rfl] at hF
      (repeat (first | refine aB (by simp (disch:=first | omega | exact Int.natCast_nonneg _ | assumption) only [BB,B2,↓reduceIte,Nat.reduceLeDiff,Nat.reduceAdd,CC]<;>rfl) ?_ | refine aD ?_ | refine aE ?_ | with_reducible first | refine aG ?_ | refine aF ?_ | refine aH ?_ | refine aI ?_ | refine aK ?_ | refine aJ ?_ | refine aL ?_ | refine aC ?_))
      exact hj4 _ _ _ rs' e0 e6 e7 e73 e74 e75 (by omega) (hi.mono (by omega)) (hw.mono (by omega)) hF
    | false =>
      rw [hcn,if_neg (by decide)] at hF
      (repeat (first | refine aB (by simp (disch:=first | omega | exact Int.natCast_nonneg _ | assumption) only [BB,B2,↓reduceIte,Nat.reduceLeDiff,Nat.reduceAdd,CC,a8,g1,m0,hpi,hp1]<;>rfl) ?_ | refine aD ?_ | refine aE ?_ | with_reducible first | refine aG ?_ | refine aF ?_ | refine aH ?_ | refine aI ?_ | refine aK ?_ | refine aJ ?_ | refine aL ?_ | refine aC ?_))
      refine aAh hri (by omega) fun h2 n3 hn3 hR2 ho2=>?_
      exact hj4 _ _ _ _ e0 e6 e7 e73 e74 e75 (by omega) (hi.ring (r:=aJ9 (pF rs' c)) hd hX hq' hci hri hR2 ho2 (by omega)) ((hw.mono (by omega)).set (by show (pF rs' c).2+1≤_; omega)) hF
  · (repeat (first | refine aB (by simp (disch:=first | omega | exact Int.natCast_nonneg _ | assumption) only [BB,B2,↓reduceIte,Nat.reduceLeDiff,Nat.reduceAdd,CC]<;>rfl) ?_ | refine aD ?_ | refine aE ?_ | with_reducible first | refine aG ?_ | refine aF ?_ | refine aH ?_ | refine aI ?_ | refine aK ?_ | refine aJ ?_ | refine aL ?_ | refine aC ?_))
    refine hx _ _ _ _ (fun e=>by cases e) (fG (dR ?_))
    rw [iH (by omega)] at hF
    have hF:rs'=fin0:=hF
    subst hF
    have hj2:∀ (e':Env) n',e' 0=ptr p→e' 6=ptr mb→e' 7=nxv→nx'≤n'→gF ro K e' h' n':=fun e' n' f0 f6 f7 hn =>
      aK3 hcl f0 f6 f7 (hi.mono hn) hd hX hP hR ho hl hor hRl hR3 hw (by omega) fun h2 n2 hn2 hi2=>fin h2 n2 (by omega) hi2
    exact hj2 _ _ e0 e6 e7 (by omega)
end
end V
end Go.Proofs.YtjndkdmkecpllaaGreat
set_option linter.unusedVariables false
set_option linter.unusedSimpArgs false
namespace Go.Proofs.YtjndkdmkecpllaaGreat
namespace V
attribute [local irreducible] aA ifP aZ d4 eG exP d8
theorem aFW {d:AutoD} {R S:List Int} {m:MoveD} (ha:fV d=true) (h:iV d.states R m=true):m.ops.length=(nY d m.to).length∧(∀ o∈m.ops,1≤o∧o≤3)∧(∀ c∈nY d m.to,0≤c∧c < d.counts.length)∧(nY d m.to).length≤3:=by
  rcases z6 h with ⟨h1,h2⟩ | ⟨h1,h2,h3,h4⟩
  · unfold nY
    rw [if_pos h1,h2]
    exact ⟨rfl,(fun o ho=>by cases ho),(fun o ho=>by cases ho),by simp⟩
  · have hne:m.to≠-1:=by omega
    unfold nY
    rw [if_neg hne]
    have hi:m.to.toNat < d.states.length:=by omega
    have hs:d.states.getD m.to.toNat noS=d.states[m.to.toNat]:=by rw [List.getD_eq_getElem?_getD,List.getElem?_eq_getElem hi]; rfl
    have hk:=xX ((iF ha).2.2.2.2.2 _ (List.getElem_mem hi))
    rw [← hs] at hk
    exact ⟨h3,aE6 h4 h3,hk.2.2.2.1,hk.1⟩
theorem aKm {nx:List Int} {B:Nat}:∀ {S:List Int} {rs:List RgD},WLe B rs→WLe (B+S.length) (s8 nx S rs)
  | [],rs,h=>h
  | c::r,rs,h=>by
    unfold s8
    have h1:WLe (B+1) (if nx.contains c then rs else rs.set c.toNat (aJ9 (pF rs c))):=by
      split
      · exact h.mono (by omega)
      · exact (h.mono (by omega)).set (by show (pF rs c).2+1≤_; have:=h.at c; omega)
    have:=aKm (nx:=nx) (S:=r) h1
    rw [List.length_cons]
    exact this.mono (by omega)
theorem aNx {C:List (Int × Int)} {B:Nat}:∀ {R:List Int} {os:List Nat} {rs:List RgD},WLe B rs→WLe (B+2*R.length) (vM C R os rs)
  | [],_,rs,h=>by simpa [vM] using h
  | c::r,[],rs,h=>by
    unfold vM; exact h.mono (by omega)
  | c::r,o::os,rs,h=>by
    unfold vM
    have:=aNx (C:=C) (R:=r) (os:=os) (show WLe (B+2) (rs.set c.toNat (aFc (oT C c).2.toNat o (pF rs c))) from (h.mono (by omega)).set (by have:=h.at c; have:=aMH (oT C c).2.toNat o (pF rs c); omega))
    rw [List.length_cons]
    exact this.mono (by omega)
theorem aOe {d:AutoD} {m:MacD} {b B:Nat} (ha:fV d=true) (ho:MOk d m) (hcl:d.c.length=256) (hb:b < 256) (h:WLe B m.rs):WLe (B+9) (jL d m b).rs:=by
  unfold jL
  by_cases hc:m.cur=-1
  · rw [if_pos hc]; exact h.mono (by omega)
  · rw [if_neg hc]
    have h1:=(aH6 ha ho hc).r3
    have h2:=aFW (S:=[]) ha (aFP ha ho hc hcl hb).2
    have h3:=aNx (C:=d.counts) (R:=nY d (kS d m b).to) (os:=(kS d m b).ops) (aKm (nx:=nY d (kS d m b).to) (S:=(fP d m).r) h)
    exact h3.mono (by omega)
section
variable {ro:Ro} {h:T Obj} {nx:Nat} {X:List Nat} {p:Nat} {ps:List (Nat × Nat)} {d:AutoD} {m:MacD} {K:KV}
set_option maxRecDepth 8000 in
set_option maxHeartbeats 1000000 in
theorem aGX {b B:Nat} (hm:MI ro h X p ps d m) (ha:fV d=true) (ho:MOk d m) (hb:b < 256) (hf:Fr h nx) (hB:WLe B m.rs) (hB2:B+20≤1000000) (hst:m.steps≤1000000000)
    (hK:∀ h' nx',nx≤nx'→Fr h' nx'→dY (p::l6 ps) h h'→MI ro h' X p ps d (jL d m b)→K (.bool (onM d m b)) h' nx'):aN Tryz.prog ro lM [ptr p,.int .u8 (b:Int)] h nx K:=by
  apply wG
  unfold nE
  refine aAX hm fun n1 hn1=>?_
  unfold onM jL at hK
  by_cases hc:m.cur=-1
  · rw [if_pos hc,decide_eq_true hc] at hK
    refine aKt hc ?_
    (repeat (first | refine aB (by simp (disch:=first | omega | exact Int.natCast_nonneg _ | assumption) only [BB,B2,↓reduceIte,Nat.reduceLeDiff,Nat.reduceAdd,CC]<;>rfl) ?_ | refine aD ?_ | refine aE ?_ | with_reducible first | refine aG ?_ | refine aF ?_ | refine aH ?_ | refine aI ?_ | refine aK ?_ | refine aJ ?_ | refine aL ?_ | refine aC ?_))
    exact ⟨h,Sub.refl _,hK _ _ (by omega) (hf.mono (by omega)) (Sub.refl _).keepL hm⟩
  · rw [if_neg hc,decide_eq_false hc] at hK
    have hsf:=aH6 ha ho hc
    obtain ⟨cv,sv,rv,gp,hA,hP,hR,hD,hpX,hbX⟩:=id hm
    obtain ⟨hcl,hclt,hcv,hsv⟩:=hA.parts
    have hmv:=aFP ha ho hc hcl hb
    have hops:=aFW (S:=[]) ha hmv.2
    have hmp:=z6 hmv.2
    have hsvD:=hsv
    have hsv:=hsv.sub (gM h X) (eA.sub (gM h X))
    have m8:=aBF (n:=d.many) (cv:=cv) (sv:=sv) (cur:=m.cur) (rv:=rv) (steps:=m.steps) hcl
    have m9:=aBG (n:=d.many) (cv:=cv) (sv:=sv) (cur:=m.cur) (rv:=rv) (steps:=m.steps) hcl
    have m1:=aE1 (n:=d.many) (cv:=cv) (sv:=sv) (cur:=m.cur) (rv:=rv) (steps:=m.steps) hcl
    have mb:=aNE (n:=d.many) (cv:=cv) (sv:=sv) (cur:=m.cur) (rv:=rv) (steps:=m.steps) hcl hb
    have hcur:0≤m.cur∧m.cur < d.states.length:=by rcases ho.1 with h | h<;>omega
    have hi:m.cur.toNat < d.states.length:=by omega
    have hs:d.states[m.cur.toNat]=fP d m:=by unfold fP; rw [List.getD_eq_getElem?_getD,List.getElem?_eq_getElem hi]; rfl
    have hsi:=hsv.ixI .i64 hcur.1 hcur.2
    obtain ⟨x,⟨lv,rv',uv,nv,rfl,y1,y2,y3,y4,y5⟩,hx2,hx3,hx4,hx5⟩:=hsv.at hi
    obtain ⟨xD,⟨lvD,rvD,uvD,nvD,rfl,z1,z2,z3,z4,z5⟩,w2,w3,w4,w5⟩:=hsvD.at hi
    have hsame:[lv,rv',uv,nv]=[lvD,rvD,uvD,nvD]:=by
      have:=aBE (gM h X) w3
      rw [hx3] at this
      simpa using this
    simp only [List.cons.injEq,and_true] at hsame
    obtain ⟨rfl,rfl,rfl,rfl⟩:=hsame
    rw [hs] at y1 y2 y3 y4 y5 z2 z4
    refine aKr hc ?_
    (repeat (first | refine aB (by simp (disch:=first | omega | exact Int.natCast_nonneg _ | assumption) only [BB,B2,↓reduceIte,Nat.reduceLeDiff,Nat.reduceAdd,CC,a8,gp,m8,m9,hsi,hx3]<;>rfl) ?_ | refine aD ?_ | refine aE ?_ | with_reducible first | refine aG ?_ | refine aF ?_ | refine aH ?_ | refine aI ?_ | refine aK ?_ | refine aJ ?_ | refine aL ?_ | refine aC ?_))
    refine kR (x:=[lv,rv',uv,nv]) lI rfl rfl rfl (by simp [y1.ok,y2.ok,y3.ok,SlR.okC y4]) hf (by omega) fun h2 hs2 hf2 g2 _=>?_
    (repeat (first | refine aB (by simp (disch:=first | omega | exact Int.natCast_nonneg _ | assumption) only [BB,B2,↓reduceIte,Nat.reduceLeDiff,Nat.reduceAdd,CC,g2]<;>rfl) ?_ | refine aD ?_ | refine aE ?_ | with_reducible first | refine aG ?_ | refine aF ?_ | refine aH ?_ | refine aI ?_ | refine aK ?_ | refine aJ ?_ | refine aL ?_ | refine aC ?_))
    have hm2:=hm.subX kB hs2
    have gp2:=hs2 _ _ gp
    refine aBg hm2 (hf2.mono (by omega)) hsf.r3 hsf.rl (y2.sub hs2) fun n3 hn3=>?_
    have hkn:=hsf.kn
    have z4':=z4.sub ((gM h X).trans hs2) (rJ.sub ((gM h X).trans hs2))
    have nix:=z4'.ix .i64 hkn
    obtain ⟨w,⟨w',hw1,hw2,hw3⟩,hw4⟩:=z4'.at1 hkn
    simp only [List.cons.injEq,and_true] at hw1
    subst hw1
    have hrow:(fP d m).next[fI d.counts m.rs (fP d m).r]=(fP d m).next.getD (fI d.counts m.rs (fP d m).r) []:=by rw [List.getD_eq_getElem?_getD,List.getElem?_eq_getElem hkn]; rfl
    rw [hrow] at hw2 hw3
    have hrowD:SlR ro (del h X) w 2 (yQ ro (del h X)) ((fP d m).next.getD (fI d.counts m.rs (fP d m).r) []):=by
      obtain ⟨u,⟨u',hu1,hu2,hu3⟩,hu4⟩:=z4.at1 hkn
      simp only [List.cons.injEq,and_true] at hu1
      subst hu1
      have:=aE0 ((gM h X).trans hs2) hu4
      rw [hw4] at this
      cases this
      rw [hrow] at hu2
      exact hu2
    generalize hcb:d.c.getD b 0=cb at mb hmv
    have hci:cb < ((fP d m).next.getD (fI d.counts m.rs (fP d m).r) []).length:=hmv.1
    have hmvd:kS d m b=((fP d m).next.getD (fI d.counts m.rs (fP d m).r) [])[cb]:=by
      unfold kS
      rw [hcb,List.getD_eq_getElem?_getD (a:=aL8),List.getElem?_eq_getElem hci]; rfl
    refine ⟨oK g2 g2,?_⟩
    have rix:=hw2.ix .u8 hci
    obtain ⟨x,⟨ov,rfl,hov,hol⟩,v2,v3,v4,v5⟩:=hw2.at hci
    obtain ⟨xD,⟨ovD,rfl,hovD,holD⟩,u2,u3,u4,u5⟩:=hrowD.at hci
    have hsame2:[Value.int .i64 ((fP d m).next.getD (fI d.counts m.rs (fP d m).r) [])[cb].to,ov]=[Value.int .i64 ((fP d m).next.getD (fI d.counts m.rs (fP d m).r) [])[cb].to,ovD]:=by
      have:=aBE ((gM h X).trans hs2) u3
      rw [v3] at this
      simpa using this
    simp only [List.cons.injEq,and_true,true_and] at hsame2
    subst hsame2
    rw [← hmvd] at v3 hovD hov
    refine aB nix (aB hw4 ?_)
    (repeat (first | refine aB (by simp (disch:=first | omega | exact Int.natCast_nonneg _ | assumption) only [BB,B2,↓reduceIte,Nat.reduceLeDiff,Nat.reduceAdd,CC,a8,gp2,mb]<;>rfl) ?_ | refine aD ?_ | refine aE ?_ | with_reducible first | refine aG ?_ | refine aF ?_ | refine aH ?_ | refine aI ?_ | refine aK ?_ | refine aJ ?_ | refine aL ?_ | refine aC ?_))
    refine ⟨oK gp2 gp2,?_⟩
    refine aB rix (aB v3 ?_)
    generalize hMV:kS d m b=mv at hK hops hmp hovD hov
    refine kR (x:=[.int .i64 mv.to,ov]) tQ rfl rfl rfl (by simp [show bT ov=true from SlR.okC hov,show bT (Value.int .i64 mv.to)=true from rfl]) hf2 (by omega) fun h3 hs3 hf3 g3 _=>?_
    have gp3:=hs3 _ _ gp2
    have g23:=hs3 _ _ g2
    (repeat (first | refine aB (by simp (disch:=first | omega | exact Int.natCast_nonneg _ | assumption) only [BB,B2,↓reduceIte,Nat.reduceLeDiff,Nat.reduceAdd,CC,a8]<;>rfl) ?_ | refine aD ?_ | refine aE ?_ | with_reducible first | refine aG ?_ | refine aF ?_ | refine aH ?_ | refine aI ?_ | refine aK ?_ | refine aJ ?_ | refine aL ?_ | refine aC ?_))
    refine aB (fM gp3 m1) ?_
    (repeat (first | refine aB (by simp (disch:=first | omega | exact Int.natCast_nonneg _ | assumption) only [BB,B2,↓reduceIte,Nat.reduceLeDiff,Nat.reduceAdd,CC]<;>rfl) ?_ | refine aD ?_ | refine aE ?_ | with_reducible first | refine aG ?_ | refine aF ?_ | refine aH ?_ | refine aI ?_ | refine aK ?_ | refine aJ ?_ | refine aL ?_ | refine aC ?_))
    refine aB (fM (l:=[lv,rv',uv,nv]) g23 rfl) ?_
    refine aB y2.len ?_
    have hr3:=hsf.r3
    (repeat (first | refine aB (by simp (disch:=first | omega | exact Int.natCast_nonneg _ | assumption) only [BB,B2,↓reduceIte,Nat.reduceLeDiff,Nat.reduceAdd,CC,a8]<;>rfl) ?_ | refine aD ?_ | refine aE ?_ | with_reducible first | refine aG ?_ | refine aF ?_ | refine aH ?_ | refine aI ?_ | refine aK ?_ | refine aJ ?_ | refine aL ?_ | refine aC ?_))
    have esteps:(m.steps:Int)+(1+((fP d m).r.length:Int))=((m.steps+1+(fP d m).r.length:Nat):Int):=by omega
    rw [esteps]
    refine aB (dZ (v:=.int .i64 ((m.steps+1+(fP d m).r.length:Nat):Int)) gp3 (by rw [yG hcl]; omega) rfl rfl) ?_
    rw [aFN hcl]
    have n2lt:=hf.lt' gp
    have gp4:(h3.upd p (some (.cells (eM d.c d.many cv sv m.cur rv (m.steps+1+(fP d m).r.length)).toArray cL))).get p=some (.cells (eM d.c d.many cv sv m.cur rv (m.steps+1+(fP d m).r.length)).toArray cL):=T.get_upd_same _ _ _
    have ho4:∀ k,k≠p→(h3.upd p (some (.cells (eM d.c d.many cv sv m.cur rv (m.steps+1+(fP d m).r.length)).toArray cL))).get k=h3.get k:=fun k hk=>T.get_upd_ne _ _ hk
    generalize (h3.upd p (some (.cells (eM d.c d.many cv sv m.cur rv (m.steps+1+(fP d m).r.length)).toArray cL)))=h4 at gp4 ho4
    have g24:=(ho4 (n1+12) (by omega)).trans g23
    have g34:=(ho4 (n1+31) (by omega)).trans g3
    (repeat (first | refine aB (by simp (disch:=first | omega | exact Int.natCast_nonneg _ | assumption) only [BB,B2,↓reduceIte,Nat.reduceLeDiff,Nat.reduceAdd,CC]<;>rfl) ?_ | refine aD ?_ | refine aE ?_ | with_reducible first | refine aG ?_ | refine aF ?_ | refine aH ?_ | refine aI ?_ | refine aK ?_ | refine aJ ?_ | refine aL ?_ | refine aC ?_))
    refine aB (fM (l:=[.int .i64 mv.to,ov]) g34 rfl) ?_
    (repeat (first | refine aB (by simp (disch:=first | omega | exact Int.natCast_nonneg _ | assumption) only [BB,B2,↓reduceIte,Nat.reduceLeDiff,Nat.reduceAdd,CC,a8]<;>rfl) ?_ | refine aD ?_ | refine aE ?_ | with_reducible first | refine aG ?_ | refine aF ?_ | refine aH ?_ | refine aI ?_ | refine aK ?_ | refine aJ ?_ | refine aL ?_ | refine aC ?_))
    refine aB (dZ (v:=.int .i64 mv.to) gp4 (by rw [yG hcl]; omega) rfl rfl) ?_
    rw [aFL hcl]
    have gp5:(h4.upd p (some (.cells (eM d.c d.many cv sv mv.to rv (m.steps+1+(fP d m).r.length)).toArray cL))).get p=some (.cells (eM d.c d.many cv sv mv.to rv (m.steps+1+(fP d m).r.length)).toArray cL):=T.get_upd_same _ _ _
    have ho5:∀ k,k≠p→(h4.upd p (some (.cells (eM d.c d.many cv sv mv.to rv (m.steps+1+(fP d m).r.length)).toArray cL))).get k=h3.get k:=fun k hk=>(T.get_upd_ne _ _ hk).trans (ho4 k hk)
    generalize (h4.upd p (some (.cells (eM d.c d.many cv sv mv.to rv (m.steps+1+(fP d m).r.length)).toArray cL)))=h5 at gp5 ho5
    have g25:=(ho5 (n1+12) (by omega)).trans g23
    have g35:=(ho5 (n1+31) (by omega)).trans g3
    have hs5:Sub h h3:=hs2.trans hs3
    have hD5:Sub (del h X) h5:=fun k o hk=>by
      have h9:=hk
      rw [iG] at h9
      split at h9
      · cases h9
      · rename_i hn
        rw [ho5 k (fun e=>hn (by rw [e]; exact hpX))]
        exact hs5 _ _ h9
    have hf5:Fr h5 (n1+32):=fun k hk=>by rw [ho5 k (by omega)]; exact hf3 k (by omega)
    have hSI:SIn (del h X) h p (n1+12) (n1+31) (eM d.c d.many cv sv mv.to rv (m.steps+1+(fP d m).r.length)) [lv,rv',uv,nv] [.int .i64 mv.to,ov] ps d.counts h5 (n1+32) m.rs:=by
      refine ⟨gp5,g25,g35,hD5,hR.keep kB fun q hq=>?_,fun k o hk hn=>?_,hf5⟩
      · obtain ⟨⟨c1,t1⟩,c2,t2⟩:=hR.ty kB q hq
        rw [ho5 _ (lC t1 gp (by decide)),ho5 _ (lC t2 gp (by decide)),t1,t2,hs5 _ _ t1,hs5 _ _ t2]
        exact ⟨rfl,rfl⟩
      · rw [ho5 k fun e=>hn (by rw [e]; exact List.mem_cons_self ..)]
        exact hs5 _ _ hk
    have hfin:∀ h' n',n1+32≤n'→SIn (del h X) h p (n1+12) (n1+31) (eM d.c d.many cv sv mv.to rv (m.steps+1+(fP d m).r.length)) [lv,rv',uv,nv] [.int .i64 mv.to,ov] ps d.counts h' n' (vM d.counts (nY d mv.to) mv.ops (s8 (nY d mv.to) (fP d m).r m.rs))→K (.bool (!decide (mv.to=-1))) h' n':=by
      intro h' n' hn' hi'
      obtain ⟨q1,q2,q3,q4,q5,q6,q7⟩:=hi'
      have hre:=aOC q4
      have:=hK h' n' (by omega) q7 q6 ⟨cv,sv,rv,q1,hA.sub hre,hP.sub hre,q5,hD,hpX,hbX⟩
      simpa using this
    have hj1:∀ (e':Env) n' nxv,e' 0=ptr p→e' 5=ptr (n1+12)→e' 6=ptr (n1+31)→e' 7=nxv→ZI ro (del h X) nxv (nY d mv.to)→n1+32≤n'→gE ro K e' h5 n':=fun e' n' nxv f0 f5 f6 f7 hz hn' =>
      aK2 hcl f0 f5 f6 f7 (hSI.mono hn') hD hbX hP z2 hsf.rl hsf.r3 hz hovD hops.1 hops.2.1 hops.2.2.1 hops.2.2.2 hB hB2 fun h' n'' hn'' hi'=>hfin h' n'' (by omega) hi'
    have m85:=aBF (n:=d.many) (cv:=cv) (sv:=sv) (cur:=mv.to) (rv:=rv) (steps:=m.steps+1+(fP d m).r.length) hcl
    (repeat (first | refine aB (by simp (disch:=first | omega | exact Int.natCast_nonneg _ | assumption) only [BB,B2,↓reduceIte,Nat.reduceLeDiff,Nat.reduceAdd,CC]<;>rfl) ?_ | refine aD ?_ | refine aE ?_ | with_reducible first | refine aG ?_ | refine aF ?_ | refine aH ?_ | refine aI ?_ | refine aK ?_ | refine aJ ?_ | refine aL ?_ | refine aC ?_))
    refine aB (fM (l:=[.int .i64 mv.to,ov]) g35 rfl) ?_
    by_cases hto:mv.to=-1
    · refine aGi hto ?_
      (repeat (first | refine aB (by simp (disch:=first | omega | exact Int.natCast_nonneg _ | assumption) only [BB,B2,↓reduceIte,Nat.reduceLeDiff,Nat.reduceAdd,CC]<;>rfl) ?_ | refine aD ?_ | refine aE ?_ | with_reducible first | refine aG ?_ | refine aF ?_ | refine aH ?_ | refine aI ?_ | refine aK ?_ | refine aJ ?_ | refine aL ?_ | refine aC ?_))
      refine hj1 _ _ (.slice none 0 0) rfl rfl rfl rfl ?_ (by omega)
      unfold nY
      rw [if_pos hto]
      exact Sl.nil
    · refine aJE hto ?_
      have htr:1≤mv.to∧mv.to < d.states.length:=by rcases hmp with h | h<;>omega
      have hti:mv.to.toNat < d.states.length:=by omega
      have hsv5:=hsvD.sub hD5 (eA.sub hD5)
      have tix:=hsv5.ixI .i64 (show 0≤mv.to by omega) htr.2
      obtain ⟨x,⟨lv2,rv2,uv2,nv2,rfl,a1,a2,a3,a4,a5⟩,b2,b3,b4,b5⟩:=hsvD.at hti
      have hl5:=aE0 hD5 (b5 1 rv2 rfl)
      have b4':=b4 1
      (repeat (first | refine aB (by simp (disch:=first | omega | exact Int.natCast_nonneg _ | assumption) only [BB,B2,↓reduceIte,Nat.reduceLeDiff,Nat.reduceAdd,CC,a8]<;>rfl) ?_ | refine aD ?_ | refine aE ?_ | with_reducible first | refine aG ?_ | refine aF ?_ | refine aH ?_ | refine aI ?_ | refine aK ?_ | refine aJ ?_ | refine aL ?_ | refine aC ?_))
      refine aB (fM gp5 m85) ?_
      (repeat (first | refine aB (by simp (disch:=first | omega | exact Int.natCast_nonneg _ | assumption) only [BB,B2,↓reduceIte,Nat.reduceLeDiff,Nat.reduceAdd,CC]<;>rfl) ?_ | refine aD ?_ | refine aE ?_ | with_reducible first | refine aG ?_ | refine aF ?_ | refine aH ?_ | refine aI ?_ | refine aK ?_ | refine aJ ?_ | refine aL ?_ | refine aC ?_))
      refine aB (fM (l:=[.int .i64 mv.to,ov]) g35 rfl) ?_
      refine aB tix (aB b4' (aB hl5 ?_))
      refine hj1 _ _ rv2 rfl rfl rfl rfl ?_ (by omega)
      unfold nY
      rw [if_neg hto,List.getD_eq_getElem?_getD,List.getElem?_eq_getElem hti]
      exact a2
end
end V
end Go.Proofs.YtjndkdmkecpllaaGreat
set_option linter.unusedVariables false
set_option linter.unusedSimpArgs false
namespace Go.Proofs.YtjndkdmkecpllaaGreat
namespace V
attribute [local irreducible] aA ifP aZ d4 eG exP d8
theorem aIe {d:AutoD} {m:MacD} {b:Nat} (ha:fV d=true) (ho:MOk d m):(jL d m b).steps≤m.steps+4:=by
  unfold jL
  by_cases hc:m.cur=-1
  · rw [if_pos hc]; omega
  · rw [if_neg hc]
    have:=(aH6 ha ho hc).r3
    show m.steps+1+_≤_
    omega
theorem aMS {l:List Nat} {k x:Nat} (hk:l[k]?=some x):(l.take (k+1)).sum=(l.take k).sum+x:=by
  obtain ⟨h1,h2⟩:=List.getElem?_eq_some_iff.1 hk
  rw [List.take_succ_eq_append_getElem h1,List.sum_append,h2]; simp
theorem aMR {B:Nat}:∀ {l:List Nat},(∀ x∈l,x≤B)→l.sum≤B*l.length
  | [],_=>by simp
  | x::r,h=>by
    have h1:=h x (List.mem_cons_self ..)
    have h2:=aMR (l:=r) fun y hy=>h y (List.mem_cons_of_mem _ hy)
    rw [List.sum_cons,List.length_cons,Nat.mul_succ]; omega
theorem aMG {rs:List RgD} {k:Nat} (hk:k < rs.length):pF rs (k:Int)=rs[k]:=by
  unfold pF
  rw [Int.toNat_natCast,List.getD_eq_getElem?_getD,List.getElem?_eq_getElem hk]; rfl
def aHt (d:AutoD) (m:MacD) (i:Int):List Nat:=if i < 0∨(d.counts.length:Int)≤i then [] else (pF m.rs i).1.reverse
def SJn (D hs:T Obj) (p:Nat) (pc:List Value) (ps:List (Nat × Nat)) (C:List (Int × Int)) (h:T Obj) (nx:Nat) (rs:List RgD):Prop :=
  h.get p=some (.cells pc.toArray cL)∧Sub D h∧RsX RI h ps C rs∧dY (p::l6 ps) hs h∧Fr h nx
section
variable {ro:Ro} {h0 hs h h':T Obj} {X:List Nat} {p nx:Nat} {pc:List Value} {ps:List (Nat × Nat)} {C:List (Int × Int)} {rs:List RgD} {K:KV}
theorem SJn.mono {n':Nat} (hi:SJn (del h0 X) hs p pc ps C h nx rs) (hn:nx≤n'):SJn (del h0 X) hs p pc ps C h n' rs:=by
  obtain ⟨g1,g4,g5,g6,g7⟩:=hi
  exact ⟨g1,g4,g5,g6,g7.mono hn⟩
theorem SJn.ring {i n':Nat} {q:Nat × Nat} {c:Int × Int} {L:List Nat} {w n:Nat} {r:RgD} (hi:SJn (del h0 X) hs p pc ps C h nx rs) (hd:Dst ps) (hX:∀ k∈l6 ps,k∈X) (hq:ps[i]?=some q) (hc:C[i]?=some c) (hR:RI h q.1 q.2 n L w) (hR':RI h' q.1 q.2 c.2.toNat r.1 r.2) (ho:qG h h' q.1 q.2) (hn:nx≤n') :
    SJn (del h0 X) hs p pc ps C h' n' (rs.set i r):=by
  obtain ⟨g1,g4,g5,g6,g7⟩:=hi
  have hm:=List.mem_of_getElem? hq
  have m1:q.1∈l6 ps:=iN.2 ⟨q,hm,.inl rfl⟩
  have m2:q.2∈l6 ps:=iN.2 ⟨q,hm,.inr rfl⟩
  have hr:=g5.set kB hd g7 hq hc hR' fun k _ k1 k2=>ho k k1 k2
  rw [aH3 hq] at hr
  refine ⟨ho.get hR g1 (by decide) (by decide),ho.subD (hX _ m1) (hX _ m2) g4,hr,fun k o hk hn=>?_,(ho.frR hR g7).mono hn⟩
  rw [ho k (fun e=>hn (List.mem_cons_of_mem _ (by rw [e]; exact m1))) (fun e=>hn (List.mem_cons_of_mem _ (by rw [e]; exact m2)))]
  exact g6 k o hk hn
end
section
variable {ro:Ro} {h:T Obj} {nx:Nat} {X:List Nat} {p:Nat} {ps:List (Nat × Nat)} {d:AutoD} {m:MacD} {K:KV}
set_option maxRecDepth 8000 in
theorem aAW {i:Int} (hm:MI ro h X p ps d m) (hC:d.counts.length≤512) (hf:Fr h nx) (hK:∀ r h' nx',nx≤nx'→Fr h' nx'→Sub h h'→Sl ro h' r 1 (jK (aHt d m i))→K r h' nx'):aN Tryz.prog ro kL [ptr p,.int .i64 i] h nx K:=by
  obtain ⟨cv,sv,rv,gp,hA,hP,hR,hD,hpX,hbX⟩:=id hm
  obtain ⟨hcl,hclt,hcv,hsv⟩:=hA.parts
  have m0:=qE (n:=d.many) (cv:=cv) (sv:=sv) (cur:=m.cur) (rv:=rv) (steps:=m.steps) hcl
  have hPh:=hP.sub (gM h X)
  have hpl:=hPh.len
  rw [lE,hR.1] at hpl
  apply vG
  unfold l7
  unfold aHt at hK
  (repeat (first | refine aB (by simp (disch:=first | omega | exact Int.natCast_nonneg _ | assumption) only [BB,B2,↓reduceIte,Nat.reduceLeDiff,Nat.reduceAdd,CC,kT]<;>rfl) ?_ | refine aD ?_ | refine aE ?_ | with_reducible first | refine aG ?_ | refine aF ?_ | refine aH ?_ | refine aI ?_ | refine aK ?_ | refine aJ ?_ | refine aL ?_ | refine aC ?_))
  refine dO (fun h1=>?_) (fun h1=>?_)
  · rw [if_pos (.inl h1)] at hK
    (repeat (first | refine aB (by simp (disch:=first | omega | exact Int.natCast_nonneg _ | assumption) only [BB,B2,↓reduceIte,Nat.reduceLeDiff,Nat.reduceAdd,CC]<;>rfl) ?_ | refine aD ?_ | refine aE ?_ | with_reducible first | refine aG ?_ | refine aF ?_ | refine aH ?_ | refine aI ?_ | refine aK ?_ | refine aJ ?_ | refine aL ?_ | refine aC ?_))
    exact ⟨h,Sub.refl _,hK _ _ _ (by omega) (hf.mono (by omega)) (Sub.refl _) Sl.nil⟩
  · (repeat (first | refine aB (by simp (disch:=first | omega | exact Int.natCast_nonneg _ | assumption) only [BB,B2,↓reduceIte,Nat.reduceLeDiff,Nat.reduceAdd,CC,a8,gp,m0,hpl]<;>rfl) ?_ | refine aD ?_ | refine aE ?_ | with_reducible first | refine aG ?_ | refine aF ?_ | refine aH ?_ | refine aI ?_ | refine aK ?_ | refine aJ ?_ | refine aL ?_ | refine aC ?_))
    refine pL (fun h2=>?_) (fun h2=>?_)
    · rw [if_pos (.inr h2)] at hK
      (repeat (first | refine aB (by simp (disch:=first | omega | exact Int.natCast_nonneg _ | assumption) only [BB,B2,↓reduceIte,Nat.reduceLeDiff,Nat.reduceAdd,CC]<;>rfl) ?_ | refine aD ?_ | refine aE ?_ | with_reducible first | refine aG ?_ | refine aF ?_ | refine aH ?_ | refine aI ?_ | refine aK ?_ | refine aJ ?_ | refine aL ?_ | refine aC ?_))
      exact ⟨h,Sub.refl _,hK _ _ _ (by omega) (hf.mono (by omega)) (Sub.refl _) Sl.nil⟩
    · rw [if_neg (by omega)] at hK
      obtain ⟨q,hq,hri⟩:=hR.at (c:=i) h1 (by omega)
      have hpi:=hPh.ixI .i64 h1 (by rw [lE,hR.1]; omega)
      have hp1:=hPh.load1 (wS hq)
      (repeat (first | refine aB (by simp (disch:=first | omega | exact Int.natCast_nonneg _ | assumption) only [BB,B2,↓reduceIte,Nat.reduceLeDiff,Nat.reduceAdd,CC,a8,gp,m0,hpi,hp1]<;>rfl) ?_ | refine aD ?_ | refine aE ?_ | with_reducible first | refine aG ?_ | refine aF ?_ | refine aH ?_ | refine aI ?_ | refine aK ?_ | refine aJ ?_ | refine aL ?_ | refine aC ?_))
      refine aHP hri (hf.mono (by omega)) fun r h3 n3 hn3 hs3 hf3 ho3=>?_
      exact ⟨h3,Sub.refl _,hK _ _ _ (by omega) (hf3.mono (by omega)) hs3 ho3.sl⟩
set_option maxRecDepth 8000 in
theorem rO {B:Nat} (hm:MI ro h X p ps d m) (ho:MOk d m) (hC:d.counts.length≤512) (hB:WLe B m.rs) (hB2:B≤1000000) (hst:m.steps≤1000000000) (hK:∀ nx',nx≤nx'→K (.int .i64 (jN m:Nat)) h nx'):aN Tryz.prog ro iS [ptr p] h nx K:=by
  obtain ⟨cv,sv,rv,gp,hA,hP,hR,hD,hpX,hbX⟩:=id hm
  obtain ⟨hcl,hclt,hcv,hsv⟩:=hA.parts
  have m0:=qE (n:=d.many) (cv:=cv) (sv:=sv) (cur:=m.cur) (rv:=rv) (steps:=m.steps) hcl
  have m1:=aE1 (n:=d.many) (cv:=cv) (sv:=sv) (cur:=m.cur) (rv:=rv) (steps:=m.steps) hcl
  have hPh:=hP.sub (gM h X)
  have hpl:=hPh.len
  rw [lE,hR.1] at hpl
  apply wI
  unfold nF
  unfold jN at hK
  (repeat (first | refine aB (by simp (disch:=first | omega | exact Int.natCast_nonneg _ | assumption) only [BB,B2,↓reduceIte,Nat.reduceLeDiff,Nat.reduceAdd,CC,kT,a8,gp,m0,m1,hpl]<;>rfl) ?_ | refine aD ?_ | refine aE ?_ | with_reducible first | refine aG ?_ | refine aF ?_ | refine aH ?_ | refine aI ?_ | refine aK ?_ | refine aJ ?_ | refine aL ?_ | refine aC ?_))
  have hrl:=ho.2
  have hsl:(m.rs.map (·.2)).length=d.counts.length:=by rw [List.length_map]; exact hrl
  have hwb:∀ x∈m.rs.map (·.2),x≤1000000:=fun x hx=>by
    obtain ⟨r,hr,rfl⟩:=List.mem_map.1 hx
    exact Nat.le_trans (hB r hr) hB2
  have hwat:∀ (i:Nat) (hi:i < m.rs.length),(m.rs.map (·.2))[i]?=some (m.rs[i]).2:=fun i hi=>by rw [List.getElem?_map,List.getElem?_eq_getElem hi]; rfl
  generalize m.rs.map (·.2)=ws at hK hsl hwb hwat
  refine bI (fun j e h' nx'=>∃ (k:Nat),k+j=d.counts.length∧nx≤nx'∧h'=h∧e 3=.int .i64 ((m.steps+(ws.take k).sum:Nat):Int)∧e 15=rv∧e 16=.int .i64 d.counts.length∧e 17=.int .i64 k) ?_ (n:=d.counts.length) ⟨0,by omega,by omega,rfl,rfl,rfl,rfl,rfl⟩
  rintro j e h' nx' ⟨k,hj,hnx,rfl,e3,e15,e16,e17⟩ Q' hq hx
  unfold oY
  rw [e3,e15,e16,e17]
  refine dO (fun hk=>?_) (fun hk=>?_)
  · have hk:k < d.counts.length:=by omega
    have hkr:k < m.rs.length:=by omega
    obtain ⟨q,hq',hri⟩:=hR.at (c:=(k:Int)) (by omega) (by omega)
    rw [Int.toNat_natCast] at hq'
    rw [aMG hkr] at hri
    have hws:=aMS (hwat k hkr)
    have h1:=aMR (l:=ws.take k) fun x hx=>hwb x (List.mem_of_mem_take hx)
    have h2:(ws.take k).length≤512:=by rw [List.length_take]; omega
    have h3:=Nat.mul_le_mul_left 1000000 h2
    have h4:=hB _ (List.getElem_mem hkr)
    (repeat (first | refine aB (by simp (disch:=first | omega | exact Int.natCast_nonneg _ | assumption) only [BB,B2,↓reduceIte,Nat.reduceLeDiff,Nat.reduceAdd,CC]<;>rfl) ?_ | refine aD ?_ | refine aE ?_ | with_reducible first | refine aG ?_ | refine aF ?_ | refine aH ?_ | refine aI ?_ | refine aK ?_ | refine aJ ?_ | refine aL ?_ | refine aC ?_))
    refine aB (hPh.ix _ (by rw [lE,hR.1]; exact hk)) (aB (hPh.load1 (wS hq')) ?_)
    refine aHS hri fun n2 hn2=>?_
    have hadd:aX .add (.int .i64 ((m.steps+(ws.take k).sum:Nat):Int)) (.int .i64 ((m.rs[k].2:Nat):Int))=some (.int .i64 ((m.steps+(ws.take (k+1)).sum:Nat):Int)):=by
      rw [cK,← Int.natCast_add,hws,dJ (by omega) (by omega),Nat.add_assoc]
    refine aB hadd ?_
    (repeat (first | refine aB (by simp (disch:=first | omega | exact Int.natCast_nonneg _ | assumption) only [BB,B2,↓reduceIte,Nat.reduceLeDiff,Nat.reduceAdd,CC]<;>rfl) ?_ | refine aD ?_ | refine aE ?_ | with_reducible first | refine aG ?_ | refine aF ?_ | refine aH ?_ | refine aI ?_ | refine aK ?_ | refine aJ ?_ | refine aL ?_ | refine aC ?_))
    exact hq (j - 1) _ _ _ _ (by omega) ⟨k+1,by omega,by omega,rfl,rfl,e15,e16,rfl⟩ (Sub.refl _)
  · (repeat (first | refine aB (by simp (disch:=first | omega | exact Int.natCast_nonneg _ | assumption) only [BB,B2,↓reduceIte,Nat.reduceLeDiff,Nat.reduceAdd,CC]<;>rfl) ?_ | refine aD ?_ | refine aE ?_ | with_reducible first | refine aG ?_ | refine aF ?_ | refine aH ?_ | refine aI ?_ | refine aK ?_ | refine aJ ?_ | refine aL ?_ | refine aC ?_))
    refine hx _ _ _ _ (fun e=>by cases e) (fG (dR ?_))
    unfold kH
    rw [List.take_of_length_le (by omega)] at e3
    have f3:∀ (e':Env) n',e' 3=.int .i64 ((m.steps+ws.sum:Nat):Int)→nx≤n'→∃ h2,Sub h2 h'∧K (e' 3) h2 n':=fun e' n' h3 hn=>by
      rw [h3]
      exact ⟨h',Sub.refl _,hK _ hn⟩
    exact f3 _ _ e3 (by omega)
end
end V
end Go.Proofs.YtjndkdmkecpllaaGreat
set_option linter.unusedVariables false
set_option linter.unusedSimpArgs false
namespace Go.Proofs.YtjndkdmkecpllaaGreat
namespace V
attribute [local irreducible] aA ifP aZ d4 eG exP d8
section
variable {ro:Ro} {h:T Obj} {p a n w nx:Nat} {L:List Nat} {K:KV}
end
def Lo (h:T Obj) (L:List (Nat × List Value × TypeId)):Prop:=∀ b∈L,h.get b.1=some (.cells b.2.1.toArray b.2.2)∧b.2.2≠jH∧b.2.2≠aD4
def SW (hs:T Obj) (X:List Nat) (n0:Nat) (p:Nat) (pc:List Value) (L:List (Nat × List Value × TypeId)) (ps0:List (Nat × Nat)) (C:List (Int × Int)) (h:T Obj) (nx:Nat) (rs:List RgD) (ps:List (Nat × Nat)):Prop :=
  h.get p=some (.cells pc.toArray hU)∧Lo h L∧Sub (del hs X) h∧RsX WJ h ps C rs∧Dst ps∧lT ps=lT ps0∧(∀ q∈ps,q.1∈ps0.map (·.1)∧(q.2∈ps0.map (·.2)∨n0≤q.2))∧dY (p::l6 ps0) hs h∧Fr h nx∧n0≤nx∧Fr hs n0∧∀ k∈p::l6 ps0,k∈X
section
variable {ro:Ro} {hs h h':T Obj} {X:List Nat} {n0 p nx:Nat} {pc:List Value} {L:List (Nat × List Value × TypeId)} {ps0 ps:List (Nat × Nat)} {C:List (Int × Int)} {rs:List RgD} {K:KV}
theorem SW.mono {n':Nat} (hi:SW hs X n0 p pc L ps0 C h nx rs ps) (hn:nx≤n'):SW hs X n0 p pc L ps0 C h n' rs ps:=by
  obtain ⟨g1,g2,g3,g4,g5,g6,g7,g8,g9,g10,g11⟩:=hi
  exact ⟨g1,g2,g3,g4,g5,g6,g7,g8,g9.mono hn,by omega,g11⟩
theorem SW.sub {n':Nat} (hi:SW hs X n0 p pc L ps0 C h nx rs ps) (hs':Sub h h') (hf:Fr h' n') (hn:nx≤n'):SW hs X n0 p pc L ps0 C h' n' rs ps:=by
  obtain ⟨g1,g2,g3,g4,g5,g6,g7,g8,g9,g10,g11⟩:=hi
  exact ⟨hs' _ _ g1,fun b hb=>⟨hs' _ _ (g2 b hb).1,(g2 b hb).2⟩,g3.trans hs',g4.sub aCK hs',g5,g6,g7,fun k o hk hn=>hs' _ _ (g8 k o hk hn),hf,by omega,g11⟩
theorem aCG {ps:List (Nat × Nat)} {k:Nat} (h:k∈ps.map (·.1)):k∈l6 ps:=by
  obtain ⟨q,hq,rfl⟩:=List.mem_map.1 h
  exact iN.2 ⟨q,hq,.inl rfl⟩
theorem aCH {ps:List (Nat × Nat)} {k:Nat} (h:k∈ps.map (·.2)):k∈l6 ps:=by
  obtain ⟨q,hq,rfl⟩:=List.mem_map.1 h
  exact iN.2 ⟨q,hq,.inr rfl⟩
theorem SW.ring {i n' a' w n:Nat} {q:Nat × Nat} {c:Int × Int} {M:List Nat} {r:RgD} (hi:SW hs X n0 p pc L ps0 C h nx rs ps) (hq:ps[i]?=some q) (hc:C[i]?=some c) (hR:WJ h q.1 q.2 n M w) (hR':WJ h' q.1 a' c.2.toNat r.1 r.2) (ha:a'=q.2∨nx≤a') (hg:∀ k,k < nx→k≠q.1→k≠q.2→h'.get k=h.get k) (hf:Fr h' n') (hn:nx≤n') :
    SW hs X n0 p pc L ps0 C h' n' (rs.set i r) (ps.set i (q.1,a')):=by
  obtain ⟨g1,g2,g3,g4,g5,g6,g7,g8,g9,g10,g11,g12⟩:=hi
  have hm:=List.mem_of_getElem? hq
  obtain ⟨m1,m2⟩:=g7 q hm
  obtain ⟨c1,t1⟩:=aCK.p hR
  obtain ⟨c2,t2⟩:=aCK.a hR
  have hlt:=g4.lt aCK g9
  have hget:∀ {k:Nat} {c:Array Value} {e:TypeId},h.get k=some (.cells c e)→e≠jH→e≠aD4→h'.get k=some (.cells c e):=fun hk h1 h2=>by
    rw [hg _ (g9.lt' hk) (lC hk t1 h1) (lC hk t2 h2)]; exact hk
  refine ⟨hget g1 (by decide) (by decide),fun b hb=>⟨hget (g2 b hb).1 (g2 b hb).2.1 (g2 b hb).2.2,(g2 b hb).2⟩,fun k o hk=>?_,g4.set aCK g5 g9 hq hc hR' hg,g5.set hq ?_,(aKR hq).trans g6,fun r hr=>?_,fun k o hk hkn=>?_,hf,by omega,g11,g12⟩
  · have h1:=hk
    rw [iG] at h1
    split at h1
    · cases h1
    · rename_i hnX
      have hk0:=g11.lt' h1
      rw [hg k (by omega) (fun e=>hnX (by rw [e]; exact g12 _ (List.mem_cons_of_mem _ (aCG m1)))) (fun e=>?_)]
      · exact g3 k o hk
      · rcases m2 with m2 | m2
        · exact hnX (by rw [e]; exact g12 _ (List.mem_cons_of_mem _ (aCH m2)))
        · omega
  · rcases ha with ha | ha
    · exact .inl ha
    · exact .inr fun s hs=>by have:=(hlt s hs).2; omega
  · rcases List.mem_or_eq_of_mem_set hr with h1 | h1
    · exact g7 r h1
    · subst h1
      refine ⟨m1,?_⟩
      rcases ha with ha | ha
      · subst ha; exact m2
      · exact .inr (show n0≤a' by omega)
  · have hk0:=g11.lt' hk
    rw [hg k (by omega) (fun e=>hkn (by rw [e]; exact List.mem_cons_of_mem _ (aCG m1))) (fun e=>?_)]
    · exact g8 k o hk hkn
    · rcases m2 with m2 | m2
      · exact hkn (by rw [e]; exact List.mem_cons_of_mem _ (aCH m2))
      · omega
theorem SW.cell {pc':List Value} (hi:SW hs X n0 p pc L ps0 C h nx rs ps) (h1:h'.get p=some (.cells pc'.toArray hU)) (h2:∀ k,k≠p→h'.get k=h.get k) (hL:∀ b∈L,b.2.2≠hU):SW hs X n0 p pc' L ps0 C h' nx rs ps:=by
  obtain ⟨g1,g2,g3,g4,g5,g6,g7,g8,g9,g10,g11,g12⟩:=hi
  have hp:=g9.lt' g1
  refine ⟨h1,fun b hb=>⟨?_,(g2 b hb).2⟩,fun k o hk=>?_,g4.keep aCK fun q hq=>?_,g5,g6,g7,fun k o hk hkn=>?_,fun k hk=>by rw [h2 k (by omega)]; exact g9 k hk,g10,g11,g12⟩
  · rw [h2 _ (lC (g2 b hb).1 g1 (hL b hb))]; exact (g2 b hb).1
  · have h9:=hk
    rw [iG] at h9
    split at h9
    · cases h9
    · rename_i hnX
      rw [h2 k (fun e=>hnX (by rw [e]; exact g12 _ (List.mem_cons_self ..)))]; exact g3 k o hk
  · obtain ⟨⟨c1,t1⟩,c2,t2⟩:=g4.ty aCK q hq
    exact ⟨h2 _ (lC t1 g1 (by decide)),h2 _ (lC t2 g1 (by decide))⟩
  · rw [h2 k fun e=>hkn (by rw [e]; exact List.mem_cons_self ..)]
    exact g8 k o hk hkn
def X2 (X:List Nat) (ps:List (Nat × Nat)):List Nat:=ps.map (·.2)++X
end
def yP (ro:Ro) (h:T Obj) (nx:Nat) (X:List Nat) (p:Nat) (ps:List (Nat × Nat)) (d:AutoD) (m':MacD) (h':T Obj) (nx':Nat) (X':List Nat) (ps':List (Nat × Nat)):Prop :=
  nx≤nx'∧Fr h' nx'∧dY (p::l6 ps) h h'∧(∀ k∈X',k∈X∨h.get k=none)∧(∀ k∈X,k∈X')∧(∀ k∈l6 ps',k∈l6 ps∨nx≤k)∧MW ro h' X' p ps' d m'
section
variable {ro:Ro} {h h':T Obj} {X:List Nat} {n0 p nx n':Nat} {L:List (Nat × List Value × TypeId)} {ps ps':List (Nat × Nat)} {d:AutoD} {m m':MacD} {cv sv rv:Value} {K:KV}
theorem SW.left (hA:mJ ro (del h X) (dQ d.c d.many cv sv) d) (hP:Sl ro (del h X) rv 1 (lT ps)) (hn:nx≤n0) (hi:SW h X n0 p (eM d.c d.many cv sv m'.cur rv m'.steps) L ps d.counts h' n' m'.rs ps'):yP ro h nx X p ps d m' h' n' (X2 X ps') ps':=by
  obtain ⟨g1,g2,g3,g4,g5,g6,g7,g8,g9,g10,g11,g12⟩:=hi
  have hX:∀ k∈X2 X ps',k∈X∨h.get k=none:=fun k hk=>by
    rcases List.mem_append.1 hk with h1 | h1
    · obtain ⟨q,hq,rfl⟩:=List.mem_map.1 h1
      rcases (g7 q hq).2 with h2 | h2
      · exact .inl (g12 _ (List.mem_cons_of_mem _ (aCH h2)))
      · exact .inr (g11 _ h2)
    · exact .inl h1
  have hre:=aMk g3 hX
  refine ⟨by omega,g9,g8,hX,fun k hk=>List.mem_append.2 (.inr hk),fun k hk=>?_,cv,sv,rv,g1,hA.sub hre,by rw [g6]; exact hP.sub hre,g4,g5,List.mem_append.2 (.inr (g12 _ (List.mem_cons_self ..))),fun k hk=>?_⟩
  · obtain ⟨q,hq,h1⟩:=iN.1 hk
    rcases h1 with rfl | rfl
    · exact .inl (aCG (g7 q hq).1)
    · rcases (g7 q hq).2 with h2 | h2
      · exact .inl (aCH h2)
      · exact .inr (by omega)
  obtain ⟨q,hq,h1⟩:=iN.1 hk
  rcases h1 with rfl | rfl
  · exact List.mem_append.2 (.inr (g12 _ (List.mem_cons_of_mem _ (aCG (g7 q hq).1))))
  · exact List.mem_append.2 (.inl (List.mem_map.2 ⟨q,hq,rfl⟩))
theorem yP.refl (hm:MW ro h X p ps d m) (hf:Fr h nx) (hn:nx≤n'):yP ro h nx X p ps d m h n' X ps:=⟨hn,hf.mono hn,(Sub.refl h).keepL,fun k hk=>.inl hk,fun k hk=>hk,fun k hk=>.inl hk,hm⟩
theorem yP.trans {h1 h2:T Obj} {n1 n2:Nat} {X1 X2:List Nat} {ps1 ps2:List (Nat × Nat)} {m1 m2:MacD} (hf:Fr h nx) (hX:∀ k∈p::l6 ps,k∈X) (a:yP ro h nx X p ps d m1 h1 n1 X1 ps1) (b:yP ro h1 n1 X1 p ps1 d m2 h2 n2 X2 ps2):yP ro h nx X p ps d m2 h2 n2 X2 ps2:=by
  obtain ⟨a1,a2,a3,a4,a5,hb,a6⟩:=a
  obtain ⟨b1,b2,b3,b4,b5,hb2,b6⟩:=b
  refine ⟨by omega,b2,fun k o hk hn=>b3 k o (a3 k o hk hn) fun hm=>?_,fun k hk=>?_,fun k hk=>b5 k (a5 k hk),fun k hk=>?_,b6⟩
  · have hlt:=hf.lt' hk
    rcases List.mem_cons.1 hm with rfl | hm
    · exact hn (List.mem_cons_self ..)
    · rcases hb k hm with h9 | h9
      · exact hn (List.mem_cons_of_mem _ h9)
      · omega
  · rcases b4 k hk with h9 | h9
    · exact a4 k h9
    · by_cases hp:k∈p::l6 ps
      · exact .inl (hX k hp)
      · cases hq:h.get k with
        | none=>exact .inr rfl
        | some o=>rw [a3 k o hq hp] at h9; cases h9
  · rcases hb2 k hk with h9 | h9
    · exact hb k h9
    · exact .inr (by omega)
theorem yP.mono {n2:Nat} {X':List Nat} (a:yP ro h nx X p ps d m h' n' X' ps') (hn:n'≤n2):yP ro h nx X p ps d m h' n2 X' ps':=by
  obtain ⟨a1,a2,a3⟩:=a
  exact ⟨by omega,a2.mono hn,a3⟩
end
end V
end Go.Proofs.YtjndkdmkecpllaaGreat
set_option linter.unusedVariables false
set_option linter.unusedSimpArgs false
namespace Go.Proofs.YtjndkdmkecpllaaGreat
namespace V
attribute [local irreducible] aA ifP aZ d4 eG exP d8
theorem aEY {l:List Nat} {i:Nat} (hi:i < l.length):(jK l)[i]?=some [.int .i64 (l[i]:Nat)]:=by simp [jK,hi]
section
variable {ro:Ro} {h:T Obj} {nx:Nat} {X:List Nat} {p:Nat} {ps:List (Nat × Nat)} {d:AutoD} {m:MacD} {K:KV}
end
end V
end Go.Proofs.YtjndkdmkecpllaaGreat
set_option linter.unusedVariables false
set_option linter.unusedSimpArgs false
namespace Go.Proofs.YtjndkdmkecpllaaGreat
namespace V
attribute [local irreducible] aA ifP aZ d4 eG exP d8
section
variable {ro:Ro} {hs h h':T Obj} {X:List Nat} {n0 p sb mb nx:Nat} {lv rv' uv nv:Value} {ps0 ps:List (Nat × Nat)} {C:List (Int × Int)} {rs:List RgD} {K:KV}
variable {cc:List Nat} {many cur:Int} {cv sv rv:Value} {steps:Nat} {to:Int} {ov nxv:Value} {ops:List Nat} {R:List Int}
end
section
variable {ro:Ro} {h:T Obj} {nx:Nat} {X:List Nat} {p:Nat} {ps:List (Nat × Nat)} {d:AutoD} {m:MacD} {K:KV}
theorem SW.lo {hs h h':T Obj} {X:List Nat} {n0 p nx n':Nat} {pc:List Value} {L L':List (Nat × List Value × TypeId)} {ps0 ps:List (Nat × Nat)} {C:List (Int × Int)} {rs:List RgD} (hi:SW hs X n0 p pc L ps0 C h nx rs ps) (hs':Sub h h') (hf:Fr h' n') (hn:nx≤n') (hL:Lo h' L'):SW hs X n0 p pc L' ps0 C h' n' rs ps:=by
  obtain ⟨g1,g2,g3⟩:=hi.sub hs' hf hn
  exact ⟨g1,hL,g3⟩
end
end V
end Go.Proofs.YtjndkdmkecpllaaGreat
set_option linter.unusedVariables false
set_option linter.unusedSimpArgs false
namespace Go.Proofs.YtjndkdmkecpllaaGreat
namespace V
attribute [local irreducible] aA ifP aZ d4 eG exP d8
theorem aN9 {ro:Ro} {h:T Obj} {v:Value} {z:Nat} {l:List (List Value)} (hl:Sl ro h v z l):(v=.slice none 0 0∧l=[]∧slB .eql v (.slice none 0 0)=some (.bool true))∨slB .eql v (.slice none 0 0)=some (.bool false):=by
  rcases hl with ⟨rfl,rfl⟩ | ⟨a,cap,rfl,_⟩
  · exact .inl ⟨rfl,rfl,rfl⟩
  · exact .inr rfl
theorem tY {ro:Ro} {h:T Obj} {v:Value} {z nx:Nat} {t e:TypeId} {i:TypeInfo} {zv:Value} {m:List (List Value)} {K:KV} (hx:Sl ro h v z m) (hlit:∀ id,a7 Tryz.prog t id 0 []=some (.slice (some (own id z)) 0 0,some (.cells #[] e))) (hu:und Tryz.prog t=some (.slice e)) (hi':tin Tryz.prog e=some i) (hz:i.size=z) (hz0:0 < z) (hzer:zer Tryz.prog e=some zv) (hzs:zv.cells.size=z)
    (hok:m.flatten.all bT=true) (hb:m.length*i.bytes≤big) (hb2:m.length≤big) (hf:Fr h nx)
    (hK:∀ r h' n',nx≤n'→Fr h' n'→Sub h h'→bV h' r z e m nx→K r h' n') :
    aA (slB .eql v (.slice none 0 0)) fun t4=>aZ t4 (∃ h2,Sub h2 h∧K (.slice none 0 0) h2 (nx+4)) (aA (a7 Tryz.prog t (nx+3) 0 []) fun r3=>eG h (nx+3) r3.2 fun h4=>aA (bX Tryz.prog ro h4 (nx+6) #[t,t] [r3.1,v]) fun r5=>∃ h6,Sub h6 r5.2.1∧K r5.1 h6 (r5.2.2+1)):=by
  rcases aN9 hx with ⟨rfl,rfl,h1⟩ | h1
  · refine aB h1 (aG ⟨h,Sub.refl _,hK _ _ _ (by omega) (hf.mono (by omega)) (Sub.refl _) bV.nil⟩)
  · refine aB h1 (aF (aB (hlit _) (aE ?_)))
    have hs1:Sub h (h.upd (nx+3) (some (.cells #[] e))):=(Sub.refl h).new hf (by omega)
    have hf1:Fr (h.upd (nx+3) (some (.cells #[] e))) (nx+6):=(hf.mono (by omega)).upd (Nat.le_refl _) (by omega)
    have ho:bV (h.upd (nx+3) (some (.cells #[] e))) (.slice (some (own (nx+3) z)) 0 0) z e [] nx:=.inr ⟨nx+3,by omega,rfl,(fun x hx=>by cases hx),by rw [T.get_upd_same]; rfl⟩
    obtain ⟨r,h',n',q1,q2,q3,q4,q5,q6⟩:=aHi (P:=Tryz.prog) (t:=t) (nx:=nx+6) ho (hx.sub hs1) hu hi' hz hz0 hzer hzs hok (by simpa using hb) (by simpa using hb2) (by omega) hf1
    refine aB q1 ⟨h',Sub.refl _,hK r h' (n'+1) (by omega) (q5.mono (by omega)) (fun k o hk=>q3 k o (hs1 k o hk) fun e=>?_) (by simpa using q2)⟩
    have hkk:nx+3=k:=Option.some.inj e
    have:=hf.lt' hk
    omega
theorem aLS (id:Nat):a7 Tryz.prog dD id 0 []=some (.slice (some (own id 1)) 0 0,some (.cells #[] cF)):=by kernel_rfl
theorem aMv (id:Nat):a7 Tryz.prog fY id 0 []=some (.slice (some (own id 2)) 0 0,some (.cells #[] d3)):=by kernel_rfl
theorem aKA (id:Nat):a7 Tryz.prog bE id 0 []=some (.slice (some (own id 2)) 0 0,some (.cells #[] bC)):=by kernel_rfl
theorem aMw (id:Nat):a7 Tryz.prog bS id 0 []=some (.slice (some (own id 1)) 0 0,some (.cells #[] bR)):=by kernel_rfl
theorem aNi:und Tryz.prog fY=some (.slice d3):=by kernel_rfl
theorem aOf:∃ i,tin Tryz.prog d3=some i∧i.size=2∧i.bytes=16:=xZ (by kernel_rfl)
theorem aNl:und Tryz.prog bS=some (.slice bR):=by kernel_rfl
theorem aNh:∃ i,tin Tryz.prog bR=some i∧i.size=1∧i.bytes=1:=xZ (by kernel_rfl)
theorem aNt:zer Tryz.prog bR=some (.int .u8 0):=by kernel_rfl
section
variable {ro:Ro} {h:T Obj} {v:Value} {nx:Nat} {K:KV}
theorem aB8 {l:List Int} (hv:ZI ro h v l) (hl:l.length≤1000000) (hf:Fr h nx) (hK:∀ r h' n',nx≤n'→Fr h' n'→Sub h h'→bV h' r 1 cF (gL l) nx→K r h' n'):aN Tryz.prog ro gN [v] h nx K:=by
  apply tN
  unfold kY
  obtain ⟨i,g1,g2,g3⟩:=aH9
  exact tY hv aLS aHb g1 (by omega) (by omega) aPQ rfl (by simp [gL,bT]) (by rw [mO,g3]; unfold big; omega) (by rw [mO]; unfold big; omega) hf hK
theorem aHs {l:List Nat} (hv:SlR ro h v 1 RU8 l) (hl:l.length≤1000000) (hf:Fr h nx) (hK:∀ r h' n',nx≤n'→Fr h' n'→Sub h h'→bV h' r 1 bR (oG l) nx→K r h' n'):aN Tryz.prog ro gT [v] h nx K:=by
  apply qB
  unfold iR
  obtain ⟨i,g1,g2,g3⟩:=aNh
  obtain ⟨cs,h1,h2,h3⟩:=hv
  have hcs:cs=oG l:=by
    apply List.ext_getElem?
    intro k
    rcases Nat.lt_or_ge k l.length with hk | hk
    · have e1:cs[k]?=some (cs[k]'(by omega)):=List.getElem?_eq_getElem _
      have e2:l[k]?=some l[k]:=List.getElem?_eq_getElem _
      have:=(h3 k _ _ e1 e2).1
      rw [e1,this]; simp [oG,hk]
    · rw [List.getElem?_eq_none (by omega),List.getElem?_eq_none (by rw [qT]; omega)]
  subst hcs
  exact tY h1 aMw aNl g1 (by omega) (by omega) aNt rfl (by simp [oG,bT]) (by rw [qT,g3]; unfold big; omega) (by rw [qT]; unfold big; omega) hf hK
theorem aHr {l:List (Int × Int)} (hv:SlR ro h v 2 zH l) (hl:l.length≤1000000) (hf:Fr h nx) (hK:∀ r h' n',nx≤n'→Fr h' n'→Sub h h'→bV h' r 2 d3 (t7 l) nx→K r h' n'):aN Tryz.prog ro gS [v] h nx K:=by
  apply pZ
  unfold iQ
  obtain ⟨i,g1,g2,g3⟩:=aOf
  obtain ⟨cs,h1,h2,h3⟩:=hv
  have hcs:cs=t7 l:=by
    apply List.ext_getElem?
    intro k
    rcases Nat.lt_or_ge k l.length with hk | hk
    · have e1:cs[k]?=some (cs[k]'(by omega)):=List.getElem?_eq_getElem _
      have e2:l[k]?=some l[k]:=List.getElem?_eq_getElem _
      have:=h3 k _ _ e1 e2
      unfold zH at this
      rw [e1,this]; simp [t7,hk]
    · rw [List.getElem?_eq_none (by omega),List.getElem?_eq_none (by rw [s9]; omega)]
  subst hcs
  have hok:(t7 l).flatten.all bT=true:=by
    rw [List.all_eq_true]
    intro x hx
    obtain ⟨y,hy,hxy⟩:=List.mem_flatten.1 hx
    obtain ⟨p,_,rfl⟩:=List.mem_map.1 hy
    simp at hxy
    rcases hxy with rfl | rfl<;>rfl
  exact tY h1 aMv aNi g1 (by omega) (by omega) aIj rfl hok (by rw [s9,g3]; unfold big; omega) (by rw [s9]; unfold big; omega) hf hK
theorem aEy {cs:List (List Value)} (hv:Sl ro h v 2 cs) (hok:cs.flatten.all bT=true) (hl:cs.length≤1000000) (hf:Fr h nx) (hK:∀ r h' n',nx≤n'→Fr h' n'→Sub h h'→bV h' r 2 bC cs nx→K r h' n'):aN Tryz.prog ro fK [v] h nx K:=by
  apply mY
  unfold fX
  obtain ⟨i,g1,g2,g3⟩:=aH8
  exact tY hv aKA aEk g1 (by omega) (by omega) tQ rfl hok (by rw [g3]; unfold big; omega) (by unfold big; omega) hf hK
end
theorem aHf {ro:Ro} {h:T Obj} {v w:Value} {z n1 n2 lo:Nat} {t e:TypeId} {i:TypeInfo} {zv:Value} {l:List (List Value)} {y:List Value} {K:Value × Option Obj→T Obj→Value × T Obj × Nat→Prop} (hlit:a7 Tryz.prog t n1 1 [(0,w)]=some (.slice (some (own n1 z)) 1 1,some (.cells y.toArray e))) (hy:y.length=z) (ho:bV h v z e l lo)
    (hu:und Tryz.prog t=some (.slice e)) (hi':tin Tryz.prog e=some i) (hz:i.size=z) (hz0:0 < z) (hzer:zer Tryz.prog e=some zv) (hzs:zv.cells.size=z) (hok:y.all bT=true) (hb:(l.length+1)*i.bytes≤big) (hb2:l.length+1≤big) (hf:Fr h n2) (hlo:lo≤n2) (hn:n1 < n2) (hne:jC v≠some n1)
    (hK:∀ h',bV h' (.slice (some (own n2 z)) (l++[y]).length (l++[y]).length) z e (l++[y]) lo→(∀ k o,h.get k=some o→k≠n1→jC v≠some k→h'.get k=some o)→Fr h' (n2+1)→K (.slice (some (own n1 z)) 1 1,some (.cells y.toArray e)) (h.upd n1 (some (.cells y.toArray e))) (.slice (some (own n2 z)) (l++[y]).length (l++[y]).length,h',n2+1)) :
    aA (a7 Tryz.prog t n1 1 [(0,w)]) fun r=>eG h n1 r.2 fun h'=>aA (bX Tryz.prog ro h' n2 #[t,t] [v,r.1]) (K r h'):=by
  refine aB hlit (aE ?_)
  have hkk:dY [n1] h (h.upd n1 (some (.cells y.toArray e))):=(Sub.refl h).keepL.upd (by simp)
  have ho1:bV (h.upd n1 (some (.cells y.toArray e))) v z e l lo:=ho.keepK hkk fun id hid hm=>hne (by rw [hid]; simp at hm; rw [hm])
  have hf1:Fr (h.upd n1 (some (.cells y.toArray e))) n2:=hf.upd (Nat.le_refl _) hn
  have hx1:Sl ro (h.upd n1 (some (.cells y.toArray e))) (.slice (some (own n1 z)) 1 1) z [y]:=Sl.own (l:=[y]) (e:=e) (f:=(0,0)) (by rw [T.get_upd_same]; simp) (by simpa using hy) (Nat.le_refl _)
  obtain ⟨h',q1,q2,q3,q4,q5⟩:=aEn (P:=Tryz.prog) (t:=t) (nx:=n2) ho1 hx1 hu hi' hz hz0 hzer hzs (by simp) (by simpa using hok) hb hb2 hlo hf1
  exact aB q1 (hK h' q2 (fun k o hk h1 h2=>q3 k o (hkk k o hk (by simpa using h1)) h2) q4)
section
variable {RR:RgP} {tp ta:TypeId} {h h':T Obj} {ps:List (Nat × Nat)} {C:List (Int × Int)} {rs:List RgD}
theorem RsX.snoc (hr:RsX RR h ps C rs) {q:Nat × Nat} {c:Int × Int} {r:RgD} (hn:RR h q.1 q.2 c.2.toNat r.1 r.2):RsX RR h (ps++[q]) (C++[c]) (rs++[r]):=by
  obtain ⟨r1,r2,r3⟩:=hr
  refine ⟨by simp [r1],by simp [r2],fun i p c' r' h1 h2 h3=>?_⟩
  rcases Nat.lt_or_ge i ps.length with hi | hi
  · rw [List.getElem?_append_left hi] at h1
    rw [List.getElem?_append_left (by omega)] at h2
    rw [List.getElem?_append_left (by omega)] at h3
    exact r3 i p c' r' h1 h2 h3
  · rw [List.getElem?_append_right hi] at h1
    rw [List.getElem?_append_right (by omega)] at h2
    rw [List.getElem?_append_right (by omega)] at h3
    have hlt:=(List.getElem?_eq_some_iff.1 h1).1
    have hi0:i=ps.length:=by simp at hlt; omega
    subst hi0
    rw [Nat.sub_self] at h1
    rw [r1,Nat.sub_self] at h2
    rw [show ps.length - rs.length=0 by omega] at h3
    cases h1; cases h2; cases h3
    exact hn
theorem Dst.snoc (hd:Dst ps) {q:Nat × Nat} (hq:∀ p∈ps,p.1≠q.1∧p.2≠q.2):Dst (ps++[q]):=by
  intro i j p p2 h1 h2 hij
  rcases Nat.lt_or_ge i ps.length with hi | hi
  · rw [List.getElem?_append_left hi] at h1
    rcases Nat.lt_or_ge j ps.length with hj | hj
    · rw [List.getElem?_append_left hj] at h2
      exact hd i j p p2 h1 h2 hij
    · rw [List.getElem?_append_right hj] at h2
      have:p2=q:=by have:=List.mem_of_getElem? h2; simpa using this
      subst this
      exact hq p (List.mem_of_getElem? h1)
  · rw [List.getElem?_append_right hi] at h1
    have hp:p=q:=by have:=List.mem_of_getElem? h1; simpa using this
    subst hp
    rcases Nat.lt_or_ge j ps.length with hj | hj
    · rw [List.getElem?_append_left hj] at h2
      have:=hq p2 (List.mem_of_getElem? h2)
      exact ⟨Ne.symm this.1,Ne.symm this.2⟩
    · rw [List.getElem?_append_right hj] at h2
      have h3:=(List.getElem?_eq_some_iff.1 h1).1
      have h4:=(List.getElem?_eq_some_iff.1 h2).1
      simp at h3 h4
      omega
theorem Dst.nil:Dst []:=fun i j p q h1=>by simp at h1
end
end V
end Go.Proofs.YtjndkdmkecpllaaGreat
set_option linter.unusedVariables false
set_option linter.unusedSimpArgs false
namespace Go.Proofs.YtjndkdmkecpllaaGreat
namespace V
attribute [local irreducible] aA ifP aZ d4 eG exP d8
theorem aAZ:∀ {mcs:List (List Value)} {k:Nat} {a b r:Value},(∀ x∈mcs,x.length=2)→mcs[k]?=some [a,b]→mcs.flatten.set (k*2+1) r=(mcs.set k [a,r]).flatten
  | [],k,a,b,r,_,h=>by simp at h
  | y::l,0,a,b,r,hz,h=>by
    simp at h; subst h; rfl
  | y::l,k+1,a,b,r,hz,h=>by
    have hy:=hz y (by simp)
    have ih:=aAZ (mcs:=l) (k:=k) (a:=a) (b:=b) (r:=r) (fun x hx=>hz x (by simp [hx])) (by simpa using h)
    rw [List.set_cons_succ,List.flatten_cons,List.flatten_cons,List.set_append_right _ _ (by omega),hy,show (k+1)*2+1 - 2=k*2+1 by omega,ih]
theorem aPJ {ro:Ro} {h:T Obj} {v:Value} {l:List Nat} (hs:Sl ro h v 1 (oG l)) (hl:∀ x∈l,x < 256):SlR ro h v 1 RU8 l:=⟨oG l,hs,qT l,fun i x d hx hd=>by
  simp only [oG,List.getElem?_map] at hx
  rw [hd] at hx
  cases hx
  exact ⟨rfl,hl d (List.mem_of_getElem? hd)⟩⟩
theorem RU8.lt {ro:Ro} {h:T Obj} {v:Value} {l:List Nat} (hs:SlR ro h v 1 RU8 l):∀ x∈l,x < 256:=fun x hx=>by
  obtain ⟨cs,h1,h2,h3⟩:=hs
  obtain ⟨i,hi⟩:=List.getElem?_of_mem hx
  have hlt:=(List.getElem?_eq_some_iff.1 hi).1
  exact (h3 i _ _ (List.getElem?_eq_getElem (by omega)) hi).2
theorem aIA (mid n c k j:Nat):jT 2 (.slice (some (own mid 2)) n c) k j=at_ mid (k*2+j) 0:=by simp [jT,elt,own]
def sZ (v:Value):List Nat:=(jC v).toList
theorem nN {v:Value} {k:Nat}:k∈sZ v ↔ jC v=some k:=by unfold sZ; cases jC v<;>simp [eq_comm]
section
variable {ro:Ro} {h:T Obj} {nx nA:Nat} {X:List Nat} {Q:KE} {e:Env}
set_option maxRecDepth 8000 in
theorem aOr {mid:Nat} {row:List MoveD} {mcs0:List (List Value)} {w2 w3 w6 w19 w20 w21 w33 w34 w35:Value} (e2:e 2=w2) (e3:e 3=w3) (e6:e 6=w6) (e19:e 19=w19) (e20:e 20=w20) (e21:e 21=w21) (e33:e 33=w33) (e34:e 34=w34) (e35:e 35=w35)
    (e9:e 9=.slice (some (own mid 2)) row.length row.length) (e41:e 41=.slice (some (own mid 2)) row.length row.length) (e42:e 42=.int .i64 row.length) (e43:e 43=.int .i64 0)
    (hg:h.get mid=some (.cells mcs0.flatten.toArray bC)) (hl:mcs0.length=row.length) (h2:∀ x∈mcs0,x.length=2) (hlen:row.length≤1000000)
    (hsrc:∀ (i:Nat) x m,mcs0[i]?=some x→row[i]?=some m→∃ ov,x=[.int .i64 m.to,ov]∧SlR ro (del h [mid]) ov 1 RU8 m.ops∧m.ops.length≤1000000) (hf:Fr h nx) (hX:∀ k∈X,k < nA) (hmid:nA≤mid) (hnA:nA≤nx)
    (hQ:∀ (e':Env) h' n',e' 2=w2→e' 3=w3→e' 6=w6→e' 9=.slice (some (own mid 2)) row.length row.length→e' 19=w19→e' 20=w20→e' 21=w21→e' 33=w33→e' 34=w34→e' 35=w35→nx≤n'→Fr h' n'→dY [mid] h h' →
      SlR ro (del h' X) (.slice (some (own mid 2)) row.length row.length) 2 (yQ ro (del h' X)) row→Q (.exit 4) e' h' n'):d5 (qM ro) e h nx Q:=by
  have hlt:=hf.lt' hg
  refine bI (fun j e h' nx'=>∃ (k:Nat) (mcs:List (List Value)),k+j=row.length∧nx≤nx'∧e 2=w2∧e 3=w3∧e 6=w6∧e 19=w19∧e 20=w20∧e 21=w21∧e 33=w33∧e 34=w34∧e 35=w35∧e 9=.slice (some (own mid 2)) row.length row.length∧e 41=.slice (some (own mid 2)) row.length row.length∧e 42=.int .i64 row.length∧e 43=.int .i64 k ∧
    h'.get mid=some (.cells mcs.flatten.toArray bC)∧mcs.length=row.length∧(∀ x∈mcs,x.length=2)∧(∀ i,k≤i→mcs[i]?=mcs0[i]?)∧(∀ (i:Nat) x m,i < k→mcs[i]?=some x→row[i]?=some m→∃ ov,x=[.int .i64 m.to,ov]∧SlR ro (del h' (mid::X)) ov 1 RU8 m.ops∧m.ops.length≤1000000)∧dY [mid] h h'∧Fr h' nx') ?_ (n:=row.length)
    ⟨0,mcs0,by omega,by omega,e2,e3,e6,e19,e20,e21,e33,e34,e35,e9,e41,e42,e43,hg,hl,h2,fun _ _=>rfl,fun i x m hi=>by omega,(Sub.refl h).keepL,hf⟩
  rintro j e h' nx' ⟨k,mcs,hj,hnx,e2,e3,e6,e19,e20,e21,e33,e34,e35,e9,e41,e42,e43,hg',hl',h2',hun,hpr,hk',hf'⟩ Q' hq hx
  have hsl:Sl ro h' (.slice (some (own mid 2)) row.length row.length) 2 mcs:=by rw [← hl']; exact Sl.own hg' h2' (Nat.le_refl _)
  unfold qM
  rw [e9,e41,e42,e43]
  refine dO (fun hk=>?_) (fun hk=>?_)
  · have hk:k < row.length:=by omega
    have hmk:mcs[k]?=some (mcs[k]'(by omega)):=List.getElem?_eq_getElem _
    have hmk0:=hun k (Nat.le_refl _)
    rw [hmk] at hmk0
    have hrk:row[k]?=some row[k]:=List.getElem?_eq_getElem _
    obtain ⟨ov,hx0,hov,hol⟩:=hsrc k _ _ hmk0.symm hrk
    rw [hx0] at hmk
    have hix:=hsl.ix .i64 (i:=k) (by omega)
    have hld:=hsl.loadA hmk
    have hfw:=hsl.fwd (i:=k) (by omega) 1
    rw [aIA] at hfw
    generalize row[k]=m at hx0 hov hol hmk hrk hld
    (repeat (first | refine aB (by simp (disch:=first | omega | exact Int.natCast_nonneg _ | assumption) only [BB,B2,↓reduceIte,Nat.reduceLeDiff,Nat.reduceAdd,CC]<;>rfl) ?_ | refine aD ?_ | refine aE ?_ | with_reducible first | refine aG ?_ | refine aF ?_ | refine aH ?_ | refine aI ?_ | refine aK ?_ | refine aJ ?_ | refine aL ?_ | refine aC ?_))
    refine aB hix (aB hld ?_)
    refine kR (x:=[.int .i64 m.to,ov]) tQ rfl rfl rfl (by simp [show bT ov=true from SlR.okC hov,show bT (Value.int .i64 m.to)=true from rfl]) hf' (by omega) fun h3 hs3 hf3 g3 _=>?_
    (repeat (first | refine aB (by simp (disch:=first | omega | exact Int.natCast_nonneg _ | assumption) only [BB,B2,↓reduceIte,Nat.reduceLeDiff,Nat.reduceAdd,CC]<;>rfl) ?_ | refine aD ?_ | refine aE ?_ | with_reducible first | refine aG ?_ | refine aF ?_ | refine aH ?_ | refine aI ?_ | refine aK ?_ | refine aJ ?_ | refine aL ?_ | refine aC ?_))
    refine aB (fM (l:=[.int .i64 m.to,ov]) g3 rfl) ?_
    have hD3:Sub (del h [mid]) h3:=(hk'.delS (fun k h=>h)).trans hs3
    refine aHs (hov.sub hD3 fun _ _ h=>h) hol (hf3.mono (by omega)) fun r h4 n4 hn4 hf4 hs4 ho4=>?_
    have g4:=hs4 _ _ (hs3 _ _ hg')
    refine aB hix (aB hfw ?_)
    have hfl:mcs.flatten.length=row.length*2:=by rw [(iK h2').1,hl']
    refine aB (dZ (l:=mcs.flatten) g4 (by omega) ho4.ok (by rcases ho4 with ⟨rfl,_⟩ | ⟨id,_,rfl,_⟩<;>rfl)) ?_
    rw [aAZ h2' hmk]
    have hk5:dY [mid] h' (h4.upd mid (some (.cells (mcs.set k [.int .i64 m.to,r]).flatten.toArray bC))):=((hs3.trans hs4).keepL).upd (by simp)
    have hk45:dY [mid] h4 (h4.upd mid (some (.cells (mcs.set k [.int .i64 m.to,r]).flatten.toArray bC))):=(Sub.refl h4).keepL.upd (by simp)
    have hf5:Fr (h4.upd mid (some (.cells (mcs.set k [.int .i64 m.to,r]).flatten.toArray bC))) n4:=hf4.upd (Nat.le_refl _) (by omega)
    have g5:(h4.upd mid (some (.cells (mcs.set k [.int .i64 m.to,r]).flatten.toArray bC))).get mid=some (.cells (mcs.set k [.int .i64 m.to,r]).flatten.toArray bC):=T.get_upd_same _ _ _
    generalize (h4.upd mid (some (.cells (mcs.set k [.int .i64 m.to,r]).flatten.toArray bC)))=h5 at hk5 hk45 hf5 g5
    have ho5:=(ho4.keepK hk45 fun id hid hm=>by have:=(ho4.blk hid).1; simp at hm; omega).del (ids:=mid::X) fun id hid hm=>by
      have:=(ho4.blk hid).1
      rcases List.mem_cons.1 hm with h9 | h9
      · omega
      · have:=hX id h9; omega
    have hR5:=aPJ (ro:=ro) ho5.sl (RU8.lt hov)
    (repeat (first | refine aB (by simp (disch:=first | omega | exact Int.natCast_nonneg _ | assumption) only [BB,B2,↓reduceIte,Nat.reduceLeDiff,Nat.reduceAdd,CC]<;>rfl) ?_ | refine aD ?_ | refine aE ?_ | with_reducible first | refine aG ?_ | refine aF ?_ | refine aH ?_ | refine aI ?_ | refine aK ?_ | refine aJ ?_ | refine aL ?_ | refine aC ?_))
    refine hq (j - 1) _ _ _ _ (by omega) ⟨k+1,mcs.set k [.int .i64 m.to,r],by omega,by omega,e2,e3,e6,e19,e20,e21,e33,e34,e35,e9,e41,e42,rfl,g5,by rw [List.length_set]; exact hl',fun x hx=>?_,fun i hi=>?_,fun i x m' hi hxi hmi=>?_,hk'.trans hk5,hf5.mono (by omega)⟩ (Sub.refl _)
    · rcases List.mem_or_eq_of_mem_set hx with h9 | h9
      · exact h2' x h9
      · subst h9; rfl
    · rw [List.getElem?_set_ne (by omega)]; exact hun i (by omega)
    · by_cases hik:k=i
      · subst hik
        rw [List.getElem?_set_self (by omega)] at hxi
        cases hxi
        rw [hrk] at hmi
        cases hmi
        exact ⟨r,rfl,hR5,hol⟩
      · rw [List.getElem?_set_ne hik] at hxi
        obtain ⟨ov',q1,q2,q3⟩:=hpr i x m' (by omega) hxi hmi
        exact ⟨ov',q1,q2.sub (hk5.del (l:=mid::X) (l':=mid::X) (fun k hk=>by simp at hk; subst hk; exact List.mem_cons_self ..) fun k hk=>.inl hk) fun _ _ h=>h,q3⟩
  · (repeat (first | refine aB (by simp (disch:=first | omega | exact Int.natCast_nonneg _ | assumption) only [BB,B2,↓reduceIte,Nat.reduceLeDiff,Nat.reduceAdd,CC]<;>rfl) ?_ | refine aD ?_ | refine aE ?_ | with_reducible first | refine aG ?_ | refine aF ?_ | refine aH ?_ | refine aI ?_ | refine aK ?_ | refine aJ ?_ | refine aL ?_ | refine aC ?_))
    refine hx _ _ _ _ (fun e=>by cases e) ?_
    have hmX:mid ∉ X:=fun hm=>by have:=hX mid hm; omega
    refine hQ _ _ _ e2 e3 e6 e9 e19 e20 e21 e33 e34 e35 (by omega) (hf'.mono (by omega)) hk' ⟨mcs,?_,hl',fun i x m hx hm=>?_⟩
    · have:(del h' X).get mid=some (.cells mcs.flatten.toArray bC):=jI hg' hmX
      rw [← hl']
      exact Sl.own this h2' (Nat.le_refl _)
    · have hi:=(List.getElem?_eq_some_iff.1 hx).1
      obtain ⟨ov',q1,q2,q3⟩:=hpr i x m (by omega) hx hm
      exact ⟨ov',q1,q2.sub (wA fun k hk=>List.mem_cons_of_mem _ hk) fun _ _ h=>h,by unfold vL; omega⟩
end
end V
end Go.Proofs.YtjndkdmkecpllaaGreat
set_option linter.unusedVariables false
set_option linter.unusedSimpArgs false
namespace Go.Proofs.YtjndkdmkecpllaaGreat
namespace V
attribute [local irreducible] aA ifP aZ d4 eG exP d8
theorem aNk:und Tryz.prog dN=some (.slice bE):=by kernel_rfl
theorem aOh:∃ i,tin Tryz.prog bE=some i∧i.size=1∧i.bytes=24:=xZ (by kernel_rfl)
theorem aOm:zer Tryz.prog bE=some (.slice none 0 0):=by kernel_rfl
theorem aOQ (aid:Nat) (a:Option Addr) (n c:Nat):a7 Tryz.prog dN aid 1 [(0,.slice a n c)]=some (.slice (some (own aid 1)) 1 1,some (.cells [Value.slice a n c].toArray bE)):=by kernel_rfl
def wsC (ws:List Value):List (List Value):=ws.map fun w=>[w]
theorem aFl (ws:List Value):(wsC ws).length=ws.length:=by simp [wsC]
theorem aOa {ro:Ro} {h:T Obj} {w:Value} {row:List MoveD} (hr:SlR ro h w 2 (yQ ro h) row):∃ cs,Sl ro h w 2 cs∧cs.length=row.length∧cs.flatten.all bT=true∧(∀ x∈cs,x.length=2)∧∀ (i:Nat) x m,cs[i]?=some x→row[i]?=some m→yQ ro h x m:=by
  obtain ⟨cs,h1,h2,h3⟩:=hr
  refine ⟨cs,h1,h2,?_,?_,h3⟩
  · rw [List.all_eq_true]
    intro x hx
    obtain ⟨y,hy,hxy⟩:=List.mem_flatten.1 hx
    obtain ⟨i,hi⟩:=List.getElem?_of_mem hy
    have hlt:=(List.getElem?_eq_some_iff.1 hi).1
    obtain ⟨ov,rfl,hov,_⟩:=h3 i _ _ hi (List.getElem?_eq_getElem (by omega))
    simp at hxy
    rcases hxy with rfl | rfl
    · rfl
    · exact SlR.okC hov
  · intro y hy
    obtain ⟨i,hi⟩:=List.getElem?_of_mem hy
    have hlt:=(List.getElem?_eq_some_iff.1 hi).1
    obtain ⟨ov,rfl,_⟩:=h3 i _ _ hi (List.getElem?_eq_getElem (by omega))
    rfl
section
variable {ro:Ro} {h:T Obj} {nx nA:Nat} {X:List Nat} {Q:KE} {e:Env}
set_option maxRecDepth 8000 in
set_option maxHeartbeats 1000000 in
theorem aOq {tid:Nat} {nvs R' U':Value} {rows:List (List MoveD)} {w2 w3 w19 w20 w21:Value} (e2:e 2=w2) (e3:e 3=w3) (e6:e 6=ptr tid) (e19:e 19=w19) (e20:e 20=w20) (e21:e 21=w21) (e33:e 33=nvs) (e34:e 34=.int .i64 rows.length) (e35:e 35=.int .i64 0)
    (hg:h.get tid=some (.cells [bG,R',U',bG].toArray aP)) (hlen:rows.length≤1000000) (hsrc:SlR ro (del h [tid]) nvs 1 (rJ ro (del h [tid])) rows) (hrow:∀ row∈rows,row≠[]∧row.length≤1000000∧∀ m∈row,m.ops.length≤1000000)
    (hf:Fr h nx) (hX:∀ k∈X,k < nA) (htid:nA≤tid) (hnA:nA≤nx)
    (hQ:∀ (e':Env) h' n' nv,e' 2=w2→e' 3=w3→e' 6=ptr tid→e' 19=w19→e' 20=w20→e' 21=w21→nx≤n'→Fr h' n'→dY [tid] h h'→h'.get tid=some (.cells [bG,R',U',nv].toArray aP) →
      SlR ro (del h' (tid::X)) nv 1 (rJ ro (del h' (tid::X))) rows→Q (.exit 2) e' h' n'):d5 (qL ro) e h nx Q:=by
  have hlt:=hf.lt' hg
  refine bI (fun j e h' nx'=>∃ (k:Nat) (ws:List Value) (nv:Value),k+j=rows.length∧nx≤nx'∧e 2=w2∧e 3=w3∧e 6=ptr tid∧e 19=w19∧e 20=w20∧e 21=w21∧e 33=nvs∧e 34=.int .i64 rows.length∧e 35=.int .i64 k ∧
    h'.get tid=some (.cells [bG,R',U',nv].toArray aP)∧bV h' nv 1 bE (wsC ws) nx∧ws.length=k∧(∀ (i:Nat) w row,ws[i]?=some w→rows[i]?=some row→rJ ro (del h' (tid::(sZ nv++X))) [w] row)∧dY [tid] h h'∧Fr h' nx') ?_ (n:=rows.length)
    ⟨0,[],bG,by omega,by omega,e2,e3,e6,e19,e20,e21,e33,e34,e35,hg,bV.nil,rfl,fun i w row hw=>by simp at hw,(Sub.refl h).keepL,hf⟩
  rintro j e h' nx' ⟨k,ws,nv,hj,hnx,e2,e3,e6,e19,e20,e21,e33,e34,e35,hg',ho',hwl,hfa,hk',hf'⟩ Q' hq hx
  unfold qL
  rw [e33,e34,e35]
  refine dO (fun hk=>?_) (fun hk=>?_)
  · have hk:k < rows.length:=by omega
    have hD:Sub (del h [tid]) h':=hk'.delS fun k h=>h
    have hs':=hsrc.sub hD (rJ.sub hD)
    have hix:=hs'.ix .i64 hk
    obtain ⟨w0,⟨w0',hw1,hw2,hw3⟩,hld⟩:=hs'.at1 hk
    simp only [List.cons.injEq,and_true] at hw1
    subst hw1
    have hrk:rows[k]?=some rows[k]:=List.getElem?_eq_getElem _
    obtain ⟨b1,b2,b3⟩:=hrow _ (List.getElem_mem hk)
    generalize rows[k]=row at hw2 hw3 hrk b1 b2 b3
    obtain ⟨cs,c1,c2,c3,c4,c5⟩:=aOa hw2
    (repeat (first | refine aB (by simp (disch:=first | omega | exact Int.natCast_nonneg _ | assumption) only [BB,B2,↓reduceIte,Nat.reduceLeDiff,Nat.reduceAdd,CC]<;>rfl) ?_ | refine aD ?_ | refine aE ?_ | with_reducible first | refine aG ?_ | refine aF ?_ | refine aH ?_ | refine aI ?_ | refine aK ?_ | refine aJ ?_ | refine aL ?_ | refine aC ?_))
    refine aB hix (aB hld ?_)
    refine aEy c1 c3 (by omega) (hf'.mono (by omega)) fun r h1 n1 hn1 hf1 hs1 ho1=>?_
    have hlnr:=(ho1.sl (ro:=ro)).len
    rw [c2] at hlnr
    rcases ho1 with ⟨_,hnil⟩ | ⟨mid,hmid,rfl,hz1,hg1⟩
    · exact absurd (List.length_eq_zero_iff.1 (by rw [← c2,hnil]; rfl)) b1
    rw [c2]
    refine aB rfl ?_
    have hmlt:=hf1.lt' hg1
    have hs1m:Sub h' (del h1 [mid]):=hs1.delN hf' fun i hi=>by simp at hi; omega
    refine aOr (ro:=ro) (mid:=mid) (row:=row) (mcs0:=cs) (nA:=nx'+6) (X:=tid::(sZ nv++X)) e2 e3 e6 e19 e20 e21 e33 e34 e35 rfl rfl rfl rfl hg1 c2 hz1 b2 (fun i x m hxi hmi=>?_) (hf1.mono (by omega)) (fun k hk=>?_) hmid (by omega) ?_
    · obtain ⟨ov,rfl,hov,_⟩:=c5 i x m hxi hmi
      exact ⟨ov,rfl,hov.sub hs1m fun _ _ h=>h,b3 m (List.mem_of_getElem? hmi)⟩
    · rcases List.mem_cons.1 hk with rfl | hk
      · have:=hf'.lt' hg'; omega
      · rcases List.mem_append.1 hk with hk | hk
        · have h9:=(ho'.blk (nN.1 hk)).2
          have:=hf'.lt' h9; omega
        · have:=hX k hk; omega
    · intro e4 h2 n2 f2 f3 f6 f9 f19 f20 f21 f33 f34 f35 hn2 hf2 hk2 hrw
      have hs2:Sub h' h2:=fun k o hk=>hk2 k o (hs1 k o hk) fun hm=>by have:=hf'.lt' hk; simp at hm; omega
      have hg2:=hs2 _ _ hg'
      have ho2:=ho'.keepS hs2
      have hj5:∀ (e5:Env) n3,e5 2=w2→e5 3=w3→e5 6=ptr tid→e5 9=.slice (some (own mid 2)) row.length row.length→e5 19=w19→e5 20=w20→e5 21=w21→e5 33=nvs→e5 34=.int .i64 rows.length→e5 35=.int .i64 k→n2≤n3→nL ro Q' e5 h2 n3:=by
        intro e5 n3 u2 u3 u6 u9 u19 u20 u21 u33 u34 u35 hn3
        unfold nL
        rw [u6,u9]
        (repeat (first | refine aB (by simp (disch:=first | omega | exact Int.natCast_nonneg _ | assumption) only [BB,B2,↓reduceIte,Nat.reduceLeDiff,Nat.reduceAdd,CC]<;>rfl) ?_ | refine aD ?_ | refine aE ?_ | with_reducible first | refine aG ?_ | refine aF ?_ | refine aH ?_ | refine aI ?_ | refine aK ?_ | refine aJ ?_ | refine aL ?_ | refine aC ?_))
        refine aB (fM (l:=[bG,R',U',nv]) hg2 rfl) ?_
        obtain ⟨i,t1,t2,t3⟩:=aOh
        have hn1lt:jC nv≠some (n3+3):=fun e=>by
          have h9:=(ho2.blk e).2
          have:=hf2.lt' h9; omega
        refine aHf (z:=1) (l:=wsC ws) (y:=[.slice (some (own mid 2)) row.length row.length]) (aOQ _ _ _ _) rfl ho2 aNk t1 (by omega) (by omega) aOm rfl rfl (by rw [aFl,t3]; unfold big; omega) (by rw [aFl]; unfold big; omega) (hf2.mono (by omega)) (by omega) (by omega) hn1lt fun h3 ho3 hk3 hf3=>?_
        have ewc:wsC ws++[[.slice (some (own mid 2)) row.length row.length]]=wsC (ws++[.slice (some (own mid 2)) row.length row.length]):=by simp [wsC]
        rw [ewc] at ho3 ⊢
        generalize hnv:Value.slice (some (own (n3+5) 1)) (wsC (ws++[.slice (some (own mid 2)) row.length row.length])).length (wsC (ws++[.slice (some (own mid 2)) row.length row.length])).length=nv2 at ho3
        have hsb2:jC nv2=some (n3+5):=by rw [← hnv]; rfl
        have hg3:=hk3 _ _ hg2 (by have:=hf2.lt' hg2; omega) (fun e=>(ho2.ne hg2 (by decide)) e)
        dsimp only
        (repeat (first | refine aB (by simp (disch:=first | omega | exact Int.natCast_nonneg _ | assumption) only [BB,B2,↓reduceIte,Nat.reduceLeDiff,Nat.reduceAdd,CC]<;>rfl) ?_ | refine aD ?_ | refine aE ?_ | with_reducible first | refine aG ?_ | refine aF ?_ | refine aH ?_ | refine aI ?_ | refine aK ?_ | refine aJ ?_ | refine aL ?_ | refine aC ?_))
        refine aB (dZ (l:=[bG,R',U',nv]) hg3 (by show 3 < 4; omega) ho3.ok (by rw [← hnv]; rfl)) ?_
        have hk4:dY (tid::sZ nv) h2 (h3.upd tid (some (.cells ([bG,R',U',nv].set 3 nv2).toArray aP))):=fun k o hk hn=>by
          have h9:k≠tid:=fun e=>hn (by rw [e]; exact List.mem_cons_self ..)
          have h10:jC nv≠some k:=fun e=>hn (List.mem_cons_of_mem _ (nN.2 e))
          rw [T.get_upd_ne _ _ h9]
          exact hk3 k o hk (by have:=hf2.lt' hk; omega) h10
        have ho4:bV (h3.upd tid (some (.cells ([bG,R',U',nv].set 3 nv2).toArray aP))) nv2 1 bE (wsC (ws++[.slice (some (own mid 2)) row.length row.length])) nx:=by
          have hkk:dY [tid] h3 (h3.upd tid (some (.cells ([bG,R',U',nv].set 3 nv2).toArray aP))):=(Sub.refl h3).keepL.upd (by simp)
          exact ho3.keepK hkk fun id hid hm=>by rw [hsb2] at hid; cases hid; simp at hm; have:=hf2.lt' hg2; omega
        have hf4:Fr (h3.upd tid (some (.cells ([bG,R',U',nv].set 3 nv2).toArray aP))) (n3+6):=(hf3.mono (by omega)).upd (Nat.le_refl _) (by omega)
        have g4:(h3.upd tid (some (.cells ([bG,R',U',nv].set 3 nv2).toArray aP))).get tid=some (.cells [bG,R',U',nv2].toArray aP):=T.get_upd_same _ _ _
        generalize (h3.upd tid (some (.cells ([bG,R',U',nv].set 3 nv2).toArray aP)))=h4 at hk4 ho4 hf4 g4
        have hmono:Sub (del h2 (tid::(sZ nv++X))) (del h4 (tid::(sZ nv2++X))):=hk4.del (fun k hk=>by
            rcases List.mem_cons.1 hk with rfl | hk
            · exact List.mem_cons_self ..
            · exact List.mem_cons_of_mem _ (List.mem_append.2 (.inl hk))) fun k hk=>by
          rcases List.mem_cons.1 hk with rfl | hk
          · exact .inl (List.mem_cons_self ..)
          · rcases List.mem_append.1 hk with hk | hk
            · have:=nN.1 hk
              rw [hsb2] at this
              cases this
              exact .inr (hf2 _ (by omega))
            · exact .inl (List.mem_cons_of_mem _ (List.mem_append.2 (.inr hk)))
        have hj4:∀ (e6':Env) n6,e6' 2=w2→e6' 3=w3→e6' 6=ptr tid→e6' 19=w19→e6' 20=w20→e6' 21=w21→e6' 33=nvs→e6' 34=.int .i64 rows.length→e6' 35=.int .i64 k→n3+6≤n6→nK ro Q' e6' h4 n6:=by
          intro e6' n6 v2 v3 v6 v19 v20 v21 v33 v34 v35 hn6
          unfold nK
          rw [v35]
          (repeat (first | refine aB (by simp (disch:=first | omega | exact Int.natCast_nonneg _ | assumption) only [BB,B2,↓reduceIte,Nat.reduceLeDiff,Nat.reduceAdd,CC]<;>rfl) ?_ | refine aD ?_ | refine aE ?_ | with_reducible first | refine aG ?_ | refine aF ?_ | refine aH ?_ | refine aI ?_ | refine aK ?_ | refine aJ ?_ | refine aL ?_ | refine aC ?_))
          refine hq (j - 1) _ _ _ _ (by omega) ⟨k+1,ws++[.slice (some (own mid 2)) row.length row.length],nv2,by omega,by omega,v2,v3,v6,v19,v20,v21,v33,v34,rfl,g4,ho4,by simp [hwl],fun i w row' hwi hri=>?_,fun k' o hk9 hn9=>?_,hf4.mono (by omega)⟩ (Sub.refl _)
          · rcases Nat.lt_or_ge i ws.length with hi | hi
            · rw [List.getElem?_append_left hi] at hwi
              have h9:=hfa i w row' hwi hri
              have hkeep2:Sub (del h' (tid::(sZ nv++X))) (del h2 (tid::(sZ nv++X))):=(Sub.keepL hs2:dY [] h' h2).del (fun k hk=>by cases hk) fun k hk=>.inl hk
              exact rJ.sub (hkeep2.trans hmono) _ _ h9
            · rw [List.getElem?_append_right hi] at hwi
              have hlt9:=(List.getElem?_eq_some_iff.1 hwi).1
              have:i=k:=by simp at hlt9; omega
              subst this
              rw [hrk] at hri
              cases hri
              have:w=.slice (some (own mid 2)) row.length row.length:=by have:=List.mem_of_getElem? hwi; simpa using this
              subst this
              exact ⟨_,rfl,hrw.sub hmono (yQ.sub hmono),by unfold vL; omega⟩
          · have h10:=hs2 _ _ (hk' k' o hk9 hn9)
            have hk'lt:=hf.lt' hk9
            refine hk4 k' o h10 fun hm=>?_
            rcases List.mem_cons.1 hm with rfl | hm
            · exact hn9 (by simp)
            · have:=(ho2.blk (nN.1 hm)).1; omega
        exact hj4 _ _ u2 u3 u6 u19 u20 u21 u33 u34 u35 (by omega)
      refine fG (dR ?_)
      exact hj5 _ _ f2 f3 f6 f9 f19 f20 f21 f33 f34 f35 (Nat.le_refl _)
  · (repeat (first | refine aB (by simp (disch:=first | omega | exact Int.natCast_nonneg _ | assumption) only [BB,B2,↓reduceIte,Nat.reduceLeDiff,Nat.reduceAdd,CC]<;>rfl) ?_ | refine aD ?_ | refine aE ?_ | with_reducible first | refine aG ?_ | refine aF ?_ | refine aH ?_ | refine aI ?_ | refine aK ?_ | refine aJ ?_ | refine aL ?_ | refine aC ?_))
    refine hx _ _ _ _ (fun e=>by cases e) ?_
    have hnt:∀ id,jC nv=some id→id ∉ tid::X:=fun id hid hm=>by
      have h9:=ho'.blk hid
      rcases List.mem_cons.1 hm with rfl | hm
      · exact (ho'.ne hg' (by decide)) hid
      · have:=hX id hm; omega
    have hsub:Sub (del h' (tid::(sZ nv++X))) (del h' (tid::X)):=wA fun k hk=>by
      rcases List.mem_cons.1 hk with rfl | hk
      · exact List.mem_cons_self ..
      · exact List.mem_cons_of_mem _ (List.mem_append.2 (.inr hk))
    refine hQ _ _ _ nv e2 e3 e6 e19 e20 e21 (by omega) (hf'.mono (by omega)) hk' hg' ⟨wsC ws,(ho'.del hnt).sl,by rw [aFl]; omega,fun i x row hxi hri=>?_⟩
    simp only [wsC,List.getElem?_map] at hxi
    cases hw:ws[i]? with
    | none=>rw [hw] at hxi; cases hxi
    | some w =>
      rw [hw] at hxi
      cases hxi
      exact rJ.sub hsub _ _ (hfa i w row hw hri)
end
end V
end Go.Proofs.YtjndkdmkecpllaaGreat
set_option linter.unusedVariables false
set_option linter.unusedSimpArgs false
namespace Go.Proofs.YtjndkdmkecpllaaGreat
namespace V
attribute [local irreducible] aA ifP aZ d4 eG exP d8
def erS (s:StateD):StateD:=⟨[],s.r,s.rule,s.next⟩
def er (d:AutoD):AutoD:=⟨d.c,d.many,d.counts,d.states.map erS⟩
theorem aAv {P:Program} {t:TypeId} {z:Array Value} {fs:Array Field} {pl:List (Nat × Nat)} {parts:List (Nat × Value)} {l:List Value} (h1:zer P t=some (.agg z)) (h2:und P t=some (.struct fs)) (h3:lD P fs.toList=some pl) (h4:kJ (pl[·]?) z.toList parts=some l):dF P t parts=some (.agg l.toArray):=by
  unfold dF
  rw [h1]
  simp only [Option.bind,h2,h3,Value.cells_agg,h4]
theorem aMP {P:Program} {t:TypeId} {pl:List (Nat × Nat)} (h:((und P t).bind fun d=>match d with
    | .struct fs=>lD P fs.toList
    | _=>none)=some pl):∃ fs,und P t=some (.struct fs)∧lD P fs.toList=some pl:=by
  obtain ⟨d,h2,h3⟩:=aM h
  cases d<;>try (cases h3; done)
  exact ⟨_,h2,h3⟩
theorem aGt {a b c:List Value} (h:c.length=a.length):over (a++b) 0 c=c++b:=by
  unfold over
  rw [List.take_zero,List.nil_append,Nat.zero_add,h,List.drop_left]
theorem aGD {c:List Nat} {n:Int} {cv:Value} (hc:c.length=256) (hcv:cv.cells=#[cv]):dF Tryz.prog a9 [(0,j5 c n),(1,cv)]=some (.agg (dQ c n cv bG).toArray):=by
  obtain ⟨fs,h1,h2⟩:=aMP (P:=Tryz.prog) (t:=a9) (pl:=[(0,257),(257,1),(258,1)]) (by kernel_rfl)
  refine aAv x0 h1 h2 ?_
  have hs:(eN (List.replicate 256 0) 0).length=257:=dB List.length_replicate
  have hs2:(eN c n).length=257:=dB hc
  have e1:Nat.beq (j5 c n).cells.size 257=true:=by rw [lH]; simp [hs2]
  have e2:Nat.ble (0+257) j8.length=true:=by rw [kD]; rfl
  have o1:over j8 0 (j5 c n).cells.toList=dQ c n bG bG:=by
    rw [lH]
    exact aGt (by rw [hs,hs2])
  have e3:Nat.beq cv.cells.size 1=true:=by rw [hcv]; rfl
  have e4:Nat.ble (257+1) (dQ c n bG bG).length=true:=by rw [cJ hc]; rfl
  have o2:over (dQ c n bG bG) 257 cv.cells.toList=dQ c n cv bG:=by
    rw [hcv]
    show over _ 257 [cv]=_
    rw [aCt _ (by rw [cJ hc]; omega),aB5 hc]
  show kJ _ j8 _=_
  simp only [kJ,List.getElem?_cons_zero,List.getElem?_cons_succ,Option.bind,e1,e2,o1,e3,e4,o2]
theorem aG8 {P:Program} {h:T Obj} {a n:Nat} {ty:TypeId} {zv v:Value} {x:List Value} {K:T Obj→Prop} (hz:zer P ty=some zv) (hzs:zv.cells.size=n) (hv:v.cells=x.toArray) (hx:x.length=n) (hok:x.all bT=true)
    (hK:∀ h',h'.get a=some (.cells x.toArray ty)→(∀ k,k≠a→h'.get k=h.get k)→K h') :
    aA (zer P ty) fun z=>d4 h a (.cells z.cells ty) fun h1=>aA (bY n h1 (ptr a) v) K:=by
  refine aB hz (aD (aB (fB (l:=zv.cells.toList) (vs:=x) (e:=ty) (f:=(0,0)) (by rw [T.get_upd_same]) hv hx (by simpa using hzs) hok) ?_))
  exact hK _ (by rw [T.get_upd_same]) fun k hk=>by rw [T.get_upd_ne _ _ hk,T.get_upd_ne _ _ hk]
theorem aEw (a b:Value) (h1:a.cells=#[a]) (h2:b.cells=#[b]):dF Tryz.prog aP [(1,a),(2,b)]=some (.agg #[bG,a,b,bG]):=by
  obtain ⟨fs,g1,g2⟩:=aMP (P:=Tryz.prog) (t:=aP) (pl:=[(0,1),(1,1),(2,1),(3,1)]) (by kernel_rfl)
  refine aAv lI g1 g2 ?_
  simp only [kJ,List.getElem?_cons_zero,List.getElem?_cons_succ,Option.bind,h1,h2]
  rfl
theorem bV.cells {h:T Obj} {v:Value} {z:Nat} {e:TypeId} {l:List (List Value)} {lo:Nat} (ho:bV h v z e l lo):v.cells=#[v]:=by
  rcases ho with ⟨rfl,_⟩ | ⟨id,_,rfl,_⟩<;>rfl
def Fit (d:AutoD):Prop:=d.counts.length≤1000000∧d.states.length≤1000000∧∀ s∈d.states,s.r.length≤1000000∧s.rule.length≤1000000∧s.next.length≤1000000∧∀ row∈s.next,row≠[]∧row.length≤1000000∧∀ m∈row,m.ops.length≤1000000
section
variable {ro:Ro} {h:T Obj} {nx:Nat} {Q:KE} {e:Env}
set_option maxRecDepth 8000 in
set_option maxHeartbeats 2000000 in
theorem aOp {X:List Nat} {rid oid:Nat} {c:List Nat} {n:Int} {cv svs:Value} {S:List StateD} (hc:c.length=256) (e2:e 2=ptr rid) (e3:e 3=ptr oid) (e19:e 19=svs) (e20:e 20=.int .i64 S.length) (e21:e 21=.int .i64 0)
    (hg:h.get oid=some (.cells (dQ c n cv bG).toArray a9)) (hgr:h.get rid=some (.cells j8.toArray a9)) (hro:rid≠oid) (hsrc:SlR ro (del h [oid]) svs 4 (eA ro (del h [oid])) S) (hlen:S.length≤1000000)
    (hfit:∀ s∈S,s.r.length≤1000000∧s.rule.length≤1000000∧s.next.length≤1000000∧∀ row∈s.next,row≠[]∧row.length≤1000000∧∀ m∈row,m.ops.length≤1000000) (hf:Fr h nx) (hX:∀ k∈X,k < nx)
    (hQ:∀ (e':Env) h' n' sv,e' 2=ptr rid→e' 3=ptr oid→nx≤n'→Fr h' n'→dY [oid] h h'→h'.get oid=some (.cells (dQ c n cv sv).toArray a9)→bT sv=true →
      SlR ro (del h' (oid::X)) sv 4 (eA ro (del h' (oid::X))) (S.map erS)→Q (.exit 0) e' h' n'):d5 (qK ro) e h nx Q:=by
  have hlt:=hf.lt' hg
  have hltr:=hf.lt' hgr
  refine bI (fun j e h' nx'=>∃ (k:Nat) (cs:List (List Value)) (sv:Value),k+j=S.length∧nx≤nx'∧e 2=ptr rid∧e 3=ptr oid∧e 19=svs∧e 20=.int .i64 S.length∧e 21=.int .i64 k ∧
    h'.get oid=some (.cells (dQ c n cv sv).toArray a9)∧bV h' sv 4 aP cs nx∧cs.length=k∧(∀ (i:Nat) x s,cs[i]?=some x→S[i]?=some s→eA ro (del h' (oid::(sZ sv++X))) x (erS s))∧dY [oid] h h'∧Fr h' nx') ?_ (n:=S.length)
    ⟨0,[],bG,by omega,by omega,e2,e3,e19,e20,e21,hg,bV.nil,rfl,fun i x s hx=>by simp at hx,(Sub.refl h).keepL,hf⟩
  rintro j e h' nx' ⟨k,cs,sv,hj,hnx,e2,e3,e19,e20,e21,hg',ho',hcl,hfa,hk',hf'⟩ Q' hq hx
  unfold qK
  rw [e19,e20,e21]
  refine dO (fun hk=>?_) (fun hk=>?_)
  · have hk:k < S.length:=by omega
    have hD:Sub (del h [oid]) h':=hk'.delS fun k h=>h
    have hs':=hsrc.sub hD (eA.sub hD)
    have hix:=hs'.ix .i64 hk
    have hsk:S[k]?=some S[k]:=List.getElem?_eq_getElem _
    obtain ⟨x,⟨lv,rv,uv,nv,rfl,y1,y2,y3,y4,y5⟩,hx2,hx3,hx4,hx5⟩:=hs'.at hk
    obtain ⟨b1,b2,b3,b4⟩:=hfit _ (List.getElem_mem hk)
    generalize S[k]=s at y1 y2 y3 y4 y5 b1 b2 b3 b4 hsk
    have hlt':=hf'.lt' hg'
    (repeat (first | refine aB (by simp (disch:=first | omega | exact Int.natCast_nonneg _ | assumption) only [BB,B2,↓reduceIte,Nat.reduceLeDiff,Nat.reduceAdd,CC]<;>rfl) ?_ | refine aD ?_ | refine aE ?_ | with_reducible first | refine aG ?_ | refine aF ?_ | refine aH ?_ | refine aI ?_ | refine aK ?_ | refine aJ ?_ | refine aL ?_ | refine aC ?_))
    refine aB hix (aB hx3 ?_)
    refine kR (x:=[lv,rv,uv,nv]) lI rfl rfl rfl (by simp [y1.ok,y2.ok,y3.ok,SlR.okC y4]) hf' (by omega) fun h1 hs1 hf1 g1 _=>?_
    (repeat (first | refine aB (by simp (disch:=first | omega | exact Int.natCast_nonneg _ | assumption) only [BB,B2,↓reduceIte,Nat.reduceLeDiff,Nat.reduceAdd,CC]<;>rfl) ?_ | refine aD ?_ | refine aE ?_ | with_reducible first | refine aG ?_ | refine aF ?_ | refine aH ?_ | refine aI ?_ | refine aK ?_ | refine aJ ?_ | refine aL ?_ | refine aC ?_))
    refine aB (fM (l:=[lv,rv,uv,nv]) g1 rfl) ?_
    refine aB8 (y2.sub hs1) b1 (hf1.mono (by omega)) fun R' h2 n2 hn2 hf2 hs2 ho2=>?_
    (repeat (first | refine aB (by simp (disch:=first | omega | exact Int.natCast_nonneg _ | assumption) only [BB,B2,↓reduceIte,Nat.reduceLeDiff,Nat.reduceAdd,CC]<;>rfl) ?_ | refine aD ?_ | refine aE ?_ | with_reducible first | refine aG ?_ | refine aF ?_ | refine aH ?_ | refine aI ?_ | refine aK ?_ | refine aJ ?_ | refine aL ?_ | refine aC ?_))
    refine aB (fM (l:=[lv,rv,uv,nv]) (hs2 _ _ g1) rfl) ?_
    refine ⟨oK g1 (hs2 _ _ g1),?_⟩
    refine aB8 (y3.sub (hs1.trans hs2)) b2 hf2 fun U' h3 n3 hn3 hf3 hs3 ho3=>?_
    refine aB (aEw _ _ ho2.cells ho3.cells) ?_
    refine aG8 (x:=[bG,R',U',bG]) lI rfl rfl rfl (by simp [show bT bG=true from rfl,ho2.ok,ho3.ok]) fun h4 g4 ho4=>?_
    have hs13:Sub h' h3:=(hs1.trans hs2).trans hs3
    have hs4:Sub h' h4:=fun k o hk=>by rw [ho4 k (by have:=hf'.lt' hk; omega)]; exact hs13 k o hk
    have hs4t:Sub h' (del h4 [nx'+12]):=fun k o hk=>jI (hs4 k o hk) (by have:=hf'.lt' hk; simp; omega)
    have hf4:Fr h4 n3:=fun k hk=>by rw [ho4 k (by omega)]; exact hf3 k hk
    have g14:h4.get (nx'+3)=some (.cells [lv,rv,uv,nv].toArray aP):=by rw [ho4 _ (by omega)]; exact hs3 _ _ (hs2 _ _ g1)
    have hnl:=(y4.sub hs4 (rJ.sub hs4)).len
    (repeat (first | refine aB (by simp (disch:=first | omega | exact Int.natCast_nonneg _ | assumption) only [BB,B2,↓reduceIte,Nat.reduceLeDiff,Nat.reduceAdd,CC]<;>rfl) ?_ | refine aD ?_ | refine aE ?_ | with_reducible first | refine aG ?_ | refine aF ?_ | refine aH ?_ | refine aI ?_ | refine aK ?_ | refine aJ ?_ | refine aL ?_ | refine aC ?_))
    refine aB (fM (l:=[lv,rv,uv,nv]) g14 rfl) ?_
    refine aB hnl ?_
    refine aOq (ro:=ro) (tid:=nx'+12) (rows:=s.next) (R':=R') (U':=U') (X:=oid::(sZ sv++X)) (nA:=nx') e2 e3 rfl e19 e20 e21 rfl rfl rfl g4 b3 (y4.sub hs4t (rJ.sub hs4t)) b4 (hf4.mono (by omega)) (fun k hk=>?_) (by omega) (by omega) ?_
    · rcases List.mem_cons.1 hk with rfl | hk
      · exact hlt'
      · rcases List.mem_append.1 hk with hk | hk
        · exact hf'.lt' (ho'.blk (nN.1 hk)).2
        · have:=hX k hk; omega
    · intro e5 h5 n5 nv5 f2 f3 f6 f19 f20 f21 hn5 hf5 hk5 g5 hnx5
      have hs5:Sub h' h5:=fun k o hk=>hk5 k o (hs4 k o hk) (by have:=hf'.lt' hk; simp; omega)
      have hg5:=hs5 _ _ hg'
      have ho5:=ho'.keepS hs5
      have hR5:bV h5 R' 1 cF (gL s.r) (nx'+14):=((ho2.keepS hs3).keepK (ids:=[nx'+12]) (h':=h4) (fun k o hk hn=>by rw [ho4 k (by simpa using hn)]; exact hk) fun id hid hm=>by have:=(ho2.blk hid).1; simp at hm; omega).keepK hk5 fun id hid hm=>by have:=(ho2.blk hid).1; simp at hm; omega
      have hU5:bV h5 U' 1 cF (gL s.rule) n2:=(ho3.keepK (ids:=[nx'+12]) (h':=h4) (fun k o hk hn=>by rw [ho4 k (by simpa using hn)]; exact hk) fun id hid hm=>by have:=(ho3.blk hid).1; simp at hm; omega).keepK hk5 fun id hid hm=>by have:=(ho3.blk hid).1; simp at hm; omega
      have hXlt:∀ k∈oid::(sZ sv++X),k < nx':=fun k hk=>by
        rcases List.mem_cons.1 hk with rfl | hk
        · exact hlt'
        · rcases List.mem_append.1 hk with hk | hk
          · exact hf'.lt' (ho'.blk (nN.1 hk)).2
          · have:=hX k hk; omega
      have hst:eA ro (del h5 (oid::(sZ sv++X))) [bG,R',U',nv5] (erS s):=by
        refine ⟨bG,R',U',nv5,rfl,Sl.nil,(hR5.del fun id hid hm=>?_).sl,(hU5.del fun id hid hm=>?_).sl,hnx5.sub (wA fun k hk=>List.mem_cons_of_mem _ hk) (rJ.sub (wA fun k hk=>List.mem_cons_of_mem _ hk)),y5⟩
        · have:=(hR5.blk hid).1; have:=hXlt id hm; omega
        · have:=(hU5.blk hid).1; have:=hXlt id hm; omega
      have hnv5:bT nv5=true:=SlR.okC hnx5
      have hj3:∀ (e6:Env) n6,e6 2=ptr rid→e6 3=ptr oid→e6 6=ptr (nx'+12)→e6 19=svs→e6 20=.int .i64 S.length→e6 21=.int .i64 k→n5≤n6→nJ ro Q' e6 h5 n6:=by
        intro e6 n6 u2 u3 u6 u19 u20 u21 hn6
        unfold nJ
        rw [u3,u6]
        (repeat (first | refine aB (by simp (disch:=first | omega | exact Int.natCast_nonneg _ | assumption) only [BB,B2,↓reduceIte,Nat.reduceLeDiff,Nat.reduceAdd,CC]<;>rfl) ?_ | refine aD ?_ | refine aE ?_ | with_reducible first | refine aG ?_ | refine aF ?_ | refine aH ?_ | refine aI ?_ | refine aK ?_ | refine aJ ?_ | refine aL ?_ | refine aC ?_))
        refine aB (fM hg5 (kC hc)) ?_
        refine aB (cR (l:=[bG,R',U',nv5]) g5 rfl) ?_
        obtain ⟨i,t1,t2,t3⟩:=aEj
        have hn1lt:jC sv≠some (n6+3):=fun e=>by
          have h9:=(ho5.blk e).2
          have:=hf5.lt' h9; omega
        refine aHf (z:=4) (l:=cs) (y:=[bG,R',U',nv5]) (aBD _ _ _ _ _) rfl ho5 aD2 t1 (by omega) (by omega) lI rfl (by simp [show bT bG=true from rfl,hR5.ok,hU5.ok,hnv5]) (by rw [t3]; unfold big; omega) (by unfold big; omega) (hf5.mono (by omega)) (by omega) (by omega) hn1lt fun h7 ho7 hk7 hf7=>?_
        generalize hnv:Value.slice (some (own (n6+5) 4)) (cs++[[bG,R',U',nv5]]).length (cs++[[bG,R',U',nv5]]).length=sv2 at ho7
        have hsb2:jC sv2=some (n6+5):=by rw [← hnv]; rfl
        have hg7:=hk7 _ _ hg5 (by have:=hf5.lt' hg5; omega) (fun e=>(ho5.ne hg5 (by decide)) e)
        dsimp only
        (repeat (first | refine aB (by simp (disch:=first | omega | exact Int.natCast_nonneg _ | assumption) only [BB,B2,↓reduceIte,Nat.reduceLeDiff,Nat.reduceAdd,CC]<;>rfl) ?_ | refine aD ?_ | refine aE ?_ | with_reducible first | refine aG ?_ | refine aF ?_ | refine aH ?_ | refine aI ?_ | refine aK ?_ | refine aJ ?_ | refine aL ?_ | refine aC ?_))
        refine aB (dZ hg7 (by rw [cJ hc]; omega) ho7.ok (by rw [← hnv]; rfl)) ?_
        rw [aFx hc]
        have hk8:dY (oid::sZ sv) h5 (h7.upd oid (some (.cells (dQ c n cv sv2).toArray a9))):=fun k o hk hn=>by
          have h9:k≠oid:=fun e=>hn (by rw [e]; exact List.mem_cons_self ..)
          have h10:jC sv≠some k:=fun e=>hn (List.mem_cons_of_mem _ (nN.2 e))
          rw [T.get_upd_ne _ _ h9]
          exact hk7 k o hk (by have:=hf5.lt' hk; omega) h10
        have ho8:bV (h7.upd oid (some (.cells (dQ c n cv sv2).toArray a9))) sv2 4 aP (cs++[[bG,R',U',nv5]]) nx:=by
          have hkk:dY [oid] h7 (h7.upd oid (some (.cells (dQ c n cv sv2).toArray a9))):=(Sub.refl h7).keepL.upd (by simp)
          exact ho7.keepK hkk fun id hid hm=>by rw [hsb2] at hid; cases hid; simp at hm; have:=hf5.lt' hg5; omega
        have hf8:Fr (h7.upd oid (some (.cells (dQ c n cv sv2).toArray a9))) (n6+6):=(hf7.mono (by omega)).upd (Nat.le_refl _) (by omega)
        have g8:(h7.upd oid (some (.cells (dQ c n cv sv2).toArray a9))).get oid=some (.cells (dQ c n cv sv2).toArray a9):=T.get_upd_same _ _ _
        generalize (h7.upd oid (some (.cells (dQ c n cv sv2).toArray a9)))=h8 at hk8 ho8 hf8 g8
        have hmono:Sub (del h5 (oid::(sZ sv++X))) (del h8 (oid::(sZ sv2++X))):=hk8.del (fun k hk=>by
            rcases List.mem_cons.1 hk with rfl | hk
            · exact List.mem_cons_self ..
            · exact List.mem_cons_of_mem _ (List.mem_append.2 (.inl hk))) fun k hk=>by
          rcases List.mem_cons.1 hk with rfl | hk
          · exact .inl (List.mem_cons_self ..)
          · rcases List.mem_append.1 hk with hk | hk
            · have:=nN.1 hk
              rw [hsb2] at this
              cases this
              exact .inr (hf5 _ (by omega))
            · exact .inl (List.mem_cons_of_mem _ (List.mem_append.2 (.inr hk)))
        have hj2:∀ (e9:Env) n9,e9 2=ptr rid→e9 3=ptr oid→e9 19=svs→e9 20=.int .i64 S.length→e9 21=.int .i64 k→n6+6≤n9→nI ro Q' e9 h8 n9:=by
          intro e9 n9 v2 v3 v19 v20 v21 hn9
          unfold nI
          rw [v21]
          (repeat (first | refine aB (by simp (disch:=first | omega | exact Int.natCast_nonneg _ | assumption) only [BB,B2,↓reduceIte,Nat.reduceLeDiff,Nat.reduceAdd,CC]<;>rfl) ?_ | refine aD ?_ | refine aE ?_ | with_reducible first | refine aG ?_ | refine aF ?_ | refine aH ?_ | refine aI ?_ | refine aK ?_ | refine aJ ?_ | refine aL ?_ | refine aC ?_))
          refine hq (j - 1) _ _ _ _ (by omega) ⟨k+1,cs++[[bG,R',U',nv5]],sv2,by omega,by omega,v2,v3,v19,v20,rfl,g8,ho8,by simp [hcl],fun i x s' hxi hsi=>?_,fun k' o hk9 hn9=>?_,hf8.mono (by omega)⟩ (Sub.refl _)
          · rcases Nat.lt_or_ge i cs.length with hi | hi
            · rw [List.getElem?_append_left hi] at hxi
              have h9:=hfa i x s' hxi hsi
              have hkeep2:Sub (del h' (oid::(sZ sv++X))) (del h5 (oid::(sZ sv++X))):=(Sub.keepL hs5:dY [] h' h5).del (fun k hk=>by cases hk) fun k hk=>.inl hk
              exact eA.sub (hkeep2.trans hmono) _ _ h9
            · rw [List.getElem?_append_right hi] at hxi
              have hlt9:=(List.getElem?_eq_some_iff.1 hxi).1
              have:i=k:=by simp at hlt9; omega
              subst this
              rw [hsk] at hsi
              cases hsi
              have:x=[bG,R',U',nv5]:=by have:=List.mem_of_getElem? hxi; simpa using this
              subst this
              exact eA.sub hmono _ _ hst
          · have h10:=hs5 _ _ (hk' k' o hk9 hn9)
            have hk'lt:=hf.lt' hk9
            refine hk8 k' o h10 fun hm=>?_
            rcases List.mem_cons.1 hm with rfl | hm
            · exact hn9 (by simp)
            · have:=(ho5.blk (nN.1 hm)).1; omega
        exact hj2 _ _ u2 u3 u19 u20 u21 (by omega)
      refine fG (dR ?_)
      exact hj3 _ _ f2 f3 f6 f19 f20 f21 (Nat.le_refl _)
  · (repeat (first | refine aB (by simp (disch:=first | omega | exact Int.natCast_nonneg _ | assumption) only [BB,B2,↓reduceIte,Nat.reduceLeDiff,Nat.reduceAdd,CC]<;>rfl) ?_ | refine aD ?_ | refine aE ?_ | with_reducible first | refine aG ?_ | refine aF ?_ | refine aH ?_ | refine aI ?_ | refine aK ?_ | refine aJ ?_ | refine aL ?_ | refine aC ?_))
    refine hx _ _ _ _ (fun e=>by cases e) ?_
    have hnt:∀ id,jC sv=some id→id ∉ oid::X:=fun id hid hm=>by
      have h9:=ho'.blk hid
      rcases List.mem_cons.1 hm with rfl | hm
      · exact (ho'.ne hg' (by decide)) hid
      · have:=hX id hm; omega
    have hsub:Sub (del h' (oid::(sZ sv++X))) (del h' (oid::X)):=wA fun k hk=>by
      rcases List.mem_cons.1 hk with rfl | hk
      · exact List.mem_cons_self ..
      · exact List.mem_cons_of_mem _ (List.mem_append.2 (.inr hk))
    refine hQ _ _ _ sv e2 e3 (by omega) (hf'.mono (by omega)) hk' hg' ho'.ok ⟨cs,(ho'.del hnt).sl,by rw [List.length_map]; omega,fun i x s hxi hsi=>?_⟩
    rw [List.getElem?_map] at hsi
    cases hs:S[i]? with
    | none=>rw [hs] at hsi; cases hsi
    | some s0 =>
      rw [hs] at hsi
      cases hsi
      exact eA.sub hsub _ _ (hfa i x s0 hxi hs)
end
end V
end Go.Proofs.YtjndkdmkecpllaaGreat
set_option linter.unusedVariables false
set_option linter.unusedSimpArgs false
namespace Go.Proofs.YtjndkdmkecpllaaGreat
namespace V
attribute [local irreducible] aA ifP aZ d4 eG exP d8
theorem aOX {d:AutoD} (ha:fV d=true) (hcl:d.c.length=256):Fit d:=by
  obtain ⟨h1,h2,h3,h4,h5,h6⟩:=iF ha
  have hm0:=aHO hcl h1 0 (by omega)
  have hm:=aDN h1
  refine ⟨by omega,by omega,fun s hs=>?_⟩
  have hk:=h6 s hs
  obtain ⟨k1,k2,k3,k4,k5⟩:=xX hk
  have hc:=aCY (s.r.length:Int)
  refine ⟨by omega,by omega,by omega,fun row hrow=>?_⟩
  obtain ⟨i,hi⟩:=List.getElem?_of_mem hrow
  have hlt:=(List.getElem?_eq_some_iff.1 hi).1
  have hro:=aFe k5 (by omega) i row _ hi (List.getElem?_eq_getElem (by omega))
  unfold xR at hro
  simp only [Bool.and_eq_true,decide_eq_true_eq] at hro
  obtain ⟨_,_,r3,r4⟩:=hro
  refine ⟨fun e=>by rw [e] at r3; simp at r3; omega,by omega,fun m hm=>?_⟩
  have:=aFW (S:=[]) ha (List.all_eq_true.1 r4 m hm)
  omega
theorem aA1 (S:List StateD) (i:Nat):(S.map erS).getD i noS=erS (S.getD i noS):=by
  rw [List.getD_eq_getElem?_getD,List.getD_eq_getElem?_getD,List.getElem?_map]
  cases S[i]?<;>rfl
theorem aFj (d:AutoD) (m:MacD):fP (er d) m=erS (fP d m):=aA1 _ _
theorem aHV (d:AutoD) (m:MacD):oC (er d) m=oC d m:=by unfold oC; rw [aFj]; rfl
theorem aGh (d:AutoD) (m:MacD) (b:Nat):kS (er d) m b=kS d m b:=by unfold kS; rw [aFj]; rfl
theorem aL7 (d:AutoD) (t:Int):nY (er d) t=nY d t:=by
  unfold nY
  show (if t=-1 then [] else ((d.states.map erS).getD t.toNat noS).r)=_
  rw [aA1]; rfl
theorem aOY (d:AutoD) (m:MacD) (b:Nat):onM (er d) m b=onM d m b:=by unfold onM; rw [aGh]
theorem aMQ (d:AutoD) (m:MacD) (b:Nat):jL (er d) m b=jL d m b:=by unfold jL; rw [aGh,aL7,aFj]; rfl
theorem aIp (d:AutoD) (m:MacD) (i:Int):aHt (er d) m i=aHt d m i:=rfl
theorem aKD {S:List StateD} {R:List Int} (m:MoveD):iV (S.map erS) R m=iV S R m:=by
  unfold iV
  rw [aA1,List.length_map]; rfl
theorem aEd {S:List StateD} {R:List Int} {n:Int}:∀ (us:List Int) (rows:List (List MoveD)),oJ (S.map erS) R n us rows=oJ S R n us rows
  | [],_=>rfl
  | u::us,[]=>by rw [aAI,aAI]
  | u::us,row::rows=>by
    rw [o9,o9,aEd us rows]
    unfold xR
    have:row.all (iV (S.map erS) R)=row.all (iV S R):=by congr 1; funext m; exact aKD m
    rw [this]
theorem aJZ {d:AutoD} (ha:fV d=true):fV (er d)=true:=by
  unfold fV at ha ⊢
  simp only [Bool.and_eq_true,decide_eq_true_eq] at ha ⊢
  obtain ⟨h1,h2,h3,h4,h5,h6,h7⟩:=ha
  refine ⟨h1,h2,by show 1≤(d.states.map erS).length; rw [List.length_map]; exact h3,by show (d.states.map erS).length≤256; rw [List.length_map]; exact h4,?_,h6,?_⟩
  · unfold yD at h5 ⊢
    simp only [Bool.and_eq_true,decide_eq_true_eq] at h5 ⊢
    refine ⟨?_,?_⟩
    · show ((d.states.map erS).getD 0 noS).l.length=0
      rw [aA1]; rfl
    · show ((d.states.map erS).getD 0 noS).r.length=0
      rw [aA1]; exact h5.2
  · show (d.states.map erS).all _=true
    rw [List.all_map,List.all_eq_true]
    intro s hs
    have:=List.all_eq_true.1 h7 s hs
    show iO (d.states.map erS) d.many d.counts.length (erS s)=true
    unfold iO at this ⊢
    simp only [Bool.and_eq_true,decide_eq_true_eq] at this ⊢
    obtain ⟨k1,k2,k3,k4,k5,k6⟩:=this
    refine ⟨k1,k2,k3,rfl,k5,?_⟩
    show oJ (d.states.map erS) s.r d.many s.rule s.next=true
    rw [aEd]; exact k6
theorem zG {d:AutoD} {m:MacD} (h:MOk d m):MOk (er d) m:=⟨by have:=h.1; show m.cur=-1∨0≤m.cur∧m.cur < ((d.states.map erS).length:Int); rw [List.length_map]; exact this,h.2⟩
section
variable {ro:Ro} {h:T Obj} {nx:Nat} {K:KV}
set_option maxRecDepth 8000 in
set_option maxHeartbeats 1000000 in
theorem aDk {X0:List Nat} {x:List Value} {d:AutoD} (hf:Fr h nx) (hX0:∀ k∈X0,k < nx) (hd:mJ ro h x d) (hfit:Fit d) (hK:∀ cv sv h' nx',nx≤nx'→Fr h' nx'→Sub h h'→mJ ro (del h' X0) (dQ d.c d.many cv sv) (er d)→K (.agg (dQ d.c d.many cv sv).toArray) h' nx'):aN Tryz.prog ro sF [.agg x.toArray] h nx K:=by
  obtain ⟨cv,sv,rfl,hc,hclt,hcv,hS,hb1,hb2⟩:=hd
  obtain ⟨f1,f2,f3⟩:=hfit
  have m7:=mK (n:=d.many) (cv:=cv) (sv:=sv) hc
  have m8:=kC (n:=d.many) (cv:=cv) (sv:=sv) hc
  apply aCa
  unfold wM
  refine fT hf (Nat.le_refl _) fun h1 hs1 hf1 g1 _=>?_
  have g1:h1.get nx=some (.cells (dQ d.c d.many cv sv).toArray a9):=g1
  refine aB x0 ?_
  refine aFS hf1 (Nat.le_refl _) fun h2 hs2 hf2 g2 _=>?_
  have g2:h2.get (nx+1)=some (.cells j8.toArray a9):=g2
  have g12:=hs2 _ _ g1
  (repeat (first | refine aB (by simp (disch:=first | omega | exact Int.natCast_nonneg _ | assumption) only [BB,B2,↓reduceIte,Nat.reduceLeDiff,Nat.reduceAdd,CC]<;>rfl) ?_ | refine aD ?_ | refine aE ?_ | with_reducible first | refine aG ?_ | refine aF ?_ | refine aH ?_ | refine aI ?_ | refine aK ?_ | refine aJ ?_ | refine aL ?_ | refine aC ?_))
  refine aB (aNw g12 hc) ?_
  (repeat (first | refine aB (by simp (disch:=first | omega | exact Int.natCast_nonneg _ | assumption) only [BB,B2,↓reduceIte,Nat.reduceLeDiff,Nat.reduceAdd,CC]<;>rfl) ?_ | refine aD ?_ | refine aE ?_ | with_reducible first | refine aG ?_ | refine aF ?_ | refine aH ?_ | refine aI ?_ | refine aK ?_ | refine aJ ?_ | refine aL ?_ | refine aC ?_))
  refine aB (fM g12 m7) ?_
  refine aHr (hcv.sub (hs1.trans hs2) fun _ _ h=>h) f1 (hf2.mono (by omega)) fun cv' h3 n3 hn3 hf3 hs3 ho3=>?_
  have g13:=hs3 _ _ g12
  have g23:=hs3 _ _ g2
  refine ⟨oK g12 g13,?_⟩
  refine aB (aGD hc ho3.cells) ?_
  refine aG8 (x:=dQ d.c d.many cv' bG) x0 (by show j8.toArray.size=259; simp [kD]) rfl (cJ hc) (x9 ho3.ok rfl) fun h4 g4 hk4=>?_
  have g14:h4.get nx=some (.cells (dQ d.c d.many cv sv).toArray a9):=by rw [hk4 _ (by omega)]; exact g13
  have g24:h4.get (nx+1)=some (.cells j8.toArray a9):=by rw [hk4 _ (by omega)]; exact g23
  have hs13:Sub h h3:=(hs1.trans hs2).trans hs3
  have hs4:Sub h h4:=fun k o hk=>by rw [hk4 k (by have:=hf.lt' hk; omega)]; exact hs13 k o hk
  have hs4o:Sub h (del h4 [nx+8]):=fun k o hk=>jI (hs4 k o hk) (by have:=hf.lt' hk; simp; omega)
  have hf4:Fr h4 n3:=fun k hk=>by rw [hk4 k (by omega)]; exact hf3 k hk
  have hsl:=(hS.sub hs4 (eA.sub hs4)).len
  (repeat (first | refine aB (by simp (disch:=first | omega | exact Int.natCast_nonneg _ | assumption) only [BB,B2,↓reduceIte,Nat.reduceLeDiff,Nat.reduceAdd,CC]<;>rfl) ?_ | refine aD ?_ | refine aE ?_ | with_reducible first | refine aG ?_ | refine aF ?_ | refine aH ?_ | refine aI ?_ | refine aK ?_ | refine aJ ?_ | refine aL ?_ | refine aC ?_))
  refine aB (fM g14 m8) ?_
  refine aB hsl ?_
  refine aOp (ro:=ro) (X:=(nx+1)::X0) (rid:=nx+1) (oid:=nx+8) (S:=d.states) hc rfl rfl rfl rfl rfl g4 g24 (by omega) (hS.sub hs4o (eA.sub hs4o)) f2 f3 (hf4.mono (by omega)) (fun k hk=>by
    rcases List.mem_cons.1 hk with rfl | hk
    · omega
    · have:=hX0 k hk; omega) fun e5 h5 n5 sv5 u2 u3 hn5 hf5 hk5 g5 hsv5 hS5=>?_
  refine fG (dR ?_)
  have g25:=hk5 _ _ g24 (by simp)
  have hj1:∀ (e6:Env),e6 2=ptr (nx+1)→e6 3=ptr (nx+8)→nH ro K e6 h5 n5:=by
    intro e6 v2 v3
    unfold nH
    rw [v2,v3]
    refine aB (cR g5 (cJ hc)) ?_
    refine aB (fB (l:=j8) (vs:=dQ d.c d.many cv' sv5) g25 rfl (cJ hc) kD (x9 ho3.ok hsv5)) ?_
    refine aB (cR (l:=dQ d.c d.many cv' sv5) (by rw [T.get_upd_same]) (cJ hc)) ?_
    have hk6:dY [nx+1] h5 (h5.upd (nx+1) (some (.cells (dQ d.c d.many cv' sv5).toArray a9))):=(Sub.refl h5).keepL.upd (by simp)
    have hf6:Fr (h5.upd (nx+1) (some (.cells (dQ d.c d.many cv' sv5).toArray a9))) n5:=hf5.upd (Nat.le_refl _) (by have:=hf5.lt' g25; omega)
    generalize h5.upd (nx+1) (some (.cells (dQ d.c d.many cv' sv5).toArray a9))=h6 at hk6 hf6
    have hd6:Sub (del h5 ((nx+8)::(nx+1)::X0)) (del h6 X0):=fun k o hk=>by
      have h9:=(hk6.delS (l:=(nx+8)::(nx+1)::X0) fun k hk=>by simp at hk; simp [hk]) k o hk
      rw [iG] at hk
      split at hk
      · cases hk
      · rename_i hn; exact jI h9 fun hm=>hn (by simp [hm])
    have ho6:bV h6 cv' 2 d3 (t7 d.counts) (nx+10):=((ho3.keepK (ids:=[nx+8]) (h':=h4) (fun k o hk hn=>by rw [hk4 k (by simpa using hn)]; exact hk) fun id hid hm=>by have:=(ho3.blk hid).1; simp at hm; omega).keepK hk5 fun id hid hm=>by have:=(ho3.blk hid).1; simp at hm; omega).keepK hk6 fun id hid hm=>by have:=(ho3.blk hid).1; simp at hm; omega
    refine ⟨h6,Sub.refl _,hK cv' sv5 h6 _ (by omega) (hf6.mono (by omega)) (fun k o hk=>?_) ⟨cv',sv5,rfl,hc,hclt,aNv (ho6.del fun id hid hm=>by have:=(ho6.blk hid).1; have:=hX0 id hm; omega),hS5.sub hd6 (eA.sub hd6),hb1,by show (d.states.map erS).length≤_; rw [List.length_map]; exact hb2⟩⟩
    have:=hf.lt' hk
    exact hk6 k o (hk5 k o (hs4 k o hk) (by simp; omega)) (by simp; omega)
  exact hj1 _ u2 u3
end
def aM1:List Value:=eM (List.replicate 256 0) 0 bG bG 0 bG 0
theorem aM2:zer Tryz.prog cL=some (.agg aM1.toArray):=by kernel_rfl
theorem aLB {c:List Nat} {n:Int} {cv sv:Value} {pl:List (Nat × Nat)} (hp:pl[0]?=some (0,259)) (hc:c.length=256):kJ (pl[·]?) aM1 [(0,.agg (dQ c n cv sv).toArray)]=some (eM c n cv sv 0 bG 0):=by
  have h0:aM1.length=262:=yG List.length_replicate
  have e1:Nat.beq (Value.agg (dQ c n cv sv).toArray).cells.size 259=true:=by rw [Value.cells_agg]; simp [cJ hc]
  have e2:Nat.ble (0+259) aM1.length=true:=by rw [h0]; rfl
  have o1:over aM1 0 (Value.agg (dQ c n cv sv).toArray).cells.toList=eM c n cv sv 0 bG 0:=by
    rw [Value.cells_agg]
    exact aGt (by rw [cJ hc,cJ List.length_replicate])
  simp only [kJ,hp,Option.bind,e1,e2,o1]
theorem aHl {c:List Nat} {n:Int} {cv sv:Value} (hc:c.length=256):dF Tryz.prog cL [(0,.agg (dQ c n cv sv).toArray)]=some (.agg (eM c n cv sv 0 bG 0).toArray):=by
  obtain ⟨fs,h1,h2⟩:=aMP (P:=Tryz.prog) (t:=cL) (pl:=[(0,259),(259,1),(260,1),(261,1)]) (by kernel_rfl)
  exact aAv aM2 h1 h2 (aLB rfl hc)
theorem aOP (aid q:Nat):a7 Tryz.prog jO aid 1 [(0,ptr q)]=some (.slice (some (own aid 1)) 1 1,some (.cells [ptr q].toArray jR)):=by kernel_rfl
theorem aNj:und Tryz.prog jO=some (.slice jR):=by kernel_rfl
theorem aOg:∃ i,tin Tryz.prog jR=some i∧i.size=1∧i.bytes=8:=xZ (by kernel_rfl)
theorem aOl:zer Tryz.prog jR=some (.pointer none):=by kernel_rfl
theorem aIU (ps:List (Nat × Nat)) (q:Nat × Nat):lT (ps++[q])=lT ps++[[ptr q.1]]:=by simp [lT]
end V
end Go.Proofs.YtjndkdmkecpllaaGreat
set_option linter.unusedVariables false
set_option linter.unusedSimpArgs false
namespace Go.Proofs.YtjndkdmkecpllaaGreat
namespace V
attribute [local irreducible] aA ifP aZ d4 eG exP d8
def NI (RR:RgP) (tm tp te:TypeId) (hC:T Obj) (nC p:Nat) (c:List Nat) (many:Int) (cv sv:Value) (C:List (Int × Int)) (k:Nat) (h:T Obj) (nx:Nat) (ps:List (Nat × Nat)) (rv:Value):Prop :=
  h.get p=some (.cells (eM c many cv sv 0 rv 0).toArray tm)∧bV h rv 1 te (lT ps) nC∧ps.length=k∧RsX RR h ps (C.take k) (List.replicate k noR)∧Dst ps∧(∀ q∈l6 ps,nC≤q)∧Sub hC h∧Fr h nx∧Fr hC nC∧nC≤p∧nC≤nx
section
variable {RR:RgP} {tm tp ta te:TypeId} {ro:Ro} {hC h h':T Obj} {nC p nx n1 n2 k:Nat} {c:List Nat} {many:Int} {cv sv rv:Value} {C:List (Int × Int)} {ps:List (Nat × Nat)}
theorem NI.mono {n':Nat} (hi:NI RR tm tp te hC nC p c many cv sv C k h nx ps rv) (hn:nx≤n'):NI RR tm tp te hC nC p c many cv sv C k h n' ps rv:=by
  obtain ⟨g1,g2,g3,g4,g5,g6,g7,g8,g9,g10,g11⟩:=hi
  exact ⟨g1,g2,g3,g4,g5,g6,g7,g8.mono hn,g9,g10,by omega⟩
theorem NI.sub {n':Nat} (hk:RgOk RR tp ta) (hi:NI RR tm tp te hC nC p c many cv sv C k h nx ps rv) (hs:Sub h h') (hf:Fr h' n') (hn:nx≤n'):NI RR tm tp te hC nC p c many cv sv C k h' n' ps rv:=by
  obtain ⟨g1,g2,g3,g4,g5,g6,g7,g8,g9,g10,g11⟩:=hi
  exact ⟨hs _ _ g1,g2.keepS hs,g3,g4.sub hk hs,g5,g6,g7.trans hs,hf,g9,g10,by omega⟩
theorem NI.step {q:Nat × Nat} {cc:Int × Int} {rv2:Value} {lo:Nat} (hk:RgOk RR tp ta) (e1:tp≠te) (e2:ta≠te) (e3:tm≠tp) (e4:tm≠ta) (e5:tm≠te) (hi:NI RR tm tp te hC nC p c many cv sv C k h nx ps rv) (hcl:c.length=256) (hc:C[k]?=some cc) (hR:RR h q.1 q.2 cc.2.toNat [] 0) (hq1:∀ r∈ps,r.1 < q.1∧r.2 < q.2) (hq2:nC≤q.1∧nC≤q.2) (hn1:n1≠p∧(∀ r∈ps++[q],r.1≠n1∧r.2≠n1)∧nC≤n1)
    (ho:bV h' rv2 1 te (lT ps++[[ptr q.1]]) nC) (hsb:jC rv2=some n2) (hn2:nx≤n2) (hg:∀ k o,h.get k=some o→k≠n1→jC rv≠some k→h'.get k=some o) (hf:Fr h' (n2+1)) :
    NI RR tm tp te hC nC p c many cv sv C (k+1) (h'.upd p (some (.cells (eM c many cv sv 0 rv2 0).toArray tm))) (n2+1) (ps++[q]) rv2:=by
  obtain ⟨g1,g2,g3,g4,g5,g6,g7,g8,g9,g10,g11⟩:=hi
  have hp:=g8.lt' g1
  have hr:=g4.snoc hR (r:=noR)
  have hgk:∀ {k:Nat} {cs:Array Value} {e:TypeId},h.get k=some (.cells cs e)→e≠te→k≠n1→h'.get k=some (.cells cs e):=fun hk9 he hne=>hg _ _ hk9 hne (g2.ne hk9 he)
  have hgp:h'.get p=some (.cells (eM c many cv sv 0 rv 0).toArray tm):=hgk g1 e5 (Ne.symm hn1.1)
  have hty:=hr.ty hk
  refine ⟨T.get_upd_same _ _ _,?_,by simp [g3],?_,g5.snoc fun r hr=>?_,fun k hk=>?_,fun k o hk=>?_,hf.upd (Nat.le_refl _) (by omega),g9,g10,by omega⟩
  · rw [aIU]
    exact ho.keepK (ids:=[p]) (fun k o hk hn=>by rw [T.get_upd_ne _ _ (by simpa using hn)]; exact hk) fun id hid hm=>by rw [hsb] at hid; cases hid; simp at hm; omega
  · rw [List.take_succ_eq_append_getElem (List.getElem?_eq_some_iff.1 hc).1,(List.getElem?_eq_some_iff.1 hc).2,List.replicate_succ']
    refine hr.keep hk fun r hr9=>?_
    obtain ⟨⟨c1,t1⟩,c2,t2⟩:=hty r hr9
    rw [T.get_upd_ne _ _ (fun e=>by rw [e,g1] at t1; simp only [Option.some.injEq,Obj.cells.injEq] at t1; exact e3 t1.2.1),T.get_upd_ne _ _ (fun e=>by rw [e,g1] at t2; simp only [Option.some.injEq,Obj.cells.injEq] at t2; exact e4 t2.2.1),hgk t1 e1 (hn1.2.1 r hr9).1,hgk t2 e2 (hn1.2.1 r hr9).2,t1,t2]
    exact ⟨rfl,rfl⟩
  · have:=hq1 r hr; omega
  · obtain ⟨r,hr,h9⟩:=iN.1 hk
    rcases List.mem_append.1 hr with hr | hr
    · exact g6 k (iN.2 ⟨r,hr,h9⟩)
    · simp at hr; subst hr; omega
  · have hlt:=g9.lt' hk
    have h9:=g7 k o hk
    rw [T.get_upd_ne _ _ (by omega)]
    refine hg k o h9 (by have:=hn1.2.2; omega) fun e=>?_
    have:=(g2.blk e).1
    omega
theorem NI.fin {d:AutoD} (hk:RgOk RR tp ta) (e1:tp≠te) (e2:ta≠te) (e5:tm≠te) {X0:List Nat} (hX0:∀ k∈X0,k < nC) (hi:NI RR tm tp te hC nC p d.c d.many cv sv d.counts d.counts.length h nx ps rv) (hA:mJ ro (del hC X0) (dQ d.c d.many cv sv) d):MX RR tm ro h (X0++(p::l6 ps)) p ps d (aBz d):=by
  obtain ⟨g1,g2,g3,g4,g5,g6,g7,g8,g9,g10,g11⟩:=hi
  have hX:∀ k∈p::l6 ps,nC≤k:=fun k hk=>by
    rcases List.mem_cons.1 hk with rfl | hk
    · exact g10
    · exact g6 k hk
  have hrs:(aBz d).rs=List.replicate d.counts.length noR:=List.map_const' ..
  rw [List.take_length] at g4
  have hsub:Sub (del hC X0) (del h (X0++(p::l6 ps))):=fun k o hk=>by
    rw [iG] at hk
    split at hk
    · cases hk
    · rename_i hn
      have:=g9.lt' hk
      exact jI (g7 k o hk) fun hm=>by
        rcases List.mem_append.1 hm with hm | hm
        · exact hn hm
        · have:=hX k hm; omega
  refine ⟨cv,sv,rv,g1,hA.sub hsub,(g2.del fun id hid hm=>?_).sl,by rw [hrs]; exact g4,g5,List.mem_append.2 (.inr (List.mem_cons_self ..)),fun k hk=>List.mem_append.2 (.inr (List.mem_cons_of_mem _ hk))⟩
  rcases List.mem_append.1 hm with hm | hm
  · have:=hX0 id hm; have:=(g2.blk hid).1; omega
  rcases List.mem_cons.1 hm with rfl | hm
  · exact g2.ne g1 e5 hid
  · obtain ⟨r,hr,h9⟩:=iN.1 hm
    obtain ⟨⟨c1,t1⟩,c2,t2⟩:=g4.ty hk r hr
    rcases h9 with rfl | rfl
    · exact g2.ne t1 e1 hid
    · exact g2.ne t2 e2 hid
end
section
variable {ro:Ro} {h:T Obj} {nx:Nat} {K:KV} {x:List Value} {d:AutoD}
theorem aHu (ha:fV d=true) {k:Nat} (hk:k < d.counts.length):1≤(d.counts[k]).2.toNat∧(d.counts[k]).2.toNat≤4096∧((d.counts[k]).2.toNat:Int)=(d.counts[k]).2:=by
  have:=(iF ha).2.2.2.2.1 _ (List.getElem_mem hk)
  omega
set_option maxRecDepth 8000 in
set_option maxHeartbeats 1000000 in
theorem aID {X0:List Nat} (hf:Fr h nx) (hd:mJ ro h x d) (hK0:fV d=false→∀ nx',nx≤nx'→K (.tuple #[.pointer none,.int .i64 1]) h nx')
    (hX0:∀ k∈X0,k < nx)
    (hK1:fV d=true→∀ p ps X h' nx',nx≤nx'→Fr h' nx'→Sub h h'→(∀ k∈X,nx≤k∧k < nx')→X=p::l6 ps→MI ro h' (X0++X) p ps (er d) (aBz d)→K (.tuple #[ptr p,.int .i64 0]) h' nx'):aN Tryz.prog ro uF [.agg x.toArray] h nx K:=by
  obtain ⟨cv,sv,hxe,hc,hclt,hcv,hS,hb1,hb2⟩:=id hd
  have m7:=mK (n:=d.many) (cv:=cv) (sv:=sv) hc
  apply aGW
  unfold aC6
  refine fT hf (Nat.le_refl _) fun h1 hs1 hf1 g1 _=>?_
  have g1:h1.get nx=some (.cells x.toArray a9):=g1
  have hxl:x.length=259:=by rw [hxe]; exact cJ hc
  have LA:=cR (ro:=ro) (z:=0) (n:=259) (l:=x) g1 hxl
  refine aB LA ?_
  refine aEs (hf1.mono (by omega)) (hd.sub hs1) fun n1 hn1=>?_
  cases hok:fV d with
  | false =>
    (repeat (first | refine aB (by simp (disch:=first | omega | exact Int.natCast_nonneg _ | assumption) only [BB,B2,↓reduceIte,Nat.reduceLeDiff,Nat.reduceAdd,CC]<;>rfl) ?_ | refine aD ?_ | refine aE ?_ | with_reducible first | refine aG ?_ | refine aF ?_ | refine aH ?_ | refine aI ?_ | refine aK ?_ | refine aJ ?_ | refine aL ?_ | refine aC ?_))
    exact ⟨h,hs1,hK0 hok _ (by omega)⟩
  | true =>
    have hfit:=aOX hok hc
    have hC512:=(iF hok).2.1
    (repeat (first | refine aB (by simp (disch:=first | omega | exact Int.natCast_nonneg _ | assumption) only [BB,B2,↓reduceIte,Nat.reduceLeDiff,Nat.reduceAdd,CC]<;>rfl) ?_ | refine aD ?_ | refine aE ?_ | with_reducible first | refine aG ?_ | refine aF ?_ | refine aH ?_ | refine aI ?_ | refine aK ?_ | refine aJ ?_ | refine aL ?_ | refine aC ?_))
    refine aB LA ?_
    refine aDk (X0:=X0) (hf1.mono (by omega)) (fun k hk=>by have:=hX0 k hk; omega) (hd.sub hs1) hfit fun cv2 sv2 hC nC hnC hfC hsC hAC=>?_
    refine aB (aHl hc) (aFS hfC (by omega) fun h2 hs2 hf2 g2 _=>?_)
    have g2:h2.get (nC+1)=some (.cells (eM d.c d.many cv2 sv2 0 bG 0).toArray cL):=g2
    have g12:=hs2 _ _ (hsC _ _ g1)
    have hcv2:=hcv.sub ((hs1.trans hsC).trans hs2) fun _ _ h=>h
    (repeat (first | refine aB (by simp (disch:=first | omega | exact Int.natCast_nonneg _ | assumption) only [BB,B2,↓reduceIte,Nat.reduceLeDiff,Nat.reduceAdd,CC]<;>rfl) ?_ | refine aD ?_ | refine aE ?_ | with_reducible first | refine aG ?_ | refine aF ?_ | refine aH ?_ | refine aI ?_ | refine aK ?_ | refine aJ ?_ | refine aL ?_ | refine aC ?_))
    refine aB (fM g12 (by rw [hxe]; exact m7)) ?_
    refine aB hcv2.len ?_
    have hNI0:NI RI cL cE jR hC nC (nC+1) d.c d.many cv2 sv2 d.counts 0 h2 (nC+2) [] bG:=⟨g2,bV.nil,rfl,⟨rfl,rfl,fun i p c r hp=>by simp at hp⟩,Dst.nil,(fun q hq=>by simp [l6] at hq),hs2,hf2,hfC,by omega,by omega⟩
    refine bI (fun j e h' nx'=>∃ (k:Nat) (ps:List (Nat × Nat)) (rv:Value),k+j=d.counts.length∧nC+2≤nx'∧e 4=ptr (nC+1)∧e 17=cv∧e 18=.int .i64 d.counts.length∧e 19=.int .i64 k∧NI RI cL cE jR hC nC (nC+1) d.c d.many cv2 sv2 d.counts k h' nx' ps rv) ?_ (n:=d.counts.length) ⟨0,[],bG,by omega,by omega,rfl,rfl,rfl,rfl,hNI0.mono (by omega)⟩
    rintro j e h' nx' ⟨k,ps,rv,hj,hnx,e4,e17,e18,e19,hi⟩ Q' hq hx
    have hfh:=hi.2.2.2.2.2.2.2.1
    have hsh:=hi.2.2.2.2.2.2.1
    unfold aBe
    rw [e4,e17,e18,e19]
    refine dO (fun hk=>?_) (fun hk=>?_)
    · have hk:k < d.counts.length:=by omega
      obtain ⟨b1,b2,b3⟩:=aHu hok hk
      have hcvh:=hcv.sub ((hs1.trans hsC).trans hsh) fun _ _ h=>h
      have hix:=hcvh.ix .i64 hk
      obtain ⟨y,hy1,hy2,hy3,hy4,hy5⟩:=hcvh.at hk
      have hck:d.counts[k]?=some d.counts[k]:=List.getElem?_eq_getElem _
      generalize d.counts[k]=cc at b1 b2 b3 hy1 hck
      obtain rfl:y=[.int .i64 cc.1,.int .i64 cc.2]:=hy1
      (repeat (first | refine aB (by simp (disch:=first | omega | exact Int.natCast_nonneg _ | assumption) only [BB,B2,↓reduceIte,Nat.reduceLeDiff,Nat.reduceAdd,CC]<;>rfl) ?_ | refine aD ?_ | refine aE ?_ | with_reducible first | refine aG ?_ | refine aF ?_ | refine aH ?_ | refine aI ?_ | refine aK ?_ | refine aJ ?_ | refine aL ?_ | refine aC ?_))
      refine aB hix (aB hy3 ?_)
      refine kR (x:=[.int .i64 cc.1,.int .i64 cc.2]) aIj rfl rfl rfl rfl hfh (by omega) fun h3 hs3 hf3 g3 _=>?_
      (repeat (first | refine aB (by simp (disch:=first | omega | exact Int.natCast_nonneg _ | assumption) only [BB,B2,↓reduceIte,Nat.reduceLeDiff,Nat.reduceAdd,CC,g3]<;>rfl) ?_ | refine aD ?_ | refine aE ?_ | with_reducible first | refine aG ?_ | refine aF ?_ | refine aH ?_ | refine aI ?_ | refine aK ?_ | refine aJ ?_ | refine aL ?_ | refine aC ?_))
      rw [← b3]
      refine aI4 (hf3.mono (by omega)) b1 b2 fun p' a' h4 n4 hp' ha' hn4 hs4 hf4 hR4=>?_
      refine aB (aOU _ _) (aB (aOV _ _) ?_)
      have hi4:=hi.sub (n':=n4) kB (hs3.trans hs4) hf4 (by omega)
      have m0:=qE (n:=d.many) (cv:=cv2) (sv:=sv2) (cur:=0) (rv:=rv) (steps:=0) hc
      refine aGi rfl ?_
      (repeat (first | refine aB (by simp (disch:=first | omega | exact Int.natCast_nonneg _ | assumption) only [BB,B2,↓reduceIte,Nat.reduceLeDiff,Nat.reduceAdd,CC,a8]<;>rfl) ?_ | refine aD ?_ | refine aE ?_ | with_reducible first | refine aG ?_ | refine aF ?_ | refine aH ?_ | refine aI ?_ | refine aK ?_ | refine aJ ?_ | refine aL ?_ | refine aC ?_))
      refine aB (fM hi4.1 m0) ?_
      obtain ⟨i,t1,t2,t3⟩:=aOg
      have hplen:ps.length≤1000000:=by have:=hi.2.2.1; omega
      refine aHf (z:=1) (l:=lT ps) (y:=[ptr p']) (aOP _ _) rfl hi4.2.1 aNj t1 (by omega) (by omega) aOl rfl rfl (by rw [lE,t3]; unfold big; omega) (by rw [lE]; unfold big; omega) (hf4.mono (by omega)) (by omega) (by omega) (fun e=>by have:=hf4.lt' (hi4.2.1.blk e).2; omega) fun h5 ho5 hk5 hf5=>?_
      generalize hnv:Value.slice (some (own (n4+15) 1)) (lT ps++[[ptr p']]).length (lT ps++[[ptr p']]).length=rv2 at ho5
      have hsb:jC rv2=some (n4+15):=by rw [← hnv]; rfl
      have g5:=hk5 _ _ hi4.1 (by have:=hf4.lt' hi4.1; omega) (hi4.2.1.ne hi4.1 (by decide))
      have hlt4:=hi.2.2.2.1.lt kB hfh
      have hfin:=hi4.step (h':=h5) (q:=(p',a')) (cc:=cc) (rv2:=rv2) (n1:=n4+13) (n2:=n4+15) (lo:=nC) kB (by decide) (by decide) (by decide) (by decide) (by decide) hc hck hR4 (fun r hr=>by have:=hlt4 r hr; show r.1 < p'∧r.2 < a'; omega) (by show nC≤p'∧nC≤a'; omega) ⟨by have:=hf4.lt' hi4.1; omega,fun r hr=>by
        rcases List.mem_append.1 hr with hr | hr
        · have:=hlt4 r hr; omega
        · simp at hr; subst hr; have:=kB.p hR4; have:=kB.a hR4; obtain ⟨c1,t8⟩:=kB.p hR4; obtain ⟨c2,t9⟩:=kB.a hR4; have:=hf4.lt' t8; have:=hf4.lt' t9; show p'≠_∧a'≠_; omega,by omega⟩ ho5 hsb (by omega) hk5 hf5
      dsimp only
      (repeat (first | refine aB (by simp (disch:=first | omega | exact Int.natCast_nonneg _ | assumption) only [BB,B2,↓reduceIte,Nat.reduceLeDiff,Nat.reduceAdd,CC,a8]<;>rfl) ?_ | refine aD ?_ | refine aE ?_ | with_reducible first | refine aG ?_ | refine aF ?_ | refine aH ?_ | refine aI ?_ | refine aK ?_ | refine aJ ?_ | refine aL ?_ | refine aC ?_))
      refine aB (dZ g5 (by rw [yG hc]; omega) ho5.ok (by rw [← hnv]; rfl)) ?_
      rw [aFM hc]
      (repeat (first | refine aB (by simp (disch:=first | omega | exact Int.natCast_nonneg _ | assumption) only [BB,B2,↓reduceIte,Nat.reduceLeDiff,Nat.reduceAdd,CC]<;>rfl) ?_ | refine aD ?_ | refine aE ?_ | with_reducible first | refine aG ?_ | refine aF ?_ | refine aH ?_ | refine aI ?_ | refine aK ?_ | refine aJ ?_ | refine aL ?_ | refine aC ?_))
      exact hq (j - 1) _ _ _ _ (by omega) ⟨k+1,ps++[(p',a')],rv2,by omega,by omega,e4,e17,e18,rfl,hfin.mono (by omega)⟩ (Sub.refl _)
    · (repeat (first | refine aB (by simp (disch:=first | omega | exact Int.natCast_nonneg _ | assumption) only [BB,B2,↓reduceIte,Nat.reduceLeDiff,Nat.reduceAdd,CC]<;>rfl) ?_ | refine aD ?_ | refine aE ?_ | with_reducible first | refine aG ?_ | refine aF ?_ | refine aH ?_ | refine aI ?_ | refine aK ?_ | refine aJ ?_ | refine aL ?_ | refine aC ?_))
      refine hx _ _ _ _ (fun e=>by cases e) (fG (dR ?_))
      obtain rfl:k=d.counts.length:=by omega
      have hMX:=NI.fin (ro:=ro) (d:=er d) (X0:=X0) kB (by decide) (by decide) (by decide) (fun k hk=>by have:=hX0 k hk; omega) hi hAC
      have hend:∀ (e':Env) n',e' 4=ptr (nC+1)→nx'≤n'→rN ro K e' h' n':=by
        intro e' n' f4 hn'
        unfold rN
        rw [f4]
        refine ⟨h',Sub.refl _,hK1 hok _ ps _ h' _ (by omega) (hfh.mono (by omega)) ((hs1.trans hsC).trans hsh) (fun k hk=>?_) rfl hMX⟩
        have hlt9:=hMX.lt kB hfh
        rcases List.mem_cons.1 hk with rfl | hk
        · have:=hlt9.1; omega
        · have:=hi.2.2.2.2.2.1 k hk; have:=hlt9.2 k hk; omega
      exact hend _ _ e4 (by omega)
theorem aIC {X0:List Nat} (hf:Fr h nx) (hd:mJ ro h x d) (hK0:fV d=false→∀ nx',nx≤nx'→K (.tuple #[.pointer none,.int .i64 1]) h nx') (hX0:∀ k∈X0,k < nx)
    (hK1:fV d=true→∀ p ps X h' nx',nx≤nx'→Fr h' nx'→Sub h h'→(∀ k∈X,nx≤k∧k < nx')→MI ro h' (X0++X) p ps (er d) (aBz d)→K (.tuple #[ptr p,.int .i64 0]) h' nx'):aN Tryz.prog ro uF [.agg x.toArray] h nx K :=
  aID hf hd hK0 hX0 fun h1 p ps X h' n' h2 h3 h4 h5 _ h6=>hK1 h1 p ps X h' n' h2 h3 h4 h5 h6
end
end V
end Go.Proofs.YtjndkdmkecpllaaGreat
set_option linter.unusedVariables false
set_option linter.unusedSimpArgs false
namespace Go.Proofs.YtjndkdmkecpllaaGreat
namespace V
attribute [local irreducible] aA ifP aZ d4 eG exP d8
def aFv:AutoD:=⟨List.replicate 256 0,0,[],[]⟩
section
variable {ro:Ro} {h:T Obj} {nx:Nat} {K:KV}
theorem aA3 {v1 v2:Value} {l m:List Nat} (hlen:l.length≤1000000) (g1:Sl ro h v1 1 (jK l)) (g2:Sl ro h v2 1 (jK m)) (hK:∀ nx',nx≤nx'→K (.bool (decide (l=m))) h nx'):aN Tryz.prog ro uG [v1,v2] h nx K:=by
  apply aDm
  unfold zZ
  have l1:=g1.len
  have l2:=g2.len
  rw [yF] at l1 l2
  refine aB l1 (aB l2 ?_)
  by_cases hlm:l.length=m.length
  · refine aGi (by omega) ?_
    (repeat (first | refine aB (by simp (disch:=first | omega | exact Int.natCast_nonneg _ | assumption) only [BB,B2,↓reduceIte,Nat.reduceLeDiff,Nat.reduceAdd,CC]<;>rfl) ?_ | refine aD ?_ | refine aE ?_ | with_reducible first | refine aG ?_ | refine aF ?_ | refine aH ?_ | refine aI ?_ | refine aK ?_ | refine aJ ?_ | refine aL ?_ | refine aC ?_))
    refine aB l1 ?_
    refine bI (fun j e h' nx'=>∃ k:Nat,k+j=l.length∧nx≤nx'∧e 0=v1∧e 1=v2∧e 12=.int .i64 (l.length:Nat)∧e 13=.int .i64 k∧h'=h∧l.take k=m.take k) ?_ (n:=l.length) ⟨0,by omega,by omega,rfl,rfl,rfl,rfl,rfl,rfl⟩
    rintro j e h' nx' ⟨k,hkj,hnx,e0,e1,e12,e13,rfl,hq⟩ Q' hc hx
    unfold yZ
    rw [e0,e1,e12,e13]
    refine dO (fun hk=>?_) (fun hk=>?_)
    · have hk:k < l.length:=by omega
      (repeat (first | refine aB (by simp (disch:=first | omega | exact Int.natCast_nonneg _ | assumption) only [BB,B2,↓reduceIte,Nat.reduceLeDiff,Nat.reduceAdd,CC]<;>rfl) ?_ | refine aD ?_ | refine aE ?_ | with_reducible first | refine aG ?_ | refine aF ?_ | refine aH ?_ | refine aI ?_ | refine aK ?_ | refine aJ ?_ | refine aL ?_ | refine aC ?_))
      refine aB (g1.ix _ (by rw [yF]; exact hk)) ?_
      refine aB (g1.load1 (aEY hk)) ?_
      refine aB (g2.ix _ (by rw [yF]; omega)) ?_
      refine aB (g2.load1 (aEY (show k < m.length by omega))) ?_
      by_cases he:l[k]=m[k]'(by omega)
      · refine aGi (by omega) ?_
        (repeat (first | refine aB (by simp (disch:=first | omega | exact Int.natCast_nonneg _ | assumption) only [BB,B2,↓reduceIte,Nat.reduceLeDiff,Nat.reduceAdd,CC]<;>rfl) ?_ | refine aD ?_ | refine aE ?_ | with_reducible first | refine aG ?_ | refine aF ?_ | refine aH ?_ | refine aI ?_ | refine aK ?_ | refine aJ ?_ | refine aL ?_ | refine aC ?_))
        refine hc (j - 1) _ _ _ _ (by omega) ⟨k+1,by omega,by omega,e0,e1,e12,rfl,rfl,?_⟩ (Sub.refl _)
        rw [List.take_succ_eq_append_getElem hk,List.take_succ_eq_append_getElem (show k < m.length by omega),hq,he]
      · refine aJE (by omega) ?_
        (repeat (first | refine aB (by simp (disch:=first | omega | exact Int.natCast_nonneg _ | assumption) only [BB,B2,↓reduceIte,Nat.reduceLeDiff,Nat.reduceAdd,CC]<;>rfl) ?_ | refine aD ?_ | refine aE ?_ | with_reducible first | refine aG ?_ | refine aF ?_ | refine aH ?_ | refine aI ?_ | refine aK ?_ | refine aJ ?_ | refine aL ?_ | refine aC ?_))
        refine hx _ _ _ _ (fun e=>by cases e) (mM ?_)
        have:decide (l=m)=false:=decide_eq_false fun e=>by subst e; exact he rfl
        rw [this] at hK
        exact ⟨_,Sub.refl _,hK _ (by omega)⟩
    · (repeat (first | refine aB (by simp (disch:=first | omega | exact Int.natCast_nonneg _ | assumption) only [BB,B2,↓reduceIte,Nat.reduceLeDiff,Nat.reduceAdd,CC]<;>rfl) ?_ | refine aD ?_ | refine aE ?_ | with_reducible first | refine aG ?_ | refine aF ?_ | refine aH ?_ | refine aI ?_ | refine aK ?_ | refine aJ ?_ | refine aL ?_ | refine aC ?_))
      refine hx _ _ _ _ (fun e=>by cases e) (fG (dR ?_))
      unfold sL
      have:decide (l=m)=true:=decide_eq_true (by
        rw [List.take_of_length_le (by omega),List.take_of_length_le (by omega)] at hq
        exact hq)
      rw [this] at hK
      exact ⟨_,Sub.refl _,hK _ (by omega)⟩
  · refine aJE (by omega) ?_
    (repeat (first | refine aB (by simp (disch:=first | omega | exact Int.natCast_nonneg _ | assumption) only [BB,B2,↓reduceIte,Nat.reduceLeDiff,Nat.reduceAdd,CC]<;>rfl) ?_ | refine aD ?_ | refine aE ?_ | with_reducible first | refine aG ?_ | refine aF ?_ | refine aH ?_ | refine aI ?_ | refine aK ?_ | refine aJ ?_ | refine aL ?_ | refine aC ?_))
    have:decide (l=m)=false:=decide_eq_false fun e=>hlm (by rw [e])
    rw [this] at hK
    exact ⟨_,Sub.refl _,hK _ (by omega)⟩
end
section
variable {ro:Ro} {h h':T Obj} {X X':List Nat} {p q:Nat} {ps qs qs':List (Nat × Nat)} {d1 d2:AutoD} {m1 m2 m2':MacD} {nx n':Nat}
end
end V
end Go.Proofs.YtjndkdmkecpllaaGreat
set_option linter.unusedVariables false
set_option linter.unusedSimpArgs false
namespace Go.Proofs.YtjndkdmkecpllaaGreat
namespace V
set_option maxRecDepth 1000000 in
theorem aK0:Orc Tryz.prog sG (.bool true):=aO6 okZ okN okM aNT (k:=200) rfl (by kernel_rfl) fun ro=>by kernel_rfl
theorem aN8 {ro:Ro} {h:T Obj} {nx:Nat} {K:KV} (hK:K (.bool true) h nx):aN Tryz.prog ro sG [] h nx K:=aJ7 aK0 hK
end V
end Go.Proofs.YtjndkdmkecpllaaGreat
set_option linter.unusedVariables false
set_option linter.unusedSimpArgs false
namespace Go.Proofs.YtjndkdmkecpllaaGreat
namespace V
attribute [local irreducible] bJ aN aA
end V
end Go.Proofs.YtjndkdmkecpllaaGreat
set_option linter.unusedVariables false
set_option linter.unusedSimpArgs false
namespace Go.Proofs.YtjndkdmkecpllaaGreat
namespace V
attribute [local irreducible] aA ifP aZ d4 eG exP d8
theorem mJ.len {ro:Ro} {h:T Obj} {x:List Value} {d:AutoD} (hd:mJ ro h x d):x.length=259:=by
  obtain ⟨cv,sv,rfl,hc,_⟩:=hd; exact cJ hc
theorem mJ.okL {ro:Ro} {h:T Obj} {x:List Value} {d:AutoD} (hd:mJ ro h x d):x.all bT=true:=by
  obtain ⟨cv,sv,rfl,hc,_,h1,h2,_⟩:=hd; exact x9 (SlR.okC h1) (SlR.okC h2)
theorem Sub.e' (h:T Obj):Sub .e h:=fun k o e=>by rw [T.get_e] at e; cases e
theorem aPU (id off z:Nat):aAd .eql (at_ id off z) (.pointer none)=some (.bool false):=rfl
section
variable {ro:Ro} {h:T Obj} {nx:Nat} {K:KV}
end
end V
end Go.Proofs.YtjndkdmkecpllaaGreat
set_option linter.unusedVariables false
set_option linter.unusedSimpArgs false
set_option maxRecDepth 8000
namespace Go.Proofs.YtjndkdmkecpllaaGreat
namespace V
open Go.ChangeShapes Go.WideShapes Go.ChangeAt Go.RowKit Go.Deep
set_option maxRecDepth 8000
section
variable {H:Type} {enc:TypeId × Value→H} {W:World}
def fieldsOf (P:Program) (t:TypeId):Option (List (Nat × TypeId)):=match und P t with
  | some (.struct fs)=>some (fs.toList.map fun f=>(f.offset,f.type))
  | _=>none
end
section
variable {H:Type} {enc:TypeId × Value→H} {W:World}
end
end V
end Go.Proofs.YtjndkdmkecpllaaGreat
set_option linter.unusedVariables false
set_option linter.unusedSimpArgs false
namespace Go.Proofs.YtjndkdmkecpllaaGreat
namespace V
attribute [local irreducible] bJ aN aA
abbrev kQ:FuncId:=46
abbrev kP:FuncId:=47
abbrev iM:FuncId:=85
abbrev i9:FuncId:=88
abbrev jU:FuncId:=89
abbrev kO:FuncId:=90
abbrev gW:FuncId:=118
@[irreducible] def xM (ro:Ro) (K:KV):Env→T Obj→Nat→Prop:=fun e h nx=>aA (bW (e 4)) fun t195_30=>aA (aY 3 t195_30) fun t196_31=>aA (loadA ro h 259 t196_31) fun t197_32=>aA (bY 259 h (e 2) t197_32) fun h33=>aA (loadA ro h33 259 (e 2)) fun r34=>∃ h35,Sub h35 h33∧K (.tuple #[r34,(Value.int IntKind.i64 0)]) h35 (nx+6)
@[irreducible] def xN (ro:Ro) (Q:KE):Env→T Obj→Nat→Prop:=fun e h nx=>aA (aX .add (e 7) (Value.int IntKind.i64 1)) fun t113_42=>Q .normal (puts e [(112,(e 7)),(113,t113_42),(7,t113_42)]) h (nx+3)
@[irreducible] def rV (ro:Ro) (Q:KE):Env→T Obj→Nat→Prop:=fun e h nx=>aA (bW (e 4)) fun t177_54=>aA (aY 3 t177_54) fun t178_55=>aA (aY 258 t178_55) fun t179_56=>aA (load1 ro h t179_56) fun t180_57=>aA (dI 4 t180_57 (e 7)) fun t183_58=>aA (aY 2 t183_58) fun t184_59=>aA (bY 1 h t184_59 (e 9)) fun h60=>aA (bW (e 4)) fun t186_61=>aA (aY 3 t186_61) fun t187_62=>aA (aY 258 t187_62) fun t188_63=>aA (load1 ro h60 t188_63) fun t189_64=>aA (dI 4 t189_64 (e 7)) fun t192_65=>aA (aY 3 t192_65) fun t193_66=>aA (bY 1 h60 t193_66 (e 10)) fun h67=>xN ro Q (puts e [(176,(e 4)),(177,t177_54),(178,t178_55),(179,t179_56),(180,t180_57),(181,(e 7)),(182,(e 9)),(183,t183_58),(184,t184_59),(185,(e 4)),(186,t186_61),(187,t187_62),(188,t188_63),(189,t189_64),(190,(e 7)),(191,(e 10)),(192,t192_65),(193,t193_66)]) h67 (nx+20)
@[irreducible] def xO (ro:Ro) (Q:KE):Env→T Obj→Nat→Prop:=fun e h nx=>aA (aX .add (e 11) (Value.int IntKind.i64 1)) fun t129_69=>Q .normal (puts e [(128,(e 11)),(129,t129_69),(11,t129_69)]) h (nx+3)
@[irreducible] def xP (ro:Ro) (Q:KE):Env→T Obj→Nat→Prop:=fun e h nx=>aA (a7 Tryz.prog dN (nx+2) 1 [(0,(e 12))]) fun r82=>eG h (nx+2) r82.2 fun h83=>aA (bX Tryz.prog ro h83 (nx+4) #[dN,dN] [(e 10),r82.1]) fun r84=>xO ro Q (puts e [(172,(e 10)),(173,(e 12)),(174,r82.1),(175,r84.1),(10,r84.1)]) r84.2.1 (r84.2.2+1)
@[irreducible] def xJ (ro:Ro):PT:=fun e h nx Q=>aA (bW (e 4)) fun t146_85=>aA (aY 3 t146_85) fun t147_86=>aA (aY 0 t147_86) fun t148_87=>aA (aY 256 t148_87) fun t149_88=>aA (load1 ro h t149_88) fun t150_89=>aA (aX .lss (e 13) t150_89) fun t151_90=>aZ t151_90 (aN Tryz.prog ro kP [(e 4),(e 7),(e 11),(e 13)] h (nx+14) fun t159_91 h92 n93=>aA (a7 Tryz.prog bE n93 1 [(0,t159_91)]) fun r94=>eG h92 n93 r94.2 fun h95=>aA (bX Tryz.prog ro h95 (n93+2) #[bE,bE] [(e 12),r94.1]) fun r96=>aA (bW (e 4)) fun t163_97=>aA (aY 262 t163_97) fun t164_98=>aA (load1 ro r96.2.1 t164_98) fun t165_99=>aA (aX .neq t165_99 (Value.int IntKind.i64 0)) fun t166_100=>aZ t166_100 (aA (dF Tryz.prog a9 []) fun t167_101=>aA (bW (e 4)) fun t169_102=>aA (aY 262 t169_102) fun t170_103=>aA (load1 ro r96.2.1 t170_103) fun t171_104=>aA (bY 259 r96.2.1 (e 2) t167_101) fun h105=>(nR t170_103 r96.2.1 h105)∧(Q .ret (puts e [(144,(e 13)),(145,(e 4)),(146,t146_85),(147,t147_86),(148,t148_87),(149,t149_88),(150,t150_89),(151,t151_90),(154,(e 12)),(155,(e 4)),(156,(e 7)),(157,(e 11)),(158,(e 13)),(159,t159_91),(160,r94.1),(161,r96.1),(12,r96.1),(162,(e 4)),(163,t163_97),(164,t164_98),(165,t165_99),(166,t166_100),(167,t167_101),(168,(e 4)),(169,t169_102),(170,t170_103),(171,t171_104),(3,t171_104)]) h105 (r96.2.2+13))) (aA (aX .add (e 13) (Value.int IntKind.i64 1)) fun t153_106=>Q .normal (puts e [(144,(e 13)),(145,(e 4)),(146,t146_85),(147,t147_86),(148,t148_87),(149,t149_88),(150,t150_89),(151,t151_90),(154,(e 12)),(155,(e 4)),(156,(e 7)),(157,(e 11)),(158,(e 13)),(159,t159_91),(160,r94.1),(161,r96.1),(12,r96.1),(162,(e 4)),(163,t163_97),(164,t164_98),(165,t165_99),(166,t166_100),(152,(e 13)),(153,t153_106),(13,t153_106)]) r96.2.1 (r96.2.2+9))) (Q (.exit 6) (puts e [(144,(e 13)),(145,(e 4)),(146,t146_85),(147,t147_86),(148,t148_87),(149,t149_88),(150,t150_89),(151,t151_90)]) h (nx+8))
@[irreducible] def xI (ro:Ro):PT:=fun e h nx Q=>aA (aX .lss (e 11) (e 8)) fun t127_68=>aZ t127_68 (aA (bW (e 4)) fun t133_70=>aA (aY 3 t133_70) fun t134_71=>aA (aY 258 t134_71) fun t135_72=>aA (load1 ro h t135_72) fun t136_73=>aA (dI 4 t136_73 (e 7)) fun t138_74=>aA (loadA ro h 4 t138_74) fun t139_75=>aN Tryz.prog ro kQ [(e 4),t139_75,(e 11)] h (nx+15) fun t141_76 h77 n78=>aA (a7 Tryz.prog dD n78 1 [(0,t141_76)]) fun r79=>eG h77 n78 r79.2 fun h80=>aA (bX Tryz.prog ro h80 (n78+2) #[dD,dD] [(e 9),r79.1]) fun r81=>d5 (xJ ro) (puts e [(125,(e 11)),(126,(e 8)),(127,t127_68),(130,(e 9)),(131,(e 4)),(132,(e 4)),(133,t133_70),(134,t134_71),(135,t135_72),(136,t136_73),(137,(e 7)),(138,t138_74),(139,t139_75),(140,(e 11)),(141,t141_76),(142,r79.1),(143,r81.1),(9,r81.1),(12,(Value.slice none 0 0)),(13,(Value.int IntKind.i64 0))]) r81.2.1 (r81.2.2+3) fun x110 e107 h108 n109=>exP x110 (xP ro Q e107 h108 n109) (fun i111=>d8 (Nat.beq i111 6) (xP ro Q e107 h108 n109) (d8 (Nat.beq i111 5) (xO ro Q e107 h108 n109) (Q (.exit i111) e107 h108 n109))) (Q .ret e107 h108 n109)) (Q (.exit 4) (puts e [(125,(e 11)),(126,(e 8)),(127,t127_68)]) h (nx+3))
@[irreducible] def xH (ro:Ro):PT:=fun e h nx Q=>aA (bW (e 4)) fun t106_36=>aA (aY 3 t106_36) fun t107_37=>aA (aY 258 t107_37) fun t108_38=>aA (load1 ro h t108_38) fun t109_39=>aA (cU t109_39) fun t110_40=>aA (aX .lss (e 7) t110_40) fun t111_41=>aZ t111_41 (aA (bW (e 4)) fun t115_43=>aA (aY 3 t115_43) fun t116_44=>aA (aY 258 t116_44) fun t117_45=>aA (load1 ro h t117_45) fun t118_46=>aA (dI 4 t118_46 (e 7)) fun t120_47=>aA (aY 1 t120_47) fun t121_48=>aA (load1 ro h t121_48) fun t122_49=>aA (cU t122_49) fun t123_50=>aN Tryz.prog ro sJ [t123_50] h (nx+19) fun t124_51 h52 n53=>d5 (xI ro) (puts e [(104,(e 7)),(105,(e 4)),(106,t106_36),(107,t107_37),(108,t108_38),(109,t109_39),(110,t110_40),(111,t111_41),(114,(e 4)),(115,t115_43),(116,t116_44),(117,t117_45),(118,t118_46),(119,(e 7)),(120,t120_47),(121,t121_48),(122,t122_49),(123,t123_50),(124,t124_51),(8,t124_51),(9,(Value.slice none 0 0)),(10,(Value.slice none 0 0)),(11,(Value.int IntKind.i64 0))]) h52 (n53+4) fun x115 e112 h113 n114=>exP x115 (rV ro Q e112 h113 n114) (fun i116=>d8 (Nat.beq i116 4) (rV ro Q e112 h113 n114) (d8 (Nat.beq i116 3) (xN ro Q e112 h113 n114) (Q (.exit i116) e112 h113 n114))) (Q .ret e112 h113 n114)) (Q (.exit 2) (puts e [(104,(e 7)),(105,(e 4)),(106,t106_36),(107,t107_37),(108,t108_38),(109,t109_39),(110,t110_40),(111,t111_41)]) h (nx+8))
@[irreducible] def xL (ro:Ro) (K:KV):Env→T Obj→Nat→Prop:=fun e h nx=>aN Tryz.prog ro zT [(e 5)] h (nx+3) fun t94_16 h17 n18=>aA (bW (e 4)) fun t95_19=>aA (aY 3 t95_19) fun t96_20=>aA (aY 0 t96_20) fun t97_21=>aA (bY 257 h17 t97_21 t94_16) fun h22=>aA (dF Tryz.prog aP []) fun t99_23=>aA (a7 Tryz.prog eQ (n18+6) 1 [(0,t99_23)]) fun r24=>eG h22 (n18+6) r24.2 fun h25=>aA (bW (e 4)) fun t101_26=>aA (aY 3 t101_26) fun t102_27=>aA (aY 258 t102_27) fun t103_28=>aA (bY 1 h25 t103_28 r24.1) fun h29=>d5 (xH ro) (puts e [(92,(e 4)),(93,(e 5)),(94,t94_16),(95,t95_19),(96,t96_20),(97,t97_21),(98,(e 4)),(99,t99_23),(100,r24.1),(101,t101_26),(102,t102_27),(103,t103_28),(7,(Value.int IntKind.i64 0))]) h29 (n18+12) fun x120 e117 h118 n119=>exP x120 (xM ro K e117 h118 n119) (fun i121=>d8 (Nat.beq i121 2) (xM ro K e117 h118 n119) (False)) (aA (loadA ro h118 259 (e117 2)) fun r122=>∃ h123,Sub h123 h118∧K (.tuple #[r122,(e117 3)]) h123 n119)
@[irreducible] def rW (ro:Ro) (Q:KE):Env→T Obj→Nat→Prop:=fun e h nx=>aA (aX .add (e 6) (Value.int IntKind.i64 1)) fun t27_128=>Q .normal (puts e [(26,(e 6)),(27,t27_128),(6,t27_128)]) h (nx+3)
@[irreducible] def xK (ro:Ro):PT:=fun e h nx Q=>aA (aY 1 (e 1)) fun t22_124=>aA (load1 ro h t22_124) fun t23_125=>aA (cU t23_125) fun t24_126=>aA (aX .lss (e 6) t24_126) fun t25_127=>aZ t25_127 (aA (aY 1 (e 1)) fun t29_129=>aA (load1 ro h t29_129) fun t30_130=>aA (dI 9 t30_130 (e 6)) fun t32_131=>aA (aY 0 t32_131) fun t33_132=>aA (loadA ro h 4 t33_132) fun t34_133=>aA (a7 Tryz.prog i7 (nx+12) 1 [(0,t34_133)]) fun r134=>eG h (nx+12) r134.2 fun h135=>aA (bX Tryz.prog ro h135 (nx+14) #[i7,i7] [(e 5),r134.1]) fun r136=>aA (aY 1 (e 1)) fun t37_137=>aA (load1 ro r136.2.1 t37_137) fun t38_138=>aA (dI 9 t38_138 (e 6)) fun t40_139=>aA (aY 5 t40_139) fun t41_140=>aA (load1 ro r136.2.1 t41_140) fun t42_141=>aA (aX .gtr t42_141 (Value.int IntKind.i64 1)) fun t43_142=>aZ t43_142 (aA (bW (e 4)) fun t46_143=>aA (aY 2 t46_143) fun t47_144=>aA (load1 ro r136.2.1 t47_144) fun t48_145=>aA (bW (e 4)) fun t50_146=>aA (aY 3 t50_146) fun t51_147=>aA (aY 257 t51_147) fun t52_148=>aA (load1 ro r136.2.1 t52_148) fun t53_149=>aA (cU t53_149) fun t54_150=>aA (a7 Tryz.prog dD (r136.2.2+19) 1 [(0,t54_150)]) fun r151=>eG r136.2.1 (r136.2.2+19) r151.2 fun h152=>aA (bX Tryz.prog ro h152 (r136.2.2+24) #[dD,dD] [t48_145,r151.1]) fun r153=>aA (bW (e 4)) fun t57_154=>aA (aY 2 t57_154) fun t58_155=>aA (bY 1 r153.2.1 t58_155 r153.1) fun h156=>aA (bW (e 4)) fun t61_157=>aA (aY 3 t61_157) fun t62_158=>aA (aY 257 t62_158) fun t63_159=>aA (load1 ro h156 t63_159) fun t64_160=>aA (aY 1 (e 1)) fun t65_161=>aA (load1 ro h156 t65_161) fun t66_162=>aA (dI 9 t66_162 (e 6)) fun t68_163=>aA (aY 4 t68_163) fun t69_164=>aA (load1 ro h156 t69_164) fun t70_165=>aA (aY 1 (e 1)) fun t71_166=>aA (load1 ro h156 t71_166) fun t72_167=>aA (dI 9 t72_167 (e 6)) fun t74_168=>aA (aY 5 t74_168) fun t75_169=>aA (load1 ro h156 t75_169) fun t76_170=>aA (dF Tryz.prog d3 [(0,t70_165),(1,t76_170)]) fun t77_171=>aA (a7 Tryz.prog fY (r153.2.2+19) 1 [(0,t77_171)]) fun r172=>eG h156 (r153.2.2+19) r172.2 fun h173=>aA (bX Tryz.prog ro h173 (r153.2.2+25) #[fY,fY] [t64_160,r172.1]) fun r174=>aA (bW (e 4)) fun t80_175=>aA (aY 3 t80_175) fun t81_176=>aA (aY 257 t81_176) fun t82_177=>aA (bY 1 r174.2.1 t82_177 r174.1) fun h178=>rW ro Q (puts e [(21,(e 6)),(22,t22_124),(23,t23_125),(24,t24_126),(25,t25_127),(28,(e 5)),(29,t29_129),(30,t30_130),(31,(e 6)),(32,t32_131),(33,t33_132),(34,t34_133),(35,r134.1),(36,r136.1),(5,r136.1),(37,t37_137),(38,t38_138),(39,(e 6)),(40,t40_139),(41,t41_140),(42,t42_141),(43,t43_142),(44,(e 4)),(45,(e 4)),(46,t46_143),(47,t47_144),(48,t48_145),(49,(e 4)),(50,t50_146),(51,t51_147),(52,t52_148),(53,t53_149),(54,t54_150),(55,r151.1),(56,r153.1),(57,t57_154),(58,t58_155),(59,(e 4)),(60,(e 4)),(61,t61_157),(62,t62_158),(63,t63_159),(64,t64_160),(65,t65_161),(66,t66_162),(67,(e 6)),(68,t68_163),(69,t69_164),(70,t70_165),(71,t71_166),(72,t72_167),(73,(e 6)),(74,t74_168),(75,t75_169),(76,t76_170),(77,t77_171),(78,r172.1),(79,r174.1),(80,t80_175),(81,t81_176),(82,t82_177)]) h178 r174.2.2) (aA (bW (e 4)) fun t85_179=>aA (aY 2 t85_179) fun t86_180=>aA (load1 ro r136.2.1 t86_180) fun t87_181=>aA (a7 Tryz.prog dD (r136.2.2+13) 1 [(0,(Value.int IntKind.i64 (-1)))]) fun r182=>eG r136.2.1 (r136.2.2+13) r182.2 fun h183=>aA (bX Tryz.prog ro h183 (r136.2.2+15) #[dD,dD] [t87_181,r182.1]) fun r184=>aA (bW (e 4)) fun t90_185=>aA (aY 2 t90_185) fun t91_186=>aA (bY 1 r184.2.1 t91_186 r184.1) fun h187=>rW ro Q (puts e [(21,(e 6)),(22,t22_124),(23,t23_125),(24,t24_126),(25,t25_127),(28,(e 5)),(29,t29_129),(30,t30_130),(31,(e 6)),(32,t32_131),(33,t33_132),(34,t34_133),(35,r134.1),(36,r136.1),(5,r136.1),(37,t37_137),(38,t38_138),(39,(e 6)),(40,t40_139),(41,t41_140),(42,t42_141),(43,t43_142),(83,(e 4)),(84,(e 4)),(85,t85_179),(86,t86_180),(87,t87_181),(88,r182.1),(89,r184.1),(90,t90_185),(91,t91_186)]) h187 (r184.2.2+3))) (Q (.exit 0) (puts e [(21,(e 6)),(22,t22_124),(23,t23_125),(24,t24_126),(25,t25_127)]) h (nx+5))
@[irreducible] def aDK (ro:Ro) (v0:Value) (h:T Obj) (nx:Nat) (K:KV):Prop:=d4 h nx (.cells (Value.cells v0) fE) fun h1=>aA (zer Tryz.prog a9) fun z2=>d4 h1 (nx+1) (.cells z2.cells a9) fun h3=>aA (loadA ro h3 2 (ptr nx)) fun t14_4=>aN Tryz.prog ro sI [t14_4] h3 (nx+5) fun t15_5 h6 n7=>aA (unV .not t15_5) fun t16_8=>aZ t16_8 (aA (dF Tryz.prog a9 []) fun t17_9=>aA (bY 259 h6 (ptr (nx+1)) t17_9) fun h10=>aA (loadA ro h10 259 (ptr (nx+1))) fun r11=>∃ h12,Sub h12 h10∧K (.tuple #[r11,(Value.int IntKind.i64 1)]) h12 (n7+4)) (aA (loadA ro h6 2 (ptr nx)) fun t18_13=>aA (dF Tryz.prog aO [(0,t18_13)]) fun t19_14=>d4 h6 (n7+3) (.cells (Value.cells t19_14) aO) fun h15=>d5 (xK ro) (puts (i3 [v0]) [(1,(ptr nx)),(2,(ptr (nx+1))),(3,(Value.int IntKind.i64 0)),(14,t14_4),(15,t15_5),(16,t16_8),(18,t18_13),(19,t19_14),(20,(ptr (n7+3))),(4,(ptr (n7+3))),(5,(Value.slice none 0 0)),(6,(Value.int IntKind.i64 0))]) h15 (n7+7) fun x191 e188 h189 n190=>exP x191 (xL ro K e188 h189 n190) (fun i192=>d8 (Nat.beq i192 0) (xL ro K e188 h189 n190) (False)) (aA (loadA ro h189 259 (e188 2)) fun r193=>∃ h194,Sub h194 h189∧K (.tuple #[r193,(e188 3)]) h194 n190))
theorem aHJ (ro:Ro) (v0:Value) (h:T Obj) (nx:Nat) (K:KV):bJ Tryz.prog ro (aN Tryz.prog ro) Tryz.f14 [v0] h nx K=aDK ro v0 h nx K:=by kernel_rfl
theorem aHK {ro:Ro} {v0:Value} {h:T Obj} {nx:Nat} {K:KV} (hw:aDK ro v0 h nx K):aN Tryz.prog ro zU [v0] h nx K:=bF (P:=Tryz.prog) (fn:=Tryz.f14) (by kernel_rfl) (by kernel_rfl) (by kernel_rfl) (Eq.mpr (aHJ ro v0 h nx K) hw)
@[irreducible] def wW (ro:Ro) (K:KV):Env→T Obj→Nat→Prop:=fun e h nx=>aA (cU (e 4)) fun t44_7=>aA (aY 256 (e 3)) fun t45_8=>aA (bY 1 h t45_8 t44_7) fun h9=>aA (loadA ro h9 257 (e 3)) fun t46_10=>aA (bY 257 h9 (e 2) t46_10) fun h11=>aA (loadA ro h11 257 (e 2)) fun r12=>∃ h13,Sub h13 h11∧K r12 h13 (nx+6)
@[irreducible] def wX (ro:Ro) (Q:KE):Env→T Obj→Nat→Prop:=fun e h nx=>aA (aX .add (e 5) (Value.int IntKind.i64 1)) fun t11_15=>Q .normal (puts e [(10,(e 5)),(11,t11_15),(5,t11_15)]) h (nx+3)
@[irreducible] def rU (ro:Ro) (Q:KE):Env→T Obj→Nat→Prop:=fun e h nx=>aA (pK .u8 (e 6)) fun t40_16=>aA (aY 0 (e 3)) fun t41_17=>aA (ixArr 256 1 t41_17 (e 5)) fun t42_18=>aA (bY 1 h t42_18 t40_16) fun h19=>wX ro Q (puts e [(38,(e 5)),(39,(e 6)),(40,t40_16),(41,t41_17),(42,t42_18)]) h19 (nx+6)
@[irreducible] def rT (ro:Ro) (Q:KE):Env→T Obj→Nat→Prop:=fun e h nx=>aA (cU (e 4)) fun t31_20=>aA (aX .eql (e 6) t31_20) fun t32_21=>aZ t32_21 (aA (pK .u8 (e 5)) fun t35_22=>aA (a7 Tryz.prog bS (nx+7) 1 [(0,t35_22)]) fun r23=>eG h (nx+7) r23.2 fun h24=>aA (bX Tryz.prog ro h24 (nx+9) #[bS,bS] [(e 4),r23.1]) fun r25=>rU ro Q (puts e [(29,(e 6)),(30,(e 4)),(31,t31_20),(32,t32_21),(33,(e 4)),(34,(e 5)),(35,t35_22),(36,r23.1),(37,r25.1),(4,r25.1)]) r25.2.1 (r25.2.2+1)) (rU ro Q (puts e [(29,(e 6)),(30,(e 4)),(31,t31_20),(32,t32_21)]) h (nx+4))
@[irreducible] def aBm (ro:Ro):PT:=fun e h nx Q=>aA (cU (e 4)) fun t14_26=>aA (aX .lss (e 6) t14_26) fun t15_27=>ifP t15_27 true h (nx+5) (fun k28=>k28 (e 0) h (nx+6)) fun t17_29 h30 n31=>ifP t15_27 true h30 n31 (fun k32=>k32 (e 4) h30 (n31+1)) fun t18_33 h34 n35=>ifP t15_27 true h34 n35 (fun k36=>k36 (e 6) h34 (n35+1)) fun t19_37 h38 n39=>ifP t15_27 true h38 n39 (fun k40=>aA (dI 1 t18_33 t19_37) fun t20_44=>k40 t20_44 h38 (n39+1)) fun t20_41 h42 n43=>ifP t15_27 true h42 n43 (fun k45=>aA (load1 ro h42 t20_41) fun t21_49=>k45 t21_49 h42 (n43+1)) fun t21_46 h47 n48=>ifP t15_27 true h47 n48 (fun k50=>k50 (e 5) h47 (n48+1)) fun t22_51 h52 n53=>ifP t15_27 true h52 n53 (fun k54=>aA (pK .u8 t22_51) fun t23_58=>k54 t23_58 h52 (n53+1)) fun t23_55 h56 n57=>ifP t15_27 true h56 n57 (fun k59=>aN Tryz.prog ro sH [t17_29,t21_46,t23_55] h56 (n57+1) fun t24_63 h64 n65=>k59 t24_63 h64 n65) fun t24_60 h61 n62=>ifP t15_27 true h61 n62 (fun k66=>aA (unV .not t24_60) fun t25_70=>k66 t25_70 h61 (n62+1)) fun t25_67 h68 n69=>aA (dK t15_27 t25_67 (Value.bool false)) fun t26_71=>aZ t26_71 (aA (aX .add (e 6) (Value.int IntKind.i64 1)) fun t28_72=>Q .normal (puts e [(12,(e 6)),(13,(e 4)),(14,t14_26),(15,t15_27),(16,t15_27),(17,t17_29),(18,t18_33),(19,t19_37),(20,t20_41),(21,t21_46),(22,t22_51),(23,t23_55),(24,t24_60),(25,t25_67),(26,t26_71),(27,(e 6)),(28,t28_72),(6,t28_72)]) h68 (n69+4)) (Q (.exit 2) (puts e [(12,(e 6)),(13,(e 4)),(14,t14_26),(15,t15_27),(16,t15_27),(17,t17_29),(18,t18_33),(19,t19_37),(20,t20_41),(21,t21_46),(22,t22_51),(23,t23_55),(24,t24_60),(25,t25_67),(26,t26_71)]) h68 (n69+1))
@[irreducible] def aBl (ro:Ro):PT:=fun e h nx Q=>aA (aX .lss (e 5) (Value.int IntKind.i64 256)) fun t9_14=>aZ t9_14 (d5 (aBm ro) (puts e [(8,(e 5)),(9,t9_14),(6,(Value.int IntKind.i64 0))]) h (nx+3) fun x76 e73 h74 n75=>exP x76 (rT ro Q e73 h74 n75) (fun i77=>d8 (Nat.beq i77 2) (rT ro Q e73 h74 n75) (d8 (Nat.beq i77 1) (wX ro Q e73 h74 n75) (Q (.exit i77) e73 h74 n75))) (Q .ret e73 h74 n75)) (Q (.exit 0) (puts e [(8,(e 5)),(9,t9_14)]) h (nx+2))
@[irreducible] def aDB (ro:Ro) (v0:Value) (h:T Obj) (nx:Nat) (K:KV):Prop:=aA (zer Tryz.prog cG) fun z1=>d4 h nx (.cells z1.cells cG) fun h2=>aA (dF Tryz.prog cG []) fun t7_3=>aA (zer Tryz.prog cG) fun z4=>d4 h2 (nx+2) (.cells z4.cells cG) fun h5=>aA (bY 257 h5 (ptr (nx+2)) t7_3) fun h6=>d5 (aBl ro) (puts (i3 [v0]) [(2,(ptr nx)),(7,t7_3),(3,(ptr (nx+2))),(4,(Value.slice none 0 0)),(5,(Value.int IntKind.i64 0))]) h6 (nx+6) fun x81 e78 h79 n80=>exP x81 (wW ro K e78 h79 n80) (fun i82=>d8 (Nat.beq i82 0) (wW ro K e78 h79 n80) (False)) (aA (loadA ro h79 257 (e78 2)) fun r83=>∃ h84,Sub h84 h79∧K r83 h84 n80)
theorem aHG (ro:Ro) (v0:Value) (h:T Obj) (nx:Nat) (K:KV):bJ Tryz.prog ro (aN Tryz.prog ro) Tryz.f44 [v0] h nx K=aDB ro v0 h nx K:=by kernel_rfl
theorem aHH {ro:Ro} {v0:Value} {h:T Obj} {nx:Nat} {K:KV} (hw:aDB ro v0 h nx K):aN Tryz.prog ro zT [v0] h nx K:=bF (P:=Tryz.prog) (fn:=Tryz.f44) (by kernel_rfl) (by kernel_rfl) (by kernel_rfl) (Eq.mpr (aHG ro v0 h nx K) hw)
@[irreducible] def jZ (ro:Ro) (K:KV):Env→T Obj→Nat→Prop:=fun e h nx=>∃ h2,Sub h2 h∧K (e 7) h2 (nx+2)
@[irreducible] def hI (ro:Ro) (Q:KE):Env→T Obj→Nat→Prop:=fun e h nx=>aA (aX .add (e 8) (Value.int IntKind.i64 1)) fun t16_7=>Q .normal (puts e [(15,(e 8)),(16,t16_7),(8,t16_7)]) h (nx+3)
@[irreducible] def oB (ro:Ro):PT:=fun e h nx Q=>aA (aY 0 (e 4)) fun t11_3=>aA (load1 ro h t11_3) fun t12_4=>aA (cU t12_4) fun t13_5=>aA (aX .lss (e 8) t13_5) fun t14_6=>aZ t14_6 (aA (bW (e 0)) fun t18_8=>aA (aY 0 t18_8) fun t19_9=>aA (aY 1 t19_9) fun t20_10=>aA (load1 ro h t20_10) fun t21_11=>aA (aY 0 (e 4)) fun t22_12=>aA (load1 ro h t22_12) fun t23_13=>aA (dI 1 t23_13 (e 8)) fun t25_14=>aA (load1 ro h t25_14) fun t26_15=>aA (dI 9 t21_11 t26_15) fun t27_16=>aA (loadA ro h 9 t27_16) fun t28_17=>aA (zer Tryz.prog d9) fun z18=>d4 h (nx+17) (.cells z18.cells d9) fun h19=>aA (bY 9 h19 (ptr (nx+17)) t28_17) fun h20=>aA (aY 7 (ptr (nx+17))) fun t29_21=>aA (load1 ro h20 t29_21) fun t30_22=>ifP t30_22 true h20 (nx+42) (fun k23=>k23 (e 0) h20 (nx+42)) fun t32_24 h25 n26=>ifP t30_22 true h25 n26 (fun k27=>aA (loadA ro h25 4 (e 4)) fun t33_31=>k27 t33_31 h25 n26) fun t33_28 h29 n30=>ifP t30_22 true h29 n30 (fun k32=>k32 (e 2) h29 n30) fun t34_33 h34 n35=>ifP t30_22 true h34 n35 (fun k36=>aA (aY 0 (e 4)) fun t35_40=>k36 t35_40 h34 n35) fun t35_37 h38 n39=>ifP t30_22 true h38 n39 (fun k41=>aA (load1 ro h38 t35_37) fun t36_45=>k41 t36_45 h38 n39) fun t36_42 h43 n44=>ifP t30_22 true h43 n44 (fun k46=>k46 (e 8) h43 n44) fun t37_47 h48 n49=>ifP t30_22 true h48 n49 (fun k50=>aA (dI 1 t36_42 t37_47) fun t38_54=>k50 t38_54 h48 n49) fun t38_51 h52 n53=>ifP t30_22 true h52 n53 (fun k55=>aA (load1 ro h52 t38_51) fun t39_59=>k55 t39_59 h52 n53) fun t39_56 h57 n58=>ifP t30_22 true h57 n58 (fun k60=>aN Tryz.prog ro iM [t32_24,t33_28,t34_33,t39_56] h57 n58 fun t40_64 h65 n66=>k60 t40_64 h65 n66) fun t40_61 h62 n63=>aA (dK t30_22 t40_61 (Value.bool false)) fun t41_67=>ifP t41_67 true h62 n63 (fun k68=>k68 (e 7) h62 n63) fun t43_69 h70 n71=>ifP t41_67 true h70 n71 (fun k72=>aA (aX .lss t43_69 (Value.int IntKind.i64 0)) fun t44_76=>k72 t44_76 h70 n71) fun t44_73 h74 n75=>ifP t41_67 true h74 n75 (fun k77=>k77 t44_73 h74 n75) fun t45_78 h79 n80=>ifP t45_78 false h79 n80 (fun k81=>aA (aY 6 (ptr (nx+17))) fun t46_85=>k81 t46_85 h79 n80) fun t46_82 h83 n84=>ifP t45_78 false h83 n84 (fun k86=>aA (load1 ro h83 t46_82) fun t47_90=>k86 t47_90 h83 n84) fun t47_87 h88 n89=>ifP t45_78 false h88 n89 (fun k91=>k91 (e 7) h88 n89) fun t48_92 h93 n94=>ifP t45_78 false h93 n94 (fun k95=>aA (aX .lss t47_87 t48_92) fun t49_99=>k95 t49_99 h93 n94) fun t49_96 h97 n98=>ifP t41_67 true h97 n98 (fun k100=>aA (dK t45_78 (Value.bool true) t49_96) fun t50_104=>k100 t50_104 h97 n98) fun t50_101 h102 n103=>aA (dK t41_67 t50_101 (Value.bool false)) fun t51_105=>aZ t51_105 (aA (aY 6 (ptr (nx+17))) fun t52_106=>aA (load1 ro h102 t52_106) fun t53_107=>hI ro Q (puts e [(10,(e 8)),(11,t11_3),(12,t12_4),(13,t13_5),(14,t14_6),(17,(e 0)),(18,t18_8),(19,t19_9),(20,t20_10),(21,t21_11),(22,t22_12),(23,t23_13),(24,(e 8)),(25,t25_14),(26,t26_15),(27,t27_16),(28,t28_17),(9,(ptr (nx+17))),(29,t29_21),(30,t30_22),(31,t30_22),(32,t32_24),(33,t33_28),(34,t34_33),(35,t35_37),(36,t36_42),(37,t37_47),(38,t38_51),(39,t39_56),(40,t40_61),(41,t41_67),(42,t41_67),(43,t43_69),(44,t44_73),(45,t45_78),(46,t46_82),(47,t47_87),(48,t48_92),(49,t49_96),(50,t50_101),(51,t51_105),(52,t52_106),(53,t53_107),(7,t53_107)]) h102 (n103+3)) (hI ro Q (puts e [(10,(e 8)),(11,t11_3),(12,t12_4),(13,t13_5),(14,t14_6),(17,(e 0)),(18,t18_8),(19,t19_9),(20,t20_10),(21,t21_11),(22,t22_12),(23,t23_13),(24,(e 8)),(25,t25_14),(26,t26_15),(27,t27_16),(28,t28_17),(9,(ptr (nx+17))),(29,t29_21),(30,t30_22),(31,t30_22),(32,t32_24),(33,t33_28),(34,t34_33),(35,t35_37),(36,t36_42),(37,t37_47),(38,t38_51),(39,t39_56),(40,t40_61),(41,t41_67),(42,t41_67),(43,t43_69),(44,t44_73),(45,t45_78),(46,t46_82),(47,t47_87),(48,t48_92),(49,t49_96),(50,t50_101),(51,t51_105)]) h102 n103)) (Q (.exit 0) (puts e [(10,(e 8)),(11,t11_3),(12,t12_4),(13,t13_5),(14,t14_6)]) h (nx+5))
@[irreducible] def mI (ro:Ro) (v0 v1 v2:Value) (h:T Obj) (nx:Nat) (K:KV):Prop:=d4 h nx (.cells (Value.cells v1) aP) fun h1=>d5 (oB ro) (puts (i3 [v0,v1,v2]) [(4,(ptr nx)),(6,(Value.int IntKind.i64 0)),(7,(Value.int IntKind.i64 (-1))),(8,(Value.int IntKind.i64 0))]) h1 (nx+4) fun x111 e108 h109 n110=>exP x111 (jZ ro K e108 h109 n110) (fun i112=>d8 (Nat.beq i112 0) (jZ ro K e108 h109 n110) (False)) (∃ h113,Sub h113 h109∧K (e108 6) h113 n110)
theorem vT (ro:Ro) (v0 v1 v2:Value) (h:T Obj) (nx:Nat) (K:KV):bJ Tryz.prog ro (aN Tryz.prog ro) Tryz.f46 [v0,v1,v2] h nx K=mI ro v0 v1 v2 h nx K:=by kernel_rfl
theorem vU {ro:Ro} {v0 v1 v2:Value} {h:T Obj} {nx:Nat} {K:KV} (hw:mI ro v0 v1 v2 h nx K):aN Tryz.prog ro kQ [v0,v1,v2] h nx K:=bF (P:=Tryz.prog) (fn:=Tryz.f46) (by kernel_rfl) (by kernel_rfl) (by kernel_rfl) (Eq.mpr (vT ro v0 v1 v2 h nx K) hw)
@[irreducible] def gZ (ro:Ro) (K:KV):Env→T Obj→Nat→Prop:=fun e h nx=>aA (cU (e 11)) fun t101_21=>aA (aX .eql t101_21 (Value.int IntKind.i64 0)) fun t102_22=>aZ t102_22 (aA (dF Tryz.prog bC [(0,(Value.int IntKind.i64 (-1)))]) fun t103_23=>aA (bY 2 h (e 8) t103_23) fun h24=>aA (loadA ro h24 2 (e 8)) fun r25=>∃ h26,Sub h26 h24∧K r25 h26 (nx+5)) (aN Tryz.prog ro kO [(e 0),(e 11)] h (nx+6) fun t106_27 h28 n29=>aA (dF Tryz.prog bC [(0,t106_27),(1,(e 12))]) fun t108_30=>aA (bY 2 h28 (e 8) t108_30) fun h31=>aA (loadA ro h31 2 (e 8)) fun r32=>∃ h33,Sub h33 h31∧K r32 h33 (n29+3))
@[irreducible] def dT (ro:Ro) (Q:KE):Env→T Obj→Nat→Prop:=fun e h nx=>aA (aX .add (e 13) (Value.int IntKind.i64 1)) fun t42_40=>Q .normal (puts e [(41,(e 13)),(42,t42_40),(13,t42_40)]) h (nx+3)
@[irreducible] def oA (ro:Ro):PT:=fun e h nx Q=>aA (bW (e 0)) fun t35_34=>aA (aY 0 t35_34) fun t36_35=>aA (aY 1 t36_35) fun t37_36=>aA (load1 ro h t37_36) fun t38_37=>aA (cU t38_37) fun t39_38=>aA (aX .lss (e 13) t39_38) fun t40_39=>aZ t40_39 (aA (bW (e 0)) fun t44_41=>aA (aY 0 t44_41) fun t45_42=>aA (aY 1 t45_42) fun t46_43=>aA (load1 ro h t46_43) fun t47_44=>aA (dI 9 t47_44 (e 13)) fun t49_45=>aA (aY 0 t49_45) fun t50_46=>aA (loadA ro h 4 t50_46) fun t51_47=>aN Tryz.prog ro kN [t51_47,(e 10)] h (nx+19) fun t53_48 h49 n50=>aA (unV .not t53_48) fun t54_51=>aZ t54_51 (dT ro Q (puts e [(33,(e 13)),(34,(e 0)),(35,t35_34),(36,t36_35),(37,t37_36),(38,t38_37),(39,t39_38),(40,t40_39),(43,(e 0)),(44,t44_41),(45,t45_42),(46,t46_43),(47,t47_44),(48,(e 13)),(49,t49_45),(50,t50_46),(51,t51_47),(52,(e 10)),(53,t53_48),(54,t54_51)]) h49 (n50+1)) (aA (loadA ro h49 4 (e 9)) fun t57_52=>aN Tryz.prog ro i9 [(e 0),(e 1),t57_52,(e 2),(e 13)] h49 (n50+7) fun t60_53 h54 n55=>aA (loadA ro h54 4 (e 9)) fun t62_56=>aN Tryz.prog ro jU [(e 0),t62_56,(e 2),(e 13)] h54 (n55+6) fun t65_57 h58 n59=>aA (unV .not t60_53) fun t67_60=>ifP t67_60 true h58 (n59+4) (fun k61=>k61 t65_57 h58 (n59+5)) fun t69_62 h63 n64=>ifP t67_60 true h63 n64 (fun k65=>aA (unV .not t69_62) fun t70_69=>k65 t70_69 h63 (n64+1)) fun t70_66 h67 n68=>aA (dK t67_60 t70_66 (Value.bool false)) fun t71_70=>aZ t71_70 (dT ro Q (puts e [(33,(e 13)),(34,(e 0)),(35,t35_34),(36,t36_35),(37,t37_36),(38,t38_37),(39,t39_38),(40,t40_39),(43,(e 0)),(44,t44_41),(45,t45_42),(46,t46_43),(47,t47_44),(48,(e 13)),(49,t49_45),(50,t50_46),(51,t51_47),(52,(e 10)),(53,t53_48),(54,t54_51),(55,(e 0)),(56,(e 1)),(57,t57_52),(58,(e 2)),(59,(e 13)),(60,t60_53),(14,t60_53),(61,(e 0)),(62,t62_56),(63,(e 2)),(64,(e 13)),(65,t65_57),(15,t65_57),(66,t60_53),(67,t67_60),(68,t67_60),(69,t69_62),(70,t70_66),(71,t71_70)]) h67 (n68+1)) (aA (a7 Tryz.prog dD (n68+3) 1 [(0,(e 13))]) fun r71=>eG h67 (n68+3) r71.2 fun h72=>aA (bX Tryz.prog ro h72 (n68+5) #[dD,dD] [(e 11),r71.1]) fun r73=>aA (bW (e 0)) fun t77_74=>aA (aY 2 t77_74) fun t78_75=>aA (load1 ro r73.2.1 t78_75) fun t79_76=>aA (dI 1 t79_76 (e 13)) fun t81_77=>aA (load1 ro r73.2.1 t81_77) fun t82_78=>aA (aX .lss t82_78 (Value.int IntKind.i64 0)) fun t83_79=>aZ t83_79 (dT ro Q (puts e [(33,(e 13)),(34,(e 0)),(35,t35_34),(36,t36_35),(37,t37_36),(38,t38_37),(39,t39_38),(40,t40_39),(43,(e 0)),(44,t44_41),(45,t45_42),(46,t46_43),(47,t47_44),(48,(e 13)),(49,t49_45),(50,t50_46),(51,t51_47),(52,(e 10)),(53,t53_48),(54,t54_51),(55,(e 0)),(56,(e 1)),(57,t57_52),(58,(e 2)),(59,(e 13)),(60,t60_53),(14,t60_53),(61,(e 0)),(62,t62_56),(63,(e 2)),(64,(e 13)),(65,t65_57),(15,t65_57),(66,t60_53),(67,t67_60),(68,t67_60),(69,t69_62),(70,t70_66),(71,t71_70),(72,(e 11)),(73,(e 13)),(74,r71.1),(75,r73.1),(11,r73.1),(76,(e 0)),(77,t77_74),(78,t78_75),(79,t79_76),(80,(e 13)),(81,t81_77),(82,t82_78),(83,t83_79)]) r73.2.1 (r73.2.2+9)) (ifP t60_53 true r73.2.1 (r73.2.2+11) (fun k80=>k80 t65_57 r73.2.1 (r73.2.2+12)) fun t90_81 h82 n83=>aA (dK t60_53 t90_81 (Value.bool false)) fun t91_84=>aZ t91_84 (aA (a7 Tryz.prog bS (n83+3) 1 [(0,(Value.int IntKind.u8 2))]) fun r85=>eG h82 (n83+3) r85.2 fun h86=>aA (bX Tryz.prog ro h86 (n83+5) #[bS,bS] [(e 12),r85.1]) fun r87=>dT ro Q (puts e [(33,(e 13)),(34,(e 0)),(35,t35_34),(36,t36_35),(37,t37_36),(38,t38_37),(39,t39_38),(40,t40_39),(43,(e 0)),(44,t44_41),(45,t45_42),(46,t46_43),(47,t47_44),(48,(e 13)),(49,t49_45),(50,t50_46),(51,t51_47),(52,(e 10)),(53,t53_48),(54,t54_51),(55,(e 0)),(56,(e 1)),(57,t57_52),(58,(e 2)),(59,(e 13)),(60,t60_53),(14,t60_53),(61,(e 0)),(62,t62_56),(63,(e 2)),(64,(e 13)),(65,t65_57),(15,t65_57),(66,t60_53),(67,t67_60),(68,t67_60),(69,t69_62),(70,t70_66),(71,t71_70),(72,(e 11)),(73,(e 13)),(74,r71.1),(75,r73.1),(11,r73.1),(76,(e 0)),(77,t77_74),(78,t78_75),(79,t79_76),(80,(e 13)),(81,t81_77),(82,t82_78),(83,t83_79),(88,t60_53),(89,t60_53),(90,t90_81),(91,t91_84),(87,t91_84),(92,(e 12)),(93,r85.1),(94,r87.1),(12,r87.1)]) r87.2.1 (r87.2.2+1)) (aZ t65_57 (aA (a7 Tryz.prog bS (n83+5) 1 [(0,(Value.int IntKind.u8 1))]) fun r88=>eG h82 (n83+5) r88.2 fun h89=>aA (bX Tryz.prog ro h89 (n83+7) #[bS,bS] [(e 12),r88.1]) fun r90=>dT ro Q (puts e [(33,(e 13)),(34,(e 0)),(35,t35_34),(36,t36_35),(37,t37_36),(38,t38_37),(39,t39_38),(40,t40_39),(43,(e 0)),(44,t44_41),(45,t45_42),(46,t46_43),(47,t47_44),(48,(e 13)),(49,t49_45),(50,t50_46),(51,t51_47),(52,(e 10)),(53,t53_48),(54,t54_51),(55,(e 0)),(56,(e 1)),(57,t57_52),(58,(e 2)),(59,(e 13)),(60,t60_53),(14,t60_53),(61,(e 0)),(62,t62_56),(63,(e 2)),(64,(e 13)),(65,t65_57),(15,t65_57),(66,t60_53),(67,t67_60),(68,t67_60),(69,t69_62),(70,t70_66),(71,t71_70),(72,(e 11)),(73,(e 13)),(74,r71.1),(75,r73.1),(11,r73.1),(76,(e 0)),(77,t77_74),(78,t78_75),(79,t79_76),(80,(e 13)),(81,t81_77),(82,t82_78),(83,t83_79),(88,t60_53),(89,t60_53),(90,t90_81),(91,t91_84),(87,t91_84),(96,t65_57),(95,t65_57),(97,(e 12)),(98,r88.1),(99,r90.1),(12,r90.1)]) r90.2.1 (r90.2.2+1)) (aA (a7 Tryz.prog bS (n83+5) 1 [(0,(Value.int IntKind.u8 3))]) fun r91=>eG h82 (n83+5) r91.2 fun h92=>aA (bX Tryz.prog ro h92 (n83+7) #[bS,bS] [(e 12),r91.1]) fun r93=>dT ro Q (puts e [(33,(e 13)),(34,(e 0)),(35,t35_34),(36,t36_35),(37,t37_36),(38,t38_37),(39,t39_38),(40,t40_39),(43,(e 0)),(44,t44_41),(45,t45_42),(46,t46_43),(47,t47_44),(48,(e 13)),(49,t49_45),(50,t50_46),(51,t51_47),(52,(e 10)),(53,t53_48),(54,t54_51),(55,(e 0)),(56,(e 1)),(57,t57_52),(58,(e 2)),(59,(e 13)),(60,t60_53),(14,t60_53),(61,(e 0)),(62,t62_56),(63,(e 2)),(64,(e 13)),(65,t65_57),(15,t65_57),(66,t60_53),(67,t67_60),(68,t67_60),(69,t69_62),(70,t70_66),(71,t71_70),(72,(e 11)),(73,(e 13)),(74,r71.1),(75,r73.1),(11,r73.1),(76,(e 0)),(77,t77_74),(78,t78_75),(79,t79_76),(80,(e 13)),(81,t81_77),(82,t82_78),(83,t83_79),(88,t60_53),(89,t60_53),(90,t90_81),(91,t91_84),(87,t91_84),(96,t65_57),(95,t65_57),(84,(e 12)),(85,r91.1),(86,r93.1),(12,r93.1)]) r93.2.1 (r93.2.2+1))))))) (Q (.exit 0) (puts e [(33,(e 13)),(34,(e 0)),(35,t35_34),(36,t36_35),(37,t37_36),(38,t38_37),(39,t39_38),(40,t40_39)]) h (nx+8))
@[irreducible] def mG (ro:Ro) (v0 v1 v2 v3:Value) (h:T Obj) (nx:Nat) (K:KV):Prop:=aA (zer Tryz.prog bC) fun z1=>d4 h nx (.cells z1.cells bC) fun h2=>aA (bW v0) fun t17_3=>aA (aY 3 t17_3) fun t18_4=>aA (aY 258 t18_4) fun t19_5=>aA (load1 ro h2 t19_5) fun t20_6=>aA (dI 4 t20_6 v1) fun t22_7=>aA (loadA ro h2 4 t22_7) fun t23_8=>aA (zer Tryz.prog aP) fun z9=>d4 h2 (nx+9) (.cells z9.cells aP) fun h10=>aA (bY 4 h10 (ptr (nx+9)) t23_8) fun h11=>aA (bW v0) fun t25_12=>aA (aY 3 t25_12) fun t26_13=>aA (aY 0 t26_13) fun t27_14=>aA (loadA ro h11 257 t27_14) fun t28_15=>aN Tryz.prog ro lS [t28_15] h11 (nx+17) fun t29_16 h17 n18=>aA (dI 1 t29_16 v3) fun t31_19=>aA (load1 ro h17 t31_19) fun t32_20=>d5 (oA ro) (puts (i3 [v0,v1,v2,v3]) [(8,(ptr nx)),(16,v0),(17,t17_3),(18,t18_4),(19,t19_5),(20,t20_6),(21,v1),(22,t22_7),(23,t23_8),(9,(ptr (nx+9))),(24,v0),(25,t25_12),(26,t26_13),(27,t27_14),(28,t28_15),(29,t29_16),(30,v3),(31,t31_19),(32,t32_20),(10,t32_20),(11,(Value.slice none 0 0)),(12,(Value.slice none 0 0)),(13,(Value.int IntKind.i64 0))]) h17 (n18+7) fun x97 e94 h95 n96=>exP x97 (gZ ro K e94 h95 n96) (fun i98=>d8 (Nat.beq i98 0) (gZ ro K e94 h95 n96) (False)) (aA (loadA ro h95 2 (e94 8)) fun r99=>∃ h100,Sub h100 h95∧K r99 h100 n96)
theorem vP (ro:Ro) (v0 v1 v2 v3:Value) (h:T Obj) (nx:Nat) (K:KV):bJ Tryz.prog ro (aN Tryz.prog ro) Tryz.f47 [v0,v1,v2,v3] h nx K=mG ro v0 v1 v2 v3 h nx K:=by kernel_rfl
theorem vQ {ro:Ro} {v0 v1 v2 v3:Value} {h:T Obj} {nx:Nat} {K:KV} (hw:mG ro v0 v1 v2 v3 h nx K):aN Tryz.prog ro kP [v0,v1,v2,v3] h nx K:=bF (P:=Tryz.prog) (fn:=Tryz.f47) (by kernel_rfl) (by kernel_rfl) (by kernel_rfl) (Eq.mpr (vP ro v0 v1 v2 v3 h nx K) hw)
@[irreducible] def qX (ro:Ro) (K:KV):Env→T Obj→Nat→Prop:=fun e h nx=>∃ h1,Sub h1 h∧K (Value.bool true) h1 (nx+1)
@[irreducible] def wZ (ro:Ro):PT:=fun e h nx Q=>aA (cU (e 0)) fun t10_2=>aA (aX .lss (e 7) t10_2) fun t11_3=>aZ t11_3 (aA (dI 4 (e 0) (e 7)) fun t16_4=>aA (loadA ro h 4 t16_4) fun t17_5=>aN Tryz.prog ro kN [t17_5,(e 1)] h (nx+17) fun t19_6 h7 n8=>aA (dI 4 (e 0) (e 7)) fun t22_9=>aA (loadA ro h7 4 t22_9) fun t23_10=>(nR t22_9 h h7)∧(aN Tryz.prog ro kN [t23_10,(e 2)] h7 n8 fun t25_11 h12 n13=>aA (aAP .neq t19_6 t25_11) fun t26_14=>aZ t26_14 (Q .ret (puts e [(8,(e 7)),(9,(e 0)),(10,t10_2),(11,t11_3),(14,(e 0)),(15,(e 7)),(16,t16_4),(17,t17_5),(18,(e 1)),(19,t19_6),(20,(e 0)),(21,(e 7)),(22,t22_9),(23,t23_10),(24,(e 2)),(25,t25_11),(26,t26_14),(6,(Value.bool false))]) h12 (n13+1)) (aA (aX .add (e 7) (Value.int IntKind.i64 1)) fun t13_15=>Q .normal (puts e [(8,(e 7)),(9,(e 0)),(10,t10_2),(11,t11_3),(14,(e 0)),(15,(e 7)),(16,t16_4),(17,t17_5),(18,(e 1)),(19,t19_6),(20,(e 0)),(21,(e 7)),(22,t22_9),(23,t23_10),(24,(e 2)),(25,t25_11),(26,t26_14),(12,(e 7)),(13,t13_15),(7,t13_15)]) h12 (n13+3)))) (Q (.exit 0) (puts e [(8,(e 7)),(9,(e 0)),(10,t10_2),(11,t11_3)]) h (nx+4))
@[irreducible] def wY (ro:Ro) (v0 v1 v2:Value) (h:T Obj) (nx:Nat) (K:KV):Prop:=d5 (wZ ro) (puts (i3 [v0,v1,v2]) [(6,(Value.bool false)),(7,(Value.int IntKind.i64 0))]) h (nx+2) fun x19 e16 h17 n18=>exP x19 (qX ro K e16 h17 n18) (fun i20=>d8 (Nat.beq i20 0) (qX ro K e16 h17 n18) (False)) (∃ h21,Sub h21 h17∧K (e16 6) h21 n18)
theorem aDC (ro:Ro) (v0 v1 v2:Value) (h:T Obj) (nx:Nat) (K:KV):bJ Tryz.prog ro (aN Tryz.prog ro) Tryz.f84 [v0,v1,v2] h nx K=wY ro v0 v1 v2 h nx K:=by kernel_rfl
theorem aDD {ro:Ro} {v0 v1 v2:Value} {h:T Obj} {nx:Nat} {K:KV} (hw:wY ro v0 v1 v2 h nx K):aN Tryz.prog ro sH [v0,v1,v2] h nx K:=bF (P:=Tryz.prog) (fn:=Tryz.f84) (by kernel_rfl) (by kernel_rfl) (by kernel_rfl) (Eq.mpr (aDC ro v0 v1 v2 h nx K) hw)
@[irreducible] def mH (ro:Ro) (v0 v1 v2 v3:Value) (h:T Obj) (nx:Nat) (K:KV):Prop:=d4 h nx (.cells (Value.cells v1) aP) fun h1=>aA (loadA ro h1 4 (ptr nx)) fun t10_2=>aN Tryz.prog ro gW [v0,t10_2,v2,v3] h1 (nx+7) fun t13_3 h4 n5=>aA (aX .neq t13_3 (Value.int IntKind.i64 0)) fun t14_6=>∃ h7,Sub h7 h4∧K t14_6 h7 (n5+2)
theorem vR (ro:Ro) (v0 v1 v2 v3:Value) (h:T Obj) (nx:Nat) (K:KV):bJ Tryz.prog ro (aN Tryz.prog ro) Tryz.f85 [v0,v1,v2,v3] h nx K=mH ro v0 v1 v2 v3 h nx K:=by kernel_rfl
theorem vS {ro:Ro} {v0 v1 v2 v3:Value} {h:T Obj} {nx:Nat} {K:KV} (hw:mH ro v0 v1 v2 v3 h nx K):aN Tryz.prog ro iM [v0,v1,v2,v3] h nx K:=bF (P:=Tryz.prog) (fn:=Tryz.f85) (by kernel_rfl) (by kernel_rfl) (by kernel_rfl) (Eq.mpr (vR ro v0 v1 v2 v3 h nx K) hw)
@[irreducible] def iX (ro:Ro) (K:KV):Env→T Obj→Nat→Prop:=fun e h nx=>∃ h11,Sub h11 h∧K (Value.bool false) h11 (nx+1)
@[irreducible] def mS (ro:Ro):PT:=fun e h nx Q=>aA (aY 0 (e 7)) fun t22_12=>aA (load1 ro h t22_12) fun t23_13=>aA (cU t23_13) fun t24_14=>aA (aX .lss (e 11) t24_14) fun t25_15=>aZ t25_15 (aA (loadA ro h 4 (e 7)) fun t29_16=>aA (aY 0 (e 7)) fun t31_17=>aA (load1 ro h t31_17) fun t32_18=>aA (dI 1 t32_18 (e 11)) fun t34_19=>aA (load1 ro h t34_19) fun t35_20=>aN Tryz.prog ro iM [(e 0),t29_16,(e 3),t35_20] h (nx+31) fun t36_21 h22 n23=>ifP t36_21 true h22 n23 (fun k24=>k24 (e 0) h22 n23) fun t38_25 h26 n27=>ifP t36_21 true h26 n27 (fun k28=>aA (bW t38_25) fun t39_32=>k28 t39_32 h26 n27) fun t39_29 h30 n31=>ifP t36_21 true h30 n31 (fun k33=>aA (aY 0 t39_29) fun t40_37=>k33 t40_37 h30 n31) fun t40_34 h35 n36=>ifP t36_21 true h35 n36 (fun k38=>aA (aY 1 t40_34) fun t41_42=>k38 t41_42 h35 n36) fun t41_39 h40 n41=>ifP t36_21 true h40 n41 (fun k43=>aA (load1 ro h40 t41_39) fun t42_47=>k43 t42_47 h40 n41) fun t42_44 h45 n46=>ifP t36_21 true h45 n46 (fun k48=>aA (aY 0 (e 7)) fun t43_52=>k48 t43_52 h45 n46) fun t43_49 h50 n51=>ifP t36_21 true h50 n51 (fun k53=>aA (load1 ro h50 t43_49) fun t44_57=>k53 t44_57 h50 n51) fun t44_54 h55 n56=>ifP t36_21 true h55 n56 (fun k58=>k58 (e 11) h55 n56) fun t45_59 h60 n61=>ifP t36_21 true h60 n61 (fun k62=>aA (dI 1 t44_54 t45_59) fun t46_66=>k62 t46_66 h60 n61) fun t46_63 h64 n65=>ifP t36_21 true h64 n65 (fun k67=>aA (load1 ro h64 t46_63) fun t47_71=>k67 t47_71 h64 n65) fun t47_68 h69 n70=>ifP t36_21 true h69 n70 (fun k72=>aA (dI 9 t42_44 t47_68) fun t48_76=>k72 t48_76 h69 n70) fun t48_73 h74 n75=>ifP t36_21 true h74 n75 (fun k77=>aA (aY 8 t48_73) fun t49_81=>k77 t49_81 h74 n75) fun t49_78 h79 n80=>ifP t36_21 true h79 n80 (fun k82=>aA (load1 ro h79 t49_78) fun t50_86=>k82 t50_86 h79 n80) fun t50_83 h84 n85=>ifP t36_21 true h84 n85 (fun k87=>k87 (e 4) h84 n85) fun t51_88 h89 n90=>ifP t36_21 true h89 n90 (fun k91=>aN Tryz.prog ro qQ [t50_83,t51_88] h89 n90 fun t52_95 h96 n97=>k91 t52_95 h96 n97) fun t52_92 h93 n94=>aA (dK t36_21 t52_92 (Value.bool false)) fun t53_98=>aZ t53_98 (Q .ret (puts e [(21,(e 11)),(22,t22_12),(23,t23_13),(24,t24_14),(25,t25_15),(28,(e 0)),(29,t29_16),(30,(e 3)),(31,t31_17),(32,t32_18),(33,(e 11)),(34,t34_19),(35,t35_20),(36,t36_21),(37,t36_21),(38,t38_25),(39,t39_29),(40,t40_34),(41,t41_39),(42,t42_44),(43,t43_49),(44,t44_54),(45,t45_59),(46,t46_63),(47,t47_68),(48,t48_73),(49,t49_78),(50,t50_83),(51,t51_88),(52,t52_92),(53,t53_98),(10,(Value.bool true))]) h93 (n94+1)) (aA (aX .add (e 11) (Value.int IntKind.i64 1)) fun t27_99=>Q .normal (puts e [(21,(e 11)),(22,t22_12),(23,t23_13),(24,t24_14),(25,t25_15),(28,(e 0)),(29,t29_16),(30,(e 3)),(31,t31_17),(32,t32_18),(33,(e 11)),(34,t34_19),(35,t35_20),(36,t36_21),(37,t36_21),(38,t38_25),(39,t39_29),(40,t40_34),(41,t41_39),(42,t42_44),(43,t43_49),(44,t44_54),(45,t45_59),(46,t46_63),(47,t47_68),(48,t48_73),(49,t49_78),(50,t50_83),(51,t51_88),(52,t52_92),(53,t53_98),(26,(e 11)),(27,t27_99),(11,t27_99)]) h93 (n94+3))) (Q (.exit 0) (puts e [(21,(e 11)),(22,t22_12),(23,t23_13),(24,t24_14),(25,t25_15)]) h (nx+5))
@[irreducible] def kV (ro:Ro) (v0 v1 v2 v3 v4:Value) (h:T Obj) (nx:Nat) (K:KV):Prop:=d4 h nx (.cells (Value.cells v2) aP) fun h1=>aA (aX .eql v1 (Value.int IntKind.i64 0)) fun t13_2=>aZ t13_2 (aA (bW v0) fun t15_3=>aA (aY 0 t15_3) fun t16_4=>aA (aY 0 t16_4) fun t17_5=>aA (load1 ro h1 t17_5) fun t18_6=>aN Tryz.prog ro qQ [t18_6,v4] h1 (nx+11) fun t20_7 h8 n9=>∃ h10,Sub h10 h8∧K t20_7 h10 (n9+1)) (d5 (mS ro) (puts (i3 [v0,v1,v2,v3,v4]) [(7,(ptr nx)),(10,(Value.bool false)),(12,v1),(13,t13_2),(11,(Value.int IntKind.i64 0))]) h1 (nx+5) fun x103 e100 h101 n102=>exP x103 (iX ro K e100 h101 n102) (fun i104=>d8 (Nat.beq i104 0) (iX ro K e100 h101 n102) (False)) (∃ h105,Sub h105 h101∧K (e100 10) h105 n102))
theorem tJ (ro:Ro) (v0 v1 v2 v3 v4:Value) (h:T Obj) (nx:Nat) (K:KV):bJ Tryz.prog ro (aN Tryz.prog ro) Tryz.f88 [v0,v1,v2,v3,v4] h nx K=kV ro v0 v1 v2 v3 v4 h nx K:=by kernel_rfl
theorem tK {ro:Ro} {v0 v1 v2 v3 v4:Value} {h:T Obj} {nx:Nat} {K:KV} (hw:kV ro v0 v1 v2 v3 v4 h nx K):aN Tryz.prog ro i9 [v0,v1,v2,v3,v4] h nx K:=bF (P:=Tryz.prog) (fn:=Tryz.f88) (by kernel_rfl) (by kernel_rfl) (by kernel_rfl) (Eq.mpr (tJ ro v0 v1 v2 v3 v4 h nx K) hw)
@[irreducible] def lP (ro:Ro) (v0 v1 v2 v3:Value) (h:T Obj) (nx:Nat) (K:KV):Prop:=d4 h nx (.cells (Value.cells v1) aP) fun h1=>aA (loadA ro h1 4 (ptr nx)) fun t11_2=>aN Tryz.prog ro gW [v0,t11_2,v2,v3] h1 (nx+7) fun t14_3 h4 n5=>aA (aY 0 (ptr nx)) fun t15_6=>aA (load1 ro h4 t15_6) fun t16_7=>aN Tryz.prog ro qQ [t16_7,v3] h4 (n5+5) fun t18_8 h9 n10=>ifP t18_8 true h9 (n10+1) (fun k11=>k11 t14_3 h9 (n10+2)) fun t20_12 h13 n14=>ifP t18_8 true h13 n14 (fun k15=>aA (aX .eql t20_12 (Value.int IntKind.i64 0)) fun t21_19=>k15 t21_19 h13 (n14+1)) fun t21_16 h17 n18=>ifP t18_8 true h17 n18 (fun k20=>k20 t21_16 h17 (n18+1)) fun t22_21 h22 n23=>ifP t22_21 false h22 n23 (fun k24=>k24 t14_3 h22 (n23+1)) fun t23_25 h26 n27=>ifP t22_21 false h26 n27 (fun k28=>aA (aX .eql t23_25 (Value.int IntKind.i64 2)) fun t24_32=>k28 t24_32 h26 (n27+1)) fun t24_29 h30 n31=>ifP t18_8 true h30 n31 (fun k33=>aA (dK t22_21 (Value.bool true) t24_29) fun t25_37=>k33 t25_37 h30 (n31+1)) fun t25_34 h35 n36=>aA (dK t18_8 t25_34 (Value.bool false)) fun t26_38=>∃ h39,Sub h39 h35∧K t26_38 h39 (n36+2)
theorem uT (ro:Ro) (v0 v1 v2 v3:Value) (h:T Obj) (nx:Nat) (K:KV):bJ Tryz.prog ro (aN Tryz.prog ro) Tryz.f89 [v0,v1,v2,v3] h nx K=lP ro v0 v1 v2 v3 h nx K:=by kernel_rfl
theorem uU {ro:Ro} {v0 v1 v2 v3:Value} {h:T Obj} {nx:Nat} {K:KV} (hw:lP ro v0 v1 v2 v3 h nx K):aN Tryz.prog ro jU [v0,v1,v2,v3] h nx K:=bF (P:=Tryz.prog) (fn:=Tryz.f89) (by kernel_rfl) (by kernel_rfl) (by kernel_rfl) (Eq.mpr (uT ro v0 v1 v2 v3 h nx K) hw)
@[irreducible] def gX (ro:Ro) (K:KV):Env→T Obj→Nat→Prop:=fun e h nx=>aA (cU (e 9)) fun t86_1=>aA (aX .gtr t86_1 (Value.int IntKind.i64 3)) fun t87_2=>aZ t87_2 (aA (bW (e 0)) fun t89_3=>aA (aY 262 t89_3) fun t90_4=>aA (bY 1 h t90_4 (Value.int IntKind.i64 110)) fun h5=>∃ h6,Sub h6 h5∧K (Value.int IntKind.i64 0) h6 (nx+8)) (aA (bW (e 0)) fun t92_7=>aA (aY 3 t92_7) fun t93_8=>aA (aY 258 t93_8) fun t94_9=>aA (load1 ro h t94_9) fun t95_10=>aA (cU t95_10) fun t96_11=>aA (aX .geq t96_11 (Value.int IntKind.i64 256)) fun t97_12=>aZ t97_12 (aA (bW (e 0)) fun t99_13=>aA (aY 262 t99_13) fun t100_14=>aA (bY 1 h t100_14 (Value.int IntKind.i64 3)) fun h15=>∃ h16,Sub h16 h15∧K (Value.int IntKind.i64 0) h16 (nx+15)) (aA (bW (e 0)) fun t103_17=>aA (aY 3 t103_17) fun t104_18=>aA (aY 258 t104_18) fun t105_19=>aA (load1 ro h t105_19) fun t106_20=>aA (dF Tryz.prog aP [(0,(e 1)),(1,(e 9))]) fun t109_21=>aA (a7 Tryz.prog eQ (nx+19) 1 [(0,t109_21)]) fun r22=>eG h (nx+19) r22.2 fun h23=>aA (bX Tryz.prog ro h23 (nx+21) #[eQ,eQ] [t106_20,r22.1]) fun r24=>aA (bW (e 0)) fun t112_25=>aA (aY 3 t112_25) fun t113_26=>aA (aY 258 t113_26) fun t114_27=>aA (bY 1 r24.2.1 t114_27 r24.1) fun h28=>aA (bW (e 0)) fun t116_29=>aA (aY 3 t116_29) fun t117_30=>aA (aY 258 t117_30) fun t118_31=>aA (load1 ro h28 t118_31) fun t119_32=>aA (cU t119_32) fun t120_33=>aA (aX .sub t120_33 (Value.int IntKind.i64 1)) fun t121_34=>∃ h35,Sub h35 h28∧K t121_34 h35 (r24.2.2+12)))
@[irreducible] def gY (ro:Ro) (Q:KE):Env→T Obj→Nat→Prop:=fun e h nx=>aA (aX .add (e 10) (Value.int IntKind.i64 1)) fun t60_38=>Q .normal (puts e [(59,(e 10)),(60,t60_38),(10,t60_38)]) h (nx+3)
@[irreducible] def nZ (ro:Ro):PT:=fun e h nx Q=>aA (cU (e 1)) fun t57_36=>aA (aX .lss (e 10) t57_36) fun t58_37=>aZ t58_37 (aA (bW (e 0)) fun t62_39=>aA (aY 2 t62_39) fun t63_40=>aA (load1 ro h t63_40) fun t64_41=>aA (dI 1 (e 1) (e 10)) fun t67_42=>aA (load1 ro h t67_42) fun t68_43=>aA (dI 1 t64_41 t68_43) fun t69_44=>aA (load1 ro h t69_44) fun t70_45=>aA (aX .geq t70_45 (Value.int IntKind.i64 0)) fun t71_46=>aZ t71_46 (aA (bW (e 0)) fun t74_47=>aA (aY 2 t74_47) fun t75_48=>aA (load1 ro h t75_48) fun t76_49=>aA (dI 1 (e 1) (e 10)) fun t79_50=>aA (load1 ro h t79_50) fun t80_51=>aA (dI 1 t76_49 t80_51) fun t81_52=>aA (load1 ro h t81_52) fun t82_53=>aA (a7 Tryz.prog dD (nx+26) 1 [(0,t82_53)]) fun r54=>eG h (nx+26) r54.2 fun h55=>aA (bX Tryz.prog ro h55 (nx+29) #[dD,dD] [(e 9),r54.1]) fun r56=>gY ro Q (puts e [(55,(e 10)),(56,(e 1)),(57,t57_36),(58,t58_37),(61,(e 0)),(62,t62_39),(63,t63_40),(64,t64_41),(65,(e 1)),(66,(e 10)),(67,t67_42),(68,t68_43),(69,t69_44),(70,t70_45),(71,t71_46),(72,(e 9)),(73,(e 0)),(74,t74_47),(75,t75_48),(76,t76_49),(77,(e 1)),(78,(e 10)),(79,t79_50),(80,t80_51),(81,t81_52),(82,t82_53),(83,r54.1),(84,r56.1),(9,r56.1)]) r56.2.1 r56.2.2) (gY ro Q (puts e [(55,(e 10)),(56,(e 1)),(57,t57_36),(58,t58_37),(61,(e 0)),(62,t62_39),(63,t63_40),(64,t64_41),(65,(e 1)),(66,(e 10)),(67,t67_42),(68,t68_43),(69,t69_44),(70,t70_45),(71,t71_46)]) h (nx+15))) (Q (.exit 4) (puts e [(55,(e 10)),(56,(e 1)),(57,t57_36),(58,t58_37)]) h (nx+4))
@[irreducible] def jX (ro:Ro) (K:KV):Env→T Obj→Nat→Prop:=fun e h nx=>d5 (nZ ro) (puts e [(9,(Value.slice none 0 0)),(10,(Value.int IntKind.i64 0))]) h (nx+2) fun x60 e57 h58 n59=>exP x60 (gX ro K e57 h58 n59) (fun i61=>d8 (Nat.beq i61 4) (gX ro K e57 h58 n59) (False)) (∃ h62,Sub h62 h58∧K (e57 4) h62 n59)
@[irreducible] def fU (ro:Ro) (Q:KE):Env→T Obj→Nat→Prop:=fun e h nx=>aA (aX .add (e 5) (Value.int IntKind.i64 1)) fun t20_69=>Q .normal (puts e [(19,(e 5)),(20,t20_69),(5,t20_69)]) h (nx+3)
@[irreducible] def jY (ro:Ro) (Q:KE):Env→T Obj→Nat→Prop:=fun e h nx=>aZ (e 7) (Q .ret (puts e [(53,(e 7)),(54,(e 5)),(4,(e 5))]) h (nx+3)) (fU ro Q (puts e [(53,(e 7))]) h (nx+1))
@[irreducible] def jW (ro:Ro):PT:=fun e h nx Q=>aA (cU (e 1)) fun t37_80=>aA (aX .lss (e 8) t37_80) fun t38_81=>aZ t38_81 (ifP (e 7) true h (nx+17) (fun k82=>k82 (e 6) h (nx+17)) fun t43_83 h84 n85=>ifP (e 7) true h84 n85 (fun k86=>k86 (e 8) h84 n85) fun t44_87 h88 n89=>ifP (e 7) true h88 n89 (fun k90=>aA (dI 1 t43_83 t44_87) fun t45_94=>k90 t45_94 h88 n89) fun t45_91 h92 n93=>ifP (e 7) true h92 n93 (fun k95=>aA (load1 ro h92 t45_91) fun t46_99=>k95 t46_99 h92 n93) fun t46_96 h97 n98=>ifP (e 7) true h97 n98 (fun k100=>k100 (e 1) h97 n98) fun t47_101 h102 n103=>ifP (e 7) true h102 n103 (fun k104=>k104 (e 8) h102 n103) fun t48_105 h106 n107=>ifP (e 7) true h106 n107 (fun k108=>aA (dI 1 t47_101 t48_105) fun t49_112=>k108 t49_112 h106 n107) fun t49_109 h110 n111=>ifP (e 7) true h110 n111 (fun k113=>aA (load1 ro h110 t49_109) fun t50_117=>k113 t50_117 h110 n111) fun t50_114 h115 n116=>ifP (e 7) true h115 n116 (fun k118=>aA (aX .eql t46_96 t50_114) fun t51_122=>k118 t51_122 h115 n116) fun t51_119 h120 n121=>aA (dK (e 7) t51_119 (Value.bool false)) fun t52_123=>aA (aX .add (e 8) (Value.int IntKind.i64 1)) fun t40_124=>Q .normal (puts e [(35,(e 8)),(36,(e 1)),(37,t37_80),(38,t38_81),(41,(e 7)),(42,(e 7)),(43,t43_83),(44,t44_87),(45,t45_91),(46,t46_96),(47,t47_101),(48,t48_105),(49,t49_109),(50,t50_114),(51,t51_119),(52,t52_123),(7,t52_123),(39,(e 8)),(40,t40_124),(8,t40_124)]) h120 (n121+3)) (Q (.exit 2) (puts e [(35,(e 8)),(36,(e 1)),(37,t37_80),(38,t38_81)]) h (nx+4))
@[irreducible] def jV (ro:Ro):PT:=fun e h nx Q=>aA (bW (e 0)) fun t13_63=>aA (aY 3 t13_63) fun t14_64=>aA (aY 258 t14_64) fun t15_65=>aA (load1 ro h t15_65) fun t16_66=>aA (cU t16_66) fun t17_67=>aA (aX .lss (e 5) t17_67) fun t18_68=>aZ t18_68 (aA (bW (e 0)) fun t22_70=>aA (aY 3 t22_70) fun t23_71=>aA (aY 258 t23_71) fun t24_72=>aA (load1 ro h t24_72) fun t25_73=>aA (dI 4 t25_73 (e 5)) fun t27_74=>aA (aY 0 t27_74) fun t28_75=>aA (load1 ro h t28_75) fun t29_76=>aA (cU t29_76) fun t31_77=>aA (cU (e 1)) fun t33_78=>aA (aX .eql t31_77 t33_78) fun t34_79=>aZ t34_79 (d5 (jW ro) (puts e [(11,(e 5)),(12,(e 0)),(13,t13_63),(14,t14_64),(15,t15_65),(16,t16_66),(17,t17_67),(18,t18_68),(21,(e 0)),(22,t22_70),(23,t23_71),(24,t24_72),(25,t25_73),(26,(e 5)),(27,t27_74),(28,t28_75),(29,t29_76),(6,t29_76),(30,t29_76),(31,t31_77),(32,(e 1)),(33,t33_78),(34,t34_79),(7,(Value.bool true)),(8,(Value.int IntKind.i64 0))]) h (nx+25) fun x128 e125 h126 n127=>exP x128 (jY ro Q e125 h126 n127) (fun i129=>d8 (Nat.beq i129 2) (jY ro Q e125 h126 n127) (d8 (Nat.beq i129 1) (fU ro Q e125 h126 n127) (Q (.exit i129) e125 h126 n127))) (Q .ret e125 h126 n127)) (fU ro Q (puts e [(11,(e 5)),(12,(e 0)),(13,t13_63),(14,t14_64),(15,t15_65),(16,t16_66),(17,t17_67),(18,t18_68),(21,(e 0)),(22,t22_70),(23,t23_71),(24,t24_72),(25,t25_73),(26,(e 5)),(27,t27_74),(28,t28_75),(29,t29_76),(6,t29_76),(30,t29_76),(31,t31_77),(32,(e 1)),(33,t33_78),(34,t34_79)]) h (nx+23))) (Q (.exit 0) (puts e [(11,(e 5)),(12,(e 0)),(13,t13_63),(14,t14_64),(15,t15_65),(16,t16_66),(17,t17_67),(18,t18_68)]) h (nx+8))
@[irreducible] def mF (ro:Ro) (v0 v1:Value) (h:T Obj) (nx:Nat) (K:KV):Prop:=d5 (jV ro) (puts (i3 [v0,v1]) [(4,(Value.int IntKind.i64 0)),(5,(Value.int IntKind.i64 1))]) h (nx+2) fun x133 e130 h131 n132=>exP x133 (jX ro K e130 h131 n132) (fun i134=>d8 (Nat.beq i134 0) (jX ro K e130 h131 n132) (False)) (∃ h135,Sub h135 h131∧K (e130 4) h135 n132)
theorem vN (ro:Ro) (v0 v1:Value) (h:T Obj) (nx:Nat) (K:KV):bJ Tryz.prog ro (aN Tryz.prog ro) Tryz.f90 [v0,v1] h nx K=mF ro v0 v1 h nx K:=by kernel_rfl
theorem vO {ro:Ro} {v0 v1:Value} {h:T Obj} {nx:Nat} {K:KV} (hw:mF ro v0 v1 h nx K):aN Tryz.prog ro kO [v0,v1] h nx K:=bF (P:=Tryz.prog) (fn:=Tryz.f90) (by kernel_rfl) (by kernel_rfl) (by kernel_rfl) (Eq.mpr (vN ro v0 v1 h nx K) hw)
@[irreducible] def jA (ro:Ro) (K:KV):Env→T Obj→Nat→Prop:=fun e h nx=>∃ h2,Sub h2 h∧K (Value.int IntKind.i64 (-1)) h2 (nx+1)
@[irreducible] def nP (ro:Ro):PT:=fun e h nx Q=>aA (aY 1 (e 5)) fun t11_3=>aA (load1 ro h t11_3) fun t12_4=>aA (cU t12_4) fun t13_5=>aA (aX .lss (e 9) t13_5) fun t14_6=>aZ t14_6 (aA (aY 1 (e 5)) fun t17_7=>aA (load1 ro h t17_7) fun t18_8=>aA (dI 1 t18_8 (e 9)) fun t20_9=>aA (load1 ro h t20_9) fun t21_10=>aA (bW (e 0)) fun t23_11=>aA (aY 2 t23_11) fun t24_12=>aA (load1 ro h t24_12) fun t25_13=>aA (dI 1 t25_13 (e 3)) fun t27_14=>aA (load1 ro h t27_14) fun t28_15=>aA (aX .eql t21_10 t28_15) fun t29_16=>aZ t29_16 (aA (aX .rem (e 2) (Value.int IntKind.i64 3)) fun t31_17=>Q .ret (puts e [(10,(e 9)),(11,t11_3),(12,t12_4),(13,t13_5),(14,t14_6),(17,t17_7),(18,t18_8),(19,(e 9)),(20,t20_9),(21,t21_10),(22,(e 0)),(23,t23_11),(24,t24_12),(25,t25_13),(26,(e 3)),(27,t27_14),(28,t28_15),(29,t29_16),(30,(e 2)),(31,t31_17),(8,t31_17)]) h (nx+21)) (aA (aX .quo (e 2) (Value.int IntKind.i64 3)) fun t33_18=>aA (aX .add (e 9) (Value.int IntKind.i64 1)) fun t16_19=>Q .normal (puts e [(10,(e 9)),(11,t11_3),(12,t12_4),(13,t13_5),(14,t14_6),(17,t17_7),(18,t18_8),(19,(e 9)),(20,t20_9),(21,t21_10),(22,(e 0)),(23,t23_11),(24,t24_12),(25,t25_13),(26,(e 3)),(27,t27_14),(28,t28_15),(29,t29_16),(32,(e 2)),(33,t33_18),(2,t33_18),(15,(e 9)),(16,t16_19),(9,t16_19)]) h (nx+24))) (Q (.exit 0) (puts e [(10,(e 9)),(11,t11_3),(12,t12_4),(13,t13_5),(14,t14_6)]) h (nx+5))
@[irreducible] def lO (ro:Ro) (v0 v1 v2 v3:Value) (h:T Obj) (nx:Nat) (K:KV):Prop:=d4 h nx (.cells (Value.cells v1) aP) fun h1=>d5 (nP ro) (puts (i3 [v0,v1,v2,v3]) [(5,(ptr nx)),(8,(Value.int IntKind.i64 0)),(9,(Value.int IntKind.i64 0))]) h1 (nx+3) fun x23 e20 h21 n22=>exP x23 (jA ro K e20 h21 n22) (fun i24=>d8 (Nat.beq i24 0) (jA ro K e20 h21 n22) (False)) (∃ h25,Sub h25 h21∧K (e20 8) h25 n22)
theorem uR (ro:Ro) (v0 v1 v2 v3:Value) (h:T Obj) (nx:Nat) (K:KV):bJ Tryz.prog ro (aN Tryz.prog ro) Tryz.f118 [v0,v1,v2,v3] h nx K=lO ro v0 v1 v2 v3 h nx K:=by kernel_rfl
theorem uS {ro:Ro} {v0 v1 v2 v3:Value} {h:T Obj} {nx:Nat} {K:KV} (hw:lO ro v0 v1 v2 v3 h nx K):aN Tryz.prog ro gW [v0,v1,v2,v3] h nx K:=bF (P:=Tryz.prog) (fn:=Tryz.f118) (by kernel_rfl) (by kernel_rfl) (by kernel_rfl) (Eq.mpr (uR ro v0 v1 v2 v3 h nx K) hw)
end V
end Go.Proofs.YtjndkdmkecpllaaGreat
set_option linter.unusedVariables false
set_option linter.unusedSimpArgs false
namespace Go.Proofs.YtjndkdmkecpllaaGreat
namespace V
section
variable {α β:Type} [DecidableEq α] [DecidableEq β]
theorem aLw (s:List α) (p:α):pos (p::s) p=0:=by simp [pos]
theorem aO8 {s:List α} {p q:α} (h:q≠p):pos (q::s) p=pos s p+1:=by
  unfold pos; rw [List.idxOf_cons,beq_eq_false_iff_ne.2 h]; rfl
theorem aLv {s:List α} {p:α} {k:Nat} (hk:s[k]?=some p) (hn:∀ j,j < k→s[j]?≠some p):pos s p=k:=by
  induction s generalizing k with
  | nil=>simp at hk
  | cons q s ih =>
    cases k with
    | zero=>simp at hk; subst hk; exact aLw _ _
    | succ k =>
      have h0:=hn 0 (by omega)
      rw [aO8 (fun e=>h0 (by simp [e]))]
      rw [ih (by simpa using hk) fun j hj=>by have:=hn (j+1) (by omega); simpa using this]
def num (l:List α):List Nat:=l.map (ix l)
theorem tD (l:List α) (p:α):dd (l++[p])=sA (dd l) p:=by simp [dd]
theorem aL1 {s:List α} {p q:α}:q∈sA s p ↔ q∈s∨q=p:=by
  unfold sA
  by_cases h:p∈s
  · rw [if_pos h]
    constructor
    · exact .inl
    · rintro (h1 | rfl)
      · exact h1
      · exact h
  · rw [if_neg h]; simp
theorem aL3 {l s:List α} {q:α}:q∈l.foldl sA s ↔ q∈s∨q∈l:=by
  induction l generalizing s with
  | nil=>simp
  | cons p l ih=>rw [List.foldl_cons,ih,aL1]; simp [or_assoc]
theorem aCn {l:List α} {q:α}:q∈dd l ↔ q∈l:=by unfold dd; rw [aL3]; simp
theorem aFo (s:List α) (p:α):∃ r,sA s p=s++r:=by
  unfold sA
  by_cases h:p∈s
  · exact ⟨[],by rw [if_pos h]; simp⟩
  · exact ⟨[p],by rw [if_neg h]⟩
theorem aG1 (l s:List α):∃ r,l.foldl sA s=s++r:=by
  induction l generalizing s with
  | nil=>exact ⟨[],by simp⟩
  | cons p l ih =>
    obtain ⟨r,h⟩:=aFo s p
    obtain ⟨r',h'⟩:=ih (sA s p)
    exact ⟨r++r',by rw [List.foldl_cons,h',h,List.append_assoc]⟩
theorem aJf (l m:List α):∃ r,dd (l++m)=dd l++r:=by
  unfold dd
  rw [List.foldl_append]
  exact aG1 m _
theorem uJ {l m:List α} {p:α} (h:p∈l):ix (l++m) p=ix l p:=by
  unfold ix pos
  obtain ⟨r,hr⟩:=aJf l m
  rw [hr,List.idxOf_append,if_pos (aCn.2 h)]
theorem aB4 (s:List α) (p:α):(sA s p).length≤s.length+1:=by
  unfold sA
  by_cases h:p∈s
  · rw [if_pos h]; omega
  · rw [if_neg h]; simp
theorem aG0 (l s:List α):(l.foldl sA s).length≤s.length+l.length:=by
  induction l generalizing s with
  | nil=>simp
  | cons p l ih=>rw [List.foldl_cons]; have:=ih (sA s p); have:=aB4 s p; simp; omega
theorem aEQ (l:List α):(dd l).length≤l.length:=by have:=aG0 l []; unfold dd; simpa using this
theorem aLL {l:List α} {p:α} (h:¬ p∈dd l):ix (l++[p]) p=(dd l).length:=by
  unfold ix pos
  rw [tD]
  unfold sA
  rw [if_neg h,List.idxOf_append,if_neg h]
  simp
theorem aIN (l:List α):(num l).length=l.length:=by simp [num]
end
theorem aJ2:bs.length=256:=by unfold bs; simp
theorem aOA {b:Nat} (hb:b < 256):bs[b]?=some b:=by unfold bs; rw [List.getElem?_range hb]
def cls (l:List Nat):List Nat:=num (gB l)
theorem kX (l:List Nat):(gB l).length=256:=by rw [gB,List.length_map,aJ2]
theorem tZ (l:List Nat):(cls l).length=256:=by rw [cls,aIN,kX]
theorem aAo {l:List Nat} {b:Nat} (hb:b < 256):(gB l)[b]?=some (sig l b):=by rw [gB,List.getElem?_map,aOA hb]; rfl
theorem aEz {l:List Nat} {b:Nat} (hb:b < 256):(cls l)[b]?=some (ix (gB l) (sig l b)):=by
  rw [cls,num,List.getElem?_map,aAo hb]; rfl
theorem aMO (l:List Nat) (x b:Nat):sig (l++[x]) b=sig l b++[x.testBit b]:=by simp [sig]
set_option maxRecDepth 20000
set_option maxRecDepth 20000
set_option maxRecDepth 20000
def i0 (c:List Nat) (m:Nat):List Value:=u8s c++[.int .i64 (m:Int)]
def aBZ (c:List Nat) (m:Nat):Value:=.agg (i0 c m).toArray
theorem oM {c:List Nat} {m:Nat} (hc:c.length=256):(i0 c m).length=257:=by simp [i0,oR,hc]
theorem aEg (c:List Nat) (m:Nat):(i0 c m).all bT=true:=by simp [i0,u8s,bT]
theorem aId {c:List Nat} {m i:Nat} (v:Nat) (hi:i < c.length):(i0 c m).set i (.int .u8 (v:Int))=i0 (c.set i v) m:=by
  unfold i0
  rw [List.set_append_left _ _ (by rw [oR]; exact hi)]
  simp [u8s,List.map_set]
theorem aH5 {c:List Nat} {m:Nat} (v:Nat) (hc:c.length=256):(i0 c m).set 256 (.int .i64 (v:Int))=i0 c v:=by
  unfold i0
  rw [List.set_append_right _ _ (by rw [oR]; omega)]
  simp [oR,hc]
theorem aFi (c:List Nat) (m:Nat):(aBZ c m).cells=(i0 c m).toArray:=rfl
theorem aK8:zer Tryz.prog cG=some (aBZ (List.replicate 256 0) 0):=by kernel_rfl
theorem aAs {K:Value→Prop} (k:K (aBZ (List.replicate 256 0) 0)):aA (zer Tryz.prog cG) K:=by rw [aK8]; exact k
theorem aFa:(List.replicate 256 0:List Nat).length=256:=List.length_replicate
set_option maxRecDepth 20000
def part (l:List Nat) (i:Nat):List Nat:=l.take i++List.replicate (256 - i) 0
theorem aLs {l:List Nat} (hl:l.length=256) {i:Nat} (hi:i≤256):(part l i).length=256:=by simp [part,hl]; omega
theorem aLt {l:List Nat} (hl:l.length=256) {i:Nat} (hi:i < 256):(part l i).set i (l[i]'(by omega))=part l (i+1):=by
  unfold part
  rw [List.set_append_right _ _ (by simp; omega)]
  have e:256 - i=(256 - (i+1))+1:=by omega
  rw [e,List.replicate_succ]
  have e2:i - (List.take i l).length=0:=by simp; omega
  rw [e2,List.set_cons_zero,List.take_succ_eq_append_getElem (by omega),List.append_assoc]
  rfl
theorem aLr {l:List Nat} (hl:l.length=256):part l 256=l:=by
  unfold part
  rw [List.take_of_length_le (by omega)]; simp
set_option maxRecDepth 20000
def rF (l:List Nat):List (List Value):=l.map gK
theorem yK (l:List Nat):(rF l).length=l.length:=by simp [rF]
theorem aKY {l:List Nat} {i:Nat} (hi:i < l.length):(rF l)[i]?=some (gK l[i]):=by simp [rF,hi]
theorem aDe:dF Tryz.prog cG []=some (aBZ (List.replicate 256 0) 0):=by kernel_rfl
set_option maxRecDepth 20000
theorem zE {l:List Nat} {i:Nat} (hi:i < l.length) (b:Nat):sig (l.take (i+1)) b=sig (l.take i) b++[l[i].testBit b]:=by
  rw [List.take_succ_eq_append_getElem hi,aMO]
theorem aIb {l:List Nat} {i a b:Nat} (hi:i < l.length) (h:l[i].testBit a≠l[i].testBit b):sig l a≠sig l b:=by
  intro e
  have h1:(sig l a)[i]?=some (l[i].testBit a):=by simp [sig,hi]
  have h2:(sig l b)[i]?=some (l[i].testBit b):=by simp [sig,hi]
  rw [e,h2] at h1
  exact h (Option.some.inj h1).symm
theorem aDt {ro:Ro} {v:Value} {l:List Nat} {a b:Nat} (ha:a < 256) (hb:b < 256) (hlen:l.length≤1000000) {h:T Obj} {nx:Nat} {K:KV} (hf:Fr h nx) (hv:Sl ro h v 4 (rF l)) (hK:∀ nx',nx≤nx'→K (.bool (decide (sig l a=sig l b))) h nx') :
    aN Tryz.prog ro sH [v,.int .u8 a,.int .u8 b] h nx K:=by
  apply aDD
  unfold wY
  refine bI (fun n e h' nx'=>∃ i:Nat,i+n=l.length∧nx≤nx'∧e 0=v∧e 1=.int .u8 a∧e 2=.int .u8 b∧e 7=.int .i64 i∧h'=h∧sig (l.take i) a=sig (l.take i) b) ?_ (n:=l.length) ⟨0,by omega,by omega,rfl,rfl,rfl,rfl,rfl,rfl⟩
  rintro n e h' nx' ⟨i,hin,hnx,e0,e1,e2,e7,rfl,hsig⟩ Q' hc hx
  unfold wZ
  rw [e0,e1,e2,e7]
  have hl:=hv.len
  rw [yK] at hl
  refine aB hl ?_
  (repeat (first | refine aB (by simp (disch:=first | omega | exact Int.natCast_nonneg _ | assumption) only [BB,B2,↓reduceIte,Nat.reduceLeDiff,Nat.reduceAdd,aR,aS,aW,aV,aU,aT]<;>rfl) ?_ | refine aD ?_ | refine aE ?_ | with_reducible first | refine aG ?_ | refine aF ?_ | refine aH ?_ | refine aI ?_ | refine aK ?_ | refine aJ ?_ | refine aL ?_ | refine aC ?_))
  by_cases hi:i < l.length
  · refine fS (by simp; omega) ?_
    have hix:=hv.ix .i64 (i:=i) (by rw [yK]; exact hi)
    have hld:=hv.loadA (aKY hi)
    refine aB hix (aB hld ?_)
    refine o8 ha (hf.mono (by omega)) fun n1 hn1=>?_
    refine aB hix (aB hld ?_)
    refine ⟨hv.same (Sub.refl _) (by rw [yK]; exact hi),?_⟩
    refine o8 hb (hf.mono (by omega)) fun n2 hn2=>?_
    (repeat (first | refine aB (by simp (disch:=first | omega | exact Int.natCast_nonneg _ | assumption) only [BB,B2,↓reduceIte,Nat.reduceLeDiff,Nat.reduceAdd,aR,aS,aW,aV,aU,aT]<;>rfl) ?_ | refine aD ?_ | refine aE ?_ | with_reducible first | refine aG ?_ | refine aF ?_ | refine aH ?_ | refine aI ?_ | refine aK ?_ | refine aJ ?_ | refine aL ?_ | refine aC ?_))
    by_cases he:l[i].testBit a=l[i].testBit b
    · refine fR (by simp [he]) ?_
      (repeat (first | refine aB (by simp (disch:=first | omega | exact Int.natCast_nonneg _ | assumption) only [BB,B2,↓reduceIte,Nat.reduceLeDiff,Nat.reduceAdd,aR,aS,aW,aV,aU,aT]<;>rfl) ?_ | refine aD ?_ | refine aE ?_ | with_reducible first | refine aG ?_ | refine aF ?_ | refine aH ?_ | refine aI ?_ | refine aK ?_ | refine aJ ?_ | refine aL ?_ | refine aC ?_))
      refine hc (n - 1) _ _ _ _ (by omega) ⟨i+1,by omega,by omega,e0,e1,e2,rfl,rfl,?_⟩ (Sub.refl _)
      rw [zE hi,zE hi,hsig,he]
    · refine fS (by simp [he]) ?_
      refine hx _ _ _ _ (fun e=>by cases e) (mM ?_)
      refine ⟨h',Sub.refl _,?_⟩
      have:=hK (n2+1) (by omega)
      rw [decide_eq_false (aIb hi he)] at this
      exact this
  · refine fR (by simp; omega) ?_
    refine hx _ _ _ _ (fun e=>by cases e) (fG (dR ?_))
    unfold qX
    refine ⟨h',Sub.refl _,?_⟩
    have ht:l.take i=l:=List.take_of_length_le (by omega)
    rw [ht] at hsig
    have:=hK (nx'+4+1) (by omega)
    rw [decide_eq_true hsig] at this
    exact this
set_option maxRecDepth 20000
set_option maxRecDepth 4000 in
theorem aIX {ro:Ro} {v:Value} {l:List Nat} (hlen:l.length≤1000000) {h:T Obj} {nx:Nat} {K:KV} (hf:Fr h nx) (hv:Sl ro h v 4 (rF l)) (hK:∀ nx',nx≤nx'→K (aBZ (cls l) (many l)) h nx'):aN Tryz.prog ro zT [v] h nx K:=by
  apply aHH
  unfold aDB
  refine aAs (aD (aB aDe (aAs (aD ?_))))
  refine aB (fB (l:=i0 (List.replicate 256 0) 0) (vs:=i0 (List.replicate 256 0) 0) (by rw [T.get_upd_same]; rfl) rfl (oM aFa) (oM aFa) (aEg _ _)) ?_
  have hN:=tZ l
  refine bI (fun n e h' nx'=>∃ (i:Nat) (reps:List Nat) (fv:Value),i+n=256∧nx+6≤nx'∧e 0=v∧e 2=ptr nx∧e 3=ptr (nx+2)∧e 4=fv∧e 5=.int .i64 i∧Sub h h'∧Fr h' nx' ∧
    h'.get nx=some (.cells (i0 (List.replicate 256 0) 0).toArray cG)∧h'.get (nx+2)=some (.cells (i0 (part (cls l) i) 0).toArray cG) ∧
    Own h' fv 1 bR (eB reps) (nx+3) nx'∧reps.map (sig l)=dd ((gB l).take i)∧∀ r∈reps,r < 256) ?_ (n:=256)
    ⟨0,[],_,by omega,by omega,rfl,rfl,rfl,rfl,rfl,?_,?_,?_,?_,Own.nil,rfl,by simp⟩
  · rintro n e h' nx' ⟨i,reps,fv,hin,hnx,e0,e2,e3,e4,e5,hs,hf',g1,g2,ho,hreps,hr⟩ Q' hc hx
    unfold aBl
    rw [e5]
    (repeat (first | refine aB (by simp (disch:=first | omega | exact Int.natCast_nonneg _ | assumption) only [BB,B2,↓reduceIte,Nat.reduceLeDiff,Nat.reduceAdd,aR,aS,aW,aV,aU,aT]<;>rfl) ?_ | refine aD ?_ | refine aE ?_ | with_reducible first | refine aG ?_ | refine aF ?_ | refine aH ?_ | refine aI ?_ | refine aK ?_ | refine aJ ?_ | refine aL ?_ | refine aC ?_))
    by_cases hi:i < 256
    · refine fS (by simp; omega) ?_
      have hrl:reps.length≤i:=by
        have:=congrArg List.length hreps
        rw [List.length_map] at this
        rw [this]
        refine Nat.le_trans (aEQ _) ?_
        rw [List.length_take]; omega
      have hsl:i < (gB l).length:=by rw [kX]; exact hi
      have hse:(gB l)[i]=sig l i:=by have:=aAo (l:=l) hi; rw [List.getElem?_eq_getElem hsl] at this; exact Option.some.inj this
      have htake:(gB l).take (i+1)=(gB l).take i++[sig l i]:=by rw [List.take_succ_eq_append_getElem hsl,hse]
      have hNi:(cls l)[i]'(by omega)=ix ((gB l).take (i+1)) (sig l i):=by
        have h1:=aEz (l:=l) hi
        rw [List.getElem?_eq_getElem (by omega)] at h1
        rw [Option.some.inj h1]
        have h2:=uJ (l:=(gB l).take (i+1)) (m:=(gB l).drop (i+1)) (p:=sig l i) (by rw [htake]; simp)
        rw [List.take_append_drop] at h2
        exact h2
      have hrg:∀ j,(dd ((gB l).take i))[j]?=(reps[j]?).map (sig l):=fun j=>by rw [← hreps,List.getElem?_map]
      have hj4:∀ (k:Nat) (reps':List Nat),k=ix ((gB l).take (i+1)) (sig l i)→k≤i→reps'.map (sig l)=dd ((gB l).take (i+1))→(∀ r∈reps',r < 256)→∀ (e:Env) (h1:T Obj) (n2:Nat) (fv:Value),nx'≤n2→e 0=v→e 2=ptr nx→e 3=ptr (nx+2)→e 4=fv→e 5=.int .i64 i→e 6=.int .i64 k →
          Sub h h1→Fr h1 n2→h1.get nx=some (.cells (i0 (List.replicate 256 0) 0).toArray cG)→h1.get (nx+2)=some (.cells (i0 (part (cls l) i) 0).toArray cG)→Own h1 fv 1 bR (eB reps') (nx+3) n2→rU ro Q' e h1 n2:=by
        intro k reps' hk hki hreps' hr' e h1 n2 fv hn2 e0 e2 e3 e4 e5 e6 hs1 hf1 g1 g2 ho'
        unfold rU
        rw [e3,e5,e6]
        (repeat (first | refine aB (by simp (disch:=first | omega | exact Int.natCast_nonneg _ | assumption) only [BB,B2,↓reduceIte,Nat.reduceLeDiff,Nat.reduceAdd,aR,aS,aW,aV,aU,aT]<;>rfl) ?_ | refine aD ?_ | refine aE ?_ | with_reducible first | refine aG ?_ | refine aF ?_ | refine aH ?_ | refine aI ?_ | refine aK ?_ | refine aJ ?_ | refine aL ?_ | refine aC ?_))
        have hpl2:(part (cls l) i).length=256:=aLs hN (by omega)
        refine aB (dZ g2 (by rw [oM hpl2]; omega) rfl rfl) ?_
        rw [aId _ (by omega),hk,← hNi,aLt hN hi]
        unfold wX
        show aA (aX .add (e 5) _) _
        rw [e5]
        (repeat (first | refine aB (by simp (disch:=first | omega | exact Int.natCast_nonneg _ | assumption) only [BB,B2,↓reduceIte,Nat.reduceLeDiff,Nat.reduceAdd,aR,aS,aW,aV,aU,aT]<;>rfl) ?_ | refine aD ?_ | refine aE ?_ | with_reducible first | refine aG ?_ | refine aF ?_ | refine aH ?_ | refine aI ?_ | refine aK ?_ | refine aJ ?_ | refine aL ?_ | refine aC ?_))
        refine hc (n - 1) _ _ _ _ (by omega) ⟨i+1,reps',fv,by omega,?_,e0,e2,e3,e4,rfl,hs1.new hf (by omega),(hf1.mono (by omega)).upd (Nat.le_refl _) (by omega),?_,?_,?_,hreps',hr'⟩ (Sub.refl _)
        · omega
        · simp (disch:=first | omega | exact Int.natCast_nonneg _ | assumption) only [BB,B2,↓reduceIte,Nat.reduceLeDiff,Nat.reduceAdd,aR,aS,aW,aV,aU,aT,g1]
        · rw [T.get_upd_same]
        · exact ho'.keep (by omega) fun id hid1 hid2 o hg=>by rw [T.get_upd_ne _ _ (by omega)]; exact hg
      have hj3:∀ (k:Nat),k≤reps.length→(∀ j,j < k→∀ r,reps[j]?=some r→sig l r≠sig l i)→(∀ r,reps[k]?=some r→sig l r=sig l i)→∀ (e:Env) (n2:Nat),nx'≤n2→e 0=v→e 2=ptr nx→e 3=ptr (nx+2)→e 4=fv→e 5=.int .i64 i→e 6=.int .i64 k→rT ro Q' e h' n2:=by
        intro k hkl hk1 hk2 e n2 hn2 e0 e2 e3 e4 e5 e6
        unfold rT
        rw [e4,e5,e6]
        have hl:=(ho.sl (ro:=ro)).len
        rw [gR] at hl
        refine aB hl ?_
        (repeat (first | refine aB (by simp (disch:=first | omega | exact Int.natCast_nonneg _ | assumption) only [BB,B2,↓reduceIte,Nat.reduceLeDiff,Nat.reduceAdd,aR,aS,aW,aV,aU,aT]<;>rfl) ?_ | refine aD ?_ | refine aE ?_ | with_reducible first | refine aG ?_ | refine aF ?_ | refine aH ?_ | refine aI ?_ | refine aK ?_ | refine aJ ?_ | refine aL ?_ | refine aC ?_))
        by_cases hkk:k=reps.length
        · refine fS (by simp [hkk]) ?_
          (repeat (first | refine aB (by simp (disch:=first | omega | exact Int.natCast_nonneg _ | assumption) only [BB,B2,↓reduceIte,Nat.reduceLeDiff,Nat.reduceAdd,aR,aS,aW,aV,aU,aT]<;>rfl) ?_ | refine aD ?_ | refine aE ?_ | with_reducible first | refine aG ?_ | refine aF ?_ | refine aH ?_ | refine aI ?_ | refine aK ?_ | refine aJ ?_ | refine aL ?_ | refine aC ?_))
          refine aB (aLU _ _) (aE ?_)
          have hnm:¬ sig l i∈dd ((gB l).take i):=by
            rw [← hreps]
            intro hm
            obtain ⟨r,hr1,hr2⟩:=List.mem_map.1 hm
            obtain ⟨j,hj⟩:=List.mem_iff_getElem?.1 hr1
            exact hk1 j (by have:=(List.getElem?_eq_some_iff.1 hj).1; omega) r hj hr2
          have ho2:Own (h'.upd (n2+7) (some (.cells #[.int .u8 (i:Int)] bR))) fv 1 bR (eB reps) (nx+3) (n2+7):=ho.keep (by omega) fun id h1 h2 o hg=>by rw [T.get_upd_ne _ _ (by omega)]; exact hg
          have hx1:Sl ro (h'.upd (n2+7) (some (.cells #[.int .u8 (i:Int)] bR))) (.slice (some (own (n2+7) 1)) 1 1) 1 (eB [i]):=Sl.own (l:=eB [i]) (by rw [T.get_upd_same]; rfl) (by simp [eB]) (Nat.le_refl _)
          obtain ⟨h2,r,q1,q2,q3,q4⟩:=aEH (nx:=n2+9) ho2 hx1 (by omega) (by omega) (by omega)
          refine aB q1 ?_
          dsimp only
          have hS2:Sub h h2:=fun b o hb=>by
            have hbn:b < nx:=by
              rcases Nat.lt_or_ge b nx with h9 | h9
              · exact h9
              · rw [hf b h9] at hb; cases hb
            rw [q3 b (.inl (by omega)) (by omega),T.get_upd_ne _ _ (by omega)]
            exact hs b o hb
          have hF2:Fr h2 (n2+9+1+1):=fun b hb=>by
            rw [q3 b (.inr (by omega)) (by omega),T.get_upd_ne _ _ (by omega)]
            exact hf' b (by omega)
          refine hj4 k (reps++[i]) ?_ (by omega) ?_ ?_ _ _ _ r (by omega) e0 e2 e3 rfl e5 e6 hS2 hF2 ?_ ?_ (q2.keep (by omega) fun _ _ _ _ hg=>hg)
          · rw [htake,aLL hnm,hkk,← hreps,List.length_map]
          · rw [htake,tD]; unfold sA; rw [if_neg hnm,List.map_append,hreps]; rfl
          · intro r hr3
            rcases List.mem_append.1 hr3 with h9 | h9
            · exact hr r h9
            · simp at h9; omega
          · rw [q3 nx (.inl (by omega)) (by omega),T.get_upd_ne _ _ (by omega)]; exact g1
          · rw [q3 (nx+2) (.inl (by omega)) (by omega),T.get_upd_ne _ _ (by omega)]; exact g2
        · refine fR (by simp; omega) ?_
          have hkl2:k < reps.length:=by omega
          have hkr:reps[k]?=some reps[k]:=List.getElem?_eq_getElem hkl2
          have hkm:=hk2 _ hkr
          have hdk:(dd ((gB l).take i))[k]?=some (sig l i):=by rw [hrg,hkr,← hkm]; rfl
          have hmem:sig l i∈dd ((gB l).take i):=List.mem_of_getElem? hdk
          have hdd:dd ((gB l).take (i+1))=dd ((gB l).take i):=by rw [htake,tD]; unfold sA; rw [if_pos hmem]
          refine hj4 k reps ?_ (by omega) (by rw [hdd]; exact hreps) hr _ _ _ fv (by omega) e0 e2 e3 e4 e5 e6 hs (hf'.mono (by omega)) g1 g2 (ho.keep (by omega) fun _ _ _ _ hg=>hg)
          unfold ix
          rw [hdd]
          refine (aLv hdk fun j hj=>?_).symm
          rw [hrg]
          cases hj2:reps[j]? with
          | none=>intro h9; cases h9
          | some r=>intro h9; exact hk1 j hj r hj2 (Option.some.inj h9)
      refine bI (fun n2 e1 h1 n1=>∃ k:Nat,k+n2=reps.length∧nx'≤n1∧e1 0=v∧e1 2=ptr nx∧e1 3=ptr (nx+2)∧e1 4=fv∧e1 5=.int .i64 i∧e1 6=.int .i64 k∧h1=h'∧∀ j,j < k→∀ r,reps[j]?=some r→sig l r≠sig l i) ?_ (n:=reps.length)
        ⟨0,by omega,by omega,e0,e2,e3,e4,e5,rfl,rfl,fun j hj=>by omega⟩
      rintro n2 e1 h1 n1 ⟨k,hkn,hn1,f0,f2,f3,f4,f5,f6,rfl,hk1⟩ Q2 hc2 hx2
      unfold aBm
      rw [f0,f4,f5,f6]
      have hl:=(ho.sl (ro:=ro)).len
      rw [gR] at hl
      refine aB hl ?_
      (repeat (first | refine aB (by simp (disch:=first | omega | exact Int.natCast_nonneg _ | assumption) only [BB,B2,↓reduceIte,Nat.reduceLeDiff,Nat.reduceAdd,aR,aS,aW,aV,aU,aT]<;>rfl) ?_ | refine aD ?_ | refine aE ?_ | with_reducible first | refine aG ?_ | refine aF ?_ | refine aH ?_ | refine aI ?_ | refine aK ?_ | refine aJ ?_ | refine aL ?_ | refine aC ?_))
      by_cases hk:k < reps.length
      · have e9:decide ((k:Int) < (reps.length:Int))=true:=by simp; omega
        rw [e9]
        (repeat (first | refine aB (by simp (disch:=first | omega | exact Int.natCast_nonneg _ | assumption) only [BB,B2,↓reduceIte,Nat.reduceLeDiff,Nat.reduceAdd,aR,aS,aW,aV,aU,aT]<;>rfl) ?_ | refine aD ?_ | refine aE ?_ | with_reducible first | refine aG ?_ | refine aF ?_ | refine aH ?_ | refine aI ?_ | refine aK ?_ | refine aJ ?_ | refine aL ?_ | refine aC ?_))
        refine aB ((ho.sl (ro:=ro)).ix _ (by rw [gR]; exact hk)) ?_
        (repeat (first | refine aB (by simp (disch:=first | omega | exact Int.natCast_nonneg _ | assumption) only [BB,B2,↓reduceIte,Nat.reduceLeDiff,Nat.reduceAdd,aR,aS,aW,aV,aU,aT]<;>rfl) ?_ | refine aD ?_ | refine aE ?_ | with_reducible first | refine aG ?_ | refine aF ?_ | refine aH ?_ | refine aI ?_ | refine aK ?_ | refine aJ ?_ | refine aL ?_ | refine aC ?_))
        refine aB ((ho.sl (ro:=ro)).load1 (tX hk)) ?_
        (repeat (first | refine aB (by simp (disch:=first | omega | exact Int.natCast_nonneg _ | assumption) only [BB,B2,↓reduceIte,Nat.reduceLeDiff,Nat.reduceAdd,aR,aS,aW,aV,aU,aT]<;>rfl) ?_ | refine aD ?_ | refine aE ?_ | with_reducible first | refine aG ?_ | refine aF ?_ | refine aH ?_ | refine aI ?_ | refine aK ?_ | refine aJ ?_ | refine aL ?_ | refine aC ?_))
        refine aDt (hr _ (List.getElem_mem hk)) hi hlen (hf'.mono (by omega)) (hv.sub hs) fun n3 hn3=>?_
        (repeat (first | refine aB (by simp (disch:=first | omega | exact Int.natCast_nonneg _ | assumption) only [BB,B2,↓reduceIte,Nat.reduceLeDiff,Nat.reduceAdd,aR,aS,aW,aV,aU,aT]<;>rfl) ?_ | refine aD ?_ | refine aE ?_ | with_reducible first | refine aG ?_ | refine aF ?_ | refine aH ?_ | refine aI ?_ | refine aK ?_ | refine aJ ?_ | refine aL ?_ | refine aC ?_))
        by_cases he:sig l reps[k]=sig l i
        · refine fR (by simp [he]) ?_
          refine hx2 _ _ _ _ (fun e=>by cases e) (fG (dR ?_))
          exact hj3 k (by omega) hk1 (fun r hr9=>by rw [List.getElem?_eq_getElem hk] at hr9; cases hr9; exact he) _ _ (by omega) f0 f2 f3 f4 f5 f6
        · refine fS (by simp [he]) ?_
          (repeat (first | refine aB (by simp (disch:=first | omega | exact Int.natCast_nonneg _ | assumption) only [BB,B2,↓reduceIte,Nat.reduceLeDiff,Nat.reduceAdd,aR,aS,aW,aV,aU,aT]<;>rfl) ?_ | refine aD ?_ | refine aE ?_ | with_reducible first | refine aG ?_ | refine aF ?_ | refine aH ?_ | refine aI ?_ | refine aK ?_ | refine aJ ?_ | refine aL ?_ | refine aC ?_))
          refine hc2 (n2 - 1) _ _ _ _ (by omega) ⟨k+1,by omega,by omega,f0,f2,f3,f4,f5,rfl,rfl,fun j hj r hr9=>?_⟩ (Sub.refl _)
          rcases Nat.lt_or_eq_of_le (Nat.le_of_lt_succ hj) with h9 | rfl
          · exact hk1 j h9 r hr9
          · rw [List.getElem?_eq_getElem hk] at hr9; cases hr9; exact he
      · have e9:decide ((k:Int) < (reps.length:Int))=false:=by simp; omega
        rw [e9]
        (repeat (first | refine aB (by simp (disch:=first | omega | exact Int.natCast_nonneg _ | assumption) only [BB,B2,↓reduceIte,Nat.reduceLeDiff,Nat.reduceAdd,aR,aS,aW,aV,aU,aT]<;>rfl) ?_ | refine aD ?_ | refine aE ?_ | with_reducible first | refine aG ?_ | refine aF ?_ | refine aH ?_ | refine aI ?_ | refine aK ?_ | refine aJ ?_ | refine aL ?_ | refine aC ?_))
        refine hx2 _ _ _ _ (fun e=>by cases e) (fG (dR ?_))
        exact hj3 k (by omega) hk1 (fun r hr9=>by rw [List.getElem?_eq_none (by omega)] at hr9; cases hr9) _ _ (by omega) f0 f2 f3 f4 f5 f6
    · refine fR (by simp; omega) ?_
      refine hx _ _ _ _ (fun e=>by cases e) (fG (dR ?_))
      have hi2:i=256:=by omega
      subst hi2
      unfold wW
      have hl:=(ho.sl (ro:=ro)).len
      rw [gR] at hl
      have hmany:reps.length=many l:=by
        have:=congrArg List.length hreps
        rw [List.length_map,List.take_of_length_le (by rw [kX]; omega)] at this
        exact this
      show aA (cU (e 4)) _
      rw [e4]
      refine aB hl ?_
      show aA (aY 256 (e 3)) _
      rw [e3,hmany]
      (repeat (first | refine aB (by simp (disch:=first | omega | exact Int.natCast_nonneg _ | assumption) only [BB,B2,↓reduceIte,Nat.reduceLeDiff,Nat.reduceAdd,aR,aS,aW,aV,aU,aT]<;>rfl) ?_ | refine aD ?_ | refine aE ?_ | with_reducible first | refine aG ?_ | refine aF ?_ | refine aH ?_ | refine aI ?_ | refine aK ?_ | refine aJ ?_ | refine aL ?_ | refine aC ?_))
      rw [aLr hN] at g2
      refine aB (dZ g2 (by rw [oM hN]; omega) rfl rfl) ?_
      rw [aH5 _ hN]
      show aA _ fun t=>aA (bY 257 _ (e 2) t) fun h8=>aA (loadA ro h8 257 (e 2)) _
      rw [e2]
      show aA (loadA ro _ 257 (e 3)) _
      rw [e3]
      refine aMF (l1:=i0 (cls l) (many l)) (l2:=i0 (List.replicate 256 0) 0) (id1:=nx+2) (id2:=nx) (n0:=nx) (e1:=cG) (f1:=(0,0)) (e2:=cG) (f2:=(0,0)) (h0:=h) ?_ ?_ (oM hN) (oM aFa) (aEg _ _) hf ?_ (Nat.le_refl _) ?_
      · rw [T.get_upd_same]
      · simp (disch:=first | omega | exact Int.natCast_nonneg _ | assumption) only [BB,B2,↓reduceIte,Nat.reduceLeDiff,Nat.reduceAdd,aR,aS,aW,aV,aU,aT,g1]
      · exact hs.new hf (by omega)
      · exact hK _ (by omega)
  · exact (((Sub.refl h).new hf (Nat.le_refl _)).new hf (by omega)).new hf (by omega)
  · exact ((hf.upd (m:=nx+6) (by omega) (by omega)).upd (Nat.le_refl _) (by omega)).upd (Nat.le_refl _) (by omega)
  · simp (disch:=first | omega | exact Int.natCast_nonneg _ | assumption) only [BB,B2,↓reduceIte,Nat.reduceLeDiff,Nat.reduceAdd,aR,aS,aW,aV,aU,aT,aFi]
  · rw [T.get_upd_same]; rfl
set_option maxRecDepth 20000
set_option maxRecDepth 20000
set_option maxRecDepth 20000
set_option maxRecDepth 20000
end V
end Go.Proofs.YtjndkdmkecpllaaGreat