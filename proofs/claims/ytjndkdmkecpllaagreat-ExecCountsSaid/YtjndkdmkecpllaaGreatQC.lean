/- Texts laid one behind the other: ZD, LCounts.
   No condition. -/
import Derived.Test.YtjndkdmkecpllaaGreatQC6
set_option linter.unusedVariables false
set_option linter.unusedSimpArgs false
set_option linter.unusedVariables false
set_option linter.unusedSimpArgs false
namespace Go.Proofs.YtjndkdmkecpllaaGreat
namespace V
attribute [local irreducible] aA ifP aZ d4 eG exP d8
theorem aHo:dF Tryz.prog bN [(0,.int .u64 2)]=some (pX 2):=by kernel_rfl
theorem aHm (a b:Int):dF Tryz.prog d9 [(0,pX 2),(1,.int .i64 a),(2,.int .i64 b),(4,.bool true)]=some (.agg (nU ⟨2,a,b,0,true,[]⟩ bG).toArray):=by kernel_rfl
theorem aJ3 (i j:Nat):dF Tryz.prog fE [(0,.slice (some (own i 1)) 1 1),(1,.slice (some (own j 9)) 1 1)]=some (.agg #[.slice (some (own i 1)) 1 1,.slice (some (own j 9)) 1 1]):=by kernel_rfl
theorem aMx (aid:Nat) (p:PosD) (nv:Value):a7 Tryz.prog aBs aid 1 [(0,.agg (nU p nv).toArray)]=some (.slice (some (own aid 9)) 1 1,some (.cells (nU p nv).toArray d9)):=by kernel_rfl
section
variable {ro:Ro}
set_option maxRecDepth 8000 in
set_option maxHeartbeats 2000000 in
theorem zY {lo hi many:Nat} (hlo:lo < 65536) (hhi:hi < 65536) (hmy:many < 65536) {h:T Obj} {nx:Nat} {K:KV} (hf:Fr h nx) (hK:∀ h' nx',nx≤nx'→K (.bool true) h' nx'):aN Tryz.prog ro qP [.int .u16 (lo:Int),.int .u16 (hi:Int),.int .u16 (many:Int)] h nx K:=by
  apply yM
  unfold oF
  refine aN8 ?_
  have hmod:((hi:Nat):Int) % 4095=((hi % 4095:Nat):Int):=by omega
  refine aB (cW .u16 (a:=(hi:Int)) (b:=4095) (by omega) (by omega)) ?_
  rw [hmod]
  refine aB (cH _ _ _) ?_
  rw [dJ (by omega) (by omega)]
  refine aB (cK _ _ _) ?_
  rw [dJ (by omega) (by omega)]
  refine aB (cH _ _ _) ?_
  rw [dJ (by omega) (by omega)]
  generalize hB:((hi % 4095:Nat):Int)+2=B
  have hB1:2≤B∧B≤4096:=by omega
  refine aB (cW .i64 (a:=(lo:Int)) (b:=B) (by omega) (by omega)) ?_
  have hm1:0≤(lo:Int) % B:=Int.emod_nonneg _ (by omega)
  have hm2:(lo:Int) % B < B:=Int.emod_lt_of_pos _ (by omega)
  refine aB (cK _ _ _) ?_
  rw [dJ (by omega) (by omega)]
  generalize hA:(lo:Int) % B+1=A
  have hA1:1≤A∧A≤B:=by omega
  refine aB (aCF _ _) (aE ?_)
  refine aB aHo (aB (aHm _ _) (aB (aMx _ _ _) (aE (aB (aJ3 _ _) ?_))))
  have hrg:∀ i j:Nat,nx≤i→i < j→RG ro ((h.upd i (some (.cells [Value.int .i64 0].toArray cF))).upd j (some (.cells (nU ⟨2,A,B,0,true,[]⟩ bG).toArray d9))) (.agg #[.slice (some (own i 1)) 1 1,.slice (some (own j 9)) 1 1]) (gQ 2 A B)∧Fr ((h.upd i (some (.cells [Value.int .i64 0].toArray cF))).upd j (some (.cells (nU ⟨2,A,B,0,true,[]⟩ bG).toArray d9))) (j+1):=by
    intro i j hi hj
    refine ⟨⟨_,_,rfl,?_,⟨[nU ⟨2,A,B,0,true,[]⟩ bG],?_,rfl,fun k x d hx hd=>?_⟩⟩,((hf.mono (show nx≤j+1 by omega)).upd (Nat.le_refl _) (by omega)).upd (Nat.le_refl _) (by omega)⟩
    · refine Sl.own (l:=[[.int .i64 0]]) (e:=cF) (f:=(0,0)) ?_ (by simp) (Nat.le_refl _)
      rw [T.get_upd_ne _ _ (by omega),T.get_upd_same]; rfl
    · refine Sl.own (l:=[nU ⟨2,A,B,0,true,[]⟩ bG]) (e:=d9) (f:=(0,0)) ?_ (by intro x hx; simp at hx; rw [hx]; rfl) (Nat.le_refl _)
      rw [T.get_upd_same]; simp
    · cases k with
      | succ k=>simp at hx
      | zero =>
        simp at hx
        have hd:some (⟨2,A,B,0,true,[]⟩:PosD)=some d:=hd
        cases hd
        exact ⟨bG,hx.symm,Sl.nil,show (2:Nat) < 2 ^ 256 by decide⟩
  obtain ⟨q1,q2⟩:=hrg _ _ (show nx≤nx+2+12 by omega) (show nx+2+12 < nx+2+17 by omega)
  refine aIY (q2.mono (by omega)) q1 fun h5 n5 xs hn5 hs5 hf5 hR=>?_
  obtain ⟨S,o1,hO⟩:=aPH (A:=A) (B:=B) (by omega) (by omega) (by omega) (by omega)
  have hok:=aMI (g:=gQ 2 A B) (by rw [o1])
  rw [o1] at hR hok ⊢
  generalize ofD (gQ 2 A B) S=d at hR hok hO
  refine aB (aOU _ _) (aB (aOV _ _) ?_)
  have hR:mJ ro h5 xs d:=hR
  have hok:fV d=true:=hok
  refine kR (x:=xs) x0 (by show j8.toArray.size=259; simp [kD]) rfl hR.len hR.okL (hf5.mono (by omega)) (Nat.le_refl _) fun h6 hs6 hf6 g6 _=>?_
  have hR6:=hR.sub hs6
  refine aB (cR (ro:=ro) (z:=0) (n:=259) (l:=xs) g6 hR.len) ?_
  have hc:d.c.length=256:=by obtain ⟨cv',sv',_,hc,_⟩:=id hR; exact hc
  have hC512:=(iF hok).2.1
  have hokE:=aJZ hok
  refine aIC (X0:=[]) (hf6.mono (by omega)) hR6 (fun hno=>absurd hok (by rw [hno]; decide)) (fun k hk=>by cases hk) fun _ pE psE X1 h7 n7 hn7 hf7 hs7 hX1 hE=>?_
  refine aB (aOU _ _) (aB (aOV _ _) ?_)
  (repeat (first | refine aB (by simp (disch:=first | omega | exact Int.natCast_nonneg _ | assumption) only [BB,B2,↓reduceIte,Nat.reduceLeDiff,Nat.reduceAdd,CC,aPU]<;>rfl) ?_ | refine aD ?_ | refine aE ?_ | with_reducible first | refine aG ?_ | refine aF ?_ | refine aH ?_ | refine aI ?_ | refine aK ?_ | refine aJ ?_ | refine aL ?_ | refine aC ?_))
  have hM:many % 301≤300:=by omega
  have hM2:((many:Nat):Int) % 301=((many % 301:Nat):Int):=by omega
  generalize hN:many % 301=N at hM hM2
  refine bI (fun j e h' nx'=>∃ (k:Nat) (m:MacD),k+j=N∧nx≤nx'∧e 2=.int .u16 (many:Int)∧e 7=.bool true∧e 8=.int .i64 B∧e 9=.int .i64 A∧e 12=ptr pE∧e 14=.int .i64 ((k:Int)+1)∧Fr h' nx' ∧
    MI ro h' ([]++X1) pE psE (er d) m∧MOk d m∧WLe (10*k) m.rs∧m.steps≤4*k∧aD6 B d k m∧jN m≤5*k) ?_ (n:=N)
    ⟨0,aBz d,by omega,by omega,rfl,rfl,rfl,rfl,rfl,rfl,hf7.mono (by omega),hE,aOS hok,fun r hr=>by
      obtain ⟨c9,_,rfl⟩:=List.mem_map.1 hr
      exact Nat.zero_le _,Nat.zero_le _,by unfold aD6; rw [if_pos rfl],by unfold jN aBz; rw [hO.cnt]; exact Nat.le_refl _⟩
  rintro j e h' nx' ⟨k,m,hj,hnx,e2,e7,e8,e9,e12,e14,hf',hE,hm,hw,hst,hJ,hwk⟩ Q' hq hx
  unfold pM
  rw [e2,e8,e9,e12,e14]
  refine aB (cW .u16 (a:=(many:Int)) (b:=301) (by omega) (by omega)) ?_
  rw [hM2]
  refine aB (cH _ _ _) ?_
  rw [dJ (by omega) (by omega)]
  refine aA4 (fun hk=>?_) (fun hk=>?_)
  · have hk:k < N:=by omega
    refine aG ?_
    refine rO hE (zG hm) hC512 hw (by omega) (by omega) fun n8 hn8=>?_
    refine aGX (b:=1) hE hokE (zG hm) (by omega) (hf'.mono (by omega)) hw (by omega) (by omega) fun h9 n9 hn9 hf9 hk9 hE9=>?_
    rw [aOY]
    rw [aMQ] at hE9
    obtain ⟨p1,p2,p3,p4,p5,p6⟩:=aLm (by omega) (by omega) (by omega) hO hJ
    rw [p2]
    have hm9:=aNb hok hm hc (show 1 < 256 by omega)
    have hw9:=aOe hok hm hc (show 1 < 256 by omega) hw
    have hs9:=aIe (b:=1) hok hm
    generalize jL d m 1=m9 at p1 p3 p4 p5 p6 hm9 hw9 hs9 hE9
    have hwd:((jN m9:Nat):Int) - ((jN m:Nat):Int)≤5:=p3
    have hwr:wr .i64 (((jN m9:Nat):Int) - ((jN m:Nat):Int))=((jN m9:Nat):Int) - ((jN m:Nat):Int):=dJ (by omega) (by omega)
    have hJ9:jN m9≤5*(k+1):=by omega
    by_cases hkB:((k+1:Nat):Int)≤B
    · rw [decide_eq_true hkB] at p5 ⊢
      have p6:=p6 hkB
      (repeat (first | refine aB (by simp (disch:=first | omega | exact Int.natCast_nonneg _ | assumption) only [BB,B2,↓reduceIte,Nat.reduceLeDiff,Nat.reduceAdd,CC]<;>rfl) ?_ | refine aD ?_ | refine aE ?_ | with_reducible first | refine aG ?_ | refine aF ?_ | refine aH ?_ | refine aI ?_ | refine aK ?_ | refine aJ ?_ | refine aL ?_ | refine aC ?_))
      simp only [beq_self_eq_true,Bool.not_true]
      (repeat (first | refine aB (by simp (disch:=first | omega | exact Int.natCast_nonneg _ | assumption) only [BB,B2,↓reduceIte,Nat.reduceLeDiff,Nat.reduceAdd,CC]<;>rfl) ?_ | refine aD ?_ | refine aE ?_ | with_reducible first | refine aG ?_ | refine aF ?_ | refine aH ?_ | refine aI ?_ | refine aK ?_ | refine aJ ?_ | refine aL ?_ | refine aC ?_))
      refine aBf hE9 hokE (zG hm9) (hf9.mono (by omega)) fun n10 hn10=>?_
      rw [aHV]
      have hru:oC d m9=0 ↔ A≤(k:Int)+1:=by
        rw [Bool.and_true] at p5
        constructor
        · intro h0
          rw [decide_eq_true h0] at p5
          have:=of_decide_eq_true p5.symm
          omega
        · intro h0
          rw [decide_eq_true (show A≤((k+1:Nat):Int) by omega)] at p5
          exact of_decide_eq_true p5
      have nxt:∀ (e':Env) h10 n11,e' 2=.int .u16 (many:Int)→e' 7=.bool true→e' 8=.int .i64 B→e' 9=.int .i64 A→e' 12=ptr pE→e' 14=.int .i64 ((k:Int)+1+1)→n9≤n11→Fr h10 n11→Sub h9 h10→Q' .normal e' h10 n11:=by
        intro e' h10 n11 f2 f7 f8 f9 f12 f14 hn hf10 hs10
        exact hq (j - 1) _ _ _ _ (by omega) ⟨k+1,m9,by omega,by omega,f2,f7,f8,f9,f12,by rw [f14]; congr 1,hf10,hE9.subX kB hs10,hm9,hw9.mono (by omega),by omega,p1,hJ9⟩ (Sub.refl _)
      by_cases hA9:A≤(k:Int)+1
      · rw [hru.2 hA9]
        (repeat (first | refine aB (by simp (disch:=first | omega | exact Int.natCast_nonneg _ | assumption) only [BB,B2,↓reduceIte,Nat.reduceLeDiff,Nat.reduceAdd,CC]<;>rfl) ?_ | refine aD ?_ | refine aE ?_ | with_reducible first | refine aG ?_ | refine aF ?_ | refine aH ?_ | refine aI ?_ | refine aK ?_ | refine aJ ?_ | refine aL ?_ | refine aC ?_))
        simp only [beq_self_eq_true,Bool.not_true,Bool.not_false]
        (repeat (first | refine aB (by simp (disch:=first | omega | exact Int.natCast_nonneg _ | assumption) only [BB,B2,↓reduceIte,Nat.reduceLeDiff,Nat.reduceAdd,CC]<;>rfl) ?_ | refine aD ?_ | refine aE ?_ | with_reducible first | refine aG ?_ | refine aF ?_ | refine aH ?_ | refine aI ?_ | refine aK ?_ | refine aJ ?_ | refine aL ?_ | refine aC ?_))
        refine rO hE9 (zG hm9) hC512 hw9 (by omega) (by omega) fun n12 hn12=>?_
        (repeat (first | refine aB (by simp (disch:=first | omega | exact Int.natCast_nonneg _ | assumption) only [BB,B2,↓reduceIte,Nat.reduceLeDiff,Nat.reduceAdd,CC]<;>rfl) ?_ | refine aD ?_ | refine aE ?_ | with_reducible first | refine aG ?_ | refine aF ?_ | refine aH ?_ | refine aI ?_ | refine aK ?_ | refine aJ ?_ | refine aL ?_ | refine aC ?_))
        simp only [beq_self_eq_true,Bool.not_true,Bool.not_false]
        (repeat (first | refine aB (by simp (disch:=first | omega | exact Int.natCast_nonneg _ | assumption) only [BB,B2,↓reduceIte,Nat.reduceLeDiff,Nat.reduceAdd,CC]<;>rfl) ?_ | refine aD ?_ | refine aE ?_ | with_reducible first | refine aG ?_ | refine aF ?_ | refine aH ?_ | refine aI ?_ | refine aK ?_ | refine aJ ?_ | refine aL ?_ | refine aC ?_))
        refine aAW hE9 hC512 (hf9.mono (by omega)) fun r h10 n11 hn11 hf10 hs10 hr1=>?_
        rw [aIp,p6] at hr1
        (repeat (first | refine aB (by simp (disch:=first | omega | exact Int.natCast_nonneg _ | assumption) only [BB,B2,↓reduceIte,Nat.reduceLeDiff,Nat.reduceAdd,CC]<;>rfl) ?_ | refine aD ?_ | refine aE ?_ | with_reducible first | refine aG ?_ | refine aF ?_ | refine aH ?_ | refine aI ?_ | refine aK ?_ | refine aJ ?_ | refine aL ?_ | refine aC ?_))
        refine aB (aCF _ _) (aE ?_)
        have hs11:∀ i,n11≤i→Sub h10 (h10.upd i (some (.cells [Value.int .i64 ((k:Int)+1)].toArray cF))):=fun i hi=>(Sub.refl h10).new hf10 hi
        have hf11:∀ i n,n11≤i→i < n→Fr (h10.upd i (some (.cells [Value.int .i64 ((k:Int)+1)].toArray cF))) n:=fun i n hi hin=>(hf10.mono (show n11≤n by omega)).upd (Nat.le_refl _) hin
        (repeat (first | refine aB (by simp (disch:=first | omega | exact Int.natCast_nonneg _ | assumption) only [BB,B2,↓reduceIte,Nat.reduceLeDiff,Nat.reduceAdd,CC]<;>rfl) ?_ | refine aD ?_ | refine aE ?_ | with_reducible first | refine aG ?_ | refine aF ?_ | refine aH ?_ | refine aI ?_ | refine aK ?_ | refine aJ ?_ | refine aL ?_ | refine aC ?_))
        refine aA3 (l:=[k+1]) (m:=[k+1]) (by simp) (hr1.sub (hs11 _ (by omega))) ?_ fun n15 hn15=>?_
        · refine Sl.own (l:=[[.int .i64 ((k+1:Nat):Int)]]) (e:=cF) (f:=(0,0)) ?_ (by simp) (Nat.le_refl _)
          rw [T.get_upd_same,show ((k+1:Nat):Int)=(k:Int)+1 by omega]; rfl
        · rw [decide_eq_true rfl]
          (repeat (first | refine aB (by simp (disch:=first | omega | exact Int.natCast_nonneg _ | assumption) only [BB,B2,↓reduceIte,Nat.reduceLeDiff,Nat.reduceAdd,CC]<;>rfl) ?_ | refine aD ?_ | refine aE ?_ | with_reducible first | refine aG ?_ | refine aF ?_ | refine aH ?_ | refine aI ?_ | refine aK ?_ | refine aJ ?_ | refine aL ?_ | refine aC ?_))
          exact nxt _ _ _ e2 e7 e8 e9 e12 rfl (by omega) (hf11 _ _ (by omega) (by omega)) (hs10.trans (hs11 _ (by omega)))
      · have hrn:oC d m9≠0:=fun h0=>hA9 (hru.1 h0)
        generalize oC d m9=R at hrn
        (repeat (first | refine aB (by simp (disch:=first | omega | exact Int.natCast_nonneg _ | assumption) only [BB,B2,↓reduceIte,Nat.reduceLeDiff,Nat.reduceAdd,CC]<;>rfl) ?_ | refine aD ?_ | refine aE ?_ | with_reducible first | refine aG ?_ | refine aF ?_ | refine aH ?_ | refine aI ?_ | refine aK ?_ | refine aJ ?_ | refine aL ?_ | refine aC ?_))
        simp only [beq_self_eq_true,Bool.not_true,Bool.not_false]
        (repeat (first | refine aB (by simp (disch:=first | omega | exact Int.natCast_nonneg _ | assumption) only [BB,B2,↓reduceIte,Nat.reduceLeDiff,Nat.reduceAdd,CC]<;>rfl) ?_ | refine aD ?_ | refine aE ?_ | with_reducible first | refine aG ?_ | refine aF ?_ | refine aH ?_ | refine aI ?_ | refine aK ?_ | refine aJ ?_ | refine aL ?_ | refine aC ?_))
        refine rO hE9 (zG hm9) hC512 hw9 (by omega) (by omega) fun n12 hn12=>?_
        (repeat (first | refine aB (by simp (disch:=first | omega | exact Int.natCast_nonneg _ | assumption) only [BB,B2,↓reduceIte,Nat.reduceLeDiff,Nat.reduceAdd,CC]<;>rfl) ?_ | refine aD ?_ | refine aE ?_ | with_reducible first | refine aG ?_ | refine aF ?_ | refine aH ?_ | refine aI ?_ | refine aK ?_ | refine aJ ?_ | refine aL ?_ | refine aC ?_))
        simp only [beq_self_eq_true,Bool.not_true,Bool.not_false]
        (repeat (first | refine aB (by simp (disch:=first | omega | exact Int.natCast_nonneg _ | assumption) only [BB,B2,↓reduceIte,Nat.reduceLeDiff,Nat.reduceAdd,CC]<;>rfl) ?_ | refine aD ?_ | refine aE ?_ | with_reducible first | refine aG ?_ | refine aF ?_ | refine aH ?_ | refine aI ?_ | refine aK ?_ | refine aJ ?_ | refine aL ?_ | refine aC ?_))
        refine aAW hE9 hC512 (hf9.mono (by omega)) fun r h10 n11 hn11 hf10 hs10 hr1=>?_
        rw [aIp,p6] at hr1
        (repeat (first | refine aB (by simp (disch:=first | omega | exact Int.natCast_nonneg _ | assumption) only [BB,B2,↓reduceIte,Nat.reduceLeDiff,Nat.reduceAdd,CC]<;>rfl) ?_ | refine aD ?_ | refine aE ?_ | with_reducible first | refine aG ?_ | refine aF ?_ | refine aH ?_ | refine aI ?_ | refine aK ?_ | refine aJ ?_ | refine aL ?_ | refine aC ?_))
        refine aB (aCF _ _) (aE ?_)
        have hs11:∀ i,n11≤i→Sub h10 (h10.upd i (some (.cells [Value.int .i64 ((k:Int)+1)].toArray cF))):=fun i hi=>(Sub.refl h10).new hf10 hi
        have hf11:∀ i n,n11≤i→i < n→Fr (h10.upd i (some (.cells [Value.int .i64 ((k:Int)+1)].toArray cF))) n:=fun i n hi hin=>(hf10.mono (show n11≤n by omega)).upd (Nat.le_refl _) hin
        (repeat (first | refine aB (by simp (disch:=first | omega | exact Int.natCast_nonneg _ | assumption) only [BB,B2,↓reduceIte,Nat.reduceLeDiff,Nat.reduceAdd,CC]<;>rfl) ?_ | refine aD ?_ | refine aE ?_ | with_reducible first | refine aG ?_ | refine aF ?_ | refine aH ?_ | refine aI ?_ | refine aK ?_ | refine aJ ?_ | refine aL ?_ | refine aC ?_))
        refine aA3 (l:=[k+1]) (m:=[k+1]) (by simp) (hr1.sub (hs11 _ (by omega))) ?_ fun n15 hn15=>?_
        · refine Sl.own (l:=[[.int .i64 ((k+1:Nat):Int)]]) (e:=cF) (f:=(0,0)) ?_ (by simp) (Nat.le_refl _)
          rw [T.get_upd_same,show ((k+1:Nat):Int)=(k:Int)+1 by omega]; rfl
        · rw [decide_eq_true rfl]
          (repeat (first | refine aB (by simp (disch:=first | omega | exact Int.natCast_nonneg _ | assumption) only [BB,B2,↓reduceIte,Nat.reduceLeDiff,Nat.reduceAdd,CC]<;>rfl) ?_ | refine aD ?_ | refine aE ?_ | with_reducible first | refine aG ?_ | refine aF ?_ | refine aH ?_ | refine aI ?_ | refine aK ?_ | refine aJ ?_ | refine aL ?_ | refine aC ?_))
          exact nxt _ _ _ e2 e7 e8 e9 e12 rfl (by omega) (hf11 _ _ (by omega) (by omega)) (hs10.trans (hs11 _ (by omega)))
    · rw [decide_eq_false hkB] at p5 ⊢
      rw [Bool.and_false] at p5
      have hrn:oC d m9≠0:=of_decide_eq_false p5
      (repeat (first | refine aB (by simp (disch:=first | omega | exact Int.natCast_nonneg _ | assumption) only [BB,B2,↓reduceIte,Nat.reduceLeDiff,Nat.reduceAdd,CC]<;>rfl) ?_ | refine aD ?_ | refine aE ?_ | with_reducible first | refine aG ?_ | refine aF ?_ | refine aH ?_ | refine aI ?_ | refine aK ?_ | refine aJ ?_ | refine aL ?_ | refine aC ?_))
      simp only [beq_self_eq_true,Bool.not_true]
      (repeat (first | refine aB (by simp (disch:=first | omega | exact Int.natCast_nonneg _ | assumption) only [BB,B2,↓reduceIte,Nat.reduceLeDiff,Nat.reduceAdd,CC]<;>rfl) ?_ | refine aD ?_ | refine aE ?_ | with_reducible first | refine aG ?_ | refine aF ?_ | refine aH ?_ | refine aI ?_ | refine aK ?_ | refine aJ ?_ | refine aL ?_ | refine aC ?_))
      refine aBf hE9 hokE (zG hm9) (hf9.mono (by omega)) fun n10 hn10=>?_
      rw [aHV]
      generalize oC d m9=R at hrn
      have nxt:∀ (e':Env) h10 n11,e' 2=.int .u16 (many:Int)→e' 7=.bool true→e' 8=.int .i64 B→e' 9=.int .i64 A→e' 12=ptr pE→e' 14=.int .i64 ((k:Int)+1+1)→n9≤n11→Fr h10 n11→Sub h9 h10→Q' .normal e' h10 n11:=by
        intro e' h10 n11 f2 f7 f8 f9 f12 f14 hn hf10 hs10
        exact hq (j - 1) _ _ _ _ (by omega) ⟨k+1,m9,by omega,by omega,f2,f7,f8,f9,f12,by rw [f14]; congr 1,hf10,hE9.subX kB hs10,hm9,hw9.mono (by omega),by omega,p1,hJ9⟩ (Sub.refl _)
      have hA9:A≤(k:Int)+1:=by omega
      (repeat (first | refine aB (by simp (disch:=first | omega | exact Int.natCast_nonneg _ | assumption) only [BB,B2,↓reduceIte,Nat.reduceLeDiff,Nat.reduceAdd,CC]<;>rfl) ?_ | refine aD ?_ | refine aE ?_ | with_reducible first | refine aG ?_ | refine aF ?_ | refine aH ?_ | refine aI ?_ | refine aK ?_ | refine aJ ?_ | refine aL ?_ | refine aC ?_))
      simp only [beq_self_eq_true,Bool.not_true]
      (repeat (first | refine aB (by simp (disch:=first | omega | exact Int.natCast_nonneg _ | assumption) only [BB,B2,↓reduceIte,Nat.reduceLeDiff,Nat.reduceAdd,CC]<;>rfl) ?_ | refine aD ?_ | refine aE ?_ | with_reducible first | refine aG ?_ | refine aF ?_ | refine aH ?_ | refine aI ?_ | refine aK ?_ | refine aJ ?_ | refine aL ?_ | refine aC ?_))
      refine rO hE9 (zG hm9) hC512 hw9 (by omega) (by omega) fun n12 hn12=>?_
      (repeat (first | refine aB (by simp (disch:=first | omega | exact Int.natCast_nonneg _ | assumption) only [BB,B2,↓reduceIte,Nat.reduceLeDiff,Nat.reduceAdd,CC]<;>rfl) ?_ | refine aD ?_ | refine aE ?_ | with_reducible first | refine aG ?_ | refine aF ?_ | refine aH ?_ | refine aI ?_ | refine aK ?_ | refine aJ ?_ | refine aL ?_ | refine aC ?_))
      first
      | simp only [beq_self_eq_true,Bool.not_true,Bool.not_false]
      | skip
      (repeat (first | refine aB (by simp (disch:=first | omega | exact Int.natCast_nonneg _ | assumption) only [BB,B2,↓reduceIte,Nat.reduceLeDiff,Nat.reduceAdd,CC]<;>rfl) ?_ | refine aD ?_ | refine aE ?_ | with_reducible first | refine aG ?_ | refine aF ?_ | refine aH ?_ | refine aI ?_ | refine aK ?_ | refine aJ ?_ | refine aL ?_ | refine aC ?_))
      exact nxt _ _ _ e2 e7 e8 e9 e12 rfl (by omega) (hf9.mono (by omega)) (Sub.refl _)
  · (repeat (first | refine aB (by simp (disch:=first | omega | exact Int.natCast_nonneg _ | assumption) only [BB,B2,↓reduceIte,Nat.reduceLeDiff,Nat.reduceAdd,CC]<;>rfl) ?_ | refine aD ?_ | refine aE ?_ | with_reducible first | refine aG ?_ | refine aF ?_ | refine aH ?_ | refine aI ?_ | refine aK ?_ | refine aJ ?_ | refine aL ?_ | refine aC ?_))
    refine hx _ _ _ _ (fun e=>by cases e) (fG (dR ?_))
    unfold lN
    refine ⟨h',Sub.refl _,?_⟩
    show K (e 7) h' _
    rw [e7]
    exact hK _ _ (by omega)
end
end V
end Go.Proofs.YtjndkdmkecpllaaGreat
set_option linter.unusedVariables false
set_option linter.unusedSimpArgs false
set_option maxRecDepth 16000
namespace Go.Proofs.YtjndkdmkecpllaaGreat
namespace V
open Go.ChangeShapes Go.WideShapes Go.ChangeAt Go.RowKit
theorem aAV (os:Os) (started:os.Started) (H:Type) (enc:TypeId × Value→H) :
    ReturnsInHanded {} Tryz.checked os 10 .any (Rows.execCountsSpec.pre6 enc Tryz.prog Tryz.f10 Rows.execCountsRow.domain false) (Rows.execCountsSpec.post enc Tryz.prog Tryz.f10 false true false false):=by
  refine returnsInHanded_of_change_sized (C:=Tryz.checked) aPG started (by kernel_rfl) (by kernel_rfl)
    (ChangeSpec.witness6 (enc:=enc) (C:=Tryz.checked) false ⟨#[],#[.int .u16 0,.int .u16 0,.int .u16 0],[]⟩ 8 (by kernel_rfl) (by kernel_rfl) (by kernel_rfl) (by kernel_rfl)) ?_
  intro W base args ds gs before hval hW _ _ _
  have hW':=hW
  obtain ⟨p,q,hA0,hV,rfl,hfz,hnd⟩:=hW
  have hA:DataW.TrodAll enc Tryz.prog W 0 (fun _=>true) true [nT,nT,nT] args.toList ds p:=hA0
  obtain ⟨v0,v1,v2,d0,d1,d2,p0,p1,p2,rfl,rfl,rfl,h0,h1,h2⟩:=trodAll_three hA
  obtain ⟨rfl,rfl⟩:=trodVars_none hV
  obtain ⟨b0,hb0,a0⟩:=aCr h0 (hval 0 nT v0 rfl rfl)
  obtain ⟨b1,hb1,a1⟩:=aCr h1 (hval 1 nT v1 rfl rfl)
  obtain ⟨b2,hb2,a2⟩:=aCr h2 (hval 2 nT v2 rfl rfl)
  have hsay:aOo Tryz.prog W 10 [.int .u16 (b0:Int),.int .u16 (b1:Int),.int .u16 (b2:Int)]:=zY hb0 hb1 hb2 Fr.e fun _ _ _=>rfl
  refine (aI9 okZ okN okM (args:=#[v0,v1,v2]) (.cons a0 (.cons a1 (.cons a2 .nil))) hsay).mono fun e W' ⟨he,hb⟩=>?_
  subst he
  exact ⟨_,rfl,aLP (tb:=aD4) aOW (by kernel_rfl) (by kernel_rfl) (by kernel_rfl) rfl hW' hb rfl⟩
end V
theorem execCounts_holds:Rows.ExecCountsSaid :=
  OpenClaim.holds_of_wide 10 Tryz.f10 rfl rfl rfl rfl rfl rfl rfl ⟨rfl,rfl,rfl,rfl,rfl⟩ rfl rfl rfl rfl rfl (by kernel_rfl) (by kernel_rfl) (by kernel_rfl)
    (of_decide_eq_true (by kernel_rfl)) (by unfold Func.isWrapper; rw [if_neg (of_decide_eq_false (by kernel_rfl))]; exact ⟨rfl,rfl⟩)
    (fun os started H enc _=>V.aAV os started H enc)
end Go.Proofs.YtjndkdmkecpllaaGreat