/- Texts laid one behind the other: ZA, ZC, GC.
   No condition. -/
import Derived.KernelRfl
import Derived.Test.YtjndkdmkecpllaaGreatQC5
set_option linter.unusedVariables false
set_option linter.unusedSimpArgs false
set_option linter.unusedVariables false
set_option linter.unusedSimpArgs false
namespace Go.Proofs.YtjndkdmkecpllaaGreat
namespace V
attribute [local irreducible] aA ifP aZ d4 eG exP d8
theorem aN6 {m n:Nat} (hm:m < 2 ^ 256) (hn:n < 2 ^ 256) (h:∀ b,b < 256→m.testBit b=n.testBit b):m=n:=by
  apply Nat.eq_of_testBit_eq
  intro j
  by_cases hj:j < 256
  · exact h j hj
  · rw [Nat.testBit_lt_two_pow (Nat.lt_of_lt_of_le hm (Nat.pow_le_pow_right (by decide) (by omega))),Nat.testBit_lt_two_pow (Nat.lt_of_lt_of_le hn (Nat.pow_le_pow_right (by decide) (by omega)))]
theorem aMZ {m n:Nat} (hm:m < 2 ^ 256) (hn:n < 2 ^ 256) (h:∀ i,i < 4→jG m i=jG n i):m=n:=by
  refine aN6 hm hn fun b hb=>?_
  have h1:=jF m (b / 64) (b % 64)
  have h2:=jF n (b / 64) (b % 64)
  rw [h (b / 64) (by omega),h2,Nat.div_add_mod] at h1
  have h3:b % 64 < 64:=Nat.mod_lt _ (by decide)
  simpa [h3] using h1.symm
section
variable {α β:Type} [DecidableEq α] [DecidableEq β]
theorem aFI {l:List α} {p:α} (h:p∈l):ix l p < (dd l).length:=List.idxOf_lt_length_iff.2 (aCn.2 h)
theorem aIz {l:List α} {p:α} (h:p∈l):(dd l)[ix l p]?=some p:=by
  have h1:=aFI h
  unfold ix pos at h1 ⊢
  rw [List.getElem?_eq_getElem h1,List.getElem_idxOf]
theorem aMq {l:List α} {p q:α} (hp:p∈l) (hq:q∈l) (h:ix l p=ix l q):p=q:=by
  have h1:=aIz hp
  rw [h,aIz hq] at h1
  exact (Option.some.inj h1).symm
theorem aIM {s:List α} {p:α} (h:s.Nodup):(sA s p).Nodup:=by
  unfold sA
  by_cases hp:p∈s
  · rw [if_pos hp]; exact h
  · rw [if_neg hp]
    rw [List.nodup_append]
    refine ⟨h,by simp,?_⟩
    intro a ha b hb e
    simp at hb
    subst hb; subst e
    exact hp ha
theorem aL9 (l:List α):(dd l).Nodup:=by
  have key:∀ (l s:List α),s.Nodup→(l.foldl sA s).Nodup:=by
    intro l
    induction l with
    | nil=>intro s h; exact h
    | cons p l ih=>intro s h; exact ih _ (aIM h)
  exact key l [] (by simp)
end
theorem aL2 {b:Nat}:b∈bs ↔ b < 256:=by unfold bs; exact List.mem_range
theorem aFh {l:List Nat} {b:Nat} (hb:b < 256):sig l b∈gB l:=List.mem_map_of_mem (aL2.2 hb)
theorem aFO (l:List Nat):many l≤256:=by have:=aEQ (gB l); rw [kX] at this; exact this
theorem aKn {l:List Nat} {b:Nat} (hb:b < 256):ix (gB l) (sig l b) < many l:=aFI (aFh hb)
def aDn (many:Int) (p:PosD):Bool:=decide (p.s≠0)&&(decide (1≤p.lo)&&(decide (p.lo≤p.hi)&&(decide (p.hi≤4096)&&(decide (0≤p.rule)&&(decide (p.rule < 512)&&rz (-1) many p.next)))))
def j0 (g:GlD):Bool:=decide (g.p.length≤512)&&(rz (-1) g.p.length g.first&&g.p.all (aDn g.p.length))
theorem aFD {m n:Nat} (hm:m < 2 ^ 256) (hn:n < 2 ^ 256):dG [1,1,1,1] (gK m) (gK n)=some (decide (m=n)):=by
  have h:(gK m=gK n) ↔ m=n:=by
    constructor
    · intro h
      refine aMZ hm hn fun i hi=>?_
      have h1:=aAn (m:=m) hi
      rw [h,aAn hi] at h1
      have:=Option.some.inj h1
      simp only [Value.int.injEq,true_and] at this
      omega
    · rintro rfl; rfl
  have h2:dG [1,1,1,1] (gK m) (gK n)=some (decide (((jG m 0:Nat):Int)=(jG n 0:Nat))&&(decide (((jG m 1:Nat):Int)=(jG n 1:Nat))&&(decide (((jG m 2:Nat):Int)=(jG n 2:Nat))&&(decide (((jG m 3:Nat):Int)=(jG n 3:Nat))&&true)))):=rfl
  rw [h2]
  congr 1
  by_cases e:m=n
  · subst e; simp
  · rw [decide_eq_false e]
    rw [← h] at e
    simp only [gK,List.cons.injEq,Value.int.injEq,true_and,and_true] at e
    simp only [Bool.and_true,← Bool.decide_and]
    exact decide_eq_false e
theorem aKs {m:Nat} (hm:m < 2 ^ 256):aHe [1,1,1,1] .eql (.agg (gK m).toArray) (pX 0)=some (.bool (decide (m=0))):=by
  have e2:pX 0=.agg (gK 0).toArray:=rfl
  rw [e2]
  unfold aHe
  simp only [tl,aFD hm (show (0:Nat) < 2 ^ 256 by decide),Option.bind]
theorem aIB {m:Nat} (hm:m < 2 ^ 256) {K:Value→Prop} (h1:m=0→K (.bool true)) (h2:m≠0→K (.bool false)):aA (aHe [1,1,1,1] .eql (.agg (gK m).toArray) (pX 0)) K:=by
  rw [aKs hm]
  by_cases h:m=0
  · rw [decide_eq_true h]; exact aB rfl (h1 h)
  · rw [decide_eq_false h]; exact aB rfl (h2 h)
theorem aKL:dL Tryz.prog 20 bN=some [1,1,1,1]:=by kernel_rfl
theorem aHn:dF Tryz.prog bN []=some (pX 0):=by kernel_rfl
theorem aJI {p:PosD} {nv:Value} (h:bT nv=true):(nU p nv).all bT=true:=by
  have:(nU p nv).all bT=(bT nv&&true):=rfl
  rw [this,h]; rfl
theorem aKN (p:PosD) (nv:Value):((nU p nv).drop 0).take 4=gK p.s:=rfl
set_option maxRecDepth 4000 in
theorem zC {ro:Ro} {v:Value} {l:List Int} {many:Int} (hm:many≤1000000) {h:T Obj} {nx:Nat} {K:KV} (hv:ZI ro h v l) (hK:∀ nx',nx≤nx'→K (.bool (rz (-1) many l)) h nx'):aN Tryz.prog ro oN [v,.int .i64 many] h nx K:=by
  apply aDH
  unfold xC
  generalize hR:rz (-1) many l=R at hK
  refine bI (fun j e h' nx'=>∃ (k:Nat) (last:Int),k+j=l.length∧nx≤nx'∧h'=h∧e 0=v∧e 1=.int .i64 many∧e 5=.int .i64 k∧(k:Int)≤last+1∧last≤1000000∧(k=0→last=-1)∧(∀ q,q+1=k→l[q]?=some last)∧rz last many (l.drop k)=R) ?_ (n:=l.length) ⟨0,-1,by omega,by omega,rfl,rfl,rfl,rfl,by omega,by omega,fun _=>rfl,fun q hq=>by omega,hR⟩
  rintro j e h' nx' ⟨k,last,hj,hnx,rfl,e0,e1,e5,hk1,hk2,hk0,hkp,hr⟩ Q' hq hx
  unfold xE
  rw [e0,e1,e5]
  refine aB hv.len ?_
  refine dO (fun hk=>?_) (fun hk=>?_)
  · have hk:k < l.length:=by omega
    have hxk:l[k]?=some l[k]:=List.getElem?_eq_getElem hk
    rw [eL hk,aFg] at hr
    (repeat (first | refine aB (by simp (disch:=first | omega | exact Int.natCast_nonneg _ | assumption) only [BB,B2,↓reduceIte,Nat.reduceLeDiff,Nat.reduceAdd,CC]<;>rfl) ?_ | refine aD ?_ | refine aE ?_ | with_reducible first | refine aG ?_ | refine aF ?_ | refine aH ?_ | refine aI ?_ | refine aK ?_ | refine aJ ?_ | refine aL ?_ | refine aC ?_))
    refine aB (hv.ix _ hk) (aB (hv.load hk) ?_)
    generalize l[k]=x at hr hxk
    have hfin:∀ (e':Env) n,e' 4=.bool false→(¬ last < x∨¬ x < many)→nx≤n→Q' .ret e' h' n:=fun e' n h4 hc hn=>by
      refine hx _ _ _ _ (fun e=>by cases e) (mM ?_)
      rw [h4]
      refine ⟨_,Sub.refl _,kb hK ?_ hn⟩
      rw [← hr]
      rcases hc with hc | hc
      · rw [decide_eq_false hc]; rfl
      · rw [decide_eq_false hc]; simp
    have hok:∀ (e':Env) n,e' 0=v→e' 1=.int .i64 many→e' 5=.int .i64 ((k:Int)+1)→last < x→x < many→nx≤n→Q' .normal e' h' n:=fun e' n g0 g1 g5 hc1 hc2 hn=>by
      refine hq (j - 1) _ _ _ _ (by omega) ⟨k+1,x,by omega,hn,rfl,g0,g1,g5,by omega,by omega,fun h=>by omega,fun q hq=>?_,?_⟩ (Sub.refl _)
      · have:q=k:=by omega
        subst this; exact hxk
      · rw [← hr,decide_eq_true hc1,decide_eq_true hc2]; rfl
    (first | refine dO (fun hb=>?_) (fun hb=>?_) | refine aA4 (fun hb=>?_) (fun hb=>?_) | refine nX (fun hb=>?_) (fun hb=>?_) | refine pL (fun hb=>?_) (fun hb=>?_) | refine nB (fun hb=>?_) (fun hb=>?_) | refine tH (fun hb=>?_) (fun hb=>?_))
    · (repeat (first | refine aB (by simp (disch:=first | omega | exact Int.natCast_nonneg _ | assumption) only [BB,B2,↓reduceIte,Nat.reduceLeDiff,Nat.reduceAdd,CC]<;>rfl) ?_ | refine aD ?_ | refine aE ?_ | with_reducible first | refine aG ?_ | refine aF ?_ | refine aH ?_ | refine aI ?_ | refine aK ?_ | refine aJ ?_ | refine aL ?_ | refine aC ?_))
      exact hfin _ _ rfl (.inl (by omega)) (by omega)
    · (repeat (first | refine aB (by simp (disch:=first | omega | exact Int.natCast_nonneg _ | assumption) only [BB,B2,↓reduceIte,Nat.reduceLeDiff,Nat.reduceAdd,CC]<;>rfl) ?_ | refine aD ?_ | refine aE ?_ | with_reducible first | refine aG ?_ | refine aF ?_ | refine aH ?_ | refine aI ?_ | refine aK ?_ | refine aJ ?_ | refine aL ?_ | refine aC ?_))
      refine aB (hv.ix _ hk) ?_
      (repeat (first | refine aB (by simp (disch:=first | omega | exact Int.natCast_nonneg _ | assumption) only [BB,B2,↓reduceIte,Nat.reduceLeDiff,Nat.reduceAdd,CC]<;>rfl) ?_ | refine aD ?_ | refine aE ?_ | with_reducible first | refine aG ?_ | refine aF ?_ | refine aH ?_ | refine aI ?_ | refine aK ?_ | refine aJ ?_ | refine aL ?_ | refine aC ?_))
      refine aB (hv.load' hxk) ?_
      (repeat (first | refine aB (by simp (disch:=first | omega | exact Int.natCast_nonneg _ | assumption) only [BB,B2,↓reduceIte,Nat.reduceLeDiff,Nat.reduceAdd,CC]<;>rfl) ?_ | refine aD ?_ | refine aE ?_ | with_reducible first | refine aG ?_ | refine aF ?_ | refine aH ?_ | refine aI ?_ | refine aK ?_ | refine aJ ?_ | refine aL ?_ | refine aC ?_))
      (first | refine dO (fun hb=>?_) (fun hb=>?_) | refine aA4 (fun hb=>?_) (fun hb=>?_) | refine nX (fun hb=>?_) (fun hb=>?_) | refine pL (fun hb=>?_) (fun hb=>?_) | refine nB (fun hb=>?_) (fun hb=>?_) | refine tH (fun hb=>?_) (fun hb=>?_))
      · (repeat (first | refine aB (by simp (disch:=first | omega | exact Int.natCast_nonneg _ | assumption) only [BB,B2,↓reduceIte,Nat.reduceLeDiff,Nat.reduceAdd,CC]<;>rfl) ?_ | refine aD ?_ | refine aE ?_ | with_reducible first | refine aG ?_ | refine aF ?_ | refine aH ?_ | refine aI ?_ | refine aK ?_ | refine aJ ?_ | refine aL ?_ | refine aC ?_))
        exact hfin _ _ rfl (.inr (by omega)) (by omega)
      · (repeat (first | refine aB (by simp (disch:=first | omega | exact Int.natCast_nonneg _ | assumption) only [BB,B2,↓reduceIte,Nat.reduceLeDiff,Nat.reduceAdd,CC]<;>rfl) ?_ | refine aD ?_ | refine aE ?_ | with_reducible first | refine aG ?_ | refine aF ?_ | refine aH ?_ | refine aI ?_ | refine aK ?_ | refine aJ ?_ | refine aL ?_ | refine aC ?_))
        (first | refine dO (fun hb=>?_) (fun hb=>?_) | refine aA4 (fun hb=>?_) (fun hb=>?_) | refine nX (fun hb=>?_) (fun hb=>?_) | refine pL (fun hb=>?_) (fun hb=>?_) | refine nB (fun hb=>?_) (fun hb=>?_) | refine tH (fun hb=>?_) (fun hb=>?_))
        · have h2:=hkp (k - 1) (by omega)
          have h3:=(List.getElem?_eq_some_iff.1 h2).1
          have h4:((k:Int) - 1).toNat=k - 1:=by omega
          (repeat (first | refine aB (by simp (disch:=first | omega | exact Int.natCast_nonneg _ | assumption) only [BB,B2,↓reduceIte,Nat.reduceLeDiff,Nat.reduceAdd,CC]<;>rfl) ?_ | refine aD ?_ | refine aE ?_ | with_reducible first | refine aG ?_ | refine aF ?_ | refine aH ?_ | refine aI ?_ | refine aK ?_ | refine aJ ?_ | refine aL ?_ | refine aC ?_))
          refine aB (hv.ixI _ (by omega) (by omega)) ?_
          rw [h4]
          (repeat (first | refine aB (by simp (disch:=first | omega | exact Int.natCast_nonneg _ | assumption) only [BB,B2,↓reduceIte,Nat.reduceLeDiff,Nat.reduceAdd,CC]<;>rfl) ?_ | refine aD ?_ | refine aE ?_ | with_reducible first | refine aG ?_ | refine aF ?_ | refine aH ?_ | refine aI ?_ | refine aK ?_ | refine aJ ?_ | refine aL ?_ | refine aC ?_))
          refine aB (hv.load' h2) ?_
          (repeat (first | refine aB (by simp (disch:=first | omega | exact Int.natCast_nonneg _ | assumption) only [BB,B2,↓reduceIte,Nat.reduceLeDiff,Nat.reduceAdd,CC]<;>rfl) ?_ | refine aD ?_ | refine aE ?_ | with_reducible first | refine aG ?_ | refine aF ?_ | refine aH ?_ | refine aI ?_ | refine aK ?_ | refine aJ ?_ | refine aL ?_ | refine aC ?_))
          refine aB (hv.ix _ hk) ?_
          (repeat (first | refine aB (by simp (disch:=first | omega | exact Int.natCast_nonneg _ | assumption) only [BB,B2,↓reduceIte,Nat.reduceLeDiff,Nat.reduceAdd,CC]<;>rfl) ?_ | refine aD ?_ | refine aE ?_ | with_reducible first | refine aG ?_ | refine aF ?_ | refine aH ?_ | refine aI ?_ | refine aK ?_ | refine aJ ?_ | refine aL ?_ | refine aC ?_))
          refine aB (hv.load' hxk) ?_
          (repeat (first | refine aB (by simp (disch:=first | omega | exact Int.natCast_nonneg _ | assumption) only [BB,B2,↓reduceIte,Nat.reduceLeDiff,Nat.reduceAdd,CC]<;>rfl) ?_ | refine aD ?_ | refine aE ?_ | with_reducible first | refine aG ?_ | refine aF ?_ | refine aH ?_ | refine aI ?_ | refine aK ?_ | refine aJ ?_ | refine aL ?_ | refine aC ?_))
          (first | refine dO (fun hb=>?_) (fun hb=>?_) | refine aA4 (fun hb=>?_) (fun hb=>?_) | refine nX (fun hb=>?_) (fun hb=>?_) | refine pL (fun hb=>?_) (fun hb=>?_) | refine nB (fun hb=>?_) (fun hb=>?_) | refine tH (fun hb=>?_) (fun hb=>?_))
          · (repeat (first | refine aB (by simp (disch:=first | omega | exact Int.natCast_nonneg _ | assumption) only [BB,B2,↓reduceIte,Nat.reduceLeDiff,Nat.reduceAdd,CC]<;>rfl) ?_ | refine aD ?_ | refine aE ?_ | with_reducible first | refine aG ?_ | refine aF ?_ | refine aH ?_ | refine aI ?_ | refine aK ?_ | refine aJ ?_ | refine aL ?_ | refine aC ?_))
            exact hfin _ _ rfl (.inl (by omega)) (by omega)
          · (repeat (first | refine aB (by simp (disch:=first | omega | exact Int.natCast_nonneg _ | assumption) only [BB,B2,↓reduceIte,Nat.reduceLeDiff,Nat.reduceAdd,CC]<;>rfl) ?_ | refine aD ?_ | refine aE ?_ | with_reducible first | refine aG ?_ | refine aF ?_ | refine aH ?_ | refine aI ?_ | refine aK ?_ | refine aJ ?_ | refine aL ?_ | refine aC ?_))
            exact hok _ _ e0 e1 rfl (by omega) (by omega) (by omega)
        · (repeat (first | refine aB (by simp (disch:=first | omega | exact Int.natCast_nonneg _ | assumption) only [BB,B2,↓reduceIte,Nat.reduceLeDiff,Nat.reduceAdd,CC]<;>rfl) ?_ | refine aD ?_ | refine aE ?_ | with_reducible first | refine aG ?_ | refine aF ?_ | refine aH ?_ | refine aI ?_ | refine aK ?_ | refine aJ ?_ | refine aL ?_ | refine aC ?_))
          exact hok _ _ e0 e1 rfl (by omega) (by omega) (by omega)
  · (repeat (first | refine aB (by simp (disch:=first | omega | exact Int.natCast_nonneg _ | assumption) only [BB,B2,↓reduceIte,Nat.reduceLeDiff,Nat.reduceAdd,CC]<;>rfl) ?_ | refine aD ?_ | refine aE ?_ | with_reducible first | refine aG ?_ | refine aF ?_ | refine aH ?_ | refine aI ?_ | refine aK ?_ | refine aJ ?_ | refine aL ?_ | refine aC ?_))
    refine hx _ _ _ _ (fun e=>by cases e) (fG (dR ?_))
    unfold qZ
    rw [iH (by omega)] at hr
    exact ⟨_,Sub.refl _,kb hK hr.symm (by omega)⟩
theorem aNr:zer Tryz.prog d9=some (.agg (nU aBc (.slice none 0 0)).toArray):=by kernel_rfl
set_option maxRecDepth 4000 in
theorem aDu {ro:Ro} {v:Value} {g:GlD} {h:T Obj} {nx:Nat} {K:KV} (hf:Fr h nx) (hg:RG ro h v g) (hK:∀ nx',nx≤nx'→K (.bool (j0 g)) h nx'):aN Tryz.prog ro sI [v] h nx K:=by
  obtain ⟨a,b,rfl,ha,hb⟩:=hg
  apply aDF
  unfold xA
  refine aD ?_
  have hs1:Sub h (h.upd nx (some (.cells (Value.cells (.agg #[a,b])) fE))):=(Sub.refl h).new hf (Nat.le_refl _)
  have hf1:Fr (h.upd nx (some (.cells (Value.cells (.agg #[a,b])) fE))) (nx+1):=hf.upd (by omega) (by omega)
  have g1:(h.upd nx (some (.cells (Value.cells (.agg #[a,b])) fE))).get nx=some (.cells #[a,b] fE):=by rw [T.get_upd_same]; rfl
  generalize h.upd nx (some (.cells (Value.cells (.agg #[a,b])) fE))=h1 at hs1 hf1 g1
  have hK':∀ (c:Bool) n,j0 g=c→nx≤n→∃ h',Sub h' h1∧K (.bool c) h' n:=fun c n e hn=>⟨h,hs1,kb hK e hn⟩
  unfold j0 at hK'
  have hl:=hb.len
  have hb1:=hb.sub hs1 (mV.sub hs1)
  (repeat (first | refine aB (by simp (disch:=first | omega | exact Int.natCast_nonneg _ | assumption) only [BB,B2,↓reduceIte,Nat.reduceLeDiff,Nat.reduceAdd,CC,g1,hl]<;>rfl) ?_ | refine aD ?_ | refine aE ?_ | with_reducible first | refine aG ?_ | refine aF ?_ | refine aH ?_ | refine aI ?_ | refine aK ?_ | refine aJ ?_ | refine aL ?_ | refine aC ?_))
  (first | refine dO (fun hb=>?_) (fun hb=>?_) | refine aA4 (fun hb=>?_) (fun hb=>?_) | refine nX (fun hb=>?_) (fun hb=>?_) | refine pL (fun hb=>?_) (fun hb=>?_) | refine nB (fun hb=>?_) (fun hb=>?_) | refine tH (fun hb=>?_) (fun hb=>?_))
  · (repeat (first | refine aB (by simp (disch:=first | omega | exact Int.natCast_nonneg _ | assumption) only [BB,B2,↓reduceIte,Nat.reduceLeDiff,Nat.reduceAdd,CC,g1,hl]<;>rfl) ?_ | refine aD ?_ | refine aE ?_ | with_reducible first | refine aG ?_ | refine aF ?_ | refine aH ?_ | refine aI ?_ | refine aK ?_ | refine aJ ?_ | refine aL ?_ | refine aC ?_))
    exact hK' _ _ (by rw [decide_eq_false (by omega)]; rfl) (by omega)
  · (repeat (first | refine aB (by simp (disch:=first | omega | exact Int.natCast_nonneg _ | assumption) only [BB,B2,↓reduceIte,Nat.reduceLeDiff,Nat.reduceAdd,CC,g1,hl]<;>rfl) ?_ | refine aD ?_ | refine aE ?_ | with_reducible first | refine aG ?_ | refine aF ?_ | refine aH ?_ | refine aI ?_ | refine aK ?_ | refine aJ ?_ | refine aL ?_ | refine aC ?_))
    refine zC (by omega) (ha.sub hs1) fun n hn=>?_
    cases hr:rz (-1) g.p.length g.first with
    | false =>
      (repeat (first | refine aB (by simp (disch:=first | omega | exact Int.natCast_nonneg _ | assumption) only [BB,B2,↓reduceIte,Nat.reduceLeDiff,Nat.reduceAdd,CC,g1,hl]<;>rfl) ?_ | refine aD ?_ | refine aE ?_ | with_reducible first | refine aG ?_ | refine aF ?_ | refine aH ?_ | refine aI ?_ | refine aK ?_ | refine aJ ?_ | refine aL ?_ | refine aC ?_))
      exact hK' _ _ (by rw [hr]; simp) (by omega)
    | true =>
      (repeat (first | refine aB (by simp (disch:=first | omega | exact Int.natCast_nonneg _ | assumption) only [BB,B2,↓reduceIte,Nat.reduceLeDiff,Nat.reduceAdd,CC,g1,hl]<;>rfl) ?_ | refine aD ?_ | refine aE ?_ | with_reducible first | refine aG ?_ | refine aF ?_ | refine aH ?_ | refine aI ?_ | refine aK ?_ | refine aJ ?_ | refine aL ?_ | refine aC ?_))
      rw [hr,decide_eq_true (by omega)] at hK'
      simp only [Bool.true_and] at hK'
      generalize hR:g.p.all (aDn g.p.length)=R at hK'
      refine bI (fun j e h' nx'=>∃ (k:Nat),k+j=g.p.length∧nx+1≤nx'∧h'=h1∧e 1=ptr nx∧e 3=.int .i64 k∧(g.p.drop k).all (aDn g.p.length)=R) ?_ (n:=g.p.length) ⟨0,by omega,by omega,rfl,rfl,rfl,hR⟩
      rintro j e h' nx' ⟨k,hj,hnx,rfl,e1,e3,hr2⟩ Q' hq hx
      unfold xB
      rw [e1,e3]
      (repeat (first | refine aB (by simp (disch:=first | omega | exact Int.natCast_nonneg _ | assumption) only [BB,B2,↓reduceIte,Nat.reduceLeDiff,Nat.reduceAdd,CC,g1,hl]<;>rfl) ?_ | refine aD ?_ | refine aE ?_ | with_reducible first | refine aG ?_ | refine aF ?_ | refine aH ?_ | refine aI ?_ | refine aK ?_ | refine aJ ?_ | refine aL ?_ | refine aC ?_))
      refine dO (fun hk=>?_) (fun hk=>?_)
      · have hk:k < g.p.length:=by omega
        rw [eL hk,List.all_cons] at hr2
        obtain ⟨x,⟨nv,rfl,hn1,hn2⟩,hx2,hx3,hx4,hx5⟩:=hb1.at hk
        generalize g.p[k]=p at hr2 hx2 hx3 hx5 hn1 hn2
        (repeat (first | refine aB (by simp (disch:=first | omega | exact Int.natCast_nonneg _ | assumption) only [BB,B2,↓reduceIte,Nat.reduceLeDiff,Nat.reduceAdd,CC,g1,hl]<;>rfl) ?_ | refine aD ?_ | refine aE ?_ | with_reducible first | refine aG ?_ | refine aF ?_ | refine aH ?_ | refine aI ?_ | refine aK ?_ | refine aJ ?_ | refine aL ?_ | refine aC ?_))
        refine aB (hb1.ix _ hk) (aB hx3 (aB aNr (aD ?_)))
        refine aB (fB (l:=nU aBc (.slice none 0 0)) (vs:=nU p nv) (e:=d9) (f:=(0,0)) (by rw [T.get_upd_same]; rfl) rfl rfl rfl (aJI hn1.ok)) ?_
        have hs2:Sub h' ((h'.upd (nx'+10) (some (.cells (Value.cells (.agg (nU aBc (.slice none 0 0)).toArray)) d9))).upd (nx'+10) (some (.cells (nU p nv).toArray d9))):=((Sub.refl h').new hf1 (by omega)).new hf1 (by omega)
        have hf2:Fr ((h'.upd (nx'+10) (some (.cells (Value.cells (.agg (nU aBc (.slice none 0 0)).toArray)) d9))).upd (nx'+10) (some (.cells (nU p nv).toArray d9))) (nx'+11):=((hf1.mono (show nx+1≤nx'+11 by omega)).upd (Nat.le_refl _) (by omega)).upd (Nat.le_refl _) (by omega)
        have g2:((h'.upd (nx'+10) (some (.cells (Value.cells (.agg (nU aBc (.slice none 0 0)).toArray)) d9))).upd (nx'+10) (some (.cells (nU p nv).toArray d9))).get (nx'+10)=some (.cells (nU p nv).toArray d9):=by rw [T.get_upd_same]
        have g3:=hs2 _ _ g1
        generalize (h'.upd (nx'+10) (some (.cells (Value.cells (.agg (nU aBc (.slice none 0 0)).toArray)) d9))).upd (nx'+10) (some (.cells (nU p nv).toArray d9))=h2 at hs2 hf2 g2 g3
        have hfin:∀ (e':Env) n,e' 2=.bool false→aDn g.p.length p=false→nx≤n→Q' .ret e' h2 n:=fun e' n h4 hc hn=>by
          refine hx _ _ _ _ (fun e=>by cases e) (mM ?_)
          rw [h4]
          obtain ⟨h9,q1,q2⟩:=hK' false n (by rw [← hr2,hc]; rfl) hn
          exact ⟨h9,q1.trans hs2,q2⟩
        have hok:∀ (e':Env) n,e' 1=ptr nx→e' 3=.int .i64 ((k:Int)+1)→aDn g.p.length p=true→nx+1≤n→Q' .normal e' h2 n:=fun e' n q1 q3 hc hn=>by
          refine hq (j - 1) _ h' _ _ (by omega) ⟨k+1,by omega,hn,rfl,q1,q3,?_⟩ hs2
          rw [← hr2,hc,Bool.true_and]
        unfold aDn at hfin hok
        (repeat (first | refine aB (by simp (disch:=first | omega | exact Int.natCast_nonneg _ | assumption) only [BB,B2,↓reduceIte,Nat.reduceLeDiff,Nat.reduceAdd,CC,g2,g3,aKN]<;>rfl) ?_ | refine aD ?_ | refine aE ?_ | with_reducible first | refine aG ?_ | refine aF ?_ | refine aH ?_ | refine aI ?_ | refine aK ?_ | refine aJ ?_ | refine aL ?_ | refine aC ?_))
        refine aB aHn (aB aKL (aIB hn2 (fun h0=>?_) (fun h0=>?_)))
        · (repeat (first | refine aB (by simp (disch:=first | omega | exact Int.natCast_nonneg _ | assumption) only [BB,B2,↓reduceIte,Nat.reduceLeDiff,Nat.reduceAdd,CC,g2,g3]<;>rfl) ?_ | refine aD ?_ | refine aE ?_ | with_reducible first | refine aG ?_ | refine aF ?_ | refine aH ?_ | refine aI ?_ | refine aK ?_ | refine aJ ?_ | refine aL ?_ | refine aC ?_))
          exact hfin _ _ rfl (by simp [h0]) (by omega)
        · (repeat (first | refine aB (by simp (disch:=first | omega | exact Int.natCast_nonneg _ | assumption) only [BB,B2,↓reduceIte,Nat.reduceLeDiff,Nat.reduceAdd,CC,g2,g3]<;>rfl) ?_ | refine aD ?_ | refine aE ?_ | with_reducible first | refine aG ?_ | refine aF ?_ | refine aH ?_ | refine aI ?_ | refine aK ?_ | refine aJ ?_ | refine aL ?_ | refine aC ?_))
          iterate 5 ((first | refine dO (fun hb=>?_) (fun hb=>?_) | refine aA4 (fun hb=>?_) (fun hb=>?_) | refine nX (fun hb=>?_) (fun hb=>?_) | refine pL (fun hb=>?_) (fun hb=>?_) | refine nB (fun hb=>?_) (fun hb=>?_) | refine tH (fun hb=>?_) (fun hb=>?_)); (focus ((repeat (first | refine aB (by simp (disch:=first | omega | exact Int.natCast_nonneg _ | assumption) only [BB,B2,↓reduceIte,Nat.reduceLeDiff,Nat.reduceAdd,CC,g2,g3]<;>rfl) ?_ | refine aD ?_ | refine aE ?_ | with_reducible first | refine aG ?_ | refine aF ?_ | refine aH ?_ | refine aI ?_ | refine aK ?_ | refine aJ ?_ | refine aL ?_ | refine aC ?_)); refine hfin _ _ rfl ?_ (by omega); simp only [Bool.and_eq_false_iff,decide_eq_false_iff_not]; omega)); (repeat (first | refine aB (by simp (disch:=first | omega | exact Int.natCast_nonneg _ | assumption) only [BB,B2,↓reduceIte,Nat.reduceLeDiff,Nat.reduceAdd,CC,g2,g3,hl]<;>rfl) ?_ | refine aD ?_ | refine aE ?_ | with_reducible first | refine aG ?_ | refine aF ?_ | refine aH ?_ | refine aI ?_ | refine aK ?_ | refine aJ ?_ | refine aL ?_ | refine aC ?_)))
          (repeat (first | refine aB (by simp (disch:=first | omega | exact Int.natCast_nonneg _ | assumption) only [BB,B2,↓reduceIte,Nat.reduceLeDiff,Nat.reduceAdd,CC,g2,g3,hl]<;>rfl) ?_ | refine aD ?_ | refine aE ?_ | with_reducible first | refine aG ?_ | refine aF ?_ | refine aH ?_ | refine aI ?_ | refine aK ?_ | refine aJ ?_ | refine aL ?_ | refine aC ?_))
          refine zC (by omega) (hn1.sub hs2) fun n hn=>?_
          cases hr3:rz (-1) g.p.length p.next with
          | false =>
            (repeat (first | refine aB (by simp (disch:=first | omega | exact Int.natCast_nonneg _ | assumption) only [BB,B2,↓reduceIte,Nat.reduceLeDiff,Nat.reduceAdd,CC]<;>rfl) ?_ | refine aD ?_ | refine aE ?_ | with_reducible first | refine aG ?_ | refine aF ?_ | refine aH ?_ | refine aI ?_ | refine aK ?_ | refine aJ ?_ | refine aL ?_ | refine aC ?_))
            exact hfin _ _ rfl (by rw [hr3]; simp) (by omega)
          | true =>
            (repeat (first | refine aB (by simp (disch:=first | omega | exact Int.natCast_nonneg _ | assumption) only [BB,B2,↓reduceIte,Nat.reduceLeDiff,Nat.reduceAdd,CC]<;>rfl) ?_ | refine aD ?_ | refine aE ?_ | with_reducible first | refine aG ?_ | refine aF ?_ | refine aH ?_ | refine aI ?_ | refine aK ?_ | refine aJ ?_ | refine aL ?_ | refine aC ?_))
            refine hok _ _ e1 rfl ?_ (by omega)
            rw [hr3,decide_eq_true h0]
            repeat rw [decide_eq_true (by omega),Bool.true_and]
            rfl
      · (repeat (first | refine aB (by simp (disch:=first | omega | exact Int.natCast_nonneg _ | assumption) only [BB,B2,↓reduceIte,Nat.reduceLeDiff,Nat.reduceAdd,CC]<;>rfl) ?_ | refine aD ?_ | refine aE ?_ | with_reducible first | refine aG ?_ | refine aF ?_ | refine aH ?_ | refine aI ?_ | refine aK ?_ | refine aJ ?_ | refine aL ?_ | refine aC ?_))
        refine hx _ _ _ _ (fun e=>by cases e) (fG (dR ?_))
        unfold qY
        rw [iH (by omega)] at hr2
        exact hK' _ _ (by exact hr2.symm) (by omega)
def ctd (g:GlD) (q:Int):Bool:=decide (1 < (g.at q).hi)
def aDh (p:PosD):Bool:=decide (1 < p.hi)
def sM (g:GlD) (q:Int):Int:=(((g.p.take q.toNat).filter aDh).length:Nat)
def dU (g:GlD) (l:List Int):List Int:=(l.filter (ctd g)).map (sM g)
def j6 (l:List PosD):List (Int × Int):=(l.filter aDh).map fun p=>(p.lo,p.hi)
def dE (l:List PosD):List Nat:=l.map (·.s)
def cZ (g:GlD):List Int→Int→List (Int × Int)
  | [],_=>[]
  | p::r,c=>if ctd g p then (p,c % 3)::cZ g r (c / 3) else (p,-1)::cZ g r c
def cV (g:GlD) (at_:Nat) (D:List (Int × Int)) (q:Int):Bool:=(decide (at_=0)&&g.first.contains q) || D.any fun d=>decide (d.2≠0)&&(g.at d.1).next.contains q
def dS (D:List (Int × Int)) (q:Int):Bool:=D.any fun d=>decide (d.1=q)&&(decide (d.2=0) || decide (d.2=2))
def pA (g:GlD) (best:Int):List (Int × Int)→Int
  | []=>best
  | d::r=>pA g (if decide (d.2≠0)&&((g.at d.1).last&&(decide (best < 0) || decide ((g.at d.1).rule < best))) then (g.at d.1).rule else best) r
def gO (g:GlD) (en st:Int→Bool) (b:Nat) (q:Int):Bool:=(g.at q).s.testBit b&&(en q || st q)
def eH (n:Nat):List Int:=(List.range n).map fun i:Nat=>(i:Int)
def lZ (g:GlD) (en st:Int→Bool) (b:Nat):List Int:=(eH g.p.length).filter (gO g en st b)
def opZ (en st:Int→Bool) (q:Int):Nat:=if st q then (if en q then 2 else 1) else 3
def pT (g:GlD) (en st:Int→Bool) (l:List Int):List Nat:=(l.filter (ctd g)).map (opZ en st)
def isL (l:List Int) (s:StateD):Bool:=decide (s.l=l)
def iB (g:GlD) (S:List StateD) (l:List Int):Int × Int × List StateD :=
  match S.findIdx? (isL l) with
  | some k=>(k,0,S)
  | none=>if 3 < (dU g l).length then (0,110,S) else if 256≤S.length then (0,3,S) else (S.length,0,S++[⟨l,dU g l,[],[]⟩])
def fF (g:GlD) (en st:Int→Bool) (b:Nat) (S:List StateD):MoveD × Int × List StateD :=
  match lZ g en st b with
  | []=>(⟨-1,[]⟩,0,S)
  | l=>(⟨(iB g S l).1,pT g en st l⟩,(iB g S l).2.1,(iB g S l).2.2)
def iD (g:GlD) (en st:Int→Bool):List Nat→List StateD→Int × List MoveD × List StateD
  | [],S=>(0,[],S)
  | b::r,S=>if (fF g en st b S).2.1=0 then ((iD g en st r (fF g en st b S).2.2).1,(fF g en st b S).1::(iD g en st r (fF g en st b S).2.2).2.1,(iD g en st r (fF g en st b S).2.2).2.2) else ((fF g en st b S).2.1,[],S)
def qH (rule:Int) (row:List MoveD) (s:StateD):StateD:=⟨s.l,s.r,s.rule++[rule],s.next++[row]⟩
def lAt (S:List StateD) (k:Nat):List Int:=(S.getD k noS).l
def oU (g:GlD) (B:List Nat) (k:Nat) (c:Int) (S:List StateD):Int × List StateD :=
  let D:=cZ g (lAt S k) c
  let R:=iD g (cV g k D) (dS D) B S
  if R.1=0 then (0,R.2.2.modify k (qH (pA g (-1) D) R.2.1)) else (R.1,S)
def iC (g:GlD) (B:List Nat) (k:Nat):Nat→Int→List StateD→Int × List StateD
  | 0,_,S=>(0,S)
  | n+1,c,S=>if (oU g B k c S).1=0 then iC g B k n (c+1) (oU g B k c S).2 else ((oU g B k c S).1,S)
def mW (g:GlD) (B:List Nat):Nat→Nat→List StateD→Int × List StateD
  | 0,_,S=>(0,S)
  | n+1,k,S=>if k < S.length then (if (iC g B k (eD (S.getD k noS).r.length).toNat 0 S).1=0 then mW g B n (k+1) (iC g B k (eD (S.getD k noS).r.length).toNat 0 S).2 else ((iC g B k (eD (S.getD k noS).r.length).toNat 0 S).1,S)) else (0,S)
theorem aPW:zer Tryz.prog bR=some (.int .u8 0):=by kernel_rfl
theorem aMY:und Tryz.prog bS=some (.slice bR):=by kernel_rfl
theorem aNg:∃ i,tin Tryz.prog bR=some i∧i.size=1∧i.bytes=1:=xZ (by kernel_rfl)
theorem aES (g:GlD) (p:Int) (r:List Int) (c:Int):cZ g (p::r) c=if ctd g p then (p,c % 3)::cZ g r (c / 3) else (p,-1)::cZ g r c:=rfl
def vX (h:T Obj) (lo:Nat) (x:List Value) (s:StateD):Prop:=∃ lv rv,x=[lv,rv,bG,bG]∧bV h lv 1 cF (gL s.l) lo∧bV h rv 1 cF (gL s.r) lo∧s.rule=[]∧s.next=[]
def lQ (h:T Obj) (lo:Nat) (cs cs':List (List Value)) (S S':List StateD):Prop:=∃ ds T,cs'=cs++ds∧S'=S++T∧ds.length=T.length∧∀ (i:Nat) x s,ds[i]?=some x→T[i]?=some s→vX h lo x s
theorem lQ.refl {h:T Obj} {lo:Nat} {cs:List (List Value)} {S:List StateD}:lQ h lo cs cs S S:=⟨[],[],by simp,by simp,rfl,fun i x s hx=>by simp at hx⟩
theorem aJY {ro:Ro} {h:T Obj} {v a b c d:Value} {nx n1 n2 lo:Nat} {l:List (List Value)} {K:Value × Option Obj→T Obj→Value × T Obj × Nat→Prop} (ha:bT a=true) (hb:bT b=true) (hc:bT c=true) (hd:bT d=true) (ho:bV h v 4 aP l lo) (hl:l.length≤1000000) (hf:Fr h nx) (hlo:lo≤nx) (hn1:nx≤n1) (hn2:n1 < n2)
    (hK:∀ h' w,bV h' w 4 aP (l++[[a,b,c,d]]) lo→w=.slice (some (own n2 4)) (l++[[a,b,c,d]]).length (l++[[a,b,c,d]]).length→Kp v h h'→Fr h' (n2+1)→K (.slice (some (own n1 4)) 1 1,some (.cells [a,b,c,d].toArray aP)) (h.upd n1 (some (.cells [a,b,c,d].toArray aP))) (w,h',n2+1)) :
    aA (a7 Tryz.prog eQ n1 1 [(0,.agg #[a,b,c,d])]) fun r=>eG h n1 r.2 fun h'=>aA (bX Tryz.prog ro h' n2 #[eQ,eQ] [v,r.1]) (K r h'):=by
  obtain ⟨i,g1,g2,g3⟩:=aEj
  exact lX (z:=4) (l:=l) (y:=[a,b,c,d]) (aBD _ _ _ _ _) rfl ho aD2 g1 g2 (by omega) lI rfl (by simp [ha,hb,hc,hd]) (by rw [g3]; unfold big; omega) (by unfold big; omega) hf hlo hn1 hn2 fun h' q1 q2 q3=>hK h' _ q1 rfl q2 q3
theorem aGF (a b:Value) (ha:a.cells=#[a]) (hb:b.cells=#[b]):dF Tryz.prog aP [(0,a),(1,b)]=some (.agg #[a,b,bG,bG]):=by
  have hz:=lI
  have hp:(match und Tryz.prog aP with | some (.struct fs)=>lD Tryz.prog fs.toList | _=>none)=some [(0,1),(1,1),(2,1),(3,1)]:=by kernel_rfl
  unfold dF
  rw [hz]
  simp only [Option.bind]
  cases hu:und Tryz.prog aP with
  | none=>rw [hu] at hp; cases hp
  | some d =>
    rw [hu] at hp
    cases d<;>try (cases hp; done)
    rename_i fs
    simp only at hp ⊢
    rw [hp]
    simp only [kJ,ha,hb]
    rfl
theorem gC {v:Value} (h:bT v=true):v.cells=#[v]:=by
  cases v<;>first | rfl | (cases h; done)
theorem aIZ (g:GlD) (l:List Int) (x:Int):dU g (l++[x])=if ctd g x then dU g l++[sM g x] else dU g l:=by
  unfold dU
  rw [List.filter_append]
  cases h:ctd g x<;>simp [h]
theorem aNC (aid:Nat) (b:Int):a7 Tryz.prog bS aid 1 [(0,.int .u8 b)]=some (.slice (some (own aid 1)) 1 1,some (.cells [Value.int .u8 b].toArray bR)):=by kernel_rfl
theorem aHg {ro:Ro} {h:T Obj} {v:Value} {nx n1 n2 lo:Nat} {l:List Nat} {b:Nat} {b':Int} {K:Value × Option Obj→T Obj→Value × T Obj × Nat→Prop} (hb':b'=(b:Int)) (ho:bV h v 1 bR (oG l) lo) (hl:l.length≤1000000) (hf:Fr h nx) (hlo:lo≤nx) (hn1:nx≤n1) (hn2:n1 < n2)
    (hK:∀ h' w,bV h' w 1 bR (oG (l++[b])) lo→w=.slice (some (own n2 1)) (l.length+1) (l.length+1)→Kp v h h'→Fr h' (n2+1)→K (.slice (some (own n1 1)) 1 1,some (.cells [Value.int .u8 (b:Int)].toArray bR)) (h.upd n1 (some (.cells [Value.int .u8 (b:Int)].toArray bR))) (w,h',n2+1)) :
    aA (a7 Tryz.prog bS n1 1 [(0,.int .u8 b')]) fun r=>eG h n1 r.2 fun h'=>aA (bX Tryz.prog ro h' n2 #[bS,bS] [v,r.1]) (K r h'):=by
  subst hb'
  obtain ⟨i,g1,g2,g3⟩:=aNg
  have e:oG l++[[Value.int .u8 (b:Int)]]=oG (l++[b]):=by simp [oG]
  have el:=qT l
  refine lX (z:=1) (l:=oG l) (y:=[.int .u8 (b:Int)]) (aNC _ _) rfl ho aMY g1 g2 (by omega) aPW rfl rfl (by rw [el,g3]; unfold big; omega) (by rw [el]; unfold big; omega) hf hlo hn1 hn2 fun h' q1 q2 q3=>?_
  rw [e] at q1 ⊢
  refine hK h' _ q1 ?_ q2 q3
  rw [qT,List.length_append]; rfl
theorem vX.updNe {h:T Obj} {lo i:Nat} {x:List Value} {s:StateD} {c:Array Value} {e':TypeId} {f:Nat × Nat} {o:Option Obj} (hn:vX h lo x s) (hg:h.get i=some (.cells c e' f)) (he:e'≠cF):vX (h.upd i o) lo x s:=by
  obtain ⟨lv,rv,h1,h2,h3,h4⟩:=hn
  exact ⟨lv,rv,h1,h2.updNe hg he,h3.updNe hg he,h4⟩
theorem lQ.updNe {h:T Obj} {lo i:Nat} {cs cs':List (List Value)} {S S':List StateD} {c:Array Value} {e':TypeId} {f:Nat × Nat} {o:Option Obj} (hn:lQ h lo cs cs' S S') (hg:h.get i=some (.cells c e' f)) (he:e'≠cF):lQ (h.upd i o) lo cs cs' S S':=by
  obtain ⟨ds,T,h1,h2,h3,h4⟩:=hn
  exact ⟨ds,T,h1,h2,h3,fun i x s hx hs=>(h4 i x s hx hs).updNe hg he⟩
theorem uN (k:Nat):eH (k+1)=eH k++[(k:Int)]:=by simp [eH,List.range_succ]
theorem aBi {k:Nat} {x:Int} (h:x∈eH k):0≤x∧x < k:=by
  simp only [eH,List.mem_map,List.mem_range] at h
  obtain ⟨i,h1,rfl⟩:=h
  omega
theorem rR (k:Nat):(eH k).length=k:=by simp [eH]
theorem aJR {m:Int} {x:Int} (hx:x < m):∀ {l:List Int} {a:Int},a < x→rz a m l=true→(∀ y∈l,y < x)→rz a m (l++[x])=true
  | [],a,ha,_,_=>by simp [rz,ha,hx]
  | y::r,a,ha,h,hl=>by
    simp only [rz,Bool.and_eq_true,decide_eq_true_eq] at h
    have:=aJR hx (hl y (by simp)) h.2.2 fun z hz=>hl z (by simp [hz])
    simp only [List.cons_append,rz,Bool.and_eq_true,decide_eq_true_eq]
    exact ⟨h.1,h.2.1,this⟩
theorem aEf {m:Nat} (q:Int→Bool):∀ k,k≤m→rz (-1) m ((eH k).filter q)=true
  | 0,_=>rfl
  | k+1,hk=>by
    have ih:=aEf (m:=m) q k (by omega)
    rw [uN,List.filter_append]
    cases hq:q (k:Int) with
    | false=>rw [List.filter_cons_of_neg (by simp [hq])]; simpa using ih
    | true =>
      rw [List.filter_cons_of_pos (by simp [hq])]
      refine aJR (by omega) (by omega) ih fun y hy=>?_
      have:=aBi ((List.mem_filter.1 hy).1)
      omega
theorem aLN (g:GlD) (en st:Int→Bool) (b:Nat):rz (-1) g.p.length (lZ g en st b)=true:=aEf _ _ (Nat.le_refl _)
theorem aLM (g:GlD) (en st:Int→Bool) (b:Nat):(lZ g en st b).length≤g.p.length:=by
  have:=List.length_filter_le (gO g en st b) (eH g.p.length)
  rw [rR] at this; exact this
theorem qF (g:GlD) (en st:Int→Bool) (l:List Int) (x:Int):pT g en st (l++[x])=if ctd g x then pT g en st l++[opZ en st x] else pT g en st l:=by
  unfold pT
  rw [List.filter_append]
  cases h:ctd g x<;>simp [h]
theorem aGq (g:GlD) (en st:Int→Bool) (l:List Int):(pT g en st l).length≤l.length:=by
  unfold pT
  rw [List.length_map]
  exact List.length_filter_le _ _
theorem aGE:dF Tryz.prog bC [(0,.int .i64 (-1))]=some (.agg #[.int .i64 (-1),bG]):=by kernel_rfl
theorem aM3:zer Tryz.prog d9=some (.agg (nU aBc (.slice none 0 0)).toArray):=by kernel_rfl
theorem mN {g:GlD} {en st:Int→Bool} {b:Nat} {S:List StateD} (h:lZ g en st b=[]):fF g en st b S=(⟨-1,[]⟩,0,S):=by unfold fF; rw [h]
theorem o7 {g:GlD} {en st:Int→Bool} {b:Nat} {S:List StateD} (h:lZ g en st b≠[]):fF g en st b S=(⟨(iB g S (lZ g en st b)).1,pT g en st (lZ g en st b)⟩,(iB g S (lZ g en st b)).2.1,(iB g S (lZ g en st b)).2.2):=by
  unfold fF
  generalize lZ g en st b=l at h
  cases l with
  | nil=>exact absurd rfl h
  | cons x r=>rfl
theorem aKe {g:GlD} {k:Nat} (hk:k < g.p.length):g.at (k:Int)=g.p[k]:=by
  unfold GlD.at
  rw [Int.toNat_natCast,List.getD_eq_getElem?_getD,List.getElem?_eq_getElem hk]; rfl
theorem aAz:∀ {cs:List (List Value)} {k j:Nat} {x:List Value} (w:Value),(∀ x∈cs,x.length=4)→cs[k]?=some x→j < 4→cs.flatten.set (k*4+j) w=(cs.set k (x.set j w)).flatten
  | [],k,j,x,w,_,hx,_=>by simp at hx
  | y::r,0,j,x,w,hz,hx,hj=>by
    simp at hx; subst hx
    have hy:=hz y (by simp)
    rw [Nat.zero_mul,Nat.zero_add,List.flatten_cons,List.set_append_left _ _ (by omega)]; rfl
  | y::r,k+1,j,x,w,hz,hx,hj=>by
    have hy:=hz y (by simp)
    have ih:=aAz (cs:=r) (k:=k) (j:=j) (x:=x) w (fun z hz'=>hz z (by simp [hz'])) (by simpa using hx) hj
    rw [List.flatten_cons,List.set_append_right _ _ (by omega),show (k+1)*4+j - y.length=k*4+j by omega,ih]; rfl
theorem aEW {cs:List (List Value)} (hz:∀ x∈cs,x.length=4):cs.flatten.length=cs.length*4:=(iK hz).1
theorem aMN {cs:List (List Value)} {k:Nat} {y:List Value} (hz:∀ x∈cs,x.length=4) (hy:y.length=4):∀ x∈cs.set k y,x.length=4:=fun x hx=>by
  rcases List.mem_or_eq_of_mem_set hx with h | h
  · exact hz x h
  · rw [h]; exact hy
theorem aNB (aid:Nat) (a:Value) (ha:a.cells=#[a]):a7 Tryz.prog dN aid 1 [(0,a)]=some (.slice (some (own aid 1)) 1 1,some (.cells [a].toArray bE)):=by
  have hu:und Tryz.prog dN=some (.slice bE):=by kernel_rfl
  have hs:siz Tryz.prog bE=some 1:=by kernel_rfl
  have hz:aFm Tryz.prog bE 1=some [bG]:=by kernel_rfl
  unfold a7
  simp only [hu,hs,hz,Option.bind_some]
  have hb:Nat.ble (1*1) 16777216=true:=by decide
  simp only [hb,kJ,ha]
  rfl
theorem aMV:und Tryz.prog dN=some (.slice bE):=by kernel_rfl
theorem aMT:∃ i,tin Tryz.prog bE=some i∧i.size=1∧i.bytes=24:=xZ (by kernel_rfl)
theorem aM4:zer Tryz.prog bE=some bG:=by kernel_rfl
def rP (l:List Value):List (List Value):=l.map fun v=>[v]
theorem aBJ (l:List Value):(rP l).length=l.length:=by simp [rP]
theorem aMb {ro:Ro} {h:T Obj} {v a:Value} {nx n1 n2 lo:Nat} {l:List Value} {K:Value × Option Obj→T Obj→Value × T Obj × Nat→Prop} (ha:bT a=true) (ho:bV h v 1 bE (rP l) lo) (hl:l.length≤1000000) (hf:Fr h nx) (hlo:lo≤nx) (hn1:nx≤n1) (hn2:n1 < n2)
    (hK:∀ h' w,bV h' w 1 bE (rP (l++[a])) lo→w=.slice (some (own n2 1)) (l.length+1) (l.length+1)→Kp v h h'→Fr h' (n2+1)→K (.slice (some (own n1 1)) 1 1,some (.cells [a].toArray bE)) (h.upd n1 (some (.cells [a].toArray bE))) (w,h',n2+1)) :
    aA (a7 Tryz.prog dN n1 1 [(0,a)]) fun r=>eG h n1 r.2 fun h'=>aA (bX Tryz.prog ro h' n2 #[dN,dN] [v,r.1]) (K r h'):=by
  obtain ⟨i,g1,g2,g3⟩:=aMT
  have e:rP l++[[a]]=rP (l++[a]):=by simp [rP]
  have el:=aBJ l
  refine lX (z:=1) (l:=rP l) (y:=[a]) (aNB _ _ (gC ha)) rfl ho aMV g1 g2 (by omega) aM4 rfl (by simp [ha]) (by rw [el,g3]; unfold big; omega) (by rw [el]; unfold big; omega) hf hlo hn1 hn2 fun h' q1 q2 q3=>?_
  rw [e] at q1 ⊢
  refine hK h' _ q1 ?_ q2 q3
  rw [aBJ,List.length_append]; rfl
theorem bV.lo {h:T Obj} {v:Value} {z lo lo' id len:Nat} {e:TypeId} {l:List (List Value)} (ho:bV h v z e l lo) (hv:v=.slice (some (own id z)) len len) (hid:lo'≤id):bV h v z e l lo':=by
  rcases ho with ⟨rfl,_⟩ | ⟨i,h1,rfl,h4,h5⟩
  · cases hv
  · refine .inr ⟨i,?_,rfl,h4,h5⟩
    have:i=id:=by
      simp only [Value.slice.injEq,Option.some.injEq,own,Addr.mk.injEq] at hv
      exact hv.1.1
    omega
theorem aJw {id z len cap k:Nat} (hk:k < len):dI z (.slice (some (own id z)) len cap) (.int .i64 (k:Int))=some (at_ id (k*z) 0):=by
  have hn:mE (.int .i64 (k:Int))=some k:=by simp [mE]
  have hb:Nat.blt k len=true:=by simp [Nat.blt]; omega
  unfold dI
  rw [hn]
  simp only [Option.bind_some,hb,own,Nat.beq_refl]
  simp [elt]
theorem vX.ty {h h':T Obj} {lo:Nat} {x:List Value} {s:StateD} (hn:vX h lo x s) (hk:cY cF h h'):vX h' lo x s:=by
  obtain ⟨lv,rv,h1,h2,h3,h4⟩:=hn
  exact ⟨lv,rv,h1,h2.ty hk,h3.ty hk,h4⟩
theorem vX.mono {h:T Obj} {lo lo':Nat} {x:List Value} {s:StateD} (hn:vX h lo x s) (hl:lo'≤lo):vX h lo' x s:=by
  obtain ⟨lv,rv,h1,h2,h3,h4⟩:=hn
  exact ⟨lv,rv,h1,h2.mono hl,h3.mono hl,h4⟩
theorem lQ.ty {h h':T Obj} {lo:Nat} {cs cs':List (List Value)} {S S':List StateD} (hn:lQ h lo cs cs' S S') (hk:cY cF h h'):lQ h' lo cs cs' S S':=by
  obtain ⟨ds,T,h1,h2,h3,h4⟩:=hn
  exact ⟨ds,T,h1,h2,h3,fun i x s hx hs=>(h4 i x s hx hs).ty hk⟩
theorem lQ.trans {h:T Obj} {lo lo':Nat} {cs cs' cs'':List (List Value)} {S S' S'':List StateD} (h1:lQ h lo cs cs' S S') (h2:lQ h lo' cs' cs'' S' S'') (hl:lo≤lo'):lQ h lo cs cs'' S S'':=by
  obtain ⟨ds,T,a1,a2,a3,a4⟩:=h1
  obtain ⟨ds',T',b1,b2,b3,b4⟩:=h2
  refine ⟨ds++ds',T++T',by rw [b1,a1,List.append_assoc],by rw [b2,a2,List.append_assoc],by simp [a3,b3],fun i x s hx hs=>?_⟩
  rcases Nat.lt_or_ge i ds.length with hi | hi
  · rw [List.getElem?_append_left hi] at hx
    rw [List.getElem?_append_left (by omega)] at hs
    exact a4 i x s hx hs
  · rw [List.getElem?_append_right hi] at hx
    rw [List.getElem?_append_right (by omega),← a3] at hs
    exact (b4 _ x s hx hs).mono hl
def rZ (h:T Obj) (lo:Nat) (mcs:List (List Value)) (row:List MoveD):Prop:=mcs.length=row.length∧∀ (i:Nat) x m,mcs[i]?=some x→row[i]?=some m→∃ ov,x=[.int .i64 m.to,ov]∧bV h ov 1 bR (oG m.ops) lo
theorem rZ.ty {h h':T Obj} {lo:Nat} {mcs:List (List Value)} {row:List MoveD} (hr:rZ h lo mcs row) (hk:cY bR h h'):rZ h' lo mcs row:=⟨hr.1,fun i x m hx hm=>by
  obtain ⟨ov,h1,h2⟩:=hr.2 i x m hx hm
  exact ⟨ov,h1,h2.ty hk⟩⟩
theorem oI (g:GlD) (en st:Int→Bool) (b:Nat) (r:List Nat) (S:List StateD):iD g en st (b::r) S=if (fF g en st b S).2.1=0 then ((iD g en st r (fF g en st b S).2.2).1,(fF g en st b S).1::(iD g en st r (fF g en st b S).2.2).2.1,(iD g en st r (fF g en st b S).2.2).2.2) else ((fF g en st b S).2.1,[],S):=rfl
theorem aDT (g:GlD) (best:Int) (d:Int × Int) (r:List (Int × Int)):pA g best (d::r)=pA g (if decide (d.2≠0)&&((g.at d.1).last&&(decide (best < 0) || decide ((g.at d.1).rule < best))) then (g.at d.1).rule else best) r:=rfl
theorem i6 {g:GlD} (h:j0 g=true):g.p.length≤512∧rz (-1) g.p.length g.first=true∧∀ p∈g.p,aDn g.p.length p=true:=by
  unfold j0 at h
  simp only [Bool.and_eq_true,decide_eq_true_eq,List.all_eq_true] at h
  exact ⟨h.1,h.2.1,h.2.2⟩
theorem aBH {m:Int} {p:PosD} (h:aDn m p=true):1≤p.lo∧p.lo≤p.hi∧p.hi≤4096∧0≤p.rule∧p.rule < 512∧rz (-1) m p.next=true:=by
  unfold aDn at h
  simp only [Bool.and_eq_true,decide_eq_true_eq] at h
  exact ⟨h.2.1,h.2.2.1,h.2.2.2.1,h.2.2.2.2.1,h.2.2.2.2.2.1,h.2.2.2.2.2.2⟩
theorem lQ.mono {h:T Obj} {lo lo':Nat} {cs cs':List (List Value)} {S S':List StateD} (hg:lQ h lo cs cs' S S') (hl:lo'≤lo):lQ h lo' cs cs' S S':=by
  obtain ⟨ds,T,h1,h2,h3,h4⟩:=hg
  exact ⟨ds,T,h1,h2,h3,fun i x s hx hs=>(h4 i x s hx hs).mono hl⟩
theorem rZ.mono {h:T Obj} {lo lo':Nat} {mcs:List (List Value)} {row:List MoveD} (hr:rZ h lo mcs row) (hl:lo'≤lo):rZ h lo' mcs row:=⟨hr.1,fun i x m hx hm=>by
  obtain ⟨ov,h1,h2⟩:=hr.2 i x m hx hm
  exact ⟨ov,h1,h2.mono hl⟩⟩
def SOk (g:GlD) (S:List StateD):Prop:=∀ s∈S,rz (-1) g.p.length s.l=true∧s.r=dU g s.l∧s.r.length≤3
theorem aLD {g:GlD} {S:List StateD} {l:List Int} (hS:SOk g S) (hl:rz (-1) g.p.length l=true):SOk g (iB g S l).2.2:=by
  unfold iB
  split
  · exact hS
  · split
    · exact hS
    · split
      · exact hS
      · intro s hs
        rcases List.mem_append.1 hs with hs | hs
        · exact hS s hs
        · simp at hs; subst hs
          exact ⟨hl,rfl,by show (dU g l).length≤3; omega⟩
theorem aG3 {g:GlD} {en st:Int→Bool} {b:Nat} {S:List StateD} (hS:SOk g S):SOk g (fF g en st b S).2.2:=by
  by_cases h:lZ g en st b=[]
  · rw [mN h]; exact hS
  · rw [o7 h]; exact aLD hS (aLN _ _ _ _)
theorem aJQ {g:GlD} {en st:Int→Bool}:∀ {B:List Nat} {S:List StateD},SOk g S→SOk g (iD g en st B S).2.2
  | [],S,hS=>hS
  | b::r,S,hS=>by
    rw [oI]
    split
    · exact aJQ (aG3 hS)
    · exact hS
theorem aO2 (en st:Int→Bool) (q:Int):opZ en st q < 256:=by
  unfold opZ
  split
  · split<;>omega
  · omega
theorem aJu {g:GlD} (hg:g.p.length≤512) {en st:Int→Bool} {b:Nat} {S:List StateD}:(∀ o∈(fF g en st b S).1.ops,o < 256)∧(fF g en st b S).1.ops.length≤512:=by
  by_cases h:lZ g en st b=[]
  · rw [mN h]; exact ⟨fun o ho=>(by cases ho),by simp⟩
  · rw [o7 h]
    refine ⟨fun o ho=>?_,?_⟩
    · have ho:o∈pT g en st (lZ g en st b):=ho
      unfold pT at ho
      obtain ⟨q,_,rfl⟩:=List.mem_map.1 ho
      exact aO2 _ _ _
    · have h1:=aGq g en st (lZ g en st b)
      have h2:=aLM g en st b
      show (pT g en st (lZ g en st b)).length≤512
      omega
theorem aHU {g:GlD} (hg:g.p.length≤512) {en st:Int→Bool}:∀ {B:List Nat} {S:List StateD},(∀ m∈(iD g en st B S).2.1,(∀ o∈m.ops,o < 256)∧m.ops.length≤512)∧(iD g en st B S).2.1.length≤B.length
  | [],S=>⟨fun m hm=>(by cases hm),Nat.le_refl _⟩
  | b::r,S=>by
    rw [oI]
    split
    · obtain ⟨h1,h2⟩:=aHU hg (en:=en) (st:=st) (B:=r) (S:=(fF g en st b S).2.2)
      refine ⟨fun m hm=>?_,?_⟩
      · rcases List.mem_cons.1 hm with rfl | hm
        · exact aJu hg
        · exact h1 m hm
      · simp only [List.length_cons]; omega
    · exact ⟨fun m hm=>(by cases hm),Nat.zero_le _⟩
theorem aKC {g:GlD} {S:List StateD} (hS:SOk g S) (k:Nat) (rule:Int) (row:List MoveD):SOk g (S.modify k (qH rule row)):=by
  intro s hs
  obtain ⟨i,hi⟩:=List.mem_iff_getElem?.1 hs
  rw [List.getElem?_modify] at hi
  cases hq:S[i]? with
  | none=>rw [hq] at hi; cases hi
  | some t =>
    rw [hq] at hi
    have ht:=hS t (List.mem_of_getElem? hq)
    have hi:=Option.some.inj hi
    split at hi
    · rw [← hi]; exact ht
    · have hi:t=s:=hi
      rw [← hi]; exact ht
theorem jQ {S:List StateD} {f:StateD→StateD} {i k:Nat} (h:i≠k):(S.modify k f)[i]?=S[i]?:=by
  rw [List.getElem?_modify]
  cases S[i]? with
  | none=>rfl
  | some t=>show some (if k=i then f t else t)=some t; rw [if_neg (Ne.symm h)]
theorem gG {S:List StateD} {f:StateD→StateD} {k:Nat}:(S.modify k f)[k]?=(S[k]?).map f:=by
  rw [List.getElem?_modify]
  cases S[k]? with
  | none=>rfl
  | some t=>show some (if k=k then f t else t)=some (f t); rw [if_pos rfl]
theorem aO4 {ro:Ro} {h:T Obj} {v:Value} {l:List Nat} {lo:Nat} (ho:bV h v 1 bR (oG l) lo) (hl:∀ o∈l,o < 256):SlR ro h v 1 RU8 l:=⟨oG l,ho.sl,qT l,fun i x d hx hd=>by
  unfold oG at hx
  rw [List.getElem?_map,hd] at hx
  exact ⟨(Option.some.inj hx).symm,hl d (List.mem_of_getElem? hd)⟩⟩
theorem aPO {ro:Ro} {h:T Obj} {v:Value} {lo:Nat} {mcs:List (List Value)} {row:List MoveD} (ho:bV h v 2 bC mcs lo) (hr:rZ h lo mcs row) (hl:∀ m∈row,(∀ o∈m.ops,o < 256)∧m.ops.length≤512) (hb:row.length≤1000000):rJ ro h [v] row :=
  ⟨v,rfl,⟨mcs,ho.sl,hr.1,fun i x m hx hm=>by
    obtain ⟨ov,h1,h2⟩:=hr.2 i x m hx hm
    obtain ⟨h3,h4⟩:=hl m (List.mem_of_getElem? hm)
    exact ⟨ov,h1,aO4 h2 h3,by unfold vL; omega⟩⟩,by unfold vL; omega⟩
theorem aPE {ro:Ro} {h:T Obj} {x:List Value} {t:StateD} {lo:Nat} (hn:vX h lo x t) (hr:t.r.length≤3):eA ro h x t:=by
  obtain ⟨lv,rv,h1,h2,h3,h4,h5⟩:=hn
  refine ⟨lv,rv,bG,bG,h1,h2.sl,h3.sl,?_,?_,by unfold vL; omega⟩
  · rw [h4]; exact Sl.nil
  · rw [h5]; exact SlR.nil
section
variable {ro:Ro} {g:GlD} {bid nid kid eid yid sid k:Nat} {av bv fv cv lv rv uv wv:Value} {c:List Nat} {n:Int} {S:List StateD} {cs:List (List Value)} {s:StateD} {ws:List Value}
theorem aCc (k:Nat) (f:StateD→StateD) (l:List Int) (hf:∀ s,isL l (f s)=isL l s):∀ (S:List StateD),(S.modify k f).findIdx? (isL l)=S.findIdx? (isL l):=by
  intro S
  induction S generalizing k with
  | nil=>cases k<;>simp
  | cons s S ih =>
    cases k with
    | zero=>rw [List.modify_zero_cons,List.findIdx?_cons,List.findIdx?_cons,hf]
    | succ k=>rw [List.modify_succ_cons,List.findIdx?_cons,List.findIdx?_cons,ih]
end
theorem v9 (g:GlD) (B:List Nat) (k m:Nat) (c:Int) (S:List StateD):iC g B k (m+1) c S=if (oU g B k c S).1=0 then iC g B k m (c+1) (oU g B k c S).2 else ((oU g B k c S).1,S):=rfl
theorem x7 (g:GlD) (B:List Nat) (m k:Nat) (S:List StateD):mW g B (m+1) k S=if k < S.length then (if (iC g B k (eD (S.getD k noS).r.length).toNat 0 S).1=0 then mW g B m (k+1) (iC g B k (eD (S.getD k noS).r.length).toNat 0 S).2 else ((iC g B k (eD (S.getD k noS).r.length).toNat 0 S).1,S)) else (0,S):=rfl
set_option maxRecDepth 20000
set_option maxRecDepth 20000
set_option maxRecDepth 20000
set_option maxRecDepth 20000
set_option maxRecDepth 20000
set_option maxRecDepth 20000
set_option maxRecDepth 20000
set_option maxRecDepth 20000
theorem aIc (c:List Nat) (m:Nat):aBZ c m=j5 c (m:Int):=rfl
set_option maxRecDepth 20000
set_option maxRecDepth 20000
theorem aMu {c:List Nat} {k i:Nat} (hi:i < 256):lb c k i=if c.getD i 0=k then i else lb c k (i+1):=by
  unfold lb
  rw [show 256 - i=(256 - (i+1))+1 by omega,List.range'_succ,List.find?_cons]
  by_cases h:c.getD i 0=k
  · rw [if_pos h,decide_eq_true h]; rfl
  · rw [if_neg h,decide_eq_false h]
set_option maxRecDepth 20000
theorem qJ {l:List Nat} {b:Nat} (hb:b < 256):(cls l).getD b 0=ix (gB l) (sig l b):=by
  rw [List.getD_eq_getElem?_getD,aEz hb]; rfl
theorem aOB {l:List Nat} {a b:Nat} (ha:a < 256) (hb:b < 256):(cls l).getD a 0=(cls l).getD b 0 ↔ sig l a=sig l b:=by
  rw [qJ ha,qJ hb]
  constructor
  · intro h
    exact aMq (aFh ha) (aFh hb) h
  · intro h; rw [h]
theorem aGK {l:List Nat} {b:Nat} (hb:b < 256):(cls l).getD b 0 < many l:=by rw [qJ hb]; exact aKn hb
theorem aJa {l:List Nat}:∀ x∈cls l,x < 256:=by
  intro x hx
  obtain ⟨i,hi⟩:=List.mem_iff_getElem?.1 hx
  have hlt:=(List.getElem?_eq_some_iff.1 hi).1
  rw [tZ] at hlt
  rw [aEz hlt] at hi
  have:=aKn (l:=l) hlt
  have:=aFO l
  have:=Option.some.inj hi
  omega
theorem aMt {c:List Nat} {k b:Nat} (hb:b < 256) (hk:c.getD b 0=k):lb c k 0≤b∧c.getD (lb c k 0) 0=k∧∀ j,j < lb c k 0→c.getD j 0≠k:=by
  have key:∀ n i,i+n=256→i≤b→lb c k i≤b∧i≤lb c k i∧c.getD (lb c k i) 0=k∧∀ j,i≤j→j < lb c k i→c.getD j 0≠k:=by
    intro n
    induction n with
    | zero=>intro i h1 h2; omega
    | succ n ih =>
      intro i h1 h2
      rw [aMu (by omega)]
      by_cases h:c.getD i 0=k
      · rw [if_pos h]; exact ⟨h2,Nat.le_refl _,h,fun j h3 h4=>by omega⟩
      · rw [if_neg h]
        have hib:i≠b:=fun e=>h (by rw [e]; exact hk)
        obtain ⟨q1,q2,q3,q4⟩:=ih (i+1) (by omega) (by omega)
        refine ⟨q1,by omega,q3,fun j h3 h4=>?_⟩
        rcases Nat.eq_or_lt_of_le h3 with e | e
        · subst e; exact h
        · exact q4 j e h4
  obtain ⟨q1,_,q3,q4⟩:=key 256 0 (by omega) (by omega)
  exact ⟨q1,q3,fun j hj=>q4 j (by omega) hj⟩
theorem aMg {l:List Nat} {k:Nat} (hk:k < many l):∃ b,b < 256∧(cls l).getD b 0=k:=by
  have hm:(dd (gB l))[k]'hk∈gB l:=aCn.1 (List.getElem_mem hk)
  obtain ⟨b,hb,e⟩:=List.mem_map.1 hm
  have hb:=aL2.1 hb
  refine ⟨b,hb,?_⟩
  rw [qJ hb,e]
  have h1:(dd (gB l))[k]?=some ((dd (gB l))[k]'hk):=List.getElem?_eq_getElem hk
  unfold ix
  refine aLv h1 fun j hj h2=>?_
  have hn:=aL9 (gB l)
  have hj2:=(List.getElem?_eq_some_iff.1 h2).1
  rw [List.getElem?_eq_getElem hj2] at h2
  exact List.pairwise_iff_getElem.1 hn j k hj2 hk hj (Option.some.inj h2)
theorem aOM {l:List Nat} {k:Nat} (hk:k < many l):lb (cls l) k 0 < 256∧(cls l).getD (lb (cls l) k 0) 0=k∧∀ j,j < lb (cls l) k 0→(cls l).getD j 0≠k:=by
  obtain ⟨b,hb,e⟩:=aMg hk
  obtain ⟨h1,h2,h3⟩:=aMt hb e
  exact ⟨by omega,h2,h3⟩
theorem aFA {l:List Nat} {i:Nat} (hi:i < 256):(cls l).getD i 0≤(dd ((gB l).take i)).length:=by
  have hsl:i < (gB l).length:=by rw [kX]; exact hi
  have hse:(gB l)[i]=sig l i:=by have:=aAo (l:=l) hi; rw [List.getElem?_eq_getElem hsl] at this; exact Option.some.inj this
  have htake:(gB l).take (i+1)=(gB l).take i++[sig l i]:=by rw [List.take_succ_eq_append_getElem hsl,hse]
  have h2:=uJ (l:=(gB l).take (i+1)) (m:=(gB l).drop (i+1)) (p:=sig l i) (by rw [htake]; simp)
  rw [List.take_append_drop] at h2
  rw [qJ hi,h2]
  have h3:=aFI (l:=(gB l).take (i+1)) (p:=sig l i) (by rw [htake]; simp)
  have h4:(dd ((gB l).take (i+1))).length≤(dd ((gB l).take i)).length+1:=by rw [htake,tD]; exact aB4 _ _
  omega
theorem aL0 (l:List Nat):0 < many l:=by
  have:=aGK (l:=l) (b:=0) (by omega)
  omega
theorem aCe (l:List Nat):i8 (cls l) (many l:Int)=(List.range (many l)).map fun k=>lb (cls l) k 0:=by
  unfold i8
  have h1:=aL0 l
  have h2:=aFO l
  rw [if_neg (by omega)]; simp
theorem aOc (l:List Nat):∀ i,i≤256→rt (cls l) i=some (dd ((gB l).take i)).length:=by
  intro i
  induction i with
  | zero=>intro _; rfl
  | succ i ih =>
    intro hi
    simp only [rt,ih (by omega),Option.bind_some]
    have h1:=aFA (l:=l) (i:=i) (by omega)
    rw [if_neg (by omega)]
    have hsl:i < (gB l).length:=by rw [kX]; omega
    have hse:(gB l)[i]=sig l i:=by have:=aAo (l:=l) (b:=i) (by omega); rw [List.getElem?_eq_getElem hsl] at this; exact Option.some.inj this
    have htake:(gB l).take (i+1)=(gB l).take i++[sig l i]:=by rw [List.take_succ_eq_append_getElem hsl,hse]
    rw [htake,tD]
    by_cases hm:sig l i∈dd ((gB l).take i)
    · have h2:(cls l).getD i 0 < (dd ((gB l).take i)).length:=by
        have h4:=uJ (l:=(gB l).take i) (m:=(gB l).drop i) (p:=sig l i) (aCn.1 hm)
        rw [List.take_append_drop] at h4
        rw [qJ (by omega),h4]
        exact aFI (aCn.1 hm)
      rw [if_neg (by omega)]
      unfold sA; rw [if_pos hm]
    · have h2:(cls l).getD i 0=(dd ((gB l).take i)).length:=by
        have h4:=uJ (l:=(gB l).take (i+1)) (m:=(gB l).drop (i+1)) (p:=sig l i) (by rw [htake]; simp)
        rw [List.take_append_drop] at h4
        rw [qJ (by omega),h4,htake,aLL hm]
      rw [if_pos h2]
      unfold sA; rw [if_neg hm]; simp
theorem aKV (l:List Nat):pG (cls l) (many l:Int)=true:=by
  unfold pG
  rw [aOc l 256 (Nat.le_refl _),List.take_of_length_le (by rw [kX]; omega)]
  simp [many]
theorem aMy (aid x:Nat):a7 Tryz.prog i7 aid 1 [(0,pX x)]=some (.slice (some (own aid 4)) 1 1,some (.cells (gK x).toArray bN)):=by kernel_rfl
theorem aMW:und Tryz.prog i7=some (.slice bN):=by kernel_rfl
theorem aNe:∃ i,tin Tryz.prog bN=some i∧i.size=4∧i.bytes=32:=xZ (by kernel_rfl)
theorem aM9 {ro:Ro} {h:T Obj} {v:Value} {nx n1 n2 lo:Nat} {l:List Nat} {m:Nat} {K:Value × Option Obj→T Obj→Value × T Obj × Nat→Prop} (ho:bV h v 4 bN (rF l) lo) (hl:l.length≤1000000) (hf:Fr h nx) (hlo:lo≤nx) (hn1:nx≤n1) (hn2:n1 < n2)
    (hK:∀ h' w,bV h' w 4 bN (rF (l++[m])) lo→Kp v h h'→Fr h' (n2+1)→K (.slice (some (own n1 4)) 1 1,some (.cells (gK m).toArray bN)) (h.upd n1 (some (.cells (gK m).toArray bN))) (w,h',n2+1)) :
    aA (a7 Tryz.prog i7 n1 1 [(0,pX m)]) fun r=>eG h n1 r.2 fun h'=>aA (bX Tryz.prog ro h' n2 #[i7,i7] [v,r.1]) (K r h'):=by
  obtain ⟨i,g1,g2,g3⟩:=aNe
  have e:rF l++[gK m]=rF (l++[m]):=by simp [rF]
  have el:=yK l
  refine lX (z:=4) (l:=rF l) (y:=gK m) (aMy _ _) rfl ho aMW g1 g2 (by omega) aJV rfl rfl (by rw [el,g3]; unfold big; omega) (by rw [el]; unfold big; omega) hf hlo hn1 hn2 fun h' q1 q2 q3=>?_
  rw [e] at q1 ⊢
  exact hK h' _ q1 q2 q3
theorem aMz (aid:Nat) (a b:Value):a7 Tryz.prog fY aid 1 [(0,.agg #[a,b])]=some (.slice (some (own aid 2)) 1 1,some (.cells [a,b].toArray d3)):=by kernel_rfl
theorem aJ4 (a b:Int):dF Tryz.prog d3 [(0,.int .i64 a),(1,.int .i64 b)]=some (.agg #[.int .i64 a,.int .i64 b]):=by kernel_rfl
theorem aMX:und Tryz.prog fY=some (.slice d3):=by kernel_rfl
theorem aNf:∃ i,tin Tryz.prog d3=some i∧i.size=2∧i.bytes=16:=xZ (by kernel_rfl)
theorem aNs:zer Tryz.prog d3=some (.agg #[.int .i64 0,.int .i64 0]):=by kernel_rfl
theorem aMa {ro:Ro} {h:T Obj} {v:Value} {nx n1 n2 lo:Nat} {l:List (Int × Int)} {a b:Int} {K:Value × Option Obj→T Obj→Value × T Obj × Nat→Prop} (ho:bV h v 2 d3 (t7 l) lo) (hl:l.length≤1000000) (hf:Fr h nx) (hlo:lo≤nx) (hn1:nx≤n1) (hn2:n1 < n2)
    (hK:∀ h' w,bV h' w 2 d3 (t7 (l++[(a,b)])) lo→Kp v h h'→Fr h' (n2+1)→K (.slice (some (own n1 2)) 1 1,some (.cells [Value.int .i64 a,Value.int .i64 b].toArray d3)) (h.upd n1 (some (.cells [Value.int .i64 a,Value.int .i64 b].toArray d3))) (w,h',n2+1)) :
    aA (a7 Tryz.prog fY n1 1 [(0,.agg #[.int .i64 a,.int .i64 b])]) fun r=>eG h n1 r.2 fun h'=>aA (bX Tryz.prog ro h' n2 #[fY,fY] [v,r.1]) (K r h'):=by
  obtain ⟨i,g1,g2,g3⟩:=aNf
  have e:t7 l++[[Value.int .i64 a,Value.int .i64 b]]=t7 (l++[(a,b)]):=by simp [t7]
  have el:=s9 l
  refine lX (z:=2) (l:=t7 l) (y:=[.int .i64 a,.int .i64 b]) (aMz _ _ _) rfl ho aMX g1 g2 (by omega) aNs rfl rfl (by rw [el,g3]; unfold big; omega) (by rw [el]; unfold big; omega) hf hlo hn1 hn2 fun h' q1 q2 q3=>?_
  rw [e] at q1 ⊢
  exact hK h' _ q1 q2 q3
theorem aHv (l:List PosD) (p:PosD):j6 (l++[p])=if 1 < p.hi then j6 l++[(p.lo,p.hi)] else j6 l:=by
  unfold j6
  rw [List.filter_append]
  by_cases h:1 < p.hi
  · rw [if_pos h,List.filter_cons_of_pos (by unfold aDh; exact decide_eq_true h)]; simp
  · rw [if_neg h,List.filter_cons_of_neg (by unfold aDh; simpa using h)]; simp
theorem aE5 {g:GlD} (k:Nat):sM g (k:Int)=((j6 (g.p.take k)).length:Nat):=by
  unfold sM j6
  rw [Int.toNat_natCast,List.length_map]
theorem aAx (l:List PosD):(j6 l).length≤l.length:=by
  unfold j6
  rw [List.length_map]; exact List.length_filter_le _ _
def ofB (g:GlD):List Nat:=i8 (cls (dE g.p)) (many (dE g.p):Int)
def ofD (g:GlD) (S:List StateD):AutoD:=⟨cls (dE g.p),(many (dE g.p):Int),j6 g.p,S⟩
def ofZ (g:GlD):Int × AutoD:=if j0 g=true then (if (mW g (ofB g) 256 0 [noS]).1=0 then (0,ofD g (mW g (ofB g) 256 0 [noS]).2) else ((mW g (ofB g) 256 0 [noS]).1,aFv)) else (1,aFv)
theorem aFw {ro:Ro} {h:T Obj}:mJ ro h j8 aFv:=⟨bG,bG,rfl,List.length_replicate,fun x hx=>by
  have:=List.eq_of_mem_replicate hx
  omega,SlR.nil,SlR.nil,Nat.zero_le _,Nat.zero_le _⟩
theorem aLF {c:List Nat} {n:Int}:∀ b∈i8 c n,b < 256:=by
  intro b hb
  unfold i8 at hb
  split at hb
  · cases hb
  · obtain ⟨k,_,rfl⟩:=List.mem_map.1 hb
    unfold lb
    cases hq:(List.range' 0 (256 - 0)).find? fun b=>decide (c.getD b 0=k) with
    | none=>simp
    | some q =>
      have:=List.mem_of_find?_eq_some hq
      simp [List.mem_range'] at this
      simp; omega
structure Base (g:GlD) (S:List StateD):Prop where
  ok:SOk g S
  few:S.length≤256
  zero:∃ s,S[0]?=some s∧s.l=[]
  pos:∀ (i:Nat) s,0 < i→S[i]?=some s→s.l≠[]
  dist:∀ (i j:Nat) s t,S[i]?=some s→S[j]?=some t→s.l=t.l→i=j
def aCJ (g:GlD) (en st:Int→Bool) (b:Nat) (S:List StateD) (m:MoveD):Prop :=
  (lZ g en st b=[]∧m.to=-1∧m.ops=[])∨(lZ g en st b≠[]∧∃ (k:Nat) (t:StateD),m.to=(k:Int)∧S[k]?=some t∧t.l=lZ g en st b∧m.ops=pT g en st (lZ g en st b))
def Ext (S S':List StateD):Prop:=∃ T,S'=S++T∧∀ t∈T,t.rule=[]∧t.next=[]
theorem Ext.refl (S:List StateD):Ext S S:=⟨[],by simp,fun t ht=>by cases ht⟩
theorem Ext.trans {a b c:List StateD} (h1:Ext a b) (h2:Ext b c):Ext a c:=by
  obtain ⟨T,rfl,h3⟩:=h1
  obtain ⟨U,rfl,h4⟩:=h2
  refine ⟨T++U,by rw [List.append_assoc],fun t ht=>?_⟩
  rcases List.mem_append.1 ht with ht | ht
  · exact h3 t ht
  · exact h4 t ht
def nV (S S':List StateD):Prop:=∀ (i:Nat) s,S[i]?=some s→∃ s',S'[i]?=some s'∧s'.l=s.l
theorem nV.refl (S:List StateD):nV S S:=fun i s h=>⟨s,h,rfl⟩
theorem nV.trans {a b c:List StateD} (h1:nV a b) (h2:nV b c):nV a c:=fun i s h=>by
  obtain ⟨s1,h3,h4⟩:=h1 i s h
  obtain ⟨s2,h5,h6⟩:=h2 i s1 h3
  exact ⟨s2,h5,h6.trans h4⟩
theorem Ext.grows {S S':List StateD} (h:Ext S S'):nV S S':=fun i s hs=>by
  obtain ⟨T,rfl,_⟩:=h
  have:=(List.getElem?_eq_some_iff.1 hs).1
  exact ⟨s,by rw [List.getElem?_append_left this]; exact hs,rfl⟩
theorem aCJ.mono {g:GlD} {en st:Int→Bool} {b:Nat} {S S':List StateD} {m:MoveD} (h:aCJ g en st b S m) (hg:nV S S'):aCJ g en st b S' m:=by
  rcases h with h | ⟨h1,k,t,h2,h3,h4,h5⟩
  · exact .inl h
  · obtain ⟨t',h6,h7⟩:=hg k t h3
    exact .inr ⟨h1,k,t',h2,h6,h7.trans h4,h5⟩
theorem aCi {g:GlD} {en st:Int→Bool} {b:Nat} {S:List StateD} (hb:Base g S) (h0:(fF g en st b S).2.1=0):Base g (fF g en st b S).2.2∧Ext S (fF g en st b S).2.2∧aCJ g en st b (fF g en st b S).2.2 (fF g en st b S).1:=by
  by_cases hl:lZ g en st b=[]
  · rw [mN hl]
    exact ⟨hb,Ext.refl _,.inl ⟨hl,rfl,rfl⟩⟩
  · have hrz:=aLN g en st b
    rw [o7 hl] at h0 ⊢
    dsimp only at h0 ⊢
    generalize hlz:lZ g en st b=l at hl h0 hrz
    unfold iB at h0 ⊢
    cases hf:S.findIdx? (isL l) with
    | some k =>
      rw [hf] at h0
      obtain ⟨hk,h1,_⟩:=List.findIdx?_eq_some_iff_getElem.1 hf
      have h1:(S[k]).l=l:=of_decide_eq_true h1
      exact ⟨hb,Ext.refl _,.inr ⟨by rw [hlz]; exact hl,k,S[k],rfl,List.getElem?_eq_getElem hk,by rw [hlz]; exact h1,by rw [hlz]⟩⟩
    | none =>
      rw [hf] at h0
      dsimp only at h0 ⊢
      have hn:=List.findIdx?_eq_none_iff.1 hf
      by_cases h3:3 < (dU g l).length
      · rw [if_pos h3] at h0; exact absurd h0 (by show ¬ (110:Int)=0; decide)
      · rw [if_neg h3] at h0 ⊢
        by_cases h4:256≤S.length
        · rw [if_pos h4] at h0; exact absurd h0 (by show ¬ (3:Int)=0; decide)
        · rw [if_neg h4]
          have hne:∀ s∈S,s.l≠l:=fun s hs e=>by
            have:=hn s hs
            unfold isL at this
            exact absurd e (of_decide_eq_false this)
          have hget:∀ (i:Nat) s,(S++[(⟨l,dU g l,[],[]⟩:StateD)])[i]?=some s→(S[i]?=some s)∨(i=S.length∧s=⟨l,dU g l,[],[]⟩):=fun i s hs=>by
            rcases Nat.lt_or_ge i S.length with hi | hi
            · rw [List.getElem?_append_left hi] at hs; exact .inl hs
            · rw [List.getElem?_append_right hi] at hs
              generalize hq:i - S.length=q at hs
              cases q with
              | zero=>simp at hs; exact .inr ⟨by omega,hs.symm⟩
              | succ q=>simp at hs
          refine ⟨⟨fun s hs=>?_,by simp; omega,?_,fun i s hi hs=>?_,fun i j s t hs ht he=>?_⟩,⟨[⟨l,dU g l,[],[]⟩],rfl,fun t ht=>?_⟩,.inr ⟨by rw [hlz]; exact hl,S.length,⟨l,dU g l,[],[]⟩,rfl,by simp,by rw [hlz],by rw [hlz]⟩⟩
          · rcases List.mem_append.1 hs with hs | hs
            · exact hb.ok s hs
            · simp at hs; subst hs; exact ⟨hrz,rfl,by show (dU g l).length≤3; omega⟩
          · obtain ⟨s,h5,h6⟩:=hb.zero
            exact ⟨s,by rw [List.getElem?_append_left (List.getElem?_eq_some_iff.1 h5).1]; exact h5,h6⟩
          · rcases hget i s hs with hs | ⟨_,rfl⟩
            · exact hb.pos i s hi hs
            · exact hl
          · rcases hget i s hs with hs | ⟨hi,rfl⟩
            · rcases hget j t ht with ht | ⟨hj,rfl⟩
              · exact hb.dist i j s t hs ht he
              · exact absurd he (hne s (List.mem_of_getElem? hs))
            · rcases hget j t ht with ht | ⟨hj,rfl⟩
              · exact absurd he.symm (hne t (List.mem_of_getElem? ht))
              · omega
          · simp at ht; subst ht; exact ⟨rfl,rfl⟩
theorem aEb {g:GlD} {en st:Int→Bool}:∀ {B:List Nat} {S:List StateD},Base g S→(iD g en st B S).1=0→Base g (iD g en st B S).2.2∧Ext S (iD g en st B S).2.2∧(iD g en st B S).2.1.length=B.length∧∀ (j:Nat) b m,B[j]?=some b→(iD g en st B S).2.1[j]?=some m→aCJ g en st b (iD g en st B S).2.2 m
  | [],S,hb,_=>⟨hb,Ext.refl _,rfl,fun j b m hj=>by simp at hj⟩
  | b::r,S,hb,h0=>by
    rw [oI] at h0 ⊢
    by_cases h1:(fF g en st b S).2.1=0
    · rw [if_pos h1] at h0 ⊢
      obtain ⟨g1,g2,g3⟩:=aCi hb h1
      obtain ⟨r1,r2,r3,r4⟩:=aEb (B:=r) g1 h0
      refine ⟨r1,g2.trans r2,by simp [r3],fun j b' m hj hm=>?_⟩
      cases j with
      | zero=>simp at hj hm; subst hj; subst hm; exact g3.mono r2.grows
      | succ j=>exact r4 j b' m (by simpa using hj) (by simpa using hm)
    · rw [if_neg h1] at h0; exact absurd h0 h1
def wB (k c i:Nat) (s:StateD):Nat:=if i < k then (eD (s.r.length:Int)).toNat else if i=k then c else 0
structure Made (g:GlD) (B:List Nat) (S:List StateD) (k c:Nat):Prop where
  base:Base g S
  cnt:∀ (i:Nat) s,S[i]?=some s→s.rule.length=wB k c i s∧s.next.length=wB k c i s
  rule:∀ (i:Nat) s (q:Nat) ru,S[i]?=some s→s.rule[q]?=some ru→ru=pA g (-1) (cZ g s.l q)
  next:∀ (i:Nat) s (q:Nat) row,S[i]?=some s→s.next[q]?=some row→row.length=B.length∧∀ (j:Nat) b m,B[j]?=some b→row[j]?=some m→aCJ g (cV g i (cZ g s.l q)) (dS (cZ g s.l q)) b S m
theorem Base.modify {g:GlD} {S:List StateD} (hb:Base g S) (k:Nat) (rule:Int) (row:List MoveD):Base g (S.modify k (qH rule row))∧nV S (S.modify k (qH rule row)):=by
  have hget:∀ (i:Nat) s,(S.modify k (qH rule row))[i]?=some s→∃ t,S[i]?=some t∧t.l=s.l:=fun i s hs=>by
    by_cases hi:i=k
    · subst hi
      rw [gG] at hs
      cases hq:S[i]? with
      | none=>rw [hq] at hs; cases hs
      | some t=>rw [hq] at hs; cases hs; exact ⟨t,rfl,rfl⟩
    · rw [jQ hi] at hs; exact ⟨s,hs,rfl⟩
  have hgr:nV S (S.modify k (qH rule row)):=fun i s hs=>by
    by_cases hi:i=k
    · subst hi; exact ⟨qH rule row s,by rw [gG,hs]; rfl,rfl⟩
    · exact ⟨s,by rw [jQ hi]; exact hs,rfl⟩
  refine ⟨⟨aKC hb.ok _ _ _,by rw [List.length_modify]; exact hb.few,?_,fun i s hi hs=>?_,fun i j s t hs ht he=>?_⟩,hgr⟩
  · obtain ⟨s,h1,h2⟩:=hb.zero
    obtain ⟨s',h3,h4⟩:=hgr 0 s h1
    exact ⟨s',h3,h4.trans h2⟩
  · obtain ⟨t,h1,h2⟩:=hget i s hs
    rw [← h2]; exact hb.pos i t hi h1
  · obtain ⟨s1,h1,h2⟩:=hget i s hs
    obtain ⟨t1,h3,h4⟩:=hget j t ht
    exact hb.dist i j s1 t1 h1 h3 (by rw [h2,h4,he])
theorem aCX {g:GlD} {B:List Nat} {S:List StateD} {k c:Nat} (hm:Made g B S k c) (hk:k < S.length) (h0:(oU g B k (c:Int) S).1=0):Made g B (oU g B k (c:Int) S).2 k (c+1)∧nV S (oU g B k (c:Int) S).2:=by
  obtain ⟨s,hs⟩:∃ s,S[k]?=some s:=⟨_,List.getElem?_eq_getElem hk⟩
  have hlk:lAt S k=s.l:=by unfold lAt; rw [List.getD_eq_getElem?_getD,hs]; rfl
  have hcz:oU g B k (c:Int) S=if (iD g (cV g k (cZ g s.l c)) (dS (cZ g s.l c)) B S).1=0 then (0,(iD g (cV g k (cZ g s.l c)) (dS (cZ g s.l c)) B S).2.2.modify k (qH (pA g (-1) (cZ g s.l c)) (iD g (cV g k (cZ g s.l c)) (dS (cZ g s.l c)) B S).2.1)) else ((iD g (cV g k (cZ g s.l c)) (dS (cZ g s.l c)) B S).1,S):=by
    unfold oU; rw [hlk]
  rw [hcz] at h0 ⊢
  by_cases h1:(iD g (cV g k (cZ g s.l c)) (dS (cZ g s.l c)) B S).1=0
  · rw [if_pos h1]
    obtain ⟨r1,r2,r3,r4⟩:=aEb hm.base h1
    generalize iD g (cV g k (cZ g s.l c)) (dS (cZ g s.l c)) B S=Z at r1 r2 r3 r4
    dsimp only
    obtain ⟨b1,b2⟩:=r1.modify k (pA g (-1) (cZ g s.l c)) Z.2.1
    have hgr:=r2.grows.trans b2
    obtain ⟨T,hT,hT2⟩:=r2
    have hZk:Z.2.2[k]?=some s:=by rw [hT,List.getElem?_append_left hk]; exact hs
    have hget:∀ (i:Nat) t,(Z.2.2.modify k (qH (pA g (-1) (cZ g s.l c)) Z.2.1))[i]?=some t→(i=k∧t=qH (pA g (-1) (cZ g s.l c)) Z.2.1 s)∨(i≠k∧i < S.length∧S[i]?=some t)∨(S.length≤i∧t.rule=[]∧t.next=[]):=fun i t ht=>by
      by_cases hi:i=k
      · subst hi
        rw [gG,hZk] at ht
        cases ht; exact .inl ⟨rfl,rfl⟩
      · rw [jQ hi,hT] at ht
        rcases Nat.lt_or_ge i S.length with hil | hil
        · rw [List.getElem?_append_left hil] at ht; exact .inr (.inl ⟨hi,hil,ht⟩)
        · rw [List.getElem?_append_right hil] at ht
          exact .inr (.inr ⟨hil,hT2 t (List.mem_of_getElem? ht)⟩)
    refine ⟨⟨b1,fun i t ht=>?_,fun i t q ru ht hq=>?_,fun i t q row ht hq=>?_⟩,hgr⟩
    · rcases hget i t ht with ⟨rfl,rfl⟩ | ⟨h2,h3,h4⟩ | ⟨h2,h3,h4⟩
      · have:=hm.cnt i s hs
        unfold wB at this ⊢
        rw [if_neg (by omega),if_pos rfl] at this ⊢
        show (s.rule++[_]).length=_∧(s.next++[_]).length=_
        simp [this.1,this.2]
      · have:=hm.cnt i t h4
        unfold wB at this ⊢
        by_cases hik:i < k
        · rw [if_pos hik] at this ⊢; exact this
        · rw [if_neg hik,if_neg h2] at this ⊢; exact this
      · unfold wB
        rw [if_neg (by omega),if_neg (by omega),h3,h4]; exact ⟨rfl,rfl⟩
    · rcases hget i t ht with ⟨rfl,rfl⟩ | ⟨h2,h3,h4⟩ | ⟨h2,h3,h4⟩
      · have hq:(s.rule++[pA g (-1) (cZ g s.l c)])[q]?=some ru:=hq
        have hc:=hm.cnt i s hs
        unfold wB at hc
        rw [if_neg (by omega),if_pos rfl] at hc
        rcases Nat.lt_or_ge q s.rule.length with hql | hql
        · rw [List.getElem?_append_left hql] at hq; exact hm.rule i s q ru hs hq
        · rw [List.getElem?_append_right hql] at hq
          have hqc:q=c:=by
            have:=(List.getElem?_eq_some_iff.1 hq).1
            simp at this; omega
          subst hqc
          rw [hc.1,Nat.sub_self] at hq
          simp at hq; exact hq.symm
      · exact hm.rule i t q ru h4 hq
      · rw [h3] at hq; simp at hq
    · rcases hget i t ht with ⟨rfl,rfl⟩ | ⟨h2,h3,h4⟩ | ⟨h2,h3,h4⟩
      · have hq2:(s.next++[Z.2.1])[q]?=some row:=hq
        have hc:=hm.cnt i s hs
        unfold wB at hc
        rw [if_neg (by omega),if_pos rfl] at hc
        rcases Nat.lt_or_ge q s.next.length with hql | hql
        · rw [List.getElem?_append_left hql] at hq2
          obtain ⟨n1,n2⟩:=hm.next i s q row hs hq2
          exact ⟨n1,fun j b m hj hm9=>(n2 j b m hj hm9).mono hgr⟩
        · rw [List.getElem?_append_right hql] at hq2
          have hqc:q=c:=by
            have:=(List.getElem?_eq_some_iff.1 hq2).1
            simp at this; omega
          subst hqc
          rw [hc.2,Nat.sub_self] at hq2
          simp at hq2; subst hq2
          exact ⟨r3,fun j b m hj hm9=>(r4 j b m hj hm9).mono b2⟩
      · obtain ⟨n1,n2⟩:=hm.next i t q row h4 hq
        exact ⟨n1,fun j b m hj hm9=>(n2 j b m hj hm9).mono hgr⟩
      · rw [h4] at hq; simp at hq
  · rw [if_neg h1] at h0; exact absurd h0 h1
theorem rL {g:GlD} {B:List Nat} {k:Nat}:∀ {n c:Nat} {S:List StateD},Made g B S k c→k < S.length→(iC g B k n (c:Int) S).1=0→Made g B (iC g B k n (c:Int) S).2 k (c+n)∧nV S (iC g B k n (c:Int) S).2
  | 0,c,S,hm,_,_=>⟨hm,nV.refl _⟩
  | n+1,c,S,hm,hk,h0=>by
    rw [v9] at h0 ⊢
    by_cases h1:(oU g B k (c:Int) S).1=0
    · rw [if_pos h1] at h0 ⊢
      obtain ⟨c1,c2⟩:=aCX hm hk h1
      have hk2:k < (oU g B k (c:Int) S).2.length:=by
        obtain ⟨s',h3,_⟩:=c2 k _ (List.getElem?_eq_getElem hk)
        exact (List.getElem?_eq_some_iff.1 h3).1
      obtain ⟨d1,d2⟩:=rL (n:=n) (c:=c+1) c1 hk2 h0
      refine ⟨?_,c2.trans d2⟩
      rw [show c+(n+1)=c+1+n by omega]; exact d1
    · rw [if_neg h1] at h0; exact absurd h0 h1
theorem nV.len {S S':List StateD} (h:nV S S'):S.length≤S'.length:=by
  rcases Nat.lt_or_ge S'.length S.length with hl | hl
  · obtain ⟨s',h1,_⟩:=h S'.length _ (List.getElem?_eq_getElem hl)
    rw [List.getElem?_eq_none (Nat.le_refl _)] at h1; cases h1
  · exact hl
theorem Made.next' {g:GlD} {B:List Nat} {S:List StateD} {k:Nat} {s:StateD} (hs:S[k]?=some s) (hm:Made g B S k (eD (s.r.length:Int)).toNat):Made g B S (k+1) 0:=by
  refine ⟨hm.base,fun i t ht=>?_,hm.rule,hm.next⟩
  have:=hm.cnt i t ht
  unfold wB at this ⊢
  by_cases h1:i < k
  · rw [if_pos h1] at this; rw [if_pos (by omega)]; exact this
  · by_cases h2:i=k
    · subst h2
      rw [if_neg h1,if_pos rfl] at this
      rw [if_pos (by omega)]
      rw [hs] at ht; cases ht; exact this
    · rw [if_neg h1,if_neg h2] at this
      rw [if_neg (by omega)]
      by_cases h3:i=k+1
      · rw [if_pos h3]; exact this
      · rw [if_neg h3]; exact this
theorem aEF {g:GlD} {B:List Nat}:∀ {n k:Nat} {S:List StateD},Made g B S k 0→k≤S.length→k+n=256→(mW g B n k S).1=0→Made g B (mW g B n k S).2 (mW g B n k S).2.length 0∧nV S (mW g B n k S).2
  | 0,k,S,hm,hk,hn,h0=>by
    have:k=S.length:=by have:=hm.base.few; omega
    exact ⟨by rw [this] at hm; exact hm,nV.refl _⟩
  | n+1,k,S,hm,hk,hn,h0=>by
    rw [x7] at h0 ⊢
    by_cases h1:k < S.length
    · rw [if_pos h1] at h0 ⊢
      obtain ⟨s,hs⟩:∃ s,S[k]?=some s:=⟨_,List.getElem?_eq_getElem h1⟩
      have hgd:S.getD k noS=s:=by rw [List.getD_eq_getElem?_getD,hs]; rfl
      rw [hgd] at h0 ⊢
      by_cases h2:(iC g B k (eD (s.r.length:Int)).toNat 0 S).1=0
      · rw [if_pos h2] at h0 ⊢
        obtain ⟨c1,c2⟩:=rL (c:=0) hm h1 h2
        have hz:((0:Nat):Int)=0:=rfl
        rw [hz,Nat.zero_add] at c1
        rw [hz] at c2
        obtain ⟨s',h3,h4⟩:=c2 k s hs
        have hr:s'.r=s.r:=by
          rw [(hm.base.ok s (List.mem_of_getElem? hs)).2.1,(c1.base.ok s' (List.mem_of_getElem? h3)).2.1,h4]
        have c3:=Made.next' h3 (by rw [hr]; exact c1)
        obtain ⟨d1,d2⟩:=aEF (n:=n) c3 (by have:=(List.getElem?_eq_some_iff.1 h3).1; omega) (by omega) h0
        exact ⟨d1,c2.trans d2⟩
      · rw [if_neg h2] at h0; exact absurd h0 h2
    · rw [if_neg h1]
      have:k=S.length:=by omega
      exact ⟨by rw [this] at hm; exact hm,nV.refl _⟩
theorem aLY (g:GlD) (B:List Nat):Made g B [noS] 0 0:=by
  have h1:∀ (i:Nat) s,[noS][i]?=some s→i=0∧s=noS:=fun i s h=>by
    cases i with
    | zero=>simp at h; exact ⟨rfl,h.symm⟩
    | succ i=>simp at h
  refine ⟨⟨fun s hs=>?_,by simp,⟨noS,rfl,rfl⟩,fun i s hi hs=>?_,fun i j s t hs ht _=>?_⟩,fun i s hs=>?_,fun i s q ru hs hq=>?_,fun i s q row hs hq=>?_⟩
  · simp at hs; subst hs; exact ⟨rfl,rfl,Nat.zero_le _⟩
  · have:=(h1 i s hs).1; omega
  · rw [(h1 i s hs).1,(h1 j t ht).1]
  · obtain ⟨rfl,rfl⟩:=h1 i s hs; exact ⟨rfl,rfl⟩
  · obtain ⟨rfl,rfl⟩:=h1 i s hs; simp [noS] at hq
  · obtain ⟨rfl,rfl⟩:=h1 i s hs; simp [noS] at hq
theorem aFq {g:GlD} {B:List Nat} (h0:(mW g B 256 0 [noS]).1=0):Made g B (mW g B 256 0 [noS]).2 (mW g B 256 0 [noS]).2.length 0:=(aEF (aLY g B) (Nat.zero_le _) rfl h0).1
theorem Made.codes {g:GlD} {B:List Nat} {S:List StateD} (hm:Made g B S S.length 0) {i:Nat} {s:StateD} (hs:S[i]?=some s):s.rule.length=(eD (s.r.length:Int)).toNat∧s.next.length=(eD (s.r.length:Int)).toNat:=by
  have:=hm.cnt i s hs
  unfold wB at this
  rw [if_pos (List.getElem?_eq_some_iff.1 hs).1] at this
  exact this
theorem aLk {g:GlD} (h:(ofZ g).1=0):j0 g=true∧∃ S,(ofZ g).2=ofD g S∧Made g (ofB g) S S.length 0∧(mW g (ofB g) 256 0 [noS])=(0,S):=by
  unfold ofZ at h ⊢
  cases hr:j0 g with
  | false=>rw [hr,if_neg (by decide)] at h; exact absurd h (by show ¬ (1:Int)=0; decide)
  | true =>
    rw [hr,if_pos rfl] at h
    rw [if_pos rfl]
    by_cases hz:(mW g (ofB g) 256 0 [noS]).1=0
    · rw [if_pos hz]
      exact ⟨rfl,_,rfl,aFq hz,by rw [← hz]⟩
    · rw [if_neg hz] at h; exact absurd h hz
theorem aCW (g:GlD) {b:Nat} (hb:b < 256):∃ k b',(cls (dE g.p))[b]?=some k∧k < many (dE g.p)∧(ofB g)[k]?=some b'∧b' < 256∧∀ en st,lZ g en st b'=lZ g en st b:=by
  have hc:=tZ (dE g.p)
  have hk:(cls (dE g.p)).getD b 0 < many (dE g.p):=aGK hb
  obtain ⟨h1,h2,_⟩:=aOM hk
  refine ⟨(cls (dE g.p)).getD b 0,lb (cls (dE g.p)) ((cls (dE g.p)).getD b 0) 0,?_,hk,?_,h1,fun en st=>?_⟩
  · rw [List.getD_eq_getElem?_getD,List.getElem?_eq_getElem (by omega)]; rfl
  · unfold ofB
    rw [aCe,List.getElem?_map,List.getElem?_range hk]; rfl
  · have hs:=(aOB h1 hb).1 h2
    unfold lZ
    refine List.filter_congr fun q hq=>?_
    obtain ⟨q1,q2⟩:=aBi hq
    unfold gO
    have:(g.at q).s.testBit (lb (cls (dE g.p)) ((cls (dE g.p)).getD b 0) 0)=(g.at q).s.testBit b:=by
      have hl:q.toNat < g.p.length:=by omega
      have e1:=congrArg (fun l=>l[q.toNat]?) hs
      simp only [sig,dE,List.map_map,List.getElem?_map,List.getElem?_eq_getElem hl,Option.map_some,Function.comp,Option.some.injEq] at e1
      unfold GlD.at
      rw [List.getD_eq_getElem?_getD,List.getElem?_eq_getElem hl]
      exact e1
    rw [this]
theorem aA9 (g:GlD):(ofB g).length=many (dE g.p):=by
  unfold ofB
  rw [aCe,List.length_map,List.length_range]
theorem aHX:∀ {l:List Int} {a m m':Int},m≤m'→rz a m l=true→rz a m' l=true
  | [],_,_,_,_,_=>rfl
  | x::r,a,m,m',hm,h=>by
    simp only [rz,Bool.and_eq_true,decide_eq_true_eq] at h ⊢
    exact ⟨h.1,by omega,aHX hm h.2.2⟩
theorem aAT {g:GlD}:∀ {l:List Int} {c:Int} {d:Int × Int},d∈cZ g l c→d.1∈l∧(d.2≠-1→ctd g d.1=true)
  | [],c,d,hd=>by cases hd
  | p::r,c,d,hd=>by
    rw [aES] at hd
    split at hd
    · rename_i hc
      rcases List.mem_cons.1 hd with rfl | hd
      · exact ⟨by simp,fun _=>hc⟩
      · obtain ⟨h1,h2⟩:=aAT hd
        exact ⟨by simp [h1],h2⟩
    · rcases List.mem_cons.1 hd with rfl | hd
      · exact ⟨by simp,fun h=>absurd rfl h⟩
      · obtain ⟨h1,h2⟩:=aAT hd
        exact ⟨by simp [h1],h2⟩
theorem aEq {g:GlD} {q:Int} (h0:0≤q) (h1:q < g.p.length):g.at q∈g.p∧g.p[q.toNat]?=some (g.at q):=by
  have hl:q.toNat < g.p.length:=by omega
  have:g.at q=g.p[q.toNat]:=by
    unfold GlD.at
    rw [List.getD_eq_getElem?_getD,List.getElem?_eq_getElem hl]; rfl
  rw [this]
  exact ⟨List.getElem_mem hl,List.getElem?_eq_getElem hl⟩
theorem aIO {g:GlD} {p q:Int} (hp:0≤p) (hpq:p < q) (hc:ctd g p=true) (hq:q≤g.p.length):sM g p < sM g q:=by
  unfold sM
  have hl:p.toNat < g.p.length:=by omega
  have hat:=(aEq (g:=g) (q:=p) hp (by omega)).2
  have h1:g.p.take (p.toNat+1)=g.p.take p.toNat++[g.at p]:=by
    rw [List.take_succ_eq_append_getElem hl]
    have:=List.getElem?_eq_getElem hl
    rw [hat] at this
    rw [Option.some.inj this]
  have h2:((g.p.take (p.toNat+1)).filter aDh).length=((g.p.take p.toNat).filter aDh).length+1:=by
    rw [h1,List.filter_append,List.length_append,List.filter_cons_of_pos (show aDh (g.at p)=true from hc)]; rfl
  have h3:((g.p.take (p.toNat+1)).filter aDh).length≤((g.p.take q.toNat).filter aDh).length:=by
    have e:g.p.take (p.toNat+1)=(g.p.take q.toNat).take (p.toNat+1):=by rw [List.take_take,Nat.min_eq_left (by omega)]
    rw [e]
    exact ((List.take_sublist _ _).filter _).length_le
  omega
theorem aLh {g:GlD} {q:Int} (h0:0≤q) (h1:q < g.p.length) (hc:ctd g q=true):sM g q < ((j6 g.p).length:Nat)∧0≤sM g q:=by
  have:=aIO h0 (show q < (g.p.length:Int) from h1) hc (Int.le_refl _)
  have e:sM g (g.p.length:Int)=((j6 g.p).length:Nat):=by rw [aE5,List.take_length]
  refine ⟨by omega,?_⟩
  unfold sM; omega
theorem aF9 {g:GlD}:∀ {l:List Int} {a b:Int},rz a g.p.length l=true→-1≤a→(∀ q∈l,ctd g q=true→b < sM g q)→rz b ((j6 g.p).length:Nat) (dU g l)=true
  | [],a,b,_,_,_=>rfl
  | x::r,a,b,h,ha,hb=>by
    simp only [rz,Bool.and_eq_true,decide_eq_true_eq] at h
    unfold dU
    cases hc:ctd g x with
    | false =>
      rw [List.filter_cons_of_neg (by simp [hc])]
      exact aF9 h.2.2 (by omega) fun q hq hcq=>hb q (by simp [hq]) hcq
    | true =>
      rw [List.filter_cons_of_pos hc,List.map_cons]
      have h1:=hb x (by simp) hc
      have h2:=aLh (by omega) h.2.1 hc
      simp only [rz,Bool.and_eq_true,decide_eq_true_eq]
      refine ⟨h1,h2.1,aF9 h.2.2 (by omega) fun q hq hcq=>?_⟩
      have:=xS h.2.2 q hq
      exact aIO (by omega) this.1 hc (by omega)
theorem aBp {g:GlD}:∀ {D:List (Int × Int)} {b:Int},(∀ d∈D,0≤(g.at d.1).rule∧(g.at d.1).rule < 512)→-1≤b∧b < 512→-1≤pA g b D∧pA g b D < 512
  | [],b,_,hb=>hb
  | d::r,b,h,hb=>by
    rw [aDT]
    refine aBp (fun d' hd'=>h d' (by simp [hd'])) ?_
    have:=h d (by simp)
    split<;>omega
theorem aCs {α:Type} {R:List Int} (f:α→Nat) (k:α→Int):∀ {L:List α},(∀ q∈L,aGm R (f q) (k q)=true)→y6 R (L.map f) (L.map k)=true
  | [],_=>rfl
  | q::L,h=>by
    rw [List.map_cons,List.map_cons,z8,h q (by simp),Bool.true_and]
    exact aCs f k fun x hx=>h x (by simp [hx])
theorem aEe {S:List StateD} {R:List Int} {many:Int}:∀ {rus:List Int} {rows:List (List MoveD)},(∀ (q:Nat) ru row,rus[q]?=some ru→rows[q]?=some row→xR S R many ru row=true)→oJ S R many rus rows=true
  | [],rows,_=>by cases rows<;>rfl
  | ru::rus,[],_=>rfl
  | ru::rus,row::rows,h=>by
    rw [o9,h 0 ru row rfl rfl,Bool.true_and]
    exact aEe fun q r w h1 h2=>h (q+1) r w (by simpa using h1) (by simpa using h2)
theorem aEP {m:Nat} (h:m≤3):eD (m:Int)≠0∧0≤eD (m:Int):=by
  have:m=0∨m=1∨m=2∨m=3:=by omega
  rcases this with rfl | rfl | rfl | rfl<;>exact ⟨by decide,by decide⟩
theorem aPD {g:GlD} {S:List StateD} (hb:Base g S) {i:Nat} {s:StateD} (hs:S[i]?=some s) {c:Int} {b:Nat} {m:MoveD} (hm:aCJ g (cV g i (cZ g s.l c)) (dS (cZ g s.l c)) b S m):iV S s.r m=true:=by
  unfold iV
  rcases hm with ⟨h1,h2,h3⟩ | ⟨h1,k,t,h2,h3,h4,h5⟩
  · rw [if_pos h2,h3]; rfl
  · rw [if_neg (by omega)]
    have hk0:k≠0:=by
      rintro rfl
      obtain ⟨z,z1,z2⟩:=hb.zero
      rw [z1] at h3; cases h3
      exact h1 (by rw [← h4]; exact z2)
    have hkl:=(List.getElem?_eq_some_iff.1 h3).1
    have hgd:S.getD m.to.toNat noS=t:=by rw [h2,Int.toNat_natCast,List.getD_eq_getElem?_getD,h3]; rfl
    obtain ⟨t1,t2,t3⟩:=hb.ok t (List.mem_of_getElem? h3)
    rw [hgd,t2,h4,h5,h2,decide_eq_true (by omega),decide_eq_true (by omega),Bool.true_and,Bool.true_and]
    have hlen:(pT g (cV g i (cZ g s.l c)) (dS (cZ g s.l c)) (lZ g (cV g i (cZ g s.l c)) (dS (cZ g s.l c)) b)).length=(dU g (lZ g (cV g i (cZ g s.l c)) (dS (cZ g s.l c)) b)).length:=by
      unfold pT dU
      rw [List.length_map,List.length_map]
    rw [decide_eq_true hlen,Bool.true_and]
    unfold pT dU
    refine aCs _ _ fun q hq=>?_
    obtain ⟨hq1,hq2⟩:=List.mem_filter.1 hq
    unfold aGm opZ
    cases hst:dS (cZ g s.l c) q with
    | false=>rfl
    | true =>
      have hR:s.r.contains (sM g q)=true:=by
        unfold dS at hst
        obtain ⟨d,hd,he⟩:=List.any_eq_true.1 hst
        simp only [Bool.and_eq_true,decide_eq_true_eq] at he
        have hdl:=(aAT hd).1
        rw [he.1] at hdl
        rw [(hb.ok s (List.mem_of_getElem? hs)).2.1]
        unfold dU
        simp only [List.contains_eq_mem,decide_eq_true_eq,List.mem_map,List.mem_filter]
        exact ⟨q,⟨hdl,hq2⟩,rfl⟩
      rw [hR]
      cases cV g i (cZ g s.l c) q<;>rfl
theorem aMI {g:GlD} (h0:(ofZ g).1=0):fV (ofZ g).2=true:=by
  obtain ⟨hr,S,hS,hm,_⟩:=aLk h0
  obtain ⟨hgl,hfr,hmay⟩:=i6 hr
  rw [hS]
  unfold fV ofD
  dsimp only
  obtain ⟨z,z1,z2⟩:=hm.base.zero
  have hz0:=(List.getElem?_eq_some_iff.1 z1).1
  have hcl:=aAx g.p
  have hfirst:yD S=true:=by
    unfold yD
    have:S.getD 0 noS=z:=by rw [List.getD_eq_getElem?_getD,z1]; rfl
    rw [this,(hm.base.ok z (List.mem_of_getElem? z1)).2.1,z2]; rfl
  have hcnt:(j6 g.p).all pQ=true:=by
    rw [List.all_eq_true]
    intro p hp
    unfold j6 at hp
    obtain ⟨x,hx,rfl⟩:=List.mem_map.1 hp
    obtain ⟨hx1,hx2⟩:=List.mem_filter.1 hx
    have hx2:1 < x.hi:=of_decide_eq_true hx2
    obtain ⟨m1,m2,m3,_⟩:=aBH (hmay x hx1)
    unfold pQ
    simp only [Bool.and_eq_true,decide_eq_true_eq]
    exact ⟨m1,m2,by omega,m3⟩
  have hst:S.all (iO S (many (dE g.p):Int) (j6 g.p).length)=true:=by
    rw [List.all_eq_true]
    intro s hs
    obtain ⟨i,hi⟩:=List.mem_iff_getElem?.1 hs
    obtain ⟨o1,o2,o3⟩:=hm.base.ok s hs
    obtain ⟨c1,c2⟩:=hm.codes hi
    obtain ⟨p1,p2⟩:=aEP o3
    unfold iO
    simp only [Bool.and_eq_true,decide_eq_true_eq]
    refine ⟨p1,by omega,by omega,aHX (by omega) o1,?_,aEe fun q ru row h1 h2=>?_⟩
    · rw [o2]
      refine aF9 o1 (Int.le_refl _) fun q hq hc=>?_
      unfold sM; omega
    · have hru:=hm.rule i s q ru hi h1
      obtain ⟨n1,n2⟩:=hm.next i s q row hi h2
      have hrg:=aBp (g:=g) (D:=cZ g s.l q) (b:=-1) (fun d hd=>by
        have:=xS o1 _ (aAT hd).1
        obtain ⟨_,_,_,m4,m5,_⟩:=aBH (hmay _ (aEq (by omega) this.2).1)
        exact ⟨m4,m5⟩) ⟨by omega,by omega⟩
      unfold xR
      simp only [Bool.and_eq_true,decide_eq_true_eq,List.all_eq_true]
      refine ⟨by omega,by omega,by rw [n1,aA9],fun m hmr=>?_⟩
      obtain ⟨j,hj⟩:=List.mem_iff_getElem?.1 hmr
      have hjl:=(List.getElem?_eq_some_iff.1 hj).1
      exact aPD hm.base hi (n2 j _ m (List.getElem?_eq_getElem (by omega)) hj)
  rw [aKV,decide_eq_true (show (j6 g.p).length≤512 by omega),decide_eq_true (show 1≤S.length by omega),decide_eq_true hm.base.few,hfirst,hcnt,hst]
  rfl
def gQ (m:Nat) (lo hi:Int):GlD:=⟨[0],[⟨m,lo,hi,0,true,[]⟩]⟩
section
variable {g:GlD}
theorem aOL (hp:g.p.length=1) (en st:Int→Bool) (b:Nat):lZ g en st b=[]∨lZ g en st b=[0]:=by
  unfold lZ
  rw [hp]
  have:eH 1=[0]:=rfl
  rw [this]
  cases h:gO g en st b 0 with
  | true=>right; rw [List.filter_cons_of_pos h]; rfl
  | false=>left; rw [List.filter_cons_of_neg (by rw [h]; decide)]; rfl
theorem aIh (hp:g.p.length=1) {S:List StateD} (hb:Base g S):(∀ s∈S,s.l=[]∨s.l=[0])→S.length≤2:=by
  intro h
  rcases Nat.lt_or_ge 2 S.length with h3 | h3
  · exfalso
    have h1:S[1]?=some S[1]:=List.getElem?_eq_getElem _
    have h2:S[2]?=some S[2]:=List.getElem?_eq_getElem _
    have p1:=hb.pos 1 _ (by omega) h1
    have p2:=hb.pos 2 _ (by omega) h2
    have q1:=(h _ (List.mem_of_getElem? h1)).resolve_left p1
    have q2:=(h _ (List.mem_of_getElem? h2)).resolve_left p2
    have:=hb.dist 1 2 _ _ h1 h2 (by rw [q1,q2])
    omega
  · exact h3
theorem aI6 {l:List Int} (h:rz (-1) 1 l=true):l=[]∨l=[0]:=by
  cases l with
  | nil=>exact .inl rfl
  | cons x r =>
    simp only [rz,Bool.and_eq_true,decide_eq_true_eq] at h
    obtain ⟨h1,h2,h3⟩:=h
    have hx:x=0:=by omega
    subst hx
    cases r with
    | nil=>exact .inr rfl
    | cons y r =>
      simp only [rz,Bool.and_eq_true,decide_eq_true_eq] at h3
      omega
theorem aFy (hp:g.p.length=1) {S:List StateD} (hb:Base g S):S.length≤2:=aIh hp hb fun s hs=>by
  have:=(hb.ok s hs).1
  rw [hp] at this
  exact aI6 this
theorem aIG (hp:g.p.length=1) {en st:Int→Bool} {b:Nat} {S:List StateD} (hb:Base g S):(fF g en st b S).2.1=0:=by
  by_cases h:lZ g en st b=[]
  · rw [mN h]
  · rw [o7 h]
    have hl:=(aOL hp en st b).resolve_left h
    show (iB g S (lZ g en st b)).2.1=0
    rw [hl]
    unfold iB
    have h2:=aFy hp hb
    have h3:(dU g [0]).length≤1:=by
      unfold dU
      rw [List.length_map]
      exact List.length_filter_le _ _
    split
    · rfl
    · rw [if_neg (by omega),if_neg (by omega)]
theorem aEc (hp:g.p.length=1) {en st:Int→Bool}:∀ {B:List Nat} {S:List StateD},Base g S→(iD g en st B S).1=0
  | [],S,_=>rfl
  | b::r,S,hb=>by
    have h1:=aIG hp (en:=en) (st:=st) (b:=b) hb
    rw [oI,if_pos h1]
    exact aEc hp (aCi hb h1).1
theorem aHw (hp:g.p.length=1) {B:List Nat} {k:Nat} {c:Int} {S:List StateD} (hb:Base g S):(oU g B k c S).1=0:=by
  unfold oU
  dsimp only
  rw [if_pos (aEc hp hb)]
theorem aBa (hp:g.p.length=1) {B:List Nat} {k:Nat}:∀ {n c:Nat} {S:List StateD},Made g B S k c→k < S.length→(iC g B k n (c:Int) S).1=0
  | 0,c,S,_,_=>rfl
  | n+1,c,S,hm,hk=>by
    have h1:=aHw hp (B:=B) (k:=k) (c:=(c:Int)) hm.base
    rw [v9,if_pos h1]
    obtain ⟨c1,c2⟩:=aCX hm hk h1
    exact aBa hp (n:=n) (c:=c+1) c1 (by have:=c2.len; omega)
theorem aEG (hp:g.p.length=1) {B:List Nat}:∀ {n k:Nat} {S:List StateD},Made g B S k 0→k≤S.length→(mW g B n k S).1=0
  | 0,k,S,_,_=>rfl
  | n+1,k,S,hm,hk=>by
    rw [x7]
    by_cases h1:k < S.length
    · rw [if_pos h1]
      obtain ⟨s,hs⟩:∃ s,S[k]?=some s:=⟨_,List.getElem?_eq_getElem h1⟩
      have hgd:S.getD k noS=s:=by rw [List.getD_eq_getElem?_getD,hs]; rfl
      rw [hgd]
      have h2:(iC g B k (eD (s.r.length:Int)).toNat 0 S).1=0:=aBa hp (c:=0) hm h1
      rw [if_pos h2]
      obtain ⟨c1,c2⟩:=rL (c:=0) hm h1 h2
      have hz:((0:Nat):Int)=0:=rfl
      rw [hz,Nat.zero_add] at c1
      rw [hz] at c2
      obtain ⟨s',h3,h4⟩:=c2 k s hs
      have hr:s'.r=s.r:=by
        rw [(hm.base.ok s (List.mem_of_getElem? hs)).2.1,(c1.base.ok s' (List.mem_of_getElem? h3)).2.1,h4]
      have c3:=Made.next' h3 (by rw [hr]; exact c1)
      exact aEG hp (n:=n) c3 (by have:=(List.getElem?_eq_some_iff.1 h3).1; omega)
    · rw [if_neg h1]
end
theorem aOZ {m:Nat} {lo hi:Int} (hm0:m≠0) (hm:m < 2 ^ 256) (h1:1≤lo) (h2:lo≤hi) (h3:2≤hi) (h4:hi≤4096):∃ S s,ofZ (gQ m lo hi)=(0,ofD (gQ m lo hi) S)∧S.length=2∧S[1]?=some s∧s.r.length=1∧s.next.length=3∧j6 (gQ m lo hi).p=[(lo,hi)]:=by
  have hr:j0 (gQ m lo hi)=true:=by
    unfold j0 gQ
    simp only [List.length_cons,List.length_nil,List.all_cons,List.all_nil,Bool.and_true,Bool.and_eq_true,decide_eq_true_eq]
    refine ⟨by omega,rfl,?_⟩
    unfold aDn
    simp only [Bool.and_eq_true,decide_eq_true_eq]
    exact ⟨hm0,h1,h2,h4,by omega,by omega,rfl⟩
  have hp:(gQ m lo hi).p.length=1:=rfl
  have hz:(mW (gQ m lo hi) (ofB (gQ m lo hi)) 256 0 [noS]).1=0:=aEG hp (aLY _ _) (Nat.zero_le _)
  have hmk:=aFq hz
  have hoz:ofZ (gQ m lo hi)=(0,ofD (gQ m lo hi) (mW (gQ m lo hi) (ofB (gQ m lo hi)) 256 0 [noS]).2):=by
    unfold ofZ
    rw [if_pos hr,if_pos hz]
  generalize (mW (gQ m lo hi) (ofB (gQ m lo hi)) 256 0 [noS]).2=S at hmk hoz
  have hle:=aFy hp hmk.base
  obtain ⟨b,hb,hbit⟩:∃ b,b < 256∧m.testBit b=true:=by
    rcases Nat.eq_zero_or_pos m with h | h
    · exact absurd h hm0
    · obtain ⟨b,hb⟩:=Nat.exists_testBit_of_ne_zero hm0
      refine ⟨b,?_,hb⟩
      rcases Nat.lt_or_ge b 256 with h5 | h5
      · exact h5
      · rw [Nat.testBit_lt_two_pow (Nat.lt_of_lt_of_le hm (Nat.pow_le_pow_right (by decide) h5))] at hb; cases hb
  obtain ⟨k,b',hk,hkm,hB,hb',hlz⟩:=aCW (gQ m lo hi) hb
  obtain ⟨z,z1,z2⟩:=hmk.base.zero
  obtain ⟨c1,c2⟩:=hmk.codes z1
  have hzr:z.r=[]:=by rw [(hmk.base.ok z (List.mem_of_getElem? z1)).2.1,z2]; rfl
  rw [hzr] at c2
  have c2:z.next.length=1:=c2
  obtain ⟨row,hrow⟩:∃ row,z.next[0]?=some row:=⟨_,List.getElem?_eq_getElem (by omega)⟩
  obtain ⟨n1,n2⟩:=hmk.next 0 z 0 row z1 hrow
  obtain ⟨mv,hmv⟩:∃ mv,row[k]?=some mv:=⟨_,List.getElem?_eq_getElem (by rw [n1,aA9]; exact hkm)⟩
  have hok:=n2 k b' mv hB hmv
  have hne:lZ (gQ m lo hi) (cV (gQ m lo hi) 0 (cZ (gQ m lo hi) z.l (0:Nat))) (dS (cZ (gQ m lo hi) z.l (0:Nat))) b'≠[]:=by
    rw [hlz,z2]
    intro he
    have hin:(0:Int)∈lZ (gQ m lo hi) (cV (gQ m lo hi) 0 (cZ (gQ m lo hi) [] (0:Nat))) (dS (cZ (gQ m lo hi) [] (0:Nat))) b:=by
      unfold lZ
      rw [List.mem_filter]
      refine ⟨by show (0:Int)∈eH 1; decide,?_⟩
      unfold gO
      have e1:((gQ m lo hi).at 0).s.testBit b=true:=hbit
      have e2:cV (gQ m lo hi) 0 (cZ (gQ m lo hi) [] (0:Nat)) 0=true:=rfl
      rw [e1,e2]; rfl
    rw [he] at hin; cases hin
  have h2s:S.length=2:=by
    rcases hok with ⟨g1,_⟩ | ⟨_,kk,t,g2,g3,g4,g5⟩
    · exact absurd g1 hne
    · have hk0:kk≠0:=by
        rintro rfl
        rw [z1] at g3; cases g3
        exact hne (by rw [← g4]; exact z2)
      have:=(List.getElem?_eq_some_iff.1 g3).1
      omega
  obtain ⟨s,hs⟩:∃ s,S[1]?=some s:=⟨_,List.getElem?_eq_getElem (by omega)⟩
  have hsl:s.l=[0]:=by
    have h5:=(hmk.base.ok s (List.mem_of_getElem? hs)).1
    rw [hp] at h5
    exact (aI6 h5).resolve_left (hmk.base.pos 1 s (by omega) hs)
  have hc0:ctd (gQ m lo hi) 0=true:=by
    show decide (1 < hi)=true
    exact decide_eq_true (by omega)
  have hsr:s.r.length=1:=by
    rw [(hmk.base.ok s (List.mem_of_getElem? hs)).2.1,hsl]
    unfold dU
    rw [List.filter_cons_of_pos hc0]; rfl
  obtain ⟨d1,d2⟩:=hmk.codes hs
  rw [hsr] at d2
  refine ⟨S,s,hoz,h2s,hs,hsr,d2,?_⟩
  unfold j6 gQ
  rw [List.filter_cons_of_pos (by unfold aDh; exact decide_eq_true (show 1 < hi by omega))]; rfl
def mQ (g:GlD) (q:Int):Int:=if ctd g q then sM g q else -1
def z7 (g:GlD):List Int:=(eH g.p.length).map (mQ g)
theorem aLe (g:GlD):(z7 g).length=g.p.length:=by unfold z7; rw [List.length_map,rR]
theorem aLd {g:GlD} {k:Nat} (hk:k < g.p.length):(z7 g)[k]?=some (mQ g (k:Int)):=by
  unfold z7 eH
  rw [List.getElem?_map,List.getElem?_map,List.getElem?_range hk]; rfl
def aJi:List Int→Int→Int→Int
  | [],_,_=>-1
  | r::R,c,n=>if r=n then c % 3 else aJi R (c / 3) n
theorem yB (r:Int) (R:List Int) (c n:Int):aJi (r::R) c n=if r=n then c % 3 else aJi R (c / 3) n:=rfl
theorem aER:∀ {R:List Int} {c n:Int},(∀ r∈R,r≠n)→aJi R c n=-1
  | [],_,_,_=>rfl
  | r::R,c,n,h=>by
    rw [yB,if_neg (h r (by simp))]
    exact aER fun x hx=>h x (by simp [hx])
def iA (g:GlD) (l:List Int) (c p:Int):Int:=aJi (dU g l) c (mQ g p)
theorem aFR (g:GlD) (q:Int):0≤sM g q:=by unfold sM; omega
theorem aME {g:GlD} {l:List Int}:∀ r∈dU g l,0≤r:=by
  intro r hr
  unfold dU at hr
  obtain ⟨q,_,rfl⟩:=List.mem_map.1 hr
  exact aFR g q
theorem aAD (g:GlD) (p:Int) (r:List Int):dU g (p::r)=if ctd g p then sM g p::dU g r else dU g r:=by
  unfold dU
  cases h:ctd g p with
  | true=>rw [List.filter_cons_of_pos h]; rfl
  | false=>rw [List.filter_cons_of_neg (by simp [h])]; rfl
theorem aC1 {g:GlD}:∀ {l:List Int} {a c:Int},rz a g.p.length l=true→-1≤a→cZ g l c=l.map fun p=>(p,iA g l c p)
  | [],_,_,_,_=>rfl
  | p::r,a,c,h,ha=>by
    simp only [rz,Bool.and_eq_true,decide_eq_true_eq] at h
    rw [aES,List.map_cons]
    cases hc:ctd g p with
    | true =>
      rw [if_pos rfl,aC1 (a:=p) (c:=c / 3) h.2.2 (by omega)]
      have e1:iA g (p::r) c p=c % 3:=by
        unfold iA mQ
        rw [aAD,if_pos hc,if_pos hc,yB,if_pos rfl]
      have e2:r.map (fun q=>(q,iA g r (c / 3) q))=r.map fun q=>(q,iA g (p::r) c q):=by
        refine List.map_congr_left fun q hq=>?_
        have hq2:=xS h.2.2 q hq
        unfold iA
        rw [aAD,if_pos hc,yB,if_neg]
        unfold mQ
        split
        · have:=aIO (g:=g) (p:=p) (q:=q) (by omega) hq2.1 hc (by omega)
          omega
        · have:=aFR g p
          omega
      rw [e1,e2]
    | false =>
      rw [if_neg (by decide),aC1 (a:=p) (c:=c) h.2.2 (by omega)]
      have e1:iA g (p::r) c p=-1:=by
        unfold iA mQ
        rw [hc,if_neg (by decide)]
        exact aER fun x hx=>by have:=aME x hx; omega
      have e2:r.map (fun q=>(q,iA g r c q))=r.map fun q=>(q,iA g (p::r) c q):=by
        refine List.map_congr_left fun q hq=>?_
        unfold iA
        rw [aAD,hc,if_neg (by decide)]
      rw [e1,e2]
theorem rz1 {g:GlD} {l:List Int} {c:Int} (h:rz (-1) g.p.length l=true):cZ g l c=l.map fun p=>(p,iA g l c p):=aC1 h (Int.le_refl _)
def aOD (g:GlD) (l m:List Int) (c q:Int):Bool:=m.any fun p=>decide (iA g l c p≠0)&&(g.at p).next.contains q
def aEi (g:GlD) (l:List Int) (c q:Int):Bool:=l.contains q&&(decide (iA g l c q=0) || decide (iA g l c q=2))
def aBo (g:GlD) (l:List Int) (c:Int):Int→List Int→Int
  | best,[]=>best
  | best,p::r=>aBo g l c (if decide (iA g l c p≠0)&&((g.at p).last&&(decide (best < 0) || decide ((g.at p).rule < best))) then (g.at p).rule else best) r
theorem aHW {g:GlD} {l:List Int} {c:Int}:∀ {m:List Int} {b:Int},pA g b (m.map fun p=>(p,iA g l c p))=aBo g l c b m
  | [],_=>rfl
  | p::r,b=>by
    rw [List.map_cons,aDT]
    exact aHW
theorem aOE {g:GlD} {l:List Int} {c q:Int} {at_:Nat} (h:rz (-1) g.p.length l=true) (h0:at_≠0):cV g at_ (cZ g l c) q=aOD g l l c q:=by
  unfold cV aOD
  rw [rz1 h,List.any_map,decide_eq_false h0,Bool.false_and,Bool.false_or]; rfl
theorem aMm {g:GlD} {c q:Int}:cV g 0 (cZ g [] c) q=g.first.contains q:=by
  unfold cV cZ
  simp
theorem aNa {g:GlD} {l:List Int} {c q:Int} (h:rz (-1) g.p.length l=true):dS (cZ g l c) q=aEi g l c q:=by
  unfold dS aEi
  rw [rz1 h,List.any_map]
  rw [Bool.eq_iff_iff]
  simp only [List.any_eq_true,Function.comp,Bool.and_eq_true,Bool.or_eq_true,decide_eq_true_eq,List.contains_eq_mem]
  constructor
  · rintro ⟨p,hp,rfl,hd⟩
    exact ⟨hp,hd⟩
  · rintro ⟨hp,hd⟩
    exact ⟨q,hp,rfl,hd⟩
theorem aN3 {g:GlD} {l:List Int} {c:Int} (h:rz (-1) g.p.length l=true):pA g (-1) (cZ g l c)=aBo g l c (-1) l:=by
  rw [rz1 h,aHW]
def rbL (av bv nv:Value) (c:List Nat) (n:Int) (cv sv ev:Value):List Value:=av::bv::nv::(dQ c n cv sv++[ev])
section
variable {av bv nv:Value} {c:List Nat} {n:Int} {cv sv ev:Value}
theorem uP (hc:c.length=256):(rbL av bv nv c n cv sv ev).length=263:=by simp [rbL,cJ hc]
theorem aPN:(rbL av bv nv c n cv sv ev)[0]?=some av:=rfl
theorem aMB:(rbL av bv nv c n cv sv ev)[1]?=some bv:=rfl
theorem aJM:(rbL av bv nv c n cv sv ev)[2]?=some nv:=rfl
theorem aFZ {i:Nat} (hc:c.length=256) (hi:i < 259):(rbL av bv nv c n cv sv ev)[i+3]?=(dQ c n cv sv)[i]?:=by
  show (dQ c n cv sv++[ev])[i]?=_
  rw [List.getElem?_append_left (by rw [cJ hc]; exact hi)]
theorem aNX (hc:c.length=256):(rbL av bv nv c n cv sv ev)[259]?=some (.int .i64 n):=by rw [show 259=256+3 from rfl,aFZ hc (by omega),aEI hc]
theorem aJN (hc:c.length=256):(rbL av bv nv c n cv sv ev)[260]?=some cv:=by rw [show 260=257+3 from rfl,aFZ hc (by omega),mK hc]
theorem uO (hc:c.length=256):(rbL av bv nv c n cv sv ev)[261]?=some sv:=by rw [show 261=258+3 from rfl,aFZ hc (by omega),kC hc]
theorem aJO (hc:c.length=256):(rbL av bv nv c n cv sv ev)[262]?=some ev:=by
  show (dQ c n cv sv++[ev])[259]?=_
  rw [List.getElem?_append_right (by rw [cJ hc]; omega),cJ hc]; rfl
theorem aHD (v:Value):(rbL av bv nv c n cv sv ev).set 2 v=rbL av bv v c n cv sv ev:=rfl
theorem aIV (hc:c.length=256) (v:Value):(rbL av bv nv c n cv sv ev).set 260 v=rbL av bv nv c n v sv ev:=by
  show av::bv::nv::((dQ c n cv sv++[ev]).set 257 v)=_
  rw [List.set_append_left _ _ (by rw [cJ hc]; omega),aB5 hc]; rfl
theorem aCw (hc:c.length=256) (v:Value):(rbL av bv nv c n cv sv ev).set 261 v=rbL av bv nv c n cv v ev:=by
  show av::bv::nv::((dQ c n cv sv++[ev]).set 258 v)=_
  rw [List.set_append_left _ _ (by rw [cJ hc]; omega),aFx hc]; rfl
theorem aCx (hc:c.length=256) (v:Value):(rbL av bv nv c n cv sv ev).set 262 v=rbL av bv nv c n cv sv v:=by
  show av::bv::nv::((dQ c n cv sv++[ev]).set 259 v)=_
  rw [List.set_append_right _ _ (by rw [cJ hc]; omega),cJ hc]; rfl
end
theorem ixR {ro:Ro} {g:GlD} {h:T Obj} {nv:Value} {q:Int} (hn:ZI ro h nv (z7 g)) (h0:0≤q) (h1:q < g.p.length):dI 1 nv (.int .i64 q)=some (gP 1 nv q.toNat)∧load1 ro h (gP 1 nv q.toNat)=some (.int .i64 (mQ g q)):=by
  refine ⟨hn.ixI .i64 h0 (by rw [aLe]; exact h1),hn.load' ?_⟩
  have:=aLd (g:=g) (k:=q.toNat) (by omega)
  rwa [Int.toNat_of_nonneg h0] at this
section
variable {ro:Ro} {g:GlD} {bid:Nat} {av bv nv cv sv ev lv rv uv wv:Value} {c:List Nat} {n:Int} {e0:TypeId} {l:List Int} {code q:Int}
set_option maxRecDepth 4000 in
set_option maxHeartbeats 1000000 in
theorem zD (hl:(dU g l).length≤1000000) (hc0:0≤code) (hc1:code≤1000000) (hq0:0≤q) (hq1:q < g.p.length)
    {h:T Obj} {nx:Nat} {K:KV} (hf:Fr h nx) (hb:h.get bid=some (.cells (rbL av bv nv c n cv sv ev).toArray e0)) (hn:ZI ro h nv (z7 g)) (hrv:ZI ro h rv (dU g l))
    (hK:∀ nx',nx≤nx'→K (.int .i64 (iA g l code q)) h nx'):aN Tryz.prog ro gW [ptr bid,.agg #[lv,rv,uv,wv],.int .i64 code,.int .i64 q] h nx K:=by
  apply uS
  unfold lO
  refine fT hf (Nat.le_refl _) fun h1 hs1 hf1 g1 _=>?_
  have g1:h1.get nx=some (.cells [lv,rv,uv,wv].toArray aP):=g1
  have hb1:=hs1 _ _ hb
  have hrv1:=hrv.sub hs1
  have c1:([lv,rv,uv,wv]:List Value)[1]?=some rv:=rfl
  have hrl:=hrv1.len
  have b2:=aJM (av:=av) (bv:=bv) (nv:=nv) (c:=c) (n:=n) (cv:=cv) (sv:=sv) (ev:=ev)
  obtain ⟨ixn,ldn⟩:=ixR (hn.sub hs1) hq0 hq1
  generalize hD:iA g l code q=D at hK
  unfold iA at hD
  generalize dU g l=R at hl hrv hrv1 hrl hD
  refine bI (fun j e h' nx'=>∃ (k:Nat) (c':Int),k+j=R.length∧nx+1≤nx'∧h'=h1∧0≤c'∧c'≤1000000∧aJi (R.drop k) c' (mQ g q)=D∧e 0=ptr bid∧e 2=.int .i64 c'∧e 3=.int .i64 q∧e 5=ptr nx∧e 9=.int .i64 k) ?_ (n:=R.length)
    ⟨0,code,by omega,by omega,rfl,hc0,hc1,hD,rfl,rfl,rfl,rfl,rfl⟩
  rintro j e h' nx' ⟨k,c',hj,hnx,rfl,q0,q1,hr,e0',e2,e3,e5,e9⟩ Q' hq hx
  unfold nP
  rw [e0',e2,e3,e5,e9]
  (repeat (first | refine aB (by simp (disch:=first | omega | exact Int.natCast_nonneg _ | assumption) only [BB,B2,↓reduceIte,Nat.reduceLeDiff,Nat.reduceAdd,CC,g1,c1,hrl]<;>rfl) ?_ | refine aD ?_ | refine aE ?_ | with_reducible first | refine aG ?_ | refine aF ?_ | refine aH ?_ | refine aI ?_ | refine aK ?_ | refine aJ ?_ | refine aL ?_ | refine aC ?_))
  refine dO (fun hk=>?_) (fun hk=>?_)
  · have hk:k < R.length:=by omega
    have ixr:=hrv1.ix .i64 hk
    have ldr:=hrv1.load hk
    rw [eL hk,yB] at hr
    generalize R[k]=x at ldr hr
    (repeat (first | refine aB (by simp (disch:=first | omega | exact Int.natCast_nonneg _ | assumption) only [BB,B2,↓reduceIte,Nat.reduceLeDiff,Nat.reduceAdd,CC,g1,c1,ixr,ldr,a8,hb1,b2,ixn,ldn]<;>rfl) ?_ | refine aD ?_ | refine aE ?_ | with_reducible first | refine aG ?_ | refine aF ?_ | refine aH ?_ | refine aI ?_ | refine aK ?_ | refine aJ ?_ | refine aL ?_ | refine aC ?_))
    refine nB (fun u=>?_) (fun u=>?_)
    · rw [if_pos u] at hr
      (repeat (first | refine aB (by simp (disch:=first | omega | exact Int.natCast_nonneg _ | assumption) only [BB,B2,↓reduceIte,Nat.reduceLeDiff,Nat.reduceAdd,CC]<;>rfl) ?_ | refine aD ?_ | refine aE ?_ | with_reducible first | refine aG ?_ | refine aF ?_ | refine aH ?_ | refine aI ?_ | refine aK ?_ | refine aJ ?_ | refine aL ?_ | refine aC ?_))
      refine hx _ _ _ _ (fun e=>by cases e) (mM ?_)
      subst hr
      exact ⟨h,hs1,hK _ (by omega)⟩
    · rw [if_neg u] at hr
      (repeat (first | refine aB (by simp (disch:=first | omega | exact Int.natCast_nonneg _ | assumption) only [BB,B2,↓reduceIte,Nat.reduceLeDiff,Nat.reduceAdd,CC]<;>rfl) ?_ | refine aD ?_ | refine aE ?_ | with_reducible first | refine aG ?_ | refine aF ?_ | refine aH ?_ | refine aI ?_ | refine aK ?_ | refine aJ ?_ | refine aL ?_ | refine aC ?_))
      exact hq (j - 1) _ h' _ _ (by omega) ⟨k+1,c' / 3,by omega,by omega,rfl,by omega,by omega,hr,e0',rfl,e3,e5,rfl⟩ (Sub.refl _)
  · rw [List.drop_eq_nil_of_le (by omega)] at hr
    have hr:(-1:Int)=D:=hr
    subst hr
    (repeat (first | refine aB (by simp (disch:=first | omega | exact Int.natCast_nonneg _ | assumption) only [BB,B2,↓reduceIte,Nat.reduceLeDiff,Nat.reduceAdd,CC]<;>rfl) ?_ | refine aD ?_ | refine aE ?_ | with_reducible first | refine aG ?_ | refine aF ?_ | refine aH ?_ | refine aI ?_ | refine aK ?_ | refine aJ ?_ | refine aL ?_ | refine aC ?_))
    refine hx _ _ _ _ (fun e=>by cases e) (fG (dR ?_))
    unfold jA
    exact ⟨h,hs1,hK _ (by omega)⟩
set_option maxRecDepth 4000 in
theorem aAf (hl:(dU g l).length≤1000000) (hc0:0≤code) (hc1:code≤1000000) (hq0:0≤q) (hq1:q < g.p.length)
    {h:T Obj} {nx:Nat} {K:KV} (hf:Fr h nx) (hb:h.get bid=some (.cells (rbL av bv nv c n cv sv ev).toArray e0)) (hn:ZI ro h nv (z7 g)) (hrv:ZI ro h rv (dU g l))
    (hK:∀ nx',nx≤nx'→K (.bool (decide (iA g l code q≠0))) h nx'):aN Tryz.prog ro iM [ptr bid,.agg #[lv,rv,uv,wv],.int .i64 code,.int .i64 q] h nx K:=by
  apply vS
  unfold mH
  refine fT hf (Nat.le_refl _) fun h1 hs1 hf1 g1 _=>?_
  have g1:h1.get nx=some (.cells [lv,rv,uv,wv].toArray aP):=g1
  refine aB (cR (l:=[lv,rv,uv,wv]) g1 rfl) ?_
  refine zD hl hc0 hc1 hq0 hq1 (hf1.mono (show nx+1≤nx+7 by omega)) (hs1 _ _ hb) (hn.sub hs1) (hrv.sub hs1) fun n2 hn2=>?_
  refine aB (aS _ _ _) ?_
  have e:(!decide (iA g l code q=0))=decide (iA g l code q≠0):=by
    by_cases u:iA g l code q=0<;>simp [u]
  rw [e]
  exact ⟨h,hs1,hK _ (by omega)⟩
set_option maxRecDepth 4000 in
theorem aDw (hll:l.length≤1000000) (hl:(dU g l).length≤1000000) (hc0:0≤code) (hc1:code≤1000000) (hq0:0≤q) (hq1:q < g.p.length)
    {h:T Obj} {nx:Nat} {K:KV} (hf:Fr h nx) (hb:h.get bid=some (.cells (rbL av bv nv c n cv sv ev).toArray e0)) (hn:ZI ro h nv (z7 g)) (hlv:ZI ro h lv l) (hrv:ZI ro h rv (dU g l))
    (hK:∀ nx',nx≤nx'→K (.bool (aEi g l code q)) h nx'):aN Tryz.prog ro jU [ptr bid,.agg #[lv,rv,uv,wv],.int .i64 code,.int .i64 q] h nx K:=by
  apply uU
  unfold lP
  refine fT hf (Nat.le_refl _) fun h1 hs1 hf1 g1 _=>?_
  have g1:h1.get nx=some (.cells [lv,rv,uv,wv].toArray aP):=g1
  refine aB (cR (l:=[lv,rv,uv,wv]) g1 rfl) ?_
  refine zD hl hc0 hc1 hq0 hq1 (hf1.mono (show nx+1≤nx+7 by omega)) (hs1 _ _ hb) (hn.sub hs1) (hrv.sub hs1) fun n2 hn2=>?_
  have c0:([lv,rv,uv,wv]:List Value)[0]?=some lv:=rfl
  (repeat (first | refine aB (by simp (disch:=first | omega | exact Int.natCast_nonneg _ | assumption) only [BB,B2,↓reduceIte,Nat.reduceLeDiff,Nat.reduceAdd,CC,g1,c0]<;>rfl) ?_ | refine aD ?_ | refine aE ?_ | with_reducible first | refine aG ?_ | refine aF ?_ | refine aH ?_ | refine aI ?_ | refine aK ?_ | refine aJ ?_ | refine aL ?_ | refine aC ?_))
  refine aAC hll (hlv.sub hs1) fun n3 hn3=>?_
  have hk:∀ n9,nx≤n9→K (.bool (aEi g l code q)) h n9:=hK
  unfold aEi at hk
  generalize l.contains q=B at hk ⊢
  cases B with
  | false =>
    (repeat (first | refine aB (by simp (disch:=first | omega | exact Int.natCast_nonneg _ | assumption) only [BB,B2,↓reduceIte,Nat.reduceLeDiff,Nat.reduceAdd,CC]<;>rfl) ?_ | refine aD ?_ | refine aE ?_ | with_reducible first | refine aG ?_ | refine aF ?_ | refine aH ?_ | refine aI ?_ | refine aK ?_ | refine aJ ?_ | refine aL ?_ | refine aC ?_))
    exact ⟨h,hs1,hk _ (by omega)⟩
  | true =>
    (repeat (first | refine aB (by simp (disch:=first | omega | exact Int.natCast_nonneg _ | assumption) only [BB,B2,↓reduceIte,Nat.reduceLeDiff,Nat.reduceAdd,CC]<;>rfl) ?_ | refine aD ?_ | refine aE ?_ | with_reducible first | refine aG ?_ | refine aF ?_ | refine aH ?_ | refine aI ?_ | refine aK ?_ | refine aJ ?_ | refine aL ?_ | refine aC ?_))
    refine nB (fun u=>?_) (fun u=>?_)
    · rw [u] at hk
      (repeat (first | refine aB (by simp (disch:=first | omega | exact Int.natCast_nonneg _ | assumption) only [BB,B2,↓reduceIte,Nat.reduceLeDiff,Nat.reduceAdd,CC]<;>rfl) ?_ | refine aD ?_ | refine aE ?_ | with_reducible first | refine aG ?_ | refine aF ?_ | refine aH ?_ | refine aI ?_ | refine aK ?_ | refine aJ ?_ | refine aL ?_ | refine aC ?_))
      exact ⟨h,hs1,hk _ (by omega)⟩
    · rw [decide_eq_false u] at hk
      (repeat (first | refine aB (by simp (disch:=first | omega | exact Int.natCast_nonneg _ | assumption) only [BB,B2,↓reduceIte,Nat.reduceLeDiff,Nat.reduceAdd,CC]<;>rfl) ?_ | refine aD ?_ | refine aE ?_ | with_reducible first | refine aG ?_ | refine aF ?_ | refine aH ?_ | refine aI ?_ | refine aK ?_ | refine aJ ?_ | refine aL ?_ | refine aC ?_))
      refine aB (aR _ _ _) ?_
      (repeat (first | refine aB (by simp (disch:=first | omega | exact Int.natCast_nonneg _ | assumption) only [BB,B2,↓reduceIte,Nat.reduceLeDiff,Nat.reduceAdd,CC]<;>rfl) ?_ | refine aD ?_ | refine aE ?_ | with_reducible first | refine aG ?_ | refine aF ?_ | refine aH ?_ | refine aI ?_ | refine aK ?_ | refine aJ ?_ | refine aL ?_ | refine aC ?_))
      exact ⟨h,hs1,hk _ (by omega)⟩
set_option maxRecDepth 4000 in
set_option maxHeartbeats 1000000 in
theorem aDL {at_:Nat} (h00:at_=0→l=[]) (hz:rz (-1) g.p.length l=true) (hg:j0 g=true) (hll:l.length≤1000000) (hl:(dU g l).length≤1000000) (hc0:0≤code) (hc1:code≤1000000)
    {h:T Obj} {nx:Nat} {K:KV} (hf:Fr h nx) (hb:h.get bid=some (.cells (rbL av bv nv c n cv sv ev).toArray e0)) (hn:ZI ro h nv (z7 g)) (ha:ZI ro h av g.first) (hP:SlR ro h bv 9 (mV ro h) g.p) (hlv:ZI ro h lv l) (hrv:ZI ro h rv (dU g l)) (hvo:[lv,rv,uv,wv].all bT=true)
    (hK:∀ nx',nx≤nx'→K (.bool (cV g at_ (cZ g l code) q)) h nx'):aN Tryz.prog ro i9 [ptr bid,.int .i64 (at_:Int),.agg #[lv,rv,uv,wv],.int .i64 code,.int .i64 q] h nx K:=by
  obtain ⟨hgl,hfr,hmay⟩:=i6 hg
  apply tK
  unfold kV
  refine fT hf (Nat.le_refl _) fun h1 hs1 hf1 g1 _=>?_
  have g1:h1.get nx=some (.cells [lv,rv,uv,wv].toArray aP):=g1
  have hb1:=hs1 _ _ hb
  have b0:=aPN (av:=av) (bv:=bv) (nv:=nv) (c:=c) (n:=n) (cv:=cv) (sv:=sv) (ev:=ev)
  have b1:=aMB (av:=av) (bv:=bv) (nv:=nv) (c:=c) (n:=n) (cv:=cv) (sv:=sv) (ev:=ev)
  refine nB (fun u=>?_) (fun u=>?_)
  · obtain rfl:at_=0:=by omega
    obtain rfl:=h00 rfl
    rw [aMm] at hK
    (repeat (first | refine aB (by simp (disch:=first | omega | exact Int.natCast_nonneg _ | assumption) only [BB,B2,↓reduceIte,Nat.reduceLeDiff,Nat.reduceAdd,CC,a8,hb1,b0]<;>rfl) ?_ | refine aD ?_ | refine aE ?_ | with_reducible first | refine aG ?_ | refine aF ?_ | refine aH ?_ | refine aI ?_ | refine aK ?_ | refine aJ ?_ | refine aL ?_ | refine aC ?_))
    refine aAC (by have:=uW hfr; omega) (ha.sub hs1) fun n3 hn3=>?_
    exact ⟨h,hs1,hK _ (by omega)⟩
  · rw [aOE hz (by omega)] at hK
    refine aF ?_
    unfold aOD at hK
    have hlv1:=hlv.sub hs1
    have c0:([lv,rv,uv,wv]:List Value)[0]?=some lv:=rfl
    have hln:=hlv1.len
    have hP1:=hP.sub hs1 (mV.sub hs1)
    generalize hD:(l.any fun p=>decide (iA g l code p≠0)&&(g.at p).next.contains q)=D at hK
    refine bI (fun j e h' nx'=>∃ (k:Nat),k+j=l.length∧nx+1≤nx'∧h'=h1∧((l.drop k).any fun p=>decide (iA g l code p≠0)&&(g.at p).next.contains q)=D∧e 0=ptr bid∧e 3=.int .i64 code∧e 4=.int .i64 q∧e 7=ptr nx∧e 11=.int .i64 k) ?_ (n:=l.length)
      ⟨0,by omega,by omega,rfl,hD,rfl,rfl,rfl,rfl,rfl⟩
    rintro j e h' nx' ⟨k,hj,hnx,rfl,hr,e0',e3,e4,e7,e11⟩ Q' hq hx
    unfold mS
    rw [e0',e3,e4,e7,e11]
    (repeat (first | refine aB (by simp (disch:=first | omega | exact Int.natCast_nonneg _ | assumption) only [BB,B2,↓reduceIte,Nat.reduceLeDiff,Nat.reduceAdd,CC,g1,c0,hln]<;>rfl) ?_ | refine aD ?_ | refine aE ?_ | with_reducible first | refine aG ?_ | refine aF ?_ | refine aH ?_ | refine aI ?_ | refine aK ?_ | refine aJ ?_ | refine aL ?_ | refine aC ?_))
    refine dO (fun hk=>?_) (fun hk=>?_)
    · have hk:k < l.length:=by omega
      have ixl:=hlv1.ix .i64 hk
      have ldl:=hlv1.load hk
      have hrng:=xS hz _ (List.getElem_mem hk)
      rw [eL hk,List.any_cons] at hr
      generalize l[k]=p at ldl hr hrng
      refine aG (aB (cR (l:=[lv,rv,uv,wv]) g1 rfl) ?_)
      (repeat (first | refine aB (by simp (disch:=first | omega | exact Int.natCast_nonneg _ | assumption) only [BB,B2,↓reduceIte,Nat.reduceLeDiff,Nat.reduceAdd,CC,g1,c0,ixl,ldl]<;>rfl) ?_ | refine aD ?_ | refine aE ?_ | with_reducible first | refine aG ?_ | refine aF ?_ | refine aH ?_ | refine aI ?_ | refine aK ?_ | refine aJ ?_ | refine aL ?_ | refine aC ?_))
      refine aAf hl hc0 hc1 (by omega) hrng.2 (hf1.mono (show nx+1≤_ by omega)) hb1 (hn.sub hs1) (hrv.sub hs1) fun n2 hn2=>?_
      have hno:∀ (e':Env) n',e' 0=ptr bid→e' 3=.int .i64 code→e' 4=.int .i64 q→e' 7=ptr nx→e' 11=.int .i64 ((k:Int)+1)→nx+1≤n'→(decide (iA g l code p≠0)&&(g.at p).next.contains q)=false→Q' .normal e' h' n':=fun e' n' f0 f3 f4 f7 f11 hn' hf9=>by
        rw [hf9,Bool.false_or] at hr
        exact hq (j - 1) _ h' _ _ (by omega) ⟨k+1,by omega,hn',rfl,hr,f0,f3,f4,f7,f11⟩ (Sub.refl _)
      cases hrp:decide (iA g l code p≠0) with
      | false =>
        (repeat (first | refine aB (by simp (disch:=first | omega | exact Int.natCast_nonneg _ | assumption) only [BB,B2,↓reduceIte,Nat.reduceLeDiff,Nat.reduceAdd,CC]<;>rfl) ?_ | refine aD ?_ | refine aE ?_ | with_reducible first | refine aG ?_ | refine aF ?_ | refine aH ?_ | refine aI ?_ | refine aK ?_ | refine aJ ?_ | refine aL ?_ | refine aC ?_))
        exact hno _ _ e0' e3 e4 e7 rfl (by omega) (by rw [hrp]; rfl)
      | true =>
        obtain ⟨hat,hat2⟩:=aEq (g:=g) (q:=p) (by omega) hrng.2
        have hpl:p.toNat < g.p.length:=by omega
        obtain ⟨y,⟨nv',rfl,y1,y2⟩,z2,z3,z4,z5⟩:=hP1.at hpl
        have hge:g.p[p.toNat]=g.at p:=by
          have:=List.getElem?_eq_getElem hpl
          rw [hat2] at this
          exact (Option.some.inj this).symm
        rw [hge] at y1 y2
        have ixp:=hP1.ixI .i64 (by omega) hrng.2
        have f8:=z4 8
        have l8:=z5 8 nv' rfl
        have hmn:=(aBH (hmay _ hat)).2.2.2.2.2
        (repeat (first | refine aB (by simp (disch:=first | omega | exact Int.natCast_nonneg _ | assumption) only [BB,B2,↓reduceIte,Nat.reduceLeDiff,Nat.reduceAdd,CC,a8,hb1,b1,g1,c0,ixl,ldl,ixp,f8,l8]<;>rfl) ?_ | refine aD ?_ | refine aE ?_ | with_reducible first | refine aG ?_ | refine aF ?_ | refine aH ?_ | refine aI ?_ | refine aK ?_ | refine aJ ?_ | refine aL ?_ | refine aC ?_))
        refine aAC (by have:=uW hmn; omega) y1 fun n3 hn3=>?_
        cases hin:(g.at p).next.contains q with
        | false =>
          (repeat (first | refine aB (by simp (disch:=first | omega | exact Int.natCast_nonneg _ | assumption) only [BB,B2,↓reduceIte,Nat.reduceLeDiff,Nat.reduceAdd,CC]<;>rfl) ?_ | refine aD ?_ | refine aE ?_ | with_reducible first | refine aG ?_ | refine aF ?_ | refine aH ?_ | refine aI ?_ | refine aK ?_ | refine aJ ?_ | refine aL ?_ | refine aC ?_))
          exact hno _ _ e0' e3 e4 e7 rfl (by omega) (by rw [hin,Bool.and_false])
        | true =>
          rw [hrp,hin] at hr
          have hr:true=D:=hr
          subst hr
          (repeat (first | refine aB (by simp (disch:=first | omega | exact Int.natCast_nonneg _ | assumption) only [BB,B2,↓reduceIte,Nat.reduceLeDiff,Nat.reduceAdd,CC]<;>rfl) ?_ | refine aD ?_ | refine aE ?_ | with_reducible first | refine aG ?_ | refine aF ?_ | refine aH ?_ | refine aI ?_ | refine aK ?_ | refine aJ ?_ | refine aL ?_ | refine aC ?_))
          refine hx _ _ _ _ (fun e=>by cases e) (mM ?_)
          exact ⟨h,hs1,hK _ (by omega)⟩
    · rw [List.drop_eq_nil_of_le (by omega)] at hr
      have hr:false=D:=hr
      subst hr
      (repeat (first | refine aB (by simp (disch:=first | omega | exact Int.natCast_nonneg _ | assumption) only [BB,B2,↓reduceIte,Nat.reduceLeDiff,Nat.reduceAdd,CC]<;>rfl) ?_ | refine aD ?_ | refine aE ?_ | with_reducible first | refine aG ?_ | refine aF ?_ | refine aH ?_ | refine aI ?_ | refine aK ?_ | refine aJ ?_ | refine aL ?_ | refine aC ?_))
      refine hx _ _ _ _ (fun e=>by cases e) (fG (dR ?_))
      unfold iX
      exact ⟨h,hs1,hK _ (by omega)⟩
end
section
variable {ro:Ro} {g:GlD} {bid:Nat} {av bv nv cv sv ev lv rv uv wv:Value} {c:List Nat} {n:Int} {e0:TypeId} {l:List Int} {code q:Int}
theorem aI5 (b p:Int) (r:List Int):aBo g l code b (p::r)=aBo g l code (if decide (iA g l code p≠0)&&((g.at p).last&&(decide (b < 0) || decide ((g.at p).rule < b))) then (g.at p).rule else b) r:=rfl
set_option maxRecDepth 4000 in
set_option maxHeartbeats 1000000 in
theorem aF8 (hz:rz (-1) g.p.length l=true) (hg:j0 g=true) (hll:l.length≤1000000) (hl:(dU g l).length≤1000000) (hc0:0≤code) (hc1:code≤1000000)
    {h:T Obj} {nx:Nat} {K:KV} (hf:Fr h nx) (hb:h.get bid=some (.cells (rbL av bv nv c n cv sv ev).toArray e0)) (hn:ZI ro h nv (z7 g)) (hP:SlR ro h bv 9 (mV ro h) g.p) (hlv:ZI ro h lv l) (hrv:ZI ro h rv (dU g l))
    (hK:∀ nx',nx≤nx'→K (.int .i64 (pA g (-1) (cZ g l code))) h nx'):aN Tryz.prog ro kQ [ptr bid,.agg #[lv,rv,uv,wv],.int .i64 code] h nx K:=by
  obtain ⟨hgl,hfr,hmay⟩:=i6 hg
  rw [aN3 hz] at hK
  apply vU
  unfold mI
  refine fT hf (Nat.le_refl _) fun h1 hs1 hf1 g1 _=>?_
  have g1:h1.get nx=some (.cells [lv,rv,uv,wv].toArray aP):=g1
  have hb1:=hs1 _ _ hb
  have b1:=aMB (av:=av) (bv:=bv) (nv:=nv) (c:=c) (n:=n) (cv:=cv) (sv:=sv) (ev:=ev)
  have hlv1:=hlv.sub hs1
  have c0:([lv,rv,uv,wv]:List Value)[0]?=some lv:=rfl
  have hln:=hlv1.len
  have hP1:=hP.sub hs1 (mV.sub hs1)
  generalize hD:aBo g l code (-1) l=D at hK
  refine bI (fun j e h' nx'=>∃ (k:Nat) (b:Int),k+j=l.length∧nx+1≤nx'∧h'=h1∧aBo g l code b (l.drop k)=D∧e 0=ptr bid∧e 2=.int .i64 code∧e 4=ptr nx∧e 7=.int .i64 b∧e 8=.int .i64 k) ?_ (n:=l.length)
    ⟨0,-1,by omega,by omega,rfl,hD,rfl,rfl,rfl,rfl,rfl⟩
  rintro j e h' nx' ⟨k,b,hj,hnx,rfl,hr,e0',e2,e4,e7,e8⟩ Q' hq hx
  unfold oB
  rw [e0',e2,e4,e7,e8]
  (repeat (first | refine aB (by simp (disch:=first | omega | exact Int.natCast_nonneg _ | assumption) only [BB,B2,↓reduceIte,Nat.reduceLeDiff,Nat.reduceAdd,CC,g1,c0,hln]<;>rfl) ?_ | refine aD ?_ | refine aE ?_ | with_reducible first | refine aG ?_ | refine aF ?_ | refine aH ?_ | refine aI ?_ | refine aK ?_ | refine aJ ?_ | refine aL ?_ | refine aC ?_))
  refine dO (fun hk=>?_) (fun hk=>?_)
  · have hk:k < l.length:=by omega
    have ixl:=hlv1.ix .i64 hk
    have ldl:=hlv1.load hk
    have hrng:=xS hz _ (List.getElem_mem hk)
    rw [eL hk,aI5] at hr
    generalize l[k]=p at ldl hr hrng
    obtain ⟨hat,hat2⟩:=aEq (g:=g) (q:=p) (by omega) hrng.2
    have hpl:p.toNat < g.p.length:=by omega
    obtain ⟨y,⟨nv',rfl,y1,y2⟩,z2,z3,z4,z5⟩:=hP1.at hpl
    have hge:g.p[p.toNat]=g.at p:=by
      have:=List.getElem?_eq_getElem hpl
      rw [hat2] at this
      exact (Option.some.inj this).symm
    rw [hge] at y1 y2 z3
    have ixp:=hP1.ixI .i64 (by omega) hrng.2
    generalize g.at p=P at hr y1 y2 z3
    (repeat (first | refine aB (by simp (disch:=first | omega | exact Int.natCast_nonneg _ | assumption) only [BB,B2,↓reduceIte,Nat.reduceLeDiff,Nat.reduceAdd,CC,g1,c0,ixl,ldl,a8,hb1,b1,ixp,z3]<;>rfl) ?_ | refine aD ?_ | refine aE ?_ | with_reducible first | refine aG ?_ | refine aF ?_ | refine aH ?_ | refine aI ?_ | refine aK ?_ | refine aJ ?_ | refine aL ?_ | refine aC ?_))
    refine kR aM3 rfl (x:=nU P nv') rfl rfl (aJI y1.ok) hf1 (show nx+1≤nx'+17 by omega) fun h3 hs3 hf3 g3 hne3=>?_
    have g13:=hs3 _ _ g1
    have d7:(nU P nv')[7]?=some (.bool P.last):=rfl
    have d6:(nU P nv')[6]?=some (.int .i64 P.rule):=rfl
    have ldl3:=(hlv1.sub hs3).load' (x:=p) (i:=k) (by
      have:=hlv1.load hk
      rw [ldl] at this
      have:l[k]=p:=by simpa using this.symm
      rw [List.getElem?_eq_getElem hk,this])
    have hj2:∀ (e':Env) n' (b':Int),e' 0=ptr bid→e' 2=.int .i64 code→e' 4=ptr nx→e' 7=.int .i64 b'→e' 8=.int .i64 k→nx+1≤n'→aBo g l code b' (l.drop (k+1))=D→hI ro Q' e' h3 n':=fun e' n' b' f0 f2 f4 f7 f8 hn' hD'=>by
      unfold hI
      rw [f8]
      (repeat (first | refine aB (by simp (disch:=first | omega | exact Int.natCast_nonneg _ | assumption) only [BB,B2,↓reduceIte,Nat.reduceLeDiff,Nat.reduceAdd,CC]<;>rfl) ?_ | refine aD ?_ | refine aE ?_ | with_reducible first | refine aG ?_ | refine aF ?_ | refine aH ?_ | refine aI ?_ | refine aK ?_ | refine aJ ?_ | refine aL ?_ | refine aC ?_))
      exact hq (j - 1) _ h' _ _ (by omega) ⟨k+1,b',by omega,by omega,rfl,hD',f0,f2,f4,f7,rfl⟩ hs3
    (repeat (first | refine aB (by simp (disch:=first | omega | exact Int.natCast_nonneg _ | assumption) only [BB,B2,↓reduceIte,Nat.reduceLeDiff,Nat.reduceAdd,CC,g3,d7]<;>rfl) ?_ | refine aD ?_ | refine aE ?_ | with_reducible first | refine aG ?_ | refine aF ?_ | refine aH ?_ | refine aI ?_ | refine aK ?_ | refine aJ ?_ | refine aL ?_ | refine aC ?_))
    cases hla:P.last with
    | false =>
      rw [hla] at hr
      simp only [Bool.false_and,Bool.and_false,Bool.false_eq_true,if_false] at hr
      (repeat (first | refine aB (by simp (disch:=first | omega | exact Int.natCast_nonneg _ | assumption) only [BB,B2,↓reduceIte,Nat.reduceLeDiff,Nat.reduceAdd,CC]<;>rfl) ?_ | refine aD ?_ | refine aE ?_ | with_reducible first | refine aG ?_ | refine aF ?_ | refine aH ?_ | refine aI ?_ | refine aK ?_ | refine aJ ?_ | refine aL ?_ | refine aC ?_))
      exact hj2 _ _ b e0' e2 e4 e7 e8 (by omega) hr
    | true =>
      rw [hla] at hr
      simp only [Bool.true_and] at hr
      refine aH ?_
      (repeat (first | refine aB (by simp (disch:=first | omega | exact Int.natCast_nonneg _ | assumption) only [BB,B2,↓reduceIte,Nat.reduceLeDiff,Nat.reduceAdd,CC]<;>rfl) ?_ | refine aD ?_ | refine aE ?_ | with_reducible first | refine aG ?_ | refine aF ?_ | refine aH ?_ | refine aI ?_ | refine aK ?_ | refine aJ ?_ | refine aL ?_ | refine aC ?_))
      refine aB (cR (l:=[lv,rv,uv,wv]) g13 rfl) ?_
      (repeat (first | refine aB (by simp (disch:=first | omega | exact Int.natCast_nonneg _ | assumption) only [BB,B2,↓reduceIte,Nat.reduceLeDiff,Nat.reduceAdd,CC,g13,c0,ixl,ldl3]<;>rfl) ?_ | refine aD ?_ | refine aE ?_ | with_reducible first | refine aG ?_ | refine aF ?_ | refine aH ?_ | refine aI ?_ | refine aK ?_ | refine aJ ?_ | refine aL ?_ | refine aC ?_))
      refine aAf hl hc0 hc1 (by omega) hrng.2 (hf3.mono (show nx'+17+1≤_ by omega)) (hs3 _ _ hb1) ((hn.sub hs1).sub hs3) ((hrv.sub hs1).sub hs3) fun n2 hn2=>?_
      cases hrp:decide (iA g l code p≠0) with
      | false =>
        rw [hrp] at hr
        simp only [Bool.false_and,Bool.false_eq_true,if_false] at hr
        (repeat (first | refine aB (by simp (disch:=first | omega | exact Int.natCast_nonneg _ | assumption) only [BB,B2,↓reduceIte,Nat.reduceLeDiff,Nat.reduceAdd,CC]<;>rfl) ?_ | refine aD ?_ | refine aE ?_ | with_reducible first | refine aG ?_ | refine aF ?_ | refine aH ?_ | refine aI ?_ | refine aK ?_ | refine aJ ?_ | refine aL ?_ | refine aC ?_))
        exact hj2 _ _ b e0' e2 e4 e7 e8 (by omega) hr
      | true =>
        rw [hrp] at hr
        simp only [Bool.true_and] at hr
        (repeat (first | refine aB (by simp (disch:=first | omega | exact Int.natCast_nonneg _ | assumption) only [BB,B2,↓reduceIte,Nat.reduceLeDiff,Nat.reduceAdd,CC]<;>rfl) ?_ | refine aD ?_ | refine aE ?_ | with_reducible first | refine aG ?_ | refine aF ?_ | refine aH ?_ | refine aI ?_ | refine aK ?_ | refine aJ ?_ | refine aL ?_ | refine aC ?_))
        refine dO (fun u=>?_) (fun u=>?_)
        · rw [decide_eq_true u] at hr
          simp only [Bool.true_or,if_true] at hr
          (repeat (first | refine aB (by simp (disch:=first | omega | exact Int.natCast_nonneg _ | assumption) only [BB,B2,↓reduceIte,Nat.reduceLeDiff,Nat.reduceAdd,CC,g3,d6]<;>rfl) ?_ | refine aD ?_ | refine aE ?_ | with_reducible first | refine aG ?_ | refine aF ?_ | refine aH ?_ | refine aI ?_ | refine aK ?_ | refine aJ ?_ | refine aL ?_ | refine aC ?_))
          exact hj2 _ _ P.rule e0' e2 e4 rfl e8 (by omega) hr
        · rw [decide_eq_false (by omega)] at hr
          simp only [Bool.false_or] at hr
          (repeat (first | refine aB (by simp (disch:=first | omega | exact Int.natCast_nonneg _ | assumption) only [BB,B2,↓reduceIte,Nat.reduceLeDiff,Nat.reduceAdd,CC,g3,d6]<;>rfl) ?_ | refine aD ?_ | refine aE ?_ | with_reducible first | refine aG ?_ | refine aF ?_ | refine aH ?_ | refine aI ?_ | refine aK ?_ | refine aJ ?_ | refine aL ?_ | refine aC ?_))
          refine dO (fun w=>?_) (fun w=>?_)
          · rw [decide_eq_true w] at hr
            simp only [if_true] at hr
            (repeat (first | refine aB (by simp (disch:=first | omega | exact Int.natCast_nonneg _ | assumption) only [BB,B2,↓reduceIte,Nat.reduceLeDiff,Nat.reduceAdd,CC,g3,d6]<;>rfl) ?_ | refine aD ?_ | refine aE ?_ | with_reducible first | refine aG ?_ | refine aF ?_ | refine aH ?_ | refine aI ?_ | refine aK ?_ | refine aJ ?_ | refine aL ?_ | refine aC ?_))
            exact hj2 _ _ P.rule e0' e2 e4 rfl e8 (by omega) hr
          · rw [decide_eq_false (by omega)] at hr
            simp only [Bool.false_eq_true,if_false] at hr
            (repeat (first | refine aB (by simp (disch:=first | omega | exact Int.natCast_nonneg _ | assumption) only [BB,B2,↓reduceIte,Nat.reduceLeDiff,Nat.reduceAdd,CC,g3,d6]<;>rfl) ?_ | refine aD ?_ | refine aE ?_ | with_reducible first | refine aG ?_ | refine aF ?_ | refine aH ?_ | refine aI ?_ | refine aK ?_ | refine aJ ?_ | refine aL ?_ | refine aC ?_))
            exact hj2 _ _ b e0' e2 e4 e7 e8 (by omega) hr
  · rw [List.drop_eq_nil_of_le (by omega)] at hr
    have hr:b=D:=hr
    subst hr
    (repeat (first | refine aB (by simp (disch:=first | omega | exact Int.natCast_nonneg _ | assumption) only [BB,B2,↓reduceIte,Nat.reduceLeDiff,Nat.reduceAdd,CC]<;>rfl) ?_ | refine aD ?_ | refine aE ?_ | with_reducible first | refine aG ?_ | refine aF ?_ | refine aH ?_ | refine aI ?_ | refine aK ?_ | refine aJ ?_ | refine aL ?_ | refine aC ?_))
    refine hx _ _ _ _ (fun e=>by cases e) (fG (dR ?_))
    unfold jZ
    have e7':∀ e9:Env,e9 7=.int .i64 b→∃ h2,Sub h2 h'∧K (e9 7) h2 (nx'+5+2):=fun e9 h9=>by
      rw [h9]
      exact ⟨h,hs1,hK _ (by omega)⟩
    exact e7' _ e7
end
structure Rb (h:T Obj) (bid sid:Nat) (av bv nv:Value) (c:List Nat) (n:Int) (cv:Value) (S:List StateD) (cs:List (List Value)):Prop where
  hc:c.length=256
  blk:h.get bid=some (.cells (rbL av bv nv c n cv (.slice (some (own sid 4)) cs.length cs.length) (.int .i64 0)).toArray aO)
  row:h.get sid=some (.cells cs.flatten.toArray aP)
  z4:∀ x∈cs,x.length=4
  len:cs.length=S.length
  few:S.length≤256
  pos:0 < S.length
def RSt (ro:Ro) (h:T Obj) (cs:List (List Value)) (S:List StateD):Prop:=∀ (i:Nat) x t,cs[i]?=some x→S[i]?=some t→eA ro h x t
theorem RSt.sub {ro:Ro} {h h':T Obj} {cs:List (List Value)} {S:List StateD} (hs:RSt ro h cs S) (hh:Sub h h'):RSt ro h' cs S:=fun i x t h1 h2=>eA.sub hh _ _ (hs i x t h1 h2)
def KpF (e' e:Env):Prop:=e' 0=e 0∧e' 1=e 1∧e' 5=e 5
section
variable {ro:Ro} {g:GlD} {bid sid:Nat} {av bv nv cv lw:Value} {c:List Nat} {n:Int} {S:List StateD} {cs:List (List Value)} {l:List Int}
theorem Rb.own {h:T Obj} (hB:Rb h bid sid av bv nv c n cv S cs):bV h (.slice (some (own sid 4)) cs.length cs.length) 4 aP cs 0:=.inr ⟨sid,Nat.zero_le _,rfl,hB.z4,hB.row⟩
theorem Rb.ne {h:T Obj} (hB:Rb h bid sid av bv nv c n cv S cs):bid≠sid:=by
  rintro rfl
  have h1:=hB.blk
  rw [hB.row] at h1
  simp only [Option.some.injEq,Obj.cells.injEq] at h1
  exact absurd h1.2.1 (by decide)
theorem Rb.sub {h h':T Obj} (hB:Rb h bid sid av bv nv c n cv S cs) (hs:Sub h h'):Rb h' bid sid av bv nv c n cv S cs:=⟨hB.hc,hs _ _ hB.blk,hs _ _ hB.row,hB.z4,hB.len,hB.few,hB.pos⟩
theorem Rb.slr {h h':T Obj} (hB:Rb h bid sid av bv nv c n cv S cs) (hs:RSt ro h' cs S) (hh:Sub h' h):SlR ro h (.slice (some (V.own sid 4)) cs.length cs.length) 4 (eA ro h) S:=⟨cs,hB.own.sl,hB.len,fun i x t h1 h2=>eA.sub hh _ _ (hs i x t h1 h2)⟩
set_option maxRecDepth 4000 in
set_option maxHeartbeats 1000000 in
theorem aJp {e0:Env} {x:List Int} {lx:Value} {h:T Obj} {nx:Nat} {Q:KE} (hx:ZI ro h lx x) (hl:ZI ro h lw l) (hlen:x.length=l.length) (hb:l.length≤1000000)
    (e1:e0 1=lw) (e6:e0 6=lx) (e7:e0 7=.bool true) (e8:e0 8=.int .i64 0) (hQ:∀ e' n',nx≤n'→e' 7=.bool (decide (x=l))→KpF e' e0→Q (.exit 2) e' h n'):d5 (jW ro) e0 h nx Q:=by
  have hln:=hl.len
  refine bI (fun j e h' nx'=>∃ (k:Nat) (B:Bool),k+j=l.length∧nx≤nx'∧h'=h∧(B=true ↔ x.take k=l.take k)∧e 1=lw∧e 6=lx∧e 7=.bool B∧e 8=.int .i64 k∧KpF e e0) ?_ (n:=l.length)
    ⟨0,true,by omega,by omega,rfl,by simp,e1,e6,e7,e8,rfl,rfl,rfl⟩
  rintro j e h' nx' ⟨k,B,hj,hnx,rfl,hB,e1,e6,e7,e8,hk⟩ Q' hq hx'
  unfold jW
  rw [e1,e6,e7,e8]
  (repeat (first | refine aB (by simp (disch:=first | omega | exact Int.natCast_nonneg _ | assumption) only [BB,B2,↓reduceIte,Nat.reduceLeDiff,Nat.reduceAdd,CC,hln]<;>rfl) ?_ | refine aD ?_ | refine aE ?_ | with_reducible first | refine aG ?_ | refine aF ?_ | refine aH ?_ | refine aI ?_ | refine aK ?_ | refine aJ ?_ | refine aL ?_ | refine aC ?_))
  refine dO (fun hkl=>?_) (fun hkl=>?_)
  · have k1:k < x.length:=by omega
    have k2:k < l.length:=by omega
    have x1:=hx.ix .i64 k1
    have x2:=hl.ix .i64 k2
    have x3:=hx.load k1
    have x4:=hl.load k2
    have htk:(x.take (k+1)=l.take (k+1)) ↔ (x.take k=l.take k∧x[k]=l[k]):=by
      rw [List.take_succ_eq_append_getElem k1,List.take_succ_eq_append_getElem k2]
      constructor
      · intro h9
        have:=List.append_inj h9 (by simp; omega)
        exact ⟨this.1,by simpa using this.2⟩
      · rintro ⟨h1,h2⟩
        rw [h1,h2]
    cases B with
    | false =>
      have hne:¬ x.take k=l.take k:=fun h9=>by have:=hB.2 h9; cases this
      (repeat (first | refine aB (by simp (disch:=first | omega | exact Int.natCast_nonneg _ | assumption) only [BB,B2,↓reduceIte,Nat.reduceLeDiff,Nat.reduceAdd,CC]<;>rfl) ?_ | refine aD ?_ | refine aE ?_ | with_reducible first | refine aG ?_ | refine aF ?_ | refine aH ?_ | refine aI ?_ | refine aK ?_ | refine aJ ?_ | refine aL ?_ | refine aC ?_))
      exact hq (j - 1) _ h' _ _ (by omega) ⟨k+1,false,by omega,by omega,rfl,⟨fun hd=>by (cases hd),fun hd=>absurd (htk.1 hd).1 hne⟩,e1,e6,rfl,rfl,hk⟩ (Sub.refl _)
    | true =>
      have hyes:=hB.1 rfl
      (repeat (first | refine aB (by simp (disch:=first | omega | exact Int.natCast_nonneg _ | assumption) only [BB,B2,↓reduceIte,Nat.reduceLeDiff,Nat.reduceAdd,CC,x1,x2,x3,x4]<;>rfl) ?_ | refine aD ?_ | refine aE ?_ | with_reducible first | refine aG ?_ | refine aF ?_ | refine aH ?_ | refine aI ?_ | refine aK ?_ | refine aJ ?_ | refine aL ?_ | refine aC ?_))
      refine aB (aR _ _ _) ?_
      (repeat (first | refine aB (by simp (disch:=first | omega | exact Int.natCast_nonneg _ | assumption) only [BB,B2,↓reduceIte,Nat.reduceLeDiff,Nat.reduceAdd,CC]<;>rfl) ?_ | refine aD ?_ | refine aE ?_ | with_reducible first | refine aG ?_ | refine aF ?_ | refine aH ?_ | refine aI ?_ | refine aK ?_ | refine aJ ?_ | refine aL ?_ | refine aC ?_))
      refine hq (j - 1) _ h' _ _ (by omega) ⟨k+1,decide (x[k]=l[k]),by omega,by omega,rfl,⟨fun hd=>htk.2 ⟨hyes,of_decide_eq_true hd⟩,fun hd=>decide_eq_true (htk.1 hd).2⟩,e1,e6,rfl,rfl,hk⟩ (Sub.refl _)
  · rw [List.take_of_length_le (by omega),List.take_of_length_le (by omega)] at hB
    have hBd:B=decide (x=l):=by
      cases B with
      | true=>exact (decide_eq_true (hB.1 rfl)).symm
      | false=>exact (decide_eq_false fun h9=>by have:=hB.2 h9; cases this).symm
    rw [hBd] at e7
    exact aF (hx' _ _ _ _ (fun e=>by cases e) (hQ _ _ (by omega) e7 hk))
set_option maxRecDepth 4000 in
set_option maxHeartbeats 1000000 in
theorem aJo {e0:Env} {h h0:T Obj} {nx:Nat} {Q:KE} (hB:Rb h bid sid av bv nv c n cv S cs) (hS:RSt ro h0 cs S) (hh:Sub h0 h) (hl:ZI ro h lw l) (hb:l.length≤1000000) (hne:l≠[]) (hz:∃ s,S[0]?=some s∧s.l=[])
    (e0':e0 0=ptr bid) (e1:e0 1=lw) (e5:e0 5=.int .i64 1)
    (hQ1:∀ e' n' k,nx≤n'→S.findIdx? (isL l)=some k→e' 4=.int .i64 (k:Int)→Q .ret e' h n') (hQ2:∀ e' n',nx≤n'→S.findIdx? (isL l)=none→e' 0=ptr bid→e' 1=lw→Q (.exit 0) e' h n'):d5 (jV ro) e0 h nx Q:=by
  have hfew:=hB.few
  have hpos:=hB.pos
  have hsl:=hB.slr hS hh
  have hsn:=hsl.len
  have hln:=hl.len
  have hb1:=hB.blk
  have b261:=uO (av:=av) (bv:=bv) (nv:=nv) (n:=n) (cv:=cv) (sv:=.slice (some (own sid 4)) cs.length cs.length) (ev:=.int .i64 0) hB.hc
  obtain ⟨s0,z1,z2⟩:=hz
  refine bI (fun j e h' nx'=>∃ (k:Nat),k+j=S.length∧1≤k∧nx≤nx'∧h'=h∧(∀ (i:Nat) s,i < k→S[i]?=some s→s.l≠l)∧e 0=ptr bid∧e 1=lw∧e 5=.int .i64 k) ?_ (n:=S.length - 1)
    ⟨1,by omega,by omega,by omega,rfl,fun i s hi hs=>by
      obtain rfl:i=0:=by omega
      rw [z1] at hs; cases hs
      rw [z2]; exact Ne.symm hne,e0',e1,e5⟩
  rintro j e h' nx' ⟨k,hj,hk1,hnx,rfl,hno,e0',e1,e5⟩ Q' hq hx
  unfold jV
  rw [e0',e1,e5]
  generalize Value.slice (some (own sid 4)) cs.length cs.length=sv at *
  (repeat (first | refine aB (by simp (disch:=first | omega | exact Int.natCast_nonneg _ | assumption) only [BB,B2,↓reduceIte,Nat.reduceLeDiff,Nat.reduceAdd,CC,a8,hb1,b261,hsn]<;>rfl) ?_ | refine aD ?_ | refine aE ?_ | with_reducible first | refine aG ?_ | refine aF ?_ | refine aH ?_ | refine aI ?_ | refine aK ?_ | refine aJ ?_ | refine aL ?_ | refine aC ?_))
  refine dO (fun hkl=>?_) (fun hkl=>?_)
  · have hkl:k < S.length:=by omega
    obtain ⟨y,⟨lx,rv,uv,wv,rfl,y1,y2,y3,y4,y5⟩,w2,w3,w4,w5⟩:=hsl.at hkl
    have hget:=List.getElem?_eq_getElem hkl
    have six:=hsl.ix .i64 hkl
    have f0:=w4 0
    have l0:=w5 0 lx rfl
    have lx1:=y1.len
    have hj4:∀ (e':Env) n',nx≤n'→e' 0=ptr bid→e' 1=lw→e' 5=.int .i64 k→S[k].l≠l→fU ro Q' e' h' n':=fun e' n' hn' f0 f1 f5 hd=>by
      unfold fU
      rw [f5]
      (repeat (first | refine aB (by simp (disch:=first | omega | exact Int.natCast_nonneg _ | assumption) only [BB,B2,↓reduceIte,Nat.reduceLeDiff,Nat.reduceAdd,CC]<;>rfl) ?_ | refine aD ?_ | refine aE ?_ | with_reducible first | refine aG ?_ | refine aF ?_ | refine aH ?_ | refine aI ?_ | refine aK ?_ | refine aJ ?_ | refine aL ?_ | refine aC ?_))
      refine hq (j - 1) _ h' _ _ (by omega) ⟨k+1,by omega,by omega,by omega,rfl,fun i s hi hs=>?_,f0,f1,rfl⟩ (Sub.refl _)
      rcases Nat.lt_or_ge i k with hik | hik
      · exact hno i s hik hs
      · obtain rfl:i=k:=by omega
        rw [hget] at hs; cases hs
        exact hd
    (repeat (first | refine aB (by simp (disch:=first | omega | exact Int.natCast_nonneg _ | assumption) only [BB,B2,↓reduceIte,Nat.reduceLeDiff,Nat.reduceAdd,CC,a8,hb1,b261,six,f0,l0,lx1,hln]<;>rfl) ?_ | refine aD ?_ | refine aE ?_ | with_reducible first | refine aG ?_ | refine aF ?_ | refine aH ?_ | refine aI ?_ | refine aK ?_ | refine aJ ?_ | refine aL ?_ | refine aC ?_))
    refine nB (fun u=>?_) (fun u=>?_)
    · refine aG ?_
      refine aJp y1 hl (by omega) hb ?_ ?_ ?_ ?_ fun e' n' hn' g7 hz=>?_
      · exact e1
      · rfl
      · rfl
      · rfl
      obtain ⟨k0,k1,k5⟩:=hz
      have k0:e' 0=ptr bid:=k0.trans e0'
      have k1:e' 1=lw:=k1.trans e1
      have k5:e' 5=.int .i64 k:=k5.trans e5
      refine fG (dR ?_)
      unfold jY
      rw [g7]
      by_cases hd:S[k].l=l
      · rw [decide_eq_true hd]
        refine aG (hx _ _ _ _ (fun e=>by cases e) ?_)
        refine hQ1 _ _ k (by omega) ?_ k5
        refine List.findIdx?_eq_some_iff_getElem.2 ⟨hkl,decide_eq_true hd,fun i hi=>?_⟩
        have:=hno i _ hi (List.getElem?_eq_getElem (by omega))
        unfold isL
        rw [decide_eq_false this]
        decide
      · rw [decide_eq_false hd]
        exact aF (hj4 _ _ (by omega) k0 k1 k5 hd)
    · refine aF ?_
      exact hj4 _ _ (by omega) e0' e1 e5 fun hd=>u (by rw [hd])
  · refine aF (hx _ _ _ _ (fun e=>by cases e) (hQ2 _ _ (by omega) ?_ e0' e1))
    refine List.findIdx?_eq_none_iff.2 fun s hs=>?_
    obtain ⟨i,hi⟩:=List.mem_iff_getElem?.1 hs
    have hil:=(List.getElem?_eq_some_iff.1 hi).1
    exact decide_eq_false (hno i s (by omega) hi)
end
theorem aA8 {g:GlD} {q:Int} (h:ctd g q=true):mQ g q=sM g q∧0≤mQ g q:=by
  have:mQ g q=sM g q:=by unfold mQ; rw [if_pos h]
  exact ⟨this,by rw [this]; exact aFR g q⟩
theorem aA7 {g:GlD} {q:Int} (h:ctd g q=false):mQ g q=-1:=by unfold mQ; rw [h]; rfl
section
variable {ro:Ro} {g:GlD} {bid sid:Nat} {av bv nv cv lw:Value} {c:List Nat} {n:Int} {S:List StateD} {cs:List (List Value)} {l:List Int} {lo:Nat}
set_option maxRecDepth 8000 in
set_option maxHeartbeats 2000000 in
theorem aF6 (hg:g.p.length≤512) (hz:rz (-1) g.p.length l=true) (hne:l≠[]) (hz0:∃ s,S[0]?=some s∧s.l=[])
    {h h0:T Obj} {nx:Nat} {K:KV} (hf:Fr h nx) (hB:Rb h bid sid av bv nv c n cv S cs) (hS:RSt ro h0 cs S) (hh:Sub h0 h) (hn:ZI ro h nv (z7 g)) (hl:bV h lw 1 cF (gL l) lo) (hlo:lo≤nx) (hlb:bid < lo)
    (hKe:(iB g S l).2.1≠0→∀ h' nx',nx≤nx'→Fr h' nx'→dY [bid] h h'→h'.get bid=some (.cells (rbL av bv nv c n cv (.slice (some (own sid 4)) cs.length cs.length) (.int .i64 (iB g S l).2.1)).toArray aO)→K (.int .i64 0) h' nx')
    (hK:(iB g S l).2.1=0→∀ h' nx' sid' cs',nx≤nx'→Fr h' nx'→dY [bid,sid] h h'→(sid'=sid∨nx≤sid')→Rb h' bid sid' av bv nv c n cv (iB g S l).2.2 cs'→lQ h' lo cs cs' S (iB g S l).2.2→K (.int .i64 (iB g S l).1) h' nx') :
    aN Tryz.prog ro kO [ptr bid,lw] h nx K:=by
  apply vO
  unfold mF
  have hll:l.length≤512:=by have:=uW hz; omega
  have hrange:∀ x∈l,0≤x∧x < g.p.length:=fun x hx=>by have:=xS hz x hx; omega
  have hzl:ZI ro h lw l:=hl.sl
  have hfew:=hB.few
  have hlen:=hzl.len
  refine aJo (l:=l) (lw:=lw) hB hS hh hzl (by omega) hne hz0 ?_ ?_ ?_ (fun e' n' k hn' hfi e4=>?_) fun e' n' hn' hfi e0 e1=>?_
  · rfl
  · rfl
  · rfl
  · have hfz:iB g S l=((k:Int),0,S):=by unfold iB; rw [hfi]
    rw [hfz] at hK
    refine mM ?_
    rw [e4]
    exact ⟨h,Sub.refl _,hK rfl h _ sid cs (by omega) (hf.mono (by omega)) (Sub.refl h).keepL (.inl rfl) hB lQ.refl⟩
  · have hfz:iB g S l=if 3 < (dU g l).length then ((0:Int),(110:Int),S) else if 256≤S.length then ((0:Int),(3:Int),S) else (((S.length:Nat):Int),(0:Int),S++[⟨l,dU g l,[],[]⟩]):=by unfold iB; rw [hfi]
    rw [hfz] at hK hKe
    refine fG (dR ?_)
    unfold jX
    refine bI (fun j e h' nx'=>∃ (k:Nat),k+j=l.length∧nx≤nx'∧Sub h h'∧Fr h' nx'∧e 0=ptr bid∧e 1=lw∧e 10=.int .i64 k∧bV h' (e 9) 1 cF (gL (dU g (l.take k))) nx) ?_ (n:=l.length) ⟨0,by omega,by omega,Sub.refl h,hf.mono (by omega),e0,e1,rfl,bV.nil⟩
    rintro j e h' nx' ⟨k,hj,hnx,hs,hf',e0,e1,e10,ho⟩ Q' hq hx
    have hB':=hB.sub hs
    have hb':=hB'.blk
    have hn':=hn.sub hs
    have b2:=aJM (av:=av) (bv:=bv) (nv:=nv) (c:=c) (n:=n) (cv:=cv) (sv:=.slice (some (own sid 4)) cs.length cs.length) (ev:=.int .i64 0)
    unfold nZ
    rw [e0,e1,e10]
    (repeat (first | refine aB (by simp (disch:=first | omega | exact Int.natCast_nonneg _ | assumption) only [BB,B2,↓reduceIte,Nat.reduceLeDiff,Nat.reduceAdd,CC,hlen]<;>rfl) ?_ | refine aD ?_ | refine aE ?_ | with_reducible first | refine aG ?_ | refine aF ?_ | refine aH ?_ | refine aI ?_ | refine aK ?_ | refine aJ ?_ | refine aL ?_ | refine aC ?_))
    refine dO (fun hk=>?_) (fun hk=>?_)
    · have hk:k < l.length:=by omega
      have hld:=(hzl.sub hs).load hk
      have hix:=hzl.ix .i64 hk
      have hxr:=hrange _ (List.getElem_mem hk)
      have hrs:dU g (l.take (k+1))=if ctd g l[k] then dU g (l.take k)++[sM g l[k]] else dU g (l.take k):=by rw [List.take_succ_eq_append_getElem hk,aIZ]
      generalize l[k]=x at hld hxr hrs
      obtain ⟨ixn,ldn⟩:=ixR hn' hxr.1 hxr.2
      have hrl:(dU g (l.take k)).length≤1000000:=by
        unfold dU
        rw [List.length_map]
        have:=List.length_filter_le (ctd g) (l.take k)
        rw [List.length_take] at this
        omega
      have hj3:∀ (e:Env) (h3:T Obj) (n3:Nat),nx'≤n3→Sub h h3→Fr h3 n3→e 0=ptr bid→e 1=lw→e 10=.int .i64 k→bV h3 (e 9) 1 cF (gL (dU g (l.take (k+1)))) nx→gY ro Q' e h3 n3:=by
        intro e h3 n3 hn3 s1 s2 e0 e1 e10 o3
        unfold gY
        rw [e10]
        (repeat (first | refine aB (by simp (disch:=first | omega | exact Int.natCast_nonneg _ | assumption) only [BB,B2,↓reduceIte,Nat.reduceLeDiff,Nat.reduceAdd,CC]<;>rfl) ?_ | refine aD ?_ | refine aE ?_ | with_reducible first | refine aG ?_ | refine aF ?_ | refine aH ?_ | refine aI ?_ | refine aK ?_ | refine aJ ?_ | refine aL ?_ | refine aC ?_))
        exact hq (j - 1) _ _ _ _ (by omega) ⟨k+1,by omega,by omega,s1,s2.mono (by omega),e0,e1,rfl,o3⟩ (Sub.refl _)
      (repeat (first | refine aB (by simp (disch:=first | omega | exact Int.natCast_nonneg _ | assumption) only [BB,B2,↓reduceIte,Nat.reduceLeDiff,Nat.reduceAdd,CC,a8,hb',b2,hix,hld,ixn,ldn]<;>rfl) ?_ | refine aD ?_ | refine aE ?_ | with_reducible first | refine aG ?_ | refine aF ?_ | refine aH ?_ | refine aI ?_ | refine aK ?_ | refine aJ ?_ | refine aL ?_ | refine aC ?_))
      cases hct:ctd g x with
      | true =>
        rw [hct,if_pos rfl] at hrs
        obtain ⟨m1,m2⟩:=aA8 hct
        refine pL (fun _=>?_) (fun u=>absurd u (by omega))
        rw [m1] at ldn
        (repeat (first | refine aB (by simp (disch:=first | omega | exact Int.natCast_nonneg _ | assumption) only [BB,B2,↓reduceIte,Nat.reduceLeDiff,Nat.reduceAdd,CC,a8,hb',b2,hix,hld,ixn,ldn]<;>rfl) ?_ | refine aD ?_ | refine aE ?_ | with_reducible first | refine aG ?_ | refine aF ?_ | refine aH ?_ | refine aI ?_ | refine aK ?_ | refine aJ ?_ | refine aL ?_ | refine aC ?_))
        refine tT ho hrl hf' (by omega) (by omega) (by omega) fun h3 w q1 q2 q3 q4=>?_
        dsimp only
        refine hj3 _ _ _ (by omega) (ho.sub q3 hf (Nat.le_refl _) hs) (q4.mono (by omega)) e0 e1 e10 ?_
        rw [hrs]; exact q1
      | false =>
        rw [hct,if_neg (by decide)] at hrs
        refine pL (fun u=>absurd u (by rw [aA7 hct]; omega)) (fun _=>?_)
        (repeat (first | refine aB (by simp (disch:=first | omega | exact Int.natCast_nonneg _ | assumption) only [BB,B2,↓reduceIte,Nat.reduceLeDiff,Nat.reduceAdd,CC]<;>rfl) ?_ | refine aD ?_ | refine aE ?_ | with_reducible first | refine aG ?_ | refine aF ?_ | refine aH ?_ | refine aI ?_ | refine aK ?_ | refine aJ ?_ | refine aL ?_ | refine aC ?_))
        refine hj3 _ _ _ (by omega) hs (hf'.mono (by omega)) e0 e1 e10 ?_
        rw [hrs]; exact ho
    · (repeat (first | refine aB (by simp (disch:=first | omega | exact Int.natCast_nonneg _ | assumption) only [BB,B2,↓reduceIte,Nat.reduceLeDiff,Nat.reduceAdd,CC]<;>rfl) ?_ | refine aD ?_ | refine aE ?_ | with_reducible first | refine aG ?_ | refine aF ?_ | refine aH ?_ | refine aI ?_ | refine aK ?_ | refine aJ ?_ | refine aL ?_ | refine aC ?_))
      refine hx _ _ _ _ (fun e=>by cases e) (fG (dR ?_))
      rw [List.take_of_length_le (by omega)] at ho
      have hrl:(dU g l).length≤512:=by
        unfold dU
        rw [List.length_map]
        have:=List.length_filter_le (ctd g) l
        omega
      have fin:∀ (e':Env) n',e' 0=ptr bid→e' 1=lw→bV h' (e' 9) 1 cF (gL (dU g l)) nx→nx'≤n'→gX ro K e' h' n':=by
        intro e' n' f0 f1 ho hn'
        unfold gX
        rw [f0,f1]
        generalize e' 9=rv at ho
        have hrn:=(ho.sl (ro:=ro)).len
        rw [mO] at hrn
        have b261:=uO (av:=av) (bv:=bv) (nv:=nv) (n:=n) (cv:=cv) (sv:=.slice (some (own sid 4)) cs.length cs.length) (ev:=.int .i64 0) hB.hc
        have hbl:=uP (av:=av) (bv:=bv) (nv:=nv) (n:=n) (cv:=cv) (sv:=.slice (some (own sid 4)) cs.length cs.length) (ev:=.int .i64 0) hB.hc
        have hbf:bid < nx:=hf.lt' hB.blk
        refine aB hrn ?_
        refine nX (fun u1=>?_) (fun u1=>?_)
        · rw [if_pos (by omega)] at hKe
          (repeat (first | refine aB (by simp (disch:=first | omega | exact Int.natCast_nonneg _ | assumption) only [BB,B2,↓reduceIte,Nat.reduceLeDiff,Nat.reduceAdd,CC,a8]<;>rfl) ?_ | refine aD ?_ | refine aE ?_ | with_reducible first | refine aG ?_ | refine aF ?_ | refine aH ?_ | refine aI ?_ | refine aK ?_ | refine aJ ?_ | refine aL ?_ | refine aC ?_))
          refine aB (dZ hb' (by rw [hbl]; omega) rfl rfl) ?_
          rw [aCx hB.hc]
          exact ⟨_,Sub.refl _,hKe (show (110:Int)≠0 by decide) _ _ (by omega) ((hf'.mono (by omega)).upd (Nat.le_refl _) (by omega)) (hs.keepL.upd (by simp)) (by rw [T.get_upd_same])⟩
        · rw [if_neg (by omega)] at hK hKe
          (repeat (first | refine aB (by simp (disch:=first | omega | exact Int.natCast_nonneg _ | assumption) only [BB,B2,↓reduceIte,Nat.reduceLeDiff,Nat.reduceAdd,CC,a8,hb',b261]<;>rfl) ?_ | refine aD ?_ | refine aE ?_ | with_reducible first | refine aG ?_ | refine aF ?_ | refine aH ?_ | refine aI ?_ | refine aK ?_ | refine aJ ?_ | refine aL ?_ | refine aC ?_))
          refine pL (fun u2=>?_) (fun u2=>?_)
          · rw [if_pos (by have:=hB.len; omega)] at hKe
            (repeat (first | refine aB (by simp (disch:=first | omega | exact Int.natCast_nonneg _ | assumption) only [BB,B2,↓reduceIte,Nat.reduceLeDiff,Nat.reduceAdd,CC,a8]<;>rfl) ?_ | refine aD ?_ | refine aE ?_ | with_reducible first | refine aG ?_ | refine aF ?_ | refine aH ?_ | refine aI ?_ | refine aK ?_ | refine aJ ?_ | refine aL ?_ | refine aC ?_))
            refine aB (dZ hb' (by rw [hbl]; omega) rfl rfl) ?_
            rw [aCx hB.hc]
            exact ⟨_,Sub.refl _,hKe (show (3:Int)≠0 by decide) _ _ (by omega) ((hf'.mono (by omega)).upd (Nat.le_refl _) (by omega)) (hs.keepL.upd (by simp)) (by rw [T.get_upd_same])⟩
          · rw [if_neg (by have:=hB.len; omega)] at hK
            have hK:=hK rfl
            have i1:=hB.ne
            have hsf:sid < nx:=hf.lt' hB.row
            have hlvok:=hl.ok
            have hrvok:=ho.ok
            have ho2:=hB'.own
            (repeat (first | refine aB (by simp (disch:=first | omega | exact Int.natCast_nonneg _ | assumption) only [BB,B2,↓reduceIte,Nat.reduceLeDiff,Nat.reduceAdd,CC,a8,hb',b261]<;>rfl) ?_ | refine aD ?_ | refine aE ?_ | with_reducible first | refine aG ?_ | refine aF ?_ | refine aH ?_ | refine aI ?_ | refine aK ?_ | refine aJ ?_ | refine aL ?_ | refine aC ?_))
            refine aB (aGF _ _ (gC hlvok) (gC hrvok)) ?_
            refine aJY hlvok hrvok rfl rfl ho2 (by have:=hB.len; have:=hB.few; omega) hf' (Nat.zero_le _) (by omega) (by omega) fun h4 w q1 q2 q3 q4=>?_
            dsimp only
            have hb4:h4.get bid=_:=q3 bid _ hb' (by intro e; exact i1 (Option.some.inj e).symm)
            have hwk:bT w=true:=by rw [q2]; rfl
            (repeat (first | refine aB (by simp (disch:=first | omega | exact Int.natCast_nonneg _ | assumption) only [BB,B2,↓reduceIte,Nat.reduceLeDiff,Nat.reduceAdd,CC,a8]<;>rfl) ?_ | refine aD ?_ | refine aE ?_ | with_reducible first | refine aG ?_ | refine aF ?_ | refine aH ?_ | refine aI ?_ | refine aK ?_ | refine aJ ?_ | refine aL ?_ | refine aC ?_))
            refine aB (dZ hb4 (by rw [hbl]; omega) hwk (gC hwk)) ?_
            rw [aCw hB.hc]
            have g5:(h4.upd bid (some (.cells (rbL av bv nv c n cv w (.int .i64 0)).toArray aO))).get bid=_:=T.get_upd_same _ _ _
            have hne5:∀ k,k≠bid→(h4.upd bid (some (.cells (rbL av bv nv c n cv w (.int .i64 0)).toArray aO))).get k=h4.get k:=fun k hk=>T.get_upd_ne _ _ hk
            have hf5:=q4.upd (o:=some (.cells (rbL av bv nv c n cv w (.int .i64 0)).toArray aO)) (Nat.le_refl _) (show bid < _ by omega)
            have hkp:dY [bid,sid] h (h4.upd bid (some (.cells (rbL av bv nv c n cv w (.int .i64 0)).toArray aO))):=((hs.keepL).trans (q3.keepL fun id hid=>by have:sid=id:=Option.some.inj hid; subst this; simp)).upd (by simp)
            generalize h4.upd bid (some (.cells (rbL av bv nv c n cv w (.int .i64 0)).toArray aO))=h5 at g5 hne5 hf5 hkp
            have b261':=uO (av:=av) (bv:=bv) (nv:=nv) (n:=n) (cv:=cv) (sv:=w) (ev:=.int .i64 0) hB.hc
            have hwl:cU w=some (.int .i64 ((S.length:Int)+1)):=by rw [q2,← hB.len]; simp [cU]
            (repeat (first | refine aB (by simp (disch:=first | omega | exact Int.natCast_nonneg _ | assumption) only [BB,B2,↓reduceIte,Nat.reduceLeDiff,Nat.reduceAdd,CC,a8,g5,b261',hwl]<;>rfl) ?_ | refine aD ?_ | refine aE ?_ | with_reducible first | refine aG ?_ | refine aF ?_ | refine aH ?_ | refine aI ?_ | refine aK ?_ | refine aJ ?_ | refine aL ?_ | refine aC ?_))
            have hsub1:((S.length:Nat):Int)+1 - 1=(S.length:Nat):=by omega
            rw [hsub1]
            subst q2
            have ht:∀ k o,h'.get k=some o→k≠sid→k≠bid→h5.get k=some o:=fun k o h1 h2 h3=>by
              rw [hne5 k h3]
              exact q3 k o h1 fun e=>h2 (Option.some.inj e).symm
            refine ⟨_,Sub.refl _,hK h5 _ _ (cs++[[lw,rv,bG,bG]]) (by omega) (hf5.mono (by omega)) hkp (.inr (by omega)) ⟨hB.hc,g5,?_,?_,?_,?_,?_⟩ ?_⟩
            · rcases q1 with ⟨h9,_⟩ | ⟨id,r1,r2,r3,r4⟩
              · cases h9
              · simp only [Value.slice.injEq,Option.some.injEq,own,Addr.mk.injEq] at r2
                rw [hne5 _ (by omega),r2.1.1]; exact r4
            · intro x hx
              rcases List.mem_append.1 hx with hx | hx
              · exact hB.z4 x hx
              · simp at hx; rw [hx]; rfl
            · simp [hB.len]
            · have:=hB.len; simp; omega
            · simp
            · refine ⟨[[lw,rv,bG,bG]],[⟨l,dU g l,[],[]⟩],rfl,rfl,rfl,?_⟩
              intro i x s hx hs9
              cases i with
              | succ i=>simp at hx
              | zero =>
                simp at hx hs9
                subst hx; subst hs9
                refine ⟨lw,rv,rfl,?_,?_,rfl,rfl⟩
                · refine hl.keepK hkp fun id hid=>?_
                  obtain ⟨p1,p2⟩:=hl.blk hid
                  have hn1:id≠bid:=by omega
                  have hn3:id≠sid:=by
                    rintro rfl
                    have:=hB.row
                    rw [this] at p2
                    simp only [Option.some.injEq,Obj.cells.injEq] at p2
                    exact absurd p2.2.1 (by decide)
                  simp; exact ⟨hn1,hn3⟩
                · rcases ho with hor | ⟨id,o1,rfl,o4,o5⟩
                  · exact .inl hor
                  · exact .inr ⟨id,by omega,rfl,o4,ht _ _ o5 (by omega) (by omega)⟩
      exact fin _ _ e0 e1 ho (by omega)
end
theorem aOd {ro:Ro} {h:T Obj} {lv rv uv wv:Value} {s:StateD} (y1:ZI ro h lv s.l) (y2:ZI ro h rv s.r) (y3:ZI ro h uv s.rule) (y4:SlR ro h wv 1 (rJ ro h) s.next):[lv,rv,uv,wv].all bT=true:=by
  simp only [List.all_cons,List.all_nil,y1.ok,y2.ok,y3.ok,y4.okC]; rfl
theorem aMC {ro:Ro} {h:T Obj} {bid:Nat} {av bv nv cv sv ev:Value} {c:List Nat} {n:Int} {e:TypeId} {f:Nat × Nat} (hc:c.length=256) (hg:h.get bid=some (.cells (rbL av bv nv c n cv sv ev).toArray e f)):loadA ro h 257 (at_ bid 3 0)=some (j5 c n):=by
  rw [bZ,hg,bA]
  simp only [Option.bind_some,tl]
  have:(rbL av bv nv c n cv sv ev).drop 3=dQ c n cv sv++[ev]:=rfl
  rw [if_pos (by rw [uP hc]; omega),this,List.take_append_of_le_length (by rw [cJ hc]; omega)]
  unfold dQ
  rw [List.take_append_of_le_length (by rw [dB hc]; omega),List.take_of_length_le (by rw [dB hc]; omega)]
  rfl
theorem Rb.updN {h:T Obj} {bid sid i:Nat} {av bv nv cv:Value} {c:List Nat} {n:Int} {S:List StateD} {cs:List (List Value)} {o:Option Obj} (hB:Rb h bid sid av bv nv c n cv S cs) (h1:i≠bid) (h2:i≠sid):Rb (h.upd i o) bid sid av bv nv c n cv S cs:=⟨hB.hc,by rw [T.get_upd_ne _ _ (Ne.symm h1)]; exact hB.blk,by rw [T.get_upd_ne _ _ (Ne.symm h2)]; exact hB.row,hB.z4,hB.len,hB.few,hB.pos⟩
theorem aEK {b:Int} {w:Value} (hw:w.cells=#[w]):dF Tryz.prog bC [(0,.int .i64 b),(1,w)]=some (.agg #[.int .i64 b,w]):=by
  have hz:=tQ
  have hp:(match und Tryz.prog bC with | some (.struct fs)=>lD Tryz.prog fs.toList | _=>none)=some [(0,1),(1,1)]:=by kernel_rfl
  unfold dF
  rw [hz]
  simp only [Option.bind]
  cases hu:und Tryz.prog bC with
  | none=>rw [hu] at hp; cases hp
  | some d =>
    rw [hu] at hp
    cases d<;>try (cases hp; done)
    rename_i fs
    simp only at hp ⊢
    rw [hp]
    simp only [kJ,hw]
    rfl
section
variable {ro:Ro} {g:GlD} {bid sid:Nat} {av bv nv cv lw:Value} {c:List Nat} {n:Int} {S:List StateD} {cs:List (List Value)}
set_option maxRecDepth 8000 in
set_option maxHeartbeats 4000000 in
theorem aF7 {at_ cl b:Nat} {code:Int} {s:StateD} (hr:j0 g=true) (hcl:∀ x∈c,x < 256) (hs:S[at_]?=some s) (hok:SOk g S) (h00:at_=0→s.l=[]) (hz0:∃ s,S[0]?=some s∧s.l=[]) (hby:(i8 c n)[cl]?=some b) (hb:b < 256) (hc0:0≤code) (hc1:code≤1000000)
    {h h0:T Obj} {nx:Nat} {K:KV} (hf:Fr h nx) (hB:Rb h bid sid av bv nv c n cv S cs) (hS:RSt ro h0 cs S) (hh:Sub h0 h) (hn:ZI ro h0 nv (z7 g)) (ha:ZI ro h0 av g.first) (hP:SlR ro h0 bv 9 (mV ro h0) g.p)
    (hKe:(fF g (cV g at_ (cZ g s.l code)) (dS (cZ g s.l code)) b S).2.1≠0→∀ h' nx' ov,nx≤nx'→Fr h' nx'→dY [bid] h h'→h'.get bid=some (.cells (rbL av bv nv c n cv (.slice (some (own sid 4)) cs.length cs.length) (.int .i64 (fF g (cV g at_ (cZ g s.l code)) (dS (cZ g s.l code)) b S).2.1)).toArray aO)→bT ov=true→K (.agg #[.int .i64 0,ov]) h' nx')
    (hK:(fF g (cV g at_ (cZ g s.l code)) (dS (cZ g s.l code)) b S).2.1=0→∀ h' nx' sid' cs' ov,nx≤nx'→Fr h' nx'→dY [bid,sid] h h'→(sid'=sid∨nx≤sid')→Rb h' bid sid' av bv nv c n cv (fF g (cV g at_ (cZ g s.l code)) (dS (cZ g s.l code)) b S).2.2 cs'→lQ h' nx cs cs' S (fF g (cV g at_ (cZ g s.l code)) (dS (cZ g s.l code)) b S).2.2 →
      bV h' ov 1 bR (oG (fF g (cV g at_ (cZ g s.l code)) (dS (cZ g s.l code)) b S).1.ops) nx→K (.agg #[.int .i64 (fF g (cV g at_ (cZ g s.l code)) (dS (cZ g s.l code)) b S).1.to,ov]) h' nx') :
    aN Tryz.prog ro kP [ptr bid,.int .i64 (at_:Int),.int .i64 code,.int .i64 (cl:Int)] h nx K:=by
  obtain ⟨hgl,hfr,hmay⟩:=i6 hr
  obtain ⟨o1,o2,o3⟩:=hok s (List.mem_of_getElem? hs)
  have hll:s.l.length≤1000000:=by have:=uW o1; omega
  have hrl:(dU g s.l).length≤1000000:=by rw [← o2]; omega
  generalize hen:cV g at_ (cZ g s.l code)=en at hK hKe
  generalize hst:dS (cZ g s.l code)=st at hK hKe
  have hstq:∀ q,aEi g s.l code q=st q:=fun q=>by rw [← aNa o1,hst]
  apply vQ
  unfold mG
  have hbk0:=hB.blk
  have hsl0:=hB.slr hS hh
  have hfew:=hB.few
  have hatl:=(List.getElem?_eq_some_iff.1 hs).1
  have hate:=(List.getElem?_eq_some_iff.1 hs).2
  have hbn:bid < nx:=hf.lt' hB.blk
  have hsn:sid < nx:=hf.lt' hB.row
  have b1:=aMB (av:=av) (bv:=bv) (nv:=nv) (c:=c) (n:=n) (cv:=cv) (sv:=.slice (some (own sid 4)) cs.length cs.length) (ev:=.int .i64 0)
  have b2:=aJM (av:=av) (bv:=bv) (nv:=nv) (c:=c) (n:=n) (cv:=cv) (sv:=.slice (some (own sid 4)) cs.length cs.length) (ev:=.int .i64 0)
  have b261:=uO (av:=av) (bv:=bv) (nv:=nv) (n:=n) (cv:=cv) (sv:=.slice (some (own sid 4)) cs.length cs.length) (ev:=.int .i64 0) hB.hc
  refine aB tQ (aFS hf (Nat.le_refl _) fun h1 hs1 hf1 g1 _=>?_)
  have g1:h1.get nx=some (.cells [Value.int .i64 0,bG].toArray bC):=g1
  have hb1:=hs1 _ _ hbk0
  obtain ⟨y,⟨lv,rv,uv,wv,rfl,y1,y2,y3,y4,y5⟩,w2,w3,w4,w5⟩:=hsl0.at hatl
  rw [hate] at y1 y2 y3 y4
  rw [o2] at y2
  have w3:=aBE hs1 w3
  have six:=hsl0.ix .i64 hatl
  have hvo:=aOd y1 (by rw [o2]; exact y2) y3 y4
  (repeat (first | refine aB (by simp (disch:=first | omega | exact Int.natCast_nonneg _ | assumption) only [BB,B2,↓reduceIte,Nat.reduceLeDiff,Nat.reduceAdd,CC,a8,hb1,b261,six,w3]<;>rfl) ?_ | refine aD ?_ | refine aE ?_ | with_reducible first | refine aG ?_ | refine aF ?_ | refine aH ?_ | refine aI ?_ | refine aK ?_ | refine aJ ?_ | refine aL ?_ | refine aC ?_))
  refine kR lI rfl (x:=[lv,rv,uv,wv]) rfl rfl hvo hf1 (show nx+1≤nx+9 by omega) fun h2 hs2 hf2 g2 _=>?_
  have hs12:=hs1.trans hs2
  have hb2:=hs12 _ _ hbk0
  have g12:=hs2 _ _ g1
  have lsp:=aMC (ro:=ro) hB.hc hb2
  (repeat (first | refine aB (by simp (disch:=first | omega | exact Int.natCast_nonneg _ | assumption) only [BB,B2,↓reduceIte,Nat.reduceLeDiff,Nat.reduceAdd,CC,a8,lsp]<;>rfl) ?_ | refine aD ?_ | refine aE ?_ | with_reducible first | refine aG ?_ | refine aF ?_ | refine aH ?_ | refine aI ?_ | refine aK ?_ | refine aJ ?_ | refine aL ?_ | refine aC ?_))
  refine zB hB.hc hcl (hf2.mono (show nx+9+1≤nx+17 by omega)) fun r h3 n3 hn3 hs3 hf3 hr3=>?_
  have hrsl:Sl ro h3 r 1 (eB (i8 c n)):=hr3.sl
  obtain ⟨hcll,hcle⟩:=List.getElem?_eq_some_iff.1 hby
  have hrix:=hrsl.ix .i64 (i:=cl) (by rw [gR]; exact hcll)
  have hrld:=hrsl.load1 (i:=cl) (x:=.int .u8 (b:Int)) (by rw [tX hcll,hcle])
  (repeat (first | refine aB (by simp (disch:=first | omega | exact Int.natCast_nonneg _ | assumption) only [BB,B2,↓reduceIte,Nat.reduceLeDiff,Nat.reduceAdd,CC,hrix,hrld]<;>rfl) ?_ | refine aD ?_ | refine aE ?_ | with_reducible first | refine aG ?_ | refine aF ?_ | refine aH ?_ | refine aI ?_ | refine aK ?_ | refine aJ ?_ | refine aL ?_ | refine aC ?_))
  have hs03:=hs12.trans hs3
  have g13:=hs3 _ _ g12
  have g23:=hs3 _ _ g2
  refine bI (fun j e h' nx'=>∃ (k:Nat),k+j=g.p.length∧nx+17≤nx'∧Sub h h'∧Fr h' nx'∧e 0=ptr bid∧e 1=.int .i64 (at_:Int)∧e 2=.int .i64 code∧e 8=ptr nx∧e 9=ptr (nx+9)∧e 10=.int .u8 (b:Int)∧e 13=.int .i64 k ∧
    bV h' (e 11) 1 cF (gL ((eH k).filter (gO g en st b))) nx∧bV h' (e 12) 1 bR (oG (pT g en st ((eH k).filter (gO g en st b)))) nx∧h'.get nx=some (.cells [Value.int .i64 0,bG].toArray bC)∧h'.get (nx+9)=some (.cells [lv,rv,uv,wv].toArray aP)) ?_ (n:=g.p.length)
    ⟨0,by omega,by omega,hs03,hf3.mono (by omega),rfl,rfl,rfl,rfl,rfl,rfl,rfl,bV.nil,bV.nil,g13,g23⟩
  rintro j e h' nx' ⟨k,hj,hnx,hs',hf',e0,e1,e2,e8,e9,e10,e13,ho,hov,g1,g9⟩ Q' hq hx
  have hB':=hB.sub hs'
  have hbk:=hB'.blk
  have hh':=hh.trans hs'
  have hP':=hP.sub hh' (mV.sub hh')
  have hn':=hn.sub hh'
  have ha':=ha.sub hh'
  have hpl:=hP'.len
  unfold oA
  rw [e0,e1,e2,e9,e10,e13]
  (repeat (first | refine aB (by simp (disch:=first | omega | exact Int.natCast_nonneg _ | assumption) only [BB,B2,↓reduceIte,Nat.reduceLeDiff,Nat.reduceAdd,CC,a8,hbk,b1,hpl]<;>rfl) ?_ | refine aD ?_ | refine aE ?_ | with_reducible first | refine aG ?_ | refine aF ?_ | refine aH ?_ | refine aI ?_ | refine aK ?_ | refine aJ ?_ | refine aL ?_ | refine aC ?_))
  refine dO (fun hk=>?_) (fun hk=>?_)
  · have hk:k < g.p.length:=by omega
    have hls:(eH (k+1)).filter (gO g en st b)=if gO g en st b (k:Int) then (eH k).filter (gO g en st b)++[(k:Int)] else (eH k).filter (gO g en st b):=by
      rw [uN,List.filter_append]
      cases hq:gO g en st b (k:Int)<;>simp [hq]
    have hLl:((eH k).filter (gO g en st b)).length≤512:=by
      have:=List.length_filter_le (gO g en st b) (eH k)
      rw [rR] at this; omega
    have hol:=aGq g en st ((eH k).filter (gO g en st b))
    obtain ⟨x,⟨pv,rfl,q1,q2⟩,x2⟩:=hP'.loadAK hk
    obtain ⟨x',_,_,x3,x4,x5⟩:=hP'.at hk
    have hat:=aKe hk
    have hix:=hP'.ix .i64 hk
    have f0:=x4 0
    have hsp:(((nU g.p[k] pv).drop 0).take 4).toArray=(gK g.p[k].s).toArray:=rfl
    have ldS:=x2 0 4 (by show 0+4≤9; omega)
    have ldS:loadA ro h' 4 (jT 9 bv k 0)=some (pX g.p[k].s):=ldS
    obtain ⟨ixn,ldn⟩:=ixR (q:=(k:Int)) hn' (by omega) (by omega)
    rw [Int.toNat_natCast] at ixn ldn
    have hj2:∀ (e:Env) (h3:T Obj) (n3:Nat),nx'≤n3→Sub h h3→Fr h3 n3→e 0=ptr bid→e 1=.int .i64 (at_:Int)→e 2=.int .i64 code→e 8=ptr nx→e 9=ptr (nx+9)→e 10=.int .u8 (b:Int)→e 13=.int .i64 k →
        bV h3 (e 11) 1 cF (gL ((eH (k+1)).filter (gO g en st b))) nx→bV h3 (e 12) 1 bR (oG (pT g en st ((eH (k+1)).filter (gO g en st b)))) nx→h3.get nx=some (.cells [Value.int .i64 0,bG].toArray bC)→h3.get (nx+9)=some (.cells [lv,rv,uv,wv].toArray aP)→dT ro Q' e h3 n3:=by
      intro e h3 n3 hn3 s1 s2 e0 e1 e2 e8 e9 e10 e13 o3 o4 g3 g4
      unfold dT
      rw [e13]
      (repeat (first | refine aB (by simp (disch:=first | omega | exact Int.natCast_nonneg _ | assumption) only [BB,B2,↓reduceIte,Nat.reduceLeDiff,Nat.reduceAdd,CC]<;>rfl) ?_ | refine aD ?_ | refine aE ?_ | with_reducible first | refine aG ?_ | refine aF ?_ | refine aH ?_ | refine aI ?_ | refine aK ?_ | refine aJ ?_ | refine aL ?_ | refine aC ?_))
      exact hq (j - 1) _ _ _ _ (by omega) ⟨k+1,by omega,by omega,s1,s2.mono (by omega),e0,e1,e2,e8,e9,e10,rfl,o3,o4,g3,g4⟩ (Sub.refl _)
    generalize (eH k).filter (gO g en st b)=L at hls hLl hol ho hov
    generalize (eH (k+1)).filter (gO g en st b)=L' at hls hj2
    have htk:gO g en st b (k:Int)=(g.p[k].s.testBit b&&(en k || st k)):=by unfold gO; rw [hat]
    (repeat (first | refine aB (by simp (disch:=first | omega | exact Int.natCast_nonneg _ | assumption) only [BB,B2,↓reduceIte,Nat.reduceLeDiff,Nat.reduceAdd,CC,a8,hbk,b1,hix,f0,ldS]<;>rfl) ?_ | refine aD ?_ | refine aE ?_ | with_reducible first | refine aG ?_ | refine aF ?_ | refine aH ?_ | refine aI ?_ | refine aK ?_ | refine aJ ?_ | refine aL ?_ | refine aC ?_))
    refine o8 hb (hf'.mono (show nx'≤nx'+19 by omega)) fun n4 hn4=>?_
    cases hhas:(g.p[k]).s.testBit b with
    | false =>
      rw [hhas,Bool.false_and] at htk
      rw [htk,if_neg (by decide)] at hls
      (repeat (first | refine aB (by simp (disch:=first | omega | exact Int.natCast_nonneg _ | assumption) only [BB,B2,↓reduceIte,Nat.reduceLeDiff,Nat.reduceAdd,CC]<;>rfl) ?_ | refine aD ?_ | refine aE ?_ | with_reducible first | refine aG ?_ | refine aF ?_ | refine aH ?_ | refine aI ?_ | refine aK ?_ | refine aJ ?_ | refine aL ?_ | refine aC ?_))
      refine hj2 _ _ _ (by omega) hs' (hf'.mono (by omega)) e0 e1 e2 e8 e9 e10 e13 ?_ ?_ g1 g9
      · rw [hls]; exact ho
      · rw [hls]; exact hov
    | true =>
      rw [hhas,Bool.true_and] at htk
      have y1':=y1.sub hs'
      have y2':=y2.sub hs'
      (repeat (first | refine aB (by simp (disch:=first | omega | exact Int.natCast_nonneg _ | assumption) only [BB,B2,↓reduceIte,Nat.reduceLeDiff,Nat.reduceAdd,CC]<;>rfl) ?_ | refine aD ?_ | refine aE ?_ | with_reducible first | refine aG ?_ | refine aF ?_ | refine aH ?_ | refine aI ?_ | refine aK ?_ | refine aJ ?_ | refine aL ?_ | refine aC ?_))
      refine aB (cR (l:=[lv,rv,uv,wv]) g9 rfl) ?_
      refine aDL (uv:=uv) (wv:=wv) h00 o1 hr hll hrl hc0 hc1 (hf'.mono (show nx'≤n4+7 by omega)) hbk hn' ha' hP' y1' y2' hvo fun n5 hn5=>?_
      rw [hen]
      refine aB (cR (l:=[lv,rv,uv,wv]) g9 rfl) ?_
      refine aDw (uv:=uv) (wv:=wv) hll hrl hc0 hc1 (by omega) (by omega) (hf'.mono (show nx'≤n5+6 by omega)) hbk hn' y1' y2' fun n6 hn6=>?_
      rw [hstq]
      cases hek:en k with
      | false =>
        rw [hek,Bool.false_or] at htk
        cases hsk:st k with
        | false =>
          rw [hsk] at htk
          rw [htk,if_neg (by decide)] at hls
          (repeat (first | refine aB (by simp (disch:=first | omega | exact Int.natCast_nonneg _ | assumption) only [BB,B2,↓reduceIte,Nat.reduceLeDiff,Nat.reduceAdd,CC]<;>rfl) ?_ | refine aD ?_ | refine aE ?_ | with_reducible first | refine aG ?_ | refine aF ?_ | refine aH ?_ | refine aI ?_ | refine aK ?_ | refine aJ ?_ | refine aL ?_ | refine aC ?_))
          refine hj2 _ _ _ (by omega) hs' (hf'.mono (by omega)) e0 e1 e2 e8 e9 e10 e13 ?_ ?_ g1 g9
          · rw [hls]; exact ho
          · rw [hls]; exact hov
        | true =>
          rw [hsk] at htk
          rw [htk,if_pos rfl] at hls
          (repeat (first | refine aB (by simp (disch:=first | omega | exact Int.natCast_nonneg _ | assumption) only [BB,B2,↓reduceIte,Nat.reduceLeDiff,Nat.reduceAdd,CC]<;>rfl) ?_ | refine aD ?_ | refine aE ?_ | with_reducible first | refine aG ?_ | refine aF ?_ | refine aH ?_ | refine aI ?_ | refine aK ?_ | refine aJ ?_ | refine aL ?_ | refine aC ?_))
          refine tT ho (by omega) (hf'.mono (show nx'≤n6 by omega)) (by omega) (by omega) (by omega) fun h6 w q1 q2 q3 q4=>?_
          dsimp only
          rw [← hls] at q1
          have hkp:∀ i o,h'.get i=some o→(∀ c f,o≠.cells c cF f)→h6.get i=some o:=fun i o hi hty=>q3 i o hi fun e=>by
            obtain ⟨_,z1⟩:=ho.blk e
            rw [hi] at z1
            exact hty _ _ (Option.some.inj z1)
          have hb6:=hkp _ _ hbk (by intro c f e; simp only [Obj.cells.injEq] at e; exact absurd e.2.1 (by decide))
          have g16:=hkp _ _ g1 (by intro c f e; simp only [Obj.cells.injEq] at e; exact absurd e.2.1 (by decide))
          have g96:=hkp _ _ g9 (by intro c f e; simp only [Obj.cells.injEq] at e; exact absurd e.2.1 (by decide))
          have hov6:bV h6 (e 12) 1 bR (oG (pT g en st L)) nx:=hov.keep q3 fun id hid=>by
            obtain ⟨_,z1⟩:=hov.blk hid
            exact ho.ne z1 (by decide)
          have hss:Sub h h6:=ho.sub q3 hf (Nat.le_refl _) hs'
          have ldn6:load1 ro h6 (gP 1 nv k)=some (.int .i64 (mQ g k)):=by
            have:=(ixR (q:=(k:Int)) (hn.sub (hh.trans hss)) (by omega) (by omega)).2
            rwa [Int.toNat_natCast] at this
          (repeat (first | refine aB (by simp (disch:=first | omega | exact Int.natCast_nonneg _ | assumption) only [BB,B2,↓reduceIte,Nat.reduceLeDiff,Nat.reduceAdd,CC,a8,hb6,b2,ixn,ldn6]<;>rfl) ?_ | refine aD ?_ | refine aE ?_ | with_reducible first | refine aG ?_ | refine aF ?_ | refine aH ?_ | refine aI ?_ | refine aK ?_ | refine aJ ?_ | refine aL ?_ | refine aC ?_))
          cases hct:ctd g (k:Int) with
          | false =>
            refine dO (fun _=>?_) (fun u=>absurd u (by rw [aA7 hct]; omega))
            (repeat (first | refine aB (by simp (disch:=first | omega | exact Int.natCast_nonneg _ | assumption) only [BB,B2,↓reduceIte,Nat.reduceLeDiff,Nat.reduceAdd,CC]<;>rfl) ?_ | refine aD ?_ | refine aE ?_ | with_reducible first | refine aG ?_ | refine aF ?_ | refine aH ?_ | refine aI ?_ | refine aK ?_ | refine aJ ?_ | refine aL ?_ | refine aC ?_))
            refine hj2 _ _ _ (by omega) hss (q4.mono (by omega)) e0 e1 e2 e8 e9 e10 e13 q1 ?_ g16 g96
            rw [hls,qF,if_neg (by rw [hct]; decide)]; exact hov6
          | true =>
            refine dO (fun u=>absurd u (by have:=(aA8 hct).2; omega)) (fun _=>?_)
            (repeat (first | refine aB (by simp (disch:=first | omega | exact Int.natCast_nonneg _ | assumption) only [BB,B2,↓reduceIte,Nat.reduceLeDiff,Nat.reduceAdd,CC]<;>rfl) ?_ | refine aD ?_ | refine aE ?_ | with_reducible first | refine aG ?_ | refine aF ?_ | refine aH ?_ | refine aI ?_ | refine aK ?_ | refine aJ ?_ | refine aL ?_ | refine aC ?_))
            refine aHg (b:=1) rfl hov6 (by omega) (q4.mono (show _≤_ from Nat.le_refl _)) (by omega) (by omega) (by omega) fun h8 w8 r1 r2 r3 r4=>?_
            dsimp only
            have r6:=r3 _ _ g16 (hov6.ne g16 (by decide))
            have r9:=r3 _ _ g96 (hov6.ne g96 (by decide))
            have hxl:bV h8 w 1 cF (gL L') nx:=q1.keep r3 fun id hid=>by
              obtain ⟨_,z1⟩:=q1.blk hid
              exact hov6.ne z1 (by decide)
            have hss8:Sub h h8:=hov6.sub r3 hf (Nat.le_refl _) hss
            refine hj2 _ _ _ (by omega) hss8 (r4.mono (by omega)) e0 e1 e2 e8 e9 e10 e13 hxl ?_ r6 r9
            rw [hls,qF,if_pos hct,show opZ en st (k:Int)=1 by unfold opZ; rw [hsk]; rw [hek]; rfl]
            exact r1
      | true =>
        rw [hek,Bool.true_or] at htk
        rw [htk,if_pos rfl] at hls
        cases hsk:st k with
        | false =>
          (repeat (first | refine aB (by simp (disch:=first | omega | exact Int.natCast_nonneg _ | assumption) only [BB,B2,↓reduceIte,Nat.reduceLeDiff,Nat.reduceAdd,CC]<;>rfl) ?_ | refine aD ?_ | refine aE ?_ | with_reducible first | refine aG ?_ | refine aF ?_ | refine aH ?_ | refine aI ?_ | refine aK ?_ | refine aJ ?_ | refine aL ?_ | refine aC ?_))
          refine tT ho (by omega) (hf'.mono (show nx'≤n6 by omega)) (by omega) (by omega) (by omega) fun h6 w q1 q2 q3 q4=>?_
          dsimp only
          rw [← hls] at q1
          have hkp:∀ i o,h'.get i=some o→(∀ c f,o≠.cells c cF f)→h6.get i=some o:=fun i o hi hty=>q3 i o hi fun e=>by
            obtain ⟨_,z1⟩:=ho.blk e
            rw [hi] at z1
            exact hty _ _ (Option.some.inj z1)
          have hb6:=hkp _ _ hbk (by intro c f e; simp only [Obj.cells.injEq] at e; exact absurd e.2.1 (by decide))
          have g16:=hkp _ _ g1 (by intro c f e; simp only [Obj.cells.injEq] at e; exact absurd e.2.1 (by decide))
          have g96:=hkp _ _ g9 (by intro c f e; simp only [Obj.cells.injEq] at e; exact absurd e.2.1 (by decide))
          have hov6:bV h6 (e 12) 1 bR (oG (pT g en st L)) nx:=hov.keep q3 fun id hid=>by
            obtain ⟨_,z1⟩:=hov.blk hid
            exact ho.ne z1 (by decide)
          have hss:Sub h h6:=ho.sub q3 hf (Nat.le_refl _) hs'
          have ldn6:load1 ro h6 (gP 1 nv k)=some (.int .i64 (mQ g k)):=by
            have:=(ixR (q:=(k:Int)) (hn.sub (hh.trans hss)) (by omega) (by omega)).2
            rwa [Int.toNat_natCast] at this
          (repeat (first | refine aB (by simp (disch:=first | omega | exact Int.natCast_nonneg _ | assumption) only [BB,B2,↓reduceIte,Nat.reduceLeDiff,Nat.reduceAdd,CC,a8,hb6,b2,ixn,ldn6]<;>rfl) ?_ | refine aD ?_ | refine aE ?_ | with_reducible first | refine aG ?_ | refine aF ?_ | refine aH ?_ | refine aI ?_ | refine aK ?_ | refine aJ ?_ | refine aL ?_ | refine aC ?_))
          cases hct:ctd g (k:Int) with
          | false =>
            refine dO (fun _=>?_) (fun u=>absurd u (by rw [aA7 hct]; omega))
            (repeat (first | refine aB (by simp (disch:=first | omega | exact Int.natCast_nonneg _ | assumption) only [BB,B2,↓reduceIte,Nat.reduceLeDiff,Nat.reduceAdd,CC]<;>rfl) ?_ | refine aD ?_ | refine aE ?_ | with_reducible first | refine aG ?_ | refine aF ?_ | refine aH ?_ | refine aI ?_ | refine aK ?_ | refine aJ ?_ | refine aL ?_ | refine aC ?_))
            refine hj2 _ _ _ (by omega) hss (q4.mono (by omega)) e0 e1 e2 e8 e9 e10 e13 q1 ?_ g16 g96
            rw [hls,qF,if_neg (by rw [hct]; decide)]; exact hov6
          | true =>
            refine dO (fun u=>absurd u (by have:=(aA8 hct).2; omega)) (fun _=>?_)
            (repeat (first | refine aB (by simp (disch:=first | omega | exact Int.natCast_nonneg _ | assumption) only [BB,B2,↓reduceIte,Nat.reduceLeDiff,Nat.reduceAdd,CC]<;>rfl) ?_ | refine aD ?_ | refine aE ?_ | with_reducible first | refine aG ?_ | refine aF ?_ | refine aH ?_ | refine aI ?_ | refine aK ?_ | refine aJ ?_ | refine aL ?_ | refine aC ?_))
            refine aHg (b:=3) rfl hov6 (by omega) (q4.mono (show _≤_ from Nat.le_refl _)) (by omega) (by omega) (by omega) fun h8 w8 r1 r2 r3 r4=>?_
            dsimp only
            have r6:=r3 _ _ g16 (hov6.ne g16 (by decide))
            have r9:=r3 _ _ g96 (hov6.ne g96 (by decide))
            have hxl:bV h8 w 1 cF (gL L') nx:=q1.keep r3 fun id hid=>by
              obtain ⟨_,z1⟩:=q1.blk hid
              exact hov6.ne z1 (by decide)
            have hss8:Sub h h8:=hov6.sub r3 hf (Nat.le_refl _) hss
            refine hj2 _ _ _ (by omega) hss8 (r4.mono (by omega)) e0 e1 e2 e8 e9 e10 e13 hxl ?_ r6 r9
            rw [hls,qF,if_pos hct,show opZ en st (k:Int)=3 by unfold opZ; rw [hsk]; rfl]
            exact r1
        | true =>
          (repeat (first | refine aB (by simp (disch:=first | omega | exact Int.natCast_nonneg _ | assumption) only [BB,B2,↓reduceIte,Nat.reduceLeDiff,Nat.reduceAdd,CC]<;>rfl) ?_ | refine aD ?_ | refine aE ?_ | with_reducible first | refine aG ?_ | refine aF ?_ | refine aH ?_ | refine aI ?_ | refine aK ?_ | refine aJ ?_ | refine aL ?_ | refine aC ?_))
          refine tT ho (by omega) (hf'.mono (show nx'≤n6 by omega)) (by omega) (by omega) (by omega) fun h6 w q1 q2 q3 q4=>?_
          dsimp only
          rw [← hls] at q1
          have hkp:∀ i o,h'.get i=some o→(∀ c f,o≠.cells c cF f)→h6.get i=some o:=fun i o hi hty=>q3 i o hi fun e=>by
            obtain ⟨_,z1⟩:=ho.blk e
            rw [hi] at z1
            exact hty _ _ (Option.some.inj z1)
          have hb6:=hkp _ _ hbk (by intro c f e; simp only [Obj.cells.injEq] at e; exact absurd e.2.1 (by decide))
          have g16:=hkp _ _ g1 (by intro c f e; simp only [Obj.cells.injEq] at e; exact absurd e.2.1 (by decide))
          have g96:=hkp _ _ g9 (by intro c f e; simp only [Obj.cells.injEq] at e; exact absurd e.2.1 (by decide))
          have hov6:bV h6 (e 12) 1 bR (oG (pT g en st L)) nx:=hov.keep q3 fun id hid=>by
            obtain ⟨_,z1⟩:=hov.blk hid
            exact ho.ne z1 (by decide)
          have hss:Sub h h6:=ho.sub q3 hf (Nat.le_refl _) hs'
          have ldn6:load1 ro h6 (gP 1 nv k)=some (.int .i64 (mQ g k)):=by
            have:=(ixR (q:=(k:Int)) (hn.sub (hh.trans hss)) (by omega) (by omega)).2
            rwa [Int.toNat_natCast] at this
          (repeat (first | refine aB (by simp (disch:=first | omega | exact Int.natCast_nonneg _ | assumption) only [BB,B2,↓reduceIte,Nat.reduceLeDiff,Nat.reduceAdd,CC,a8,hb6,b2,ixn,ldn6]<;>rfl) ?_ | refine aD ?_ | refine aE ?_ | with_reducible first | refine aG ?_ | refine aF ?_ | refine aH ?_ | refine aI ?_ | refine aK ?_ | refine aJ ?_ | refine aL ?_ | refine aC ?_))
          cases hct:ctd g (k:Int) with
          | false =>
            refine dO (fun _=>?_) (fun u=>absurd u (by rw [aA7 hct]; omega))
            (repeat (first | refine aB (by simp (disch:=first | omega | exact Int.natCast_nonneg _ | assumption) only [BB,B2,↓reduceIte,Nat.reduceLeDiff,Nat.reduceAdd,CC]<;>rfl) ?_ | refine aD ?_ | refine aE ?_ | with_reducible first | refine aG ?_ | refine aF ?_ | refine aH ?_ | refine aI ?_ | refine aK ?_ | refine aJ ?_ | refine aL ?_ | refine aC ?_))
            refine hj2 _ _ _ (by omega) hss (q4.mono (by omega)) e0 e1 e2 e8 e9 e10 e13 q1 ?_ g16 g96
            rw [hls,qF,if_neg (by rw [hct]; decide)]; exact hov6
          | true =>
            refine dO (fun u=>absurd u (by have:=(aA8 hct).2; omega)) (fun _=>?_)
            (repeat (first | refine aB (by simp (disch:=first | omega | exact Int.natCast_nonneg _ | assumption) only [BB,B2,↓reduceIte,Nat.reduceLeDiff,Nat.reduceAdd,CC]<;>rfl) ?_ | refine aD ?_ | refine aE ?_ | with_reducible first | refine aG ?_ | refine aF ?_ | refine aH ?_ | refine aI ?_ | refine aK ?_ | refine aJ ?_ | refine aL ?_ | refine aC ?_))
            refine aHg (b:=2) rfl hov6 (by omega) (q4.mono (show _≤_ from Nat.le_refl _)) (by omega) (by omega) (by omega) fun h8 w8 r1 r2 r3 r4=>?_
            dsimp only
            have r6:=r3 _ _ g16 (hov6.ne g16 (by decide))
            have r9:=r3 _ _ g96 (hov6.ne g96 (by decide))
            have hxl:bV h8 w 1 cF (gL L') nx:=q1.keep r3 fun id hid=>by
              obtain ⟨_,z1⟩:=q1.blk hid
              exact hov6.ne z1 (by decide)
            have hss8:Sub h h8:=hov6.sub r3 hf (Nat.le_refl _) hss
            refine hj2 _ _ _ (by omega) hss8 (r4.mono (by omega)) e0 e1 e2 e8 e9 e10 e13 hxl ?_ r6 r9
            rw [hls,qF,if_pos hct,show opZ en st (k:Int)=2 by unfold opZ; rw [hsk]; rw [hek]; rfl]
            exact r1
  · (repeat (first | refine aB (by simp (disch:=first | omega | exact Int.natCast_nonneg _ | assumption) only [BB,B2,↓reduceIte,Nat.reduceLeDiff,Nat.reduceAdd,CC]<;>rfl) ?_ | refine aD ?_ | refine aE ?_ | with_reducible first | refine aG ?_ | refine aF ?_ | refine aH ?_ | refine aI ?_ | refine aK ?_ | refine aJ ?_ | refine aL ?_ | refine aC ?_))
    refine hx _ _ _ _ (fun e=>by cases e) (fG (dR ?_))
    have hkk:k=g.p.length:=by omega
    rw [hkk] at ho hov
    have hlz:(eH g.p.length).filter (gO g en st b)=lZ g en st b:=rfl
    rw [hlz] at ho hov
    have hlr:=aLN g en st b
    have hlln:=aLM g en st b
    have hgn:=@mN g en st b S
    have hge:=@o7 g en st b S
    generalize lZ g en st b=L at ho hov hlr hlln hgn hge
    have fin:∀ (e':Env) n' lw ov,e' 0=ptr bid→e' 8=ptr nx→e' 11=lw→e' 12=ov→bV h' lw 1 cF (gL L) nx→bV h' ov 1 bR (oG (pT g en st L)) nx→nx'≤n'→gZ ro K e' h' n':=by
      intro e' n' lw ov f0 f8 f11 f12 ho hov hn9
      have hln:=(ho.sl (ro:=ro)).len
      rw [mO] at hln
      unfold gZ
      rw [f0,f8,f11,f12]
      (repeat (first | refine aB (by simp (disch:=first | omega | exact Int.natCast_nonneg _ | assumption) only [BB,B2,↓reduceIte,Nat.reduceLeDiff,Nat.reduceAdd,CC,hln]<;>rfl) ?_ | refine aD ?_ | refine aE ?_ | with_reducible first | refine aG ?_ | refine aF ?_ | refine aH ?_ | refine aI ?_ | refine aK ?_ | refine aJ ?_ | refine aL ?_ | refine aC ?_))
      refine nB (fun u=>?_) (fun u=>?_)
      · have hL:L=[]:=List.eq_nil_iff_length_eq_zero.2 (by omega)
        have hgo:=hgn hL
        rw [hgo] at hK
        refine aG (aB aGE ?_)
        refine aB (fB (l:=[Value.int .i64 0,bG]) (vs:=[.int .i64 (-1),bG]) g1 rfl rfl rfl rfl) ?_
        refine aB (cR (l:=[.int .i64 (-1),bG]) (by rw [T.get_upd_same]) rfl) ?_
        exact ⟨_,Sub.refl _,hK rfl _ _ sid cs bG (by omega) ((hf'.mono (by omega)).upd (Nat.le_refl _) (by omega)) (hs'.keepL.updN hf (Nat.le_refl _)) (.inl rfl) (hB'.updN (by omega) (by omega)) lQ.refl bV.nil⟩
      · have hL:L≠[]:=fun hL=>u (by rw [hL]; rfl)
        have hgo:=hge hL
        rw [hgo] at hK hKe
        dsimp only at hK hKe
        refine aF ?_
        have hovk:=hov.ok
        refine aF6 hgl hlr hL hz0 (hf'.mono (show nx'≤n'+6 by omega)) hB' hS hh' hn' ho (by omega) (by omega) (fun hz h9 n9 p1 p2 p3 p4=>?_) fun hz h9 n9 sid' cs' p1 p2 p3 p4 p5 p6=>?_
        · have g19:=p3 _ _ g1 (by simp; omega)
          refine aB (aEK (gC hovk)) ?_
          refine aB (fB (l:=[Value.int .i64 0,bG]) (vs:=[.int .i64 0,ov]) g19 rfl rfl rfl (by simp only [List.all_cons,List.all_nil,hovk]; rfl)) ?_
          refine aB (cR (l:=[.int .i64 0,ov]) (by rw [T.get_upd_same]) rfl) ?_
          refine ⟨_,Sub.refl _,hKe hz _ _ ov (by omega) ((p2.mono (by omega)).upd (Nat.le_refl _) (by omega)) ((hs'.keepL.trans p3).updN hf (Nat.le_refl _)) ?_ hovk⟩
          rw [T.get_upd_ne _ _ (by omega)]; exact p4
        · have g19:=p3 _ _ g1 (by simp; omega)
          have hov9:bV h9 ov 1 bR (oG (pT g en st L)) nx:=hov.keepK p3 fun id hid=>by
            have:=(hov.blk hid).1
            simp; omega
          refine aB (aEK (gC hovk)) ?_
          refine aB (fB (l:=[Value.int .i64 0,bG]) (vs:=[.int .i64 (iB g S L).1,ov]) g19 rfl rfl rfl (by simp only [List.all_cons,List.all_nil,hovk]; rfl)) ?_
          refine aB (cR (l:=[.int .i64 (iB g S L).1,ov]) (by rw [T.get_upd_same]) rfl) ?_
          exact ⟨_,Sub.refl _,hK hz _ _ sid' cs' ov (by omega) ((p2.mono (by omega)).upd (Nat.le_refl _) (by omega)) ((hs'.keepL.trans p3).updN hf (Nat.le_refl _)) (by omega) (p5.updN (by omega) (by omega)) (p6.updNe g19 (by decide)) (hov9.updNe g19 (by decide))⟩
    exact fin _ _ _ _ e0 e8 rfl rfl ho hov (by omega)
end
section
variable {h h' a b':T Obj} {bid sid sid' lo aid:Nat} {av bv nv cv:Value} {c:List Nat} {n:Int} {S S':List StateD} {cs cs':List (List Value)}
theorem dY.chain2 (hf:Fr h lo) (h1:dY [bid,sid] h a) (h2:dY [bid,sid'] a b') (hs:sid'=sid∨lo≤sid'):dY [bid,sid] h b':=fun k o hk hn=>by
  refine h2 k o (h1 k o hk hn) ?_
  have:=hf.lt' hk
  simp only [List.mem_cons,List.not_mem_nil,or_false,not_or] at hn ⊢
  refine ⟨hn.1,?_⟩
  rcases hs with rfl | hs
  · exact hn.2
  · omega
theorem dY.del2 (hf:Fr h lo) (h1:dY [bid,sid] h a) (hs:sid'=sid∨lo≤sid'):Sub (V.del h [bid,sid,aid]) (V.del a [bid,sid',aid]):=h1.del (fun k h=>by
  simp only [List.mem_cons,List.not_mem_nil,or_false] at h ⊢
  exact h.elim .inl fun h=>.inr (.inl h)) fun k hk=>by
  simp only [List.mem_cons,List.not_mem_nil,or_false] at hk ⊢
  rcases hk with hk | hk | hk
  · exact .inl (.inl hk)
  · rcases hs with hs | hs
    · exact .inl (.inr (.inl (hk.trans hs)))
    · exact .inr (hf k (by omega))
  · exact .inl (.inr (.inr hk))
theorem Rb.tyk (hB:Rb h bid sid av bv nv c n cv S cs) (hk:dY [bid,sid] h h') {e:TypeId} (he1:e≠aO) (he2:e≠aP):cY e h h':=fun i x f hg=>hk _ _ hg (by
  have h1:=hB.blk
  have h2:=hB.row
  simp only [List.mem_cons,List.not_mem_nil,or_false,not_or]
  refine ⟨?_,?_⟩<;>rintro rfl
  · rw [hg] at h1
    simp only [Option.some.injEq,Obj.cells.injEq] at h1
    exact he1 h1.2.1
  · rw [hg] at h2
    simp only [Option.some.injEq,Obj.cells.injEq] at h2
    exact he2 h2.2.1)
theorem Rb.delN (hB:Rb h bid sid av bv nv c n cv S cs) (hA:h.get aid=some (.cells j8.toArray a9)) {v:Value} {z:Nat} {e:TypeId} {l:List (List Value)} (ho:bV h v z e l lo) (he1:e≠aO) (he2:e≠aP) (he3:e≠a9):bV (V.del h [bid,sid,aid]) v z e l lo:=ho.del fun id hid=>by
  have hg:=(ho.blk hid).2
  have h1:=hB.blk
  have h2:=hB.row
  simp only [List.mem_cons,List.not_mem_nil,or_false,not_or]
  refine ⟨?_,?_,?_⟩<;>rintro rfl
  · rw [hg] at h1
    simp only [Option.some.injEq,Obj.cells.injEq] at h1
    exact he1 h1.2.1
  · rw [hg] at h2
    simp only [Option.some.injEq,Obj.cells.injEq] at h2
    exact he2 h2.2.1
  · rw [hg] at hA
    simp only [Option.some.injEq,Obj.cells.injEq] at hA
    exact he3 hA.2.1
theorem Rb.keepN (hB:Rb h bid sid av bv nv c n cv S cs) (h1:∀ o,h.get bid=some o→h'.get bid=some o) (h2:∀ o,h.get sid=some o→h'.get sid=some o):Rb h' bid sid av bv nv c n cv S cs:=⟨hB.hc,h1 _ hB.blk,h2 _ hB.row,hB.z4,hB.len,hB.few,hB.pos⟩
theorem RSt.grow {ro:Ro} (hA:h'.get aid=some (.cells j8.toArray a9)) (hS:RSt ro (del h [bid,sid,aid]) cs S) (hf:Fr h lo) (hk:dY [bid,sid] h h') (hs:sid'=sid∨lo≤sid') (hB:Rb h' bid sid' av bv nv c n cv S' cs') (hg:lQ h' lo cs cs' S S') (hl:cs.length=S.length) (h3:∀ t∈S',t.r.length≤3):RSt ro (del h' [bid,sid',aid]) cs' S':=by
  obtain ⟨ds,T,rfl,rfl,a3,a4⟩:=hg
  intro i x t hx ht
  have htm:=List.mem_of_getElem? ht
  rcases Nat.lt_or_ge i cs.length with hil | hil
  · rw [List.getElem?_append_left hil] at hx
    rw [List.getElem?_append_left (by omega)] at ht
    exact eA.sub (hk.del2 hf hs) _ _ (hS i x t hx ht)
  · rw [List.getElem?_append_right hil] at hx
    rw [List.getElem?_append_right (by omega),← hl] at ht
    obtain ⟨lv,rv,e1,e2,e3,e4,e5⟩:=a4 _ x t hx ht
    exact aPE (lo:=lo) ⟨lv,rv,e1,hB.delN hA e2 (by decide) (by decide) (by decide),hB.delN hA e3 (by decide) (by decide) (by decide),e4,e5⟩ (h3 t htm)
end
def KpG (e' e:Env):Prop:=e' 2=e 2∧e' 4=e 4∧e' 7=e 7∧e' 8=e 8∧e' 9=e 9∧e' 10=e 10∧e' 11=e 11
section
variable {ro:Ro} {g:GlD} {bid sid aid:Nat} {av bv nv cv:Value} {c:List Nat} {n:Int} {S:List StateD} {cs:List (List Value)}
set_option maxRecDepth 8000 in
set_option maxHeartbeats 2000000 in
theorem aNP {at_:Nat} {code:Int} {s:StateD} {B:List Nat} (hr:j0 g=true) (hcl:∀ x∈c,x < 256) (hBf:i8 c n=B) (hBn:n=(B.length:Int)) (hBl:B.length≤256) (hb:∀ b∈B,b < 256) (hs:S[at_]?=some s) (hok:SOk g S) (h00:at_=0→s.l=[]) (hz0:∃ s,S[0]?=some s∧s.l=[]) (hc0:0≤code) (hc1:code≤1000000)
    {h:T Obj} {nx:Nat} {Q:KE} {e0:Env} (hf:Fr h nx) (hB:Rb h bid sid av bv nv c n cv S cs) (hS:RSt ro (del h [bid,sid,aid]) cs S) (hn:ZI ro (del h [bid,sid,aid]) nv (z7 g)) (ha:ZI ro (del h [bid,sid,aid]) av g.first) (hP:SlR ro (del h [bid,sid,aid]) bv 9 (mV ro (del h [bid,sid,aid])) g.p) (hA:h.get aid=some (.cells j8.toArray a9))
    (e2:e0 2=ptr aid) (e4:e0 4=ptr bid) (e7:e0 7=.int .i64 (at_:Int)) (e11:e0 11=.int .i64 code) (e12:e0 12=bG) (e13:e0 13=.int .i64 0)
    (hQe:(iD g (cV g at_ (cZ g s.l code)) (dS (cZ g s.l code)) B S).1≠0→∀ e' h' nx',nx≤nx'→Fr h' nx'→dY [bid,sid] h h'→h'.get aid=some (.cells j8.toArray a9)→e' 2=ptr aid→e' 3=.int .i64 (iD g (cV g at_ (cZ g s.l code)) (dS (cZ g s.l code)) B S).1→Q .ret e' h' nx')
    (hQ:(iD g (cV g at_ (cZ g s.l code)) (dS (cZ g s.l code)) B S).1=0→∀ e' h' nx' sid' cs' mcs,nx≤nx'→Fr h' nx'→dY [bid,sid] h h'→(sid'=sid∨nx≤sid')→Rb h' bid sid' av bv nv c n cv (iD g (cV g at_ (cZ g s.l code)) (dS (cZ g s.l code)) B S).2.2 cs'→lQ h' nx cs cs' S (iD g (cV g at_ (cZ g s.l code)) (dS (cZ g s.l code)) B S).2.2 →
      bV h' (e' 12) 2 bC mcs nx→rZ h' nx mcs (iD g (cV g at_ (cZ g s.l code)) (dS (cZ g s.l code)) B S).2.1→KpG e' e0→Q (.exit 6) e' h' nx') :
    d5 (xJ ro) e0 h nx Q:=by
  generalize hen:cV g at_ (cZ g s.l code)=en at hQ hQe
  generalize hst:dS (cZ g s.l code)=st at hQ hQe
  generalize hZ:iD g en st B S=Z at hQ hQe
  have hatl:=(List.getElem?_eq_some_iff.1 hs).1
  refine bI (fun j e h' nx'=>∃ (i sid':Nat) (cs':List (List Value)) (S':List StateD) (mcs:List (List Value)) (row:List MoveD),i+j=B.length∧nx≤nx'∧Fr h' nx'∧dY [bid,sid] h h'∧(sid'=sid∨nx≤sid')∧Rb h' bid sid' av bv nv c n cv S' cs'∧SOk g S' ∧
    lQ h' nx cs cs' S S'∧rZ h' nx mcs row∧bV h' (e 12) 2 bC mcs nx∧row.length=i∧e 13=.int .i64 i∧KpG e e0 ∧
    ((iD g en st (B.drop i) S').1,row++(iD g en st (B.drop i) S').2.1,(iD g en st (B.drop i) S').2.2)=Z) ?_ (n:=B.length)
    ⟨0,sid,cs,S,[],[],by omega,by omega,hf,(Sub.refl h).keepL,.inl rfl,hB,hok,lQ.refl,⟨rfl,fun i x m hx=>by simp at hx⟩,by rw [e12]; exact bV.nil,rfl,e13,⟨rfl,rfl,rfl,rfl,rfl,rfl,rfl⟩,by rw [← hZ]; rfl⟩
  rintro j e h' nx' ⟨i,sid',cs',S',mcs,row,hj,hnx,hf',hkp,hsd,hB',hok',hgr,hro,hrv,hrl,e13,hkg,hrow⟩ Q' hq hx
  obtain ⟨k2,k4,k7,k8,k9,k10,k11⟩:=hkg
  have e4':e 4=ptr bid:=k4.trans e4
  have e7':e 7=.int .i64 (at_:Int):=k7.trans e7
  have e11':e 11=.int .i64 code:=k11.trans e11
  have e2':e 2=ptr aid:=k2.trans e2
  have hA':h'.get aid=some (.cells j8.toArray a9):=hB.tyk hkp (by decide) (by decide) _ _ _ hA
  have hsubD:=hkp.del2 (aid:=aid) hf hsd
  have hdS:=gM h' [bid,sid',aid]
  have hS':=hS.grow hA' hf hkp hsd hB' hgr hB.len fun t ht=>(hok' t ht).2.2
  have hgr0:=hgr
  obtain ⟨ds,TT,a1,a2,a3,a4⟩:=hgr0
  have hs':S'[at_]?=some s:=by rw [a2,List.getElem?_append_left hatl]; exact hs
  have hz0':∃ s,S'[0]?=some s∧s.l=[]:=by
    obtain ⟨z,z1,z2⟩:=hz0
    exact ⟨z,by rw [a2,List.getElem?_append_left (List.getElem?_eq_some_iff.1 z1).1]; exact z1,z2⟩
  have hbk:=hB'.blk
  have b259:=aNX (av:=av) (bv:=bv) (nv:=nv) (n:=n) (cv:=cv) (sv:=.slice (some (own sid' 4)) cs'.length cs'.length) (ev:=.int .i64 0) hB.hc
  unfold xJ
  rw [e4',e7',e11',e13,e2']
  rw [hBn] at b259
  have hbk2:=hbk
  rw [hBn] at hbk2
  (repeat (first | refine aB (by simp (disch:=first | omega | exact Int.natCast_nonneg _ | assumption) only [BB,B2,↓reduceIte,Nat.reduceLeDiff,Nat.reduceAdd,CC,a8,hbk2,b259]<;>rfl) ?_ | refine aD ?_ | refine aE ?_ | with_reducible first | refine aG ?_ | refine aF ?_ | refine aH ?_ | refine aI ?_ | refine aK ?_ | refine aJ ?_ | refine aL ?_ | refine aC ?_))
  refine dO (fun hi=>?_) (fun hi=>?_)
  · have hi:i < B.length:=by omega
    have hby:(i8 c n)[i]?=some B[i]:=by rw [hBf]; exact List.getElem?_eq_getElem hi
    have hbb:=hb _ (List.getElem_mem hi)
    rw [eL hi,oI] at hrow
    generalize B[i]=b at hrow hby hbb
    refine aG ?_
    refine aF7 hr hcl hs' hok' h00 hz0' hby hbb hc0 hc1 (hf'.mono (show nx'≤nx'+14 by omega)) hB' hS' hdS (hn.sub hsubD) (ha.sub hsubD) (hP.sub hsubD (mV.sub hsubD)) (fun hz h3 n3 ov r1 r2 r3 r4 r5=>?_) fun hz h3 n3 sid3 cs3 ov r1 r2 r3 r4 r5 r6 r7=>?_
    · rw [hen,hst] at hz r4
      rw [if_neg hz] at hrow
      have hz1:Z.1=(fF g en st b S').2.1:=by rw [← hrow]
      have t3:cY bC h' h3:=hB'.tyk (r3.mono (by simp)) (by decide) (by decide)
      have tA:cY a9 h' h3:=hB'.tyk (r3.mono (by simp)) (by decide) (by decide)
      have hrv3:=hrv.ty t3
      refine aFr rfl r5 hrv3 (by rw [hro.1]; omega) r2 (by omega) (Nat.le_refl _) (by omega) fun h5 w5 s1 s2 s3 s4=>?_
      dsimp only
      have g5:=s3 _ _ r4 (hrv3.neB r4 (by intro c f e; simp only [Obj.cells.injEq] at e; exact absurd e.2.1 (by decide)))
      have b262:=aJO (av:=av) (bv:=bv) (nv:=nv) (n:=n) (cv:=cv) (sv:=.slice (some (own sid' 4)) cs'.length cs'.length) (ev:=.int .i64 (fF g en st b S').2.1) hB.hc
      have hA5:=s3.ty hrv3 (by decide) _ _ _ (tA _ _ _ hA')
      (repeat (first | refine aB (by simp (disch:=first | omega | exact Int.natCast_nonneg _ | assumption) only [BB,B2,↓reduceIte,Nat.reduceLeDiff,Nat.reduceAdd,CC,a8,g5,b262]<;>rfl) ?_ | refine aD ?_ | refine aE ?_ | with_reducible first | refine aG ?_ | refine aF ?_ | refine aH ?_ | refine aI ?_ | refine aK ?_ | refine aJ ?_ | refine aL ?_ | refine aC ?_))
      refine aB aB6 ?_
      (repeat (first | refine aB (by simp (disch:=first | omega | exact Int.natCast_nonneg _ | assumption) only [BB,B2,↓reduceIte,Nat.reduceLeDiff,Nat.reduceAdd,CC,a8,g5,b262]<;>rfl) ?_ | refine aD ?_ | refine aE ?_ | with_reducible first | refine aG ?_ | refine aF ?_ | refine aH ?_ | refine aI ?_ | refine aK ?_ | refine aJ ?_ | refine aL ?_ | refine aC ?_))
      refine aB (fB (l:=j8) (vs:=j8) hA5 rfl kD kD aIn) ?_
      have hab:aid≠bid:=by
        rintro rfl
        rw [hA5] at g5
        simp only [Option.some.injEq,Obj.cells.injEq] at g5
        exact absurd g5.2.1 (by decide)
      have hal:=hf.lt' hA
      refine ⟨oK g5 ((T.get_upd_ne _ _ (Ne.symm hab)).trans g5),?_⟩
      refine hx _ _ _ _ (fun e=>by cases e) ?_
      have hkp5:dY [bid,sid] h h5:=fun q o hq9 hn=>by
        have hql:=hf.lt' hq9
        refine s3 q o (r3 q o (hkp q o hq9 hn) (by simp only [List.mem_cons,List.not_mem_nil,or_false,not_or] at hn ⊢; exact hn.1)) fun e=>?_
        have:=(hrv3.blk e).1
        omega
      refine hQe (by rw [hz1]; exact hz) _ _ _ (by omega) ((s4.mono (by omega)).upd (Nat.le_refl _) (by omega)) (fun q o hq9 hn=>?_) (T.get_upd_same _ _ _) e2' ?_
      · by_cases hqa:q=aid
        · subst hqa
          rw [T.get_upd_same,← hA]; exact hq9
        · rw [T.get_upd_ne _ _ hqa]; exact hkp5 q o hq9 hn
      · rw [hz1]; rfl
    · rw [hen,hst] at hz r5 r6 r7 ⊢
      have hok3:=aG3 (en:=en) (st:=st) (b:=b) hok'
      rw [if_pos hz] at hrow
      generalize fF g en st b S'=G at hrow r5 r6 r7 hz hok3
      have hkp3:dY [bid,sid] h h3:=dY.chain2 hf hkp r3 hsd
      have t1:cY cF h' h3:=hB'.tyk r3 (by decide) (by decide)
      have t2:cY bR h' h3:=hB'.tyk r3 (by decide) (by decide)
      have t3:cY bC h' h3:=hB'.tyk r3 (by decide) (by decide)
      have hgr3:=(hgr.ty t1).trans r6 (show nx≤nx'+14 by omega)
      have hovk:=r7.ok
      have hrv3:=hrv.ty t3
      refine aFr rfl hovk hrv3 (by rw [hro.1]; omega) r2 (by omega) (Nat.le_refl _) (by omega) fun h5 w5 s1 s2 s3 s4=>?_
      dsimp only
      have g5:=s3 _ _ r5.blk (hrv3.neB r5.blk (by intro c f e; simp only [Obj.cells.injEq] at e; exact absurd e.2.1 (by decide)))
      have gs5:=s3 _ _ r5.row (hrv3.neB r5.row (by intro c f e; simp only [Obj.cells.injEq] at e; exact absurd e.2.1 (by decide)))
      have b262:=aJO (av:=av) (bv:=bv) (nv:=nv) (n:=n) (cv:=cv) (sv:=.slice (some (own sid3 4)) cs3.length cs3.length) (ev:=.int .i64 0) hB.hc
      (repeat (first | refine aB (by simp (disch:=first | omega | exact Int.natCast_nonneg _ | assumption) only [BB,B2,↓reduceIte,Nat.reduceLeDiff,Nat.reduceAdd,CC,a8,g5,b262]<;>rfl) ?_ | refine aD ?_ | refine aE ?_ | with_reducible first | refine aG ?_ | refine aF ?_ | refine aH ?_ | refine aI ?_ | refine aK ?_ | refine aJ ?_ | refine aL ?_ | refine aC ?_))
      have t4:cY cF h3 h5:=s3.ty hrv3 (by decide)
      have t5:cY bR h3 h5:=s3.ty hrv3 (by decide)
      have hkp5:dY [bid,sid] h h5:=fun q o hq9 hn=>by
        have hql:=hf.lt' hq9
        refine s3 q o (hkp3 q o hq9 hn) fun e=>?_
        have:=(hrv3.blk e).1
        omega
      refine hq (j - 1) _ _ _ _ (by omega) ⟨i+1,sid3,cs3,G.2.2,mcs++[[.int .i64 G.1.to,ov]],row++[G.1],by omega,by omega,s4.mono (by omega),hkp5,?_,r5.keepN (fun o ho=>by rw [r5.blk] at ho; cases ho; exact g5) (fun o ho=>by rw [r5.row] at ho; cases ho; exact gs5),hok3,hgr3.ty t4,?_,?_,by simp [hrl],rfl,⟨k2,k4,k7,k8,k9,k10,k11⟩,?_⟩ (Sub.refl _)
      · rcases r4 with r4 | r4
        · rw [r4]; exact hsd
        · exact .inr (by omega)
      · have ho1:=hro.ty (t2.trans t5)
        refine ⟨by simp [hro.1],fun q x m hx9 hm9=>?_⟩
        rcases Nat.lt_or_ge q mcs.length with hql | hql
        · rw [List.getElem?_append_left hql] at hx9
          rw [List.getElem?_append_left (by have:=hro.1; omega)] at hm9
          exact ho1.2 q x m hx9 hm9
        · rw [List.getElem?_append_right hql] at hx9
          rw [List.getElem?_append_right (by have:=hro.1; omega),← hro.1] at hm9
          generalize q - mcs.length=q' at hx9 hm9
          cases q' with
          | succ q'=>simp at hx9
          | zero =>
            simp at hx9 hm9
            subst hx9; subst hm9
            exact ⟨ov,rfl,(r7.ty t5).mono (by omega)⟩
      · exact s1
      · rw [← hrow]; simp
  · refine aF (hx _ _ _ _ (fun e=>by cases e) ?_)
    rw [iH (l:=B) (by omega)] at hrow
    have hrow:((0:Int),row,S')=Z:=by simpa [iD] using hrow
    subst hrow
    exact hQ rfl _ _ _ sid' cs' mcs (by omega) (hf'.mono (by omega)) hkp hsd hB' hgr hrv hro ⟨k2,k4,k7,k8,k9,k10,k11⟩
end
def gU (R:List Int) (N:List (List MoveD)) (s:StateD):StateD:=⟨s.l,s.r,R,N⟩
theorem aIL {S T:List StateD} {k:Nat} {f:StateD→StateD} (hk:k < S.length):(S++T).modify k f=S.modify k f++T:=by
  apply List.ext_getElem?
  intro i
  by_cases hi:i=k
  · subst hi
    rw [gG,List.getElem?_append_left hk,List.getElem?_append_left (by rw [List.length_modify]; exact hk),gG]
  · rw [jQ hi]
    rcases Nat.lt_or_ge i S.length with h | h
    · rw [List.getElem?_append_left h,List.getElem?_append_left (by rw [List.length_modify]; exact h),jQ hi]
    · rw [List.getElem?_append_right h,List.getElem?_append_right (by rw [List.length_modify]; exact h),List.length_modify]
section
variable {g:GlD} {S:List StateD} {k:Nat} {R:List Int} {N:List (List MoveD)}
theorem aJn {l:List Int} (hk:k < S.length):iB g (S.modify k (gU R N)) l=((iB g S l).1,(iB g S l).2.1,(iB g S l).2.2.modify k (gU R N)):=by
  unfold iB
  rw [aCc k (gU R N) l (fun _=>rfl),List.length_modify]
  cases S.findIdx? (isL l) with
  | some i=>rfl
  | none =>
    dsimp only
    split
    · rfl
    · split
      · rfl
      · rw [aIL hk]
theorem aJt {en st:Int→Bool} {b:Nat} (hk:k < S.length):fF g en st b (S.modify k (gU R N))=((fF g en st b S).1,(fF g en st b S).2.1,(fF g en st b S).2.2.modify k (gU R N)):=by
  by_cases h:lZ g en st b=[]
  · rw [mN h,mN h]
  · rw [o7 h,o7 h,aJn hk]
theorem aJm {l:List Int}:S.length≤(iB g S l).2.2.length:=by
  unfold iB
  split
  · exact Nat.le_refl _
  · split
    · exact Nat.le_refl _
    · split
      · exact Nat.le_refl _
      · simp
theorem aJs {en st:Int→Bool} {b:Nat}:S.length≤(fF g en st b S).2.2.length:=by
  by_cases h:lZ g en st b=[]
  · rw [mN h]; exact Nat.le_refl _
  · rw [o7 h]; exact aJm
theorem aHT {en st:Int→Bool}:∀ {B:List Nat} {S:List StateD},k < S.length→iD g en st B (S.modify k (gU R N))=((iD g en st B S).1,(iD g en st B S).2.1,(iD g en st B S).2.2.modify k (gU R N))
  | [],S,hk=>rfl
  | b::r,S,hk=>by
    rw [oI,oI,aJt hk]
    dsimp only
    have hl:=aJs (g:=g) (en:=en) (st:=st) (b:=b) (S:=S)
    by_cases h0:(fF g en st b S).2.1=0
    · rw [if_pos h0,if_pos h0,aHT (by omega)]
    · rw [if_neg h0,if_neg h0]
theorem aN5 {rule:Int} {row:List MoveD}:(S.modify k (gU R N)).modify k (qH rule row)=S.modify k (gU (R++[rule]) (N++[row])):=by
  apply List.ext_getElem?
  intro i
  by_cases hi:i=k
  · subst hi
    rw [gG,gG,gG]
    cases S[i]?<;>rfl
  · rw [jQ hi,jQ hi,jQ hi]
theorem aN7 {s:StateD} (hs:S[k]?=some s) (h1:s.rule=[]) (h2:s.next=[]):S.modify k (gU [] [])=S:=by
  apply List.ext_getElem?
  intro i
  by_cases hi:i=k
  · subst hi
    rw [gG,hs]
    show some (gU [] [] s)=some s
    unfold gU
    cases s
    simp at h1 h2
    rw [h1,h2]
  · rw [jQ hi]
theorem aJb {B:List Nat} {c:Int} {s:StateD} (hs:S[k]?=some s):oU g B k c (S.modify k (gU R N))=if (iD g (cV g k (cZ g s.l c)) (dS (cZ g s.l c)) B S).1=0 then (0,(iD g (cV g k (cZ g s.l c)) (dS (cZ g s.l c)) B S).2.2.modify k (gU (R++[pA g (-1) (cZ g s.l c)]) (N++[(iD g (cV g k (cZ g s.l c)) (dS (cZ g s.l c)) B S).2.1]))) else ((iD g (cV g k (cZ g s.l c)) (dS (cZ g s.l c)) B S).1,S.modify k (gU R N)):=by
  have hk:=(List.getElem?_eq_some_iff.1 hs).1
  have hl:lAt (S.modify k (gU R N)) k=s.l:=by
    unfold lAt
    rw [List.getD_eq_getElem?_getD,gG,hs]; rfl
  unfold oU
  rw [hl]
  dsimp only
  rw [aHT hk]
  dsimp only
  split
  · rw [aN5]
  · rfl
end
def tS (h:T Obj) (lo:Nat) (ws:List Value) (N:List (List MoveD)):Prop:=ws.length=N.length∧∀ (i:Nat) w row,ws[i]?=some w→N[i]?=some row→∃ mcs,bV h w 2 bC mcs lo∧rZ h lo mcs row∧(∀ m∈row,(∀ o∈m.ops,o < 256)∧m.ops.length≤512)∧row.length≤256
theorem tS.ty {h h':T Obj} {lo:Nat} {ws:List Value} {N:List (List MoveD)} (hr:tS h lo ws N) (h1:cY bR h h') (h2:cY bC h h'):tS h' lo ws N:=⟨hr.1,fun i w row hw hrow=>by
  obtain ⟨mcs,a1,a2,a3⟩:=hr.2 i w row hw hrow
  exact ⟨mcs,a1.ty h2,a2.ty h1,a3⟩⟩
theorem cY.del {e:TypeId} {h h':T Obj} {X:List Nat} (ht:cY e h h'):cY e (V.del h X) (V.del h' X):=fun k c f hg=>by
  rw [iG] at hg ⊢
  split
  · rename_i hm; rw [if_pos hm] at hg; cases hg
  · rename_i hm; rw [if_neg hm] at hg; exact ht _ _ _ hg
theorem Kp.delTy {e:TypeId} {h h':T Obj} {v w:Value} {n:Nat} (hk:Kp v h h') (hf:Fr h n) (hw:∀ id,jC w=some id→n≤id):cY e (V.del h (jC v).toList) (V.del h' (jC w).toList):=fun k c f hg=>by
  rw [iG] at hg
  split at hg
  · cases hg
  · rename_i hm
    refine jI (hk k _ hg fun e9=>hm (by rw [e9]; simp)) fun hm2=>?_
    have:=hw k (Option.mem_toList.1 hm2)
    have:=hf.lt' hg
    omega
theorem lQ.delN {h:T Obj} {lo:Nat} {cs cs':List (List Value)} {S S':List StateD} {X:List Nat} (hg:lQ h lo cs cs' S S') (hX:∀ x∈X,x < lo):lQ (V.del h X) lo cs cs' S S':=by
  obtain ⟨ds,T,a1,a2,a3,a4⟩:=hg
  refine ⟨ds,T,a1,a2,a3,fun i x t hx9 ht9=>?_⟩
  obtain ⟨lv,rv,e1,e2,e3,e4,e5⟩:=a4 i x t hx9 ht9
  refine ⟨lv,rv,e1,e2.del fun id hid hm=>?_,e3.del fun id hid hm=>?_,e4,e5⟩
  · have:=(e2.blk hid).1
    have:=hX id hm
    omega
  · have:=(e3.blk hid).1
    have:=hX id hm
    omega
def KpH (e' e:Env):Prop:=e' 2=e 2∧e' 4=e 4∧e' 7=e 7
section
variable {ro:Ro} {g:GlD} {bid sid aid:Nat} {av bv nv cv:Value} {c:List Nat} {n:Int} {S:List StateD} {cs:List (List Value)}
set_option maxRecDepth 8000 in
set_option maxHeartbeats 2000000 in
theorem aNO {k M:Nat} {s:StateD} {B:List Nat} (hr:j0 g=true) (hcl:∀ x∈c,x < 256) (hBf:i8 c n=B) (hBn:n=(B.length:Int)) (hBl:B.length≤256) (hb:∀ b∈B,b < 256) (hM:M≤27) (hs:S[k]?=some s) (hok:SOk g S) (h00:k=0→s.l=[]) (hz0:∃ s,S[0]?=some s∧s.l=[])
    {h:T Obj} {nx:Nat} {Q:KE} {e0:Env} (hf:Fr h nx) (hB:Rb h bid sid av bv nv c n cv S cs) (hS:RSt ro (del h [bid,sid,aid]) cs S) (hn:ZI ro (del h [bid,sid,aid]) nv (z7 g)) (ha:ZI ro (del h [bid,sid,aid]) av g.first) (hP:SlR ro (del h [bid,sid,aid]) bv 9 (mV ro (del h [bid,sid,aid])) g.p) (hA:h.get aid=some (.cells j8.toArray a9))
    (e2:e0 2=ptr aid) (e4:e0 4=ptr bid) (e7:e0 7=.int .i64 (k:Int)) (e8:e0 8=.int .i64 (M:Int)) (e9:e0 9=bG) (e10:e0 10=bG) (e11:e0 11=.int .i64 0)
    (hQe:(iC g B k M 0 (S.modify k (gU [] []))).1≠0→∀ e' h' nx',nx≤nx'→Fr h' nx'→dY [bid,sid] h h'→h'.get aid=some (.cells j8.toArray a9)→e' 2=ptr aid→e' 3=.int .i64 (iC g B k M 0 (S.modify k (gU [] []))).1→Q .ret e' h' nx')
    (hQ:(iC g B k M 0 (S.modify k (gU [] []))).1=0→∀ e' h' nx' sid' cs' S' R N ws,nx≤nx'→Fr h' nx'→dY [bid,sid] h h'→(sid'=sid∨nx≤sid')→Rb h' bid sid' av bv nv c n cv S' cs'→lQ (del h' (jC (e' 9)).toList) nx cs cs' S S'→SOk g S'→bV h' (e' 9) 1 cF (gL R) nx→bV h' (e' 10) 1 bE (rP ws) nx→tS h' nx ws N→R.length≤27 →
      (iC g B k M 0 (S.modify k (gU [] []))).2=S'.modify k (gU R N)→KpH e' e0→Q (.exit 4) e' h' nx') :
    d5 (xI ro) e0 h nx Q:=by
  generalize hZ:iC g B k M 0 (S.modify k (gU [] []))=Z at hQ hQe
  have hkl:=(List.getElem?_eq_some_iff.1 hs).1
  refine bI (fun j e h' nx'=>∃ (i sid':Nat) (cs':List (List Value)) (S':List StateD) (R:List Int) (N:List (List MoveD)) (ws:List Value),i+j=M∧nx≤nx'∧Fr h' nx'∧dY [bid,sid] h h'∧(sid'=sid∨nx≤sid')∧Rb h' bid sid' av bv nv c n cv S' cs'∧SOk g S' ∧
    lQ (del h' (jC (e 9)).toList) nx cs cs' S S'∧bV h' (e 9) 1 cF (gL R) nx∧bV h' (e 10) 1 bE (rP ws) nx∧tS h' nx ws N∧R.length=i∧N.length=i∧e 8=.int .i64 (M:Int)∧e 11=.int .i64 i∧KpH e e0 ∧
    iC g B k j i (S'.modify k (gU R N))=Z) ?_ (n:=M)
    ⟨0,sid,cs,S,[],[],[],by omega,by omega,hf,(Sub.refl h).keepL,.inl rfl,hB,hok,lQ.refl,by rw [e9]; exact bV.nil,by rw [e10]; exact bV.nil,⟨rfl,fun i w row hw=>by simp at hw⟩,rfl,rfl,e8,e11,⟨rfl,rfl,rfl⟩,hZ⟩
  rintro j e h' nx' ⟨i,sid',cs',S',R,N,ws,hj,hnx,hf',hkp,hsd,hB',hok',hgr,hR,hW,hro,hRl,hNl,e8,e11,hkg,hrz⟩ Q' hq hx
  obtain ⟨k2,k4,k7⟩:=hkg
  have e4':e 4=ptr bid:=k4.trans e4
  have e7':e 7=.int .i64 (k:Int):=k7.trans e7
  have e2':e 2=ptr aid:=k2.trans e2
  have hwl:=hro.1
  unfold xI
  rw [e4',e7',e8,e11]
  refine dO (fun hi=>?_) (fun hi=>?_)
  · obtain ⟨j,rfl⟩:∃ j',j=j'+1:=⟨j - 1,by omega⟩
    have hA':h'.get aid=some (.cells j8.toArray a9):=hB.tyk hkp (by decide) (by decide) _ _ _ hA
    have hsubD:=hkp.del2 (aid:=aid) hf hsd
    have hdS:=gM h' [bid,sid',aid]
    have hgrH:=hgr.ty (gM _ _).ty
    have hS':=hS.grow hA' hf hkp hsd hB' hgrH hB.len fun t ht=>(hok' t ht).2.2
    have hgr0:=hgr
    obtain ⟨ds,TT,a1,a2,a3,a4⟩:=hgr0
    have hs':S'[k]?=some s:=by rw [a2,List.getElem?_append_left hkl]; exact hs
    have hz0':∃ s,S'[0]?=some s∧s.l=[]:=by
      obtain ⟨z,z1,z2⟩:=hz0
      exact ⟨z,by rw [a2,List.getElem?_append_left (List.getElem?_eq_some_iff.1 z1).1]; exact z1,z2⟩
    obtain ⟨o1,o2,o3⟩:=hok' s (List.mem_of_getElem? hs')
    rw [v9,aJb hs'] at hrz
    have hbk:=hB'.blk
    have b261:=uO (av:=av) (bv:=bv) (nv:=nv) (n:=n) (cv:=cv) (sv:=.slice (some (own sid' 4)) cs'.length cs'.length) (ev:=.int .i64 0) hB.hc
    have hsl:=hB'.slr hS' hdS
    have hkl':=(List.getElem?_eq_some_iff.1 hs').1
    have hke:=(List.getElem?_eq_some_iff.1 hs').2
    obtain ⟨y,⟨lv,rv,uv,wv,rfl,y1,y2,y3,y4,y5⟩,w2,w3,w4,w5⟩:=hsl.at hkl'
    rw [hke] at y1 y2
    rw [o2] at y2
    have six:=hsl.ix .i64 hkl'
    refine aG ?_
    (repeat (first | refine aB (by simp (disch:=first | omega | exact Int.natCast_nonneg _ | assumption) only [BB,B2,↓reduceIte,Nat.reduceLeDiff,Nat.reduceAdd,CC,a8,hbk,b261,six,w3]<;>rfl) ?_ | refine aD ?_ | refine aE ?_ | with_reducible first | refine aG ?_ | refine aF ?_ | refine aH ?_ | refine aI ?_ | refine aK ?_ | refine aJ ?_ | refine aL ?_ | refine aC ?_))
    refine aF8 (uv:=uv) (wv:=wv) o1 hr (by have:=uW o1; have:=(i6 hr).1; omega) (by rw [← o2]; omega) (by omega) (by omega) (hf'.mono (show nx'≤nx'+15 by omega)) hbk ((hn.sub hsubD).sub hdS) ((hP.sub hsubD (mV.sub hsubD)).sub hdS (mV.sub hdS)) y1 y2 fun n2 hn2=>?_
    refine tT hR (by omega) (hf'.mono (show nx'≤n2 by omega)) (by omega) (Nat.le_refl _) (by omega) fun h3 w q1 q2 q3 q4=>?_
    dsimp only
    have t1:cY bR h' h3:=q3.ty hR (by decide)
    have t2:cY bC h' h3:=q3.ty hR (by decide)
    have t3:cY bE h' h3:=q3.ty hR (by decide)
    have t4:cY a9 h' h3:=q3.ty hR (by decide)
    have t5:cY aO h' h3:=q3.ty hR (by decide)
    have t6:cY aP h' h3:=q3.ty hR (by decide)
    have hW3:=hW.ty t3
    have hro3:=hro.ty t1 t2
    have hA3:=t4 _ _ _ hA'
    have hB3:Rb h3 bid sid' av bv nv c n cv S' cs':=⟨hB'.hc,t5 _ _ _ hB'.blk,t6 _ _ _ hB'.row,hB'.z4,hB'.len,hB'.few,hB'.pos⟩
    have hkp3:dY [bid,sid] h h3:=fun q o hq9 hn9=>q3 q o (hkp q o hq9 hn9) fun e9=>by
      have:=(hR.blk e9).1
      have:=hf.lt' hq9
      omega
    have hsub3:Sub (del h [bid,sid,aid]) (del h3 [bid,sid',aid]):=hkp3.del2 hf hsd
    have hwid:∀ id,jC w=some id→n2≤id:=fun id hid=>by
      rw [q2] at hid
      have:n2+2=id:=Option.some.inj hid
      omega
    have hgr3:lQ (del h3 (jC w).toList) nx cs cs' S S':=hgr.ty (q3.delTy hf' fun id hid=>by have:=hwid id hid; omega)
    have hgr3H:=hgr3.ty (gM _ _).ty
    have hS3:=hS.grow hA3 hf hkp3 hsd hB3 hgr3H hB.len fun t ht=>(hok' t ht).2.2
    have hop:=aHU (i6 hr).1 (en:=cV g k (cZ g s.l i)) (st:=dS (cZ g s.l i)) (B:=B) (S:=S')
    have hlen3:=hB'.len
    refine aNP (s:=s) (aid:=aid) hr hcl hBf hBn hBl hb hs' hok' h00 hz0' (show (0:Int)≤(i:Int) by omega) (by omega) (q4.mono (show _≤_ by omega)) hB3 hS3 (hn.sub hsub3) (ha.sub hsub3) (hP.sub hsub3 (mV.sub hsub3)) hA3 ?_ ?_ ?_ ?_ ?_ ?_ (fun hz e9 h4 n4 p1 p2 p3 p4 p5 p6=>?_) fun hz e9 h4 n4 sid4 cs4 mcs p1 p2 p3 p4 p5 p6 p7 p8 p9=>?_
    · exact e2'
    · exact e4'
    · exact e7'
    · exact e11
    · rfl
    · rfl
    · rw [if_neg hz,if_neg hz] at hrz
      have hz1:Z.1=(iD g (cV g k (cZ g s.l i)) (dS (cZ g s.l i)) B S').1:=by rw [← hrz]
      refine mM (hx _ _ _ _ (fun e=>by cases e) ?_)
      exact hQe (by rw [hz1]; exact hz) _ _ _ (by omega) p2 (hkp3.chain2 hf p3 hsd) p4 p5 (by rw [hz1]; exact p6)
    · rw [if_pos hz,if_pos rfl] at hrz
      generalize hG:iD g (cV g k (cZ g s.l i)) (dS (cZ g s.l i)) B S'=G at hrz hz p5 p6 p8 hop
      generalize pA g (-1) (cZ g s.l i)=ru at hrz q1
      obtain ⟨r2,r4,r7,r8,r9,r10,r11⟩:=p9
      have r9:e9 9=w:=r9
      have r10:e9 10=e 10:=r10
      have r11:e9 11=.int .i64 i:=r11.trans e11
      have r8:e9 8=.int .i64 (M:Int):=r8.trans e8
      refine fG (dR ?_)
      unfold xP
      rw [r10]
      have u1:cY bR h3 h4:=hB3.tyk p3 (by decide) (by decide)
      have u2:cY bC h3 h4:=hB3.tyk p3 (by decide) (by decide)
      have u3:cY bE h3 h4:=hB3.tyk p3 (by decide) (by decide)
      have u4:cY cF h3 h4:=hB3.tyk p3 (by decide) (by decide)
      have hW4:=hW3.ty u3
      have hro4:=hro3.ty u1 u2
      have q14:=q1.ty u4
      have hgr4:lQ (del h4 (jC w).toList) nx cs cs4 S G.2.2:=(hgr3.ty u4.del).trans (p6.delN fun x hx9=>by
        rw [q2] at hx9
        have:n2+2=x:=Option.some.inj (Option.mem_toList.1 hx9)
        omega) (by omega)
      have hkp4:=hkp3.chain2 hf p3 hsd
      have hwok:bT (e9 12)=true:=p7.ok
      refine aMb hwok hW4 (by omega) p2 (by omega) (by omega) (by omega) fun h5 w5 s1 s2 s3 s4=>?_
      dsimp only
      unfold xO
      have hadd:aX .add (e9 11) (.int .i64 1)=some (.int .i64 ((i:Int)+1)):=by rw [r11,cK,dJ (by omega) (by omega)]
      refine aB hadd ?_
      have v1:cY bR h4 h5:=s3.ty hW4 (by decide)
      have v2:cY bC h4 h5:=s3.ty hW4 (by decide)
      have v3:cY cF h4 h5:=s3.ty hW4 (by decide)
      have v4:cY aO h4 h5:=s3.ty hW4 (by decide)
      have v5:cY aP h4 h5:=s3.ty hW4 (by decide)
      refine hq j _ h5 _ _ (by omega) ⟨i+1,sid4,cs4,G.2.2,R++[ru],N++[G.2.1],ws++[e9 12],by omega,by omega,s4.mono (by omega),fun q o hq9 hn9=>?_,?_,⟨p5.hc,v4 _ _ _ p5.blk,v5 _ _ _ p5.row,p5.z4,p5.len,p5.few,p5.pos⟩,?_,?_,?_,?_,?_,by simp [hRl],by simp [hNl],r8,rfl,⟨r2.trans k2,r4.trans k4,r7.trans k7⟩,hrz⟩ (Sub.refl _)
      · refine s3 q o (hkp4 q o hq9 hn9) fun e9=>?_
        have:=(hW4.blk e9).1
        have:=hf.lt' hq9
        omega
      · rcases p4 with p4 | p4
        · rw [p4]; exact hsd
        · exact .inr (by omega)
      · have:=aJQ (en:=cV g k (cZ g s.l i)) (st:=dS (cZ g s.l i)) (B:=B) hok'
        rw [hG] at this; exact this
      · show lQ (del h5 (jC (e9 9)).toList) nx cs cs4 S G.2.2
        rw [r9]
        exact hgr4.ty v3.del
      · show bV h5 (e9 9) _ _ _ _
        rw [r9]
        exact q14.ty v3
      · exact s1
      · have ho1:=hro4.ty v1 v2
        refine ⟨by simp [hro.1],fun q x m hx9 hm9=>?_⟩
        rcases Nat.lt_or_ge q ws.length with hql | hql
        · rw [List.getElem?_append_left hql] at hx9
          rw [List.getElem?_append_left (by have:=hro.1; omega)] at hm9
          exact ho1.2 q x m hx9 hm9
        · rw [List.getElem?_append_right hql] at hx9
          rw [List.getElem?_append_right (by have:=hro.1; omega),← hro.1] at hm9
          generalize q - ws.length=q' at hx9 hm9
          cases q' with
          | succ q'=>simp at hx9
          | zero =>
            simp at hx9 hm9
            subst hx9; subst hm9
            exact ⟨mcs,(p7.ty v2).mono (by omega),(p8.ty v1).mono (by omega),hop.1,by have:=hop.2; omega⟩
  · obtain rfl:j=0:=by omega
    have hrz:((0:Int),S'.modify k (gU R N))=Z:=hrz
    subst hrz
    exact aF (hx _ _ _ _ (fun e=>by cases e) (hQ rfl _ _ _ sid' cs' S' R N ws (by omega) (hf'.mono (by omega)) hkp hsd hB' hgr hok' hR hW hro (by omega) rfl ⟨k2,k4,k7⟩))
end
theorem aOb {ro:Ro} {h:T Obj} {v:Value} {lo lo':Nat} {ws:List Value} {N:List (List MoveD)} (ho:bV h v 1 bE (rP ws) lo) (hr:tS h lo' ws N):SlR ro h v 1 (rJ ro h) N:=⟨rP ws,ho.sl,by rw [aBJ]; exact hr.1,fun i x row hx hrow=>by
  unfold rP at hx
  rw [List.getElem?_map] at hx
  cases hw:ws[i]? with
  | none=>rw [hw] at hx; cases hx
  | some w =>
    rw [hw] at hx
    obtain ⟨mcs,a1,a2,a3,a4⟩:=hr.2 i w row hw hrow
    have hx:[w]=x:=Option.some.inj hx
    rw [← hx]
    exact aPO a1 a2 a3 (by omega)⟩
theorem aKq {m:Nat} (h:m≤3):eD (m:Int)≤27:=by
  have:m=0∨m=1∨m=2∨m=3:=by omega
  rcases this with rfl | rfl | rfl | rfl<;>decide
section
variable {ro:Ro} {g:GlD} {bid sid aid:Nat} {av bv nv cv:Value} {c:List Nat} {n:Int} {S:List StateD} {cs:List (List Value)}
set_option maxRecDepth 8000 in
set_option maxHeartbeats 2000000 in
theorem aNQ {k:Nat} {s:StateD} {R:List Int} {N:List (List MoveD)} {ws:List Value} {lv rv:Value} {e:Env} {h:T Obj} {nx lo:Nat} {Q:KE} (hf:Fr h nx) (hB:Rb h bid sid av bv nv c n cv S cs) (hA:h.get aid=some (.cells j8.toArray a9)) (hS:RSt ro (del h [bid,sid,aid]) cs S) (hs:S[k]?=some s) (hok:SOk g S) (hx:cs[k]?=some [lv,rv,bG,bG]) (hR:bV h (e 9) 1 cF (gL R) lo) (hW:bV h (e 10) 1 bE (rP ws) lo) (hro:tS h lo ws N)
    (e4:e 4=ptr bid) (e7:e 7=.int .i64 (k:Int))
    (hQ:∀ e' h' nx',nx≤nx'→Fr h' nx'→dY [bid,sid] h h'→Rb h' bid sid av bv nv c n cv (S.modify k (gU R N)) (cs.set k [lv,rv,e 9,e 10])→RSt ro (del h' [bid,sid,aid]) (cs.set k [lv,rv,e 9,e 10]) (S.modify k (gU R N))→e' 2=e 2→e' 4=ptr bid→e' 7=.int .i64 ((k:Int)+1)→Q .normal e' h' nx') :
    rV ro Q e h nx:=by
  unfold rV
  rw [e4,e7]
  generalize e 9=w9 at hR hQ ⊢
  generalize e 10=w10 at hW hQ ⊢
  have hb:=hB.blk
  have b261:=uO (av:=av) (bv:=bv) (nv:=nv) (n:=n) (cv:=cv) (sv:=.slice (some (own sid 4)) cs.length cs.length) (ev:=.int .i64 0) hB.hc
  have hkl:k < cs.length:=(List.getElem?_eq_some_iff.1 hx).1
  have hix:=aJw (id:=sid) (z:=4) (cap:=cs.length) hkl
  have hrg:=hB.row
  have hfew:=hB.few
  have hlen:=hB.len
  have i1:=hB.ne
  have hfl:=aEW hB.z4
  have hrok:=hR.ok
  have hwok:=hW.ok
  (repeat (first | refine aB (by simp (disch:=first | omega | exact Int.natCast_nonneg _ | assumption) only [BB,B2,↓reduceIte,Nat.reduceLeDiff,Nat.reduceAdd,CC,a8,hb,b261,hix]<;>rfl) ?_ | refine aD ?_ | refine aE ?_ | with_reducible first | refine aG ?_ | refine aF ?_ | refine aH ?_ | refine aI ?_ | refine aK ?_ | refine aJ ?_ | refine aL ?_ | refine aC ?_))
  refine aB (dZ (l:=cs.flatten) hrg (by omega) hrok (gC hrok)) ?_
  rw [aAz w9 hB.z4 hx (by omega)]
  have hcs1:cs.set k ([lv,rv,bG,bG].set 2 w9)=cs.set k [lv,rv,w9,bG]:=rfl
  rw [hcs1]
  have hz1:∀ x∈cs.set k [lv,rv,w9,bG],x.length=4:=aMN hB.z4 rfl
  have hx1:(cs.set k [lv,rv,w9,bG])[k]?=some [lv,rv,w9,bG]:=by rw [List.getElem?_set_self hkl]
  have hb2:(h.upd sid (some (.cells (cs.set k [lv,rv,w9,bG]).flatten.toArray aP))).get bid=_:=(T.get_upd_ne _ _ i1).trans hb
  have hr2:(h.upd sid (some (.cells (cs.set k [lv,rv,w9,bG]).flatten.toArray aP))).get sid=_:=T.get_upd_same _ _ _
  have hfl1:=aEW hz1
  have hl1:(cs.set k [lv,rv,w9,bG]).length=cs.length:=by simp
  (repeat (first | refine aB (by simp (disch:=first | omega | exact Int.natCast_nonneg _ | assumption) only [BB,B2,↓reduceIte,Nat.reduceLeDiff,Nat.reduceAdd,CC,a8,hb2,b261,hix]<;>rfl) ?_ | refine aD ?_ | refine aE ?_ | with_reducible first | refine aG ?_ | refine aF ?_ | refine aH ?_ | refine aI ?_ | refine aK ?_ | refine aJ ?_ | refine aL ?_ | refine aC ?_))
  refine aB (dZ (l:=(cs.set k [lv,rv,w9,bG]).flatten) hr2 (by omega) hwok (gC hwok)) ?_
  rw [aAz w10 hz1 hx1 (by omega)]
  have hcs2:(cs.set k [lv,rv,w9,bG]).set k ([lv,rv,w9,bG].set 3 w10)=cs.set k [lv,rv,w9,w10]:=by
    show (cs.set k [lv,rv,w9,bG]).set k [lv,rv,w9,w10]=_
    rw [List.set_set]
  rw [hcs2]
  have hk6:dY [bid,sid] h ((h.upd sid (some (.cells (cs.set k [lv,rv,w9,bG]).flatten.toArray aP))).upd sid (some (.cells (cs.set k [lv,rv,w9,w10]).flatten.toArray aP))):=((Sub.refl h).keepL.upd (by simp)).upd (by simp)
  have hf6:Fr ((h.upd sid (some (.cells (cs.set k [lv,rv,w9,bG]).flatten.toArray aP))).upd sid (some (.cells (cs.set k [lv,rv,w9,w10]).flatten.toArray aP))) nx:=(hf.upd (Nat.le_refl _) (hf.lt' hrg)).upd (Nat.le_refl _) (hf.lt' hrg)
  have hb6:((h.upd sid (some (.cells (cs.set k [lv,rv,w9,bG]).flatten.toArray aP))).upd sid (some (.cells (cs.set k [lv,rv,w9,w10]).flatten.toArray aP))).get bid=_:=(T.get_upd_ne _ _ i1).trans hb2
  have hr6:((h.upd sid (some (.cells (cs.set k [lv,rv,w9,bG]).flatten.toArray aP))).upd sid (some (.cells (cs.set k [lv,rv,w9,w10]).flatten.toArray aP))).get sid=_:=T.get_upd_same _ _ _
  generalize (h.upd sid (some (.cells (cs.set k [lv,rv,w9,bG]).flatten.toArray aP))).upd sid (some (.cells (cs.set k [lv,rv,w9,w10]).flatten.toArray aP))=h6 at hk6 hf6 hb6 hr6
  have hl2:(cs.set k [lv,rv,w9,w10]).length=cs.length:=by simp
  have hB6:Rb h6 bid sid av bv nv c n cv (S.modify k (gU R N)) (cs.set k [lv,rv,w9,w10]):=⟨hB.hc,by rw [hl2]; exact hb6,hr6,aMN hB.z4 rfl,by rw [hl2,List.length_modify]; exact hlen,by rw [List.length_modify]; exact hfew,by rw [List.length_modify]; exact hB.pos⟩
  have hA6:=hB.tyk hk6 (by decide) (by decide) _ _ _ hA
  have hd6:Sub (del h [bid,sid,aid]) (del h6 [bid,sid,aid]):=hk6.del2 hf (.inl rfl)
  unfold xN
  have hadd:aX .add (e 7) (.int .i64 1)=some (.int .i64 ((k:Int)+1)):=by rw [e7,cK,dJ (by omega) (by omega)]
  refine aB hadd ?_
  refine hQ _ h6 _ (by omega) (hf6.mono (by omega)) hk6 hB6 (fun i x t hx9 ht9=>?_) rfl e4 rfl
  by_cases hik:i=k
  · subst hik
    rw [List.getElem?_set_self hkl] at hx9
    rw [gG,hs] at ht9
    have hx9:=Option.some.inj hx9
    have ht9:gU R N s=t:=Option.some.inj ht9
    subst hx9; subst ht9
    obtain ⟨lv',rv',uv',nv',q1,q2,q3,q4,q5,q6⟩:=hS i _ _ hx hs
    simp only [List.cons.injEq,and_true] at q1
    obtain ⟨rfl,rfl,rfl,rfl⟩:=q1
    have t1:cY cF h h6:=hB.tyk hk6 (by decide) (by decide)
    have t2:cY bE h h6:=hB.tyk hk6 (by decide) (by decide)
    have t3:cY bC h h6:=hB.tyk hk6 (by decide) (by decide)
    have t4:cY bR h h6:=hB.tyk hk6 (by decide) (by decide)
    have hro6:=hro.ty t4 t3
    refine ⟨lv,rv,w9,w10,rfl,q2.sub hd6,q3.sub hd6,(hB6.delN hA6 (hR.ty t1) (by decide) (by decide) (by decide)).sl,aOb (lo':=lo) (hB6.delN hA6 (hW.ty t2) (by decide) (by decide) (by decide)) ⟨hro6.1,fun i w row hw hrow=>?_⟩,q6⟩
    obtain ⟨mcs,a1,a2,a3⟩:=hro6.2 i w row hw hrow
    refine ⟨mcs,hB6.delN hA6 a1 (by decide) (by decide) (by decide),⟨a2.1,fun i x m hx hm=>?_⟩,a3⟩
    obtain ⟨ov,b1,b2⟩:=a2.2 i x m hx hm
    exact ⟨ov,b1,hB6.delN hA6 b2 (by decide) (by decide) (by decide)⟩
  · rw [List.getElem?_set_ne (Ne.symm hik)] at hx9
    rw [jQ hik] at ht9
    exact eA.sub hd6 _ _ (hS i x t hx9 ht9)
end
section
variable {ro:Ro} {g:GlD} {bid sid aid:Nat} {av bv nv cv:Value} {c:List Nat} {n:Int} {S:List StateD} {cs:List (List Value)}
set_option maxRecDepth 8000 in
set_option maxHeartbeats 2000000 in
theorem aNN {B:List Nat} (hr:j0 g=true) (hcl:∀ x∈c,x < 256) (hBf:i8 c n=B) (hBn:n=(B.length:Int)) (hBl:B.length≤256) (hb:∀ b∈B,b < 256) (hm0:Made g B S 0 0) (htl0:∀ (i:Nat) x,cs[i]?=some x→∃ lv rv,x=[lv,rv,bG,bG])
    {h:T Obj} {nx:Nat} {Q:KE} {e0:Env} (hf:Fr h nx) (hB:Rb h bid sid av bv nv c n cv S cs) (hS:RSt ro (del h [bid,sid,aid]) cs S) (hn:ZI ro (del h [bid,sid,aid]) nv (z7 g)) (ha:ZI ro (del h [bid,sid,aid]) av g.first) (hP:SlR ro (del h [bid,sid,aid]) bv 9 (mV ro (del h [bid,sid,aid])) g.p) (hA:h.get aid=some (.cells j8.toArray a9))
    (e2:e0 2=ptr aid) (e4:e0 4=ptr bid) (e7:e0 7=.int .i64 0)
    (hQe:(mW g B 256 0 S).1≠0→∀ e' h' nx',nx≤nx'→Fr h' nx'→dY [bid,sid] h h'→h'.get aid=some (.cells j8.toArray a9)→e' 2=ptr aid→e' 3=.int .i64 (mW g B 256 0 S).1→Q .ret e' h' nx')
    (hQ:(mW g B 256 0 S).1=0→∀ e' h' nx' sid' cs',nx≤nx'→Fr h' nx'→dY [bid,sid] h h'→(sid'=sid∨nx≤sid')→Rb h' bid sid' av bv nv c n cv (mW g B 256 0 S).2 cs'→RSt ro (del h' [bid,sid',aid]) cs' (mW g B 256 0 S).2→e' 2=ptr aid→e' 4=ptr bid→Q (.exit 2) e' h' nx') :
    d5 (xH ro) e0 h nx Q:=by
  generalize hZ:mW g B 256 0 S=Z at hQe hQ
  refine bI (fun j e h' nx'=>∃ (k sid':Nat) (cs':List (List Value)) (S':List StateD),k+j=256∧k≤S'.length∧nx≤nx'∧Fr h' nx'∧dY [bid,sid] h h'∧(sid'=sid∨nx≤sid')∧Rb h' bid sid' av bv nv c n cv S' cs'∧RSt ro (del h' [bid,sid',aid]) cs' S'∧Made g B S' k 0∧(∀ (i:Nat) x,k≤i→cs'[i]?=some x→∃ lv rv,x=[lv,rv,bG,bG]) ∧
    e 2=ptr aid∧e 4=ptr bid∧e 7=.int .i64 k∧mW g B j k S'=Z) ?_ (n:=256)
    ⟨0,sid,cs,S,by omega,by omega,by omega,hf,(Sub.refl h).keepL,.inl rfl,hB,hS,hm0,fun i x _ hx=>htl0 i x hx,e2,e4,e7,hZ⟩
  rintro j e h' nx' ⟨k,sid',cs',S',hj,hkS,hnx,hf',hkp,hsd,hB',hS',hm,htl,e2',e4',e7',hrz⟩ Q' hq hx
  have hbk:=hB'.blk
  have hfew:=hB'.few
  have hlen:=hB'.len
  have b261:=uO (av:=av) (bv:=bv) (nv:=nv) (n:=n) (cv:=cv) (sv:=.slice (some (own sid' 4)) cs'.length cs'.length) (ev:=.int .i64 0) hB.hc
  have hdS:=gM h' [bid,sid',aid]
  have hsl:=hB'.slr hS' hdS
  have hsn:=hsl.len
  unfold xH
  rw [e4',e7']
  (repeat (first | refine aB (by simp (disch:=first | omega | exact Int.natCast_nonneg _ | assumption) only [BB,B2,↓reduceIte,Nat.reduceLeDiff,Nat.reduceAdd,CC,a8,hbk,b261,hsn]<;>rfl) ?_ | refine aD ?_ | refine aE ?_ | with_reducible first | refine aG ?_ | refine aF ?_ | refine aH ?_ | refine aI ?_ | refine aK ?_ | refine aJ ?_ | refine aL ?_ | refine aC ?_))
  refine dO (fun hk=>?_) (fun hk=>?_)
  · have hk:k < S'.length:=by omega
    obtain ⟨j,rfl⟩:∃ j',j=j'+1:=⟨j - 1,by omega⟩
    obtain ⟨s,hs⟩:∃ s,S'[k]?=some s:=⟨_,List.getElem?_eq_getElem hk⟩
    have hgd:S'.getD k noS=s:=by rw [List.getD_eq_getElem?_getD,hs]; rfl
    have hke:=(List.getElem?_eq_some_iff.1 hs).2
    obtain ⟨o1,o2,o3⟩:=hm.base.ok s (List.mem_of_getElem? hs)
    obtain ⟨p1,p2⟩:=aEP o3
    have p3:=aKq o3
    obtain ⟨m1,m2⟩:=hm.cnt k s hs
    have hd0:wB k 0 k s=0:=by unfold wB; rw [if_neg (by omega),if_pos rfl]
    rw [hd0] at m1 m2
    have hmod:=aN7 hs (List.eq_nil_iff_length_eq_zero.2 m1) (List.eq_nil_iff_length_eq_zero.2 m2)
    have h00:k=0→s.l=[]:=fun hk0=>by
      obtain ⟨z,z1,z2⟩:=hm.base.zero
      subst hk0
      rw [hs] at z1; cases z1; exact z2
    rw [x7,if_pos hk,hgd] at hrz
    obtain ⟨y,⟨lv,rv,uv,wv,rfl,y1,y2,y3,y4,y5⟩,w2,w3,w4,w5⟩:=hsl.at hk
    rw [hke] at y2
    have six:=hsl.ix .i64 hk
    have f1:=w4 1
    have l1:=w5 1 rv rfl
    have rl:=y2.len
    have hA':h'.get aid=some (.cells j8.toArray a9):=hB.tyk hkp (by decide) (by decide) _ _ _ hA
    have hsubD:=hkp.del2 (aid:=aid) hf hsd
    (repeat (first | refine aB (by simp (disch:=first | omega | exact Int.natCast_nonneg _ | assumption) only [BB,B2,↓reduceIte,Nat.reduceLeDiff,Nat.reduceAdd,CC,a8,hbk,b261,six,f1,l1,rl]<;>rfl) ?_ | refine aD ?_ | refine aE ?_ | with_reducible first | refine aG ?_ | refine aF ?_ | refine aH ?_ | refine aI ?_ | refine aK ?_ | refine aJ ?_ | refine aL ?_ | refine aC ?_))
    refine aDv fun n2 hn2=>?_
    have hMc:eD (s.r.length:Int)=((eD (s.r.length:Int)).toNat:Int):=(Int.toNat_of_nonneg p2).symm
    have hM27:(eD (s.r.length:Int)).toNat≤27:=by omega
    have hspec:=rL (n:=(eD (s.r.length:Int)).toNat) (c:=0) hm hk
    have hz0:((0:Nat):Int)=0:=rfl
    rw [hz0] at hspec
    refine aNO (M:=(eD (s.r.length:Int)).toNat) (s:=s) (aid:=aid) hr hcl hBf hBn hBl hb hM27 hs hm.base.ok h00 hm.base.zero (hf'.mono (show nx'≤_ by omega)) hB' hS' (hn.sub hsubD) (ha.sub hsubD) (hP.sub hsubD (mV.sub hsubD)) hA' ?_ ?_ ?_ ?_ ?_ ?_ ?_ (fun hz e9 h4 n4 p1 p2 p3 p4 p5 p6=>?_) fun hz e9 h4 n4 sid4 cs4 S4 R N ws q1 q2 q3 q4 q5 q6 q7 q8 q9 q10 q11 q12 q13=>?_
    · exact e2'
    · exact e4'
    · exact e7'
    · exact congrArg (Value.int IntKind.i64) hMc
    · rfl
    · rfl
    · rfl
    · rw [hmod] at hz p6
      rw [if_neg hz] at hrz
      refine mM (hx _ _ _ _ (fun e=>by cases e) ?_)
      have hz1:Z.1=(iC g B k (eD (s.r.length:Int)).toNat 0 S').1:=by rw [← hrz]
      exact hQe (by rw [hz1]; exact hz) _ _ _ (by omega) p2 (hkp.chain2 hf p3 hsd) p4 p5 (by rw [hz1]; exact p6)
    · rw [hmod] at hz q12
      rw [if_pos hz] at hrz
      obtain ⟨c1,c2⟩:=hspec hz
      rw [q12] at hrz c1 c2
      obtain ⟨k2,k4,k7⟩:=q13
      have k2:e9 2=ptr aid:=k2.trans e2'
      have k4:e9 4=ptr bid:=k4.trans e4'
      have k7:e9 7=.int .i64 (k:Int):=k7.trans e7'
      have hgrH:=q6.ty (gM _ _).ty
      have hA4:=hB'.tyk q3 (by decide) (by decide) _ _ _ hA'
      have hS4:=hS'.grow (lo:=n2+4) hA4 (hf'.mono (by omega)) q3 q4 q5 hgrH hlen fun t ht=>(q7 t ht).2.2
      have hgr0:=hgrH
      obtain ⟨ds,TT,a1,a2,a3,a4⟩:=hgr0
      have hs4:S4[k]?=some s:=by rw [a2,List.getElem?_append_left hk]; exact hs
      have hkc:k < cs'.length:=by omega
      obtain ⟨lv9,rv9,hx9⟩:=htl k _ (Nat.le_refl _) (List.getElem?_eq_getElem hkc)
      have hx4:cs4[k]?=some [lv9,rv9,bG,bG]:=by rw [a1,List.getElem?_append_left hkc,List.getElem?_eq_getElem hkc,hx9]
      refine fG (dR ?_)
      refine aNQ q2 q5 hA4 hS4 hs4 q7 hx4 q8 q9 q10 k4 k7 fun e7 h7 n7 r1 r2 r3 r4 r5 r6 r7 r8=>?_
      have hfs:S4.modify k (gU R N)=S4.modify k (gU R N):=rfl
      obtain ⟨s',h3,h4'⟩:=c2 k s hs
      have hr9:s'.r=s.r:=by
        rw [(hm.base.ok s (List.mem_of_getElem? hs)).2.1,(c1.base.ok s' (List.mem_of_getElem? h3)).2.1,h4']
      rw [Nat.zero_add] at c1
      have c3:=Made.next' h3 (by rw [hr9]; exact c1)
      have hk3:=(List.getElem?_eq_some_iff.1 h3).1
      have hkp7:dY [bid,sid] h h7:=(hkp.chain2 hf q3 hsd).chain2 hf r3 (by
        rcases q4 with q4 | q4
        · rw [q4]; exact hsd
        · exact .inr (by omega))
      refine hq j _ h7 _ _ (by omega) ⟨k+1,sid4,cs4.set k [lv9,rv9,e9 9,e9 10],S4.modify k (gU R N),by omega,by omega,by omega,r2,hkp7,?_,r4,r5,c3,fun i x hi hx8=>?_,r6.trans k2,r7,r8,hrz⟩ (Sub.refl _)
      · rcases q4 with q4 | q4
        · rw [q4]; exact hsd
        · exact .inr (by omega)
      · rw [List.getElem?_set_ne (by omega),a1] at hx8
        rcases Nat.lt_or_ge i cs'.length with hil | hil
        · rw [List.getElem?_append_left hil] at hx8
          exact htl i x (by omega) hx8
        · rw [List.getElem?_append_right hil] at hx8
          have htl9:i - cs'.length < TT.length:=by
            have:=(List.getElem?_eq_some_iff.1 hx8).1
            omega
          obtain ⟨lv8,rv8,z1,_⟩:=a4 _ x _ hx8 (List.getElem?_eq_getElem htl9)
          exact ⟨lv8,rv8,z1⟩
  · have hkl:k=S'.length:=by omega
    have hrz:((0:Int),S')=Z:=by
      rw [← hrz]
      cases j with
      | zero=>rfl
      | succ j=>rw [x7,if_neg (by omega)]
    subst hrz
    exact aF (hx _ _ _ _ (fun e=>by cases e) (hQ rfl _ _ _ sid' cs' (by omega) (hf'.mono (by omega)) hkp hsd hB' hS' e2' e4'))
end
theorem aKi (a b:Value):dF Tryz.prog aO [(0,.agg #[a,b])]=some (.agg (rbL a b bG (List.replicate 256 0) 0 bG bG (.int .i64 0)).toArray):=by kernel_rfl
def aGj (g:GlD) (k:Nat):List Int:=(eH k).map (mQ g)
theorem aKF (g:GlD) (k:Nat):aGj g (k+1)=aGj g k++[mQ g (k:Int)]:=by
  unfold aGj
  rw [uN,List.map_append]; rfl
theorem aLg (g:GlD) (k:Nat):(aGj g k).length=k:=by unfold aGj; rw [List.length_map,rR]
section
variable {ro:Ro} {g:GlD} {bid gid rid:Nat} {av bv:Value}
set_option maxRecDepth 8000 in
set_option maxHeartbeats 2000000 in
theorem aMA {e:Env} (hr:j0 g=true) {h:T Obj} {nx:Nat} {Q:KE} (hf:Fr h nx) (hP:SlR ro (del h [bid]) bv 9 (mV ro (del h [bid])) g.p)
    (hb:h.get bid=some (.cells (rbL av bv bG (List.replicate 256 0) 0 bG bG (.int .i64 0)).toArray aO)) (hg:h.get gid=some (.cells [av,bv].toArray fE))
    (e1:e 1=ptr gid) (e2:e 2=ptr rid) (e4:e 4=ptr bid) (e5:e 5=bG) (e6:e 6=.int .i64 0)
    (hQ:∀ e' h' nx' sv cv nv,nx≤nx'→Fr h' nx'→dY [bid] h h'→h'.get bid=some (.cells (rbL av bv nv (List.replicate 256 0) 0 cv bG (.int .i64 0)).toArray aO)→bV h' nv 1 cF (gL (aGj g g.p.length)) nx→bV h' sv 4 bN (rF (dE g.p)) nx→bV h' cv 2 d3 (t7 (j6 g.p)) nx →
      e' 2=ptr rid→e' 4=ptr bid→e' 5=sv→Q (.exit 0) e' h' nx') :
    d5 (xK ro) e h nx Q:=by
  obtain ⟨hgl,hfr,hmay⟩:=i6 hr
  have hbl:=hf.lt' hb
  have hgb:gid≠bid:=by
    rintro rfl
    rw [hg] at hb
    simp only [Option.some.injEq,Obj.cells.injEq] at hb
    exact absurd hb.2.1 (by decide)
  refine bI (fun j e h' nx'=>∃ (k:Nat) (cv nv:Value),k+j=g.p.length∧nx≤nx'∧Fr h' nx'∧dY [bid] h h'∧h'.get bid=some (.cells (rbL av bv nv (List.replicate 256 0) 0 cv bG (.int .i64 0)).toArray aO) ∧
    bV h' nv 1 cF (gL (aGj g k)) nx∧bV h' (e 5) 4 bN (rF (dE (g.p.take k))) nx∧bV h' cv 2 d3 (t7 (j6 (g.p.take k))) nx ∧
    e 1=ptr gid∧e 2=ptr rid∧e 4=ptr bid∧e 6=.int .i64 k) ?_ (n:=g.p.length)
    ⟨0,bG,bG,by omega,by omega,hf,(Sub.refl h).keepL,hb,bV.nil,by rw [e5]; exact bV.nil,bV.nil,e1,e2,e4,e6⟩
  rintro j e' h' nx' ⟨k,cv,nv,hj,hnx,hf',hkp,hb',hnv,hsv,hcv,f1,f2,f4,f6⟩ Q' hq hx
  unfold xK
  rw [f1,f4,f6]
  have hsub:Sub (del h [bid]) h':=hkp.delS fun _ h=>h
  have hg':h'.get gid=some (.cells [av,bv].toArray fE):=hkp _ _ hg (by simpa using hgb)
  have hP':SlR ro h' bv 9 (mV ro h') g.p:=hP.sub hsub (mV.sub hsub)
  have hpl:=hP'.len
  have c1:([av,bv]:List Value)[1]?=some bv:=rfl
  (repeat (first | refine aB (by simp (disch:=first | omega | exact Int.natCast_nonneg _ | assumption) only [BB,B2,↓reduceIte,Nat.reduceLeDiff,Nat.reduceAdd,CC,hg',c1,hpl]<;>rfl) ?_ | refine aD ?_ | refine aE ?_ | with_reducible first | refine aG ?_ | refine aF ?_ | refine aH ?_ | refine aI ?_ | refine aK ?_ | refine aJ ?_ | refine aL ?_ | refine aC ?_))
  refine dO (fun hk=>?_) (fun hk=>?_)
  · have hk:k < g.p.length:=by omega
    obtain ⟨x,⟨pv,rfl,y1,y2⟩,x2⟩:=hP'.loadAK hk
    obtain ⟨x',⟨pv',rfl,y1',y2'⟩,_,x3,x4,x5⟩:=hP'.at hk
    have hix:=hP'.ix .i64 hk
    have fw0:=x4 0
    have ldS:loadA ro h' 4 (jT 9 bv k 0)=some (pX g.p[k].s):=x2 0 4 (by show 0+4≤9; omega)
    have hat:=aKe hk
    have htk:g.p.take (k+1)=g.p.take k++[g.p[k]]:=List.take_succ_eq_append_getElem hk
    have hcd:ctd g (k:Int)=decide (1 < g.p[k].hi):=by unfold ctd; rw [hat]
    have hnum:=aE5 (g:=g) k
    have hst:dE (g.p.take (k+1))=dE (g.p.take k)++[g.p[k].s]:=by rw [htk]; unfold dE; rw [List.map_append]; rfl
    have hct:=aHv (g.p.take k) g.p[k]
    rw [← htk] at hct
    have hsl:(dE (g.p.take k)).length≤512:=by unfold dE; rw [List.length_map,List.length_take]; omega
    have hcl:(j6 (g.p.take k)).length≤512:=by have:=aAx (g.p.take k); rw [List.length_take] at this; omega
    have hnl:=aLg g k
    have hns:=aKF g k
    have hj7:∀ (e:Env) (h4:T Obj) (n4:Nat) (cv' nv':Value),nx'≤n4→Fr h4 n4→dY [bid] h h4→h4.get bid=some (.cells (rbL av bv nv' (List.replicate 256 0) 0 cv' bG (.int .i64 0)).toArray aO) →
        bV h4 nv' 1 cF (gL (aGj g (k+1))) nx→bV h4 (e 5) 4 bN (rF (dE (g.p.take (k+1)))) nx→bV h4 cv' 2 d3 (t7 (j6 (g.p.take (k+1)))) nx →
        e 1=ptr gid→e 2=ptr rid→e 4=ptr bid→e 6=.int .i64 k→rW ro Q' e h4 n4:=by
      intro e h4 n4 cv' nv' hn4 s1 s2 s3 s4 s6 s7 f1 f2 f4 f6
      unfold rW
      rw [f6]
      (repeat (first | refine aB (by simp (disch:=first | omega | exact Int.natCast_nonneg _ | assumption) only [BB,B2,↓reduceIte,Nat.reduceLeDiff,Nat.reduceAdd,CC]<;>rfl) ?_ | refine aD ?_ | refine aE ?_ | with_reducible first | refine aG ?_ | refine aF ?_ | refine aH ?_ | refine aI ?_ | refine aK ?_ | refine aJ ?_ | refine aL ?_ | refine aC ?_))
      exact hq (j - 1) _ _ _ _ (by omega) ⟨k+1,cv',nv',by omega,by omega,s1.mono (by omega),s2,s3,s4,s6,s7,f1,f2,f4,rfl⟩ (Sub.refl _)
    (repeat (first | refine aB (by simp (disch:=first | omega | exact Int.natCast_nonneg _ | assumption) only [BB,B2,↓reduceIte,Nat.reduceLeDiff,Nat.reduceAdd,CC,hg',c1,hix,fw0,ldS]<;>rfl) ?_ | refine aD ?_ | refine aE ?_ | with_reducible first | refine aG ?_ | refine aF ?_ | refine aH ?_ | refine aI ?_ | refine aK ?_ | refine aJ ?_ | refine aL ?_ | refine aC ?_))
    refine aM9 hsv (by omega) hf' (by omega) (by omega) (by omega) fun h4 w q1 q2 q3=>?_
    dsimp only
    rw [← hst] at q1
    have t1:cY aO h' h4:=q2.ty hsv (by decide)
    have t2:cY cF h' h4:=q2.ty hsv (by decide)
    have t3:cY d3 h' h4:=q2.ty hsv (by decide)
    have t4:cY fE h' h4:=q2.ty hsv (by decide)
    have hb4:=t1 _ _ _ hb'
    have hg4:=t4 _ _ _ hg'
    have hnv4:=hnv.ty t2
    have hcv4:=hcv.ty t3
    have hk4:dY [bid] h h4:=fun i o hi hn9=>by
      have:=hf.lt' hi
      refine q2 i o (hkp i o hi hn9) fun e=>?_
      have:=(hsv.blk e).1
      omega
    have hP4:SlR ro h4 bv 9 (mV ro h4) g.p:=hP.sub (hk4.delS fun _ h=>h) (mV.sub (hk4.delS fun _ h=>h))
    obtain ⟨x',⟨pv4,rfl,_,_⟩,_,_,z4,z5⟩:=hP4.at hk
    have fw5:=z4 5
    have fw4:=z4 4
    have l5:=z5 5 _ rfl
    have l4:=z5 4 _ rfl
    have b2:=aJM (av:=av) (bv:=bv) (nv:=nv) (c:=List.replicate 256 0) (n:=0) (cv:=cv) (sv:=bG) (ev:=.int .i64 0)
    have b260:=aJN (av:=av) (bv:=bv) (nv:=nv) (c:=List.replicate 256 0) (n:=0) (cv:=cv) (sv:=bG) (ev:=.int .i64 0) List.length_replicate
    have hrl:=uP (av:=av) (bv:=bv) (nv:=nv) (c:=List.replicate 256 0) (n:=0) (cv:=cv) (sv:=bG) (ev:=.int .i64 0) List.length_replicate
    (repeat (first | refine aB (by simp (disch:=first | omega | exact Int.natCast_nonneg _ | assumption) only [BB,B2,↓reduceIte,Nat.reduceLeDiff,Nat.reduceAdd,CC,hg4,c1,hix,fw5,l5]<;>rfl) ?_ | refine aD ?_ | refine aE ?_ | with_reducible first | refine aG ?_ | refine aF ?_ | refine aH ?_ | refine aI ?_ | refine aK ?_ | refine aJ ?_ | refine aL ?_ | refine aC ?_))
    refine nX (fun u1=>?_) (fun u1=>?_)
    · rw [if_pos u1] at hct
      rw [decide_eq_true u1] at hcd
      have hno:mQ g (k:Int)=((j6 (g.p.take k)).length:Nat):=by rw [(aA8 hcd).1,hnum]
      rw [hno] at hns
      have hcn:=(hcv4.sl (ro:=ro)).len
      rw [s9] at hcn
      (repeat (first | refine aB (by simp (disch:=first | omega | exact Int.natCast_nonneg _ | assumption) only [BB,B2,↓reduceIte,Nat.reduceLeDiff,Nat.reduceAdd,CC,a8,hb4,b2,b260,hcn]<;>rfl) ?_ | refine aD ?_ | refine aE ?_ | with_reducible first | refine aG ?_ | refine aF ?_ | refine aH ?_ | refine aI ?_ | refine aK ?_ | refine aJ ?_ | refine aL ?_ | refine aC ?_))
      refine tT hnv4 (by omega) q3 (by omega) (by omega) (by omega) fun h5 w5 s1 s2 s3 s4=>?_
      dsimp only
      rw [← hns] at s1
      have hw5:bT w5=true:=s1.ok
      have hb5:=s3.ty (e:=aO) hnv4 (by decide) _ _ _ hb4
      have hg5:=s3.ty (e:=fE) hnv4 (by decide) _ _ _ hg4
      have hcv5:=hcv4.ty (s3.ty (e:=d3) hnv4 (by decide))
      have hsv5:=q1.ty (s3.ty (e:=bN) hnv4 (by decide))
      have hk5:dY [bid] h h5:=fun i o hi hn9=>by
        have:=hf.lt' hi
        refine s3 i o (hk4 i o hi hn9) fun e=>?_
        have:=(hnv4.blk e).1
        omega
      (repeat (first | refine aB (by simp (disch:=first | omega | exact Int.natCast_nonneg _ | assumption) only [BB,B2,↓reduceIte,Nat.reduceLeDiff,Nat.reduceAdd,CC,a8]<;>rfl) ?_ | refine aD ?_ | refine aE ?_ | with_reducible first | refine aG ?_ | refine aF ?_ | refine aH ?_ | refine aI ?_ | refine aK ?_ | refine aJ ?_ | refine aL ?_ | refine aC ?_))
      refine aB (dZ hb5 (by rw [hrl]; omega) hw5 (gC hw5)) ?_
      rw [aHD]
      have hb6:(h5.upd bid (some (.cells (rbL av bv w5 (List.replicate 256 0) 0 cv bG (.int .i64 0)).toArray aO))).get bid=_:=T.get_upd_same _ _ _
      have hg6:(h5.upd bid (some (.cells (rbL av bv w5 (List.replicate 256 0) 0 cv bG (.int .i64 0)).toArray aO))).get gid=_:=(T.get_upd_ne _ _ hgb).trans hg5
      have hk6:dY [bid] h (h5.upd bid (some (.cells (rbL av bv w5 (List.replicate 256 0) 0 cv bG (.int .i64 0)).toArray aO))):=hk5.upd (by simp)
      have hcv6:=hcv5.updNe (o:=some (.cells (rbL av bv w5 (List.replicate 256 0) 0 cv bG (.int .i64 0)).toArray aO)) hb5 (by decide)
      have hsv6:=hsv5.updNe (o:=some (.cells (rbL av bv w5 (List.replicate 256 0) 0 cv bG (.int .i64 0)).toArray aO)) hb5 (by decide)
      have hnv6:=s1.updNe (o:=some (.cells (rbL av bv w5 (List.replicate 256 0) 0 cv bG (.int .i64 0)).toArray aO)) hb5 (by decide)
      have hf6:=s4.upd (o:=some (.cells (rbL av bv w5 (List.replicate 256 0) 0 cv bG (.int .i64 0)).toArray aO)) (Nat.le_refl _) (show bid < _ by omega)
      generalize h5.upd bid (some (.cells (rbL av bv w5 (List.replicate 256 0) 0 cv bG (.int .i64 0)).toArray aO))=h6 at hb6 hg6 hk6 hcv6 hsv6 hnv6 hf6
      have hP6:SlR ro h6 bv 9 (mV ro h6) g.p:=hP.sub (hk6.delS fun _ h=>h) (mV.sub (hk6.delS fun _ h=>h))
      obtain ⟨x',⟨pv6,rfl,_,_⟩,_,_,v4,v5⟩:=hP6.at hk
      have l56:=v5 5 _ rfl
      have l46:=v5 4 _ rfl
      have b260':=aJN (av:=av) (bv:=bv) (nv:=w5) (c:=List.replicate 256 0) (n:=0) (cv:=cv) (sv:=bG) (ev:=.int .i64 0) List.length_replicate
      have hrl':=uP (av:=av) (bv:=bv) (nv:=w5) (c:=List.replicate 256 0) (n:=0) (cv:=cv) (sv:=bG) (ev:=.int .i64 0) List.length_replicate
      (repeat (first | refine aB (by simp (disch:=first | omega | exact Int.natCast_nonneg _ | assumption) only [BB,B2,↓reduceIte,Nat.reduceLeDiff,Nat.reduceAdd,CC,a8,hb6,b260',hg6,c1,hix,fw4,fw5,l56,l46]<;>rfl) ?_ | refine aD ?_ | refine aE ?_ | with_reducible first | refine aG ?_ | refine aF ?_ | refine aH ?_ | refine aI ?_ | refine aK ?_ | refine aJ ?_ | refine aL ?_ | refine aC ?_))
      refine aB (aJ4 _ _) ?_
      refine aMa hcv6 (by omega) (hf6.mono (show _≤_ from Nat.le_refl _)) (by omega) (by omega) (by omega) fun h7 w7 r1 r2 r3=>?_
      dsimp only
      rw [← hct] at r1
      have hw7:bT w7=true:=r1.ok
      have hb7:=r2.ty (e:=aO) hcv6 (by decide) _ _ _ hb6
      have hnv7:=hnv6.ty (r2.ty (e:=cF) hcv6 (by decide))
      have hsv7:=hsv6.ty (r2.ty (e:=bN) hcv6 (by decide))
      have hk7:dY [bid] h h7:=fun i o hi hn9=>by
        have:=hf.lt' hi
        refine r2 i o (hk6 i o hi hn9) fun e=>?_
        have:=(hcv6.blk e).1
        omega
      (repeat (first | refine aB (by simp (disch:=first | omega | exact Int.natCast_nonneg _ | assumption) only [BB,B2,↓reduceIte,Nat.reduceLeDiff,Nat.reduceAdd,CC,a8]<;>rfl) ?_ | refine aD ?_ | refine aE ?_ | with_reducible first | refine aG ?_ | refine aF ?_ | refine aH ?_ | refine aI ?_ | refine aK ?_ | refine aJ ?_ | refine aL ?_ | refine aC ?_))
      refine aB (dZ hb7 (by rw [hrl']; omega) hw7 (gC hw7)) ?_
      rw [aIV List.length_replicate]
      exact hj7 _ _ _ w7 w5 (by omega) ((r3.mono (by omega)).upd (Nat.le_refl _) (by omega)) (hk7.upd (by simp)) (T.get_upd_same _ _ _) (hnv7.updNe hb7 (by decide)) (hsv7.updNe hb7 (by decide)) (r1.updNe hb7 (by decide)) f1 f2 f4 f6
    · rw [if_neg (by omega)] at hct
      rw [decide_eq_false (by omega)] at hcd
      rw [aA7 hcd] at hns
      (repeat (first | refine aB (by simp (disch:=first | omega | exact Int.natCast_nonneg _ | assumption) only [BB,B2,↓reduceIte,Nat.reduceLeDiff,Nat.reduceAdd,CC,a8,hb4,b2]<;>rfl) ?_ | refine aD ?_ | refine aE ?_ | with_reducible first | refine aG ?_ | refine aF ?_ | refine aH ?_ | refine aI ?_ | refine aK ?_ | refine aJ ?_ | refine aL ?_ | refine aC ?_))
      refine tT hnv4 (by omega) q3 (by omega) (by omega) (by omega) fun h5 w5 s1 s2 s3 s4=>?_
      dsimp only
      rw [← hns] at s1
      have hw5:bT w5=true:=s1.ok
      have hb5:=s3.ty (e:=aO) hnv4 (by decide) _ _ _ hb4
      have hcv5:=hcv4.ty (s3.ty (e:=d3) hnv4 (by decide))
      have hsv5:=q1.ty (s3.ty (e:=bN) hnv4 (by decide))
      have hk5:dY [bid] h h5:=fun i o hi hn9=>by
        have:=hf.lt' hi
        refine s3 i o (hk4 i o hi hn9) fun e=>?_
        have:=(hnv4.blk e).1
        omega
      (repeat (first | refine aB (by simp (disch:=first | omega | exact Int.natCast_nonneg _ | assumption) only [BB,B2,↓reduceIte,Nat.reduceLeDiff,Nat.reduceAdd,CC,a8]<;>rfl) ?_ | refine aD ?_ | refine aE ?_ | with_reducible first | refine aG ?_ | refine aF ?_ | refine aH ?_ | refine aI ?_ | refine aK ?_ | refine aJ ?_ | refine aL ?_ | refine aC ?_))
      refine aB (dZ hb5 (by rw [hrl]; omega) hw5 (gC hw5)) ?_
      rw [aHD]
      exact hj7 _ _ _ cv w5 (by omega) ((s4.mono (by omega)).upd (Nat.le_refl _) (by omega)) (hk5.upd (by simp)) (T.get_upd_same _ _ _) (s1.updNe hb5 (by decide)) (hsv5.updNe hb5 (by decide)) (by rw [hct]; exact hcv5.updNe hb5 (by decide)) f1 f2 f4 f6
  · have hkl:k=g.p.length:=by omega
    subst hkl
    rw [List.take_length] at hsv hcv
    exact aF (hx _ _ _ _ (fun e=>by cases e) (hQ _ _ _ _ cv nv (by omega) (hf'.mono (by omega)) hkp hb' hnv hsv hcv f2 f4 rfl))
end
section
variable {av bv nv:Value} {c c':List Nat} {n n':Int} {cv sv ev:Value}
theorem aKT:(rbL av bv nv c n cv sv ev).drop 3=eN c n++[cv,sv,ev]:=by
  show dQ c n cv sv++[ev]=_
  unfold dQ
  rw [List.append_assoc]; rfl
theorem aKU (hc:c.length=256) (hc':c'.length=256):over (rbL av bv nv c n cv sv ev) 3 (eN c' n')=rbL av bv nv c' n' cv sv ev:=by
  unfold over
  rw [← List.drop_drop,aKT,dB hc',show 257=(eN c n).length from (dB hc).symm,List.drop_left]
  show [av,bv,nv]++eN c' n'++[cv,sv,ev]=_
  unfold rbL dQ
  simp
theorem aMD {h:T Obj} {bid:Nat} {e:TypeId} {f:Nat × Nat} (hc:c.length=256) (hc':c'.length=256) (hg:h.get bid=some (.cells (rbL av bv nv c n cv sv ev).toArray e f)):bY 257 h (at_ bid 3 0) (j5 c' n')=some (h.upd bid (some (.cells (rbL av bv nv c' n' cv sv ev).toArray e f))):=by
  rw [bU,lH,hg]
  have h1:=dB (n:=n') hc'
  have h2:=uP (av:=av) (bv:=bv) (nv:=nv) (n:=n) (cv:=cv) (sv:=sv) (ev:=ev) hc
  rw [if_pos (by rw [ts]; exact h1),bK (by rw [tl,ts,h1,h2]; omega) (by rw [tl]; exact aDW _ _)]
  rw [tl,tl,aKU hc hc']; rfl
theorem aNY {ro:Ro} {h:T Obj} {bid:Nat} {e:TypeId} {f:Nat × Nat} (hc:c.length=256) (hg:h.get bid=some (.cells (rbL av bv nv c n cv sv ev).toArray e f)):loadA ro h 259 (at_ bid 3 0)=some (.agg (dQ c n cv sv).toArray):=by
  rw [bZ,hg,bA]
  simp only [Option.bind_some,tl]
  rw [if_pos (by rw [uP hc]; omega)]
  have:(rbL av bv nv c n cv sv ev).drop 3=dQ c n cv sv++[ev]:=rfl
  rw [this,List.take_append_of_le_length (by rw [cJ hc]; omega),List.take_of_length_le (by rw [cJ hc]; omega)]
end
set_option maxRecDepth 8000 in
set_option maxHeartbeats 4000000 in
theorem aIY {ro:Ro} {v:Value} {g:GlD} {h:T Obj} {nx:Nat} {K:KV} (hf:Fr h nx) (hg:RG ro h v g)
    (hK:∀ h' nx' x,nx≤nx'→Sub h h'→Fr h' nx'→mJ ro h' x (ofZ g).2→K (.tuple #[.agg x.toArray,.int .i64 (ofZ g).1]) h' nx'):aN Tryz.prog ro zU [v] h nx K:=by
  obtain ⟨a,b,rfl,ha,hb⟩:=hg
  apply aHK
  unfold aDK
  refine fT hf (Nat.le_refl _) fun h1 hs1 hf1 g1 _=>?_
  have g1:h1.get nx=some (.cells [a,b].toArray fE):=g1
  refine aB x0 (aFS hf1 (Nat.le_refl _) fun h2 hs2 hf2 g2 _=>?_)
  have g2:h2.get (nx+1)=some (.cells j8.toArray a9):=g2
  have g1:=hs2 _ _ g1
  have hs:=hs1.trans hs2
  refine aB (cR (l:=[a,b]) g1 rfl) ?_
  refine aDu (hf2.mono (show nx+1+1≤nx+5 by omega)) ⟨a,b,rfl,ha.sub hs,hb.sub hs (mV.sub hs)⟩ fun n7 hn7=>?_
  cases hr:j0 g with
  | false =>
    have hz:ofZ g=(1,aFv):=by unfold ofZ; rw [hr]; rfl
    rw [hz] at hK
    (repeat (first | refine aB (by simp (disch:=first | omega | exact Int.natCast_nonneg _ | assumption) only [BB,B2,↓reduceIte,Nat.reduceLeDiff,Nat.reduceAdd,CC]<;>rfl) ?_ | refine aD ?_ | refine aE ?_ | with_reducible first | refine aG ?_ | refine aF ?_ | refine aH ?_ | refine aI ?_ | refine aK ?_ | refine aJ ?_ | refine aL ?_ | refine aC ?_))
    refine aB aB6 ?_
    refine aB (fB (l:=j8) (vs:=j8) g2 rfl kD kD aIn) ?_
    refine aB (cR (l:=j8) (by rw [T.get_upd_same]) kD) ?_
    exact ⟨h,hs.new hf (by omega),hK h _ j8 (by omega) (Sub.refl _) (hf.mono (by omega)) aFw⟩
  | true =>
    have hz:ofZ g=if (mW g (ofB g) 256 0 [noS]).1=0 then (0,ofD g (mW g (ofB g) 256 0 [noS]).2) else ((mW g (ofB g) 256 0 [noS]).1,aFv):=by unfold ofZ; rw [hr]; rfl
    obtain ⟨hgl,hfr,hmay⟩:=i6 hr
    have hgs:(dE g.p).length≤1000000:=by unfold dE; rw [List.length_map]; omega
    (repeat (first | refine aB (by simp (disch:=first | omega | exact Int.natCast_nonneg _ | assumption) only [BB,B2,↓reduceIte,Nat.reduceLeDiff,Nat.reduceAdd,CC]<;>rfl) ?_ | refine aD ?_ | refine aE ?_ | with_reducible first | refine aG ?_ | refine aF ?_ | refine aH ?_ | refine aI ?_ | refine aK ?_ | refine aJ ?_ | refine aL ?_ | refine aC ?_))
    refine aB (cR (l:=[a,b]) g1 rfl) ?_
    refine aB (aKi _ _) ?_
    refine fT hf2 (show nx+1+1≤n7+3 by omega) fun h7 hs7 hf7 g7 _=>?_
    have g7:h7.get (n7+3)=some (.cells (rbL a b bG (List.replicate 256 0) 0 bG bG (.int .i64 0)).toArray aO):=g7
    have g1:=hs7 _ _ g1
    have g2:=hs7 _ _ g2
    have hs:=hs.trans hs7
    refine aMA (gid:=nx) (rid:=nx+1) hr (hf7.mono (show n7+3+1≤n7+7 by omega)) (hb.sub (hs.delN hf (by simp; omega)) (mV.sub (hs.delN hf (by simp; omega)))) g7 g1 ?_ ?_ ?_ ?_ ?_ ?_
    · rfl
    · rfl
    · rfl
    · rfl
    · rfl
    intro e' h8 n8 sv cv nv hn8 hf8 hk8 g8 hnv hsv hcv f2 f4 f5
    refine fG (dR ?_)
    unfold xL
    rw [f4,f5]
    refine aIX hgs (hf8.mono (show n8≤n8+3 by omega)) hsv.sl fun n9 hn9=>?_
    have hc:=tZ (dE g.p)
    have hcb:=aJa (l:=dE g.p)
    rw [aIc]
    (repeat (first | refine aB (by simp (disch:=first | omega | exact Int.natCast_nonneg _ | assumption) only [BB,B2,↓reduceIte,Nat.reduceLeDiff,Nat.reduceAdd,CC,a8]<;>rfl) ?_ | refine aD ?_ | refine aE ?_ | with_reducible first | refine aG ?_ | refine aF ?_ | refine aH ?_ | refine aI ?_ | refine aK ?_ | refine aJ ?_ | refine aL ?_ | refine aC ?_))
    refine aB (aMD List.length_replicate hc g8) ?_
    have hbd:n7+3 < n8:=by omega
    have hf9:=hf8.upd (o:=some (.cells (rbL a b nv (cls (dE g.p)) (many (dE g.p):Int) cv bG (.int .i64 0)).toArray aO)) (Nat.le_refl _) hbd
    have g9:(h8.upd (n7+3) (some (.cells (rbL a b nv (cls (dE g.p)) (many (dE g.p):Int) cv bG (.int .i64 0)).toArray aO))).get (n7+3)=_:=T.get_upd_same _ _ _
    have hk9:dY [n7+3] h7 (h8.upd (n7+3) (some (.cells (rbL a b nv (cls (dE g.p)) (many (dE g.p):Int) cv bG (.int .i64 0)).toArray aO))):=hk8.upd (by simp)
    have hcv9:=hcv.updNe (o:=some (.cells (rbL a b nv (cls (dE g.p)) (many (dE g.p):Int) cv bG (.int .i64 0)).toArray aO)) g8 (by decide)
    have hnv9:=hnv.updNe (o:=some (.cells (rbL a b nv (cls (dE g.p)) (many (dE g.p):Int) cv bG (.int .i64 0)).toArray aO)) g8 (by decide)
    generalize h8.upd (n7+3) (some (.cells (rbL a b nv (cls (dE g.p)) (many (dE g.p):Int) cv bG (.int .i64 0)).toArray aO))=h9 at hf9 g9 hk9 hcv9 hnv9
    refine aB aEv (aB (aBD _ _ _ _ _) (aE ?_))
    have hs11:Sub h9 (h9.upd (n9+6) (some (.cells [bG,bG,bG,bG].toArray aP))):=(Sub.refl h9).new hf9 (by omega)
    have hf11:Fr (h9.upd (n9+6) (some (.cells [bG,bG,bG,bG].toArray aP))) (n9+6+1):=(hf9.mono (by omega)).upd (Nat.le_refl _) (by omega)
    have gs11:(h9.upd (n9+6) (some (.cells [bG,bG,bG,bG].toArray aP))).get (n9+6)=_:=T.get_upd_same _ _ _
    generalize h9.upd (n9+6) (some (.cells [bG,bG,bG,bG].toArray aP))=h11 at hs11 hf11 gs11 ⊢
    have g11:=hs11 _ _ g9
    have hk11:dY [n7+3] h7 h11:=hk9.trans hs11.keepL
    have hcv11:=hcv9.keepS hs11
    have hnv11:=hnv9.keepS hs11
    (repeat (first | refine aB (by simp (disch:=first | omega | exact Int.natCast_nonneg _ | assumption) only [BB,B2,↓reduceIte,Nat.reduceLeDiff,Nat.reduceAdd,CC,a8]<;>rfl) ?_ | refine aD ?_ | refine aE ?_ | with_reducible first | refine aG ?_ | refine aF ?_ | refine aH ?_ | refine aI ?_ | refine aK ?_ | refine aJ ?_ | refine aL ?_ | refine aC ?_))
    refine aB (dZ g11 (by rw [uP hc]; omega) rfl rfl) ?_
    rw [aCw hc]
    have hf12:=hf11.upd (o:=some (.cells (rbL a b nv (cls (dE g.p)) (many (dE g.p):Int) cv (.slice (some (own (n9+6) 4)) 1 1) (.int .i64 0)).toArray aO)) (Nat.le_refl _) (show n7+3 < _ by omega)
    have g12:(h11.upd (n7+3) (some (.cells (rbL a b nv (cls (dE g.p)) (many (dE g.p):Int) cv (.slice (some (own (n9+6) 4)) 1 1) (.int .i64 0)).toArray aO))).get (n7+3)=_:=T.get_upd_same _ _ _
    have gs12:(h11.upd (n7+3) (some (.cells (rbL a b nv (cls (dE g.p)) (many (dE g.p):Int) cv (.slice (some (own (n9+6) 4)) 1 1) (.int .i64 0)).toArray aO))).get (n9+6)=_:=(T.get_upd_ne _ _ (by omega)).trans gs11
    have hk12:dY [n7+3] h7 (h11.upd (n7+3) (some (.cells (rbL a b nv (cls (dE g.p)) (many (dE g.p):Int) cv (.slice (some (own (n9+6) 4)) 1 1) (.int .i64 0)).toArray aO))):=hk11.upd (by simp)
    have hcv12:=hcv11.updNe (o:=some (.cells (rbL a b nv (cls (dE g.p)) (many (dE g.p):Int) cv (.slice (some (own (n9+6) 4)) 1 1) (.int .i64 0)).toArray aO)) g11 (by decide)
    have hnv12:=hnv11.updNe (o:=some (.cells (rbL a b nv (cls (dE g.p)) (many (dE g.p):Int) cv (.slice (some (own (n9+6) 4)) 1 1) (.int .i64 0)).toArray aO)) g11 (by decide)
    generalize h11.upd (n7+3) (some (.cells (rbL a b nv (cls (dE g.p)) (many (dE g.p):Int) cv (.slice (some (own (n9+6) 4)) 1 1) (.int .i64 0)).toArray aO))=h12 at hf12 g12 gs12 hk12 hcv12 hnv12
    have k2:=hk12 _ _ g2 (by simp; omega)
    have hs12:Sub h h12:=fun i o hi=>hk12 i o (hs _ _ hi) (by have:=hf.lt' hi; simp; omega)
    have hB12:Rb h12 (n7+3) (n9+6) a b nv (cls (dE g.p)) (many (dE g.p):Int) cv [noS] [[bG,bG,bG,bG]] :=
      ⟨hc,g12,gs12,fun x hx=>by simp at hx; rw [hx]; rfl,rfl,by simp,by simp⟩
    have hsd:Sub h (V.del h12 [n7+3,n9+6,nx+1]):=hs12.delN hf (by
      intro i hi
      simp only [List.mem_cons,List.not_mem_nil,or_false] at hi
      omega)
    have hmB:=aA9 g
    refine aNN (aid:=nx+1) (B:=ofB g) hr hcb rfl (by rw [hmB]) (by rw [hmB]; exact aFO _) aLF (aLY g (ofB g)) (fun i x hx=>?_) (hf12.mono (show n9+6+1≤n9+12 by omega)) hB12 (fun i x t hx ht=>?_) (hB12.delN k2 hnv12 (by decide) (by decide) (by decide)).sl (ha.sub hsd) (hb.sub hsd (mV.sub hsd)) k2 ?_ ?_ ?_ (fun hz9 e9 h13 n13 p1 p2 p3 p4 p5 p6=>?_) fun hz9 e9 h13 n13 sid' cs' p1 p2 p3 p4 p5 p6 p7 p8=>?_
    · cases i with
      | succ i=>simp at hx
      | zero =>
        simp at hx
        exact ⟨bG,bG,hx.symm⟩
    · cases i with
      | succ i=>simp at hx
      | zero =>
        simp at hx ht
        subst hx; subst ht
        exact ⟨bG,bG,bG,bG,rfl,Sl.nil,Sl.nil,Sl.nil,SlR.nil,Nat.zero_le _⟩
    · exact f2
    · exact f4
    · rfl
    · rw [if_neg hz9] at hz
      rw [hz] at hK
      refine mM ?_
      rw [p5,p6]
      refine aB (cR (l:=j8) p4 kD) ?_
      exact ⟨h,hsd.trans (p3.delS fun k hk=>by simp only [List.mem_cons,List.not_mem_nil,or_false] at hk ⊢; exact hk.elim .inl fun h=>.inr (.inl h)),hK h _ j8 (by omega) (Sub.refl _) (hf.mono (by omega)) aFw⟩
    · rw [if_pos hz9] at hz
      rw [hz] at hK
      refine fG (dR ?_)
      unfold xM
      rw [p7,p8]
      have hb13:=p5.blk
      have k13:=hB12.tyk p3 (by decide) (by decide) _ _ _ k2
      have hcv13:=hcv12.ty (hB12.tyk p3 (by decide) (by decide))
      have lda:=aNY (ro:=ro) hc hb13
      (repeat (first | refine aB (by simp (disch:=first | omega | exact Int.natCast_nonneg _ | assumption) only [BB,B2,↓reduceIte,Nat.reduceLeDiff,Nat.reduceAdd,CC,a8,lda]<;>rfl) ?_ | refine aD ?_ | refine aE ?_ | with_reducible first | refine aG ?_ | refine aF ?_ | refine aH ?_ | refine aI ?_ | refine aK ?_ | refine aJ ?_ | refine aL ?_ | refine aC ?_))
      have hcvok:=hcv13.ok
      refine aB (fB (l:=j8) (vs:=dQ (cls (dE g.p)) (many (dE g.p):Int) cv (.slice (some (own sid' 4)) cs'.length cs'.length)) k13 rfl (cJ hc) kD (x9 hcvok rfl)) ?_
      refine aB (cR (l:=dQ (cls (dE g.p)) (many (dE g.p):Int) cv (.slice (some (own sid' 4)) cs'.length cs'.length)) (by rw [T.get_upd_same]) (cJ hc)) ?_
      refine ⟨_,Sub.refl _,?_⟩
      have hfin:Sub (V.del h13 [n7+3,sid',nx+1]) (h13.upd (nx+1) (some (.cells (dQ (cls (dE g.p)) (many (dE g.p):Int) cv (.slice (some (own sid' 4)) cs'.length cs'.length)).toArray a9))):=fun i o hi=>by
        rw [iG] at hi
        split at hi
        · cases hi
        · rename_i hn
          rw [T.get_upd_ne _ _ (by rintro rfl; exact hn (by simp))]; exact hi
      have hrs:sid'≠nx+1:=by
        rintro rfl
        have:=p5.row
        rw [k13] at this
        simp only [Option.some.injEq,Obj.cells.injEq] at this
        exact absurd this.2.1 (by decide)
      have hs13:Sub h (V.del h13 [n7+3,sid',nx+1]):=hsd.trans (p3.del2 hf12 (by omega))
      refine hK _ _ _ (by omega) (hs13.trans hfin) ((p2.mono (show n13≤n13+6 by omega)).upd (Nat.le_refl _) (by omega)) ⟨cv,_,rfl,hc,hcb,?_,⟨cs',?_,p5.len,fun i x t hx ht=>eA.sub hfin _ _ (p6 i x t hx ht)⟩,?_,?_⟩
      · exact aNv (hcv13.updNe k13 (by decide))
      · refine bV.sl (h:=h13.upd (nx+1) _) (lo:=0) (e:=aP) (.inr ⟨sid',Nat.zero_le _,rfl,p5.z4,?_⟩)
        rw [T.get_upd_ne _ _ hrs]; exact p5.row
      · have:=aAx g.p
        show (j6 g.p).length≤vL
        unfold vL; omega
      · have:=p5.few
        show (mW g (ofB g) 256 0 [noS]).2.length≤vL
        unfold vL; omega
end V
end Go.Proofs.YtjndkdmkecpllaaGreat
set_option linter.unusedVariables false
set_option linter.unusedSimpArgs false
namespace Go.Proofs.YtjndkdmkecpllaaGreat
namespace V
structure OneM (A B:Int) (d:AutoD):Prop where
  cnt:d.counts=[(A,B)]
  r0:∀ m:MacD,m.cur=0→(fP d m).r=[]
  r1:∀ m:MacD,m.cur=1→(fP d m).r=[0]
  nx:nY d 1=[0]
  m0:∀ m:MacD,m.cur=0→fI d.counts m.rs []=0→kS d m 1=⟨1,[3]⟩
  m1:∀ m:MacD,m.cur=1→fI d.counts m.rs [0]=1→kS d m 1=⟨-1,[]⟩
  m2:∀ m:MacD,m.cur=1→fI d.counts m.rs [0]=0∨fI d.counts m.rs [0]=2→kS d m 1=⟨1,[1]⟩
  u0:∀ m:MacD,m.cur=1→fI d.counts m.rs [0]=0→oC d m=-1
  u1:∀ m:MacD,m.cur=1→fI d.counts m.rs [0]=1∨fI d.counts m.rs [0]=2→oC d m=0
section
variable {A B:Int}
theorem aFU {g:GlD} {S:List StateD} (hm:Made g (ofB g) S S.length 0) {i q:Nat} {s:StateD} (hs:S[i]?=some s) (hq:q < s.next.length):aCJ g (cV g i (cZ g s.l q)) (dS (cZ g s.l q)) 1 S ((s.next.getD q []).getD ((cls (dE g.p)).getD 1 0) aL8):=by
  obtain ⟨k,b',hk,hkm,hB,hb',hlz⟩:=aCW g (show 1 < 256 by decide)
  obtain ⟨n1,n2⟩:=hm.next i s q _ hs (List.getElem?_eq_getElem hq)
  have e1:s.next.getD q []=s.next[q]:=by rw [List.getD_eq_getElem?_getD,List.getElem?_eq_getElem hq]; rfl
  have e2:(cls (dE g.p)).getD 1 0=k:=by rw [List.getD_eq_getElem?_getD,hk]; rfl
  have hlt:k < (s.next[q]).length:=by rw [n1,aA9]; exact hkm
  have e3:(s.next[q]).getD k aL8=(s.next[q])[k]:=by rw [List.getD_eq_getElem?_getD,List.getElem?_eq_getElem hlt]; rfl
  rw [e1,e2,e3]
  have h9:=n2 k b' _ hB (List.getElem?_eq_getElem hlt)
  unfold aCJ at h9 ⊢
  rw [hlz] at h9
  exact h9
theorem aPH (h1:1≤A) (h2:A≤B) (h3:2≤B) (h4:B≤4096):∃ S,ofZ (gQ 2 A B)=(0,ofD (gQ 2 A B) S)∧OneM A B (ofD (gQ 2 A B) S):=by
  obtain ⟨S,s,o1,o2,o3,o4,o5,o6⟩:=aOZ (m:=2) (lo:=A) (hi:=B) (by decide) (by decide) h1 h2 h3 h4
  refine ⟨S,o1,?_⟩
  obtain ⟨_,S',e1,hm,_⟩:=aLk (g:=gQ 2 A B) (by rw [o1])
  rw [o1] at e1
  have hSS:S=S':=congrArg AutoD.states e1
  subst hSS
  obtain ⟨z,z1,z2⟩:=hm.base.zero
  have hc0:ctd (gQ 2 A B) 0=true:=decide_eq_true (show (1:Int) < B by omega)
  have zr:z.r=[]:=by rw [(hm.base.ok z (List.mem_of_getElem? z1)).2.1,z2]; rfl
  have sl:s.l=[0]:=by
    have h5:=(hm.base.ok s (List.mem_of_getElem? o3)).1
    exact (aI6 h5).resolve_left (hm.base.pos 1 s (by omega) o3)
  have sr:s.r=[0]:=by
    rw [(hm.base.ok s (List.mem_of_getElem? o3)).2.1,sl]
    unfold dU
    rw [List.filter_cons_of_pos hc0]; rfl
  have g0:∀ m:MacD,m.cur=0→fP (ofD (gQ 2 A B) S) m=z:=fun m e=>by
    show S.getD m.cur.toNat noS=z
    rw [e,List.getD_eq_getElem?_getD,show (0:Int).toNat=0 from rfl,z1]; rfl
  have g1:∀ m:MacD,m.cur=1→fP (ofD (gQ 2 A B) S) m=s:=fun m e=>by
    show S.getD m.cur.toNat noS=s
    rw [e,List.getD_eq_getElem?_getD,show (1:Int).toNat=1 from rfl,o3]; rfl
  have zc:=hm.codes z1
  have sc:=hm.codes o3
  rw [zr] at zc
  rw [o4] at sc
  have zc2:z.next.length=1:=zc.2
  have sc1:s.rule.length=3:=sc.1
  have dg:∀ q:Nat,cZ (gQ 2 A B) s.l q=[((0:Int),((q:Int) % 3))]:=fun q=>by
    rw [sl]
    show (if ctd (gQ 2 A B) 0 then ((0:Int),(q:Int) % 3)::cZ (gQ 2 A B) [] ((q:Int) / 3) else ((0:Int),-1)::cZ (gQ 2 A B) [] (q:Int))=_
    rw [if_pos hc0]; rfl
  have lz:∀ en st:Int→Bool,lZ (gQ 2 A B) en st 1=if (en 0 || st 0)=true then [0] else []:=fun en st=>by
    have ep:eH (gQ 2 A B).p.length=[0]:=rfl
    unfold lZ
    rw [ep]
    have et:gO (gQ 2 A B) en st 1 0=(en 0 || st 0):=by
      unfold gO
      have:((gQ 2 A B).at 0).s.testBit 1=true:=show Nat.testBit 2 1=true by decide
      rw [this,Bool.true_and]
    by_cases h:(en 0 || st 0)=true
    · rw [if_pos h,List.filter_cons_of_pos (by rw [et]; exact h)]; rfl
    · rw [if_neg h,List.filter_cons_of_neg (by rw [et]; exact h)]; rfl
  have to1:∀ (k:Nat) (t:StateD),S[k]?=some t→t.l=[0]→k=1:=fun k t hk ht=>by
    have hlt:=(List.getElem?_eq_some_iff.1 hk).1
    rcases Nat.eq_zero_or_pos k with h | h
    · subst h
      rw [z1] at hk; cases hk
      rw [z2] at ht; cases ht
    · omega
  have ops1:∀ en st:Int→Bool,pT (gQ 2 A B) en st [0]=[opZ en st 0]:=fun en st=>by
    unfold pT
    rw [List.filter_cons_of_pos hc0]; rfl
  have goes:∀ (en st:Int→Bool) (mv:MoveD),aCJ (gQ 2 A B) en st 1 S mv→mv=if (en 0 || st 0)=true then ⟨1,[opZ en st 0]⟩ else ⟨-1,[]⟩:=fun en st mv hmv=>by
    unfold aCJ at hmv
    rw [lz] at hmv
    by_cases h:(en 0 || st 0)=true
    · rw [if_pos h] at hmv ⊢
      rcases hmv with ⟨h9,_⟩ | ⟨_,k,t,t1,t2,t3,t4⟩
      · cases h9
      · have:=to1 k t t2 t3
        subst this
        rw [ops1] at t4
        cases mv
        simp only at t1 t4
        rw [t1,t4]; rfl
    · rw [if_neg h] at hmv ⊢
      rcases hmv with ⟨_,t1,t2⟩ | ⟨h9,_⟩
      · cases mv
        simp only at t1 t2
        rw [t1,t2]
      · exact absurd rfl h9
  refine ⟨o6,fun m e=>by rw [g0 m e,zr],fun m e=>by rw [g1 m e,sr],?_,fun m e hcd=>?_,fun m e hcd=>?_,fun m e hcd=>?_,fun m e hcd=>?_,fun m e hcd=>?_⟩
  · show (S.getD 1 noS).r=[0]
    rw [List.getD_eq_getElem?_getD,o3]; exact sr
  · unfold kS
    rw [g0 m e,zr,hcd]
    have:=aFU hm z1 (q:=0) (by omega)
    rw [z2] at this
    exact goes _ _ _ this
  · unfold kS
    rw [g1 m e,sr,hcd]
    have:=aFU hm o3 (q:=1) (by omega)
    rw [dg] at this
    exact goes _ _ _ this
  · unfold kS
    rw [g1 m e,sr]
    rcases hcd with hcd | hcd
    · rw [hcd]
      have:=aFU hm o3 (q:=0) (by omega)
      rw [dg] at this
      exact goes _ _ _ this
    · rw [hcd]
      have:=aFU hm o3 (q:=2) (by omega)
      rw [dg] at this
      exact goes _ _ _ this
  · unfold oC
    rw [if_neg (by omega),g1 m e,sr,hcd,List.getD_eq_getElem?_getD,List.getElem?_eq_getElem (show 0 < s.rule.length by omega)]
    have:=hm.rule 1 s 0 _ o3 (List.getElem?_eq_getElem (by omega))
    rw [dg] at this
    show s.rule[0]=-1
    rw [this]; rfl
  · unfold oC
    rw [if_neg (by omega),g1 m e,sr]
    rcases hcd with hcd | hcd
    · rw [hcd,List.getD_eq_getElem?_getD,List.getElem?_eq_getElem (show 1 < s.rule.length by omega)]
      have:=hm.rule 1 s 1 _ o3 (List.getElem?_eq_getElem (by omega))
      rw [dg] at this
      show s.rule[1]=0
      rw [this]; rfl
    · rw [hcd,List.getD_eq_getElem?_getD,List.getElem?_eq_getElem (show 2 < s.rule.length by omega)]
      have:=hm.rule 1 s 2 _ o3 (List.getElem?_eq_getElem (by omega))
      rw [dg] at this
      show s.rule[2]=0
      rw [this]; rfl
def aD6 (B:Int) (d:AutoD) (i:Nat) (m:MacD):Prop:=if i=0 then m=aBz d else if (i:Int)≤B then m.cur=1∧∃ w,m.rs=[([i],w)] else m.cur=-1
theorem aIt {C:List (Int × Int)} (hC:C=[(A,B)]) {i w:Nat}:fI C [([i],w)] [0]=if (i:Int) < A then 0 else if (i:Int) < B then 2 else 1:=by
  subst hC
  show (if (1:Nat)=0 then 0 else if ((i:Nat):Int) < A then 0 else if ((i:Nat):Int) < B then 2 else 1)+3*0=_
  rw [if_neg (by decide)]; rfl
theorem aLm {d:AutoD} {i:Nat} {m:MacD} (h1:1≤A) (h2:A≤B) (h3:2≤B) (hd:OneM A B d) (hj:aD6 B d i m) :
    aD6 B d (i+1) (jL d m 1)∧onM d m 1=decide (((i+1:Nat):Int)≤B)∧(jN (jL d m 1):Int) - jN m≤5∧jN m≤jN (jL d m 1)∧(decide (oC d (jL d m 1)=0)=(decide (A≤((i+1:Nat):Int))&&decide (((i+1:Nat):Int)≤B)))∧(((i+1:Nat):Int)≤B→aHt d (jL d m 1) 0=[i+1]):=by
  have hcnt:∀ m':MacD,∀ k w,m'.rs=[([k],w)]→aHt d m' 0=[k]:=fun m' k w e=>by
    unfold aHt
    rw [hd.cnt,e]; rfl
  have hru:∀ m':MacD,∀ k w,m'.cur=1→m'.rs=[([k],w)]→(k:Int)≤B→decide (oC d m'=0)=(decide (A≤(k:Int))&&decide ((k:Int)≤B)):=fun m' k w e1 e2 e3=>by
    have hq:fI d.counts m'.rs [0]=if (k:Int) < A then 0 else if (k:Int) < B then 2 else 1:=by rw [e2]; exact aIt hd.cnt
    rw [decide_eq_true e3,Bool.and_true]
    by_cases h:(k:Int) < A
    · rw [if_pos h] at hq
      rw [hd.u0 m' e1 hq,decide_eq_false (show ¬A≤(k:Int) by omega)]; rfl
    · rw [if_neg h] at hq
      rw [hd.u1 m' e1 (by by_cases h9:(k:Int) < B<;>simp [h9] at hq<;>omega),decide_eq_true (show A≤(k:Int) by omega)]; rfl
  rcases Nat.eq_zero_or_pos i with hi | hi
  · subst hi
    unfold aD6 at hj
    rw [if_pos rfl] at hj
    have hc:m.cur=0:=by rw [hj]; rfl
    have hmv:=hd.m0 m hc (by rw [hj]; rfl)
    have hst:jL d m 1=⟨1,[([1],2)],1⟩:=by
      unfold jL
      rw [if_neg (by omega),hmv,hd.r0 m hc,hd.nx,hd.cnt,hj]
      show (⟨1,vM [(A,B)] [0] [3] (s8 [0] [] (d.counts.map fun _=>noR)),0+1+0⟩:MacD)=_
      rw [hd.cnt]; rfl
    have hon:onM d m 1=true:=by unfold onM; rw [hmv,hc]; rfl
    rw [hst]
    refine ⟨?_,?_,?_,?_,?_,fun _=>hcnt _ 1 2 rfl⟩
    · unfold aD6
      rw [if_neg (by omega),if_pos (by omega)]
      exact ⟨rfl,2,rfl⟩
    · rw [hon,decide_eq_true (by omega)]
    · rw [hj,show jN (aBz d)=0 by unfold jN aBz; rw [hd.cnt]; rfl]; decide
    · rw [hj,show jN (aBz d)=0 by unfold jN aBz; rw [hd.cnt]; rfl]; exact Nat.zero_le _
    · exact hru _ 1 2 rfl rfl (by omega)
  · unfold aD6 at hj
    rw [if_neg (by omega)] at hj
    by_cases hB:(i:Int)≤B
    · rw [if_pos hB] at hj
      obtain ⟨hc,w,hrs⟩:=hj
      have hq:fI d.counts m.rs [0]=if (i:Int) < A then 0 else if (i:Int) < B then 2 else 1:=by rw [hrs]; exact aIt hd.cnt
      by_cases hlt:(i:Int) < B
      · have hmv:=hd.m2 m hc (by by_cases h9:(i:Int) < A<;>simp [h9,hlt] at hq<;>omega)
        have hinc:zW B.toNat [i]=[i+1]:=by
          unfold zW
          rw [if_neg (show ¬ B.toNat≤[i].getD 0 0 by show ¬ B.toNat≤i; omega)]; rfl
        have hst:jL d m 1=⟨1,[([i+1],w+1)],m.steps+1+1⟩:=by
          unfold jL
          rw [if_neg (by omega),hmv,hd.r1 m hc,hd.nx,hd.cnt,hrs]
          show (⟨1,[(zW B.toNat [i],w+1)],m.steps+1+1⟩:MacD)=_
          rw [hinc]
        have hon:onM d m 1=true:=by unfold onM; rw [hmv,hc]; rfl
        have hw:jN m=m.steps+w:=by unfold jN; rw [hrs]; rfl
        have hw2:jN (⟨1,[([i+1],w+1)],m.steps+1+1⟩:MacD)=m.steps+1+1+(w+1):=rfl
        rw [hst]
        refine ⟨?_,?_,by rw [hw,hw2]; omega,by rw [hw,hw2]; omega,?_,fun _=>hcnt _ (i+1) (w+1) rfl⟩
        · unfold aD6
          rw [if_neg (by omega),if_pos (by omega)]
          exact ⟨rfl,w+1,rfl⟩
        · rw [hon,decide_eq_true (by omega)]
        · exact hru _ (i+1) (w+1) rfl rfl (by omega)
      · have hmv:=hd.m1 m hc (by rw [hq,if_neg (by omega),if_neg hlt])
        have hst:jL d m 1=⟨-1,[([],w+1)],m.steps+1+1⟩:=by
          unfold jL
          rw [if_neg (by omega),hmv,hd.r1 m hc,hd.cnt,hrs]; rfl
        have hon:onM d m 1=false:=by unfold onM; rw [hmv,hc]; rfl
        have hw:jN m=m.steps+w:=by unfold jN; rw [hrs]; rfl
        have hw2:jN (⟨-1,[([],w+1)],m.steps+1+1⟩:MacD)=m.steps+1+1+(w+1):=rfl
        rw [hst]
        refine ⟨?_,?_,by rw [hw,hw2]; omega,by rw [hw,hw2]; omega,?_,fun h9=>by omega⟩
        · unfold aD6
          rw [if_neg (by omega),if_neg (by omega)]
        · rw [hon,decide_eq_false (by omega)]
        · rw [decide_eq_false (show ¬((i+1:Nat):Int)≤B by omega),Bool.and_false]
          exact decide_eq_false (by unfold oC; rw [if_pos rfl]; decide)
    · rw [if_neg hB] at hj
      have hst:jL d m 1=m:=by unfold jL; rw [if_pos hj]
      have hon:onM d m 1=false:=by unfold onM; rw [hj]; rfl
      rw [hst]
      refine ⟨?_,?_,by omega,Nat.le_refl _,?_,fun h9=>by omega⟩
      · unfold aD6
        rw [if_neg (by omega),if_neg (by omega)]; exact hj
      · rw [hon,decide_eq_false (by omega)]
      · rw [decide_eq_false (show ¬((i+1:Nat):Int)≤B by omega),Bool.and_false]
        exact decide_eq_false (by unfold oC; rw [if_pos hj]; decide)
end
end V
end Go.Proofs.YtjndkdmkecpllaaGreat
set_option linter.unusedVariables false
set_option linter.unusedSimpArgs false
namespace Go.Proofs.YtjndkdmkecpllaaGreat
namespace V
attribute [local irreducible] bJ aN aA
@[irreducible] def lN (ro:Ro) (K:KV):Env→T Obj→Nat→Prop:=fun e h nx=>∃ h53,Sub h53 h∧K (e 7) h53 (nx+2)
@[irreducible] def pM (ro:Ro):PT:=fun e h nx Q=>aA (aX .rem (e 2) (Value.int IntKind.u16 301)) fun t55_54=>aA (pK .i64 t55_54) fun t56_55=>aA (aX .leq (e 14) t56_55) fun t57_56=>aZ t57_56 (aN Tryz.prog ro iS [(e 12)] h (nx+7) fun t61_57 h58 n59=>aN Tryz.prog ro lM [(e 12),(Value.int IntKind.u8 1)] h58 (n59+3) fun t63_60 h61 n62=>aA (aX .leq (e 14) (e 8)) fun t67_63=>aA (aAP .neq t63_60 t67_63) fun t68_64=>ifP t68_64 false h61 (n62+7) (fun k65=>k65 (e 12) h61 (n62+8)) fun t70_66 h67 n68=>ifP t68_64 false h67 n68 (fun k69=>aN Tryz.prog ro lL [t70_66] h67 (n68+1) fun t71_73 h74 n75=>k69 t71_73 h74 n75) fun t71_70 h71 n72=>ifP t68_64 false h71 n72 (fun k76=>aA (aX .eql t71_70 (Value.int IntKind.i64 0)) fun t72_80=>k76 t72_80 h71 (n72+1)) fun t72_77 h78 n79=>ifP t68_64 false h78 n79 (fun k81=>k81 (e 14) h78 (n79+1)) fun t73_82 h83 n84=>ifP t68_64 false h83 n84 (fun k85=>k85 (e 9) h83 (n84+1)) fun t74_86 h87 n88=>ifP t68_64 false h87 n88 (fun k89=>aA (aX .geq t73_82 t74_86) fun t75_93=>k89 t75_93 h87 (n88+1)) fun t75_90 h91 n92=>ifP t68_64 false h91 n92 (fun k94=>k94 t75_90 h91 (n92+1)) fun t76_95 h96 n97=>ifP t76_95 true h96 n97 (fun k98=>k98 (e 14) h96 (n97+1)) fun t77_99 h100 n101=>ifP t76_95 true h100 n101 (fun k102=>k102 (e 8) h100 (n101+1)) fun t78_103 h104 n105=>ifP t76_95 true h104 n105 (fun k106=>aA (aX .leq t77_99 t78_103) fun t79_110=>k106 t79_110 h104 (n105+1)) fun t79_107 h108 n109=>ifP t68_64 false h108 n109 (fun k111=>aA (dK t76_95 t79_107 (Value.bool false)) fun t80_115=>k111 t80_115 h108 (n109+1)) fun t80_112 h113 n114=>ifP t68_64 false h113 n114 (fun k116=>aA (aAP .neq t72_77 t80_112) fun t81_120=>k116 t81_120 h113 (n114+1)) fun t81_117 h118 n119=>aA (dK t68_64 (Value.bool true) t81_117) fun t82_121=>ifP t82_121 false h118 (n119+2) (fun k122=>k122 (e 12) h118 (n119+3)) fun t84_123 h124 n125=>ifP t82_121 false h124 n125 (fun k126=>aN Tryz.prog ro iS [t84_123] h124 (n125+1) fun t85_130 h131 n132=>k126 t85_130 h131 n132) fun t85_127 h128 n129=>ifP t82_121 false h128 n129 (fun k133=>k133 t61_57 h128 (n129+1)) fun t86_134 h135 n136=>ifP t82_121 false h135 n136 (fun k137=>aA (aX .sub t85_127 t86_134) fun t87_141=>k137 t87_141 h135 (n136+1)) fun t87_138 h139 n140=>ifP t82_121 false h139 n140 (fun k142=>aA (aX .gtr t87_138 (Value.int IntKind.i64 5)) fun t88_146=>k142 t88_146 h139 (n140+1)) fun t88_143 h144 n145=>aA (dK t82_121 (Value.bool true) t88_143) fun t89_147=>ifP t89_147 false h144 (n145+2) (fun k148=>k148 t63_60 h144 (n145+3)) fun t91_149 h150 n151=>ifP t89_147 false h150 n151 (fun k152=>k152 t91_149 h150 (n151+1)) fun t92_153 h154 n155=>ifP t92_153 true h154 n155 (fun k156=>k156 (e 12) h154 (n155+1)) fun t93_157 h158 n159=>ifP t92_153 true h158 n159 (fun k160=>aN Tryz.prog ro kL [t93_157,(Value.int IntKind.i64 0)] h158 (n159+1) fun t94_164 h165 n166=>k160 t94_164 h165 n166) fun t94_161 h162 n163=>ifP t92_153 true h162 n163 (fun k167=>k167 (e 14) h162 (n163+1)) fun t95_168 h169 n170=>ifP t92_153 true h169 n170 (fun k171=>aA (a7 Tryz.prog dD n170 1 [(0,t95_168)]) fun r175=>eG h169 n170 r175.2 fun h176=>k171 r175.1 h176 (n170+1)) fun t96_172 h173 n174=>ifP t92_153 true h173 n174 (fun k177=>aN Tryz.prog ro uG [t94_161,t96_172] h173 (n174+1) fun t97_181 h182 n183=>k177 t97_181 h182 n183) fun t97_178 h179 n180=>ifP t92_153 true h179 n180 (fun k184=>aA (unV .not t97_178) fun t98_188=>k184 t98_188 h179 (n180+1)) fun t98_185 h186 n187=>ifP t89_147 false h186 n187 (fun k189=>aA (dK t92_153 t98_185 (Value.bool false)) fun t99_193=>k189 t99_193 h186 (n187+1)) fun t99_190 h191 n192=>aA (dK t89_147 (Value.bool true) t99_190) fun t100_194=>aZ t100_194 (Q .ret (puts e [(53,(e 14)),(54,(e 2)),(55,t55_54),(56,t56_55),(57,t57_56),(60,(e 12)),(61,t61_57),(15,t61_57),(62,(e 12)),(63,t63_60),(16,t63_60),(64,t63_60),(65,(e 14)),(66,(e 8)),(67,t67_63),(68,t68_64),(69,t68_64),(70,t70_66),(71,t71_70),(72,t72_77),(73,t73_82),(74,t74_86),(75,t75_90),(76,t76_95),(77,t77_99),(78,t78_103),(79,t79_107),(80,t80_112),(81,t81_117),(82,t82_121),(83,t82_121),(84,t84_123),(85,t85_127),(86,t86_134),(87,t87_138),(88,t88_143),(89,t89_147),(90,t89_147),(91,t91_149),(92,t92_153),(93,t93_157),(94,t94_161),(95,t95_168),(96,t96_172),(97,t97_178),(98,t98_185),(99,t99_190),(100,t100_194),(6,(Value.bool false))]) h191 (n192+2)) (aA (aX .add (e 14) (Value.int IntKind.i64 1)) fun t59_195=>Q .normal (puts e [(53,(e 14)),(54,(e 2)),(55,t55_54),(56,t56_55),(57,t57_56),(60,(e 12)),(61,t61_57),(15,t61_57),(62,(e 12)),(63,t63_60),(16,t63_60),(64,t63_60),(65,(e 14)),(66,(e 8)),(67,t67_63),(68,t68_64),(69,t68_64),(70,t70_66),(71,t71_70),(72,t72_77),(73,t73_82),(74,t74_86),(75,t75_90),(76,t76_95),(77,t77_99),(78,t78_103),(79,t79_107),(80,t80_112),(81,t81_117),(82,t82_121),(83,t82_121),(84,t84_123),(85,t85_127),(86,t86_134),(87,t87_138),(88,t88_143),(89,t89_147),(90,t89_147),(91,t91_149),(92,t92_153),(93,t93_157),(94,t94_161),(95,t95_168),(96,t96_172),(97,t97_178),(98,t98_185),(99,t99_190),(100,t100_194),(58,(e 14)),(59,t59_195),(14,t59_195)]) h191 (n192+4))) (Q (.exit 0) (puts e [(53,(e 14)),(54,(e 2)),(55,t55_54),(56,t56_55),(57,t57_56)]) h (nx+5))
@[irreducible] def oF (ro:Ro) (v0 v1 v2:Value) (h:T Obj) (nx:Nat) (K:KV):Prop:=aN Tryz.prog ro sG [] h (nx+2) fun t17_1 h2 n3=>aA (aX .rem v1 (Value.int IntKind.u16 4095)) fun t19_4=>aA (pK .i64 t19_4) fun t20_5=>aA (aX .add t20_5 (Value.int IntKind.i64 2)) fun t21_6=>aA (pK .i64 v0) fun t23_7=>aA (aX .rem t23_7 t21_6) fun t25_8=>aA (aX .add t25_8 (Value.int IntKind.i64 1)) fun t26_9=>aA (a7 Tryz.prog dD (n3+12) 1 [(0,(Value.int IntKind.i64 0))]) fun r10=>eG h2 (n3+12) r10.2 fun h11=>aA (dF Tryz.prog bN [(0,(Value.int IntKind.u64 2))]) fun t29_12=>aA (dF Tryz.prog d9 [(0,t29_12),(1,t26_9),(2,t21_6),(4,(Value.bool true))]) fun t32_13=>aA (a7 Tryz.prog aBs (n3+17) 1 [(0,t32_13)]) fun r14=>eG h11 (n3+17) r14.2 fun h15=>aA (dF Tryz.prog fE [(0,r10.1),(1,r14.1)]) fun t34_16=>aN Tryz.prog ro zU [t34_16] h15 (n3+20) fun t35_17 h18 n19=>aA (nth 0 t35_17) fun t36_20=>aA (nth 1 t35_17) fun t37_21=>aA (zer Tryz.prog a9) fun z22=>d4 h18 (n19+3) (.cells z22.cells a9) fun h23=>aA (bY 259 h23 (ptr (n19+3)) t36_20) fun h24=>aA (loadA ro h24 259 (ptr (n19+3))) fun t39_25=>aN Tryz.prog ro uF [t39_25] h24 (n19+8) fun t40_26 h27 n28=>aA (nth 0 t40_26) fun t41_29=>aA (nth 1 t40_26) fun t42_30=>aA (aAd .eql t41_29 (Value.pointer none)) fun t44_31=>ifP t44_31 false h27 (n28+8) (fun k32=>k32 t37_21 h27 (n28+9)) fun t46_33 h34 n35=>ifP t44_31 false h34 n35 (fun k36=>aA (aX .neq t46_33 (Value.int IntKind.i64 0)) fun t47_40=>k36 t47_40 h34 (n35+1)) fun t47_37 h38 n39=>aA (dK t44_31 (Value.bool true) t47_37) fun t48_41=>ifP t48_41 false h38 (n39+2) (fun k42=>k42 t42_30 h38 (n39+3)) fun t50_43 h44 n45=>ifP t48_41 false h44 n45 (fun k46=>aA (aX .neq t50_43 (Value.int IntKind.i64 0)) fun t51_50=>k46 t51_50 h44 (n45+1)) fun t51_47 h48 n49=>aA (dK t48_41 (Value.bool true) t51_47) fun t52_51=>aZ t52_51 (∃ h52,Sub h52 h48∧K (Value.bool false) h52 (n49+2)) (d5 (pM ro) (puts (i3 [v0,v1,v2]) [(6,(Value.bool false)),(17,t17_1),(7,t17_1),(18,v1),(19,t19_4),(20,t20_5),(21,t21_6),(8,t21_6),(22,v0),(23,t23_7),(24,t21_6),(25,t25_8),(26,t26_9),(9,t26_9),(28,r10.1),(29,t29_12),(30,t26_9),(31,t21_6),(32,t32_13),(33,r14.1),(34,t34_16),(35,t35_17),(27,t35_17),(36,t36_20),(37,t37_21),(10,(ptr (n19+3))),(11,t37_21),(39,t39_25),(40,t40_26),(38,t40_26),(41,t41_29),(42,t42_30),(12,t41_29),(13,t42_30),(43,t41_29),(44,t44_31),(45,t44_31),(46,t46_33),(47,t47_37),(48,t48_41),(49,t48_41),(50,t50_43),(51,t51_47),(52,t52_51),(14,(Value.int IntKind.i64 1))]) h48 (n49+2) fun x199 e196 h197 n198=>exP x199 (lN ro K e196 h197 n198) (fun i200=>d8 (Nat.beq i200 0) (lN ro K e196 h197 n198) (False)) (∃ h201,Sub h201 h197∧K (e196 6) h201 n198))
theorem yL (ro:Ro) (v0 v1 v2:Value) (h:T Obj) (nx:Nat) (K:KV):bJ Tryz.prog ro (aN Tryz.prog ro) Tryz.f10 [v0,v1,v2] h nx K=oF ro v0 v1 v2 h nx K:=by kernel_rfl
theorem yM {ro:Ro} {v0 v1 v2:Value} {h:T Obj} {nx:Nat} {K:KV} (hw:oF ro v0 v1 v2 h nx K):aN Tryz.prog ro qP [v0,v1,v2] h nx K:=bF (P:=Tryz.prog) (fn:=Tryz.f10) (by kernel_rfl) (by kernel_rfl) (by kernel_rfl) (Eq.mpr (yL ro v0 v1 v2 h nx K) hw)
end V
end Go.Proofs.YtjndkdmkecpllaaGreat