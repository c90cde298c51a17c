/- Texts laid one behind the other: T5, LOwn.
   No condition. -/
import Derived.Test.YtcaccnneblghgaaGreatQ56
set_option linter.unusedVariables false
set_option linter.unusedSimpArgs false
namespace Go.Proofs.YtcaccnneblghgaaGreat
namespace V
attribute [local irreducible] aB ifP aR cT eQ exP cO
def i8C (l:List Int):List (List Value):=l.map fun b:Int=>[Value.int .u8 b]
theorem aDG (l:List Int):(i8C l).length=l.length:=by simp[i8C]
theorem aKe (b:Int):∃ n,wM .xor .u8 b 85=some n:=by
 unfold wM
 generalize decide (0≤b)=d1
 generalize decide ((0:Int)≤85)=d2
 generalize decide (b≤18446744073709551615)=d3
 generalize decide ((85:Int)≤18446744073709551615)=d4
 cases d1<;>cases d2<;>cases d3<;>cases d4<;>exact⟨_,rfl⟩
theorem aPq (b:Int):∃ c:Int,aO .xor (.int .u8 b) (.int .u8 85)=some (.int .u8 c):=by
 obtain⟨n,hn⟩:=aKe b
 refine⟨n,?_⟩
 simp[aO,rD,hn]
structure OI (ro:Ro) (X Y:List Nat) (pa:Nat) (qa:List MqD) (pb:Nat) (qb:List MqD) (pc:Nat) (qc:List MqD) (T:TabD) (xv yv:Value) (xs ys:List (List Nat)) (h:V.T Obj) (nx:Nat) (sa sb sc:ScD):Prop where
 a:ScX ro h (X++Y) pa qa T 1000 0 sa
 b:ScX ro h (X++Y) pb qb T 1000 0 sb
 c:ScX ro h (X++Y) pc qc T 1000 0 sc
 x:SlR ro (del h (X++Y)) xv 1 (RB ro (del h (X++Y))) xs
 y:SlR ro (del h (X++Y)) yv 1 (RB ro (del h (X++Y))) ys
 xl:∀ k∈X++Y,k < nx
 frr:Fr h nx
section
variable {ro:Ro}{h h':V.T Obj}{nx nx':Nat}{K:KV}{X Y Y':List Nat}{pa pb pc:Nat}{qa qb qc:List MqD}{T:TabD}{xv yv:Value}{xs ys:List (List Nat)}{sa sb sc s':ScD}
theorem OI.keep {ids:List Nat} (hi:OI ro X Y pa qa pb qb pc qc T xv yv xs ys h nx sa sb sc) (hs:dM ids h h') (h1:∀ k∈ids,k∈X++Y) (h2:∀ k∈ids,k ∉ eY pa qa∧k ∉ eY pb qb∧k ∉ eY pc qc) (hY:∀ k∈Y,k∈Y') (hY2:∀ k∈Y',k∈Y∨nx≤k∧k < nx') (hf:Fr h' nx') (hn:nx≤nx'):OI ro X Y' pa qa pb qb pc qc T xv yv xs ys h' nx' sa sb sc:=by
 have h3:∀ k∈X++Y',k∈X++Y∨h.get k=none:=fun k hk=>by
  rcases List.mem_append.1 hk with hk | hk
  ·exact .inl (List.mem_append_left _ hk)
  ·rcases hY2 k hk with hk | hk
   ·exact .inl (List.mem_append_right _ hk)
   ·exact .inr (hi.frr k hk.1)
 have h4:∀ k∈X++Y,k∈X++Y':=fun k hk=>by
  rcases List.mem_append.1 hk with hk | hk
  ·exact List.mem_append_left _ hk
  ·exact List.mem_append_right _ (hY k hk)
 have hD:=hs.del h1 h3
 refine⟨hi.a.keep hs h1 (fun k hk=>(h2 k hk).1) h3 h4,hi.b.keep hs h1 (fun k hk=>(h2 k hk).2.1) h3 h4,hi.c.keep hs h1 (fun k hk=>(h2 k hk).2.2) h3 h4,hi.x.sub hD (RB.sub hD),hi.y.sub hD (RB.sub hD),fun k hk=>?_,hf⟩
 rcases List.mem_append.1 hk with hk | hk
 ·have:=hi.xl k (List.mem_append_left _ hk); omega
 ·rcases hY2 k hk with hk | hk
  ·have:=hi.xl k (List.mem_append_right _ hk); omega
  ·omega
theorem OI.subs (hi:OI ro X Y pa qa pb qb pc qc T xv yv xs ys h nx sa sb sc) (hs:Sub h h') (hY:∀ k∈Y,k∈Y') (hY2:∀ k∈Y',k∈Y∨nx≤k∧k < nx') (hf:Fr h' nx') (hn:nx≤nx'):OI ro X Y' pa qa pb qb pc qc T xv yv xs ys h' nx' sa sb sc :=
 hi.keep (ids:=[]) hs.keepL (fun k hk=>by cases hk) (fun k hk=>by cases hk) hY hY2 hf hn
theorem OI.goA (hi:OI ro X Y pa qa pb qb pc qc T xv yv xs ys h nx sa sb sc) (hab:∀ k∈eY pa qa,k ∉ eY pb qb∧k ∉ eY pc qc) (hs:dM (eY pa qa) h h') (ha:ScX ro h' (X++Y) pa qa T 1000 0 s') (hf:Fr h' nx') (hn:nx≤nx'):OI ro X Y pa qa pb qb pc qc T xv yv xs ys h' nx' s' sb sc:=by
 have h1:∀ k∈eY pa qa,k∈X++Y:=fun k hk=>(hi.a.own k hk).1
 have hD:=hs.del h1 fun k hk=>.inl hk
 exact⟨ha,hi.b.keep hs h1 (fun k hk=>(hab k hk).1) (fun k hk=>.inl hk) fun k hk=>hk,hi.c.keep hs h1 (fun k hk=>(hab k hk).2) (fun k hk=>.inl hk) fun k hk=>hk,hi.x.sub hD (RB.sub hD),hi.y.sub hD (RB.sub hD),fun k hk=>by have:=hi.xl k hk; omega,hf⟩
theorem OI.goB (hi:OI ro X Y pa qa pb qb pc qc T xv yv xs ys h nx sa sb sc) (hab:∀ k∈eY pb qb,k ∉ eY pa qa∧k ∉ eY pc qc) (hs:dM (eY pb qb) h h') (ha:ScX ro h' (X++Y) pb qb T 1000 0 s') (hf:Fr h' nx') (hn:nx≤nx'):OI ro X Y pa qa pb qb pc qc T xv yv xs ys h' nx' sa s' sc:=by
 have h1:∀ k∈eY pb qb,k∈X++Y:=fun k hk=>(hi.b.own k hk).1
 have hD:=hs.del h1 fun k hk=>.inl hk
 exact⟨hi.a.keep hs h1 (fun k hk=>(hab k hk).1) (fun k hk=>.inl hk) fun k hk=>hk,ha,hi.c.keep hs h1 (fun k hk=>(hab k hk).2) (fun k hk=>.inl hk) fun k hk=>hk,hi.x.sub hD (RB.sub hD),hi.y.sub hD (RB.sub hD),fun k hk=>by have:=hi.xl k hk; omega,hf⟩
theorem OI.goC (hi:OI ro X Y pa qa pb qb pc qc T xv yv xs ys h nx sa sb sc) (hab:∀ k∈eY pc qc,k ∉ eY pa qa∧k ∉ eY pb qb) (hs:dM (eY pc qc) h h') (ha:ScX ro h' (X++Y) pc qc T 1000 0 s') (hf:Fr h' nx') (hn:nx≤nx'):OI ro X Y pa qa pb qb pc qc T xv yv xs ys h' nx' sa sb s':=by
 have h1:∀ k∈eY pc qc,k∈X++Y:=fun k hk=>(hi.c.own k hk).1
 have hD:=hs.del h1 fun k hk=>.inl hk
 exact⟨hi.a.keep hs h1 (fun k hk=>(hab k hk).1) (fun k hk=>.inl hk) fun k hk=>hk,hi.b.keep hs h1 (fun k hk=>(hab k hk).2) (fun k hk=>.inl hk) fun k hk=>hk,ha,hi.x.sub hD (RB.sub hD),hi.y.sub hD (RB.sub hD),fun k hk=>by have:=hi.xl k hk; omega,hf⟩
end
theorem aGC {ro:Ro}{h:T Obj}{nx n0:Nat}{v x:Value}{l:List Nat} (ho:cW h v 1 bS [] n0) (hx:Sl ro h x 1 (bU l)) (hl:l.length≤1000) (hf:Fr h nx) (hn:n0≤nx):∃ r h' n',cC Tryz.prog ro h nx #[a9,a9] [v,x]=some (r,h',n')∧cW h' r 1 bS (bU l) n0∧Kp v h h'∧nx≤n'∧Fr h' n':=by
 obtain⟨i9,t1,t2,t3⟩:=aCG
 obtain⟨r,h',n',p1,p2,p3,p4,p5,_⟩:=aDR (P:=Tryz.prog) (ro:=ro) (nx:=nx) ho hx lB t1 t2 (by omega) aHF rfl (by rw[aDF]; exact aNS _) (by rw[dL,t3]; unfold big; simp; omega) (by rw[dL]; unfold big; simp; omega) hn hf
 rw[List.nil_append] at p2
 exact⟨r,h',n',p1,p2,p3,p4,p5⟩
theorem aGV:∀ l:List Int,(i8C l).flatten=l.map fun b:Int=>Value.int .u8 b
 | []=>rfl
 | x::r=>by
  have:=aGV r
  simp only[i8C,List.map_cons,List.flatten_cons] at this ⊢
  rw[this]; rfl
theorem aLr (l:List Nat):bU l=i8C (l.map fun b:Nat=>(b:Int)):=by simp[bU,i8C]
theorem cW.put8 {h:T Obj}{pv:Value}{L:List Int}{lo k:Nat}{c:Int} (ho:cW h pv 1 bS (i8C L) lo) (hk:k < L.length):∃ h',bV 1 h (iP 1 pv k) (.int .u8 c)=some h'∧cW h' pv 1 bS (i8C (L.set k c)) lo∧dM (i7 pv) h h'∧∀ n,Fr h n→Fr h' n:=by
 rcases ho with ⟨_,h1⟩ | ⟨id,h1,rfl,h2,h3⟩
 ·have:=congrArg List.length h1
  rw[aDG,List.length_nil] at this
  omega
 ·have hel:iP 1 (.slice (some (own id 1)) (i8C L).length (i8C L).length) k=at_ id (0+k*1) 0:=rfl
  rw[aGV] at h3
  have hst:=dJ (z:=0) (off:=0+k*1) (v:=.int .u8 c) h3 (by rw[List.length_map]; omega) rfl rfl
  refine⟨_,by rw[hel]; exact hst,.inr ⟨id,h1,?_,?_,?_⟩,(Sub.refl _).keepL.upd (eV.2 rfl),fun n hf=>hf.upd (Nat.le_refl _) (hf.lt' h3)⟩
  ·rw[aDG,aDG,List.length_set]
  ·intro x hx
   unfold i8C at hx
   obtain⟨b,_,rfl⟩:=List.mem_map.1 hx
   rfl
  ·show (h.upd id _).get id=_
   rw[T.get_upd_same,aGV,List.map_set,show 0+k*1=k by omega]
theorem aMv (ls:List (List Nat)) (i:Nat):((kZ ls).getD i []).length≤20:=by
 rw[List.getD_eq_getElem?_getD]
 cases h9:(kZ ls)[i]? with
 | none=>show 0≤20; omega
 | some x =>
  have hm:=List.mem_of_getElem? h9
  unfold kZ at hm
  obtain⟨y,_,rfl⟩:=List.mem_map.1 hm
  exact List.length_take_le ..
theorem aHo {ls:List (List Nat)} (h:∀ b∈ls,∀ x∈b,x < 256) (i:Nat):∀ x∈ls.getD i [],x < 256:=by
 rw[List.getD_eq_getElem?_getD]
 cases h9:ls[i]? with
 | none=>intro x hx; cases hx
 | some y=>exact h y (List.mem_of_getElem? h9)
section
variable {ro:Ro}{h:T Obj}{nx:Nat}{K:KV}
set_option maxRecDepth 8000 in
set_option maxHeartbeats 8000000 in
theorem aCt {x:List Value}{Tb:TabD}{v1 v2:Value}{l1 l2:List (List Nat)} (hf:Fr h nx) (hd:aCi ro h x Tb) (hv10:SlR ro h v1 1 (aHI ro h) l1) (hl1:l1.length≤kN) (hv20:SlR ro h v2 1 (aHI ro h) l2) (hl2:l2.length≤kN) (hK:∀ h' nx',K (.bool true) h' nx'):aN Tryz.prog ro wQ [.agg x.toArray,v1,v2] h nx K:=by
 obtain⟨cv,kv,tv,ev,rfl,_⟩:=id hd
 obtain⟨hv1,hlb1,hb1⟩:=aKW hv10
 obtain⟨hv2,hlb2,hb2⟩:=aKW hv20
 apply aBp
 unfold zZ
 refine eJ hf (Nat.le_refl _) fun h1 hs1 hf1 g1 _=>?_
 have g1:h1.get nx=some (.cells [cv,kv,tv,ev].toArray dI):=g1
 refine aOS ?_
 have hd1:=hd.sub hs1
 have hv1:=hv1.sub hs1 (RB.sub hs1)
 have hv2:=hv2.sub hs1 (RB.sub hs1)
 refine aA (dF g1 rfl) ?_
 refine aHu (hf1.mono (by omega)) hd1 fun n2 hn2=>?_
 cases hfew:aHg Tb with
 | false =>
  (repeat(first|refine zzB ?_|apply aD|apply aE|with_reducible first|apply aG|apply aF|apply aK|apply aH|apply aJ|apply aI|apply aL|apply aC))
  exact⟨h1,Sub.refl _,hK _ _⟩
 | true =>
  (repeat(first|refine zzB ?_|apply aD|apply aE|with_reducible first|apply aG|apply aF|apply aK|apply aH|apply aJ|apply aI|apply aL|apply aC))
  refine aA (dF g1 rfl) ?_
  (repeat(first|refine zzB ?_|apply aD|apply aE|with_reducible first|apply aG|apply aF|apply aK|apply aH|apply aJ|apply aI|apply aL|apply aC))
  refine aFL (hf1.mono (by omega)) hd1 fun n3 hn3=>?_
  cases hr:fQ Tb with
  | false =>
   (repeat(first|refine zzB ?_|apply aD|apply aE|with_reducible first|apply aG|apply aF|apply aK|apply aH|apply aJ|apply aI|apply aL|apply aC))
   exact⟨h1,Sub.refl _,hK _ _⟩
  | true =>
   have hT:=hd.right hr
   obtain⟨_,_,_,hTl,_⟩:=aFs hr
   have hno:((1000:Int) < 1∨fQ Tb=false)→False:=fun h9=>by rcases h9 with h9 | h9<;>first | omega | (rw[hr] at h9; cases h9)
   (repeat(first|refine zzB ?_|apply aD|apply aE|with_reducible first|apply aG|apply aF|apply aK|apply aH|apply aJ|apply aI|apply aL|apply aC))
   refine aA (dF g1 rfl) ?_
   refine aAg (X0:=[]) (hf1.mono (by omega)) hd1 (fun b hb=>by cases hb) (fun h9=>(hno h9).elim) fun _ _ pa qa h5 n5 hn5 hf5 hs5 howna hsa=>?_
   rw[List.nil_append] at hsa
   refine aA (aGb _ _) (aA (aGc _ _) ?_)
   refine aA (dF (hs5 _ _ g1) rfl) ?_
   refine aAg (X0:=eY pa qa) (hf5.mono (by omega)) (hd1.sub hs5) (fun b hb=>by have:=(howna b hb).2; omega) (fun h9=>(hno h9).elim) fun _ _ pb qb h6 n6 hn6 hf6 hs6 hownb hsb=>?_
   refine aA (aGb _ _) (aA (aGc _ _) ?_)
   have hs16:=hs5.trans hs6
   refine aA (dF (hs16 _ _ g1) rfl) ?_
   refine aAg (X0:=eY pa qa++eY pb qb) (hf6.mono (by omega)) (hd1.sub hs16) (fun b hb=>by
    rcases List.mem_append.1 hb with hb | hb
    ·have:=(howna b hb).2; omega
    ·have:=(hownb b hb).2; omega) (fun h9=>(hno h9).elim) fun _ _ pc qc h7 n7 hn7 hf7 hs7 hownc hsc=>?_
   refine aA (aGb _ _) (aA (aGc _ _) ?_)
   (repeat(first|refine aA (by simp (disch:=first|omega|exact nnN _|assumption) only [BB,B2,↓reduceIte,Nat.reduceLeDiff,Nat.reduceAdd,CC,aLI]<;>rfl) ?_|apply aD|apply aE|with_reducible first|apply aG|apply aF|apply aK|apply aH|apply aJ|apply aI|apply aL|apply aC))
   have hs17:=hs16.trans hs7
   have hsc:ScX ro h7 ((eY pa qa++eY pb qb)++eY pc qc) pc qc Tb 1000 0 (kY Tb):=hsc
   have hsb:ScX ro h7 ((eY pa qa++eY pb qb)++eY pc qc) pb qb Tb 1000 0 (kY Tb):=ScX.sub (show ScX ro h6 (eY pa qa++eY pb qb) pb qb Tb 1000 0 (kY Tb) from hsb) hs7 (fun k hk=>by
    rcases List.mem_append.1 hk with hk | hk
    ·exact .inl hk
    ·exact .inr (hf6 k (by have:=(hownc k hk).1; omega))) fun k hk=>List.mem_append_left _ hk
   have hsa:ScX ro h7 ((eY pa qa++eY pb qb)++eY pc qc) pa qa Tb 1000 0 (kY Tb):=ScX.sub (show ScX ro h5 (eY pa qa) pa qa Tb 1000 0 (kY Tb) from hsa) (hs6.trans hs7) (fun k hk=>by
    rcases List.mem_append.1 hk with hk | hk
    ·rcases List.mem_append.1 hk with hk | hk
     ·exact .inl hk
     ·exact .inr (hf5 k (by have:=(hownb k hk).1; omega))
    ·exact .inr (hf5 k (by have:=(hownc k hk).1; omega))) fun k hk=>List.mem_append_left _ (List.mem_append_left _ hk)
   have hX:∀ k∈(eY pa qa++eY pb qb)++eY pc qc,nx+1≤k∧k < n7:=fun k hk=>by
    rcases List.mem_append.1 hk with hk | hk
    ·rcases List.mem_append.1 hk with hk | hk
     ·have:=howna k hk; omega
     ·have:=hownb k hk; omega
    ·have:=hownc k hk; omega
   have dab:∀ k∈eY pa qa,k ∉ eY pb qb∧k ∉ eY pc qc:=fun k hk=>⟨fun h9=>by have:=howna k hk; have:=hownb k h9; omega,fun h9=>by have:=howna k hk; have:=hownc k h9; omega⟩
   have dba:∀ k∈eY pb qb,k ∉ eY pa qa∧k ∉ eY pc qc:=fun k hk=>⟨fun h9=>by have:=hownb k hk; have:=howna k h9; omega,fun h9=>by have:=hownb k hk; have:=hownc k h9; omega⟩
   have dca:∀ k∈eY pc qc,k ∉ eY pa qa∧k ∉ eY pb qb:=fun k hk=>⟨fun h9=>by have:=hownc k hk; have:=howna k h9; omega,fun h9=>by have:=hownc k hk; have:=hownb k h9; omega⟩
   generalize (eY pa qa++eY pb qb)++eY pc qc=X at *
   have hD7:Sub h1 (del h7 X):=fun k o hk=>j7 (hs17 _ _ hk) fun h9=>by
    have:=hf1.lt' hk
    have:=(hX k h9).1
    omega
   refine z8 (X:=X) (hv1.sub hD7 (RB.sub hD7)) hl1 hlb1 (fun k hk=>by have:=(hX k hk).2; omega) (hf7.mono (by omega)) fun xv h8 n8 hn8 hf8 hs8 hxv=>?_
   have hD78:Sub (del h7 X) (del h8 X):=dM.del (ids:=[]) hs8.keepL (fun k hk=>by cases hk) fun k hk=>.inl hk
   refine z8 (X:=X) (hv2.sub (hD7.trans hD78) (RB.sub (hD7.trans hD78))) hl2 hlb2 (fun k hk=>by have:=(hX k hk).2; omega) (hf8.mono (by omega)) fun yv h9 n9 hn9 hf9 hs9 hyv=>?_
   have hD89:Sub (del h8 X) (del h9 X):=dM.del (ids:=[]) hs9.keepL (fun k hk=>by cases hk) fun k hk=>.inl hk
   have hxv:=hxv.sub hD89 (RB.sub hD89)
   have hs79:=hs8.trans hs9
   have hOI:OI ro X [] pa qa pb qb pc qc Tb xv yv (kZ l1) (kZ l2) h9 n9 (kY Tb) (kY Tb) (kY Tb):=by
    refine⟨?_,?_,?_,?_,?_,fun k hk=>?_,hf9⟩<;>rw[List.append_nil] at *
    ·exact hsa.sub hs79 (fun k hk=>.inl hk) fun k hk=>hk
    ·exact hsb.sub hs79 (fun k hk=>.inl hk) fun k hk=>hk
    ·exact hsc.sub hs79 (fun k hk=>.inl hk) fun k hk=>hk
    ·exact hxv
    ·exact hyv
    ·have:=(hX k hk).2; omega
   have hx20:=aMv l1
   have hy20:=aMv l2
   have hx256:=fun i=>aHo (aIR hb1) i
   have hy256:=fun i=>aHo (aIR hb2) i
   have hxl:(kZ l1).length≤12:=by rw[aAc]; omega
   have hyl:(kZ l2).length≤12:=by rw[aAc]; omega
   generalize kZ l1=xs at *
   generalize kZ l2=ys at *
   have hxvl:=(hOI.x.sub (eF h9 _) (RB.sub (eF h9 _))).len
   have hyvl:=(hOI.y.sub (eF h9 _) (RB.sub (eF h9 _))).len
   refine aA hxvl (aA hyvl (aA (aMh _ _ _) ?_))
   have hmx:(if ((xs.length:Nat):Int) < ((ys.length:Nat):Int) then ((ys.length:Nat):Int) else ((xs.length:Nat):Int))=((max xs.length ys.length:Nat):Int):=by split<;>omega
   rw[hmx]
   have hI0:=aQK hT
   refine bE (fun j e h' nx'=>∃ (i:Nat) (Y:List Nat) (s t:ScD),i+j=max xs.length ys.length∧n9≤nx'∧e 7=.bool true∧e 8=ptr pa∧e 10=ptr pb∧e 12=ptr pc∧e 14=xv∧e 15=yv∧e 83=.int .i64 (max xs.length ys.length:Nat)∧e 84=.int .i64 i∧OI ro X Y pa qa pb qb pc qc Tb xv yv xs ys h' nx' s s t∧ScI Tb s∧ScI Tb t∧s.closed=false∧t.closed=false∧s.at_+s.kept.length≤20*i∧t.at_+t.kept.length≤20*i) ?_ (n:=max xs.length ys.length)
    ⟨0,[],kY Tb,kY Tb,by omega,by omega,rfl,rfl,rfl,rfl,rfl,rfl,rfl,rfl,hOI.subs (Sub.refl _) (fun k hk=>hk) (fun k hk=>.inl hk) (hf9.mono (by omega)) (by omega),hI0,hI0,rfl,rfl,Nat.le_refl _,Nat.le_refl _⟩
   rintro j e h' nx' ⟨i,Y,s,t,hj,hnx,e7,e8,e10,e12,e14,e15,e83,e84,hi,hIs,hIt,hcs,hct,hbs,hbt⟩ Q' hq hx
   have hfh:=hi.frr
   have hva:=hi.a.ownLt hfh
   have hvb:=hi.b.ownLt hfh
   have hvc:=hi.c.ownLt hfh
   have hxh:=hi.x.sub (eF h' _) (RB.sub (eF h' _))
   have hyh:=hi.y.sub (eF h' _) (RB.sub (eF h' _))
   have hxhl:=hxh.len
   have hyhl:=hyh.len
   unfold u7
   rw[e14,e83,e84]
   refine cV (fun hk=>?_) (fun hk=>?_)
   ·have hk:i < max xs.length ys.length:=by omega
    have hi12:i < 12:=by omega
    have hp20:=hx20 i
    have hq20:=hy20 i
    have hp256:=hx256 i
    have hq256:=hy256 i
    have hj4:∀ (e':Env) (h2:T Obj) (n2:Nat) (pv qv:Value),e' 7=.bool true→e' 8=ptr pa→e' 10=ptr pb→e' 12=ptr pc→e' 14=xv→e' 15=yv→e' 83=.int .i64 (max xs.length ys.length:Nat)→e' 84=.int .i64 i→e' 17=pv→e' 18=qv→nx'≤n2→Sub h' h2→Fr h2 n2→cW h2 pv 1 bS (bU (xs.getD i [])) nx'→cW h2 qv 1 bS (bU (ys.getD i [])) nx'→mE ro Q' e' h2 n2:=by
     intro e' h2 n2 pv qv b7 b8 b10 b12 b14 b15 b83 b84 b17 b18 bn bs bf hp hqv
     obtain⟨f1,f2,f3,f4⟩:=aF6 hT hIs hcs (xs.getD i []) hp256
     obtain⟨k1,k2,k3,k4⟩:=aF6 hT hIt hct (ys.getD i []) hq256
     have hE1:aAz 1000 (fV Tb s (xs.getD i [])).2=0:=by unfold aAz; rw[if_neg (by omega)]
     have hE2:aAz 1000 (fV Tb t (ys.getD i [])).2=0:=by unfold aAz; rw[if_neg (by omega)]
     have hpl:(bU (xs.getD i [])).length=(xs.getD i []).length:=dL _
     generalize xs.getD i []=pl at *
     generalize ys.getD i []=ql at *
     have hbp:∀ k∈i7 pv,nx'≤k∧k < n2:=fun k hk=>by
      obtain⟨g1,g2⟩:=hp.blk (eV.1 hk)
      exact⟨g1,bf.lt' g2⟩
     have hi2:OI ro X (Y++i7 pv) pa qa pb qb pc qc Tb xv yv xs ys h2 n2 s s t:=hi.subs bs (fun k hk=>List.mem_append_left _ hk) (fun k hk=>by
      rcases List.mem_append.1 hk with hk | hk
      ·exact .inl hk
      ·exact .inr (hbp k hk)) bf bn
     have hYp:∀ k∈i7 pv,k∈X++(Y++i7 pv):=fun k hk=>List.mem_append_right _ (List.mem_append_right _ hk)
     generalize Y++i7 pv=Y2 at *
     unfold mE
     rw[b8,b10,b12,b17,b18]
     refine yR hi2.a hT hIs (by omega) hcs (fun k hk=>by have:=hi2.xl k hk; omega) hp.sl hp256 (by omega) (bf.mono (by omega)) fun u h3 n3 hn3 hf3 hk3 hsa3 hou=>?_
     rw[hE1] at hsa3 ⊢
     have hi3:=hi2.goA dab hk3 hsa3 hf3 (by omega)
     have hp3:=hp.keepK hk3 fun id hid hm=>by have:=hva id hm; have:=(hp.blk hid).1; omega
     have hq3:=hqv.keepK hk3 fun id hid hm=>by have:=hva id hm; have:=(hqv.blk hid).1; omega
     refine aA (aGb _ _) (aA (aGc _ _) ?_)
     refine yR hi3.c hT hIt (by omega) hct (fun k hk=>by have:=hi3.xl k hk; omega) hq3.sl hq256 (by omega) (hf3.mono (by omega)) fun u4 h4 n4 hn4 hf4 hk4 hsc4 _=>?_
     rw[hE2] at hsc4
     have hi4:=hi3.goC dca hk4 hsc4 hf4 (by omega)
     have hp4:=hp3.keepK hk4 fun id hid hm=>by have:=hvc id hm; have:=(hp3.blk hid).1; omega
     have hu4:=hou.keepK hk4 fun id hid hm=>by have:=hvc id hm; have:=(hou.blk hid).1; omega
     refine aA (aKR _) (aE ?_)
     generalize hh5:h4.upd (n4+1) (some (.cells #[] bS))=h5
     have hs5:Sub h4 h5:=by rw[← hh5]; exact (Sub.refl _).new hf4 (by omega)
     have hf5:Fr h5 (n4+4):=by rw[← hh5]; exact (hf4.mono (by omega)).upd (Nat.le_refl _) (by omega)
     have hlit:cW h5 (.slice (some (own (n4+1) 1)) 0 0) 1 bS [] (n4+1):=.inr ⟨n4+1,Nat.le_refl _,rfl,(fun x hx=>by cases hx),by rw[← hh5,T.get_upd_same]; rfl⟩
     obtain⟨r6,h6,n6,p1,p2,p3,p4,p5⟩:=aGC (nx:=n4+4) hlit ((hp4.keepS hs5).sl (ro:=ro)) (by omega) hf5 (by omega)
     have hs6:Sub h4 h6:=fun k o hk=>p3 k o (hs5 k o hk) (by intro h9; have:=hf4.lt' hk; have h8:n4+1=k:=Option.some.inj h9; omega)
     refine aA p1 ?_
     have hi6:=hi4.subs hs6 (fun k hk=>hk) (fun k hk=>.inl hk) p5 (by omega)
     refine yR hi6.b hT hIs (by omega) hcs (fun k hk=>by have:=hi6.xl k hk; dsimp only; omega) p2.sl hp256 (by omega) (p5.mono (by dsimp only; omega)) fun w7 h7 n7 hn7 hf7 hk7 hsb7 how=>?_
     rw[hE1] at hsb7
     have hn7:n6≤n7:=by dsimp only at hn7; omega
     have hi7:=hi6.goB dba hk7 hsb7 hf7 hn7
     have hp7:=(hp4.keepS hs6).keepK hk7 fun id hid hm=>by have:=hvb id hm; have:=((hp4.keepS hs6).blk hid).1; omega
     have hu7:=(hu4.keepS hs6).keepK hk7 fun id hid hm=>by have:=hvb id hm; have:=((hu4.keepS hs6).blk hid).1; omega
     refine aA (aGb _ _) (aA (aGc _ _) ?_)
     have hp7l:=(hp7.sl (ro:=ro)).len
     rw[hpl] at hp7l
     refine aA hp7l ?_
     have hw7:cW h7 w7 3 bI (lY (fV Tb s pl).1) n6:=how.mono (by dsimp only; omega)
     have hul:∀ k∈i7 pv,∀ id,(iK u=some id∨iK w7=some id)→id≠k:=fun k hk id h9=>by
      have:=hbp k hk
      rcases h9 with h9 | h9
      ·have:=(hu7.blk h9).1; omega
      ·have:=(hw7.blk h9).1; omega
     rw[aLr] at hp7
     refine bE (fun j2 e2 h8 n8=>∃ (k:Nat) (L:List Int),k+j2=pl.length∧n7≤n8∧e2 7=.bool true∧e2 8=ptr pa∧e2 10=ptr pb∧e2 12=ptr pc∧e2 14=xv∧e2 15=yv∧e2 83=.int .i64 (max xs.length ys.length:Nat)∧e2 84=.int .i64 i∧e2 17=pv∧e2 19=u∧e2 21=w7∧e2 125=.int .i64 pl.length∧e2 126=.int .i64 k∧L.length=pl.length∧cW h8 pv 1 bS (i8C L) nx'∧dM (i7 pv) h7 h8∧Fr h8 n8) ?_ (n:=pl.length)
      ⟨0,pl.map fun b:Nat=>(b:Int),by omega,by omega,b7,b8,b10,b12,b14,b15,b83,b84,b17,rfl,rfl,rfl,rfl,by simp,hp7,(Sub.refl _).keepL,hf7.mono (by omega)⟩
     rintro j2 e2 h8 n8 ⟨k,L,hj2,hn8,c7,c8,c10,c12,c14,c15,c83,c84,c17,c19,c21,c125,c126,hLl,hp8,hk8,hf8⟩ Q2 hq2 hx2
     unfold vA
     rw[c17,c125,c126]
     refine cV (fun hkk=>?_) (fun hkk=>?_)
     ·have hkk:k < L.length:=by omega
      have hp8s:=hp8.sl (ro:=ro)
      have hix:=hp8s.ix .i64 (i:=k) (by rw[aDG]; exact hkk)
      have hld:=hp8s.load1 (show (i8C L)[k]?=some [.int .u8 L[k]] by simp[i8C,hkk])
      obtain⟨c,hc⟩:=aPq L[k]
      obtain⟨h10,q1,q2,q3,q4⟩:=hp8.put8 (c:=c) hkk
      (repeat(first|refine zzB ?_|apply aD|apply aE|with_reducible first|apply aG|apply aF|apply aK|apply aH|apply aJ|apply aI|apply aL|apply aC))
      refine aA hix (aA hld (aA hc (aA hix (aA q1 ?_))))
      (repeat(first|refine zzB ?_|apply aD|apply aE|with_reducible first|apply aG|apply aF|apply aK|apply aH|apply aJ|apply aI|apply aL|apply aC))
      refine hq2 (j2 - 1) _ _ _ _ (by omega) ⟨k+1,L.set k c,by omega,by omega,?_,?_,?_,?_,?_,?_,?_,?_,?_,?_,?_,?_,rfl,by rw[List.length_set]; exact hLl,q2,hk8.trans q3,q4 _ (hf8.mono (by omega))⟩ (Sub.refl _)
      ·exact c7
      ·exact c8
      ·exact c10
      ·exact c12
      ·exact c14
      ·exact c15
      ·exact c83
      ·exact c84
      ·exact c17
      ·exact c19
      ·exact c21
      ·exact c125
     ·(repeat(first|refine zzB ?_|apply aD|apply aE|with_reducible first|apply aG|apply aF|apply aK|apply aH|apply aJ|apply aI|apply aL|apply aC))
      refine hx2 _ _ _ _ (fun e=>by cases e) (eD (cQ ?_))
      have hi8:=hi7.keep hk8 hYp (fun k hk=>⟨fun h9=>by have:=hva k h9; have:=hbp k hk; omega,fun h9=>by have:=hvb k h9; have:=hbp k hk; omega,fun h9=>by have:=hvc k h9; have:=hbp k hk; omega⟩) (fun k hk=>hk) (fun k hk=>.inl hk) hf8 hn8
      have hu8:=hu7.keepK hk8 fun id hid hm=>hul id hm id (.inl hid) rfl
      have hw8:=hw7.keepK hk8 fun id hid hm=>hul id hm id (.inr hid) rfl
      have hj5:∀ (e3:Env) n',e3 7=.bool true→e3 8=ptr pa→e3 10=ptr pb→e3 12=ptr pc→e3 14=xv→e3 15=yv→e3 83=.int .i64 (max xs.length ys.length:Nat)→e3 84=.int .i64 i→e3 19=u→e3 21=w7→n8≤n'→mF ro Q' e3 h8 n':=by
       intro e3 n' d7 d8 d10 d12 d14 d15 d83 d84 d19 d21 dn
       unfold mF
       rw[d8,d10,d19,d21]
       refine aBZ (by omega) (by omega) hu8.sl hw8.sl fun n10 hn10=>?_
       rw[decide_eq_true (rfl:(fV Tb s pl).1=(fV Tb s pl).1)]
       (repeat(first|refine zzB ?_|apply aD|apply aE|with_reducible first|apply aG|apply aF|apply aK|apply aH|apply aJ|apply aI|apply aL|apply aC))
       refine aCd hi8.a fun n11 hn11=>?_
       (repeat(first|refine zzB ?_|apply aD|apply aE|with_reducible first|apply aG|apply aF|apply aK|apply aH|apply aJ|apply aI|apply aL|apply aC))
       refine aCd hi8.b fun n12 hn12=>?_
       (repeat(first|refine zzB ?_|apply aD|apply aE|with_reducible first|apply aG|apply aF|apply aK|apply aH|apply aJ|apply aI|apply aL|apply aC))
       refine aCc hi8.a fun n13 hn13=>?_
       (repeat(first|refine zzB ?_|apply aD|apply aE|with_reducible first|apply aG|apply aF|apply aK|apply aH|apply aJ|apply aI|apply aL|apply aC))
       refine aCc hi8.b fun n14 hn14=>?_
       (repeat(first|refine zzB ?_|apply aD|apply aE|with_reducible first|apply aG|apply aF|apply aK|apply aH|apply aJ|apply aI|apply aL|apply aC))
       have hj6:∀ (e4:Env) n',e4 7=.bool true→e4 8=ptr pa→e4 10=ptr pb→e4 12=ptr pc→e4 14=xv→e4 15=yv→e4 83=.int .i64 (max xs.length ys.length:Nat)→e4 84=.int .i64 i→n8≤n'→mC ro Q' e4 h8 n':=by
        intro e4 n' a7 a8 a10 a12 a14 a15 a83 a84 an
        unfold mC
        rw[a84]
        (repeat(first|refine zzB ?_|apply aD|apply aE|with_reducible first|apply aG|apply aF|apply aK|apply aH|apply aJ|apply aI|apply aL|apply aC))
        exact hq (j - 1) _ _ _ _ (by omega) ⟨i+1,Y2,(fV Tb s pl).2,(fV Tb t ql).2,by omega,by omega,a7,a8,a10,a12,a14,a15,a83,rfl,hi8.subs (Sub.refl _) (fun k hk=>hk) (fun k hk=>.inl hk) (hf8.mono (by omega)) (by omega),f1,k1,f2,k2,by omega,by omega⟩ (Sub.refl _)
       refine hj6 _ _ ?_ ?_ ?_ ?_ ?_ ?_ ?_ ?_ ?_
       ·exact d7
       ·exact d8
       ·exact d10
       ·exact d12
       ·exact d14
       ·exact d15
       ·exact d83
       ·exact d84
       ·omega
      refine hj5 _ _ ?_ ?_ ?_ ?_ ?_ ?_ ?_ ?_ ?_ ?_ ?_
      ·exact c7
      ·exact c8
      ·exact c10
      ·exact c12
      ·exact c14
      ·exact c15
      ·exact c83
      ·exact c84
      ·exact c19
      ·exact c21
      ·omega
    have hj3:∀ (e':Env) (h2:T Obj) (n2:Nat) (pv:Value),e' 7=.bool true→e' 8=ptr pa→e' 10=ptr pb→e' 12=ptr pc→e' 14=xv→e' 15=yv→e' 83=.int .i64 (max xs.length ys.length:Nat)→e' 84=.int .i64 i→e' 16=.int .i64 i→e' 17=pv→e' 18=.slice none 0 0→nx'≤n2→Sub h' h2→Fr h2 n2→cW h2 pv 1 bS (bU (xs.getD i [])) nx'→mD ro Q' e' h2 n2:=by
     intro e' h2 n2 pv b7 b8 b10 b12 b14 b15 b83 b84 b16 b17 b18 bn bs bf hp
     unfold mD
     rw[b15,b16,b18]
     have hy2:=hyh.sub bs (RB.sub bs)
     have hy2l:=hy2.len
     refine aA hy2l ?_
     refine cV (fun hky=>?_) (fun hky=>?_)
     ·have hky:i < ys.length:=by omega
      obtain⟨w,⟨w',hw,hwl⟩,hld⟩:=hy2.at1 hky
      cases hw
      have hgd:ys.getD i []=ys[i]:=by rw[List.getD_eq_getElem?_getD,List.getElem?_eq_getElem hky]; rfl
      rw[hgd] at hq20 hj4
      obtain⟨r3,h3,n3,p1,p2,p3,p4,p5⟩:=aGC (nx:=n2+10) (n0:=nx') cW.nil hwl (by omega) (bf.mono (by omega)) (by omega)
      have hs3:Sub h2 h3:=fun k o hk=>p3 k o hk (by intro h9; cases h9)
      (repeat(first|refine zzB ?_|apply aD|apply aE|with_reducible first|apply aG|apply aF|apply aK|apply aH|apply aJ|apply aI|apply aL|apply aC))
      refine aA (hy2.ix .i64 hky) (aA hld (aA p1 ?_))
      refine hj4 _ h3 _ pv r3 ?_ ?_ ?_ ?_ ?_ ?_ ?_ ?_ ?_ rfl ?_ (bs.trans hs3) (p5.mono ?_) (hp.keepS hs3) p2
      ·exact b7
      ·exact b8
      ·exact b10
      ·exact b12
      ·exact b14
      ·exact b15
      ·exact b83
      ·exact b84
      ·exact b17
      ·dsimp only; omega
      ·dsimp only; omega
     ·have hgd:ys.getD i []=[]:=by rw[List.getD_eq_getElem?_getD,List.getElem?_eq_none (by omega)]; rfl
      rw[hgd] at hj4
      (repeat(first|refine zzB ?_|apply aD|apply aE|with_reducible first|apply aG|apply aF|apply aK|apply aH|apply aJ|apply aI|apply aL|apply aC))
      refine hj4 _ h2 _ pv (.slice none 0 0) ?_ ?_ ?_ ?_ ?_ ?_ ?_ ?_ ?_ ?_ ?_ bs ?_ hp cW.nil
      ·exact b7
      ·exact b8
      ·exact b10
      ·exact b12
      ·exact b14
      ·exact b15
      ·exact b83
      ·exact b84
      ·exact b17
      ·exact b18
      ·omega
      ·exact bf.mono (by omega)
    (repeat(first|refine zzB ?_|apply aD|apply aE|with_reducible first|apply aG|apply aF|apply aK|apply aH|apply aJ|apply aI|apply aL|apply aC))
    refine aA hxhl ?_
    refine cV (fun hkx=>?_) (fun hkx=>?_)
    ·have hkx:i < xs.length:=by omega
     obtain⟨w,⟨w',hw,hwl⟩,hld⟩:=hxh.at1 hkx
     cases hw
     have hgd:xs.getD i []=xs[i]:=by rw[List.getD_eq_getElem?_getD,List.getElem?_eq_getElem hkx]; rfl
     rw[hgd] at hp20 hj3
     obtain⟨r3,h3,n3,p1,p2,p3,p4,p5⟩:=aGC (nx:=nx'+15) (n0:=nx') cW.nil hwl (by omega) (hfh.mono (by omega)) (by omega)
     have hs3:Sub h' h3:=fun k o hk=>p3 k o hk (by intro h9; cases h9)
     (repeat(first|refine zzB ?_|apply aD|apply aE|with_reducible first|apply aG|apply aF|apply aK|apply aH|apply aJ|apply aI|apply aL|apply aC))
     refine aA (hxh.ix .i64 hkx) (aA hld (aA p1 ?_))
     refine hj3 _ h3 _ r3 ?_ ?_ ?_ ?_ ?_ ?_ ?_ ?_ ?_ rfl rfl ?_ hs3 (p5.mono ?_) p2
     ·exact e7
     ·exact e8
     ·exact e10
     ·exact e12
     ·exact e14
     ·exact e15
     ·exact e83
     ·exact e84
     ·rfl
     ·dsimp only; omega
     ·dsimp only; omega
    ·have hgd:xs.getD i []=[]:=by rw[List.getD_eq_getElem?_getD,List.getElem?_eq_none (by omega)]; rfl
     rw[hgd] at hj3
     (repeat(first|refine zzB ?_|apply aD|apply aE|with_reducible first|apply aG|apply aF|apply aK|apply aH|apply aJ|apply aI|apply aL|apply aC))
     refine hj3 _ h' _ (.slice none 0 0) ?_ ?_ ?_ ?_ ?_ ?_ ?_ ?_ ?_ rfl rfl ?_ (Sub.refl _) ?_ cW.nil
     ·exact e7
     ·exact e8
     ·exact e10
     ·exact e12
     ·exact e14
     ·exact e15
     ·exact e83
     ·exact e84
     ·rfl
     ·omega
     ·exact hfh.mono (by omega)
   ·(repeat(first|refine zzB ?_|apply aD|apply aE|with_reducible first|apply aG|apply aF|apply aK|apply aH|apply aJ|apply aI|apply aL|apply aC))
    refine hx _ _ _ _ (fun e=>by cases e) (eD (cQ ?_))
    have hj1:∀ (e':Env) n',e' 7=.bool true→e' 8=ptr pa→e' 10=ptr pb→nx'≤n'→mB ro K e' h' n':=by
     intro e' n' d7 d8 d10 dn
     have hi12:i≤12:=by omega
     unfold mB
     rw[d7,d8,d10]
     refine aB2 hi.a hT hIs (by omega) hcs (by omega) (hfh.mono (by omega)) fun u h2 n2 hn2 hf2 hk2 hsa2 hu2=>?_
     refine aA (aGb _ _) (aA (aGc _ _) ?_)
     have hi2:=hi.goA dab hk2 hsa2 hf2 (by omega)
     refine aB2 hi2.b hT hIs (by omega) hcs (by omega) (hf2.mono (by omega)) fun w h3 n3 hn3 hf3 hk3 hsb3 hw3=>?_
     refine aA (aGb _ _) (aA (aGc _ _) ?_)
     have hu3:=hu2.keepK hk3 fun id hid hm=>by have:=hvb id hm; have:=(hu2.blk hid).1; omega
     have hcc:=aAl hT s.kept.length { s with closed:=true } (aHW hIs)
     have hcc:(aBf Tb s).1.length+(aBf Tb s).2.kept.length≤s.kept.length:=hcc
     (repeat(first|refine zzB ?_|apply aD|apply aE|with_reducible first|apply aG|apply aF|apply aK|apply aH|apply aJ|apply aI|apply aL|apply aC))
     refine aBZ (by omega) (by omega) hu3.sl hw3.sl fun n10 hn10=>?_
     rw[decide_eq_true (rfl:(aBf Tb s).1=(aBf Tb s).1)]
     (repeat(first|refine zzB ?_|apply aD|apply aE|with_reducible first|apply aG|apply aF|apply aK|apply aH|apply aJ|apply aI|apply aL|apply aC))
     exact⟨h3,Sub.refl _,hK _ _⟩
    refine hj1 _ _ ?_ ?_ ?_ ?_
    ·exact e7
    ·exact e8
    ·exact e10
    ·omega
end
end V
end Go.Proofs.YtcaccnneblghgaaGreat
set_option maxRecDepth 16000
namespace Go.Proofs.YtcaccnneblghgaaGreat
namespace V
open Go.ChangeShapes Go.WideShapes Go.ChangeAt Go.RowKit
theorem aE3 (os:Os) (started:os.Started) (H:Type) (enc:TypeId × Value→H) :
  ReturnsInHanded {} Tryz.checked os 5 .any (Rows.scanOwnSpec.pre6 enc Tryz.prog Tryz.f5 Rows.scanOwnRow.domain false) (Rows.scanOwnSpec.post enc Tryz.prog Tryz.f5 false true false false):=by
 refine returnsInHanded_of_change_sized (C:=Tryz.checked) aQM started (by kernel_rfl) (by kernel_rfl)
  (ChangeSpec.witness6 (enc:=enc) (C:=Tryz.checked) false ⟨#[],#[.agg #[.slice none 0 0,.slice none 0 0,.slice none 0 0,.slice none 0 0],.slice none 0 0,.slice none 0 0],[]⟩ 8 (by kernel_rfl) (by kernel_rfl) (by kernel_rfl) (by kernel_rfl)) ?_
 intro W base args ds gs before hval hW _ _ _
 have hW':=hW
 obtain⟨p,q,hA0,hV,rfl,hfz,hnd⟩:=hW
 have hA:DataW.TrodAll enc Tryz.prog W 0 (fun _=>true) true [dI,fN,fN] args.toList ds p:=hA0
 obtain⟨v0,v1,v2,d0,d1,d2,p0,p1,p2,rfl,rfl,rfl,h0,h1,h2⟩:=trodAll_three hA
 obtain⟨rfl,rfl⟩:=trodVars_none hV
 obtain⟨w0,t0,a0,hd0⟩:=aMt h0 (hval 0 dI v0 rfl rfl)
 obtain⟨w1,l1,a1,hl1,hn1⟩:=aEE h1 (hval 1 fN v1 rfl rfl)
 obtain⟨w2,l2,a2,hl2,hn2⟩:=aEE h2 (hval 2 fN v2 rfl rfl)
 have hsay:aPv Tryz.prog W 5 [.agg w0.toArray,w1,w2]:=aCt Fr.e hd0 hl1 hn1 hl2 hn2 fun _ _=>rfl
 refine (aJh okZ okN okM (args:=#[v0,v1,v2]) (.cons a0 (.cons a1 (.cons a2 .nil))) hsay).mono fun e W' ⟨he,hb⟩=>?_
 subst he
 exact⟨_,rfl,aM7 (tb:=aEh) aP4 (by kernel_rfl) (by kernel_rfl) (by kernel_rfl) rfl hW' hb rfl⟩
end V
theorem scanOwn_holds:Rows.ScanOwnSaid :=
 OpenClaim.holds_of_wide 5 Tryz.f5 rfl rfl rfl rfl rfl rfl rfl ⟨rfl,rfl,rfl,rfl,rfl⟩ rfl rfl rfl rfl rfl (by kernel_rfl) (by kernel_rfl) (by kernel_rfl)
  (of_decide_eq_true (by kernel_rfl)) (by unfold Func.isWrapper; rw[if_neg (of_decide_eq_false (by kernel_rfl))]; exact⟨rfl,rfl⟩)
  (fun os started H enc _=>V.aE3 os started H enc)
end Go.Proofs.YtcaccnneblghgaaGreat