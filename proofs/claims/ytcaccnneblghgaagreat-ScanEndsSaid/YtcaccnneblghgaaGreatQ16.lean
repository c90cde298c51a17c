/- Texts laid one behind the other: SX, SY, SZ, SQ, SR, ST, SU, SV, SW, YA, S1, S3, S4, S5, GT, S2, S6, S7, S8, S9, T0, K1, K2, K3, K4, K5, K6, K7, K8, K9, KA, KB.
   No condition. -/
import Derived.KernelRfl
import Derived.Test.YtcaccnneblghgaaGreatQ15
set_option linter.unusedVariables false
set_option linter.unusedSimpArgs false
namespace Go.Proofs.YtcaccnneblghgaaGreat
namespace V
attribute [local irreducible] aA ifP aS cM eQ exP cO
abbrev MqD:=Nat × List (Nat × Nat)
def mD (q:MqD):List Nat:=q.1::jI q.2
structure MsX (ro:Ro) (h:T Obj) (X:List Nat) (qs:List MqD) (ds:List AutoD) (ms:List MacD):Prop where
 lq:qs.length=ds.length
 lm:ms.length=ds.length
 at_:∀ (i:Nat) q d m,qs[i]?=some q→ds[i]?=some d→ms[i]?=some m→MI ro h X q.1 q.2 (er d) m
 dis:∀ (i j:Nat) q r,qs[i]?=some q→qs[j]?=some r→i≠j→∀ k∈mD q,k ∉ mD r
section
variable {ro:Ro} {h h':T Obj} {X X':List Nat} {qs:List MqD} {ds:List AutoD} {ms:List MacD}
theorem MsX.subX (hm:MsX ro h X qs ds ms) (hs:Sub h h'):MsX ro h' X qs ds ms:=⟨hm.lq,hm.lm,fun i q d m h1 h2 h3=>(hm.at_ i q d m h1 h2 h3).subX jB hs,hm.dis⟩
theorem MsX.keep {ids:List Nat} (hm:MsX ro h X qs ds ms) (hs:dU ids h h') (h1:∀ k∈ids,k∈X) (h2:∀ q∈qs,∀ k∈ids,k ∉ mD q) (h3:∀ k∈X',k∈X∨h.get k=none) (h4:∀ k∈X,k∈X'):MsX ro h' X' qs ds ms :=
 ⟨hm.lq,hm.lm,fun i q d m g1 g2 g3=>(hm.at_ i q d m g1 g2 g3).keep jB hs h1 (fun k hk=>by
  have:=h2 q (List.mem_of_getElem? g1) k hk
  exact ⟨fun e=>this (by rw [e]; exact List.mem_cons_self ..),fun e=>this (List.mem_cons_of_mem _ e)⟩) h3 h4,hm.dis⟩
theorem MsX.step (hm:MsX ro h X qs ds ms) {i:Nat} {q:MqD} {d:AutoD} {m':MacD} (hq:qs[i]?=some q) (hd:ds[i]?=some d) (hk:dU (q.1::jI q.2) h h') (hX:∀ k∈mD q,k∈X) (hn:MI ro h' X q.1 q.2 (er d) m'):MsX ro h' X qs ds (ms.set i m'):=by
 refine ⟨hm.lq,by rw [List.length_set]; exact hm.lm,fun j r d2 m2 g1 g2 g3=>?_,hm.dis⟩
 have hl:=(List.getElem?_eq_some_iff.1 hq).1
 by_cases hij:i=j
 ·subst hij
  rw [List.getElem?_set_self (by rw [hm.lm,← hm.lq]; exact hl)] at g3
  rw [hq] at g1
  rw [hd] at g2
  cases g1; cases g2; cases g3
  exact hn
 ·rw [List.getElem?_set_ne hij] at g3
  refine (hm.at_ j r d2 m2 g1 g2 g3).keep jB hk hX (fun k hk2=>?_) (fun k hk2=>.inl hk2) fun k hk2=>hk2
  have:=hm.dis i j q r hq g1 hij k hk2
  exact ⟨fun e=>this (by rw [e]; exact List.mem_cons_self ..),fun e=>this (List.mem_cons_of_mem _ e)⟩
theorem MsX.inX (hm:MsX ro h X qs ds ms) {i:Nat} {q:MqD} (hq:qs[i]?=some q):∀ k∈mD q,k∈X:=fun k hk=>by
 have hl:=(List.getElem?_eq_some_iff.1 hq).1
 have e1:ds[i]?=some (ds[i]'(by rw [← hm.lq]; exact hl)):=List.getElem?_eq_getElem _
 have e2:ms[i]?=some (ms[i]'(by rw [hm.lm,← hm.lq]; exact hl)):=List.getElem?_eq_getElem _
 exact (hm.at_ i q _ _ hq e1 e2).inX k hk
theorem MsX.nil:MsX ro h X [] [] []:=⟨rfl,rfl,fun i q d m h1=>by simp at h1,fun i j q r h1=>by simp at h1⟩
theorem MsX.snoc (hm:MsX ro h X qs ds ms) {q:MqD} {d:AutoD} {m:MacD} (hn:MI ro h X q.1 q.2 (er d) m) (hd:∀ r∈qs,∀ k∈mD r,k ∉ mD q):MsX ro h X (qs++[q]) (ds++[d]) (ms++[m]):=by
 have l1:=hm.lq
 have l2:=hm.lm
 refine ⟨by simp [l1],by simp [l2],fun i q2 d2 m2 g1 g2 g3=>?_,fun i j q2 r g1 g2 hij k hk=>?_⟩
 ·rcases Nat.lt_or_ge i qs.length with hi | hi
  ·rw [List.getElem?_append_left hi] at g1
   rw [List.getElem?_append_left (by omega)] at g2 g3
   exact hm.at_ i q2 d2 m2 g1 g2 g3
  ·rw [List.getElem?_append_right hi] at g1
   rw [List.getElem?_append_right (by omega)] at g2 g3
   have hi0:i - qs.length=0:=by
    rcases Nat.eq_zero_or_pos (i - qs.length) with h0 | h0
    ·exact h0
    ·rw [List.getElem?_eq_none (by simp; omega)] at g1; cases g1
   rw [hi0] at g1
   rw [show i - ds.length=0 by omega] at g2
   rw [show i - ms.length=0 by omega] at g3
   simp at g1 g2 g3
   subst g1; subst g2; subst g3
   exact hn
 ·have key:∀ {i:Nat} {q2:MqD},(qs++[q])[i]?=some q2→(i < qs.length∧qs[i]?=some q2)∨(i=qs.length∧q2=q):=fun {i q2} g=>by
   rcases Nat.lt_or_ge i qs.length with hi | hi
   ·rw [List.getElem?_append_left hi] at g; exact .inl ⟨hi,g⟩
   ·rw [List.getElem?_append_right hi] at g
    rcases Nat.eq_zero_or_pos (i - qs.length) with h0 | h0
    ·rw [h0] at g; simp at g; exact .inr ⟨by omega,g.symm⟩
    ·rw [List.getElem?_eq_none (by simp; omega)] at g; cases g
  rcases key g1 with ⟨i1,i2⟩ | ⟨i1,rfl⟩
  ·rcases key g2 with ⟨j1,j2⟩ | ⟨j1,rfl⟩
   ·exact hm.dis i j q2 r i2 j2 hij k hk
   ·exact hd q2 (List.mem_of_getElem? i2) k hk
  ·rcases key g2 with ⟨j1,j2⟩ | ⟨j1,_⟩
   ·intro hk2
    exact hd r (List.mem_of_getElem? j2) k hk2 hk
   ·omega
end
def aA0 (l:List ByteArray):List (List Value):=l.map fun s=>[Value.string s]
theorem zX (l:List ByteArray):(aA0 l).length=l.length:=by simp [aA0]
theorem aGF {l:List ByteArray} {i:Nat} (hi:i < l.length):(aA0 l)[i]?=some [.string l[i]]:=by simp [aA0,hi]
def sM (qs:List MqD):List (List Value):=qs.map fun q=>[ptr q.1]
theorem aCF (l:List MqD):(sM l).length=l.length:=by simp [sM]
theorem aL0 {l:List MqD} {i:Nat} (hi:i < l.length):(sM l)[i]?=some [ptr l[i].1]:=by simp [sM,hi]
def qJ (ro:Ro) (h:T Obj) (x:List Value) (e:EntD):Prop:=∃ rv,x[259]?=some rv∧Sl ro h rv 1 (jV e.rules)
theorem qJ.sub {ro:Ro} {h h':T Obj} (hs:Sub h h'):∀ x e,qJ ro h x e→qJ ro h' x e:=fun x e ⟨rv,h1,h2⟩=>⟨rv,h1,h2.sub hs⟩
def scL (kv tv ev mv:Value) (most:Int) (bv:Value) (s:ScD) (er_:Int):List Value :=
 [cN,kv,tv,ev,mv,.int .i64 most,bv,.int .i64 (s.at_:Int),.bool s.line,.int .i64 (s.cond:Int),.int .i64 (s.took:Int),.int .i64 (s.held:Int),.int .i64 s.rule,.int .i64 er_,.bool s.closed,.int .i64 (s.steps:Int)]
def ScX (ro:Ro) (h:T Obj) (X:List Nat) (p:Nat) (qs:List MqD) (T:TabD) (most er_:Int) (s:ScD):Prop:=∃ kv tv ev mv bv,h.get p=some (.cells (scL kv tv ev mv most bv s er_).toArray aR) ∧
 Sl ro (del h X) kv 1 (aA0 T.kinds)∧Sl ro (del h X) tv 1 (jV T.to)∧SlR ro (del h X) ev 260 (qJ ro (del h X)) T.entries∧Sl ro (del h X) mv 1 (sM qs)∧Sl ro (del h X) bv 1 (cA s.kept)∧MsX ro h X qs (T.entries.map (·.a)) s.ms∧p∈X∧∀ q∈qs,p ∉ mD q
section
variable {ro:Ro} {h h':T Obj} {X X':List Nat} {p:Nat} {qs:List MqD} {T:TabD} {most er_:Int} {s:ScD}
theorem ScX.sub (hm:ScX ro h X p qs T most er_ s) (hs:Sub h h') (h3:∀ k∈X',k∈X∨h.get k=none) (h4:∀ k∈X,k∈X'):ScX ro h' X' p qs T most er_ s:=by
 obtain ⟨kv,tv,ev,mv,bv,g1,g2,g3,g4,g5,g6,g7,g8,g9⟩:=hm
 have hD:Sub (del h X) (del h' X'):=dU.del (ids:=[]) hs.keepL (fun k hk=>by cases hk) h3
 exact ⟨kv,tv,ev,mv,bv,hs _ _ g1,g2.sub hD,g3.sub hD,g4.sub hD (qJ.sub hD),g5.sub hD,g6.sub hD,g7.keep (ids:=[]) hs.keepL (fun k hk=>by cases hk) (fun q hq k hk=>by cases hk) h3 h4,h4 p g8,g9⟩
theorem ScX.step (hm:ScX ro h X p qs T most er_ s) {i:Nat} {q:MqD} {d:AutoD} {m':MacD} (hq:qs[i]?=some q) (hd:(T.entries.map (·.a))[i]?=some d) (hk:dU (q.1::jI q.2) h h') (hn:MI ro h' X q.1 q.2 (er d) m'):ScX ro h' X p qs T most er_ { s with ms:=s.ms.set i m' }:=by
 obtain ⟨kv,tv,ev,mv,bv,g1,g2,g3,g4,g5,g6,g7,g8,g9⟩:=hm
 have hX:=g7.inX hq
 have hD:Sub (del h X) (del h' X):=hk.del hX fun k hk=>.inl hk
 have hp:=hk p _ g1 (g9 q (List.mem_of_getElem? hq))
 exact ⟨kv,tv,ev,mv,bv,hp,g2.sub hD,g3.sub hD,g4.sub hD (qJ.sub hD),g5.sub hD,g6.sub hD,g7.step hq hd hk hX hn,g8,g9⟩
theorem ScX.upd (hm:ScX ro h X p qs T most er_ s) {er':Int} {s':ScD} (hms:s'.ms=s.ms) (hb:s'.kept=s.kept):∃ kv tv ev mv bv,h.get p=some (.cells (scL kv tv ev mv most bv s er_).toArray aR)∧ScX ro (h.upd p (some (.cells (scL kv tv ev mv most bv s' er').toArray aR))) X p qs T most er' s':=by
 obtain ⟨kv,tv,ev,mv,bv,g1,g2,g3,g4,g5,g6,g7,g8,g9⟩:=hm
 have hk:dU [p] h (h.upd p (some (.cells (scL kv tv ev mv most bv s' er').toArray aR))):=((Sub.refl _).keepL).upd (by simp)
 have hX:∀ k∈[p],k∈X:=fun k hk=>by simp at hk; subst hk; exact g8
 have hD:Sub (del h X) (del (h.upd p (some (.cells (scL kv tv ev mv most bv s' er').toArray aR))) X):=hk.del hX fun k hk=>.inl hk
 refine ⟨kv,tv,ev,mv,bv,g1,kv,tv,ev,mv,bv,V.T.get_upd_same _ _ _,g2.sub hD,g3.sub hD,g4.sub hD (qJ.sub hD),g5.sub hD,by rw [hb]; exact g6.sub hD,?_,g8,g9⟩
 rw [hms]
 exact g7.keep hk hX (fun q hq k hk=>by simp at hk; subst hk; exact g9 q hq) (fun k hk=>.inl hk) fun k hk=>hk
end
end V
end Go.Proofs.YtcaccnneblghgaaGreat
namespace Go.Proofs.YtcaccnneblghgaaGreat
namespace V
attribute [local irreducible] aA ifP aS cM eQ exP cO
theorem aMl:vU .eql (.pointer none) (.pointer none)=some (.bool true):=rfl
theorem aOE (id off z:Nat):vU .eql (at_ id off z) (.pointer none)=some (.bool false):=rfl
section
variable {ro:Ro} {h:T Obj} {nx:Nat} {K:KV}
theorem aCc (hK:∀ nx',nx≤nx'→K (.int .i64 2) h nx'):aN Tryz.prog ro fR [.pointer none] h nx K:=by
 apply nB
 unfold i4
 (repeat(first|refine aB (by simp (disch:=first|omega|exact nnN _|assumption) only [BB,B2,↓reduceIte,Nat.reduceLeDiff,Nat.reduceAdd,CC,aMl]<;>rfl) ?_|refine aD ?_|refine aE ?_|with_reducible first|refine aG ?_|refine aF ?_|refine aK ?_|refine aH ?_|refine aJ ?_|refine aI ?_|refine aL ?_|refine aC ?_))
 exact ⟨h,Sub.refl _,hK _ (by omega)⟩
theorem aMn {b:Value} (hK:∀ nx',nx≤nx'→K (.tuple #[.slice none 0 0,.int .i64 2]) h nx'):aN Tryz.prog ro gU [.pointer none,b] h nx K:=by
 apply pU
 unfold kK
 refine aCc fun n2 hn2=>?_
 (repeat(first|refine aB (by simp (disch:=first|omega|exact nnN _|assumption) only [BB,B2,↓reduceIte,Nat.reduceLeDiff,Nat.reduceAdd,CC]<;>rfl) ?_|refine aD ?_|refine aE ?_|with_reducible first|refine aG ?_|refine aF ?_|refine aK ?_|refine aH ?_|refine aJ ?_|refine aI ?_|refine aL ?_|refine aC ?_))
 exact ⟨h,Sub.refl _,hK _ (by omega)⟩
theorem aLN (hK:∀ nx',nx≤nx'→K (.tuple #[.slice none 0 0,.int .i64 2]) h nx'):aN Tryz.prog ro eM [.pointer none] h nx K:=by
 apply kG
 unfold iC
 refine aCc fun n2 hn2=>?_
 (repeat(first|refine aB (by simp (disch:=first|omega|exact nnN _|assumption) only [BB,B2,↓reduceIte,Nat.reduceLeDiff,Nat.reduceAdd,CC]<;>rfl) ?_|refine aD ?_|refine aE ?_|with_reducible first|refine aG ?_|refine aF ?_|refine aK ?_|refine aH ?_|refine aJ ?_|refine aI ?_|refine aL ?_|refine aC ?_))
 exact ⟨h,Sub.refl _,hK _ (by omega)⟩
theorem aMm (hK:∀ nx',nx≤nx'→K (.int .i64 0) h nx'):aN Tryz.prog ro lY [.pointer none] h nx K:=by
 apply y0
 unfold oG
 (repeat(first|refine aB (by simp (disch:=first|omega|exact nnN _|assumption) only [BB,B2,↓reduceIte,Nat.reduceLeDiff,Nat.reduceAdd,CC,aMl]<;>rfl) ?_|refine aD ?_|refine aE ?_|with_reducible first|refine aG ?_|refine aF ?_|refine aK ?_|refine aH ?_|refine aJ ?_|refine aI ?_|refine aL ?_|refine aC ?_))
 exact ⟨h,Sub.refl _,hK _ (by omega)⟩
theorem aLO (hK:∀ nx',nx≤nx'→K (.int .i64 0) h nx'):aN Tryz.prog ro lB [.pointer none] h nx K:=by
 apply wY
 unfold mV
 (repeat(first|refine aB (by simp (disch:=first|omega|exact nnN _|assumption) only [BB,B2,↓reduceIte,Nat.reduceLeDiff,Nat.reduceAdd,CC,aMl]<;>rfl) ?_|refine aD ?_|refine aE ?_|with_reducible first|refine aG ?_|refine aF ?_|refine aK ?_|refine aH ?_|refine aJ ?_|refine aI ?_|refine aL ?_|refine aC ?_))
 exact ⟨h,Sub.refl _,hK _ (by omega)⟩
theorem aMo (hK:∀ nx',nx≤nx'→K (.int .i64 0) h nx'):aN Tryz.prog ro gV [.pointer none] h nx K:=by
 apply pV
 unfold kL
 (repeat(first|refine aB (by simp (disch:=first|omega|exact nnN _|assumption) only [BB,B2,↓reduceIte,Nat.reduceLeDiff,Nat.reduceAdd,CC,aMl]<;>rfl) ?_|refine aD ?_|refine aE ?_|with_reducible first|refine aG ?_|refine aF ?_|refine aK ?_|refine aH ?_|refine aJ ?_|refine aI ?_|refine aL ?_|refine aC ?_))
 exact ⟨h,Sub.refl _,hK _ (by omega)⟩
theorem aMp (hK:∀ nx',nx≤nx'→K (.int .i64 0) h nx'):aN Tryz.prog ro lZ [.pointer none] h nx K:=by
 apply zA
 unfold oH
 (repeat(first|refine aB (by simp (disch:=first|omega|exact nnN _|assumption) only [BB,B2,↓reduceIte,Nat.reduceLeDiff,Nat.reduceAdd,CC,aMl]<;>rfl) ?_|refine aD ?_|refine aE ?_|with_reducible first|refine aG ?_|refine aF ?_|refine aK ?_|refine aH ?_|refine aJ ?_|refine aI ?_|refine aL ?_|refine aC ?_))
 exact ⟨h,Sub.refl _,hK _ (by omega)⟩
end
section
variable {ro:Ro} {h:T Obj} {nx:Nat} {K:KV} {X:List Nat} {p:Nat} {qs:List MqD} {T:TabD} {most er_:Int} {s:ScD}
theorem aIj (hm:ScX ro h X p qs T most er_ s) (hK:∀ nx',nx≤nx'→K (.int .i64 (s.kept.length:Nat)) h nx'):aN Tryz.prog ro gV [ptr p] h nx K:=by
 obtain ⟨kv,tv,ev,mv,bv,g1,g2,g3,g4,g5,g6,g7,g8,g9⟩:=hm
 apply pV
 unfold kL
 have l6:=aZ (ro:=ro) (z:=0) g1 (show (scL kv tv ev mv most bv s er_)[6]?=some bv from rfl)
 have hl:=g6.len
 rw [d9] at hl
 (repeat(first|refine aB (by simp (disch:=first|omega|exact nnN _|assumption) only [BB,B2,↓reduceIte,Nat.reduceLeDiff,Nat.reduceAdd,CC,aOE,bA,l6,hl]<;>rfl) ?_|refine aD ?_|refine aE ?_|with_reducible first|refine aG ?_|refine aF ?_|refine aK ?_|refine aH ?_|refine aJ ?_|refine aI ?_|refine aL ?_|refine aC ?_))
 exact ⟨h,Sub.refl _,hK _ (by omega)⟩
def aEZ (er_:Int) (closed:Bool):Int:=if er_=0∧closed=true then 181 else er_
theorem sW (hm:ScX ro h X p qs T most er_ s) (hK:∀ nx',nx≤nx'→K (.int .i64 (aEZ er_ s.closed)) h nx'):aN Tryz.prog ro fR [ptr p] h nx K:=by
 obtain ⟨kv,tv,ev,mv,bv,g1,g2,g3,g4,g5,g6,g7,g8,g9⟩:=hm
 apply nB
 unfold i4
 have l13:=aZ (ro:=ro) (z:=0) g1 (show (scL kv tv ev mv most bv s er_)[13]?=some (.int .i64 er_) from rfl)
 have l14:=aZ (ro:=ro) (z:=0) g1 (show (scL kv tv ev mv most bv s er_)[14]?=some (.bool s.closed) from rfl)
 by_cases he:er_=0
 ·cases hc:s.closed with
  | true =>
   rw [hc] at l14
   have:aEZ er_ s.closed=181:=if_pos ⟨he,hc⟩
   rw [this] at hK
   (repeat(first|refine aB (by simp (disch:=first|omega|exact nnN _|assumption) only [BB,B2,↓reduceIte,Nat.reduceLeDiff,Nat.reduceAdd,CC,aOE,bA,l13,l14]<;>rfl) ?_|refine aD ?_|refine aE ?_|with_reducible first|refine aG ?_|refine aF ?_|refine aK ?_|refine aH ?_|refine aJ ?_|refine aI ?_|refine aL ?_|refine aC ?_))
   exact ⟨h,Sub.refl _,hK _ (by omega)⟩
  | false =>
   rw [hc] at l14
   have:aEZ er_ s.closed=er_:=if_neg fun e=>by rw [hc] at e; exact absurd e.2 (by decide)
   rw [this] at hK
   (repeat(first|refine aB (by simp (disch:=first|omega|exact nnN _|assumption) only [BB,B2,↓reduceIte,Nat.reduceLeDiff,Nat.reduceAdd,CC,aOE,bA,l13,l14]<;>rfl) ?_|refine aD ?_|refine aE ?_|with_reducible first|refine aG ?_|refine aF ?_|refine aK ?_|refine aH ?_|refine aJ ?_|refine aI ?_|refine aL ?_|refine aC ?_))
   exact ⟨h,Sub.refl _,hK _ (by omega)⟩
 ·have:aEZ er_ s.closed=er_:=if_neg fun e=>he e.1
  rw [this] at hK
  (repeat(first|refine aB (by simp (disch:=first|omega|exact nnN _|assumption) only [BB,B2,↓reduceIte,Nat.reduceLeDiff,Nat.reduceAdd,CC,aOE,bA,l13,l14]<;>rfl) ?_|refine aD ?_|refine aE ?_|with_reducible first|refine aG ?_|refine aF ?_|refine aK ?_|refine aH ?_|refine aJ ?_|refine aI ?_|refine aL ?_|refine aC ?_))
  exact ⟨h,Sub.refl _,hK _ (by omega)⟩
theorem aBd (hm:ScX ro h X p qs T most er_ s) (hc:s.cond≤1000000) (hK:∀ nx',nx≤nx'→K (.int .i64 (qO s:Nat)) h nx'):aN Tryz.prog ro iY [ptr p] h nx K:=by
 obtain ⟨kv,tv,ev,mv,bv,g1,g2,g3,g4,g5,g6,g7,g8,g9⟩:=hm
 apply w7
 unfold mW
 have l8:=aZ (ro:=ro) (z:=0) g1 (show (scL kv tv ev mv most bv s er_)[8]?=some (.bool s.line) from rfl)
 have l9:=aZ (ro:=ro) (z:=0) g1 (show (scL kv tv ev mv most bv s er_)[9]?=some (.int .i64 (s.cond:Int)) from rfl)
 cases hl:s.line with
 | true =>
  rw [hl] at l8
  have:((qO s:Nat):Int)=2*(s.cond:Int)+1:=by unfold qO; rw [hl]; simp
  rw [this] at hK
  (repeat(first|refine aB (by simp (disch:=first|omega|exact nnN _|assumption) only [BB,B2,↓reduceIte,Nat.reduceLeDiff,Nat.reduceAdd,CC,bA,l8,l9]<;>rfl) ?_|refine aD ?_|refine aE ?_|with_reducible first|refine aG ?_|refine aF ?_|refine aK ?_|refine aH ?_|refine aJ ?_|refine aI ?_|refine aL ?_|refine aC ?_))
  exact ⟨h,Sub.refl _,hK _ (by omega)⟩
 | false =>
  rw [hl] at l8
  have:((qO s:Nat):Int)=2*(s.cond:Int):=by unfold qO; rw [hl]; simp
  rw [this] at hK
  (repeat(first|refine aB (by simp (disch:=first|omega|exact nnN _|assumption) only [BB,B2,↓reduceIte,Nat.reduceLeDiff,Nat.reduceAdd,CC,bA,l8,l9]<;>rfl) ?_|refine aD ?_|refine aE ?_|with_reducible first|refine aG ?_|refine aF ?_|refine aK ?_|refine aH ?_|refine aJ ?_|refine aI ?_|refine aL ?_|refine aC ?_))
  exact ⟨h,Sub.refl _,hK _ (by omega)⟩
end
end V
end Go.Proofs.YtcaccnneblghgaaGreat
namespace Go.Proofs.YtcaccnneblghgaaGreat
namespace V
theorem aAN {z:Nat}:∀ {l:List (List Value)} (n:Nat),(∀ x∈l,x.length=z)→l.flatten.drop (n*z)=(l.drop n).flatten
 | [],n,_=>by simp
 | y::r,0,_=>by simp
 | y::r,n+1,hz=>by
  have hy:=hz y (by simp)
  rw [List.drop_succ_cons,List.flatten_cons,Nat.succ_mul,show n*z+z=y.length+n*z by omega,List.drop_append,List.drop_of_length_le (Nat.le_add_right _ _),List.nil_append,Nat.add_sub_cancel_left]
  exact aAN n fun x hx=>hz x (by simp [hx])
theorem aBO {z:Nat}:∀ {l:List (List Value)},(∀ x∈l,x.length=z)→l.flatten.length=l.length*z
 | [],_=>by simp
 | y::r,hz=>by
  rw [List.flatten_cons,List.length_append,aBO fun x hx=>hz x (by simp [hx]),hz y (by simp),List.length_cons,Nat.succ_mul]; omega
theorem Sl.drop {P:Program} {t e:TypeId} {ro:Ro} {h:T Obj} {v:Value} {z:Nat} {l:List (List Value)} (hl:Sl ro h v z l) (hu:und P t=some (.slice e)) (hz:siz P e=some z) {n:Nat} (hn:n≤l.length) (k:IntKind) :
  ∃ r,oK P t v (some (.int k (n:Int))) none none=some r∧Sl ro h r z (l.drop n):=by
 have hnv:lO (.int k (n:Int))=some n:=by simp [lO]
 rcases hl with ⟨rfl,rfl⟩ | ⟨a,cap,rfl,h2,h3,h4⟩
 ·simp at hn; subst hn
  refine ⟨.slice none 0 0,?_,.inl ⟨rfl,rfl⟩⟩
  unfold oK
  simp [hu,hz,iP,lO]
 ·have hb1:Nat.ble l.length cap=true:=Nat.ble_eq_true_of_le h2
  have hbn:Nat.ble n l.length=true:=Nat.ble_eq_true_of_le hn
  have e1:iP none cap cap=some cap:=rfl
  have e2:iP none l.length cap=some l.length:=rfl
  have e3:iP (some (.int k (n:Int))) 0 l.length=some n:=by simp [iP,hnv,hbn]
  have hlen:(l.drop n).length=l.length - n:=List.length_drop
  have hk:n*z+(l.length - n)*z≤l.length*z:=by rw [← Nat.add_mul]; exact Nat.mul_le_mul_right _ (by omega)
  have hp:=nK h4.2 hk
  rw [aAN n h4.1] at hp
  have hl2:(l.drop n).flatten.length=(l.length - n)*z:=by rw [aBO fun x hx=>h4.1 x (List.mem_of_mem_drop hx),hlen]
  rw [List.take_of_length_le (by rw [hl2]; exact Nat.le_refl _)] at hp
  unfold oK
  simp only [hu,hz,Option.bind,e1,e2,e3,hb1,Option.isNone,Bool.true_or]
  rcases h3 with h3 | h3
  ·simp only [h3]
   cases hc:Nat.beq cap n with
   | true =>
    have hcn:cap=n:=Nat.eq_of_beq_eq_true hc
    have hd:l.drop n=[]:=List.drop_of_length_le (by omega)
    refine ⟨_,rfl,.inr ⟨a,cap - n,by rw [hlen],by rw [hlen]; omega,.inl h3,fun x hx=>(by rw [hd] at hx; cases hx),?_⟩⟩
    have h0:=nK (off:=0) (k:=0) h4.2 (Nat.zero_le _)
    have e:elt a 0=a:=by obtain ⟨b,o,sp⟩:=a; change sp=none at h3; subst h3; rfl
    rw [e] at h0
    rw [hd]
    simpa using h0
   | false =>
    refine ⟨_,rfl,.inr ⟨V.fwd a (n*z),cap - n,by rw [hlen],by rw [hlen]; omega,.inl h3,fun x hx=>h4.1 x (List.mem_of_mem_drop hx),?_⟩⟩
    have e:elt a (n*z)=V.fwd a (n*z):=by obtain ⟨b,o,sp⟩:=a; change sp=none at h3; subst h3; rfl
    rw [e] at hp
    rw [hlen]; exact hp
  ·simp only [h3,Nat.beq_refl]
   refine ⟨_,rfl,.inr ⟨V.fwd a (n*z),cap - n,by rw [hlen],by rw [hlen]; omega,.inr h3,fun x hx=>h4.1 x (List.mem_of_mem_drop hx),?_⟩⟩
   rw [hlen]
   unfold cellsAt at hp ⊢
   simp only [elt,V.fwd,h3,Option.map] at hp ⊢
   exact hp
end V
end Go.Proofs.YtcaccnneblghgaaGreat
namespace Go.Proofs.YtcaccnneblghgaaGreat
namespace V
attribute [local irreducible] aA ifP aS cM eQ exP cO
theorem aBK {ro:Ro} {v f:Value} {D:Type} {l:List D} {R:List Value→D→Prop} {q:D→Bool} (hlen:l.length≤1000000) {h:T Obj} {nx:Nat} {K:KV} (hv:SlR ro h v 260 R l)
  (hf:∀ (i:Nat) (hi:i < l.length) x n K',R x l[i]→nx≤n→(∀ n',n≤n'→K' (.bool (q l[i])) h n')→xG (aN Tryz.prog ro) f [.agg x.toArray] h n K')
  (hK:∀ nx',nx≤nx'→K (.int .i64 (oU q 0 l)) h nx'):aN Tryz.prog ro eN [v,f] h nx K:=by
 apply kP
 unfold fA
 generalize hR:oU q 0 l=r at hK
 refine aB hv.len ?_
 refine bC (fun j e h' nx'=>∃ (k:Nat),k+j=l.length∧nx≤nx'∧h'=h∧e 0=v∧e 1=f∧e 7=.int .i64 l.length∧e 8=.int .i64 k∧oU q k (l.drop k)=r) ?_ (n:=l.length) ⟨0,by omega,by omega,rfl,rfl,rfl,rfl,rfl,hR⟩
 rintro j e h' nx' ⟨k,hj,hnx,rfl,e0,e1,e7,e8,hr⟩ Q' hq hx
 unfold gH
 rw [e0,e1,e7,e8]
 refine dF (fun hk=>?_) (fun hk=>?_)
 ·have hk:k < l.length:=by omega
  rw [bT hk,mS] at hr
  obtain ⟨x,hx1,hx2,hx3,hx4,hx5⟩:=hv.at hk
  (repeat(first|refine aB (by simp (disch:=first|omega|exact nnN _|assumption) only [BB,B2,↓reduceIte,Nat.reduceLeDiff,Nat.reduceAdd,CC]<;>rfl) ?_|refine aD ?_|refine aE ?_|with_reducible first|refine aG ?_|refine aF ?_|refine aK ?_|refine aH ?_|refine aJ ?_|refine aI ?_|refine aL ?_|refine aC ?_))
  refine aB (hv.ix _ hk) (aB hx3 ?_)
  refine hf k hk x _ _ hx1 (by omega) fun n hn=>?_
  cases hc:q l[k] with
  | true =>
   rw [hc,if_pos rfl] at hr
   (repeat(first|refine aB (by simp (disch:=first|omega|exact nnN _|assumption) only [BB,B2,↓reduceIte,Nat.reduceLeDiff,Nat.reduceAdd,CC]<;>rfl) ?_|refine aD ?_|refine aE ?_|with_reducible first|refine aG ?_|refine aF ?_|refine aK ?_|refine aH ?_|refine aJ ?_|refine aI ?_|refine aL ?_|refine aC ?_))
   refine hx _ _ _ _ (fun e=>by cases e) (eL ?_)
   exact ⟨_,Sub.refl _,ki hK hr.symm (by omega)⟩
  | false =>
   rw [hc,if_neg (by decide)] at hr
   (repeat(first|refine aB (by simp (disch:=first|omega|exact nnN _|assumption) only [BB,B2,↓reduceIte,Nat.reduceLeDiff,Nat.reduceAdd,CC]<;>rfl) ?_|refine aD ?_|refine aE ?_|with_reducible first|refine aG ?_|refine aF ?_|refine aK ?_|refine aH ?_|refine aJ ?_|refine aI ?_|refine aL ?_|refine aC ?_))
   exact hq (j - 1) _ _ _ _ (by omega) ⟨k+1,by omega,by omega,rfl,e0,e1,e7,rfl,hr⟩ (Sub.refl _)
 ·(repeat(first|refine aB (by simp (disch:=first|omega|exact nnN _|assumption) only [BB,B2,↓reduceIte,Nat.reduceLeDiff,Nat.reduceAdd,CC]<;>rfl) ?_|refine aD ?_|refine aE ?_|with_reducible first|refine aG ?_|refine aF ?_|refine aK ?_|refine aH ?_|refine aJ ?_|refine aI ?_|refine aL ?_|refine aC ?_))
  refine hx _ _ _ _ (fun e=>by cases e) (eB (dA ?_))
  unfold eJ
  rw [gB (by omega)] at hr
  exact ⟨_,Sub.refl _,ki hK hr.symm (by omega)⟩
theorem xM {ro:Ro} {v f:Value} {D:Type} {l:List D} {R:List Value→D→Prop} {q:D→Bool} (hlen:l.length≤1000000) {h:T Obj} {nx:Nat} {K:KV} (hv:SlR ro h v 260 R l)
  (hf:∀ (i:Nat) (hi:i < l.length) x n K',R x l[i]→nx≤n→(∀ n',n≤n'→K' (.bool (q l[i])) h n')→xG (aN Tryz.prog ro) f [.agg x.toArray] h n K')
  (hK:∀ nx',nx≤nx'→K (.bool (l.any q)) h nx'):aN Tryz.prog ro d6 [v,f] h nx K:=by
 apply j6
 unfold eG
 refine aBK hlen hv (fun i hi x n K' hx hn hk=>hf i hi x n K' hx (by omega) hk) fun n hn=>?_
 rw [← zR q l 0 (by omega)] at hK
 (first | refine dF (fun hb=>?_) (fun hb=>?_) | refine aDs (fun hb=>?_) (fun hb=>?_) | refine kY (fun hb=>?_) (fun hb=>?_) | refine uN (fun hb=>?_) (fun hb=>?_) | refine rX (fun hb=>?_) (fun hb=>?_) | refine pN (fun hb=>?_) (fun hb=>?_))
 ·exact ⟨_,Sub.refl _,kb hK (decide_eq_true hb) (by omega)⟩
 ·exact ⟨_,Sub.refl _,kb hK (decide_eq_false (by omega)) (by omega)⟩
theorem aNy (h:T Obj) (ts:Array TypeId) (a b:Int):fO Tryz.prog h .max ts [.int .i64 a,.int .i64 b]=some (.int .i64 (max a b)):=by
 unfold fO
 simp only [aGg,aMh,aJ3]
 by_cases e:a < b
 ·simp only [e,decide_true]; congr 2; omega
 ·simp only [e,decide_false]; congr 2; omega
theorem aHq {n:Int}:∀ (l:List Int) (x:Int),decide (n≤l.foldl max x)=(decide (n≤x) || l.any fun r=>decide (n≤r))
 | [],x=>(Bool.or_false _).symm
 | y::l,x=>by
  rw [List.foldl_cons,aHq l,List.any_cons,← Bool.or_assoc]
  congr 1
  by_cases h1:n≤x
  ·rw [decide_eq_true h1,decide_eq_true (show n≤max x y by omega)]; rfl
  ·by_cases h2:n≤y
   ·rw [decide_eq_false h1,decide_eq_true h2,decide_eq_true (show n≤max x y by omega)]; rfl
   ·rw [decide_eq_false h1,decide_eq_false h2,decide_eq_false (show ¬n≤max x y by omega)]; rfl
section
variable {ro:Ro} {h:T Obj} {nx:Nat} {K:KV}
set_option maxRecDepth 4000 in
theorem aHJ {v:Value} {x:Int} {l:List Int} (hl:l.length≤1000000) (hv:Sl ro h v 1 (jV (x::l))) (hK:∀ nx',nx≤nx'→K (.int .i64 (l.foldl max x)) h nx'):aN Tryz.prog ro lC [v] h nx K:=by
 have hlen:=hv.len
 rw [d8,List.length_cons] at hlen
 apply w9
 unfold mX
 have h0x:=hv.ix .i64 (i:=0) (by rw [d8]; simp)
 have h0l:=hv.load1 (jK (l:=x::l) (i:=0) (by simp))
 have hz:((0:Nat):Int)=0:=rfl
 rw [hz] at h0x
 refine aB hlen ?_
 (repeat(first|refine aB (by simp (disch:=first|omega|exact nnN _|assumption) only [BB,B2,↓reduceIte,Nat.reduceLeDiff,Nat.reduceAdd,CC]<;>rfl) ?_|refine aD ?_|refine aE ?_|with_reducible first|refine aG ?_|refine aF ?_|refine aK ?_|refine aH ?_|refine aJ ?_|refine aI ?_|refine aL ?_|refine aC ?_))
 have key:∀ (e:Env) n,nx≤n→e 0=v→kJ ro K e h n:=by
  intro e n hn e0
  unfold kJ
  rw [e0]
  refine aB h0x (aB h0l ?_)
  refine bC (fun j e h' nx'=>∃ (k:Nat) (m:Int),k+j=(x::l).length∧1≤k∧nx≤nx'∧h'=h∧e 0=v∧e 3=.int .i64 m∧e 4=.int .i64 k∧((x::l).drop k).foldl max m=l.foldl max x) ?_ (n:=l.length) ⟨1,x,by rw [List.length_cons]; omega,by omega,by omega,rfl,e0,rfl,rfl,rfl⟩
  rintro j e' h' nx' ⟨k,m,hj,hk1,hnx,rfl,f0,f3,f4,hr⟩ Q' hq hx
  unfold oW
  rw [f0,f3,f4]
  refine aB hlen ?_
  rw [List.length_cons] at hj
  refine dF (fun hk=>?_) (fun hk=>?_)
  ·have hk:k < (x::l).length:=by rw [List.length_cons]; omega
   have hkx:=hv.ix .i64 (i:=k) (by rw [d8]; exact hk)
   have hkl:=hv.load1 (jK (l:=x::l) (i:=k) hk)
   rw [bT hk,List.foldl_cons] at hr
   generalize (x::l)[k]=y at hr hkl
   (repeat(first|refine aB (by simp (disch:=first|omega|exact nnN _|assumption) only [BB,B2,↓reduceIte,Nat.reduceLeDiff,Nat.reduceAdd,CC]<;>rfl) ?_|refine aD ?_|refine aE ?_|with_reducible first|refine aG ?_|refine aF ?_|refine aK ?_|refine aH ?_|refine aJ ?_|refine aI ?_|refine aL ?_|refine aC ?_))
   refine aB hkx (aB hkl (aB (aNy _ _ _ _) ?_))
   (repeat(first|refine aB (by simp (disch:=first|omega|exact nnN _|assumption) only [BB,B2,↓reduceIte,Nat.reduceLeDiff,Nat.reduceAdd,CC]<;>rfl) ?_|refine aD ?_|refine aE ?_|with_reducible first|refine aG ?_|refine aF ?_|refine aK ?_|refine aH ?_|refine aJ ?_|refine aI ?_|refine aL ?_|refine aC ?_))
   exact hq (j - 1) _ _ _ _ (by omega) ⟨k+1,max m y,by rw [List.length_cons]; omega,by omega,by omega,rfl,f0,rfl,rfl,hr⟩ (Sub.refl _)
  ·(repeat(first|refine aB (by simp (disch:=first|omega|exact nnN _|assumption) only [BB,B2,↓reduceIte,Nat.reduceLeDiff,Nat.reduceAdd,CC]<;>rfl) ?_|refine aD ?_|refine aE ?_|with_reducible first|refine aG ?_|refine aF ?_|refine aK ?_|refine aH ?_|refine aJ ?_|refine aI ?_|refine aL ?_|refine aC ?_))
   refine hx _ _ _ _ (fun e=>by cases e) (eB (dA ?_))
   have hm:m=l.foldl max x:=by rw [← hr,List.drop_of_length_le (by rw [List.length_cons]; omega)]; rfl
   have hend:∀ (e9:Env) n',nx≤n'→e9 3=.int .i64 m→iJ ro K e9 h' n':=by
    intro e9 n' hn f
    unfold iJ
    rw [f,hm]
    exact ⟨_,Sub.refl _,hK _ (by omega)⟩
   exact hend _ _ (by omega) f3
 exact key _ _ (by omega) rfl
end
end V
end Go.Proofs.YtcaccnneblghgaaGreat
namespace Go.Proofs.YtcaccnneblghgaaGreat
namespace V
attribute [local irreducible] aA ifP aS cM eQ exP cO
section
variable {ro:Ro} {h:T Obj} {nx:Nat} {K:KV}
set_option maxRecDepth 8000 in
theorem aG5 {lv rv uv nv xrv:Value} {s:StateD} {x:List Value} {rules:List Int} {i1:Nat} (hne:s.rule≠[]) (hsl:s.rule.length≤1000000) (hf:Fr h nx) (g1:h.get i1=some (.cells x.toArray cH)) (m1:x[259]?=some xrv) (hrl:Sl ro h xrv 1 (jV rules)) (hru:rules.length≤mF) (hu:ZI ro h uv s.rule)
  (hK:∀ nx',nx≤nx'→K (.bool (s.rule.any fun r=>decide ((rules.length:Int)≤r))) h nx'):aN Tryz.prog ro vJ [.agg #[lv,rv,uv,nv],ptr i1] h nx K:=by
 have hru:rules.length≤9223372036854775807:=hru
 apply aFI
 unfold aAe
 refine dY hf (Nat.le_refl _) fun h1 hs1 hf1 g3 _=>?_
 have g3:h1.get nx=some (.cells [lv,rv,uv,nv].toArray a8):=g3
 have m2:[lv,rv,uv,nv][2]?=some uv:=rfl
 have g1':=hs1 _ _ g1
 have hlen:=(hrl.sub hs1).len
 rw [d8] at hlen
 (repeat(first|refine aB (by simp (disch:=first|omega|exact nnN _|assumption) only [BB,B2,↓reduceIte,Nat.reduceLeDiff,Nat.reduceAdd,CC]<;>rfl) ?_|refine aD ?_|refine aE ?_|with_reducible first|refine aG ?_|refine aF ?_|refine aK ?_|refine aH ?_|refine aJ ?_|refine aI ?_|refine aL ?_|refine aC ?_))
 refine aB (aZ g3 m2) ?_
 cases hq:s.rule with
 | nil=>exact absurd hq hne
 | cons y r =>
  rw [hq] at hsl
  have hu1:Sl ro h1 uv 1 (jV (y::r)):=by rw [← hq]; exact (hu.sub hs1:ZI ro h1 uv s.rule)
  refine aHJ (by rw [List.length_cons] at hsl; omega) hu1 fun n2 hn2=>?_
  have hany:(s.rule.any fun r=>decide ((rules.length:Int)≤r))=decide ((rules.length:Int)≤r.foldl max y):=by
   rw [hq,List.any_cons,aHq]
  rw [hany] at hK
  (repeat(first|refine aB (by simp (disch:=first|omega|exact nnN _|assumption) only [BB,B2,↓reduceIte,Nat.reduceLeDiff,Nat.reduceAdd,CC]<;>rfl) ?_|refine aD ?_|refine aE ?_|with_reducible first|refine aG ?_|refine aF ?_|refine aK ?_|refine aH ?_|refine aJ ?_|refine aI ?_|refine aL ?_|refine aC ?_))
  refine aB (aZ g1' m1) ⟨fK g1' g1',aB hlen ?_⟩
  by_cases hc:(rules.length:Int)≤r.foldl max y
  ·rw [decide_eq_true hc] at hK
   (repeat(first|refine aB (by simp (disch:=first|omega|exact nnN _|assumption) only [BB,B2,↓reduceIte,Nat.reduceLeDiff,Nat.reduceAdd,CC]<;>rfl) ?_|refine aD ?_|refine aE ?_|with_reducible first|refine aG ?_|refine aF ?_|refine aK ?_|refine aH ?_|refine aJ ?_|refine aI ?_|refine aL ?_|refine aC ?_))
   exact ⟨h,hs1,hK _ (by omega)⟩
  ·rw [decide_eq_false hc] at hK
   (repeat(first|refine aB (by simp (disch:=first|omega|exact nnN _|assumption) only [BB,B2,↓reduceIte,Nat.reduceLeDiff,Nat.reduceAdd,CC]<;>rfl) ?_|refine aD ?_|refine aE ?_|with_reducible first|refine aG ?_|refine aF ?_|refine aK ?_|refine aH ?_|refine aJ ?_|refine aI ?_|refine aL ?_|refine aC ?_))
   exact ⟨h,hs1,hK _ (by omega)⟩
theorem aKG {m:Nat} (h:m≤3):jJ (m:Int)≤27:=by
 have:m=0∨m=1∨m=2∨m=3:=by omega
 rcases this with rfl | rfl | rfl | rfl<;>decide
theorem aPB {m:Nat} (h:m≤3):1≤jJ (m:Int):=by
 have:m=0∨m=1∨m=2∨m=3:=by omega
 rcases this with rfl | rfl | rfl | rfl<;>decide
theorem aGK {α:Type} {p q:α→Bool}:∀ {l:List α},(∀ x∈l,q x=!p x)→l.all p=!(l.any q)
 | [],_=>rfl
 | y::l,hpq=>by
  rw [List.all_cons,List.any_cons,hpq y (by simp),aGK fun x hx=>hpq x (by simp [hx])]
  cases p y<;>simp
set_option maxRecDepth 8000 in
set_option maxHeartbeats 1000000 in
theorem aJX {x:List Value} {e:EntD} {many:Nat} (hmb:many≤1000000) (hf:Fr h nx) (hd:uF ro h x e) (hK:∀ nx',nx≤nx'→K (.bool (kX many e)) h nx'):aN Tryz.prog ro aAg [.agg x.toArray,.int .i64 (many:Int)] h nx K:=by
 obtain ⟨cv,sv,rv,hxe,c258,c259,htk,hA,hS,hSl,hR,hRl⟩:=hd.cells
 have hRl9:e.rules.length≤9223372036854775807:=hRl
 have hcl:e.a.c.length=256:=by obtain ⟨_,_,_,hc,_⟩:=id hA; exact hc
 apply aHu
 unfold aDk
 refine dY hf (Nat.le_refl _) fun h1 hs1 hf1 g1 _=>?_
 have g1:h1.get nx=some (.cells x.toArray cH):=g1
 have hR1:=hR.sub hs1
 have hlen:=hR1.len
 rw [d8] at hlen
 (repeat(first|refine aB (by simp (disch:=first|omega|exact nnN _|assumption) only [BB,B2,↓reduceIte,Nat.reduceLeDiff,Nat.reduceAdd,CC]<;>rfl) ?_|refine aD ?_|refine aE ?_|with_reducible first|refine aG ?_|refine aF ?_|refine aK ?_|refine aH ?_|refine aJ ?_|refine aI ?_|refine aL ?_|refine aC ?_))
 refine aB (aZ g1 c259) (aB hlen ?_)
 refine bC (fun j ev h' nx'=>∃ (k:Nat) (la:Int),k+j=e.rules.length∧nx+1≤nx'∧h'=h1∧ev 1=.int .i64 (many:Int)∧ev 2=ptr nx∧ev 5=.int .i64 la∧ev 9=rv∧ev 10=.int .i64 e.rules.length∧ev 11=.int .i64 k∧rz (-1) many e.rules=rz la many (e.rules.drop k)) ?_ (n:=e.rules.length)
  ⟨0,-1,by omega,by omega,rfl,rfl,rfl,rfl,rfl,rfl,rfl,rfl⟩
 rintro j ev h' nx' ⟨k,la,hj,hnx,rfl,e1,e2,e5,e9,e10,e11,hr⟩ Q' hq hx
 unfold aC8
 rw [e1,e5,e9,e10,e11]
 refine dF (fun hk=>?_) (fun hk=>?_)
 ·have hk:k < e.rules.length:=by omega
  have hix:=hR1.ix .i64 (i:=k) (by rw [d8]; exact hk)
  have hld:=hR1.load1 (jK (l:=e.rules) (i:=k) hk)
  rw [bT hk] at hr
  generalize e.rules[k]=y at hr hld
  have hr:rz (-1) many e.rules=(decide (la < y)&&(decide (y < many)&&rz y many (e.rules.drop (k+1)))):=hr
  have hno:rz (-1) many e.rules=false→∀ n',nx≤n'→∃ h9,Sub h9 h'∧K (.bool false) h9 n':=fun hz n' hn=>⟨h,hs1,by
   have:kX many e=false:=by unfold kX; rw [hz]; rfl
   rw [← this]; exact hK _ hn⟩
  by_cases c1:y≤la
  ·rw [decide_eq_false (show ¬la < y by omega),Bool.false_and] at hr
   (repeat(first|refine aB (by simp (disch:=first|omega|exact nnN _|assumption) only [BB,B2,↓reduceIte,Nat.reduceLeDiff,Nat.reduceAdd,CC,hix,hld]<;>rfl) ?_|refine aD ?_|refine aE ?_|with_reducible first|refine aG ?_|refine aF ?_|refine aK ?_|refine aH ?_|refine aJ ?_|refine aI ?_|refine aL ?_|refine aC ?_))
   refine hx _ _ _ _ (fun e=>by cases e) (eL ?_)
   exact hno hr _ (by omega)
  ·rw [decide_eq_true (show la < y by omega),Bool.true_and] at hr
   by_cases c2:(many:Int)≤y
   ·rw [decide_eq_false (show ¬y < (many:Int) by omega),Bool.false_and] at hr
    (repeat(first|refine aB (by simp (disch:=first|omega|exact nnN _|assumption) only [BB,B2,↓reduceIte,Nat.reduceLeDiff,Nat.reduceAdd,CC,hix,hld]<;>rfl) ?_|refine aD ?_|refine aE ?_|with_reducible first|refine aG ?_|refine aF ?_|refine aK ?_|refine aH ?_|refine aJ ?_|refine aI ?_|refine aL ?_|refine aC ?_))
    refine hx _ _ _ _ (fun e=>by cases e) (eL ?_)
    exact hno hr _ (by omega)
   ·rw [decide_eq_true (show y < (many:Int) by omega),Bool.true_and] at hr
    (repeat(first|refine aB (by simp (disch:=first|omega|exact nnN _|assumption) only [BB,B2,↓reduceIte,Nat.reduceLeDiff,Nat.reduceAdd,CC,hix,hld]<;>rfl) ?_|refine aD ?_|refine aE ?_|with_reducible first|refine aG ?_|refine aF ?_|refine aK ?_|refine aH ?_|refine aJ ?_|refine aI ?_|refine aL ?_|refine aC ?_))
    exact hq (j - 1) _ _ _ _ (by omega) ⟨k+1,y,by omega,by omega,rfl,e1,e2,rfl,e9,e10,rfl,hr⟩ (Sub.refl _)
 ·have hr1:rz (-1) many e.rules=true:=by rw [hr,List.drop_of_length_le (by omega)]; rfl
  have hfit:kX many e=(eW e.a&&e.a.states.all fun s=>s.rule.all fun r=>decide (r < e.rules.length)):=by unfold kX; rw [hr1,Bool.true_and]
  (repeat(first|refine aB (by simp (disch:=first|omega|exact nnN _|assumption) only [BB,B2,↓reduceIte,Nat.reduceLeDiff,Nat.reduceAdd,CC]<;>rfl) ?_|refine aD ?_|refine aE ?_|with_reducible first|refine aG ?_|refine aF ?_|refine aK ?_|refine aH ?_|refine aJ ?_|refine aI ?_|refine aL ?_|refine aC ?_))
  refine hx _ _ _ _ (fun e=>by cases e) (eB (dA ?_))
  have hend:∀ (ev':Env) n',nx+1≤n'→ev' 2=ptr nx→s9 ro K ev' h' n':=by
   intro ev' n' hn f2
   unfold s9
   rw [f2]
   have hld:loadA ro h' 259 (at_ nx 0 0)=some (.agg (dQ e.a.c e.a.many cv sv).toArray):=by
    rw [bZ,g1,bE]
    simp only [Option.bind_some,tl]
    rw [if_pos (by rw [hd.len]; omega),List.drop_zero,htk]
   (repeat(first|refine aB (by simp (disch:=first|omega|exact nnN _|assumption) only [BB,B2,↓reduceIte,Nat.reduceLeDiff,Nat.reduceAdd,CC]<;>rfl) ?_|refine aD ?_|refine aE ?_|with_reducible first|refine aG ?_|refine aF ?_|refine aK ?_|refine aH ?_|refine aJ ?_|refine aI ?_|refine aL ?_|refine aC ?_))
   refine aB hld ?_
   refine aBD (hf1.mono (by omega)) (hA.sub hs1) fun n2 hn2=>?_
   cases hok:eW e.a with
   | false =>
    rw [hok,Bool.false_and] at hfit
    (repeat(first|refine aB (by simp (disch:=first|omega|exact nnN _|assumption) only [BB,B2,↓reduceIte,Nat.reduceLeDiff,Nat.reduceAdd,CC]<;>rfl) ?_|refine aD ?_|refine aE ?_|with_reducible first|refine aG ?_|refine aF ?_|refine aK ?_|refine aH ?_|refine aJ ?_|refine aI ?_|refine aL ?_|refine aC ?_))
    refine ⟨h,hs1,?_⟩
    rw [← hfit]; exact hK _ (by omega)
   | true =>
    rw [hok,Bool.true_and] at hfit
    obtain ⟨_,_,_,k4,_,k6⟩:=fN hok
    (repeat(first|refine aB (by simp (disch:=first|omega|exact nnN _|assumption) only [BB,B2,↓reduceIte,Nat.reduceLeDiff,Nat.reduceAdd,CC]<;>rfl) ?_|refine aD ?_|refine aE ?_|with_reducible first|refine aG ?_|refine aF ?_|refine aK ?_|refine aH ?_|refine aJ ?_|refine aI ?_|refine aL ?_|refine aC ?_))
    refine aB (aZ g1 c258) ?_
    refine p8 (q:=fun s=>s.rule.any fun r=>decide ((e.rules.length:Int)≤r)) (by omega) (hS.sub hs1 (dX.sub hs1)) (fun i hi y n' K' hy hn' hk'=>?_) fun n' hn'=>?_
    ·obtain ⟨lv,rv',uv,nv,rfl,w1,w2,w3,w4,w5⟩:=hy
     have hso:=k6 _ (List.getElem_mem hi)
     obtain ⟨p1,p2,p3,p4,p5⟩:=p9 hso
     have hcd:=aKG p1
     exact aG5 (fun e9=>by have:=aPB p1; rw [e9] at p2; have p2:(0:Int)=_:=p2; omega) (by omega) (hf1.mono (by omega)) g1 c259 hR1 hRl w3 hk'
    ·have hall:(e.a.states.all fun s=>s.rule.all fun r=>decide (r < (e.rules.length:Int)))=!(e.a.states.any fun s=>s.rule.any fun r=>decide ((e.rules.length:Int)≤r)):=aGK fun s _=>by
      rw [aGK (q:=fun r=>decide ((e.rules.length:Int)≤r)) fun r _=>by
       by_cases h9:r < (e.rules.length:Int)
       ·rw [decide_eq_true h9,decide_eq_false (by omega)]; rfl
       ·rw [decide_eq_false h9,decide_eq_true (by omega)]; rfl]
      simp
     rw [hall] at hfit
     (repeat(first|refine aB (by simp (disch:=first|omega|exact nnN _|assumption) only [BB,B2,↓reduceIte,Nat.reduceLeDiff,Nat.reduceAdd,CC]<;>rfl) ?_|refine aD ?_|refine aE ?_|with_reducible first|refine aG ?_|refine aF ?_|refine aK ?_|refine aH ?_|refine aJ ?_|refine aI ?_|refine aL ?_|refine aC ?_))
     refine ⟨h,hs1,?_⟩
     rw [← hfit]; exact hK _ (by omega)
  exact hend _ _ (by omega) e2
end
end V
end Go.Proofs.YtcaccnneblghgaaGreat
namespace Go.Proofs.YtcaccnneblghgaaGreat
namespace V
attribute [local irreducible] aA ifP aS cM eQ exP cO
section
variable {ro:Ro} {h:T Obj} {nx:Nat} {K:KV}
set_option maxRecDepth 8000 in
set_option maxHeartbeats 2000000 in
theorem aHC {x:List Value} {e:EntD} {many:Nat} (hmb:many≤1000000) (hf:Fr h nx) (hd:uF ro h x e) (hK:∀ nx',nx≤nx'→K (.bool (kX many e)) h nx'):aN Tryz.prog ro vN [.agg x.toArray,.int .i64 (many:Int)] h nx K:=by
 obtain ⟨cv,sv,rv,hxe,c258,c259,htk,hA,hS,hSl,hR,hRl⟩:=hd.cells
 have hRl9:e.rules.length≤9223372036854775807:=hRl
 have hcl:e.a.c.length=256:=by obtain ⟨_,_,_,hc,_⟩:=id hA; exact hc
 apply aF2
 unfold aAr
 refine dY hf (Nat.le_refl _) fun h1 hs1 hf1 g1 _=>?_
 have g1:h1.get nx=some (.cells x.toArray cH):=g1
 have hld:loadA ro h1 259 (at_ nx 0 0)=some (.agg (dQ e.a.c e.a.many cv sv).toArray):=by
  rw [bZ,g1,bE]
  simp only [Option.bind_some,tl]
  rw [if_pos (by rw [hd.len]; omega),List.drop_zero,htk]
 have hR1:=hR.sub hs1
 have hS1:=hS.sub hs1 (dX.sub hs1)
 have hlen:=hR1.len
 rw [d8] at hlen
 have hSlen:=hS1.len
 have l259:=aZ (ro:=ro) (z:=0) g1 c259
 have l258:=aZ (ro:=ro) (z:=0) g1 c258
 (repeat(first|refine aB (by simp (disch:=first|omega|exact nnN _|assumption) only [BB,B2,↓reduceIte,Nat.reduceLeDiff,Nat.reduceAdd,CC]<;>rfl) ?_|refine aD ?_|refine aE ?_|with_reducible first|refine aG ?_|refine aF ?_|refine aK ?_|refine aH ?_|refine aJ ?_|refine aI ?_|refine aL ?_|refine aC ?_))
 refine aB hld ?_
 refine aFW (hf1.mono (by omega)) (hA.sub hs1) fun n2 hn2=>?_
 have hno:kX many e=false→∀ n',nx≤n'→∃ h9,Sub h9 h1∧K (.bool false) h9 n':=fun hz n' hn=>⟨h,hs1,by rw [← hz]; exact hK _ hn⟩
 cases hok:eW e.a with
 | false =>
  (repeat(first|refine aB (by simp (disch:=first|omega|exact nnN _|assumption) only [BB,B2,↓reduceIte,Nat.reduceLeDiff,Nat.reduceAdd,CC]<;>rfl) ?_|refine aD ?_|refine aE ?_|with_reducible first|refine aG ?_|refine aF ?_|refine aK ?_|refine aH ?_|refine aJ ?_|refine aI ?_|refine aL ?_|refine aC ?_))
  exact hno (by unfold kX; rw [hok]; simp) _ (by omega)
 | true =>
  obtain ⟨_,_,_,k4,_,k6⟩:=fN hok
  (repeat(first|refine aB (by simp (disch:=first|omega|exact nnN _|assumption) only [BB,B2,↓reduceIte,Nat.reduceLeDiff,Nat.reduceAdd,CC]<;>rfl) ?_|refine aD ?_|refine aE ?_|with_reducible first|refine aG ?_|refine aF ?_|refine aK ?_|refine aH ?_|refine aJ ?_|refine aI ?_|refine aL ?_|refine aC ?_))
  refine bC (fun j ev h' nx'=>∃ (k:Nat) (la:Int),k+j=e.rules.length∧nx+1≤nx'∧h'=h1∧ev 1=.int .i64 (many:Int)∧ev 2=ptr nx∧ev 5=.int .i64 k∧-1≤la∧(∀ (hk:0 < k),∃ hl:k - 1 < e.rules.length,e.rules[k - 1]=la∧0≤la)∧(k=0→la=-1)∧rz (-1) many e.rules=rz la many (e.rules.drop k)) ?_ (n:=e.rules.length)
   ⟨0,-1,by omega,by omega,rfl,rfl,rfl,rfl,by omega,fun hk=>by omega,fun _=>rfl,rfl⟩
  rintro j ev h' nx' ⟨k,la,hj,hnx,rfl,e1,e2,e5,hla,hprev,hla0,hr⟩ Q' hq hx
  unfold aAZ
  rw [e1,e2,e5]
  (repeat(first|refine aB (by simp (disch:=first|omega|exact nnN _|assumption) only [BB,B2,↓reduceIte,Nat.reduceLeDiff,Nat.reduceAdd,CC]<;>rfl) ?_|refine aD ?_|refine aE ?_|with_reducible first|refine aG ?_|refine aF ?_|refine aK ?_|refine aH ?_|refine aJ ?_|refine aI ?_|refine aL ?_|refine aC ?_))
  refine aB l259 (aB hlen ?_)
  refine dF (fun hk=>?_) (fun hk=>?_)
  ·have hk:k < e.rules.length:=by omega
   have hix:=hR1.ix .i64 (i:=k) (by rw [d8]; exact hk)
   have hldk:=hR1.load1 (jK (l:=e.rules) (i:=k) hk)
   rw [bT hk] at hr
   have hyk:e.rules[k]=e.rules[k]:=rfl
   generalize hy:e.rules[k]=y at hr hldk
   have hr:rz (-1) many e.rules=(decide (la < y)&&(decide (y < many)&&rz y many (e.rules.drop (k+1)))):=hr
   have hbad:rz (-1) many e.rules=false→∀ n',nx≤n'→∃ h9,Sub h9 h'∧K (.bool false) h9 n':=fun hz n' hn=>hno (by unfold kX; rw [hz]; rfl) n' hn
   by_cases c1:y < 0
   ·have hz:rz (-1) many e.rules=false:=by
     by_cases c2:la < y
     ·by_cases hk0:k=0
      ·have:=hla0 hk0; omega
      ·obtain ⟨_,_,h0⟩:=hprev (by omega); omega
     ·rw [hr,decide_eq_false c2]; rfl
    (repeat(first|refine aB (by simp (disch:=first|omega|exact nnN _|assumption) only [BB,B2,↓reduceIte,Nat.reduceLeDiff,Nat.reduceAdd,CC,l259,hix,hldk]<;>rfl) ?_|refine aD ?_|refine aE ?_|with_reducible first|refine aG ?_|refine aF ?_|refine aK ?_|refine aH ?_|refine aJ ?_|refine aI ?_|refine aL ?_|refine aC ?_))
    refine hx _ _ _ _ (fun e=>by cases e) (eL ?_)
    exact hbad hz _ (by omega)
   ·by_cases c2:(many:Int)≤y
    ·have hz:rz (-1) many e.rules=false:=by rw [hr,decide_eq_false (show ¬y < (many:Int) by omega)]; simp
     (repeat(first|refine aB (by simp (disch:=first|omega|exact nnN _|assumption) only [BB,B2,↓reduceIte,Nat.reduceLeDiff,Nat.reduceAdd,CC,l259,hix,hldk]<;>rfl) ?_|refine aD ?_|refine aE ?_|with_reducible first|refine aG ?_|refine aF ?_|refine aK ?_|refine aH ?_|refine aJ ?_|refine aI ?_|refine aL ?_|refine aC ?_))
     refine hx _ _ _ _ (fun e=>by cases e) (eL ?_)
     exact hbad hz _ (by omega)
    ·by_cases hk0:k=0
     ·have hl0:=hla0 hk0
      rw [decide_eq_true (show la < y by omega),decide_eq_true (show y < (many:Int) by omega),Bool.true_and,Bool.true_and] at hr
      (repeat(first|refine aB (by simp (disch:=first|omega|exact nnN _|assumption) only [BB,B2,↓reduceIte,Nat.reduceLeDiff,Nat.reduceAdd,CC,l259,hix,hldk]<;>rfl) ?_|refine aD ?_|refine aE ?_|with_reducible first|refine aG ?_|refine aF ?_|refine aK ?_|refine aH ?_|refine aJ ?_|refine aI ?_|refine aL ?_|refine aC ?_))
      exact hq (j - 1) _ _ _ _ (by omega) ⟨k+1,y,by omega,by omega,rfl,e1,e2,rfl,by omega,fun _=>⟨by omega,by show e.rules[k]=y; exact hy,by omega⟩,fun h9=>by omega,hr⟩ (Sub.refl _)
     ·obtain ⟨hkl,hp1,hp0⟩:=hprev (by omega)
      have hixp:=hR1.ix .i64 (i:=k - 1) (by rw [d8]; exact hkl)
      have hldp:=hR1.load1 (jK (l:=e.rules) (i:=k - 1) hkl)
      rw [hp1] at hldp
      rw [show ((k - 1:Nat):Int)=(k:Int) - 1 by omega] at hixp
      by_cases c3:y≤la
      ·have hz:rz (-1) many e.rules=false:=by rw [hr,decide_eq_false (show ¬la < y by omega)]; rfl
       (repeat(first|refine aB (by simp (disch:=first|omega|exact nnN _|assumption) only [BB,B2,↓reduceIte,Nat.reduceLeDiff,Nat.reduceAdd,CC,l259,hix,hldk,hixp,hldp]<;>rfl) ?_|refine aD ?_|refine aE ?_|with_reducible first|refine aG ?_|refine aF ?_|refine aK ?_|refine aH ?_|refine aJ ?_|refine aI ?_|refine aL ?_|refine aC ?_))
       refine hx _ _ _ _ (fun e=>by cases e) (eL ?_)
       exact hbad hz _ (by omega)
      ·rw [decide_eq_true (show la < y by omega),decide_eq_true (show y < (many:Int) by omega),Bool.true_and,Bool.true_and] at hr
       (repeat(first|refine aB (by simp (disch:=first|omega|exact nnN _|assumption) only [BB,B2,↓reduceIte,Nat.reduceLeDiff,Nat.reduceAdd,CC,l259,hix,hldk,hixp,hldp]<;>rfl) ?_|refine aD ?_|refine aE ?_|with_reducible first|refine aG ?_|refine aF ?_|refine aK ?_|refine aH ?_|refine aJ ?_|refine aI ?_|refine aL ?_|refine aC ?_))
       exact hq (j - 1) _ _ _ _ (by omega) ⟨k+1,y,by omega,by omega,rfl,e1,e2,rfl,by omega,fun _=>⟨by omega,by show e.rules[k]=y; exact hy,by omega⟩,fun h9=>by omega,hr⟩ (Sub.refl _)
  ·have hr1:rz (-1) many e.rules=true:=by rw [hr,List.drop_of_length_le (by omega)]; rfl
   have hfit:kX many e=(e.a.states.all fun s=>s.rule.all fun r=>decide (r < e.rules.length)):=by unfold kX; rw [hr1,hok]; rfl
   (repeat(first|refine aB (by simp (disch:=first|omega|exact nnN _|assumption) only [BB,B2,↓reduceIte,Nat.reduceLeDiff,Nat.reduceAdd,CC]<;>rfl) ?_|refine aD ?_|refine aE ?_|with_reducible first|refine aG ?_|refine aF ?_|refine aK ?_|refine aH ?_|refine aJ ?_|refine aI ?_|refine aL ?_|refine aC ?_))
   refine hx _ _ _ _ (fun e=>by cases e) (eB (dA ?_))
   have key:∀ (ev':Env) n',nx+1≤n'→ev' 2=ptr nx→pF ro K ev' h' n':=by
    intro ev' n' hn f2
    unfold pF
    generalize hB:(e.a.states.all fun s=>s.rule.all fun r=>decide (r < (e.rules.length:Int)))=B at hfit
    refine bC (fun j e0 h'' nx2=>∃ (k:Nat),k+j=e.a.states.length∧nx+1≤nx2∧h''=h'∧e0 2=ptr nx∧e0 6=.int .i64 k∧((e.a.states.drop k).all fun s=>s.rule.all fun r=>decide (r < (e.rules.length:Int)))=B) ?_ (n:=e.a.states.length)
     ⟨0,by omega,by omega,rfl,f2,rfl,hB⟩
    rintro j2 e0 h'' nx2 ⟨k2,hj2,hnx2,rfl,f2,f6,hr2⟩ Q2 hq2 hx2
    unfold aAX
    rw [f2,f6]
    (repeat(first|refine aB (by simp (disch:=first|omega|exact nnN _|assumption) only [BB,B2,↓reduceIte,Nat.reduceLeDiff,Nat.reduceAdd,CC]<;>rfl) ?_|refine aD ?_|refine aE ?_|with_reducible first|refine aG ?_|refine aF ?_|refine aK ?_|refine aH ?_|refine aJ ?_|refine aI ?_|refine aL ?_|refine aC ?_))
    refine aB l258 (aB hSlen ?_)
    refine dF (fun hk2=>?_) (fun hk2=>?_)
    ·have hk2:k2 < e.a.states.length:=by omega
     rw [bT hk2,List.all_cons] at hr2
     have six:=hS1.ix .i64 hk2
     obtain ⟨y,hy1,hy2,hy3,hy4,hy5⟩:=hS1.at hk2
     have hso:=k6 _ (List.getElem_mem hk2)
     generalize e.a.states[k2]=st at hr2 hy1 hso
     obtain ⟨lv,rv',uv,nv,rfl,w1,w2,w3,w4,w5⟩:=hy1
     obtain ⟨p1,p2,p3,p4,p5⟩:=p9 hso
     have hcd:=aKG p1
     have y2:=hy5 2 uv rfl
     have y2p:=hy4 2
     have w3:Sl ro h'' uv 1 (jV st.rule):=w3
     have ulen:=w3.len
     rw [d8] at ulen
     (repeat(first|refine aB (by simp (disch:=first|omega|exact nnN _|assumption) only [BB,B2,↓reduceIte,Nat.reduceLeDiff,Nat.reduceAdd,CC]<;>rfl) ?_|refine aD ?_|refine aE ?_|with_reducible first|refine aG ?_|refine aF ?_|refine aK ?_|refine aH ?_|refine aJ ?_|refine aI ?_|refine aL ?_|refine aC ?_))
     generalize hB2:(st.rule.all fun r=>decide (r < (e.rules.length:Int)))=Bq at hr2
     refine bC (fun j3 e3 h3 nx3=>∃ (k3:Nat),k3+j3=st.rule.length∧nx+1≤nx3∧h3=h''∧e3 2=ptr nx∧e3 6=.int .i64 k2∧e3 7=.int .i64 k3∧((st.rule.drop k3).all fun r=>decide (r < (e.rules.length:Int)))=Bq) ?_ (n:=st.rule.length)
      ⟨0,by omega,by omega,rfl,f2,f6,rfl,hB2⟩
     rintro j3 e3 h3 nx3 ⟨k3,hj3,hnx3,rfl,f2,f6,f7,hr3⟩ Q3 hq3 hx3
     unfold aAY
     rw [f2,f6,f7]
     (repeat(first|refine aB (by simp (disch:=first|omega|exact nnN _|assumption) only [BB,B2,↓reduceIte,Nat.reduceLeDiff,Nat.reduceAdd,CC,six,y2p]<;>rfl) ?_|refine aD ?_|refine aE ?_|with_reducible first|refine aG ?_|refine aF ?_|refine aK ?_|refine aH ?_|refine aJ ?_|refine aI ?_|refine aL ?_|refine aC ?_))
     refine aB l258 ?_
     (repeat(first|refine aB (by simp (disch:=first|omega|exact nnN _|assumption) only [BB,B2,↓reduceIte,Nat.reduceLeDiff,Nat.reduceAdd,CC,six,y2p]<;>rfl) ?_|refine aD ?_|refine aE ?_|with_reducible first|refine aG ?_|refine aF ?_|refine aK ?_|refine aH ?_|refine aJ ?_|refine aI ?_|refine aL ?_|refine aC ?_))
     refine aB y2 (aB ulen ?_)
     refine dF (fun hk3=>?_) (fun hk3=>?_)
     ·have hk3:k3 < st.rule.length:=by omega
      have uix:=w3.ix .i64 (i:=k3) (by rw [d8]; exact hk3)
      have uld:=w3.load1 (jK (l:=st.rule) (i:=k3) hk3)
      rw [bT hk3,List.all_cons] at hr3
      generalize st.rule[k3]=u at hr3 uld
      have hcount:∀ b:Bool,decide (u < (e.rules.length:Int))=b→True:=fun _ _=>trivial
      (repeat(first|refine aB (by simp (disch:=first|omega|exact nnN _|assumption) only [BB,B2,↓reduceIte,Nat.reduceLeDiff,Nat.reduceAdd,CC,l258,l259,six,y2p,y2,uix,uld,hlen]<;>rfl) ?_|refine aD ?_|refine aE ?_|with_reducible first|refine aG ?_|refine aF ?_|refine aK ?_|refine aH ?_|refine aJ ?_|refine aI ?_|refine aL ?_|refine aC ?_))
      by_cases hc:(e.rules.length:Int)≤u
      ·rw [decide_eq_false (show ¬u < (e.rules.length:Int) by omega),Bool.false_and] at hr3
       (repeat(first|refine aB (by simp (disch:=first|omega|exact nnN _|assumption) only [BB,B2,↓reduceIte,Nat.reduceLeDiff,Nat.reduceAdd,CC]<;>rfl) ?_|refine aD ?_|refine aE ?_|with_reducible first|refine aG ?_|refine aF ?_|refine aK ?_|refine aH ?_|refine aJ ?_|refine aI ?_|refine aL ?_|refine aC ?_))
       refine hx3 _ _ _ _ (fun e=>by cases e) (eL ?_)
       refine hx2 _ _ _ _ (fun e=>by cases e) (eL ?_)
       refine hno ?_ _ (by omega)
       rw [hfit,← hr2,← hr3]; rfl
      ·rw [decide_eq_true (show u < (e.rules.length:Int) by omega),Bool.true_and] at hr3
       (repeat(first|refine aB (by simp (disch:=first|omega|exact nnN _|assumption) only [BB,B2,↓reduceIte,Nat.reduceLeDiff,Nat.reduceAdd,CC]<;>rfl) ?_|refine aD ?_|refine aE ?_|with_reducible first|refine aG ?_|refine aF ?_|refine aK ?_|refine aH ?_|refine aJ ?_|refine aI ?_|refine aL ?_|refine aC ?_))
       exact hq3 (j3 - 1) _ _ _ _ (by omega) ⟨k3+1,by omega,by omega,rfl,f2,f6,rfl,hr3⟩ (Sub.refl _)
     ·have hb2:Bq=true:=by rw [← hr3,List.drop_of_length_le (by omega)]; rfl
      rw [hb2,Bool.true_and] at hr2
      (repeat(first|refine aB (by simp (disch:=first|omega|exact nnN _|assumption) only [BB,B2,↓reduceIte,Nat.reduceLeDiff,Nat.reduceAdd,CC]<;>rfl) ?_|refine aD ?_|refine aE ?_|with_reducible first|refine aG ?_|refine aF ?_|refine aK ?_|refine aH ?_|refine aJ ?_|refine aI ?_|refine aL ?_|refine aC ?_))
      refine hx3 _ _ _ _ (fun e=>by cases e) (eB (dA ?_))
      have hj:∀ (e9:Env) n9,nx+1≤n9→e9 2=ptr nx→e9 6=.int .i64 k2→mH ro Q2 e9 h3 n9:=by
       intro e9 n9 hn9 f2 f6
       unfold mH
       rw [f6]
       have hk29:k2 < 256:=by omega
       (repeat(first|refine aB (by simp (disch:=first|omega|exact nnN _|assumption) only [BB,B2,↓reduceIte,Nat.reduceLeDiff,Nat.reduceAdd,CC]<;>rfl) ?_|refine aD ?_|refine aE ?_|with_reducible first|refine aG ?_|refine aF ?_|refine aK ?_|refine aH ?_|refine aJ ?_|refine aI ?_|refine aL ?_|refine aC ?_))
       exact hq2 (j2 - 1) _ _ _ _ (by omega) ⟨k2+1,by omega,by omega,rfl,f2,rfl,hr2⟩ (Sub.refl _)
      exact hj _ _ (by omega) f2 f6
    ·have hb:B=true:=by rw [← hr2,List.drop_of_length_le (by omega)]; rfl
     (repeat(first|refine aB (by simp (disch:=first|omega|exact nnN _|assumption) only [BB,B2,↓reduceIte,Nat.reduceLeDiff,Nat.reduceAdd,CC]<;>rfl) ?_|refine aD ?_|refine aE ?_|with_reducible first|refine aG ?_|refine aF ?_|refine aK ?_|refine aH ?_|refine aJ ?_|refine aI ?_|refine aL ?_|refine aC ?_))
     refine hx2 _ _ _ _ (fun e=>by cases e) (eB (dA ?_))
     have hj:∀ (e9:Env) n9,nx≤n9→pG ro K e9 h'' n9:=by
      intro e9 n9 hn9
      unfold pG
      refine ⟨h,hs1,?_⟩
      rw [← hb,← hfit]; exact hK _ (by omega)
     exact hj _ _ (by omega)
   exact key _ _ (by omega) e2
end
end V
end Go.Proofs.YtcaccnneblghgaaGreat
namespace Go.Proofs.YtcaccnneblghgaaGreat
namespace V
attribute [local irreducible] aA ifP aS cM eQ exP cO
theorem aKc (a b:ByteArray):(a.data.toList==b.data.toList)=decide (a=b):=by
 by_cases h:a=b
 ·subst h; simp
 ·rw [decide_eq_false h,beq_eq_false_iff_ne]
  intro he
  apply h
  have:a.data=b.data:=Array.toList_inj.1 he
  cases a; cases b
  simp only at this
  rw [this]
theorem aIv (a b:ByteArray):aEe .eql (.string a) (.string b)=some (.bool (decide (a=b))):=by
 rw [← aKc]; rfl
theorem zI (a b:ByteArray):aEe .neq (.string a) (.string b)=some (.bool (!decide (a=b))):=by
 rw [← aKc]; rfl
theorem aC7 {D:Type} {q:D→Bool}:∀ {l:List D} {k:Int} {i:Nat} {x:D},0≤k→l[i]?=some x→q x=true→decide (oU q k l=k+i)=!((l.take i).any q)
 | [],k,i,x,_,h,_=>by simp at h
 | y::l,k,0,x,_,h,hq=>by
  simp at h
  subst h
  rw [mS,if_pos hq]
  simp
 | y::l,k,i+1,x,hk,h,hq=>by
  rw [mS,List.take_succ_cons,List.any_cons]
  by_cases hy:q y=true
  ·rw [if_pos hy,hy,Bool.true_or,decide_eq_false (by omega)]; rfl
  ·rw [if_neg hy]
   have:=aC7 (l:=l) (k:=k+1) (i:=i) (by omega) (by simpa using h) hq
   have hyf:q y=false:=by simpa using hy
   rw [hyf,Bool.false_or,← this]
   congr 1
   have e:k+1+(i:Int)=k+((i+1:Nat):Int):=by omega
   rw [e]
section
variable {ro:Ro} {h:T Obj} {nx:Nat} {K:KV}
theorem zZ.load {v:Value} {l:List ByteArray} (hv:SlR ro h v 1 zZ l) {i:Nat} (hi:i < l.length):load1 ro h (iT 1 v i)=some (.string l[i])∧l[i].size≤mF:=by
 obtain ⟨w,h1,h2⟩:=hv.at1 hi
 obtain ⟨h3,h4⟩:=h1
 have:w=.string l[i]:=by simpa using h3
 rw [this] at h2
 exact ⟨h2,h4⟩
set_option maxRecDepth 4000 in
theorem aEa {v:Value} {l:List ByteArray} {s:ByteArray} (hlen:l.length≤1000000) (hv:SlR ro h v 1 zZ l) (hK:∀ nx',nx≤nx'→K (.int .i64 (oU (fun t=>decide (s=t)) 0 l)) h nx'):aN Tryz.prog ro gS [v,.string s] h nx K:=by
 apply p7
 unfold iE
 generalize hR:oU (fun t=>decide (s=t)) 0 l=r at hK
 refine aB hv.len ?_
 refine bC (fun j e h' nx'=>∃ (k:Nat),k+j=l.length∧nx≤nx'∧h'=h∧e 0=v∧e 1=.string s∧e 7=.int .i64 l.length∧e 8=.int .i64 k∧oU (fun t=>decide (s=t)) k (l.drop k)=r) ?_ (n:=l.length) ⟨0,by omega,by omega,rfl,rfl,rfl,rfl,rfl,hR⟩
 rintro j e h' nx' ⟨k,hj,hnx,rfl,e0,e1,e7,e8,hr⟩ Q' hq hx
 unfold jW
 rw [e0,e1,e7,e8]
 refine dF (fun hk=>?_) (fun hk=>?_)
 ·have hk:k < l.length:=by omega
  have hix:=hv.ix .i64 hk
  obtain ⟨hld,_⟩:=zZ.load hv hk
  rw [bT hk,mS] at hr
  generalize l[k]=y at hr hld
  have hsb:=aIv s y
  by_cases hc:s=y
  ·rw [decide_eq_true hc] at hsb
   rw [if_pos (decide_eq_true hc)] at hr
   (repeat(first|refine aB (by simp (disch:=first|omega|exact nnN _|assumption) only [BB,B2,↓reduceIte,Nat.reduceLeDiff,Nat.reduceAdd,CC,hix,hld,hsb]<;>rfl) ?_|refine aD ?_|refine aE ?_|with_reducible first|refine aG ?_|refine aF ?_|refine aK ?_|refine aH ?_|refine aJ ?_|refine aI ?_|refine aL ?_|refine aC ?_))
   refine hx _ _ _ _ (fun e=>by cases e) (eL ?_)
   refine ⟨_,Sub.refl _,?_⟩
   show K (.int .i64 (k:Int)) h' _
   rw [hr]; exact hK _ (by omega)
  ·rw [decide_eq_false hc] at hsb
   rw [if_neg (by rw [decide_eq_false hc]; decide)] at hr
   (repeat(first|refine aB (by simp (disch:=first|omega|exact nnN _|assumption) only [BB,B2,↓reduceIte,Nat.reduceLeDiff,Nat.reduceAdd,CC,hix,hld,hsb]<;>rfl) ?_|refine aD ?_|refine aE ?_|with_reducible first|refine aG ?_|refine aF ?_|refine aK ?_|refine aH ?_|refine aJ ?_|refine aI ?_|refine aL ?_|refine aC ?_))
   exact hq (j - 1) _ _ _ _ (by omega) ⟨k+1,by omega,by omega,rfl,e0,e1,e7,rfl,by rw [← hr]; rfl⟩ (Sub.refl _)
 ·rw [List.drop_of_length_le (by omega)] at hr
  (repeat(first|refine aB (by simp (disch:=first|omega|exact nnN _|assumption) only [BB,B2,↓reduceIte,Nat.reduceLeDiff,Nat.reduceAdd,CC]<;>rfl) ?_|refine aD ?_|refine aE ?_|with_reducible first|refine aG ?_|refine aF ?_|refine aK ?_|refine aH ?_|refine aJ ?_|refine aI ?_|refine aL ?_|refine aC ?_))
  refine hx _ _ _ _ (fun e=>by cases e) (eB (dA ?_))
  unfold gN
  refine ⟨_,Sub.refl _,?_⟩
  have hr:(-1:Int)=r:=hr
  rw [hr]; exact hK _ (by omega)
end
end V
end Go.Proofs.YtcaccnneblghgaaGreat
namespace Go.Proofs.YtcaccnneblghgaaGreat
namespace V
attribute [local irreducible] aA ifP aS cM eQ exP cO
theorem rJ:zG={ data:=#[115,116,97,114,116] }:=by decide
theorem rH:(ByteArray.empty:ByteArray)={ data:=#[] }:=rfl
theorem aEA (seen:List ByteArray) (s:ByteArray) (r:List ByteArray):wL seen (s::r)=(jM s&&!(seen.any fun t=>decide (s=t))&&wL (seen++[s]) r):=rfl
section
variable {ro:Ro} {h:T Obj} {nx:Nat} {K:KV}
set_option maxRecDepth 8000 in
theorem aFG {x y:List Value} {T:TabD} {e:EntD} {i1:Nat} (hf:Fr h nx) (g1:h.get i1=some (.cells x.toArray c7)) (hd:aCk ro h x T) (hk:T.kinds.length≤1000000) (he:uF ro h y e)
  (hK:∀ nx',nx≤nx'→K (.bool (!kX T.kinds.length e)) h nx'):aN Tryz.prog ro tM [.agg y.toArray,ptr i1] h nx K:=by
 obtain ⟨cv,kv,tv,ev,rfl,q1,q2,q3,q4,q5,q6,q7,q8⟩:=id hd
 apply aDj
 unfold xX
 refine dY hf (Nat.le_refl _) fun h1 hs1 hf1 g2 _=>?_
 have g2:h1.get nx=some (.cells y.toArray cH):=g2
 have m1:[cv,kv,tv,ev][1]?=some kv:=rfl
 have g1':=hs1 _ _ g1
 have klen:=(q2.sub hs1 fun _ _ h=>h).len
 refine aB (c8 (ro:=ro) (z:=0) (n:=260) (l:=y) g2 he.len) ?_
 (repeat(first|refine aB (by simp (disch:=first|omega|exact nnN _|assumption) only [BB,B2,↓reduceIte,Nat.reduceLeDiff,Nat.reduceAdd,CC]<;>rfl) ?_|refine aD ?_|refine aE ?_|with_reducible first|refine aG ?_|refine aF ?_|refine aK ?_|refine aH ?_|refine aJ ?_|refine aI ?_|refine aL ?_|refine aC ?_))
 refine aB (aZ g1' m1) (aB klen ?_)
 refine aJX hk (hf1.mono (by omega)) (he.sub hs1 |> fun z=>z) fun n2 hn2=>?_
 cases hb:kX T.kinds.length e with
 | true =>
  rw [hb] at hK
  (repeat(first|refine aB (by simp (disch:=first|omega|exact nnN _|assumption) only [BB,B2,↓reduceIte,Nat.reduceLeDiff,Nat.reduceAdd,CC]<;>rfl) ?_|refine aD ?_|refine aE ?_|with_reducible first|refine aG ?_|refine aF ?_|refine aK ?_|refine aH ?_|refine aJ ?_|refine aI ?_|refine aL ?_|refine aC ?_))
  exact ⟨h,hs1,hK _ (by omega)⟩
 | false =>
  rw [hb] at hK
  (repeat(first|refine aB (by simp (disch:=first|omega|exact nnN _|assumption) only [BB,B2,↓reduceIte,Nat.reduceLeDiff,Nat.reduceAdd,CC]<;>rfl) ?_|refine aD ?_|refine aE ?_|with_reducible first|refine aG ?_|refine aF ?_|refine aK ?_|refine aH ?_|refine aJ ?_|refine aI ?_|refine aL ?_|refine aC ?_))
  exact ⟨h,hs1,hK _ (by omega)⟩
set_option maxRecDepth 16000 in
set_option maxHeartbeats 4000000 in
theorem aHs {x:List Value} {T:TabD} (hf:Fr h nx) (hd:aCk ro h x T) (hK:∀ nx',nx≤nx'→K (.bool (fM T)) h nx'):aN Tryz.prog ro xY [.agg x.toArray] h nx K:=by
 obtain ⟨cv,kv,tv,ev,rfl,q1,q2,q3,q4,q5,q6,q7,q8⟩:=id hd
 have q5:T.conds.length≤9223372036854775807:=q5
 have q6:T.kinds.length≤9223372036854775807:=q6
 have q7:T.to.length≤9223372036854775807:=q7
 have q8:T.entries.length≤9223372036854775807:=q8
 apply aG4
 unfold aBq
 refine dY hf (Nat.le_refl _) fun h1 hs1 hf1 g1 _=>?_
 have g1:h1.get nx=some (.cells [cv,kv,tv,ev].toArray c7):=g1
 have l0:=aZ (ro:=ro) (z:=0) g1 (show [cv,kv,tv,ev][0]?=some cv from rfl)
 have l1:=aZ (ro:=ro) (z:=0) g1 (show [cv,kv,tv,ev][1]?=some kv from rfl)
 have l2:=aZ (ro:=ro) (z:=0) g1 (show [cv,kv,tv,ev][2]?=some tv from rfl)
 have l3:=aZ (ro:=ro) (z:=0) g1 (show [cv,kv,tv,ev][3]?=some ev from rfl)
 have q1':=q1.sub hs1 fun _ _ h=>h
 have q2':=q2.sub hs1 fun _ _ h=>h
 have q3':=q3.sub hs1
 have q4':=q4.sub hs1 (uF.sub hs1)
 have hd1:=hd.sub hs1
 have clen:=q1'.len
 have klen:=q2'.len
 have tlen:=q3'.len
 rw [d8] at tlen
 have elen:=q4'.len
 have hno:fM T=false→∀ n',nx≤n'→∃ h9,Sub h9 h1∧K (.bool false) h9 n':=fun hz n' hn=>⟨h,hs1,by rw [← hz]; exact hK _ hn⟩
 by_cases c1:1≤T.conds.length
 case neg =>
  (repeat(first|refine aB (by simp (disch:=first|omega|exact nnN _|assumption) only [BB,B2,↓reduceIte,Nat.reduceLeDiff,Nat.reduceAdd,CC,l0,clen]<;>rfl) ?_|refine aD ?_|refine aE ?_|with_reducible first|refine aG ?_|refine aF ?_|refine aK ?_|refine aH ?_|refine aJ ?_|refine aI ?_|refine aL ?_|refine aC ?_))
  exact hno (by unfold fM; rw [decide_eq_false c1]; rfl) _ (by omega)
 by_cases c2:T.conds.length≤8
 case neg =>
  (repeat(first|refine aB (by simp (disch:=first|omega|exact nnN _|assumption) only [BB,B2,↓reduceIte,Nat.reduceLeDiff,Nat.reduceAdd,CC,l0,clen]<;>rfl) ?_|refine aD ?_|refine aE ?_|with_reducible first|refine aG ?_|refine aF ?_|refine aK ?_|refine aH ?_|refine aJ ?_|refine aI ?_|refine aL ?_|refine aC ?_))
  exact hno (by unfold fM; rw [decide_eq_true c1,decide_eq_false c2]; rfl) _ (by omega)
 have hix0:=q1'.ix .i64 (i:=0) (by omega)
 have hz0:((0:Nat):Int)=0:=rfl
 rw [hz0] at hix0
 obtain ⟨hld0,_⟩:=zZ.load q1' (i:=0) (by omega)
 have hsb:=zI T.conds[0] zG
 have hhd:T.conds.head?=some T.conds[0]:=by rw [List.head?_eq_getElem?,List.getElem?_eq_getElem (by omega)]
 rw [rJ] at hsb
 by_cases c3:T.conds[0]=zG
 case neg =>
  have c3':=c3
  rw [rJ] at c3'
  rw [decide_eq_false c3',Bool.not_false] at hsb
  (repeat(first|refine aB (by simp (disch:=first|omega|exact nnN _|assumption) only [BB,B2,↓reduceIte,Nat.reduceLeDiff,Nat.reduceAdd,CC,l0,clen,hix0,hld0,hsb]<;>rfl) ?_|refine aD ?_|refine aE ?_|with_reducible first|refine aG ?_|refine aF ?_|refine aK ?_|refine aH ?_|refine aJ ?_|refine aI ?_|refine aL ?_|refine aC ?_))
  exact hno (by unfold fM; rw [decide_eq_true c1,decide_eq_true c2,hhd,decide_eq_false (fun e=>c3 (Option.some.inj e))]; rfl) _ (by omega)
 have c3':=c3
 rw [rJ] at c3'
 rw [decide_eq_true c3',Bool.not_true] at hsb
 have hr3:decide (T.conds.head?=some zG)=true:=decide_eq_true (by rw [hhd,c3])
 by_cases c4:T.kinds.length≤64
 case neg =>
  (repeat(first|refine aB (by simp (disch:=first|omega|exact nnN _|assumption) only [BB,B2,↓reduceIte,Nat.reduceLeDiff,Nat.reduceAdd,CC,l0,l1,clen,klen,hix0,hld0,hsb]<;>rfl) ?_|refine aD ?_|refine aE ?_|with_reducible first|refine aG ?_|refine aF ?_|refine aK ?_|refine aH ?_|refine aJ ?_|refine aI ?_|refine aL ?_|refine aC ?_))
  exact hno (by unfold fM; rw [decide_eq_true c1,decide_eq_true c2,hr3,decide_eq_false c4]; rfl) _ (by omega)
 by_cases c5:T.to.length=T.kinds.length
 case neg =>
  (repeat(first|refine aB (by simp (disch:=first|omega|exact nnN _|assumption) only [BB,B2,↓reduceIte,Nat.reduceLeDiff,Nat.reduceAdd,CC,l0,l1,l2,clen,klen,tlen,hix0,hld0,hsb]<;>rfl) ?_|refine aD ?_|refine aE ?_|with_reducible first|refine aG ?_|refine aF ?_|refine aK ?_|refine aH ?_|refine aJ ?_|refine aI ?_|refine aL ?_|refine aC ?_))
  exact hno (by unfold fM; rw [decide_eq_true c1,decide_eq_true c2,hr3,decide_eq_true c4,decide_eq_false c5]; rfl) _ (by omega)
 by_cases c6:T.entries.length=2*T.conds.length
 case neg =>
  (repeat(first|refine aB (by simp (disch:=first|omega|exact nnN _|assumption) only [BB,B2,↓reduceIte,Nat.reduceLeDiff,Nat.reduceAdd,CC,l0,l1,l2,l3,clen,klen,tlen,elen,hix0,hld0,hsb]<;>rfl) ?_|refine aD ?_|refine aE ?_|with_reducible first|refine aG ?_|refine aF ?_|refine aK ?_|refine aH ?_|refine aJ ?_|refine aI ?_|refine aL ?_|refine aC ?_))
  exact hno (by unfold fM; rw [decide_eq_true c1,decide_eq_true c2,hr3,decide_eq_true c4,decide_eq_true c5,decide_eq_false c6]; rfl) _ (by omega)
 have hrt:fM T=(wL [] T.conds&&((List.zip T.kinds T.to).all (fun x=>jC T.conds.length x.1 x.2)&&T.entries.all (kX T.kinds.length))):=by
  unfold fM
  rw [decide_eq_true c1,decide_eq_true c2,hr3,decide_eq_true c4,decide_eq_true c5,decide_eq_true c6]; rfl
 (repeat(first|refine aB (by simp (disch:=first|omega|exact nnN _|assumption) only [BB,B2,↓reduceIte,Nat.reduceLeDiff,Nat.reduceAdd,CC,l0,l1,l2,l3,clen,klen,tlen,elen,hix0,hld0,hsb]<;>rfl) ?_|refine aD ?_|refine aE ?_|with_reducible first|refine aG ?_|refine aF ?_|refine aK ?_|refine aH ?_|refine aJ ?_|refine aI ?_|refine aL ?_|refine aC ?_))
 refine bC (fun j e h' nx'=>∃ (k:Nat),k+j=T.conds.length∧nx+1≤nx'∧h'=h1∧e 1=ptr nx∧e 50=cv∧e 51=.int .i64 T.conds.length∧e 52=.int .i64 k∧wL [] T.conds=wL (T.conds.take k) (T.conds.drop k)) ?_ (n:=T.conds.length)
  ⟨0,by omega,by omega,rfl,rfl,rfl,rfl,rfl,rfl⟩
 rintro j e h' nx' ⟨k,hj,hnx,rfl,e1,e50,e51,e52,hr⟩ Q' hq hx
 unfold aBS
 rw [e1,e50,e51,e52]
 refine dF (fun hk=>?_) (fun hk=>?_)
 ·have hk:k < T.conds.length:=by omega
  have hix:=q1'.ix .i64 hk
  obtain ⟨hld,hsz⟩:=zZ.load q1' hk
  rw [bT hk,aEA] at hr
  have htk:T.conds.take (k+1)=T.conds.take k++[T.conds[k]]:=List.take_succ_eq_append_getElem hk
  have hfi:=aC7 (q:=fun t=>decide (T.conds[k]=t)) (l:=T.conds) (k:=0) (i:=k) (by omega) (List.getElem?_eq_getElem hk) (decide_eq_true rfl)
  rw [← htk] at hr
  generalize T.conds[k]=s at hr hld hsz hfi
  have hsz:s.size≤9223372036854775807:=hsz
  (repeat(first|refine aB (by simp (disch:=first|omega|exact nnN _|assumption) only [BB,B2,↓reduceIte,Nat.reduceLeDiff,Nat.reduceAdd,CC,hix,hld]<;>rfl) ?_|refine aD ?_|refine aE ?_|with_reducible first|refine aG ?_|refine aF ?_|refine aK ?_|refine aH ?_|refine aJ ?_|refine aI ?_|refine aL ?_|refine aC ?_))
  refine aA1 hsz fun n2 hn2=>?_
  cases hnm:jM s with
  | false =>
   rw [hnm] at hr
   (repeat(first|refine aB (by simp (disch:=first|omega|exact nnN _|assumption) only [BB,B2,↓reduceIte,Nat.reduceLeDiff,Nat.reduceAdd,CC]<;>rfl) ?_|refine aD ?_|refine aE ?_|with_reducible first|refine aG ?_|refine aF ?_|refine aK ?_|refine aH ?_|refine aJ ?_|refine aI ?_|refine aL ?_|refine aC ?_))
   refine hx _ _ _ _ (fun e=>by cases e) (eL ?_)
   exact hno (by rw [hrt,hr]; rfl) _ (by omega)
  | true =>
   rw [hnm,Bool.true_and] at hr
   (repeat(first|refine aB (by simp (disch:=first|omega|exact nnN _|assumption) only [BB,B2,↓reduceIte,Nat.reduceLeDiff,Nat.reduceAdd,CC,l0]<;>rfl) ?_|refine aD ?_|refine aE ?_|with_reducible first|refine aG ?_|refine aF ?_|refine aK ?_|refine aH ?_|refine aJ ?_|refine aI ?_|refine aL ?_|refine aC ?_))
   refine aEa (by omega) q1' fun n3 hn3=>?_
   generalize oU (fun t=>decide (s=t)) 0 T.conds=fi at hfi
   cases hct:(T.conds.take k).any (fun t=>decide (s=t)) with
   | true =>
    rw [hct,Bool.not_true] at hfi hr
    have hfi:=of_decide_eq_false hfi
    (repeat(first|refine aB (by simp (disch:=first|omega|exact nnN _|assumption) only [BB,B2,↓reduceIte,Nat.reduceLeDiff,Nat.reduceAdd,CC]<;>rfl) ?_|refine aD ?_|refine aE ?_|with_reducible first|refine aG ?_|refine aF ?_|refine aK ?_|refine aH ?_|refine aJ ?_|refine aI ?_|refine aL ?_|refine aC ?_))
    refine hx _ _ _ _ (fun e=>by cases e) (eL ?_)
    exact hno (by rw [hrt,hr]; rfl) _ (by omega)
   | false =>
    rw [hct,Bool.not_false] at hfi hr
    have hfi:=of_decide_eq_true hfi
    (repeat(first|refine aB (by simp (disch:=first|omega|exact nnN _|assumption) only [BB,B2,↓reduceIte,Nat.reduceLeDiff,Nat.reduceAdd,CC]<;>rfl) ?_|refine aD ?_|refine aE ?_|with_reducible first|refine aG ?_|refine aF ?_|refine aK ?_|refine aH ?_|refine aJ ?_|refine aI ?_|refine aL ?_|refine aC ?_))
    exact hq (j - 1) _ _ _ _ (by omega) ⟨k+1,by omega,by omega,rfl,e1,e50,e51,rfl,hr⟩ (Sub.refl _)
 ·have hr1:wL [] T.conds=true:=by rw [hr,List.drop_of_length_le (by omega)]; rfl
  rw [hr1,Bool.true_and] at hrt
  (repeat(first|refine aB (by simp (disch:=first|omega|exact nnN _|assumption) only [BB,B2,↓reduceIte,Nat.reduceLeDiff,Nat.reduceAdd,CC]<;>rfl) ?_|refine aD ?_|refine aE ?_|with_reducible first|refine aG ?_|refine aF ?_|refine aK ?_|refine aH ?_|refine aJ ?_|refine aI ?_|refine aL ?_|refine aC ?_))
  refine hx _ _ _ _ (fun e=>by cases e) (eB (dA ?_))
  have hj1:∀ (ev1:Env) n',nx+1≤n'→ev1 1=ptr nx→qP ro K ev1 h' n':=by
   intro ev1 n' hn f1
   unfold qP
   rw [f1]
   (repeat(first|refine aB (by simp (disch:=first|omega|exact nnN _|assumption) only [BB,B2,↓reduceIte,Nat.reduceLeDiff,Nat.reduceAdd,CC,l1,klen]<;>rfl) ?_|refine aD ?_|refine aE ?_|with_reducible first|refine aG ?_|refine aF ?_|refine aK ?_|refine aH ?_|refine aJ ?_|refine aI ?_|refine aL ?_|refine aC ?_))
   refine bC (fun j e h2 nx2=>∃ (k:Nat),k+j=T.kinds.length∧nx+1≤nx2∧h2=h'∧e 1=ptr nx∧e 70=kv∧e 71=.int .i64 T.kinds.length∧e 72=.int .i64 k∧(List.zip T.kinds T.to).all (fun x=>jC T.conds.length x.1 x.2)=((List.zip T.kinds T.to).drop k).all (fun x=>jC T.conds.length x.1 x.2)) ?_ (n:=T.kinds.length)
    ⟨0,by omega,by omega,rfl,f1,rfl,rfl,rfl,rfl⟩
   rintro j2 e2 h2 nx2 ⟨k2,hj2,hnx2,rfl,f1,f70,f71,f72,hr2⟩ Q2 hq2 hx2
   unfold aBR
   rw [f1,f70,f71,f72]
   refine dF (fun hk2=>?_) (fun hk2=>?_)
   ·have hk2:k2 < T.kinds.length:=by omega
    have hkt:k2 < T.to.length:=by omega
    have hix:=q2'.ix .i64 hk2
    obtain ⟨hld,hsz⟩:=zZ.load q2' hk2
    have tix:=q3'.ix .i64 (i:=k2) (by rw [d8]; exact hkt)
    have tld:=q3'.load1 (jK (l:=T.to) (i:=k2) hkt)
    have hzl:k2 < (List.zip T.kinds T.to).length:=by rw [List.length_zip]; omega
    rw [bT hzl,List.all_cons,List.getElem_zip] at hr2
    generalize T.kinds[k2]=s at hr2 hld hsz
    generalize T.to[k2]=t at hr2 tld
    have hsz:s.size≤9223372036854775807:=hsz
    have hse:=zI s .empty
    rw [rH] at hse
    have hbad:jC T.conds.length s t=false→∀ n',nx≤n'→∃ h9,Sub h9 h2∧K (.bool false) h9 n':=fun hz n' hn=>hno (by rw [hrt,hr2,hz]; rfl) n' hn
    have hgo:jC T.conds.length s t=true→∀ (e9:Env) n9,nx+1≤n9→e9 1=ptr nx→e9 70=kv→e9 71=.int .i64 T.kinds.length→e9 72=.int .i64 ((k2:Int)+1)→Q2 .normal e9 h2 n9:=by
     intro hz e9 n9 hn9 u1 u70 u71 u72
     rw [hz,Bool.true_and] at hr2
     exact hq2 (j2 - 1) _ _ _ _ (by omega) ⟨k2+1,by omega,by omega,rfl,u1,u70,u71,u72,hr2⟩ (Sub.refl _)
    by_cases hs0:s=.empty
    ·have hs0':=hs0
     rw [rH] at hs0'
     rw [decide_eq_true hs0',Bool.not_true] at hse
     (repeat(first|refine aB (by simp (disch:=first|omega|exact nnN _|assumption) only [BB,B2,↓reduceIte,Nat.reduceLeDiff,Nat.reduceAdd,CC,hix,hld,hse]<;>rfl) ?_|refine aD ?_|refine aE ?_|with_reducible first|refine aG ?_|refine aF ?_|refine aK ?_|refine aH ?_|refine aJ ?_|refine aI ?_|refine aL ?_|refine aC ?_))
     by_cases d1:t < -1
     ·(repeat(first|refine aB (by simp (disch:=first|omega|exact nnN _|assumption) only [BB,B2,↓reduceIte,Nat.reduceLeDiff,Nat.reduceAdd,CC,l2,tix,tld]<;>rfl) ?_|refine aD ?_|refine aE ?_|with_reducible first|refine aG ?_|refine aF ?_|refine aK ?_|refine aH ?_|refine aJ ?_|refine aI ?_|refine aL ?_|refine aC ?_))
      refine hx2 _ _ _ _ (fun e=>by cases e) (eL ?_)
      exact hbad (by unfold jC; rw [decide_eq_false (show ¬-1≤t by omega)]; simp) _ (by omega)
     ·by_cases d2:(T.conds.length:Int)≤t
      ·(repeat(first|refine aB (by simp (disch:=first|omega|exact nnN _|assumption) only [BB,B2,↓reduceIte,Nat.reduceLeDiff,Nat.reduceAdd,CC,l2,tix,tld,l0,clen]<;>rfl) ?_|refine aD ?_|refine aE ?_|with_reducible first|refine aG ?_|refine aF ?_|refine aK ?_|refine aH ?_|refine aJ ?_|refine aI ?_|refine aL ?_|refine aC ?_))
       refine hx2 _ _ _ _ (fun e=>by cases e) (eL ?_)
       exact hbad (by unfold jC; rw [decide_eq_false (show ¬t < (T.conds.length:Int) by omega)]; simp) _ (by omega)
      ·(repeat(first|refine aB (by simp (disch:=first|omega|exact nnN _|assumption) only [BB,B2,↓reduceIte,Nat.reduceLeDiff,Nat.reduceAdd,CC,l2,tix,tld,l0,clen]<;>rfl) ?_|refine aD ?_|refine aE ?_|with_reducible first|refine aG ?_|refine aF ?_|refine aK ?_|refine aH ?_|refine aJ ?_|refine aI ?_|refine aL ?_|refine aC ?_))
       exact hgo (by unfold jC; rw [decide_eq_true hs0,decide_eq_true (show -1≤t by omega),decide_eq_true (show t < (T.conds.length:Int) by omega)]; simp) _ _ (by omega) f1 f70 f71 rfl
    ·have hs0':=hs0
     rw [rH] at hs0'
     rw [decide_eq_false hs0',Bool.not_false] at hse
     (repeat(first|refine aB (by simp (disch:=first|omega|exact nnN _|assumption) only [BB,B2,↓reduceIte,Nat.reduceLeDiff,Nat.reduceAdd,CC,hix,hld,hse]<;>rfl) ?_|refine aD ?_|refine aE ?_|with_reducible first|refine aG ?_|refine aF ?_|refine aK ?_|refine aH ?_|refine aJ ?_|refine aI ?_|refine aL ?_|refine aC ?_))
     refine aA1 hsz fun n2 hn2=>?_
     cases hnm:jM s with
     | false =>
      (repeat(first|refine aB (by simp (disch:=first|omega|exact nnN _|assumption) only [BB,B2,↓reduceIte,Nat.reduceLeDiff,Nat.reduceAdd,CC]<;>rfl) ?_|refine aD ?_|refine aE ?_|with_reducible first|refine aG ?_|refine aF ?_|refine aK ?_|refine aH ?_|refine aJ ?_|refine aI ?_|refine aL ?_|refine aC ?_))
      refine hx2 _ _ _ _ (fun e=>by cases e) (eL ?_)
      exact hbad (by unfold jC; rw [decide_eq_false hs0,hnm]; rfl) _ (by omega)
     | true =>
      (repeat(first|refine aB (by simp (disch:=first|omega|exact nnN _|assumption) only [BB,B2,↓reduceIte,Nat.reduceLeDiff,Nat.reduceAdd,CC]<;>rfl) ?_|refine aD ?_|refine aE ?_|with_reducible first|refine aG ?_|refine aF ?_|refine aK ?_|refine aH ?_|refine aJ ?_|refine aI ?_|refine aL ?_|refine aC ?_))
      by_cases d1:t < -1
      ·(repeat(first|refine aB (by simp (disch:=first|omega|exact nnN _|assumption) only [BB,B2,↓reduceIte,Nat.reduceLeDiff,Nat.reduceAdd,CC,l2,tix,tld]<;>rfl) ?_|refine aD ?_|refine aE ?_|with_reducible first|refine aG ?_|refine aF ?_|refine aK ?_|refine aH ?_|refine aJ ?_|refine aI ?_|refine aL ?_|refine aC ?_))
       refine hx2 _ _ _ _ (fun e=>by cases e) (eL ?_)
       exact hbad (by unfold jC; rw [decide_eq_false (show ¬-1≤t by omega)]; simp) _ (by omega)
      ·by_cases d2:(T.conds.length:Int)≤t
       ·(repeat(first|refine aB (by simp (disch:=first|omega|exact nnN _|assumption) only [BB,B2,↓reduceIte,Nat.reduceLeDiff,Nat.reduceAdd,CC,l2,tix,tld,l0,clen]<;>rfl) ?_|refine aD ?_|refine aE ?_|with_reducible first|refine aG ?_|refine aF ?_|refine aK ?_|refine aH ?_|refine aJ ?_|refine aI ?_|refine aL ?_|refine aC ?_))
        refine hx2 _ _ _ _ (fun e=>by cases e) (eL ?_)
        exact hbad (by unfold jC; rw [decide_eq_false (show ¬t < (T.conds.length:Int) by omega)]; simp) _ (by omega)
       ·(repeat(first|refine aB (by simp (disch:=first|omega|exact nnN _|assumption) only [BB,B2,↓reduceIte,Nat.reduceLeDiff,Nat.reduceAdd,CC,l2,tix,tld,l0,clen]<;>rfl) ?_|refine aD ?_|refine aE ?_|with_reducible first|refine aG ?_|refine aF ?_|refine aK ?_|refine aH ?_|refine aJ ?_|refine aI ?_|refine aL ?_|refine aC ?_))
        exact hgo (by unfold jC; rw [hnm,decide_eq_true (show -1≤t by omega),decide_eq_true (show t < (T.conds.length:Int) by omega)]; simp) _ _ (by omega) f1 f70 f71 rfl
   ·have hall:(List.zip T.kinds T.to).all (fun x=>jC T.conds.length x.1 x.2)=true:=by rw [hr2,List.drop_of_length_le (by rw [List.length_zip]; omega)]; rfl
    rw [hall,Bool.true_and] at hrt
    (repeat(first|refine aB (by simp (disch:=first|omega|exact nnN _|assumption) only [BB,B2,↓reduceIte,Nat.reduceLeDiff,Nat.reduceAdd,CC]<;>rfl) ?_|refine aD ?_|refine aE ?_|with_reducible first|refine aG ?_|refine aF ?_|refine aK ?_|refine aH ?_|refine aJ ?_|refine aI ?_|refine aL ?_|refine aC ?_))
    refine hx2 _ _ _ _ (fun e=>by cases e) (eB (dA ?_))
    have hj2:∀ (ev2:Env) n',nx+1≤n'→ev2 1=ptr nx→qQ ro K ev2 h2 n':=by
     intro ev2 n' hn f1
     unfold qQ
     rw [f1]
     (repeat(first|refine aB (by simp (disch:=first|omega|exact nnN _|assumption) only [BB,B2,↓reduceIte,Nat.reduceLeDiff,Nat.reduceAdd,CC]<;>rfl) ?_|refine aD ?_|refine aE ?_|with_reducible first|refine aG ?_|refine aF ?_|refine aK ?_|refine aH ?_|refine aJ ?_|refine aI ?_|refine aL ?_|refine aC ?_))
     refine aB l3 ?_
     refine xM (q:=fun e=>!kX T.kinds.length e) (by omega) q4' (fun i hi y n9 K9 hy hn9 hk9=>?_) fun n9 hn9=>?_
     ·exact aFG (hf1.mono (by omega)) g1 hd1 (by omega) hy hk9
     ·have ha:=aGL (kX T.kinds.length) T.entries
      rw [hrt,← ha] at hK
      (repeat(first|refine aB (by simp (disch:=first|omega|exact nnN _|assumption) only [BB,B2,↓reduceIte,Nat.reduceLeDiff,Nat.reduceAdd,CC]<;>rfl) ?_|refine aD ?_|refine aE ?_|with_reducible first|refine aG ?_|refine aF ?_|refine aK ?_|refine aH ?_|refine aJ ?_|refine aI ?_|refine aL ?_|refine aC ?_))
      exact ⟨h,hs1,hK _ (by omega)⟩
    exact hj2 _ _ (by omega) f1
  exact hj1 _ _ (by omega) e1
end
end V
end Go.Proofs.YtcaccnneblghgaaGreat
namespace Go.Proofs.YtcaccnneblghgaaGreat
namespace V
attribute [local irreducible] aA ifP aS cM eQ exP cO
section
variable {ro:Ro} {h:T Obj} {nx:Nat} {K:KV}
set_option maxRecDepth 16000 in
set_option maxHeartbeats 4000000 in
theorem aF0 {x:List Value} {T:TabD} (hf:Fr h nx) (hd:aCk ro h x T) (hK:∀ nx',nx≤nx'→K (.bool (fM T)) h nx'):aN Tryz.prog ro tT [.agg x.toArray] h nx K:=by
 obtain ⟨cv,kv,tv,ev,rfl,q1,q2,q3,q4,q5,q6,q7,q8⟩:=id hd
 have q5:T.conds.length≤9223372036854775807:=q5
 have q6:T.kinds.length≤9223372036854775807:=q6
 have q7:T.to.length≤9223372036854775807:=q7
 have q8:T.entries.length≤9223372036854775807:=q8
 apply aEY
 unfold yS
 refine dY hf (Nat.le_refl _) fun h1 hs1 hf1 g1 _=>?_
 have g1:h1.get nx=some (.cells [cv,kv,tv,ev].toArray c7):=g1
 have l0:=aZ (ro:=ro) (z:=0) g1 (show [cv,kv,tv,ev][0]?=some cv from rfl)
 have l1:=aZ (ro:=ro) (z:=0) g1 (show [cv,kv,tv,ev][1]?=some kv from rfl)
 have l2:=aZ (ro:=ro) (z:=0) g1 (show [cv,kv,tv,ev][2]?=some tv from rfl)
 have l3:=aZ (ro:=ro) (z:=0) g1 (show [cv,kv,tv,ev][3]?=some ev from rfl)
 have q1':=q1.sub hs1 fun _ _ h=>h
 have q2':=q2.sub hs1 fun _ _ h=>h
 have q3':=q3.sub hs1
 have q4':=q4.sub hs1 (uF.sub hs1)
 have hd1:=hd.sub hs1
 have clen:=q1'.len
 have klen:=q2'.len
 have tlen:=q3'.len
 rw [d8] at tlen
 have elen:=q4'.len
 have hno:fM T=false→∀ n',nx≤n'→∃ h9,Sub h9 h1∧K (.bool false) h9 n':=fun hz n' hn=>⟨h,hs1,by rw [← hz]; exact hK _ hn⟩
 by_cases c1:1≤T.conds.length
 case neg =>
  (repeat(first|refine aB (by simp (disch:=first|omega|exact nnN _|assumption) only [BB,B2,↓reduceIte,Nat.reduceLeDiff,Nat.reduceAdd,CC,l0,clen]<;>rfl) ?_|refine aD ?_|refine aE ?_|with_reducible first|refine aG ?_|refine aF ?_|refine aK ?_|refine aH ?_|refine aJ ?_|refine aI ?_|refine aL ?_|refine aC ?_))
  exact hno (by unfold fM; rw [decide_eq_false c1]; rfl) _ (by omega)
 by_cases c2:T.conds.length≤8
 case neg =>
  (repeat(first|refine aB (by simp (disch:=first|omega|exact nnN _|assumption) only [BB,B2,↓reduceIte,Nat.reduceLeDiff,Nat.reduceAdd,CC,l0,clen]<;>rfl) ?_|refine aD ?_|refine aE ?_|with_reducible first|refine aG ?_|refine aF ?_|refine aK ?_|refine aH ?_|refine aJ ?_|refine aI ?_|refine aL ?_|refine aC ?_))
  exact hno (by unfold fM; rw [decide_eq_true c1,decide_eq_false c2]; rfl) _ (by omega)
 have hix0:=q1'.ix .i64 (i:=0) (by omega)
 have hz0:((0:Nat):Int)=0:=rfl
 rw [hz0] at hix0
 obtain ⟨hld0,_⟩:=zZ.load q1' (i:=0) (by omega)
 have hsb:=zI T.conds[0] zG
 have hhd:T.conds.head?=some T.conds[0]:=by rw [List.head?_eq_getElem?,List.getElem?_eq_getElem (by omega)]
 rw [rJ] at hsb
 by_cases c3:T.conds[0]=zG
 case neg =>
  have c3':=c3
  rw [rJ] at c3'
  rw [decide_eq_false c3',Bool.not_false] at hsb
  (repeat(first|refine aB (by simp (disch:=first|omega|exact nnN _|assumption) only [BB,B2,↓reduceIte,Nat.reduceLeDiff,Nat.reduceAdd,CC,l0,clen,hix0,hld0,hsb]<;>rfl) ?_|refine aD ?_|refine aE ?_|with_reducible first|refine aG ?_|refine aF ?_|refine aK ?_|refine aH ?_|refine aJ ?_|refine aI ?_|refine aL ?_|refine aC ?_))
  exact hno (by unfold fM; rw [decide_eq_true c1,decide_eq_true c2,hhd,decide_eq_false (fun e=>c3 (Option.some.inj e))]; rfl) _ (by omega)
 have c3':=c3
 rw [rJ] at c3'
 rw [decide_eq_true c3',Bool.not_true] at hsb
 have hr3:decide (T.conds.head?=some zG)=true:=decide_eq_true (by rw [hhd,c3])
 by_cases c4:T.kinds.length≤64
 case neg =>
  (repeat(first|refine aB (by simp (disch:=first|omega|exact nnN _|assumption) only [BB,B2,↓reduceIte,Nat.reduceLeDiff,Nat.reduceAdd,CC,l0,l1,clen,klen,hix0,hld0,hsb]<;>rfl) ?_|refine aD ?_|refine aE ?_|with_reducible first|refine aG ?_|refine aF ?_|refine aK ?_|refine aH ?_|refine aJ ?_|refine aI ?_|refine aL ?_|refine aC ?_))
  exact hno (by unfold fM; rw [decide_eq_true c1,decide_eq_true c2,hr3,decide_eq_false c4]; rfl) _ (by omega)
 by_cases c5:T.to.length=T.kinds.length
 case neg =>
  (repeat(first|refine aB (by simp (disch:=first|omega|exact nnN _|assumption) only [BB,B2,↓reduceIte,Nat.reduceLeDiff,Nat.reduceAdd,CC,l0,l1,l2,clen,klen,tlen,hix0,hld0,hsb]<;>rfl) ?_|refine aD ?_|refine aE ?_|with_reducible first|refine aG ?_|refine aF ?_|refine aK ?_|refine aH ?_|refine aJ ?_|refine aI ?_|refine aL ?_|refine aC ?_))
  exact hno (by unfold fM; rw [decide_eq_true c1,decide_eq_true c2,hr3,decide_eq_true c4,decide_eq_false c5]; rfl) _ (by omega)
 by_cases c6:T.entries.length=2*T.conds.length
 case neg =>
  (repeat(first|refine aB (by simp (disch:=first|omega|exact nnN _|assumption) only [BB,B2,↓reduceIte,Nat.reduceLeDiff,Nat.reduceAdd,CC,l0,l1,l2,l3,clen,klen,tlen,elen,hix0,hld0,hsb]<;>rfl) ?_|refine aD ?_|refine aE ?_|with_reducible first|refine aG ?_|refine aF ?_|refine aK ?_|refine aH ?_|refine aJ ?_|refine aI ?_|refine aL ?_|refine aC ?_))
  exact hno (by unfold fM; rw [decide_eq_true c1,decide_eq_true c2,hr3,decide_eq_true c4,decide_eq_true c5,decide_eq_false c6]; rfl) _ (by omega)
 have hrt:fM T=(wL [] T.conds&&((List.zip T.kinds T.to).all (fun x=>jC T.conds.length x.1 x.2)&&T.entries.all (kX T.kinds.length))):=by
  unfold fM
  rw [decide_eq_true c1,decide_eq_true c2,hr3,decide_eq_true c4,decide_eq_true c5,decide_eq_true c6]; rfl
 (repeat(first|refine aB (by simp (disch:=first|omega|exact nnN _|assumption) only [BB,B2,↓reduceIte,Nat.reduceLeDiff,Nat.reduceAdd,CC,l0,l1,l2,l3,clen,klen,tlen,elen,hix0,hld0,hsb]<;>rfl) ?_|refine aD ?_|refine aE ?_|with_reducible first|refine aG ?_|refine aF ?_|refine aK ?_|refine aH ?_|refine aJ ?_|refine aI ?_|refine aL ?_|refine aC ?_))
 refine bC (fun j e h' nx'=>∃ (k:Nat),k+j=T.conds.length∧nx+1≤nx'∧h'=h1∧e 1=ptr nx∧e 3=.int .i64 k∧wL [] T.conds=wL (T.conds.take k) (T.conds.drop k)) ?_ (n:=T.conds.length)
  ⟨0,by omega,by omega,rfl,rfl,rfl,rfl⟩
 rintro j e h' nx' ⟨k,hj,hnx,rfl,e1,e3,hr⟩ Q' hq hx
 unfold yV
 rw [e1,e3]
 (repeat(first|refine aB (by simp (disch:=first|omega|exact nnN _|assumption) only [BB,B2,↓reduceIte,Nat.reduceLeDiff,Nat.reduceAdd,CC,l0,clen]<;>rfl) ?_|refine aD ?_|refine aE ?_|with_reducible first|refine aG ?_|refine aF ?_|refine aK ?_|refine aH ?_|refine aJ ?_|refine aI ?_|refine aL ?_|refine aC ?_))
 refine dF (fun hk=>?_) (fun hk=>?_)
 ·have hk:k < T.conds.length:=by omega
  have hix:=q1'.ix .i64 hk
  obtain ⟨hld,hsz⟩:=zZ.load q1' hk
  rw [bT hk,aEA] at hr
  have htk:T.conds.take (k+1)=T.conds.take k++[T.conds[k]]:=List.take_succ_eq_append_getElem hk
  rw [← htk] at hr
  generalize hsk:T.conds[k]=s at hr hld hsz
  have hsz:s.size≤9223372036854775807:=hsz
  (repeat(first|refine aB (by simp (disch:=first|omega|exact nnN _|assumption) only [BB,B2,↓reduceIte,Nat.reduceLeDiff,Nat.reduceAdd,CC,l0,hix,hld]<;>rfl) ?_|refine aD ?_|refine aE ?_|with_reducible first|refine aG ?_|refine aF ?_|refine aK ?_|refine aH ?_|refine aJ ?_|refine aI ?_|refine aL ?_|refine aC ?_))
  refine aBa hsz fun n2 hn2=>?_
  cases hnm:jM s with
  | false =>
   rw [hnm] at hr
   (repeat(first|refine aB (by simp (disch:=first|omega|exact nnN _|assumption) only [BB,B2,↓reduceIte,Nat.reduceLeDiff,Nat.reduceAdd,CC]<;>rfl) ?_|refine aD ?_|refine aE ?_|with_reducible first|refine aG ?_|refine aF ?_|refine aK ?_|refine aH ?_|refine aJ ?_|refine aI ?_|refine aL ?_|refine aC ?_))
   refine hx _ _ _ _ (fun e=>by cases e) (eL ?_)
   exact hno (by rw [hrt,hr]; rfl) _ (by omega)
  | true =>
   rw [hnm,Bool.true_and] at hr
   (repeat(first|refine aB (by simp (disch:=first|omega|exact nnN _|assumption) only [BB,B2,↓reduceIte,Nat.reduceLeDiff,Nat.reduceAdd,CC]<;>rfl) ?_|refine aD ?_|refine aE ?_|with_reducible first|refine aG ?_|refine aF ?_|refine aK ?_|refine aH ?_|refine aJ ?_|refine aI ?_|refine aL ?_|refine aC ?_))
   generalize hBq:(T.conds.take k).any (fun t=>decide (s=t))=Bq at hr
   refine bC (fun j3 e9 h3 nx3=>∃ (m:Nat),m+j3=k∧nx+1≤nx3∧h3=h'∧e9 1=ptr nx∧e9 3=.int .i64 k∧e9 4=.int .i64 m∧((T.conds.take k).drop m).any (fun t=>decide (s=t))=Bq) ?_ (n:=k)
    ⟨0,by omega,by omega,rfl,e1,e3,rfl,hBq⟩
   rintro j3 e9 h3 nx3 ⟨m,hj3,hnx3,rfl,f1,f3,f4,hr3⟩ Q3 hq3 hx3
   unfold yW
   rw [f1,f3,f4]
   refine dF (fun hm=>?_) (fun hm=>?_)
   ·have hm:m < k:=by omega
    have hmc:m < T.conds.length:=by omega
    have hixm:=q1'.ix .i64 hmc
    obtain ⟨hldm,_⟩:=zZ.load q1' hmc
    have hmt:m < (T.conds.take k).length:=by rw [List.length_take]; omega
    rw [bT hmt,List.any_cons,List.getElem_take] at hr3
    generalize T.conds[m]=t at hr3 hldm
    have hse:=aIv t s
    by_cases hts:s=t
    ·rw [decide_eq_true hts,Bool.true_or] at hr3
     rw [decide_eq_true hts.symm] at hse
     (repeat(first|refine aB (by simp (disch:=first|omega|exact nnN _|assumption) only [BB,B2,↓reduceIte,Nat.reduceLeDiff,Nat.reduceAdd,CC,l0,hix,hld,hixm,hldm,hse]<;>rfl) ?_|refine aD ?_|refine aE ?_|with_reducible first|refine aG ?_|refine aF ?_|refine aK ?_|refine aH ?_|refine aJ ?_|refine aI ?_|refine aL ?_|refine aC ?_))
     refine hx3 _ _ _ _ (fun e=>by cases e) (eL ?_)
     refine hx _ _ _ _ (fun e=>by cases e) (eL ?_)
     exact hno (by rw [hrt,hr,← hr3]; rfl) _ (by omega)
    ·rw [decide_eq_false hts,Bool.false_or] at hr3
     rw [decide_eq_false (fun e=>hts e.symm)] at hse
     (repeat(first|refine aB (by simp (disch:=first|omega|exact nnN _|assumption) only [BB,B2,↓reduceIte,Nat.reduceLeDiff,Nat.reduceAdd,CC,l0,hix,hld,hixm,hldm,hse]<;>rfl) ?_|refine aD ?_|refine aE ?_|with_reducible first|refine aG ?_|refine aF ?_|refine aK ?_|refine aH ?_|refine aJ ?_|refine aI ?_|refine aL ?_|refine aC ?_))
     exact hq3 (j3 - 1) _ _ _ _ (by omega) ⟨m+1,by omega,by omega,rfl,f1,f3,rfl,hr3⟩ (Sub.refl _)
   ·have hb:Bq=false:=by rw [← hr3,List.drop_of_length_le (by rw [List.length_take]; omega)]; rfl
    rw [hb,Bool.not_false,Bool.true_and] at hr
    (repeat(first|refine aB (by simp (disch:=first|omega|exact nnN _|assumption) only [BB,B2,↓reduceIte,Nat.reduceLeDiff,Nat.reduceAdd,CC]<;>rfl) ?_|refine aD ?_|refine aE ?_|with_reducible first|refine aG ?_|refine aF ?_|refine aK ?_|refine aH ?_|refine aJ ?_|refine aI ?_|refine aL ?_|refine aC ?_))
    refine hx3 _ _ _ _ (fun e=>by cases e) (eB (dA ?_))
    have hj4:∀ (e9:Env) n9,nx+1≤n9→e9 1=ptr nx→e9 3=.int .i64 k→lF ro Q' e9 h3 n9:=by
     intro e9 n9 hn9 f1 f3
     unfold lF
     rw [f3]
     (repeat(first|refine aB (by simp (disch:=first|omega|exact nnN _|assumption) only [BB,B2,↓reduceIte,Nat.reduceLeDiff,Nat.reduceAdd,CC]<;>rfl) ?_|refine aD ?_|refine aE ?_|with_reducible first|refine aG ?_|refine aF ?_|refine aK ?_|refine aH ?_|refine aJ ?_|refine aI ?_|refine aL ?_|refine aC ?_))
     exact hq (j - 1) _ _ _ _ (by omega) ⟨k+1,by omega,by omega,rfl,f1,rfl,hr⟩ (Sub.refl _)
    exact hj4 _ _ (by omega) f1 f3
 ·have hr1:wL [] T.conds=true:=by rw [hr,List.drop_of_length_le (by omega)]; rfl
  rw [hr1,Bool.true_and] at hrt
  (repeat(first|refine aB (by simp (disch:=first|omega|exact nnN _|assumption) only [BB,B2,↓reduceIte,Nat.reduceLeDiff,Nat.reduceAdd,CC]<;>rfl) ?_|refine aD ?_|refine aE ?_|with_reducible first|refine aG ?_|refine aF ?_|refine aK ?_|refine aH ?_|refine aJ ?_|refine aI ?_|refine aL ?_|refine aC ?_))
  refine hx _ _ _ _ (fun e=>by cases e) (eB (dA ?_))
  have hj1:∀ (ev1:Env) n',nx+1≤n'→ev1 1=ptr nx→oA ro K ev1 h' n':=by
   intro ev1 n' hn f1
   unfold oA
   refine bC (fun j e h2 nx2=>∃ (k:Nat),k+j=T.kinds.length∧nx+1≤nx2∧h2=h'∧e 1=ptr nx∧e 5=.int .i64 k∧(List.zip T.kinds T.to).all (fun x=>jC T.conds.length x.1 x.2)=((List.zip T.kinds T.to).drop k).all (fun x=>jC T.conds.length x.1 x.2)) ?_ (n:=T.kinds.length)
    ⟨0,by omega,by omega,rfl,f1,rfl,rfl⟩
   rintro j2 e2 h2 nx2 ⟨k2,hj2,hnx2,rfl,f1,f5,hr2⟩ Q2 hq2 hx2
   unfold yU
   rw [f1,f5]
   (repeat(first|refine aB (by simp (disch:=first|omega|exact nnN _|assumption) only [BB,B2,↓reduceIte,Nat.reduceLeDiff,Nat.reduceAdd,CC,l1,klen]<;>rfl) ?_|refine aD ?_|refine aE ?_|with_reducible first|refine aG ?_|refine aF ?_|refine aK ?_|refine aH ?_|refine aJ ?_|refine aI ?_|refine aL ?_|refine aC ?_))
   refine dF (fun hk2=>?_) (fun hk2=>?_)
   ·have hk2:k2 < T.kinds.length:=by omega
    have hkt:k2 < T.to.length:=by omega
    have hix:=q2'.ix .i64 hk2
    obtain ⟨hld,hsz⟩:=zZ.load q2' hk2
    have tix:=q3'.ix .i64 (i:=k2) (by rw [d8]; exact hkt)
    have tld:=q3'.load1 (jK (l:=T.to) (i:=k2) hkt)
    have hzl:k2 < (List.zip T.kinds T.to).length:=by rw [List.length_zip]; omega
    rw [bT hzl,List.all_cons,List.getElem_zip] at hr2
    generalize T.kinds[k2]=s at hr2 hld hsz
    generalize T.to[k2]=t at hr2 tld
    have hsz:s.size≤9223372036854775807:=hsz
    have hse:=zI s .empty
    rw [rH] at hse
    have hbad:jC T.conds.length s t=false→∀ n',nx≤n'→∃ h9,Sub h9 h2∧K (.bool false) h9 n':=fun hz n' hn=>hno (by rw [hrt,hr2,hz]; rfl) n' hn
    have hgo:jC T.conds.length s t=true→∀ (e9:Env) n9,nx+1≤n9→e9 1=ptr nx→e9 5=.int .i64 ((k2:Int)+1)→Q2 .normal e9 h2 n9:=by
     intro hz e9 n9 hn9 u1 u72
     rw [hz,Bool.true_and] at hr2
     exact hq2 (j2 - 1) _ _ _ _ (by omega) ⟨k2+1,by omega,by omega,rfl,u1,u72,hr2⟩ (Sub.refl _)
    by_cases hs0:s=.empty
    ·have hs0':=hs0
     rw [rH] at hs0'
     rw [decide_eq_true hs0',Bool.not_true] at hse
     (repeat(first|refine aB (by simp (disch:=first|omega|exact nnN _|assumption) only [BB,B2,↓reduceIte,Nat.reduceLeDiff,Nat.reduceAdd,CC,l1,hix,hld,hse]<;>rfl) ?_|refine aD ?_|refine aE ?_|with_reducible first|refine aG ?_|refine aF ?_|refine aK ?_|refine aH ?_|refine aJ ?_|refine aI ?_|refine aL ?_|refine aC ?_))
     by_cases d1:t < -1
     ·(repeat(first|refine aB (by simp (disch:=first|omega|exact nnN _|assumption) only [BB,B2,↓reduceIte,Nat.reduceLeDiff,Nat.reduceAdd,CC,l2,tix,tld]<;>rfl) ?_|refine aD ?_|refine aE ?_|with_reducible first|refine aG ?_|refine aF ?_|refine aK ?_|refine aH ?_|refine aJ ?_|refine aI ?_|refine aL ?_|refine aC ?_))
      refine hx2 _ _ _ _ (fun e=>by cases e) (eL ?_)
      exact hbad (by unfold jC; rw [decide_eq_false (show ¬-1≤t by omega)]; simp) _ (by omega)
     ·by_cases d2:(T.conds.length:Int)≤t
      ·(repeat(first|refine aB (by simp (disch:=first|omega|exact nnN _|assumption) only [BB,B2,↓reduceIte,Nat.reduceLeDiff,Nat.reduceAdd,CC,l2,tix,tld,l0,clen]<;>rfl) ?_|refine aD ?_|refine aE ?_|with_reducible first|refine aG ?_|refine aF ?_|refine aK ?_|refine aH ?_|refine aJ ?_|refine aI ?_|refine aL ?_|refine aC ?_))
       refine hx2 _ _ _ _ (fun e=>by cases e) (eL ?_)
       exact hbad (by unfold jC; rw [decide_eq_false (show ¬t < (T.conds.length:Int) by omega)]; simp) _ (by omega)
      ·(repeat(first|refine aB (by simp (disch:=first|omega|exact nnN _|assumption) only [BB,B2,↓reduceIte,Nat.reduceLeDiff,Nat.reduceAdd,CC,l2,tix,tld,l0,clen]<;>rfl) ?_|refine aD ?_|refine aE ?_|with_reducible first|refine aG ?_|refine aF ?_|refine aK ?_|refine aH ?_|refine aJ ?_|refine aI ?_|refine aL ?_|refine aC ?_))
       exact hgo (by unfold jC; rw [decide_eq_true hs0,decide_eq_true (show -1≤t by omega),decide_eq_true (show t < (T.conds.length:Int) by omega)]; simp) _ _ (by omega) f1 rfl
    ·have hs0':=hs0
     rw [rH] at hs0'
     rw [decide_eq_false hs0',Bool.not_false] at hse
     (repeat(first|refine aB (by simp (disch:=first|omega|exact nnN _|assumption) only [BB,B2,↓reduceIte,Nat.reduceLeDiff,Nat.reduceAdd,CC,l1,hix,hld,hse]<;>rfl) ?_|refine aD ?_|refine aE ?_|with_reducible first|refine aG ?_|refine aF ?_|refine aK ?_|refine aH ?_|refine aJ ?_|refine aI ?_|refine aL ?_|refine aC ?_))
     refine aBa hsz fun n2 hn2=>?_
     cases hnm:jM s with
     | false =>
      (repeat(first|refine aB (by simp (disch:=first|omega|exact nnN _|assumption) only [BB,B2,↓reduceIte,Nat.reduceLeDiff,Nat.reduceAdd,CC]<;>rfl) ?_|refine aD ?_|refine aE ?_|with_reducible first|refine aG ?_|refine aF ?_|refine aK ?_|refine aH ?_|refine aJ ?_|refine aI ?_|refine aL ?_|refine aC ?_))
      refine hx2 _ _ _ _ (fun e=>by cases e) (eL ?_)
      exact hbad (by unfold jC; rw [decide_eq_false hs0,hnm]; rfl) _ (by omega)
     | true =>
      (repeat(first|refine aB (by simp (disch:=first|omega|exact nnN _|assumption) only [BB,B2,↓reduceIte,Nat.reduceLeDiff,Nat.reduceAdd,CC]<;>rfl) ?_|refine aD ?_|refine aE ?_|with_reducible first|refine aG ?_|refine aF ?_|refine aK ?_|refine aH ?_|refine aJ ?_|refine aI ?_|refine aL ?_|refine aC ?_))
      by_cases d1:t < -1
      ·(repeat(first|refine aB (by simp (disch:=first|omega|exact nnN _|assumption) only [BB,B2,↓reduceIte,Nat.reduceLeDiff,Nat.reduceAdd,CC,l2,tix,tld]<;>rfl) ?_|refine aD ?_|refine aE ?_|with_reducible first|refine aG ?_|refine aF ?_|refine aK ?_|refine aH ?_|refine aJ ?_|refine aI ?_|refine aL ?_|refine aC ?_))
       refine hx2 _ _ _ _ (fun e=>by cases e) (eL ?_)
       exact hbad (by unfold jC; rw [decide_eq_false (show ¬-1≤t by omega)]; simp) _ (by omega)
      ·by_cases d2:(T.conds.length:Int)≤t
       ·(repeat(first|refine aB (by simp (disch:=first|omega|exact nnN _|assumption) only [BB,B2,↓reduceIte,Nat.reduceLeDiff,Nat.reduceAdd,CC,l2,tix,tld,l0,clen]<;>rfl) ?_|refine aD ?_|refine aE ?_|with_reducible first|refine aG ?_|refine aF ?_|refine aK ?_|refine aH ?_|refine aJ ?_|refine aI ?_|refine aL ?_|refine aC ?_))
        refine hx2 _ _ _ _ (fun e=>by cases e) (eL ?_)
        exact hbad (by unfold jC; rw [decide_eq_false (show ¬t < (T.conds.length:Int) by omega)]; simp) _ (by omega)
       ·(repeat(first|refine aB (by simp (disch:=first|omega|exact nnN _|assumption) only [BB,B2,↓reduceIte,Nat.reduceLeDiff,Nat.reduceAdd,CC,l2,tix,tld,l0,clen]<;>rfl) ?_|refine aD ?_|refine aE ?_|with_reducible first|refine aG ?_|refine aF ?_|refine aK ?_|refine aH ?_|refine aJ ?_|refine aI ?_|refine aL ?_|refine aC ?_))
        exact hgo (by unfold jC; rw [hnm,decide_eq_true (show -1≤t by omega),decide_eq_true (show t < (T.conds.length:Int) by omega)]; simp) _ _ (by omega) f1 rfl
   ·have hall:(List.zip T.kinds T.to).all (fun x=>jC T.conds.length x.1 x.2)=true:=by rw [hr2,List.drop_of_length_le (by rw [List.length_zip]; omega)]; rfl
    rw [hall,Bool.true_and] at hrt
    (repeat(first|refine aB (by simp (disch:=first|omega|exact nnN _|assumption) only [BB,B2,↓reduceIte,Nat.reduceLeDiff,Nat.reduceAdd,CC]<;>rfl) ?_|refine aD ?_|refine aE ?_|with_reducible first|refine aG ?_|refine aF ?_|refine aK ?_|refine aH ?_|refine aJ ?_|refine aI ?_|refine aL ?_|refine aC ?_))
    refine hx2 _ _ _ _ (fun e=>by cases e) (eB (dA ?_))
    have hj2:∀ (ev2:Env) n',nx+1≤n'→ev2 1=ptr nx→oB ro K ev2 h2 n':=by
     intro ev2 n' hn f1
     unfold oB
     refine bC (fun j e h4 nx4=>∃ (k:Nat),k+j=T.entries.length∧nx+1≤nx4∧h4=h2∧e 1=ptr nx∧e 6=.int .i64 k∧T.entries.all (kX T.kinds.length)=(T.entries.drop k).all (kX T.kinds.length)) ?_ (n:=T.entries.length)
      ⟨0,by omega,by omega,rfl,f1,rfl,rfl⟩
     rintro j4 e4 h4 nx4 ⟨k4,hj4,hnx4,rfl,f1,f6,hr4⟩ Q4 hq4 hx4
     unfold yT
     rw [f1,f6]
     (repeat(first|refine aB (by simp (disch:=first|omega|exact nnN _|assumption) only [BB,B2,↓reduceIte,Nat.reduceLeDiff,Nat.reduceAdd,CC]<;>rfl) ?_|refine aD ?_|refine aE ?_|with_reducible first|refine aG ?_|refine aF ?_|refine aK ?_|refine aH ?_|refine aJ ?_|refine aI ?_|refine aL ?_|refine aC ?_))
     refine aB l3 (aB elen ?_)
     refine dF (fun hk4=>?_) (fun hk4=>?_)
     ·have hk4:k4 < T.entries.length:=by omega
      have eix:=q4'.ix .i64 hk4
      obtain ⟨y,hy1,hy2,hy3,hy4,hy5⟩:=q4'.at hk4
      rw [bT hk4,List.all_cons] at hr4
      generalize T.entries[k4]=ee at hr4 hy1
      (repeat(first|refine aB (by simp (disch:=first|omega|exact nnN _|assumption) only [BB,B2,↓reduceIte,Nat.reduceLeDiff,Nat.reduceAdd,CC,l3,eix,hy3,l1,klen]<;>rfl) ?_|refine aD ?_|refine aE ?_|with_reducible first|refine aG ?_|refine aF ?_|refine aK ?_|refine aH ?_|refine aJ ?_|refine aI ?_|refine aL ?_|refine aC ?_))
      refine aHC (by omega) (hf1.mono (by omega)) hy1 fun n5 hn5=>?_
      cases hft:kX T.kinds.length ee with
      | false =>
       rw [hft] at hr4
       (repeat(first|refine aB (by simp (disch:=first|omega|exact nnN _|assumption) only [BB,B2,↓reduceIte,Nat.reduceLeDiff,Nat.reduceAdd,CC]<;>rfl) ?_|refine aD ?_|refine aE ?_|with_reducible first|refine aG ?_|refine aF ?_|refine aK ?_|refine aH ?_|refine aJ ?_|refine aI ?_|refine aL ?_|refine aC ?_))
       refine hx4 _ _ _ _ (fun e=>by cases e) (eL ?_)
       exact hno (by rw [hrt,hr4]; rfl) _ (by omega)
      | true =>
       rw [hft,Bool.true_and] at hr4
       (repeat(first|refine aB (by simp (disch:=first|omega|exact nnN _|assumption) only [BB,B2,↓reduceIte,Nat.reduceLeDiff,Nat.reduceAdd,CC]<;>rfl) ?_|refine aD ?_|refine aE ?_|with_reducible first|refine aG ?_|refine aF ?_|refine aK ?_|refine aH ?_|refine aJ ?_|refine aI ?_|refine aL ?_|refine aC ?_))
       exact hq4 (j4 - 1) _ _ _ _ (by omega) ⟨k4+1,by omega,by omega,rfl,f1,rfl,hr4⟩ (Sub.refl _)
     ·have hb:fM T=true:=by rw [hrt,hr4,List.drop_of_length_le (by omega)]; rfl
      (repeat(first|refine aB (by simp (disch:=first|omega|exact nnN _|assumption) only [BB,B2,↓reduceIte,Nat.reduceLeDiff,Nat.reduceAdd,CC]<;>rfl) ?_|refine aD ?_|refine aE ?_|with_reducible first|refine aG ?_|refine aF ?_|refine aK ?_|refine aH ?_|refine aJ ?_|refine aI ?_|refine aL ?_|refine aC ?_))
      refine hx4 _ _ _ _ (fun e=>by cases e) (eB (dA ?_))
      have hj3:∀ (e9:Env) n9,nx≤n9→oC ro K e9 h4 n9:=by
       intro e9 n9 hn9
       unfold oC
       refine ⟨h,hs1,?_⟩
       rw [← hb]; exact hK _ (by omega)
      exact hj3 _ _ (by omega)
    exact hj2 _ _ (by omega) f1
  exact hj1 _ _ (by omega) e1
end
end V
end Go.Proofs.YtcaccnneblghgaaGreat
namespace Go.Proofs.YtcaccnneblghgaaGreat
namespace V
attribute [local irreducible] aA ifP aS cM eQ exP cO
def NI (RR:RgP) (tm tp te:TypeId) (hC:T Obj) (nC p:Nat) (c:List Nat) (many:Int) (cv sv:Value) (C:List (Int × Int)) (k:Nat) (h:T Obj) (nx:Nat) (ps:List (Nat × Nat)) (rv:Value):Prop :=
 h.get p=some (.cells (dT c many cv sv 0 rv 0).toArray tm)∧dV h rv 1 te (mG ps) nC∧ps.length=k∧RsX RR h ps (C.take k) (List.replicate k noR)∧Dst ps∧(∀ q∈jI ps,nC≤q)∧Sub hC h∧Fr h nx∧Fr hC nC∧nC≤p∧nC≤nx
section
variable {RR:RgP} {tm tp ta te:TypeId} {ro:Ro} {hC h h':T Obj} {nC p nx n1 n2 k:Nat} {c:List Nat} {many:Int} {cv sv rv:Value} {C:List (Int × Int)} {ps:List (Nat × Nat)}
theorem NI.mono {n':Nat} (hi:NI RR tm tp te hC nC p c many cv sv C k h nx ps rv) (hn:nx≤n'):NI RR tm tp te hC nC p c many cv sv C k h n' ps rv:=by
 obtain ⟨g1,g2,g3,g4,g5,g6,g7,g8,g9,g10,g11⟩:=hi
 exact ⟨g1,g2,g3,g4,g5,g6,g7,g8.mono hn,g9,g10,by omega⟩
theorem NI.sub {n':Nat} (hk:RgOk RR tp ta) (hi:NI RR tm tp te hC nC p c many cv sv C k h nx ps rv) (hs:Sub h h') (hf:Fr h' n') (hn:nx≤n'):NI RR tm tp te hC nC p c many cv sv C k h' n' ps rv:=by
 obtain ⟨g1,g2,g3,g4,g5,g6,g7,g8,g9,g10,g11⟩:=hi
 exact ⟨hs _ _ g1,g2.keepS hs,g3,g4.sub hk hs,g5,g6,g7.trans hs,hf,g9,g10,by omega⟩
theorem NI.step {q:Nat × Nat} {cc:Int × Int} {rv2:Value} {lo:Nat} (hk:RgOk RR tp ta) (e1:tp≠te) (e2:ta≠te) (e3:tm≠tp) (e4:tm≠ta) (e5:tm≠te) (hi:NI RR tm tp te hC nC p c many cv sv C k h nx ps rv) (hcl:c.length=256) (hc:C[k]?=some cc) (hR:RR h q.1 q.2 cc.2.toNat [] 0) (hq1:∀ r∈ps,r.1 < q.1∧r.2 < q.2) (hq2:nC≤q.1∧nC≤q.2) (hn1:n1≠p∧(∀ r∈ps++[q],r.1≠n1∧r.2≠n1)∧nC≤n1)
  (ho:dV h' rv2 1 te (mG ps++[[ptr q.1]]) nC) (hsb:iN rv2=some n2) (hn2:nx≤n2) (hg:∀ k o,h.get k=some o→k≠n1→iN rv≠some k→h'.get k=some o) (hf:Fr h' (n2+1)) :
  NI RR tm tp te hC nC p c many cv sv C (k+1) (h'.upd p (some (.cells (dT c many cv sv 0 rv2 0).toArray tm))) (n2+1) (ps++[q]) rv2:=by
 obtain ⟨g1,g2,g3,g4,g5,g6,g7,g8,g9,g10,g11⟩:=hi
 have hp:=g8.lt' g1
 have hr:=g4.snoc hR (r:=noR)
 have hgk:∀ {k:Nat} {cs:Array Value} {e:TypeId},h.get k=some (.cells cs e)→e≠te→k≠n1→h'.get k=some (.cells cs e):=fun hk9 he hne=>hg _ _ hk9 hne (g2.ne hk9 he)
 have hgp:h'.get p=some (.cells (dT c many cv sv 0 rv 0).toArray tm):=hgk g1 e5 (Ne.symm hn1.1)
 have hty:=hr.ty hk
 refine ⟨T.get_upd_same _ _ _,?_,by simp [g3],?_,g5.snoc fun r hr=>?_,fun k hk=>?_,fun k o hk=>?_,hf.upd (Nat.le_refl _) (by omega),g9,g10,by omega⟩
 ·rw [aJd]
  exact ho.keepK (ids:=[p]) (fun k o hk hn=>by rw [T.get_upd_ne _ _ (by simpa using hn)]; exact hk) fun id hid hm=>by rw [hsb] at hid; cases hid; simp at hm; omega
 ·rw [List.take_succ_eq_append_getElem (List.getElem?_eq_some_iff.1 hc).1,(List.getElem?_eq_some_iff.1 hc).2,List.replicate_succ']
  refine hr.keep hk fun r hr9=>?_
  obtain ⟨⟨c1,t1⟩,c2,t2⟩:=hty r hr9
  rw [T.get_upd_ne _ _ (fun e=>by rw [e,g1] at t1; simp only [Option.some.injEq,Obj.cells.injEq] at t1; exact e3 t1.2.1),T.get_upd_ne _ _ (fun e=>by rw [e,g1] at t2; simp only [Option.some.injEq,Obj.cells.injEq] at t2; exact e4 t2.2.1),hgk t1 e1 (hn1.2.1 r hr9).1,hgk t2 e2 (hn1.2.1 r hr9).2,t1,t2]
  exact ⟨rfl,rfl⟩
 ·have:=hq1 r hr; omega
 ·obtain ⟨r,hr,h9⟩:=iB.1 hk
  rcases List.mem_append.1 hr with hr | hr
  ·exact g6 k (iB.2 ⟨r,hr,h9⟩)
  ·simp at hr; subst hr; omega
 ·have hlt:=g9.lt' hk
  have h9:=g7 k o hk
  rw [T.get_upd_ne _ _ (by omega)]
  refine hg k o h9 (by have:=hn1.2.2; omega) fun e=>?_
  have:=(g2.blk e).1
  omega
theorem NI.fin {d:AutoD} (hk:RgOk RR tp ta) (e1:tp≠te) (e2:ta≠te) (e5:tm≠te) {X0:List Nat} (hX0:∀ k∈X0,k < nC) (hi:NI RR tm tp te hC nC p d.c d.many cv sv d.counts d.counts.length h nx ps rv) (hA:qI ro (del hC X0) (dQ d.c d.many cv sv) d):MX RR tm ro h (X0++(p::jI ps)) p ps d (aDy d):=by
 obtain ⟨g1,g2,g3,g4,g5,g6,g7,g8,g9,g10,g11⟩:=hi
 have hX:∀ k∈p::jI ps,nC≤k:=fun k hk=>by
  rcases List.mem_cons.1 hk with rfl | hk
  ·exact g10
  ·exact g6 k hk
 have hrs:(aDy d).rs=List.replicate d.counts.length noR:=List.map_const' ..
 rw [List.take_length] at g4
 have hsub:Sub (del hC X0) (del h (X0++(p::jI ps))):=fun k o hk=>by
  rw [jE] at hk
  split at hk
  ·cases hk
  ·rename_i hn
   have:=g9.lt' hk
   exact kA (g7 k o hk) fun hm=>by
    rcases List.mem_append.1 hm with hm | hm
    ·exact hn hm
    ·have:=hX k hm; omega
 refine ⟨cv,sv,rv,g1,hA.sub hsub,(g2.del fun id hid hm=>?_).sl,by rw [hrs]; exact g4,g5,List.mem_append.2 (.inr (List.mem_cons_self ..)),fun k hk=>List.mem_append.2 (.inr (List.mem_cons_of_mem _ hk))⟩
 rcases List.mem_append.1 hm with hm | hm
 ·have:=hX0 id hm; have:=(g2.blk hid).1; omega
 rcases List.mem_cons.1 hm with rfl | hm
 ·exact g2.ne g1 e5 hid
 ·obtain ⟨r,hr,h9⟩:=iB.1 hm
  obtain ⟨⟨c1,t1⟩,c2,t2⟩:=g4.ty hk r hr
  rcases h9 with rfl | rfl
  ·exact g2.ne t1 e1 hid
  ·exact g2.ne t2 e2 hid
end
section
variable {ro:Ro} {h:T Obj} {nx:Nat} {K:KV} {x:List Value} {d:AutoD}
theorem aJO (ha:eW d=true) {k:Nat} (hk:k < d.counts.length):1≤(d.counts[k]).2.toNat∧(d.counts[k]).2.toNat≤4096∧((d.counts[k]).2.toNat:Int)=(d.counts[k]).2:=by
 have:=(fN ha).2.2.2.2.1 _ (List.getElem_mem hk)
 omega
set_option maxRecDepth 8000 in
set_option maxHeartbeats 1000000 in
theorem aJV {X0:List Nat} (hf:Fr h nx) (hd:qI ro h x d) (hK0:eW d=false→∀ nx',nx≤nx'→K (.tuple #[.pointer none,.int .i64 1]) h nx')
  (hX0:∀ k∈X0,k < nx)
  (hK1:eW d=true→∀ p ps X h' nx',nx≤nx'→Fr h' nx'→Sub h h'→(∀ k∈X,nx≤k∧k < nx')→X=p::jI ps→MI ro h' (X0++X) p ps (er d) (aDy d)→K (.tuple #[ptr p,.int .i64 0]) h' nx'):aN Tryz.prog ro aAf [.agg x.toArray] h nx K:=by
 obtain ⟨cv,sv,hxe,hc,hclt,hcv,hS,hb1,hb2⟩:=id hd
 have m7:=kS (n:=d.many) (cv:=cv) (sv:=sv) hc
 apply aHk
 unfold aD9
 refine dY hf (Nat.le_refl _) fun h1 hs1 hf1 g1 _=>?_
 have g1:h1.get nx=some (.cells x.toArray bG):=g1
 have hxl:x.length=259:=by rw [hxe]; exact cK hc
 have LA:=c8 (ro:=ro) (z:=0) (n:=259) (l:=x) g1 hxl
 refine aB LA ?_
 refine aBD (hf1.mono (by omega)) (hd.sub hs1) fun n1 hn1=>?_
 cases hok:eW d with
 | false =>
  (repeat(first|refine aB (by simp (disch:=first|omega|exact nnN _|assumption) only [BB,B2,↓reduceIte,Nat.reduceLeDiff,Nat.reduceAdd,CC]<;>rfl) ?_|refine aD ?_|refine aE ?_|with_reducible first|refine aG ?_|refine aF ?_|refine aK ?_|refine aH ?_|refine aJ ?_|refine aI ?_|refine aL ?_|refine aC ?_))
  exact ⟨h,hs1,hK0 hok _ (by omega)⟩
 | true =>
  have hfit:=aP5 hok hc
  have hC512:=(fN hok).2.1
  (repeat(first|refine aB (by simp (disch:=first|omega|exact nnN _|assumption) only [BB,B2,↓reduceIte,Nat.reduceLeDiff,Nat.reduceAdd,CC]<;>rfl) ?_|refine aD ?_|refine aE ?_|with_reducible first|refine aG ?_|refine aF ?_|refine aK ?_|refine aH ?_|refine aJ ?_|refine aI ?_|refine aL ?_|refine aC ?_))
  refine aB LA ?_
  refine aFF (X0:=X0) (hf1.mono (by omega)) (fun k hk=>by have:=hX0 k hk; omega) (hd.sub hs1) hfit fun cv2 sv2 hC nC hnC hfC hsC hAC=>?_
  refine aB (aJH hc) (aGm hfC (by omega) fun h2 hs2 hf2 g2 _=>?_)
  have g2:h2.get (nC+1)=some (.cells (dT d.c d.many cv2 sv2 0 cN 0).toArray bF):=g2
  have g12:=hs2 _ _ (hsC _ _ g1)
  have hcv2:=hcv.sub ((hs1.trans hsC).trans hs2) fun _ _ h=>h
  (repeat(first|refine aB (by simp (disch:=first|omega|exact nnN _|assumption) only [BB,B2,↓reduceIte,Nat.reduceLeDiff,Nat.reduceAdd,CC]<;>rfl) ?_|refine aD ?_|refine aE ?_|with_reducible first|refine aG ?_|refine aF ?_|refine aK ?_|refine aH ?_|refine aJ ?_|refine aI ?_|refine aL ?_|refine aC ?_))
  refine aB (aZ g12 (by rw [hxe]; exact m7)) ?_
  refine aB hcv2.len ?_
  have hNI0:NI RI bF bL kE hC nC (nC+1) d.c d.many cv2 sv2 d.counts 0 h2 (nC+2) [] cN:=⟨g2,dV.nil,rfl,⟨rfl,rfl,fun i p c r hp=>by simp at hp⟩,Dst.nil,(fun q hq=>by simp [jI] at hq),hs2,hf2,hfC,by omega,by omega⟩
  refine bC (fun j e h' nx'=>∃ (k:Nat) (ps:List (Nat × Nat)) (rv:Value),k+j=d.counts.length∧nC+2≤nx'∧e 4=ptr (nC+1)∧e 17=cv∧e 18=.int .i64 d.counts.length∧e 19=.int .i64 k∧NI RI bF bL kE hC nC (nC+1) d.c d.many cv2 sv2 d.counts k h' nx' ps rv) ?_ (n:=d.counts.length) ⟨0,[],cN,by omega,by omega,rfl,rfl,rfl,rfl,hNI0.mono (by omega)⟩
  rintro j e h' nx' ⟨k,ps,rv,hj,hnx,e4,e17,e18,e19,hi⟩ Q' hq hx
  have hfh:=hi.2.2.2.2.2.2.2.1
  have hsh:=hi.2.2.2.2.2.2.1
  unfold aC5
  rw [e4,e17,e18,e19]
  refine dF (fun hk=>?_) (fun hk=>?_)
  ·have hk:k < d.counts.length:=by omega
   obtain ⟨b1,b2,b3⟩:=aJO hok hk
   have hcvh:=hcv.sub ((hs1.trans hsC).trans hsh) fun _ _ h=>h
   have hix:=hcvh.ix .i64 hk
   obtain ⟨y,hy1,hy2,hy3,hy4,hy5⟩:=hcvh.at hk
   have hck:d.counts[k]?=some d.counts[k]:=List.getElem?_eq_getElem _
   generalize d.counts[k]=cc at b1 b2 b3 hy1 hck
   obtain rfl:y=[.int .i64 cc.1,.int .i64 cc.2]:=hy1
   (repeat(first|refine aB (by simp (disch:=first|omega|exact nnN _|assumption) only [BB,B2,↓reduceIte,Nat.reduceLeDiff,Nat.reduceAdd,CC]<;>rfl) ?_|refine aD ?_|refine aE ?_|with_reducible first|refine aG ?_|refine aF ?_|refine aK ?_|refine aH ?_|refine aJ ?_|refine aI ?_|refine aL ?_|refine aC ?_))
   refine aB hix (aB hy3 ?_)
   refine jL (x:=[.int .i64 cc.1,.int .i64 cc.2]) aHO rfl rfl rfl rfl hfh (by omega) fun h3 hs3 hf3 g3 _=>?_
   (repeat(first|refine aB (by simp (disch:=first|omega|exact nnN _|assumption) only [BB,B2,↓reduceIte,Nat.reduceLeDiff,Nat.reduceAdd,CC,g3]<;>rfl) ?_|refine aD ?_|refine aE ?_|with_reducible first|refine aG ?_|refine aF ?_|refine aK ?_|refine aH ?_|refine aJ ?_|refine aI ?_|refine aL ?_|refine aC ?_))
   rw [← b3]
   refine aJl (hf3.mono (by omega)) b1 b2 fun p' a' h4 n4 hp' ha' hn4 hs4 hf4 hR4=>?_
   refine aB (aGk _ _) (aB (aGl _ _) ?_)
   have hi4:=hi.sub (n':=n4) jB (hs3.trans hs4) hf4 (by omega)
   have m0:=uR (n:=d.many) (cv:=cv2) (sv:=sv2) (cur:=0) (rv:=rv) (steps:=0) hc
   refine aCb rfl ?_
   (repeat(first|refine aB (by simp (disch:=first|omega|exact nnN _|assumption) only [BB,B2,↓reduceIte,Nat.reduceLeDiff,Nat.reduceAdd,CC,bA]<;>rfl) ?_|refine aD ?_|refine aE ?_|with_reducible first|refine aG ?_|refine aF ?_|refine aK ?_|refine aH ?_|refine aJ ?_|refine aI ?_|refine aL ?_|refine aC ?_))
   refine aB (aZ hi4.1 m0) ?_
   obtain ⟨i,t1,t2,t3⟩:=aPj
   have hplen:ps.length≤1000000:=by have:=hi.2.2.1; omega
   refine aBk (z:=1) (l:=mG ps) (y:=[ptr p']) (aPV _ _) rfl hi4.2.1 aO7 t1 (by omega) (by omega) aPo rfl rfl (by rw [oZ,t3]; unfold big; omega) (by rw [oZ]; unfold big; omega) (hf4.mono (by omega)) (by omega) (by omega) (fun e=>by have:=hf4.lt' (hi4.2.1.blk e).2; omega) fun h5 ho5 hk5 hf5=>?_
   generalize hnv:Value.slice (some (own (n4+15) 1)) (mG ps++[[ptr p']]).length (mG ps++[[ptr p']]).length=rv2 at ho5
   have hsb:iN rv2=some (n4+15):=by rw [← hnv]; rfl
   have g5:=hk5 _ _ hi4.1 (by have:=hf4.lt' hi4.1; omega) (hi4.2.1.ne hi4.1 (by decide))
   have hlt4:=hi.2.2.2.1.lt jB hfh
   have hfin:=hi4.step (h':=h5) (q:=(p',a')) (cc:=cc) (rv2:=rv2) (n1:=n4+13) (n2:=n4+15) (lo:=nC) jB (by decide) (by decide) (by decide) (by decide) (by decide) hc hck hR4 (fun r hr=>by have:=hlt4 r hr; show r.1 < p'∧r.2 < a'; omega) (by show nC≤p'∧nC≤a'; omega) ⟨by have:=hf4.lt' hi4.1; omega,fun r hr=>by
    rcases List.mem_append.1 hr with hr | hr
    ·have:=hlt4 r hr; omega
    ·simp at hr; subst hr; have:=jB.p hR4; have:=jB.a hR4; obtain ⟨c1,t8⟩:=jB.p hR4; obtain ⟨c2,t9⟩:=jB.a hR4; have:=hf4.lt' t8; have:=hf4.lt' t9; show p'≠_∧a'≠_; omega,by omega⟩ ho5 hsb (by omega) hk5 hf5
   dsimp only
   (repeat(first|refine aB (by simp (disch:=first|omega|exact nnN _|assumption) only [BB,B2,↓reduceIte,Nat.reduceLeDiff,Nat.reduceAdd,CC,bA]<;>rfl) ?_|refine aD ?_|refine aE ?_|with_reducible first|refine aG ?_|refine aF ?_|refine aK ?_|refine aH ?_|refine aJ ?_|refine aI ?_|refine aL ?_|refine aC ?_))
   refine aB (dN g5 (by rw [uS hc]; omega) ho5.ok (by rw [← hnv]; rfl)) ?_
   rw [aGe hc]
   (repeat(first|refine aB (by simp (disch:=first|omega|exact nnN _|assumption) only [BB,B2,↓reduceIte,Nat.reduceLeDiff,Nat.reduceAdd,CC]<;>rfl) ?_|refine aD ?_|refine aE ?_|with_reducible first|refine aG ?_|refine aF ?_|refine aK ?_|refine aH ?_|refine aJ ?_|refine aI ?_|refine aL ?_|refine aC ?_))
   exact hq (j - 1) _ _ _ _ (by omega) ⟨k+1,ps++[(p',a')],rv2,by omega,by omega,e4,e17,e18,rfl,hfin.mono (by omega)⟩ (Sub.refl _)
  ·(repeat(first|refine aB (by simp (disch:=first|omega|exact nnN _|assumption) only [BB,B2,↓reduceIte,Nat.reduceLeDiff,Nat.reduceAdd,CC]<;>rfl) ?_|refine aD ?_|refine aE ?_|with_reducible first|refine aG ?_|refine aF ?_|refine aK ?_|refine aH ?_|refine aJ ?_|refine aI ?_|refine aL ?_|refine aC ?_))
   refine hx _ _ _ _ (fun e=>by cases e) (eB (dA ?_))
   obtain rfl:k=d.counts.length:=by omega
   have hMX:=NI.fin (ro:=ro) (d:=er d) (X0:=X0) jB (by decide) (by decide) (by decide) (fun k hk=>by have:=hX0 k hk; omega) hi hAC
   have hend:∀ (e':Env) n',e' 4=ptr (nC+1)→nx'≤n'→s8 ro K e' h' n':=by
    intro e' n' f4 hn'
    unfold s8
    rw [f4]
    refine ⟨h',Sub.refl _,hK1 hok _ ps _ h' _ (by omega) (hfh.mono (by omega)) ((hs1.trans hsC).trans hsh) (fun k hk=>?_) rfl hMX⟩
    have hlt9:=hMX.lt jB hfh
    rcases List.mem_cons.1 hk with rfl | hk
    ·have:=hlt9.1; omega
    ·have:=hi.2.2.2.2.2.1 k hk; have:=hlt9.2 k hk; omega
   exact hend _ _ e4 (by omega)
end
end V
end Go.Proofs.YtcaccnneblghgaaGreat
namespace Go.Proofs.YtcaccnneblghgaaGreat
namespace V
attribute [local irreducible] aA ifP aS cM eQ exP cO
theorem aM9 (id:Nat):bU Tryz.prog jA id 0 []=some (.slice (some (own id 1)) 0 0,some (.cells #[] oQ)):=by kernel_rfl
theorem aN0:und Tryz.prog jA=some (.slice oQ):=by kernel_rfl
theorem aO3:∃ i,tin Tryz.prog oQ=some i∧i.size=1∧i.bytes=16:=zL (by kernel_rfl)
theorem aOg:zer Tryz.prog oQ=some (.string .empty):=by kernel_rfl
theorem aLf:und Tryz.prog iF=some (.slice hJ):=by kernel_rfl
theorem aNQ:∃ i,tin Tryz.prog hJ=some i∧i.size=1∧i.bytes=8:=zL (by kernel_rfl)
theorem aN6:zer Tryz.prog hJ=some (.pointer none):=by kernel_rfl
theorem aMa (id p:Nat):bU Tryz.prog iF id 1 [(0,ptr p)]=some (.slice (some (own id 1)) 1 1,some (.cells [ptr p].toArray hJ)):=by kernel_rfl
theorem aNX:und Tryz.prog gZ=some (.slice cH):=by kernel_rfl
theorem aO0:∃ i,tin Tryz.prog cH=some i∧i.size=260∧i.bytes=336:=zL (by kernel_rfl)
theorem aKk (o:Option Addr) (l c:Nat):eX Tryz.prog cH [(1,.slice o l c)]=some (.agg (vD++[Value.slice o l c]).toArray):=by kernel_rfl
theorem aNu (id:Nat) (o:Option Addr) (l c:Nat):bU Tryz.prog gZ id 1 [(0,.agg (vD++[Value.slice o l c]).toArray)]=some (.slice (some (own id 260)) 1 1,some (.cells (vD++[Value.slice o l c]).toArray cH)):=by kernel_rfl
theorem aBm:eX Tryz.prog jS [(2,.int .i64 (-1))]=some (.agg #[.int .i64 0,.int .i64 0,.int .i64 (-1)]):=by kernel_rfl
theorem aJI (m:Int):eX Tryz.prog aR [(2,.int .i64 m),(5,.bool true),(7,.agg #[.int .i64 0,.int .i64 0,.int .i64 (-1)])]=some (.agg #[cN,cN,cN,cN,cN,.int .i64 m,cN,.int .i64 0,.bool true,.int .i64 0,.int .i64 0,.int .i64 0,.int .i64 (-1),.int .i64 0,.bool false,.int .i64 0]):=by kernel_rfl
theorem MX.shrink {RR:RgP} {ty:TypeId} {ro:Ro} {h:T Obj} {X X':List Nat} {p:Nat} {ps:List (Nat × Nat)} {d:AutoD} {m:MacD} (hm:MX RR ty ro h X p ps d m) (hX:∀ k∈X',k∈X) (hp:∀ k∈p::jI ps,k∈X'):MX RR ty ro h X' p ps d m:=by
 obtain ⟨cv,sv,rv,g1,g2,g3,g4,g5,g6,g7⟩:=hm
 have hD:Sub (del h X) (del h X'):=fun k o hk=>by
  rw [jE] at hk
  split at hk
  ·cases hk
  ·rename_i hn
   exact kA hk fun e=>hn (hX k e)
 exact ⟨cv,sv,rv,g1,g2.sub hD,g3.sub hD,g4,g5,hp p (List.mem_cons_self ..),fun k hk=>hp k (List.mem_cons_of_mem _ hk)⟩
theorem MsX.shrink {ro:Ro} {h:T Obj} {X X':List Nat} {qs:List MqD} {ds:List AutoD} {ms:List MacD} (hm:MsX ro h X qs ds ms) (hX:∀ k∈X',k∈X) (hp:∀ q∈qs,∀ k∈mD q,k∈X'):MsX ro h X' qs ds ms :=
 ⟨hm.lq,hm.lm,fun i q d m h1 h2 h3=>(hm.at_ i q d m h1 h2 h3).shrink hX (hp q (List.mem_of_getElem? h1)),hm.dis⟩
section
variable {ro:Ro} {h:T Obj} {nx:Nat} {K:KV}
theorem aH3 {v:Value} {l:List ByteArray} (hv:SlR ro h v 1 zZ l) (hl:l.length≤1000000) (hf:Fr h nx) (hK:∀ r h' n',nx≤n'→Fr h' n'→Sub h h'→dV h' r 1 oQ (aA0 l) nx→K r h' n'):aN Tryz.prog ro gR [v] h nx K:=by
 apply pZ
 unfold iD
 obtain ⟨i,g1,g2,g3⟩:=aO3
 obtain ⟨cs,h1,h2,h3⟩:=hv
 have hcs:cs=aA0 l:=by
  apply List.ext_getElem?
  intro k
  rcases Nat.lt_or_ge k l.length with hk | hk
  ·have e1:cs[k]?=some (cs[k]'(by omega)):=List.getElem?_eq_getElem _
   have e2:l[k]?=some l[k]:=List.getElem?_eq_getElem _
   have:=(h3 k _ _ e1 e2).1
   rw [e1,this,aGF hk]
  ·rw [List.getElem?_eq_none (by omega),List.getElem?_eq_none (by rw [zX]; omega)]
 subst hcs
 exact rS h1 aM9 aN0 g1 (by omega) (by omega) aOg rfl (by simp [aA0,cP]) (by rw [zX,g3]; unfold big; omega) (by rw [zX]; unfold big; omega) hf hK
end
end V
end Go.Proofs.YtcaccnneblghgaaGreat
namespace Go.Proofs.YtcaccnneblghgaaGreat
namespace V
attribute [local irreducible] aA ifP aS cM eQ exP cO
theorem MX.ty {ro:Ro} {h:T Obj} {X:List Nat} {p:Nat} {ps:List (Nat × Nat)} {d:AutoD} {m:MacD} (hm:MI ro h X p ps d m):∀ k∈p::jI ps,∃ c e,h.get k=some (.cells c e)∧(e=bF∨e=bL∨e=dW):=fun k hk=>by
 obtain ⟨cv,sv,rv,g1,g2,g3,g4,g5,g6,g7⟩:=hm
 rcases List.mem_cons.1 hk with rfl | hk
 ·exact ⟨_,_,g1,.inl rfl⟩
 ·obtain ⟨q,hq,h9⟩:=iB.1 hk
  obtain ⟨⟨c1,t1⟩,c2,t2⟩:=g4.ty jB q hq
  rcases h9 with rfl | rfl
  ·exact ⟨_,_,t1,.inr (.inl rfl)⟩
  ·exact ⟨_,_,t2,.inr (.inr rfl)⟩
theorem MX.neB {ro:Ro} {h:T Obj} {X:List Nat} {p:Nat} {ps:List (Nat × Nat)} {d:AutoD} {m:MacD} (hm:MI ro h X p ps d m) {k:Nat} {c:Array Value} {e:TypeId} (hk:h.get k=some (.cells c e)) (he:e≠bF∧e≠bL∧e≠dW):k ∉ p::jI ps:=fun h9=>by
 obtain ⟨c2,e2,g1,g2⟩:=hm.ty k h9
 rw [hk] at g1
 simp only [Option.some.injEq,Obj.cells.injEq] at g1
 rcases g2 with g2 | g2 | g2
 ·exact he.1 (g1.2.1.trans g2)
 ·exact he.2.1 (g1.2.1.trans g2)
 ·exact he.2.2 (g1.2.1.trans g2)
theorem MsX.neB {ro:Ro} {h:T Obj} {X:List Nat} {qs:List MqD} {ds:List AutoD} {ms:List MacD} (hm:MsX ro h X qs ds ms) {k:Nat} {c:Array Value} {e:TypeId} (hk:h.get k=some (.cells c e)) (he:e≠bF∧e≠bL∧e≠dW):∀ q∈qs,k ∉ mD q:=fun q hq=>by
 obtain ⟨i,hi⟩:=List.getElem?_of_mem hq
 have hl:=(List.getElem?_eq_some_iff.1 hi).1
 exact (hm.at_ i q _ _ hi (List.getElem?_eq_getElem (by rw [← hm.lq]; exact hl)) (List.getElem?_eq_getElem (by rw [hm.lm,← hm.lq]; exact hl))).neB hk he
structure NwI (ro:Ro) (X0:List Nat) (hC:T Obj) (nC p:Nat) (Tb:TabD) (most:Int) (kv tv:Value) (i j:Nat) (h:T Obj) (nx:Nat) (X:List Nat) (qs:List MqD) (mv ev:Value) (es:List (List Value)):Prop where
 cell:h.get p=some (.cells (scL kv tv ev mv most cN (nG Tb) 0).toArray aR)
 mo:dV h mv 1 hJ (sM qs) nC
 eo:dV h ev 260 cH es nC
 el:es.length=j
 erd:∀ (k:Nat) x e,es[k]?=some x→Tb.entries[k]?=some e→qJ ro (del h X) x e
 kr:Sl ro (del h X) kv 1 (aA0 Tb.kinds)
 tr:Sl ro (del h X) tv 1 (jV Tb.to)
 mq:MsX ro h X qs ((Tb.entries.map (·.a)).take i) ((Tb.entries.map fun e=>aDy e.a).take i)
 xl:∀ b∈X,b < nx
 pc:nC≤p
 ql:∀ q∈qs,∀ b∈mD q,nC≤b
 x0:∀ b∈X0,b∈X
 xp:p∈X
 xm:∀ b∈kM mv,b∈X
 xe:∀ b∈kM ev,b∈X
 sb:Sub hC h
 frr:Fr h nx
 frC:Fr hC nC
section
variable {ro:Ro} {hC h h' h1 h2:T Obj} {nC p nx n1 n2 l1 i j k:Nat} {Tb:TabD} {most:Int} {kv tv mv ev mv2 ev2:Value} {X0 X:List Nat} {qs:List MqD} {es:List (List Value)}
theorem NwI.nle (hi:NwI ro X0 hC nC p Tb most kv tv i j h nx X qs mv ev es):nC≤p∧p < nx:=⟨hi.pc,hi.xl p hi.xp⟩
theorem NwI.subs (hi:NwI ro X0 hC nC p Tb most kv tv i j h nx X qs mv ev es) (hs:Sub h h') (hf:Fr h' n1) (hn:nx≤n1):NwI ro X0 hC nC p Tb most kv tv i j h' n1 X qs mv ev es:=by
 have hD:Sub (del h X) (del h' X):=dU.del (ids:=[]) hs.keepL (fun k hk=>by cases hk) fun k hk=>.inl hk
 exact ⟨hs _ _ hi.cell,hi.mo.keepS hs,hi.eo.keepS hs,hi.el,fun k x e h1 h2=>(hi.erd k x e h1 h2).sub hD,hi.kr.sub hD,hi.tr.sub hD,hi.mq.subX hs,fun b hb=>by have:=hi.xl b hb; omega,hi.pc,hi.ql,hi.x0,hi.xp,hi.xm,hi.xe,hi.sb.trans hs,hf,hi.frC⟩
theorem NwI.neM (hi:NwI ro X0 hC nC p Tb most kv tv i j h nx X qs mv ev es):∀ b∈p::kM mv,(∃ c e,h.get b=some (.cells c e)∧e≠bF∧e≠bL∧e≠dW):=fun b hb=>by
 rcases List.mem_cons.1 hb with rfl | hb
 ·exact ⟨_,_,hi.cell,by decide,by decide,by decide⟩
 ·exact ⟨_,_,(hi.mo.blk (eV.1 hb)).2,by decide,by decide,by decide⟩
theorem NwI.neE (hi:NwI ro X0 hC nC p Tb most kv tv i j h nx X qs mv ev es):∀ b∈p::kM ev,(∃ c e,h.get b=some (.cells c e)∧e≠bF∧e≠bL∧e≠dW):=fun b hb=>by
 rcases List.mem_cons.1 hb with rfl | hb
 ·exact ⟨_,_,hi.cell,by decide,by decide,by decide⟩
 ·exact ⟨_,_,(hi.eo.blk (eV.1 hb)).2,by decide,by decide,by decide⟩
theorem aJe (qs:List MqD) (q:MqD):sM (qs++[q])=sM qs++[[ptr q.1]]:=by simp [sM]
theorem NwI.mach (hi0:NwI ro X0 hC nC p Tb most kv tv k j h nx X qs mv ev es) {q:MqD} {e:EntD} (he:Tb.entries[k]?=some e) (hn:MI ro h1 (X++mD q) q.1 q.2 (er e.a) (aDy e.a)) (hs:Sub h h1) (hf1:Fr h1 n1) (hb:∀ b∈mD q,nx≤b∧b < n1) (hnx:nx≤n1)
  (ho:dV h2 mv2 1 hJ (sM qs++[[ptr q.1]]) nC) (hsb:iN mv2=some n2) (hg:∀ b o,h1.get b=some o→b≠l1→iN mv≠some b→h2.get b=some o) (hl1:n1≤l1) (hn2:n1≤n2) (hf2:Fr h2 (n2+1)) :
  NwI ro X0 hC nC p Tb most kv tv (k+1) j (h2.upd p (some (.cells (scL kv tv ev mv2 most cN (nG Tb) 0).toArray aR))) (n2+1) (X++mD q++[n2]) (qs++[q]) mv2 ev es:=by
 have hpx:=hi0.nle
 have hi:=hi0.subs hs hf1 hnx
 have hkk:dU (kM mv) h1 h2:=fun b o hb hn=>hg b o hb (by have:=hf1.lt' hb; omega) fun e=>hn (eV.2 e)
 have hK:dU (p::kM mv) h1 (h2.upd p (some (.cells (scL kv tv ev mv2 most cN (nG Tb) 0).toArray aR))):=(hkk.mono fun b hb=>List.mem_cons_of_mem _ hb).upd (List.mem_cons_self ..)
 have hidX:∀ b∈p::kM mv,b∈X:=fun b hb=>by
  rcases List.mem_cons.1 hb with rfl | hb
  ·exact hi.xp
  ·exact hi.xm b hb
 have hX2:∀ b∈X++mD q++[n2],b∈X++mD q∨h1.get b=none:=fun b hb=>by
  rcases List.mem_append.1 hb with hb | hb
  ·exact .inl hb
  ·simp at hb; subst hb; exact .inr (hf1 _ (by omega))
 have hX3:∀ b∈X++mD q++[n2],b∈X∨h.get b=none:=fun b hb'=>by
  rcases List.mem_append.1 hb' with hb' | hb'
  ·rcases List.mem_append.1 hb' with hb' | hb'
   ·exact .inl hb'
   ·exact .inr (hi0.frr _ (hb b hb').1)
  ·simp at hb'; subst hb'; exact .inr (hi0.frr _ (by omega))
 have hX4:∀ b∈X,b∈X++mD q++[n2]:=fun b hb=>List.mem_append_left _ (List.mem_append_left _ hb)
 have hgA:=hs.keepL (ids:=p::kM mv) |>.trans hK
 have hD:Sub (del h X) (del (h2.upd p (some (.cells (scL kv tv ev mv2 most cN (nG Tb) 0).toArray aR))) (X++mD q++[n2])):=hgA.del hidX hX3
 have hneM:=hi.neM
 have hdis:∀ b∈p::kM mv,∀ r∈qs,b ∉ mD r:=fun b hb' r hr=>by
  obtain ⟨c,e9,g1,g2⟩:=hneM b hb'
  exact hi.mq.neB g1 g2 r hr
 have hdq:∀ b∈p::kM mv,b ∉ mD q:=fun b hb'=>by
  obtain ⟨c,e9,g1,g2⟩:=hneM b hb'
  exact hn.neB g1 g2
 have hmq:=hi0.mq.keep hgA hidX (fun r hr b hb'=>hdis b hb' r hr) hX3 hX4
 have hnq:=hn.keep (X':=X++mD q++[n2]) jB hK (fun b hb'=>List.mem_append_left _ (hidX b hb')) (fun b hb'=>by
  have:=hdq b hb'
  exact ⟨fun e=>this (by rw [e]; exact List.mem_cons_self ..),fun e=>this (List.mem_cons_of_mem _ e)⟩) hX2 fun b hb'=>List.mem_append_left _ hb'
 have hlen:k < Tb.entries.length:=(List.getElem?_eq_some_iff.1 he).1
 have hget:=(List.getElem?_eq_some_iff.1 he).2
 have hpe:iN ev≠some p:=hi.eo.ne hi.cell (by decide)
 have hpm:iN mv2≠some p:=by rw [hsb]; intro e9; cases e9; omega
 have hem:∀ b,iN ev=some b→iN mv≠some b:=fun b hb' e9=>by
  have g1:=(hi.eo.blk hb').2
  have g2:=(hi.mo.blk e9).2
  rw [g1] at g2
  simp only [Option.some.injEq,Obj.cells.injEq] at g2
  exact absurd g2.2.1 (by decide)
 refine ⟨T.get_upd_same _ _ _,?_,?_,hi.el,fun k x e h1 h2=>(hi0.erd k x e h1 h2).sub hD,hi0.kr.sub hD,hi0.tr.sub hD,?_,fun b hb'=>?_,hi.pc,fun r hr b hb'=>?_,fun b hb'=>hX4 b (hi.x0 b hb'),hX4 p hi.xp,fun b hb'=>?_,fun b hb'=>hX4 b (hi.xe b hb'),fun b o hb'=>?_,hf2.upd (Nat.le_refl _) (by omega),hi.frC⟩
 ·rw [aJe]
  exact ho.keepK (ids:=[p]) ((Sub.refl _).keepL.upd (by simp)) fun id hid hm=>by simp at hm; subst hm; exact hpm hid
 ·exact hi.eo.keepK (ids:=p::kM mv) hK fun id hid hm=>by
   rcases List.mem_cons.1 hm with rfl | hm
   ·exact hpe hid
   ·exact hem id hid (eV.1 hm)
 ·have t1:(Tb.entries.map (·.a)).take (k+1)=(Tb.entries.map (·.a)).take k++[e.a]:=by
   rw [List.take_succ_eq_append_getElem (by rw [List.length_map]; exact hlen),List.getElem_map,hget]
  have t2:(Tb.entries.map fun e=>aDy e.a).take (k+1)=(Tb.entries.map fun e=>aDy e.a).take k++[aDy e.a]:=by
   rw [List.take_succ_eq_append_getElem (by rw [List.length_map]; exact hlen),List.getElem_map,hget]
  rw [t1,t2]
  refine hmq.snoc hnq fun r hr b hb' hb9=>?_
  have g1:=(hb b hb9).1
  obtain ⟨i9,hi9⟩:=List.getElem?_of_mem hr
  have g2:=hi0.xl b (hi0.mq.inX hi9 b hb')
  omega
 ·have hx:=hi0.nle
  rcases List.mem_append.1 hb' with hb' | hb'
  ·rcases List.mem_append.1 hb' with hb' | hb'
   ·have:=hi0.xl b hb'; omega
   ·have:=hb b hb'; omega
  ·simp at hb'; subst hb'; omega
 ·rcases List.mem_append.1 hr with hr | hr
  ·exact hi.ql r hr b hb'
  ·simp at hr; subst hr
   have:=(hb b hb').1
   omega
 ·have:=eV.1 hb'
  rw [hsb] at this
  cases this
  exact List.mem_append_right _ (by simp)
 ·have h9:=hi.sb b o hb'
  have hlt:=hi.frC.lt' hb'
  rw [T.get_upd_ne _ _ (by omega)]
  refine hg b o h9 (by omega) fun e9=>?_
  have:=(hi.mo.blk e9).1
  omega
theorem NwI.ent (hi0:NwI ro X0 hC nC p Tb most kv tv i k h nx X qs mv ev es) {n0:Nat} {rv:Value} {e:EntD} (he:Tb.entries[k]?=some e) (hs:Sub h h1) (hrv:dV h1 rv 1 dW (jV e.rules) n0) (hn0:nx≤l1) (hl0:l1 < n0)
  (ho:dV h2 ev2 260 cH (es++[vD++[rv]]) nC) (hsb:iN ev2=some n2) (hg:∀ b o,h1.get b=some o→b≠l1→iN ev≠some b→h2.get b=some o) (hn2:n0≤n2) (hf1:Fr h1 n2) (hf2:Fr h2 (n2+1)) :
  NwI ro X0 hC nC p Tb most kv tv i (k+1) (h2.upd p (some (.cells (scL kv tv ev2 mv most cN (nG Tb) 0).toArray aR))) (n2+1) (X++[n2]) qs mv ev2 (es++[vD++[rv]]):=by
 have hpx:=hi0.nle
 have hgA:dU (p::kM ev) h (h2.upd p (some (.cells (scL kv tv ev2 mv most cN (nG Tb) 0).toArray aR))):=fun b o hb hn=>by
  have hlt:=hi0.frr.lt' hb
  rw [T.get_upd_ne _ _ fun e9=>hn (by rw [e9]; exact List.mem_cons_self ..)]
  exact hg b o (hs b o hb) (by omega) fun e9=>hn (List.mem_cons_of_mem _ (eV.2 e9))
 have hidX:∀ b∈p::kM ev,b∈X:=fun b hb=>by
  rcases List.mem_cons.1 hb with rfl | hb
  ·exact hi0.xp
  ·exact hi0.xe b hb
 have hX3:∀ b∈X++[n2],b∈X∨h.get b=none:=fun b hb'=>by
  rcases List.mem_append.1 hb' with hb' | hb'
  ·exact .inl hb'
  ·simp at hb'; subst hb'; exact .inr (hi0.frr _ (by omega))
 have hX4:∀ b∈X,b∈X++[n2]:=fun b hb=>List.mem_append_left _ hb
 have hD:=hgA.del hidX hX3
 have hneE:=hi0.neE
 have hmq:=hi0.mq.keep hgA hidX (fun r hr b hb'=>by
  obtain ⟨c,e9,g1,g2⟩:=hneE b hb'
  exact hi0.mq.neB g1 g2 r hr) hX3 hX4
 have hpm:iN mv≠some p:=hi0.mo.ne hi0.cell (by decide)
 have hpe:iN ev2≠some p:=by rw [hsb]; intro e9; cases e9; omega
 have hem:∀ b,iN mv=some b→iN ev≠some b:=fun b hb' e9=>by
  have g1:=(hi0.mo.blk hb').2
  have g2:=(hi0.eo.blk e9).2
  rw [g1] at g2
  simp only [Option.some.injEq,Obj.cells.injEq] at g2
  exact absurd g2.2.1 (by decide)
 have hel:=hi0.el
 have hrv2:Sl ro (del (h2.upd p (some (.cells (scL kv tv ev2 mv most cN (nG Tb) 0).toArray aR))) (X++[n2])) rv 1 (jV e.rules):=by
  have h9:dV (h2.upd p (some (.cells (scL kv tv ev2 mv most cN (nG Tb) 0).toArray aR))) rv 1 dW (jV e.rules) n0:=by
   rcases hrv with h9 | ⟨id,r1,r2,r3,r4⟩
   ·exact .inl h9
   ·refine .inr ⟨id,r1,r2,r3,?_⟩
    rw [T.get_upd_ne _ _ (by omega)]
    refine hg _ _ r4 (by omega) fun e9=>?_
    have:=hi0.xl _ (hi0.xe _ (eV.2 e9))
    omega
  refine (h9.del fun id hid hm=>?_).sl
  have g1:=(h9.blk hid).1
  rcases List.mem_append.1 hm with hm | hm
  ·have:=hi0.xl id hm; omega
  ·simp at hm; subst hm
   have g2:h1.get id=none:=hf1 _ (Nat.le_refl _)
   rcases hrv with ⟨r1,_⟩ | ⟨id2,r1,r2,r3,r4⟩
   ·rw [r1] at hid; cases hid
   ·rw [r2] at hid
    cases hid
    have g3:h1.get id2=none:=g2
    rw [r4] at g3; cases g3
 refine ⟨T.get_upd_same _ _ _,?_,?_,by simp [hel],fun j x e9 hx1 hx2=>?_,hi0.kr.sub hD,hi0.tr.sub hD,hmq,fun b hb'=>?_,hi0.pc,hi0.ql,fun b hb'=>hX4 b (hi0.x0 b hb'),hX4 p hi0.xp,fun b hb'=>hX4 b (hi0.xm b hb'),fun b hb'=>?_,fun b o hb'=>?_,hf2.upd (Nat.le_refl _) (by omega),hi0.frC⟩
 ·exact hi0.mo.keepK hgA fun id hid hm=>by
   rcases List.mem_cons.1 hm with rfl | hm
   ·exact hpm hid
   ·exact hem id hid (eV.1 hm)
 ·exact ho.keepK (ids:=[p]) ((Sub.refl _).keepL.upd (by simp)) fun id hid hm=>by simp at hm; subst hm; exact hpe hid
 ·rcases Nat.lt_or_ge j es.length with hj | hj
  ·rw [List.getElem?_append_left hj] at hx1
   exact (hi0.erd j x e9 hx1 hx2).sub hD
  ·rw [List.getElem?_append_right hj] at hx1
   have hj0:j - es.length=0:=by
    rcases Nat.eq_zero_or_pos (j - es.length) with h0 | h0
    ·exact h0
    ·rw [List.getElem?_eq_none (by simp; omega)] at hx1; cases hx1
   rw [hj0] at hx1
   simp only [List.getElem?_cons_zero,Option.some.injEq] at hx1
   subst hx1
   rw [show j=k by omega,he] at hx2
   cases hx2
   refine ⟨rv,?_,hrv2⟩
   rw [List.getElem?_append_right (by rw [rQ]; omega),rQ]; rfl
 ·rcases List.mem_append.1 hb' with hb' | hb'
  ·have:=hi0.xl b hb'; omega
  ·simp at hb'; subst hb'; omega
 ·have:=eV.1 hb'
  rw [hsb] at this
  cases this
  exact List.mem_append_right _ (by simp)
 ·have h9:=hi0.sb b o hb'
  have hlt:=hi0.frC.lt' hb'
  have hlt2:=hi0.frr.lt' h9
  rw [T.get_upd_ne _ _ (by omega)]
  refine hg b o (hs b o h9) (by omega) fun e9=>?_
  have:=(hi0.eo.blk e9).1
  omega
theorem NwI.fin (hi:NwI ro X0 hC nC p Tb most kv tv Tb.entries.length Tb.entries.length h nx X qs mv ev es) (hX0:∀ b∈X0,b < nC):ScX ro h (X0++(p::qs.flatMap mD)) p qs Tb most 0 (nG Tb)∧∀ b∈p::qs.flatMap mD,nC≤b∧b < nx:=by
 have hsub:∀ b∈X0++(p::qs.flatMap mD),b∈X:=fun b hb=>by
  rcases List.mem_append.1 hb with hb | hb
  ·exact hi.x0 b hb
  ·rcases List.mem_cons.1 hb with rfl | hb
   ·exact hi.xp
   ·obtain ⟨q,hq,hb⟩:=List.mem_flatMap.1 hb
    obtain ⟨j,hj⟩:=List.getElem?_of_mem hq
    exact hi.mq.inX hj b hb
 have hD:Sub (del h X) (del h (X0++(p::qs.flatMap mD))):=rU hsub
 have hne:∀ {v:Value} {z:Nat} {e:TypeId} {l:List (List Value)},dV h v z e l nC→e≠aR→e≠bF∧e≠bL∧e≠dW→∀ id,iN v=some id→id ∉ X0++(p::qs.flatMap mD):=fun {v z e l} ho he1 he2 id hid hm=>by
  obtain ⟨g1,g2⟩:=ho.blk hid
  rcases List.mem_append.1 hm with hm | hm
  ·have:=hX0 id hm; omega
  ·rcases List.mem_cons.1 hm with rfl | hm
   ·exact ho.ne hi.cell (Ne.symm he1) hid
   ·obtain ⟨q,hq,hm⟩:=List.mem_flatMap.1 hm
    exact hi.mq.neB g2 he2 q hq hm
 refine ⟨⟨kv,tv,ev,mv,cN,hi.cell,hi.kr.sub hD,hi.tr.sub hD,⟨es,(hi.eo.del (hne hi.eo (by decide) ⟨by decide,by decide,by decide⟩)).sl,hi.el,fun j x e h1 h2=>(hi.erd j x e h1 h2).sub hD⟩,(hi.mo.del (hne hi.mo (by decide) ⟨by decide,by decide,by decide⟩)).sl,Sl.nil,?_,List.mem_append_right _ (List.mem_cons_self ..),hi.mq.neB hi.cell ⟨by decide,by decide,by decide⟩⟩,fun b hb=>⟨?_,hi.xl b (hsub b (List.mem_append_right _ hb))⟩⟩
 ·have hq:=hi.mq
  rw [List.take_of_length_le (by simp),List.take_of_length_le (by simp)] at hq
  exact hq.shrink hsub fun q hq9 b hb=>List.mem_append_right _ (List.mem_cons_of_mem _ (List.mem_flatMap.2 ⟨q,hq9,hb⟩))
 ·rcases List.mem_cons.1 hb with rfl | hb
  ·exact hi.pc
  ·obtain ⟨q,hq,hb⟩:=List.mem_flatMap.1 hb
   exact hi.ql q hq b hb
end
end V
end Go.Proofs.YtcaccnneblghgaaGreat
namespace Go.Proofs.YtcaccnneblghgaaGreat
namespace V
attribute [local irreducible] aA ifP aS cM eQ exP cO
theorem aNH:∀ {l:List Int} {a m:Int},rz a m l=true→a < m→(l.length:Int)≤m - a - 1
 | [],a,m,_,h=>by simp; omega
 | x::r,a,m,h,hm=>by
  rw [aDK] at h
  simp only [Bool.and_eq_true,decide_eq_true_eq] at h
  have:=aNH h.2.2 h.2.1
  rw [List.length_cons]
  omega
theorem aGB {T:TabD} (h:fM T=true):T.conds.length≤8∧T.kinds.length≤64∧T.to.length≤64∧T.entries.length≤16∧∀ e∈T.entries,e.rules.length≤64:=by
 unfold fM at h
 simp only [Bool.and_eq_true,decide_eq_true_eq] at h
 obtain ⟨h1,h2,_,h4,h5,h6,_,h8,h9⟩:=h
 refine ⟨h2,h4,by omega,by omega,fun e he=>?_⟩
 have:=List.all_eq_true.1 h9 e he
 unfold kX at this
 simp only [Bool.and_eq_true] at this
 have:=aNH this.1 (by omega)
 omega
theorem aKl (o1 o2:Option Addr) (l1 c1 l2 c2:Nat):eX Tryz.prog c7 [(1,.slice o1 l1 c1),(2,.slice o2 l2 c2)]=some (.agg #[cN,.slice o1 l1 c1,.slice o2 l2 c2,cN]):=by kernel_rfl
theorem dV.form {h:T Obj} {v:Value} {z:Nat} {e:TypeId} {l:List (List Value)} {lo:Nat} (ho:dV h v z e l lo):∃ o n c,v=.slice o n c:=by
 rcases ho with ⟨h1,_⟩ | ⟨id,_,h1,_⟩
 ·exact ⟨_,_,_,h1⟩
 ·exact ⟨_,_,_,h1⟩
theorem aEd {h:T Obj} {id off z n:Nat} {v:Value} {l vs:List Value} {e:TypeId} {f:Nat × Nat} (hg:h.get id=some (.cells l.toArray e f)) (hc:v.cells=vs.toArray) (hn:vs.length=n) (hl:off+n≤l.length) (hv:vs.all cP=true) :
  bV n h (at_ id off z) v=some (h.upd id (some (.cells (over l off vs).toArray e f))):=by
 rw [bY,hc,hg,if_pos (by simpa using hn),bP (by simp; omega) (by simpa using hv)]
 rfl
theorem aDt {ro:Ro} {h:T Obj} {id off z n:Nat} {l:List Value} {e:TypeId} {f:Nat × Nat} (hg:h.get id=some (.cells l.toArray e f)) (hl:off+n≤l.length):loadA ro h n (at_ id off z)=some (.agg ((l.drop off).take n).toArray):=by
 rw [bZ,hg]
 show (if off+n≤l.length then _ else _)=_
 rw [if_pos hl]
section
variable {ro:Ro} {h:T Obj} {nx:Nat} {K:KV}
set_option maxRecDepth 8000 in
set_option maxHeartbeats 1000000 in
theorem aE8 {X0:List Nat} {x:List Value} {Tb:TabD} {most:Int} (hf:Fr h nx) (hd:aCk ro h x Tb) (hX0:∀ b∈X0,b < nx)
  (hK0:most < 1∨fM Tb=false→∀ nx',nx≤nx'→K (.tuple #[.pointer none,.int .i64 1]) h nx')
  (hK1:1≤most→fM Tb=true→∀ p qs h' nx',nx≤nx'→Fr h' nx'→Sub h h'→(∀ b∈p::qs.flatMap mD,nx≤b∧b < nx')→ScX ro h' (X0++(p::qs.flatMap mD)) p qs Tb most 0 (nG Tb)→K (.tuple #[ptr p,.int .i64 0]) h' nx'):aN Tryz.prog ro sF [.agg x.toArray,.int .i64 most] h nx K:=by
 obtain ⟨cv,kv0,tv0,ev0,rfl,q1,q2,q3,q4,q5,q6,q7,q8⟩:=id hd
 apply aIl
 unfold aE7
 refine dY hf (Nat.le_refl _) fun h1 hs1 hf1 g1 _=>?_
 have g1:h1.get nx=some (.cells [cv,kv0,tv0,ev0].toArray c7):=g1
 by_cases hm1:most < 1
 ·(repeat(first|refine aB (by simp (disch:=first|omega|exact nnN _|assumption) only [BB,B2,↓reduceIte,Nat.reduceLeDiff,Nat.reduceAdd,CC]<;>rfl) ?_|refine aD ?_|refine aE ?_|with_reducible first|refine aG ?_|refine aF ?_|refine aK ?_|refine aH ?_|refine aJ ?_|refine aI ?_|refine aL ?_|refine aC ?_))
  exact ⟨h,hs1,hK0 (.inl hm1) _ (by omega)⟩
 ·have LA:=c8 (ro:=ro) (z:=0) (n:=4) (l:=[cv,kv0,tv0,ev0]) g1 rfl
  (repeat(first|refine aB (by simp (disch:=first|omega|exact nnN _|assumption) only [BB,B2,↓reduceIte,Nat.reduceLeDiff,Nat.reduceAdd,CC]<;>rfl) ?_|refine aD ?_|refine aE ?_|with_reducible first|refine aG ?_|refine aF ?_|refine aK ?_|refine aH ?_|refine aJ ?_|refine aI ?_|refine aL ?_|refine aC ?_))
  refine aB LA ?_
  (repeat(first|refine aB (by simp (disch:=first|omega|exact nnN _|assumption) only [BB,B2,↓reduceIte,Nat.reduceLeDiff,Nat.reduceAdd,CC]<;>rfl) ?_|refine aD ?_|refine aE ?_|with_reducible first|refine aG ?_|refine aF ?_|refine aK ?_|refine aH ?_|refine aJ ?_|refine aI ?_|refine aL ?_|refine aC ?_))
  refine aHs (hf1.mono (by omega)) (hd.sub hs1) fun n1 hn1=>?_
  cases hr:fM Tb with
  | false =>
   (repeat(first|refine aB (by simp (disch:=first|omega|exact nnN _|assumption) only [BB,B2,↓reduceIte,Nat.reduceLeDiff,Nat.reduceAdd,CC]<;>rfl) ?_|refine aD ?_|refine aE ?_|with_reducible first|refine aG ?_|refine aF ?_|refine aK ?_|refine aH ?_|refine aJ ?_|refine aI ?_|refine aL ?_|refine aC ?_))
   exact ⟨h,hs1,hK0 (.inr hr) _ (by omega)⟩
  | true =>
   have hc256:∀ e∈Tb.entries,e.a.c.length=256:=fun e he=>by
    obtain ⟨j,hj⟩:=List.getElem?_of_mem he
    obtain ⟨hlt,rfl⟩:=List.getElem?_eq_some_iff.1 hj
    obtain ⟨y,⟨ax,rv,_,hA,_⟩,_⟩:=q4.at hlt
    obtain ⟨cv9,sv9,_,hc9,_⟩:=hA
    exact hc9
   have hT:=(aIc hr hc256).1
   obtain ⟨_,hl1,hl2,hl3,hl4⟩:=aGB hr
   (repeat(first|refine aB (by simp (disch:=first|omega|exact nnN _|assumption) only [BB,B2,↓reduceIte,Nat.reduceLeDiff,Nat.reduceAdd,CC]<;>rfl) ?_|refine aD ?_|refine aE ?_|with_reducible first|refine aG ?_|refine aF ?_|refine aK ?_|refine aH ?_|refine aJ ?_|refine aI ?_|refine aL ?_|refine aC ?_))
   refine aB aBm ?_
   refine aB (aJI _) ?_
   refine aGm (m:=nx+1) hf1 (by omega) fun h2 hs2 hf2 g2 _=>?_
   have g2:h2.get (n1+1+4)=some (.cells (scL cN cN cN cN most cN (nG Tb) 0).toArray aR):=g2
   have g12:=hs2 _ _ g1
   have m1:[cv,kv0,tv0,ev0][1]?=some kv0:=rfl
   have m2:[cv,kv0,tv0,ev0][2]?=some tv0:=rfl
   have m3:[cv,kv0,tv0,ev0][3]?=some ev0:=rfl
   (repeat(first|refine aB (by simp (disch:=first|omega|exact nnN _|assumption) only [BB,B2,↓reduceIte,Nat.reduceLeDiff,Nat.reduceAdd,CC]<;>rfl) ?_|refine aD ?_|refine aE ?_|with_reducible first|refine aG ?_|refine aF ?_|refine aK ?_|refine aH ?_|refine aJ ?_|refine aI ?_|refine aL ?_|refine aC ?_))
   refine aB (aZ g12 m1) ?_
   refine aH3 (q2.sub (hs1.trans hs2) fun _ _ h=>h) (by omega) (hf2.mono (by omega)) fun kv h3 n3 hn3 hf3 hs3 hkv=>?_
   have g13:=hs3 _ _ g12
   have l2:=aZ (ro:=ro) (z:=0) g13 m2
   (repeat(first|refine aB (by simp (disch:=first|omega|exact nnN _|assumption) only [BB,B2,↓reduceIte,Nat.reduceLeDiff,Nat.reduceAdd,CC]<;>rfl) ?_|refine aD ?_|refine aE ?_|with_reducible first|refine aG ?_|refine aF ?_|refine aK ?_|refine aH ?_|refine aJ ?_|refine aI ?_|refine aL ?_|refine aC ?_))
   refine aB l2 ⟨fK g12 g13,?_⟩
   refine s5 (q3.sub ((hs1.trans hs2).trans hs3)) (by omega) hf3 fun tv h4 n4 hn4 hf4 hs4 htv=>?_
   obtain ⟨ko,kn,kc,hkf⟩:=hkv.form
   obtain ⟨to_,tn,tc,htf⟩:=htv.form
   have g24:=hs4 _ _ (hs3 _ _ g2)
   have g14:=hs4 _ _ g13
   refine aB (by rw [hkf,htf]; exact aKl _ _ _ _ _ _) ?_
   (repeat(first|refine aB (by simp (disch:=first|omega|exact nnN _|assumption) only [BB,B2,↓reduceIte,Nat.reduceLeDiff,Nat.reduceAdd,CC,bA]<;>rfl) ?_|refine aD ?_|refine aE ?_|with_reducible first|refine aG ?_|refine aF ?_|refine aK ?_|refine aH ?_|refine aJ ?_|refine aI ?_|refine aL ?_|refine aC ?_))
   refine aB (aEd (vs:=[cN,kv,tv,cN]) g24 (by rw [hkf,htf]; rfl) rfl (by simp [scL]) (by simp only [List.all_cons,List.all_nil,hkv.ok,htv.ok,Bool.and_true]; rfl)) ?_
   have hov:over (scL cN cN cN cN most cN (nG Tb) 0) 0 [cN,kv,tv,cN]=scL kv tv cN cN most cN (nG Tb) 0:=rfl
   rw [hov]
   generalize hh5:h4.upd (n1+1+4) (some (.cells (scL kv tv cN cN most cN (nG Tb) 0).toArray aR))=h5
   have g15:h5.get nx=some (.cells [cv,kv0,tv0,ev0].toArray c7):=by rw [← hh5,T.get_upd_ne _ _ (by omega)]; exact g14
   (repeat(first|refine aB (by simp (disch:=first|omega|exact nnN _|assumption) only [BB,B2,↓reduceIte,Nat.reduceLeDiff,Nat.reduceAdd,CC]<;>rfl) ?_|refine aD ?_|refine aE ?_|with_reducible first|refine aG ?_|refine aF ?_|refine aK ?_|refine aH ?_|refine aJ ?_|refine aI ?_|refine aL ?_|refine aC ?_))
   refine aB (aZ g15 m3) ?_
   have hs14:Sub h1 h4:=(hs2.trans hs3).trans hs4
   refine aB q4.len ?_
   have hkK:dU [n1+1+4] h4 h5:=by rw [← hh5]; exact (Sub.refl _).keepL.upd (by simp)
   have hkv5:=(hkv.keepS hs4).keepK hkK fun id hid hm=>by simp at hm; have:=(hkv.blk hid).1; omega
   have htv5:=htv.keepK hkK fun id hid hm=>by simp at hm; have:=(htv.blk hid).1; omega
   have hNI0:NwI ro X0 h1 (nx+1) (n1+1+4) Tb most kv tv 0 0 h5 n4 (X0++[n1+1+4]) [] cN cN []:=by
    refine ⟨by rw [← hh5]; exact T.get_upd_same _ _ _,dV.nil,dV.nil,rfl,(fun k x e hx=>by simp at hx),?_,?_,MsX.nil,fun b hb=>?_,by omega,(fun q hq=>by cases hq),fun b hb=>List.mem_append_left _ hb,by simp,(fun b hb=>by cases hb),(fun b hb=>by cases hb),fun b o hb=>?_,?_,hf1⟩
    ·refine (hkv5.del fun id hid hm=>?_).sl
     have g:=(hkv.blk hid).1
     rcases List.mem_append.1 hm with hm | hm
     ·have:=hX0 id hm; omega
     ·simp at hm; omega
    ·refine (htv5.del fun id hid hm=>?_).sl
     have g:=(htv.blk hid).1
     rcases List.mem_append.1 hm with hm | hm
     ·have:=hX0 id hm; omega
     ·simp at hm; omega
    ·rcases List.mem_append.1 hb with hb | hb
     ·have:=hX0 b hb; omega
     ·simp at hb; omega
    ·have hlt:=hf1.lt' hb
     rw [← hh5,T.get_upd_ne _ _ (by omega)]
     exact hs14 b o hb
    ·rw [← hh5]; exact hf4.upd (Nat.le_refl _) (by omega)
   refine bC (fun j e h' nx'=>∃ (k:Nat) (X:List Nat) (qs:List MqD) (mv ev:Value) (es:List (List Value)),k+j=Tb.entries.length∧n4+4≤nx'∧e 6=ptr (n1+1+4)∧e 33=ev0∧e 34=.int .i64 Tb.entries.length∧e 35=.int .i64 k∧NwI ro X0 h1 (nx+1) (n1+1+4) Tb most kv tv k k h' nx' X qs mv ev es) ?_ (n:=Tb.entries.length) ⟨0,_,[],cN,cN,[],by omega,by omega,rfl,rfl,rfl,rfl,hNI0.subs (Sub.refl _) (hNI0.frr.mono (by omega)) (by omega)⟩
   generalize n1+1+4=p at *
   rintro j e h' nx' ⟨k,X,qs,mv,ev,es,hj,hnx,e6,e33,e34,e35,hi⟩ Q' hq hx
   have hfh:=hi.frr
   have hsh:=hi.sb
   unfold aCi
   rw [e6,e33,e34,e35]
   refine dF (fun hk=>?_) (fun hk=>?_)
   ·have hk:k < Tb.entries.length:=by omega
    have hev:=q4.sub hs1 (uF.sub hs1)
    have hix:=hev.ix .i64 hk
    obtain ⟨y,hy1,hy2,hy3,hy4,hy5⟩:=hev.at hk
    have hy3:=aCB hsh hy3
    have hek:Tb.entries[k]?=some Tb.entries[k]:=List.getElem?_eq_getElem _
    have hemem:=List.getElem_mem hk
    generalize Tb.entries[k]=ee at hy1 hek hemem
    obtain ⟨cv9,sv9,rv9,hye,c258,c259,htk,hA,hS,hSl,hR,hRl⟩:=hy1.cells
    (repeat(first|refine aB (by simp (disch:=first|omega|exact nnN _|assumption) only [BB,B2,↓reduceIte,Nat.reduceLeDiff,Nat.reduceAdd,CC]<;>rfl) ?_|refine aD ?_|refine aE ?_|with_reducible first|refine aG ?_|refine aF ?_|refine aK ?_|refine aH ?_|refine aJ ?_|refine aI ?_|refine aL ?_|refine aC ?_))
    refine aB hix (aB hy3 ?_)
    refine jL (x:=y) (n:=260) aHN (by show aKx.toArray.size=260; rw [List.size_toArray,aD5]) rfl hy2 hy1.okL hfh (by omega) fun h6 hs6 hf6 g6 _=>?_
    have LB:=aDt (ro:=ro) (z:=0) (off:=0) (n:=259) g6 (by omega)
    rw [List.drop_zero,htk] at LB
    (repeat(first|refine aB (by simp (disch:=first|omega|exact nnN _|assumption) only [BB,B2,↓reduceIte,Nat.reduceLeDiff,Nat.reduceAdd,CC]<;>rfl) ?_|refine aD ?_|refine aE ?_|with_reducible first|refine aG ?_|refine aF ?_|refine aK ?_|refine aH ?_|refine aJ ?_|refine aI ?_|refine aL ?_|refine aC ?_))
    refine aB LB ?_
    refine aJV (X0:=X) (hf6.mono (by omega)) (hA.sub (hsh.trans hs6)) (fun h9=>by rw [hT.ok ee hemem] at h9; cases h9) (fun b hb=>by have:=hi.xl b hb; omega) fun _ p2 ps X2 h7 n7 hn7 hf7 hs7 hX2 hX2e hMI=>?_
    subst hX2e
    refine aB (aGk _ _) (aB (aGl _ _) ?_)
    refine aCb rfl ?_
    (repeat(first|refine aB (by simp (disch:=first|omega|exact nnN _|assumption) only [BB,B2,↓reduceIte,Nat.reduceLeDiff,Nat.reduceAdd,CC,bA]<;>rfl) ?_|refine aD ?_|refine aE ?_|with_reducible first|refine aG ?_|refine aF ?_|refine aK ?_|refine aH ?_|refine aJ ?_|refine aI ?_|refine aL ?_|refine aC ?_))
    have hi6:=hi.subs hs6 (hf6.mono (show nx'+3+1≤nx'+8 by omega)) (by omega)
    have hi7:=hi6.subs hs7 hf7 (by omega)
    have m4:(scL kv tv ev mv most cN (nG Tb) 0)[4]?=some mv:=rfl
    refine aB (aZ hi7.cell m4) ?_
    obtain ⟨i9,t1,t2,t3⟩:=aNQ
    have hql:qs.length≤1000:=by have:=hi.mq.lq; simp at this; omega
    refine aBk (z:=1) (l:=sM qs) (y:=[ptr p2]) (aMa _ _) rfl hi7.mo aLf t1 (by omega) (by omega) aN6 rfl rfl (by rw [aCF,t3]; unfold big; omega) (by rw [aCF]; unfold big; omega) (hf7.mono (by omega)) (by omega) (by omega) (fun e=>by have:=hf7.lt' (hi7.mo.blk e).2; omega) fun h8 ho8 hk8 hf8=>?_
    generalize hnv:Value.slice (some (own (n7+15) 1)) (sM qs++[[ptr p2]]).length (sM qs++[[ptr p2]]).length=mv2 at ho8
    have hsb:iN mv2=some (n7+15):=by rw [← hnv]; rfl
    have hi8:=hi6.mach (q:=(p2,ps)) (l1:=n7+13) hek hMI hs7 hf7 hX2 (by omega) ho8 hsb hk8 (by omega) (by omega) hf8
    have g8:=hk8 _ _ hi7.cell (by have:=hf7.lt' hi7.cell; omega) (hi7.mo.ne hi7.cell (by decide))
    dsimp only
    (repeat(first|refine aB (by simp (disch:=first|omega|exact nnN _|assumption) only [BB,B2,↓reduceIte,Nat.reduceLeDiff,Nat.reduceAdd,CC,bA]<;>rfl) ?_|refine aD ?_|refine aE ?_|with_reducible first|refine aG ?_|refine aF ?_|refine aK ?_|refine aH ?_|refine aJ ?_|refine aI ?_|refine aL ?_|refine aC ?_))
    refine aB (dN g8 (by simp [scL]) ho8.ok (by rw [← hnv]; rfl)) ?_
    have hov2:(scL kv tv ev mv most cN (nG Tb) 0).set 4 mv2=scL kv tv ev mv2 most cN (nG Tb) 0:=rfl
    rw [hov2]
    generalize hh8:h8.upd p (some (.cells (scL kv tv ev mv2 most cN (nG Tb) 0).toArray aR))=h9 at hi8
    have g69:h9.get (nx'+3)=some (.cells y.toArray cH):=by
     have hp6:=hi.xl _ hi.xp
     rw [← hh8,T.get_upd_ne _ _ (by omega)]
     refine hk8 _ _ (hs7 _ _ g6) (by omega) fun e9=>?_
     have:=hi.xl _ (hi.xm _ (eV.2 e9))
     omega
    have m3':(scL kv tv ev mv2 most cN (nG Tb) 0)[3]?=some ev:=rfl
    (repeat(first|refine aB (by simp (disch:=first|omega|exact nnN _|assumption) only [BB,B2,↓reduceIte,Nat.reduceLeDiff,Nat.reduceAdd,CC,bA]<;>rfl) ?_|refine aD ?_|refine aE ?_|with_reducible first|refine aG ?_|refine aF ?_|refine aK ?_|refine aH ?_|refine aJ ?_|refine aI ?_|refine aL ?_|refine aC ?_))
    refine aB (aZ hi8.cell m3') ?_
    (repeat(first|refine aB (by simp (disch:=first|omega|exact nnN _|assumption) only [BB,B2,↓reduceIte,Nat.reduceLeDiff,Nat.reduceAdd,CC]<;>rfl) ?_|refine aD ?_|refine aE ?_|with_reducible first|refine aG ?_|refine aF ?_|refine aK ?_|refine aH ?_|refine aJ ?_|refine aI ?_|refine aL ?_|refine aC ?_))
    refine aB (aZ g69 c259) ?_
    refine s5 (hR.sub hi8.sb) (by have:=hl4 ee hemem; omega) (hi8.frr.mono (by omega)) fun rv h10 n10 hn10 hf10 hs10 hrv=>?_
    refine ⟨fK hi8.cell (hs10 _ _ hi8.cell),?_⟩
    obtain ⟨ro1,rn,rc,hrf⟩:=hrv.form
    refine aB (by rw [hrf]; exact aKk _ _ _) ?_
    have hi10:=hi8.subs hs10 hf10 (by omega)
    obtain ⟨i10,u1,u2,u3⟩:=aO0
    have hesl:es.length≤1000:=by have:=hi8.el; omega
    refine aBk (z:=260) (l:=es) (y:=vD++[rv]) (by rw [hrf]; exact aNu _ _ _ _) (by rw [List.length_append,rQ]; rfl) hi10.eo aNX u1 (by omega) (by omega) aHN (by show aKx.toArray.size=260; rw [List.size_toArray,aD5]) (by rw [List.all_append]; simp [hrv.ok]; decide) (by rw [u3]; unfold big; omega) (by unfold big; omega) (hf10.mono (by omega)) (by omega) (by omega) (fun e=>by have:=hi8.xl _ (hi8.xe _ (eV.2 e)); omega) fun h11 ho11 hk11 hf11=>?_
    generalize hnv2:Value.slice (some (own n10 260)) (es++[vD++[rv]]).length (es++[vD++[rv]]).length=ev2 at ho11
    have hsb2:iN ev2=some n10:=by rw [← hnv2]; rfl
    have hi11:=(hi8.subs (Sub.refl _) (hi8.frr.mono (show n7+15+1≤n7+15+1+13 by omega)) (by omega)).ent (l1:=n7+15+1+13) hek hs10 hrv (Nat.le_refl _) (by omega) ho11 hsb2 hk11 (by omega) hf10 hf11
    have g11:=hk11 _ _ hi10.cell (by have:=hi8.frr.lt' hi8.cell; omega) (hi10.eo.ne hi10.cell (by decide))
    dsimp only
    (repeat(first|refine aB (by simp (disch:=first|omega|exact nnN _|assumption) only [BB,B2,↓reduceIte,Nat.reduceLeDiff,Nat.reduceAdd,CC,bA]<;>rfl) ?_|refine aD ?_|refine aE ?_|with_reducible first|refine aG ?_|refine aF ?_|refine aK ?_|refine aH ?_|refine aJ ?_|refine aI ?_|refine aL ?_|refine aC ?_))
    refine aB (dN g11 (by simp [scL]) ho11.ok (by rw [← hnv2]; rfl)) ?_
    have hov3:(scL kv tv ev mv2 most cN (nG Tb) 0).set 3 ev2=scL kv tv ev2 mv2 most cN (nG Tb) 0:=rfl
    rw [hov3]
    (repeat(first|refine aB (by simp (disch:=first|omega|exact nnN _|assumption) only [BB,B2,↓reduceIte,Nat.reduceLeDiff,Nat.reduceAdd,CC]<;>rfl) ?_|refine aD ?_|refine aE ?_|with_reducible first|refine aG ?_|refine aF ?_|refine aK ?_|refine aH ?_|refine aJ ?_|refine aI ?_|refine aL ?_|refine aC ?_))
    exact hq (j - 1) _ _ _ _ (by omega) ⟨k+1,_,_,mv2,ev2,_,by omega,by omega,e6,e33,e34,rfl,hi11.subs (Sub.refl _) (hi11.frr.mono (by omega)) (by omega)⟩ (Sub.refl _)
   ·(repeat(first|refine aB (by simp (disch:=first|omega|exact nnN _|assumption) only [BB,B2,↓reduceIte,Nat.reduceLeDiff,Nat.reduceAdd,CC]<;>rfl) ?_|refine aD ?_|refine aE ?_|with_reducible first|refine aG ?_|refine aF ?_|refine aK ?_|refine aH ?_|refine aJ ?_|refine aI ?_|refine aL ?_|refine aC ?_))
    refine hx _ _ _ _ (fun e=>by cases e) (eB (dA ?_))
    obtain rfl:k=Tb.entries.length:=by omega
    obtain ⟨hfin,hbl⟩:=hi.fin fun b hb=>by have:=hX0 b hb; omega
    have hend:∀ (e':Env) n',e' 6=ptr p→nx'≤n'→tD ro K e' h' n':=by
     intro e' n' f6 hn'
     unfold tD
     rw [f6]
     exact ⟨h',Sub.refl _,hK1 (by omega) hr p qs h' _ (by omega) (hfh.mono (by omega)) (hs1.trans hsh) (fun b hb=>by have:=hbl b hb; omega) hfin⟩
    exact hend _ _ e6 (by omega)
end
end V
end Go.Proofs.YtcaccnneblghgaaGreat
namespace Go.Proofs.YtcaccnneblghgaaGreat
namespace V
attribute [local irreducible] aA ifP aS cM eQ exP cO
theorem aLU:dO Tryz.prog 20 jS=some [1,1,1]:=by kernel_rfl
theorem aOy:aJC [1,1,1] .eql (.agg #[.int .i64 0,.int .i64 0,.int .i64 (-1)]) (.agg #[.int .i64 0,.int .i64 0,.int .i64 (-1)])=some (.bool true):=by kernel_rfl
theorem aOz {a b c:Int} (ha:a≠0):aJC [1,1,1] .eql (.agg #[.int .i64 a,.int .i64 b,.int .i64 c]) (.agg #[.int .i64 0,.int .i64 0,.int .i64 (-1)])=some (.bool false):=by
 simp [aJC,dH,iQ,ha]
def ScV (ro:Ro) (h:T Obj) (X:List Nat) (p:Nat) (qs:List MqD) (T:TabD) (most er_:Int) (kv tv ev mv bv:Value) (s:ScD):Prop:=h.get p=some (.cells (scL kv tv ev mv most bv s er_).toArray aR) ∧
 Sl ro (del h X) kv 1 (aA0 T.kinds)∧Sl ro (del h X) tv 1 (jV T.to)∧SlR ro (del h X) ev 260 (qJ ro (del h X)) T.entries∧Sl ro (del h X) mv 1 (sM qs)∧Sl ro (del h X) bv 1 (cA s.kept)∧MsX ro h X qs (T.entries.map (·.a)) s.ms∧p∈X∧∀ q∈qs,p ∉ mD q
section
variable {ro:Ro} {h h':T Obj} {nx:Nat} {X X':List Nat} {p:Nat} {qs:List MqD} {T:TabD} {most er_ er':Int} {kv tv ev mv bv:Value} {s s':ScD}
theorem ScV.x (hm:ScV ro h X p qs T most er_ kv tv ev mv bv s):ScX ro h X p qs T most er_ s:=⟨kv,tv,ev,mv,bv,hm⟩
theorem ScV.keep {ids:List Nat} (hm:ScV ro h X p qs T most er_ kv tv ev mv bv s) (hs:dU ids h h') (h1:∀ k∈ids,k∈X) (h2:∀ q∈qs,∀ k∈ids,k ∉ mD q) (h0:p ∉ ids) (h3:∀ k∈X',k∈X∨h.get k=none) (h4:∀ k∈X,k∈X'):ScV ro h' X' p qs T most er_ kv tv ev mv bv s:=by
 obtain ⟨g1,g2,g3,g4,g5,g6,g7,g8,g9⟩:=hm
 have hD:Sub (del h X) (del h' X'):=hs.del h1 h3
 exact ⟨hs _ _ g1 h0,g2.sub hD,g3.sub hD,g4.sub hD (qJ.sub hD),g5.sub hD,g6.sub hD,g7.keep hs h1 h2 h3 h4,h4 p g8,g9⟩
theorem ScV.sub (hm:ScV ro h X p qs T most er_ kv tv ev mv bv s) (hs:Sub h h'):ScV ro h' X p qs T most er_ kv tv ev mv bv s:=hm.keep (ids:=[]) hs.keepL (fun k hk=>by cases hk) (fun q hq k hk=>by cases hk) (fun hk=>by cases hk) (fun k hk=>.inl hk) fun k hk=>hk
theorem ScV.upd (hm:ScV ro h X p qs T most er_ kv tv ev mv bv s) (hms:s'.ms=s.ms) (hb:s'.kept=s.kept):ScV ro (h.upd p (some (.cells (scL kv tv ev mv most bv s' er').toArray aR))) X p qs T most er' kv tv ev mv bv s':=by
 obtain ⟨g1,g2,g3,g4,g5,g6,g7,g8,g9⟩:=hm
 have hk:dU [p] h (h.upd p (some (.cells (scL kv tv ev mv most bv s' er').toArray aR))):=((Sub.refl _).keepL).upd (by simp)
 have hX:∀ k∈[p],k∈X:=fun k hk=>by simp at hk; subst hk; exact g8
 have hD:Sub (del h X) (del (h.upd p (some (.cells (scL kv tv ev mv most bv s' er').toArray aR))) X):=hk.del hX fun k hk=>.inl hk
 refine ⟨V.T.get_upd_same _ _ _,g2.sub hD,g3.sub hD,g4.sub hD (qJ.sub hD),g5.sub hD,by rw [hb]; exact g6.sub hD,?_,g8,g9⟩
 rw [hms]
 exact g7.keep hk hX (fun q hq k hk=>by simp at hk; subst hk; exact g9 q hq) (fun k hk=>.inl hk) fun k hk=>hk
theorem ScV.step {i:Nat} {q:MqD} {d:AutoD} {m':MacD} (hm:ScV ro h X p qs T most er_ kv tv ev mv bv s) (hq:qs[i]?=some q) (hd:(T.entries.map (·.a))[i]?=some d) (hk:dU (q.1::jI q.2) h h') (hn:MI ro h' X q.1 q.2 (er d) m'):ScV ro h' X p qs T most er_ kv tv ev mv bv { s with ms:=s.ms.set i m' }:=by
 obtain ⟨g1,g2,g3,g4,g5,g6,g7,g8,g9⟩:=hm
 have hX:=g7.inX hq
 have hD:Sub (del h X) (del h' X):=hk.del hX fun k hk=>.inl hk
 exact ⟨hk p _ g1 (g9 q (List.mem_of_getElem? hq)),g2.sub hD,g3.sub hD,g4.sub hD (qJ.sub hD),g5.sub hD,g6.sub hD,g7.step hq hd hk hX hn,g8,g9⟩
theorem ScV.at (hm:ScV ro h X p qs T most er_ kv tv ev mv bv s) {i:Nat} {e:EntD} {m:MacD} (he:T.entries[i]?=some e) (hs:s.ms[i]?=some m):∃ q,qs[i]?=some q∧MI ro h X q.1 q.2 (er e.a) m∧(T.entries.map (·.a))[i]?=some e.a:=by
 obtain ⟨g1,g2,g3,g4,g5,g6,g7,g8,g9⟩:=hm
 have l1:=g7.lq
 rw [List.length_map] at l1
 have hi:=(List.getElem?_eq_some_iff.1 he).1
 have e3:(T.entries.map (·.a))[i]?=some e.a:=by rw [List.getElem?_map,he]; rfl
 exact ⟨_,List.getElem?_eq_getElem (by omega),g7.at_ i _ _ _ (List.getElem?_eq_getElem (by omega)) e3 hs,e3⟩
end
def tV (p:Nat) (qs:List MqD):List Nat:=p::qs.flatMap mD
theorem aGs {p:Nat} {qs:List MqD} {q:MqD} (hq:q∈qs):∀ k∈q.1::jI q.2,k∈tV p qs:=fun k hk=>List.mem_cons_of_mem _ (List.mem_flatMap.2 ⟨q,hq,hk⟩)
theorem aJt:siz Tryz.prog cJ=some 1:=by kernel_rfl
theorem aNK {l:List MacD} {i:Nat} {m:MacD} (h:l[i]?=some m):l.set i m=l:=by
 apply List.ext_getElem?
 intro j
 by_cases hj:i=j
 ·subst hj; rw [List.getElem?_set_self (List.getElem?_eq_some_iff.1 h).1,h]
 ·rw [List.getElem?_set_ne hj]
section
variable {ro:Ro} {h:T Obj} {nx:Nat} {K:KV} {X:List Nat} {p:Nat} {qs:List MqD} {T:TabD} {most er_:Int} {kv tv ev mv bv:Value} {s:ScD}
set_option maxRecDepth 8000 in
set_option maxHeartbeats 2000000 in
theorem aKP {K0:Nat} {q:MqD} {t0:TryD} {e0:Env} (hT:TabR T) (hI:ScI T s) (hv:ScV ro h X p qs T most er_ kv tv ev mv bv (cQ s t0)) (hf:Fr h nx) (hq:qs[qO s]?=some q) (ht1:t0.took=s.took) (ht2:t0.steps=s.steps) (hlk:LkOk (s.steps+1) (rW T s) t0)
  (heq:aAd (rW T s).a (s.kept.drop s.took) t0=rV T s) (hsz:s.steps+s.kept.length≤90000) (f0:e0 0=ptr p) (f3:e0 3=ptr q.1)
  (hK:∀ h' nx',nx≤nx'→Fr h' nx'→dU (tV p qs) h h'→ScX ro h' X p qs T most er_ (fD T s).2→K (.bool (fD T s).1) h' nx'):iZ ro K e0 h nx:=by
 obtain ⟨he1,he2,m9,hm9,_⟩:=hI.at
 generalize hD:(rW T s).a=D at *
 have hok:eW D=true:=by rw [← hD]; exact hT.ok _ he2
 have hokE:=aKh hok
 have g1:=hv.1
 have g6:Sl ro (del h X) bv 1 (cA s.kept):=hv.2.2.2.2.2.1
 have hpX:p∈X:=hv.2.2.2.2.2.2.2.1
 have htk:=hI.ok.took
 unfold iZ
 rw [f0]
 have l6:=aZ (ro:=ro) (z:=0) g1 (show (scL kv tv ev mv most bv (cQ s t0) er_)[6]?=some bv from rfl)
 have l10:=aZ (ro:=ro) (z:=0) g1 (show (scL kv tv ev mv most bv (cQ s t0) er_)[10]?=some (.int .i64 (t0.took:Int)) from rfl)
 rw [ht1] at l10
 obtain ⟨rv,hrv1,hrv2⟩:=Sl.drop (P:=Tryz.prog) g6 oO aJt (n:=s.took) (by rw [d9]; exact htk) .i64
 have hdr:(cA s.kept).drop s.took=cA (s.kept.drop s.took):=by simp [cA]
 rw [hdr] at hrv2
 (repeat(first|refine aB (by simp (disch:=first|omega|exact nnN _|assumption) only [BB,B2,↓reduceIte,Nat.reduceLeDiff,Nat.reduceAdd,CC,bA,l6,l10]<;>rfl) ?_|refine aD ?_|refine aE ?_|with_reducible first|refine aG ?_|refine aF ?_|refine aK ?_|refine aH ?_|refine aJ ?_|refine aI ?_|refine aL ?_|refine aC ?_))
 refine aB hrv1 ?_
 have hrl:=(hrv2.sub (gW h X)).len
 rw [d9] at hrl
 refine aB hrl ?_
 have hrlen:(s.kept.drop s.took).length=s.kept.length - s.took:=List.length_drop
 have hrb:∀ x∈s.kept.drop s.took,x < 256:=fun x hx=>hI.kb x (List.mem_of_mem_drop hx)
 generalize s.kept.drop s.took=rest at *
 refine bC (fun j e h' nx'=>∃ (i:Nat) (t:TryD),i+j=rest.length∧nx≤nx'∧e 0=ptr p∧e 3=ptr q.1∧e 32=rv∧e 33=.int .i64 rest.length∧e 34=.int .i64 i∧dU (tV p qs) h h'∧Fr h' nx'∧ScV ro h' X p qs T most er_ kv tv ev mv bv (cQ s t) ∧
   Sl ro (del h' X) rv 1 (cA rest)∧t.took=s.took+i∧t.steps=s.steps+i∧LkOk (s.steps+1) (rW T s) t∧aAd D (rest.drop i) t=rV T s) ?_ (n:=rest.length)
  ⟨0,t0,by omega,by omega,f0,f3,rfl,rfl,rfl,(Sub.refl _).keepL,hf.mono (by omega),hv,hrv2,by omega,by omega,hlk,by rw [List.drop_zero]; exact heq⟩
 rintro j e h' nx' ⟨i,t,hj,hnx,e00,e03,e32,e33,e34,hkp,hf',hv',hrv',htt,hts,hlk',hend⟩ Q' hc hx
 have g1':=hv'.1
 have hms:(cQ s t).ms[qO s]?=some t.m:=by
  show (s.ms.set (qO s) t.m)[qO s]?=_
  rw [List.getElem?_set_self (List.getElem?_eq_some_iff.1 hm9).1]
 unfold pX
 rw [e00,e03,e32,e33,e34]
 refine dF (fun hk=>?_) (fun hk=>?_)
 ·have hk:i < rest.length:=by omega
  have hrvh:=hrv'.sub (gW h' X)
  have hix:=hrvh.ix .i64 (i:=i) (by rw [d9]; exact hk)
  have hld:=hrvh.load1 (rR hk)
  have hbb:=hrb _ (List.getElem_mem hk)
  have hdrp:rest.drop i=rest[i]::rest.drop (i+1):=List.drop_eq_getElem_cons hk
  rw [hdrp,aBp] at hend
  generalize rest[i]=b at hld hbb hend
  have l10:=aZ (ro:=ro) (z:=0) g1' (show (scL kv tv ev mv most bv (cQ s t) er_)[10]?=some (.int .i64 (t.took:Int)) from rfl)
  have hlt:t.took < 90000∧t.steps < 90000:=by omega
  have hov1:(scL kv tv ev mv most bv (cQ s t) er_).set 10 (.int .i64 ((t.took:Int)+1))=scL kv tv ev mv most bv (cQ s { t with took:=t.took+1 }) er_:=rfl
  have hv1:=hv'.upd (s':=cQ s { t with took:=t.took+1 }) (er':=er_) rfl rfl
  have hov2:(scL kv tv ev mv most bv (cQ s { t with took:=t.took+1 }) er_).set 15 (.int .i64 ((t.steps:Int)+1))=scL kv tv ev mv most bv (cQ s { t with took:=t.took+1,steps:=t.steps+1 }) er_:=rfl
  have hf1:Fr (h'.upd p (some (.cells (scL kv tv ev mv most bv (cQ s { t with took:=t.took+1 }) er_).toArray aR))) nx':=hf'.upd (Nat.le_refl _) (hf'.lt' g1')
  have hkp1:dU (tV p qs) h (h'.upd p (some (.cells (scL kv tv ev mv most bv (cQ s { t with took:=t.took+1 }) er_).toArray aR))):=hkp.upd (List.mem_cons_self ..)
  have hD1:Sub (del h' X) (del (h'.upd p (some (.cells (scL kv tv ev mv most bv (cQ s { t with took:=t.took+1 }) er_).toArray aR))) X):=dU.del (ids:=[p]) ((Sub.refl _).keepL.upd (by simp)) (fun k hk=>by simp at hk; subst hk; exact hpX) fun k hk=>.inl hk
  generalize hh1:h'.upd p (some (.cells (scL kv tv ev mv most bv (cQ s { t with took:=t.took+1 }) er_).toArray aR))=h1 at hv1 hf1 hkp1 hD1
  have l15:=aZ (ro:=ro) (z:=0) hv1.1 (show (scL kv tv ev mv most bv (cQ s { t with took:=t.took+1 }) er_)[15]?=some (.int .i64 (t.steps:Int)) from rfl)
  have hv2:=hv1.upd (s':=cQ s { t with took:=t.took+1,steps:=t.steps+1 }) (er':=er_) rfl rfl
  have hf2:Fr (h1.upd p (some (.cells (scL kv tv ev mv most bv (cQ s { t with took:=t.took+1,steps:=t.steps+1 }) er_).toArray aR))) nx':=hf1.upd (Nat.le_refl _) (hf'.lt' g1')
  have hkp2:dU (tV p qs) h (h1.upd p (some (.cells (scL kv tv ev mv most bv (cQ s { t with took:=t.took+1,steps:=t.steps+1 }) er_).toArray aR))):=hkp1.upd (List.mem_cons_self ..)
  have hD2:Sub (del h1 X) (del (h1.upd p (some (.cells (scL kv tv ev mv most bv (cQ s { t with took:=t.took+1,steps:=t.steps+1 }) er_).toArray aR))) X):=dU.del (ids:=[p]) ((Sub.refl _).keepL.upd (by simp)) (fun k hk=>by simp at hk; subst hk; exact hpX) fun k hk=>.inl hk
  (repeat(first|refine aB (by simp (disch:=first|omega|exact nnN _|assumption) only [BB,B2,↓reduceIte,Nat.reduceLeDiff,Nat.reduceAdd,CC]<;>rfl) ?_|refine aD ?_|refine aE ?_|with_reducible first|refine aG ?_|refine aF ?_|refine aK ?_|refine aH ?_|refine aJ ?_|refine aI ?_|refine aL ?_|refine aC ?_))
  refine aB hix (aB hld ?_)
  (repeat(first|refine aB (by simp (disch:=first|omega|exact nnN _|assumption) only [BB,B2,↓reduceIte,Nat.reduceLeDiff,Nat.reduceAdd,CC,bA,l10]<;>rfl) ?_|refine aD ?_|refine aE ?_|with_reducible first|refine aG ?_|refine aF ?_|refine aK ?_|refine aH ?_|refine aJ ?_|refine aI ?_|refine aL ?_|refine aC ?_))
  refine aB (dN g1' (by simp [scL]) rfl rfl) ?_
  rw [hov1,hh1]
  (repeat(first|refine aB (by simp (disch:=first|omega|exact nnN _|assumption) only [BB,B2,↓reduceIte,Nat.reduceLeDiff,Nat.reduceAdd,CC,bA,l15]<;>rfl) ?_|refine aD ?_|refine aE ?_|with_reducible first|refine aG ?_|refine aF ?_|refine aK ?_|refine aH ?_|refine aJ ?_|refine aI ?_|refine aL ?_|refine aC ?_))
  refine aB (dN hv1.1 (by simp [scL]) rfl rfl) ?_
  rw [hov2]
  generalize hh2:h1.upd p (some (.cells (scL kv tv ev mv most bv (cQ s { t with took:=t.took+1,steps:=t.steps+1 }) er_).toArray aR))=h2 at hv2 hf2 hkp2 hD2
  obtain ⟨q2,hq2,hMI,hmap⟩:=hv2.at (m:=t.m) he1 hms
  rw [hq] at hq2
  cases hq2
  rw [hD] at hMI hmap
  have hst:=hlk'.st
  refine aHm hMI hokE (aJB (by rw [← hD]; exact hlk'.mok)) hbb (hf2.mono (by omega)) hlk'.w (by omega) (by omega) fun h3 n3 hn3 hf3 hk3 hM3=>?_
  rw [aP6]
  rw [aNM] at hM3
  have hv3:ScV ro h3 X p qs T most er_ kv tv ev mv bv (cQ s (tk0 D t b)):=by
   have h9:=hv2.step hq hmap hk3 hM3
   have h8:{ (cQ s { t with took:=t.took+1,steps:=t.steps+1 }) with ms:=(cQ s { t with took:=t.took+1,steps:=t.steps+1 }).ms.set (qO s) (lU D t.m b) }=cQ s (tk0 D t b):=by
    unfold cQ tk0
    simp only [List.set_set]
   rw [h8] at h9
   exact h9
  have hqX:=hv2.2.2.2.2.2.2.1.inX hq
  have hkp3:dU (tV p qs) h h3:=hkp2.trans (hk3.mono (aGs (List.mem_of_getElem? hq)))
  have hD3:Sub (del h2 X) (del h3 X):=hk3.del hqX fun k hk=>.inl hk
  have hrv3:=hrv'.sub ((hD1.trans hD2).trans hD3)
  have hlk0:=hlk'.tk0 hT he2 hbb
  have hlk1:=hlk'.tk1 hT he2 hbb
  rw [hD] at hlk0 hlk1
  cases hon:onM D t.m b with
  | false =>
   rw [hon] at hend
   have hend:(true,tk0 D t b)=rV T s:=hend
   (repeat(first|refine aB (by simp (disch:=first|omega|exact nnN _|assumption) only [BB,B2,↓reduceIte,Nat.reduceLeDiff,Nat.reduceAdd,CC]<;>rfl) ?_|refine aD ?_|refine aE ?_|with_reducible first|refine aG ?_|refine aF ?_|refine aK ?_|refine aH ?_|refine aJ ?_|refine aI ?_|refine aL ?_|refine aC ?_))
   refine hx _ _ _ _ (fun e=>by cases e) (eL ?_)
   refine ⟨h3,Sub.refl _,?_⟩
   have h9:=hK h3 (n3+2) (by omega) (hf3.mono (by omega)) hkp3
   have e1:(fD T s).2=cQ s (tk0 D t b):=by show cQ s (rV T s).2=_; rw [← hend]
   have e2:(fD T s).1=true:=by show ((rV T s).1 || s.closed)=true; rw [← hend]; rfl
   rw [e1,e2] at h9
   exact h9 hv3.x
  | true =>
   rw [hon,if_pos rfl] at hend
   (repeat(first|refine aB (by simp (disch:=first|omega|exact nnN _|assumption) only [BB,B2,↓reduceIte,Nat.reduceLeDiff,Nat.reduceAdd,CC]<;>rfl) ?_|refine aD ?_|refine aE ?_|with_reducible first|refine aG ?_|refine aF ?_|refine aK ?_|refine aH ?_|refine aJ ?_|refine aI ?_|refine aL ?_|refine aC ?_))
   have hM3':MI ro h3 X q.1 q.2 (er D) (tk0 D t b).m:=hM3
   have hmok3:MOk D (tk0 D t b).m:=by rw [← hD]; rw [← hD] at hlk0; exact hlk0.mok
   refine aHl hM3' hokE (aJB hmok3) (hf3.mono (by omega)) fun n4 hn4=>?_
   rw [aNG]
   have hru:qL D (tk0 D t b).m=qL D (lU D t.m b):=rfl
   rw [hru]
   have hnext:∀ (e':Env) (h':V.T Obj) (n':Nat),e' 0=ptr p→e' 3=ptr q.1→e' 32=rv→e' 33=.int .i64 rest.length→e' 34=.int .i64 i→nx≤n'→dU (tV p qs) h h'→Fr h' n'→ScV ro h' X p qs T most er_ kv tv ev mv bv (cQ s (tk1 D t b))→Sl ro (del h' X) rv 1 (cA rest)→i3 ro Q' e' h' n':=by
    intro e' h' n' d0 d3 d32 d33 d34 dn dk df dv ds
    unfold i3
    rw [d34]
    (repeat(first|refine aB (by simp (disch:=first|omega|exact nnN _|assumption) only [BB,B2,↓reduceIte,Nat.reduceLeDiff,Nat.reduceAdd,CC]<;>rfl) ?_|refine aD ?_|refine aE ?_|with_reducible first|refine aG ?_|refine aF ?_|refine aK ?_|refine aH ?_|refine aJ ?_|refine aI ?_|refine aL ?_|refine aC ?_))
    exact hc (j - 1) _ _ _ _ (by omega) ⟨i+1,tk1 D t b,by omega,by omega,d0,d3,d32,d33,rfl,dk,df.mono (by omega),dv,ds,by rw [aIw]; omega,by rw [aGG]; omega,hlk1,hend⟩ (Sub.refl _)
   by_cases hr:qL D (lU D t.m b)=-1
   ·have e1:tk1 D t b=tk0 D t b:=by unfold tk1; rw [if_pos hr]
    refine aCb (by omega) ?_
    (repeat(first|refine aB (by simp (disch:=first|omega|exact nnN _|assumption) only [BB,B2,↓reduceIte,Nat.reduceLeDiff,Nat.reduceAdd,CC]<;>rfl) ?_|refine aD ?_|refine aE ?_|with_reducible first|refine aG ?_|refine aF ?_|refine aK ?_|refine aH ?_|refine aJ ?_|refine aI ?_|refine aL ?_|refine aC ?_))
    refine hnext _ _ _ e00 e03 e32 e33 e34 ?_ hkp3 ?_ (by rw [e1]; exact hv3) hrv3
    ·omega
    ·exact hf3.mono (by omega)
   ·have e1:tk1 D t b=⟨t.took+1,t.took+1,qL D (lU D t.m b),t.steps+1,lU D t.m b⟩:=by unfold tk1; rw [if_neg hr]
    refine aDx (by omega) ?_
    have l10b:=aZ (ro:=ro) (z:=0) hv3.1 (show (scL kv tv ev mv most bv (cQ s (tk0 D t b)) er_)[10]?=some (.int .i64 ((t.took+1:Nat):Int)) from rfl)
    have hov4:(scL kv tv ev mv most bv (cQ s (tk0 D t b)) er_).set 11 (.int .i64 ((t.took+1:Nat):Int))=scL kv tv ev mv most bv (cQ s { tk0 D t b with held:=t.took+1 }) er_:=rfl
    have hv4:=hv3.upd (s':=cQ s { tk0 D t b with held:=t.took+1 }) (er':=er_) rfl rfl
    have hf4:Fr (h3.upd p (some (.cells (scL kv tv ev mv most bv (cQ s { tk0 D t b with held:=t.took+1 }) er_).toArray aR))) n3:=hf3.upd (Nat.le_refl _) (hf3.lt' hv3.1)
    have hkp4:dU (tV p qs) h (h3.upd p (some (.cells (scL kv tv ev mv most bv (cQ s { tk0 D t b with held:=t.took+1 }) er_).toArray aR))):=hkp3.upd (List.mem_cons_self ..)
    have hD4:Sub (del h3 X) (del (h3.upd p (some (.cells (scL kv tv ev mv most bv (cQ s { tk0 D t b with held:=t.took+1 }) er_).toArray aR))) X):=dU.del (ids:=[p]) ((Sub.refl _).keepL.upd (by simp)) (fun k hk=>by simp at hk; subst hk; exact hpX) fun k hk=>.inl hk
    generalize hh4:h3.upd p (some (.cells (scL kv tv ev mv most bv (cQ s { tk0 D t b with held:=t.took+1 }) er_).toArray aR))=h4 at hv4 hf4 hkp4 hD4
    have hov5:(scL kv tv ev mv most bv (cQ s { tk0 D t b with held:=t.took+1 }) er_).set 12 (.int .i64 (qL D (lU D t.m b)))=scL kv tv ev mv most bv (cQ s (tk1 D t b)) er_:=by rw [e1]; rfl
    have hv5:=hv4.upd (s':=cQ s (tk1 D t b)) (er':=er_) (by rw [e1]; rfl) (by rw [e1]; rfl)
    have hf5:Fr (h4.upd p (some (.cells (scL kv tv ev mv most bv (cQ s (tk1 D t b)) er_).toArray aR))) n3:=hf4.upd (Nat.le_refl _) (hf3.lt' hv3.1)
    have hkp5:dU (tV p qs) h (h4.upd p (some (.cells (scL kv tv ev mv most bv (cQ s (tk1 D t b)) er_).toArray aR))):=hkp4.upd (List.mem_cons_self ..)
    have hD5:Sub (del h4 X) (del (h4.upd p (some (.cells (scL kv tv ev mv most bv (cQ s (tk1 D t b)) er_).toArray aR))) X):=dU.del (ids:=[p]) ((Sub.refl _).keepL.upd (by simp)) (fun k hk=>by simp at hk; subst hk; exact hpX) fun k hk=>.inl hk
    (repeat(first|refine aB (by simp (disch:=first|omega|exact nnN _|assumption) only [BB,B2,↓reduceIte,Nat.reduceLeDiff,Nat.reduceAdd,CC,bA,l10b]<;>rfl) ?_|refine aD ?_|refine aE ?_|with_reducible first|refine aG ?_|refine aF ?_|refine aK ?_|refine aH ?_|refine aJ ?_|refine aI ?_|refine aL ?_|refine aC ?_))
    refine aB (dN hv3.1 (by simp [scL]) rfl rfl) ?_
    rw [hov4,hh4]
    (repeat(first|refine aB (by simp (disch:=first|omega|exact nnN _|assumption) only [BB,B2,↓reduceIte,Nat.reduceLeDiff,Nat.reduceAdd,CC,bA]<;>rfl) ?_|refine aD ?_|refine aE ?_|with_reducible first|refine aG ?_|refine aF ?_|refine aK ?_|refine aH ?_|refine aJ ?_|refine aI ?_|refine aL ?_|refine aC ?_))
    refine aB (dN hv4.1 (by simp [scL]) rfl rfl) ?_
    rw [hov5]
    refine hnext _ _ _ e00 e03 e32 e33 e34 ?_ hkp5 ?_ hv5 ((hrv3.sub hD4).sub hD5)
    ·omega
    ·exact hf5.mono (by omega)
 ·(repeat(first|refine aB (by simp (disch:=first|omega|exact nnN _|assumption) only [BB,B2,↓reduceIte,Nat.reduceLeDiff,Nat.reduceAdd,CC]<;>rfl) ?_|refine aD ?_|refine aE ?_|with_reducible first|refine aG ?_|refine aF ?_|refine aK ?_|refine aH ?_|refine aJ ?_|refine aI ?_|refine aL ?_|refine aC ?_))
  refine hx _ _ _ _ (fun e=>by cases e) (eB (dA ?_))
  have hil:i=rest.length:=by omega
  rw [hil,List.drop_length] at hend
  have hend:(false,t)=rV T s:=hend
  have hfin:∀ (e':Env) n',e' 0=ptr p→nx'≤n'→i0 ro K e' h' n':=by
   intro e' n' d0 dn
   unfold i0
   rw [d0]
   have l14:=aZ (ro:=ro) (z:=0) g1' (show (scL kv tv ev mv most bv (cQ s t) er_)[14]?=some (.bool s.closed) from rfl)
   (repeat(first|refine aB (by simp (disch:=first|omega|exact nnN _|assumption) only [BB,B2,↓reduceIte,Nat.reduceLeDiff,Nat.reduceAdd,CC,bA,l14]<;>rfl) ?_|refine aD ?_|refine aE ?_|with_reducible first|refine aG ?_|refine aF ?_|refine aK ?_|refine aH ?_|refine aJ ?_|refine aI ?_|refine aL ?_|refine aC ?_))
   refine ⟨h',Sub.refl _,?_⟩
   have h9:=hK h' (n'+5) (by omega) (hf'.mono (by omega)) hkp
   have e1:(fD T s).2=cQ s t:=by show cQ s (rV T s).2=_; rw [← hend]
   have e2:(fD T s).1=s.closed:=by show ((rV T s).1 || s.closed)=_; rw [← hend]; rfl
   rw [e1,e2] at h9
   exact h9 hv'.x
  exact hfin _ _ e00 (by omega)
set_option maxRecDepth 8000 in
set_option maxHeartbeats 1000000 in
theorem aIm (hm:ScX ro h X p qs T most er_ s) (hT:TabR T) (hI:ScI T s) (hTl:T.entries.length≤1000) (hsz:s.steps+s.kept.length≤90000) (hf:Fr h nx)
  (hK:∀ h' nx',nx≤nx'→Fr h' nx'→dU (tV p qs) h h'→ScX ro h' X p qs T most er_ (fD T s).2→K (.bool (fD T s).1) h' nx'):aN Tryz.prog ro l5 [ptr p] h nx K:=by
 obtain ⟨kv,tv,ev,mv,bv,hv⟩:=id hm
 have hv:ScV ro h X p qs T most er_ kv tv ev mv bv s:=hv
 obtain ⟨he1,he2,m,hm9,hm8⟩:=hI.at
 obtain ⟨q,hq,hMI,hmap⟩:=hv.at he1 hm9
 have hc:=hI.c
 have hok:=hT.ok _ he2
 obtain ⟨mk1,mk2,mk3⟩:=hI.ms _ _ _ he1 hm9
 have hC512:(er (rW T s).a).counts.length≤512:=(fN hok).2.1
 have g1:=hv.1
 apply zC
 unfold oI
 have l4:=aZ (ro:=ro) (z:=0) g1 (show (scL kv tv ev mv most bv s er_)[4]?=some mv from rfl)
 have hmv:Sl ro h mv 1 (sM qs):=hv.2.2.2.2.1.sub (gW h X)
 (repeat(first|refine aB (by simp (disch:=first|omega|exact nnN _|assumption) only [BB,B2,↓reduceIte,Nat.reduceLeDiff,Nat.reduceAdd,CC,bA]<;>rfl) ?_|refine aD ?_|refine aE ?_|with_reducible first|refine aG ?_|refine aF ?_|refine aK ?_|refine aH ?_|refine aJ ?_|refine aI ?_|refine aL ?_|refine aC ?_))
 refine aB l4 ?_
 refine aBd hm (by omega) fun n1 hn1=>⟨fK g1 g1,?_⟩
 have hql:=(List.getElem?_eq_some_iff.1 hq).1
 have hqe:=(List.getElem?_eq_some_iff.1 hq).2
 refine aB (hmv.ix .i64 (by rw [aCF]; exact hql)) ?_
 have hld:=hmv.load1 (aL0 hql)
 rw [hqe] at hld
 refine aB hld ?_
 have LA:=aDt (ro:=ro) (z:=0) (off:=10) (n:=3) g1 (by simp [scL])
 have hdt:((scL kv tv ev mv most bv s er_).drop 10).take 3=[.int .i64 (s.took:Int),.int .i64 (s.held:Int),.int .i64 s.rule]:=rfl
 rw [hdt] at LA
 (repeat(first|refine aB (by simp (disch:=first|omega|exact nnN _|assumption) only [BB,B2,↓reduceIte,Nat.reduceLeDiff,Nat.reduceAdd,CC,bA]<;>rfl) ?_|refine aD ?_|refine aE ?_|with_reducible first|refine aG ?_|refine aF ?_|refine aK ?_|refine aH ?_|refine aJ ?_|refine aI ?_|refine aL ?_|refine aC ?_))
 refine aB LA ?_
 refine aB aBm ?_
 refine aB aLU ?_
 by_cases ht:s.took=0
 ·have hh0:s.held=0:=by have:=hI.ok.held; omega
  have hr0:s.rule=-1:=by
   by_cases hr:s.rule=-1
   ·exact hr
   ·have:=hI.ok.some hr; omega
  rw [ht,hh0,hr0]
  refine aB aOy ?_
  (repeat(first|refine aB (by simp (disch:=first|omega|exact nnN _|assumption) only [BB,B2,↓reduceIte,Nat.reduceLeDiff,Nat.reduceAdd,CC]<;>rfl) ?_|refine aD ?_|refine aE ?_|with_reducible first|refine aG ?_|refine aF ?_|refine aK ?_|refine aH ?_|refine aJ ?_|refine aI ?_|refine aL ?_|refine aC ?_))
  refine aGZ hMI (aJB mk1) hC512 (hf.mono (by omega)) mk2 (by omega) fun h2 n2 hn2 hf2 hk2 hM2=>?_
  have hv2:=hv.step hq hmap hk2 hM2
  have hts:u0 s=⟨s.took,s.held,s.rule,s.steps,aE0 m⟩:=by unfold u0; rw [if_pos ht,hm8]
  refine aKP (K0:=0) (kv:=kv) (tv:=tv) (ev:=ev) (mv:=mv) (bv:=bv) (q:=q) (t0:=u0 s) hT hI ?_ hf2 hq rfl rfl (hI.lk hT) rfl hsz rfl rfl fun h' n' h3 h4 h5 h6=>hK h' n' (by omega) h4 ((hk2.mono (aGs (List.mem_of_getElem? hq))).trans h5) h6
  rw [hts]
  exact hv2
 ·refine aB (aOz (by omega)) ?_
  (repeat(first|refine aB (by simp (disch:=first|omega|exact nnN _|assumption) only [BB,B2,↓reduceIte,Nat.reduceLeDiff,Nat.reduceAdd,CC]<;>rfl) ?_|refine aD ?_|refine aE ?_|with_reducible first|refine aG ?_|refine aF ?_|refine aK ?_|refine aH ?_|refine aJ ?_|refine aI ?_|refine aL ?_|refine aC ?_))
  have hts:u0 s=⟨s.took,s.held,s.rule,s.steps,m⟩:=by unfold u0; rw [if_neg ht,hm8]
  refine aKP (K0:=0) (kv:=kv) (tv:=tv) (ev:=ev) (mv:=mv) (bv:=bv) (q:=q) (t0:=u0 s) hT hI ?_ (hf.mono (by omega)) hq rfl rfl (hI.lk hT) rfl hsz rfl rfl fun h' n' h3 h4 h5 h6=>hK h' n' (by omega) h4 h5 h6
  rw [hts]
  have:cQ s ⟨s.took,s.held,s.rule,s.steps,m⟩=s:=by
   unfold cQ
   simp only [aNK hm9]
  rw [this]
  exact hv
end
end V
end Go.Proofs.YtcaccnneblghgaaGreat
namespace Go.Proofs.YtcaccnneblghgaaGreat
namespace V
attribute [local irreducible] a9 aN aA
end V
end Go.Proofs.YtcaccnneblghgaaGreat
namespace Go.Proofs.YtcaccnneblghgaaGreat
namespace V
attribute [local irreducible] aA ifP aS cM eQ exP cO
def qG (t:TokD):List Value:=[.int .i64 t.rule,.int .i64 (t.from_:Int),.int .i64 (t.to:Int)]
def tF (l:List TokD):List (List Value):=l.map qG
theorem aGH (l:List TokD):(tF l).length=l.length:=by simp [tF]
section
variable {ro:Ro} {h:T Obj} {nx:Nat} {K:KV}
end
end V
end Go.Proofs.YtcaccnneblghgaaGreat
namespace Go.Proofs.YtcaccnneblghgaaGreat
namespace V
attribute [local irreducible] aA ifP aS cM eQ exP cO
theorem aDM:zer Tryz.prog bQ=some (.agg #[.int .i64 0,.int .i64 0,.int .i64 0]):=by kernel_rfl
theorem aKm (a b c:Int):eX Tryz.prog bQ [(0,.int .i64 a),(1,.int .i64 b),(2,.int .i64 c)]=some (.agg #[.int .i64 a,.int .i64 b,.int .i64 c]):=by kernel_rfl
section
variable {ro:Ro} {h h0 h':T Obj} {nx nx0:Nat} {K:KV} {X:List Nat} {p:Nat} {qs:List MqD} {T:TabD} {most er_ er':Int} {kv tv ev mv bv:Value} {s s':ScD}
theorem ScV.fin {bv':Value} (hm:ScV ro h0 X p qs T most er_ kv tv ev mv bv s) (hk:dU [p] h0 h') (hg:h'.get p=some (.cells (scL kv tv ev mv most bv' s' er').toArray aR)) (hms:s'.ms=s.ms) (hb:Sl ro (del h0 X) bv' 1 (cA s'.kept)):ScV ro h' X p qs T most er' kv tv ev mv bv' s':=by
 obtain ⟨g1,g2,g3,g4,g5,g6,g7,g8,g9⟩:=hm
 have hX:∀ k∈[p],k∈X:=fun k hk=>by simp at hk; subst hk; exact g8
 have hD:Sub (del h0 X) (del h' X):=hk.del hX fun k hk=>.inl hk
 refine ⟨hg,g2.sub hD,g3.sub hD,g4.sub hD (qJ.sub hD),g5.sub hD,hb.sub hD,?_,g8,g9⟩
 rw [hms]
 exact g7.keep hk hX (fun q hq k hk=>by simp at hk; subst hk; exact g9 q hq) (fun k hk=>.inl hk) fun k hk=>hk
set_option maxRecDepth 8000 in
set_option maxHeartbeats 2000000 in
theorem aMG {tb rb:Nat} {e0:Env} (hv:ScV ro h0 X p qs T most er_ kv tv ev mv bv s) (hT:TabR T) (hI:ScI T s) (hk:s.kept≠[]) (hsz:s.at_+s.kept.length≤90000) (hf:Fr h nx) (hf0:Fr h0 nx0) (hs:Sub h0 h) (htb:nx0≤tb) (hrb:nx0≤rb) (hne:rb≠tb)
  (gt:h.get tb=some (.cells (qG (rG T s)).toArray bQ)) (gr:h.get rb=some (.cells [Value.int .i64 0,.int .i64 0,.int .i64 0].toArray bQ)) (f0:e0 0=ptr p) (f2:e0 2=ptr rb) (f3:e0 3=ptr tb) (hn:nx0≤nx)
  (hK:∀ h' nx',nx≤nx'→Fr h' nx'→dU [p] h0 h'→ScX ro h' X p qs T most er_ (oX T s)→K (.agg (qG (rG T s)).toArray) h' nx'):jG ro K e0 h nx:=by
 obtain ⟨hl1,hl2⟩:=aGc hI.ok hk
 have g10:=hv.1
 have g1:=hs _ _ g10
 have hplt:=hf0.lt' g10
 have hbv:Sl ro (del h0 X) bv 1 (cA s.kept):=hv.2.2.2.2.2.1
 have hpX:p∈X:=hv.2.2.2.2.2.2.2.1
 have hbvh:=(hbv.sub (gW h0 X)).sub hs
 unfold jG
 rw [f0,f3]
 have t0:=aZ (ro:=ro) (z:=0) gt (show (qG (rG T s))[0]?=some (.int .i64 (lS T s)) from rfl)
 have t1:=aZ (ro:=ro) (z:=0) gt (show (qG (rG T s))[1]?=some (.int .i64 (s.at_:Int)) from rfl)
 have t2:=aZ (ro:=ro) (z:=0) gt (show (qG (rG T s))[2]?=some (.int .i64 ((s.at_+fF s:Nat):Int)) from rfl)
 have l6:=aZ (ro:=ro) (z:=0) g1 (show (scL kv tv ev mv most bv s er_)[6]?=some bv from rfl)
 (repeat(first|refine aB (by simp (disch:=first|omega|exact nnN _|assumption) only [BB,B2,↓reduceIte,Nat.reduceLeDiff,Nat.reduceAdd,CC]<;>rfl) ?_|refine aD ?_|refine aE ?_|with_reducible first|refine aG ?_|refine aF ?_|refine aK ?_|refine aH ?_|refine aJ ?_|refine aI ?_|refine aL ?_|refine aC ?_))
 refine aB t2 ?_
 (repeat(first|refine aB (by simp (disch:=first|omega|exact nnN _|assumption) only [BB,B2,↓reduceIte,Nat.reduceLeDiff,Nat.reduceAdd,CC]<;>rfl) ?_|refine aD ?_|refine aE ?_|with_reducible first|refine aG ?_|refine aF ?_|refine aK ?_|refine aH ?_|refine aJ ?_|refine aI ?_|refine aL ?_|refine aC ?_))
 refine aB t1 ?_
 have hsub1:aO .sub (.int .i64 ((s.at_+fF s:Nat):Int)) (.int .i64 (s.at_:Int))=some (.int .i64 (fF s:Int)):=by
  rw [dL,show ((s.at_+fF s:Nat):Int) - (s.at_:Int)=(fF s:Int) by omega,eP (by omega) (by omega)]
 refine aB hsub1 ?_
 (repeat(first|refine aB (by simp (disch:=first|omega|exact nnN _|assumption) only [BB,B2,↓reduceIte,Nat.reduceLeDiff,Nat.reduceAdd,CC,bA,l6]<;>rfl) ?_|refine aD ?_|refine aE ?_|with_reducible first|refine aG ?_|refine aF ?_|refine aK ?_|refine aH ?_|refine aJ ?_|refine aI ?_|refine aL ?_|refine aC ?_))
 rw [show ((fF s:Nat):Int) - 1=((fF s - 1:Nat):Int) by omega]
 refine aB (hbvh.ix .i64 (by rw [d9]; omega)) ?_
 refine aB (hbvh.load1 (rR (show fF s - 1 < s.kept.length by omega))) ?_
 have hline:aO .eql (.int .u8 (s.kept[fF s - 1]:Nat)) (.int .u8 10)=some (.bool (decide (s.kept.getD (fF s - 1) 0=10))):=by
  rw [aT,List.getD_eq_getElem?_getD,List.getElem?_eq_getElem (show fF s - 1 < s.kept.length by omega)]
  have:(((s.kept[fF s - 1]:Nat):Int)=10) ↔ ((some s.kept[fF s - 1]).getD 0=10):=by
   show (((s.kept[fF s - 1]:Nat):Int)=10) ↔ (s.kept[fF s - 1]=10)
   omega
  simp only [this]
 refine aB hline ?_
 (repeat(first|refine aB (by simp (disch:=first|omega|exact nnN _|assumption) only [BB,B2,↓reduceIte,Nat.reduceLeDiff,Nat.reduceAdd,CC,bA]<;>rfl) ?_|refine aD ?_|refine aE ?_|with_reducible first|refine aG ?_|refine aF ?_|refine aK ?_|refine aH ?_|refine aJ ?_|refine aI ?_|refine aL ?_|refine aC ?_))
 generalize hL:decide (s.kept.getD (fF s - 1) 0=10)=L
 refine aB (dN g1 (by simp [scL]) rfl rfl) ?_
 have hov1:(scL kv tv ev mv most bv s er_).set 8 (.bool L)=scL kv tv ev mv most bv { s with line:=L } er_:=rfl
 rw [hov1]
 generalize hh1:h.upd p (some (.cells (scL kv tv ev mv most bv { s with line:=L } er_).toArray aR))=h1
 have g2:h1.get p=some (.cells (scL kv tv ev mv most bv { s with line:=L } er_).toArray aR):=by rw [← hh1,V.T.get_upd_same]
 have gt1:h1.get tb=some (.cells (qG (rG T s)).toArray bQ):=by rw [← hh1,V.T.get_upd_ne _ _ (by omega)]; exact gt
 have gr1:h1.get rb=some (.cells [Value.int .i64 0,.int .i64 0,.int .i64 0].toArray bQ):=by rw [← hh1,V.T.get_upd_ne _ _ (by omega)]; exact gr
 have hk1:dU [p] h0 h1:=by rw [← hh1]; exact hs.keepL.upd (by simp)
 have hf1:Fr h1 nx:=by rw [← hh1]; exact hf.upd (Nat.le_refl _) (by omega)
 have l62:=aZ (ro:=ro) (z:=0) g2 (show (scL kv tv ev mv most bv { s with line:=L } er_)[6]?=some bv from rfl)
 (repeat(first|refine aB (by simp (disch:=first|omega|exact nnN _|assumption) only [BB,B2,↓reduceIte,Nat.reduceLeDiff,Nat.reduceAdd,CC,bA,l62]<;>rfl) ?_|refine aD ?_|refine aE ?_|with_reducible first|refine aG ?_|refine aF ?_|refine aK ?_|refine aH ?_|refine aJ ?_|refine aI ?_|refine aL ?_|refine aC ?_))
 obtain ⟨rv,hrv1,hrv2⟩:=Sl.drop (P:=Tryz.prog) hbv oO aJt (n:=fF s) (by rw [d9]; exact hl2) .i64
 have hdr:(cA s.kept).drop (fF s)=cA (s.kept.drop (fF s)):=by simp [cA]
 rw [hdr] at hrv2
 refine aB hrv1 ?_
 have t21:=aZ (ro:=ro) (z:=0) gt1 (show (qG (rG T s))[2]?=some (.int .i64 ((s.at_+fF s:Nat):Int)) from rfl)
 (repeat(first|refine aB (by simp (disch:=first|omega|exact nnN _|assumption) only [BB,B2,↓reduceIte,Nat.reduceLeDiff,Nat.reduceAdd,CC]<;>rfl) ?_|refine aD ?_|refine aE ?_|with_reducible first|refine aG ?_|refine aF ?_|refine aK ?_|refine aH ?_|refine aJ ?_|refine aI ?_|refine aL ?_|refine aC ?_))
 refine aB t21 ?_
 have hrvf:∃ o n c,rv=.slice o n c:=by
  rcases hrv2 with ⟨h9,_⟩ | ⟨a,c,h9,_⟩
  ·exact ⟨_,_,_,h9⟩
  ·exact ⟨_,_,_,h9⟩
 (repeat(first|refine aB (by simp (disch:=first|omega|exact nnN _|assumption) only [BB,B2,↓reduceIte,Nat.reduceLeDiff,Nat.reduceAdd,CC,bA]<;>rfl) ?_|refine aD ?_|refine aE ?_|with_reducible first|refine aG ?_|refine aF ?_|refine aK ?_|refine aH ?_|refine aJ ?_|refine aI ?_|refine aL ?_|refine aC ?_))
 refine aB (dN g2 (by simp [scL]) hrv2.ok (by obtain ⟨o,n,c,h9⟩:=hrvf; rw [h9]; rfl)) ?_
 have hov2:(scL kv tv ev mv most bv { s with line:=L } er_).set 6 rv=scL kv tv ev mv most rv { s with line:=L,kept:=s.kept.drop (fF s) } er_:=rfl
 rw [hov2]
 generalize hh2:h1.upd p (some (.cells (scL kv tv ev mv most rv { s with line:=L,kept:=s.kept.drop (fF s) } er_).toArray aR))=h2
 have g3:h2.get p=some (.cells (scL kv tv ev mv most rv { s with line:=L,kept:=s.kept.drop (fF s) } er_).toArray aR):=by rw [← hh2,V.T.get_upd_same]
 have gt2:h2.get tb=some (.cells (qG (rG T s)).toArray bQ):=by rw [← hh2,V.T.get_upd_ne _ _ (by omega)]; exact gt1
 have gr2:h2.get rb=some (.cells [Value.int .i64 0,.int .i64 0,.int .i64 0].toArray bQ):=by rw [← hh2,V.T.get_upd_ne _ _ (by omega)]; exact gr1
 have hk2:dU [p] h0 h2:=by rw [← hh2]; exact hk1.upd (by simp)
 have hf2:Fr h2 nx:=by rw [← hh2]; exact hf1.upd (Nat.le_refl _) (by omega)
 refine ⟨fK gt1 gt2,?_⟩
 (repeat(first|refine aB (by simp (disch:=first|omega|exact nnN _|assumption) only [BB,B2,↓reduceIte,Nat.reduceLeDiff,Nat.reduceAdd,CC,bA]<;>rfl) ?_|refine aD ?_|refine aE ?_|with_reducible first|refine aG ?_|refine aF ?_|refine aK ?_|refine aH ?_|refine aJ ?_|refine aI ?_|refine aL ?_|refine aC ?_))
 refine aB (dN g3 (by simp [scL]) rfl rfl) ?_
 have hov3:(scL kv tv ev mv most rv { s with line:=L,kept:=s.kept.drop (fF s) } er_).set 7 (.int .i64 ((s.at_+fF s:Nat):Int))=scL kv tv ev mv most rv { s with line:=L,kept:=s.kept.drop (fF s),at_:=s.at_+fF s } er_:=rfl
 rw [hov3]
 generalize hh3:h2.upd p (some (.cells (scL kv tv ev mv most rv { s with line:=L,kept:=s.kept.drop (fF s),at_:=s.at_+fF s } er_).toArray aR))=h3
 have g4:h3.get p=some (.cells (scL kv tv ev mv most rv { s with line:=L,kept:=s.kept.drop (fF s),at_:=s.at_+fF s } er_).toArray aR):=by rw [← hh3,V.T.get_upd_same]
 have gt3:h3.get tb=some (.cells (qG (rG T s)).toArray bQ):=by rw [← hh3,V.T.get_upd_ne _ _ (by omega)]; exact gt2
 have gr3:h3.get rb=some (.cells [Value.int .i64 0,.int .i64 0,.int .i64 0].toArray bQ):=by rw [← hh3,V.T.get_upd_ne _ _ (by omega)]; exact gr2
 have hk3:dU [p] h0 h3:=by rw [← hh3]; exact hk2.upd (by simp)
 have hf3:Fr h3 nx:=by rw [← hh3]; exact hf2.upd (Nat.le_refl _) (by omega)
 refine aB aBm ?_
 (repeat(first|refine aB (by simp (disch:=first|omega|exact nnN _|assumption) only [BB,B2,↓reduceIte,Nat.reduceLeDiff,Nat.reduceAdd,CC,bA]<;>rfl) ?_|refine aD ?_|refine aE ?_|with_reducible first|refine aG ?_|refine aF ?_|refine aK ?_|refine aH ?_|refine aJ ?_|refine aI ?_|refine aL ?_|refine aC ?_))
 refine aB (aEd (vs:=[.int .i64 0,.int .i64 0,.int .i64 (-1)]) g4 rfl rfl (by simp [scL]) rfl) ?_
 have hov4:over (scL kv tv ev mv most rv { s with line:=L,kept:=s.kept.drop (fF s),at_:=s.at_+fF s } er_) 10 [.int .i64 0,.int .i64 0,.int .i64 (-1)]=scL kv tv ev mv most rv { s with line:=L,kept:=s.kept.drop (fF s),at_:=s.at_+fF s,took:=0,held:=0,rule:=-1 } er_:=rfl
 rw [hov4]
 generalize hh4:h3.upd p (some (.cells (scL kv tv ev mv most rv { s with line:=L,kept:=s.kept.drop (fF s),at_:=s.at_+fF s,took:=0,held:=0,rule:=-1 } er_).toArray aR))=h4
 have g5:h4.get p=some (.cells (scL kv tv ev mv most rv { s with line:=L,kept:=s.kept.drop (fF s),at_:=s.at_+fF s,took:=0,held:=0,rule:=-1 } er_).toArray aR):=by rw [← hh4,V.T.get_upd_same]
 have gt4:h4.get tb=some (.cells (qG (rG T s)).toArray bQ):=by rw [← hh4,V.T.get_upd_ne _ _ (by omega)]; exact gt3
 have gr4:h4.get rb=some (.cells [Value.int .i64 0,.int .i64 0,.int .i64 0].toArray bQ):=by rw [← hh4,V.T.get_upd_ne _ _ (by omega)]; exact gr3
 have hk4:dU [p] h0 h4:=by rw [← hh4]; exact hk3.upd (by simp)
 have hf4:Fr h4 nx:=by rw [← hh4]; exact hf3.upd (Nat.le_refl _) (by omega)
 have hj2:∀ (e':Env) (h5:V.T Obj) (n':Nat),e' 2=ptr rb→e' 3=ptr tb→nx≤n'→Fr h5 n'→dU [p] h0 h5→h5.get tb=some (.cells (qG (rG T s)).toArray bQ)→h5.get rb=some (.cells [Value.int .i64 0,.int .i64 0,.int .i64 0].toArray bQ) →
   h5.get p=some (.cells (scL kv tv ev mv most rv (oX T s) er_).toArray aR)→jH ro K e' h5 n':=by
  intro e' h5 n' d2 d3 dn df dk dt dr dp
  unfold jH
  rw [d2,d3]
  refine aB (c8 dt rfl) ?_
  refine aB (lJ (vs:=qG (rG T s)) dr rfl rfl rfl rfl) ?_
  refine aB (c8 (by rw [V.T.get_upd_same]) rfl) ?_
  refine ⟨_,Sub.refl _,hK _ _ (by omega) ((df.mono (by omega)).upd (Nat.le_refl _) (by have:=df.lt' dr; omega)) ?_ ?_⟩
  ·intro k o hko hnk
   have:=hf0.lt' hko
   rw [V.T.get_upd_ne _ _ (by omega)]
   exact dk k o hko hnk
  ·refine (ScV.fin hv (bv':=rv) (s':=oX T s) (er':=er_) ?_ ?_ rfl hrv2).x
   ·intro k o hko hnk
    have:=hf0.lt' hko
    rw [V.T.get_upd_ne _ _ (by omega)]
    exact dk k o hko hnk
   ·rw [V.T.get_upd_ne _ _ (by omega)]
    exact dp
 have t04:=aZ (ro:=ro) (z:=0) gt4 (show (qG (rG T s))[0]?=some (.int .i64 (lS T s)) from rfl)
 (repeat(first|refine aB (by simp (disch:=first|omega|exact nnN _|assumption) only [BB,B2,↓reduceIte,Nat.reduceLeDiff,Nat.reduceAdd,CC]<;>rfl) ?_|refine aD ?_|refine aE ?_|with_reducible first|refine aG ?_|refine aF ?_|refine aK ?_|refine aH ?_|refine aJ ?_|refine aI ?_|refine aL ?_|refine aC ?_))
 refine aB t04 ?_
 by_cases hr:lS T s=-1
 ·have hcut:oX T s={ s with line:=L,kept:=s.kept.drop (fF s),at_:=s.at_+fF s,took:=0,held:=0,rule:=-1 }:=by
   unfold oX aDZ
   rw [hL,if_neg (by rw [hr]; simp)]
  refine aCb hr ?_
  (repeat(first|refine aB (by simp (disch:=first|omega|exact nnN _|assumption) only [BB,B2,↓reduceIte,Nat.reduceLeDiff,Nat.reduceAdd,CC]<;>rfl) ?_|refine aD ?_|refine aE ?_|with_reducible first|refine aG ?_|refine aF ?_|refine aK ?_|refine aH ?_|refine aJ ?_|refine aI ?_|refine aL ?_|refine aC ?_))
  refine hj2 _ _ _ f2 f3 ?_ ?_ hk4 gt4 gr4 (by rw [hcut]; exact g5)
  ·omega
  ·exact hf4.mono (by omega)
 ·obtain ⟨he1,he2,m9,hm9,_⟩:=hI.at
  have hrng:0≤lS T s∧lS T s < T.kinds.length:=by
   have hsr:s.rule≠-1:=fun e=>hr (by unfold lS; rw [if_pos e])
   have h9:=hI.ru.resolve_left hsr
   unfold lS
   rw [if_neg hsr,List.getD_eq_getElem?_getD,List.getElem?_eq_getElem (show s.rule.toNat < (rW T s).rules.length by omega)]
   exact hT.rk _ he2 _ (List.getElem_mem _)
  have htl:(lS T s).toNat < T.to.length:=by rw [hT.to]; omega
  have htv:Sl ro h4 tv 1 (jV T.to):=hv.2.2.1.sub (hk4.delS fun k hk=>by simp at hk; subst hk; exact hpX)
  have hix:=Sl.ixI htv .i64 hrng.1 (by rw [d8]; omega)
  have hld:=htv.load1 (jK htl)
  have htb9:=hT.tb _ (List.getElem_mem htl)
  have hcl:=hT.len
  have hgd:T.to.getD (lS T s).toNat 0=T.to[(lS T s).toNat]:=by rw [List.getD_eq_getElem?_getD,List.getElem?_eq_getElem htl]; rfl
  generalize T.to[(lS T s).toNat]=tv9 at hld htb9 hgd
  have l24:=aZ (ro:=ro) (z:=0) g5 (show (scL kv tv ev mv most rv { s with line:=L,kept:=s.kept.drop (fF s),at_:=s.at_+fF s,took:=0,held:=0,rule:=-1 } er_)[2]?=some tv from rfl)
  refine aDx hr ?_
  (repeat(first|refine aB (by simp (disch:=first|omega|exact nnN _|assumption) only [BB,B2,↓reduceIte,Nat.reduceLeDiff,Nat.reduceAdd,CC,bA,l24,t04]<;>rfl) ?_|refine aD ?_|refine aE ?_|with_reducible first|refine aG ?_|refine aF ?_|refine aK ?_|refine aH ?_|refine aJ ?_|refine aI ?_|refine aL ?_|refine aC ?_))
  refine aB hix ?_
  (repeat(first|refine aB (by simp (disch:=first|omega|exact nnN _|assumption) only [BB,B2,↓reduceIte,Nat.reduceLeDiff,Nat.reduceAdd,CC]<;>rfl) ?_|refine aD ?_|refine aE ?_|with_reducible first|refine aG ?_|refine aF ?_|refine aK ?_|refine aH ?_|refine aJ ?_|refine aI ?_|refine aL ?_|refine aC ?_))
  refine aB hld ?_
  (repeat(first|refine aB (by simp (disch:=first|omega|exact nnN _|assumption) only [BB,B2,↓reduceIte,Nat.reduceLeDiff,Nat.reduceAdd,CC]<;>rfl) ?_|refine aD ?_|refine aE ?_|with_reducible first|refine aG ?_|refine aF ?_|refine aK ?_|refine aH ?_|refine aJ ?_|refine aI ?_|refine aL ?_|refine aC ?_))
  by_cases htv0:0≤tv9
  ·refine aOq htv0 ?_
   (repeat(first|refine aB (by simp (disch:=first|omega|exact nnN _|assumption) only [BB,B2,↓reduceIte,Nat.reduceLeDiff,Nat.reduceAdd,CC,bA,l24,t04]<;>rfl) ?_|refine aD ?_|refine aE ?_|with_reducible first|refine aG ?_|refine aF ?_|refine aK ?_|refine aH ?_|refine aJ ?_|refine aI ?_|refine aL ?_|refine aC ?_))
   refine aB hix ?_
   (repeat(first|refine aB (by simp (disch:=first|omega|exact nnN _|assumption) only [BB,B2,↓reduceIte,Nat.reduceLeDiff,Nat.reduceAdd,CC]<;>rfl) ?_|refine aD ?_|refine aE ?_|with_reducible first|refine aG ?_|refine aF ?_|refine aK ?_|refine aH ?_|refine aJ ?_|refine aI ?_|refine aL ?_|refine aC ?_))
   refine aB hld ?_
   (repeat(first|refine aB (by simp (disch:=first|omega|exact nnN _|assumption) only [BB,B2,↓reduceIte,Nat.reduceLeDiff,Nat.reduceAdd,CC,bA]<;>rfl) ?_|refine aD ?_|refine aE ?_|with_reducible first|refine aG ?_|refine aF ?_|refine aK ?_|refine aH ?_|refine aJ ?_|refine aI ?_|refine aL ?_|refine aC ?_))
   have hcut:oX T s={ s with line:=L,kept:=s.kept.drop (fF s),at_:=s.at_+fF s,took:=0,held:=0,rule:=-1,cond:=tv9.toNat }:=by
    unfold oX aDZ
    rw [hL,hgd,if_pos ⟨hr,htv0⟩]
   refine aB (dN g5 (by simp [scL]) rfl rfl) ?_
   have hov5:(scL kv tv ev mv most rv { s with line:=L,kept:=s.kept.drop (fF s),at_:=s.at_+fF s,took:=0,held:=0,rule:=-1 } er_).set 9 (.int .i64 tv9)=scL kv tv ev mv most rv (oX T s) er_:=by
    rw [hcut]
    obtain ⟨n9,rfl⟩:∃ n9:Nat,tv9=(n9:Int):=⟨tv9.toNat,by omega⟩
    rfl
   rw [hov5]
   refine hj2 _ _ _ f2 f3 ?_ ?_ ?_ ?_ ?_ ?_
   ·omega
   ·exact (hf4.mono (by omega)).upd (Nat.le_refl _) (by omega)
   ·exact hk4.upd (by simp)
   ·rw [V.T.get_upd_ne _ _ (by omega)]; exact gt4
   ·rw [V.T.get_upd_ne _ _ (by omega)]; exact gr4
   ·rw [V.T.get_upd_same]
  ·refine aOp (by omega) ?_
   (repeat(first|refine aB (by simp (disch:=first|omega|exact nnN _|assumption) only [BB,B2,↓reduceIte,Nat.reduceLeDiff,Nat.reduceAdd,CC]<;>rfl) ?_|refine aD ?_|refine aE ?_|with_reducible first|refine aG ?_|refine aF ?_|refine aK ?_|refine aH ?_|refine aJ ?_|refine aI ?_|refine aL ?_|refine aC ?_))
   have hcut:oX T s={ s with line:=L,kept:=s.kept.drop (fF s),at_:=s.at_+fF s,took:=0,held:=0,rule:=-1 }:=by
    unfold oX aDZ
    rw [hL,hgd,if_neg (fun e=>htv0 e.2)]
   refine hj2 _ _ _ f2 f3 ?_ ?_ hk4 gt4 gr4 (by rw [hcut]; exact g5)
   ·omega
   ·exact hf4.mono (by omega)
set_option maxRecDepth 8000 in
set_option maxHeartbeats 2000000 in
theorem aJr (hm:ScX ro h X p qs T most er_ s) (hT:TabR T) (hI:ScI T s) (hTl:T.entries.length≤1000) (hk:s.kept≠[]) (hsz:s.at_+s.kept.length≤90000) (hf:Fr h nx)
  (hK:∀ h' nx',nx≤nx'→Fr h' nx'→dU [p] h h'→ScX ro h' X p qs T most er_ (oX T s)→K (.agg (qG (rG T s)).toArray) h' nx'):aN Tryz.prog ro mT [ptr p] h nx K:=by
 obtain ⟨kv,tv,ev,mv,bv,hv⟩:=id hm
 have hv:ScV ro h X p qs T most er_ kv tv ev mv bv s:=hv
 obtain ⟨he1,he2,m9,hm9,_⟩:=hI.at
 have g0:=hv.1
 have hpl:=hf.lt' g0
 have hc:=hI.c
 have hat:s.at_≤90000:=by omega
 have hkl:0 < s.kept.length:=List.length_pos_iff.2 hk
 apply aAC
 unfold o6
 refine aB aDM ?_
 refine aGm (m:=nx) hf (Nat.le_refl _) fun h1 hs1 hf1 g1 _=>?_
 have g1:h1.get nx=some (.cells [Value.int .i64 0,.int .i64 0,.int .i64 0].toArray bQ):=g1
 have g01:=hs1 _ _ g0
 have l7:=aZ (ro:=ro) (z:=0) g01 (show (scL kv tv ev mv most bv s er_)[7]?=some (.int .i64 (s.at_:Int)) from rfl)
 (repeat(first|refine aB (by simp (disch:=first|omega|exact nnN _|assumption) only [BB,B2,↓reduceIte,Nat.reduceLeDiff,Nat.reduceAdd,CC,bA,l7]<;>rfl) ?_|refine aD ?_|refine aE ?_|with_reducible first|refine aG ?_|refine aF ?_|refine aK ?_|refine aH ?_|refine aJ ?_|refine aI ?_|refine aL ?_|refine aC ?_))
 refine aB (aKm _ _ _) ?_
 refine jL (x:=[.int .i64 (-1),.int .i64 (s.at_:Int),.int .i64 ((s.at_:Int)+1)]) (n:=3) aDM rfl rfl rfl rfl hf1 (by omega) fun h2 hs2 hf2 g2 _=>?_
 have g02:=hs2 _ _ g01
 have g12:=hs2 _ _ g1
 have l12:=aZ (ro:=ro) (z:=0) g02 (show (scL kv tv ev mv most bv s er_)[12]?=some (.int .i64 s.rule) from rfl)
 (repeat(first|refine aB (by simp (disch:=first|omega|exact nnN _|assumption) only [BB,B2,↓reduceIte,Nat.reduceLeDiff,Nat.reduceAdd,CC,bA,l12]<;>rfl) ?_|refine aD ?_|refine aE ?_|with_reducible first|refine aG ?_|refine aF ?_|refine aK ?_|refine aH ?_|refine aJ ?_|refine aI ?_|refine aL ?_|refine aC ?_))
 by_cases hr:s.rule=-1
 ·refine aCb hr ?_
  (repeat(first|refine aB (by simp (disch:=first|omega|exact nnN _|assumption) only [BB,B2,↓reduceIte,Nat.reduceLeDiff,Nat.reduceAdd,CC]<;>rfl) ?_|refine aD ?_|refine aE ?_|with_reducible first|refine aG ?_|refine aF ?_|refine aK ?_|refine aH ?_|refine aJ ?_|refine aI ?_|refine aL ?_|refine aC ?_))
  have htok:qG (rG T s)=[.int .i64 (-1),.int .i64 (s.at_:Int),.int .i64 ((s.at_:Int)+1)]:=by
   unfold rG qG lS fF
   rw [if_pos hr,if_pos hr]; rfl
  refine aMG (kv:=kv) (tv:=tv) (ev:=ev) (mv:=mv) (bv:=bv) (tb:=nx+11) (rb:=nx) hv hT hI hk hsz ?_ hf (hs1.trans hs2) (by omega) (by omega) (by omega) (by rw [htok]; exact g2) g12 rfl rfl rfl (by omega) fun h' n' h3 h4 h5 h6=>hK h' n' (by omega) h4 h5 h6
  exact hf2.mono (by omega)
 ·refine aDx hr ?_
  have hru:=hI.ru.resolve_left hr
  have hev:=hv.2.2.2.1
  have hev2:SlR ro h2 ev 260 (qJ ro h2) T.entries:=hev.sub ((gW h X).trans (hs1.trans hs2)) (qJ.sub ((gW h X).trans (hs1.trans hs2)))
  have l3:=aZ (ro:=ro) (z:=0) g02 (show (scL kv tv ev mv most bv s er_)[3]?=some ev from rfl)
  (repeat(first|refine aB (by simp (disch:=first|omega|exact nnN _|assumption) only [BB,B2,↓reduceIte,Nat.reduceLeDiff,Nat.reduceAdd,CC,bA,l3]<;>rfl) ?_|refine aD ?_|refine aE ?_|with_reducible first|refine aG ?_|refine aF ?_|refine aK ?_|refine aH ?_|refine aJ ?_|refine aI ?_|refine aL ?_|refine aC ?_))
  have hm2:ScX ro h2 X p qs T most er_ s:=(hv.sub (hs1.trans hs2)).x
  refine aBd hm2 (by omega) fun n1 hn1=>⟨fK g02 g02,?_⟩
  have hel:=(List.getElem?_eq_some_iff.1 he1).1
  have hee:=(List.getElem?_eq_some_iff.1 he1).2
  obtain ⟨y,⟨rv,hy0,hrv⟩,hy2,hy3,hy4,hy5⟩:=hev2.at hel
  rw [hee] at hrv
  refine aB (hev2.ix .i64 hel) ?_
  refine aB (hy4 259) ?_
  refine aB (hy5 259 _ hy0) ?_
  have l11:=aZ (ro:=ro) (z:=0) g02 (show (scL kv tv ev mv most bv s er_)[11]?=some (.int .i64 (s.held:Int)) from rfl)
  have l72:=aZ (ro:=ro) (z:=0) g02 (show (scL kv tv ev mv most bv s er_)[7]?=some (.int .i64 (s.at_:Int)) from rfl)
  (repeat(first|refine aB (by simp (disch:=first|omega|exact nnN _|assumption) only [BB,B2,↓reduceIte,Nat.reduceLeDiff,Nat.reduceAdd,CC,bA,l12]<;>rfl) ?_|refine aD ?_|refine aE ?_|with_reducible first|refine aG ?_|refine aF ?_|refine aK ?_|refine aH ?_|refine aJ ?_|refine aI ?_|refine aL ?_|refine aC ?_))
  refine ⟨fK g02 g02,?_⟩
  refine aB (Sl.ixI hrv .i64 hru.1 (by rw [d8]; exact hru.2)) ?_
  have hrl:s.rule.toNat < (rW T s).rules.length:=by omega
  refine aB (hrv.load1 (jK hrl)) ?_
  (repeat(first|refine aB (by simp (disch:=first|omega|exact nnN _|assumption) only [BB,B2,↓reduceIte,Nat.reduceLeDiff,Nat.reduceAdd,CC,bA,l72]<;>rfl) ?_|refine aD ?_|refine aE ?_|with_reducible first|refine aG ?_|refine aF ?_|refine aK ?_|refine aH ?_|refine aJ ?_|refine aI ?_|refine aL ?_|refine aC ?_))
  refine ⟨fK g02 g02,?_⟩
  (repeat(first|refine aB (by simp (disch:=first|omega|exact nnN _|assumption) only [BB,B2,↓reduceIte,Nat.reduceLeDiff,Nat.reduceAdd,CC,bA,l11]<;>rfl) ?_|refine aD ?_|refine aE ?_|with_reducible first|refine aG ?_|refine aF ?_|refine aK ?_|refine aH ?_|refine aJ ?_|refine aI ?_|refine aL ?_|refine aC ?_))
  refine ⟨fK g02 g02,?_⟩
  have hhl:s.held≤s.kept.length:=Nat.le_trans hI.ok.held hI.ok.took
  have hadd:aO .add (.int .i64 (s.at_:Int)) (.int .i64 (s.held:Int))=some (.int .i64 ((s.at_+s.held:Nat):Int)):=by
   rw [dB,show (s.at_:Int)+(s.held:Int)=((s.at_+s.held:Nat):Int) by omega,eP (by omega) (by omega)]
  refine aB hadd ?_
  (repeat(first|refine aB (by simp (disch:=first|omega|exact nnN _|assumption) only [BB,B2,↓reduceIte,Nat.reduceLeDiff,Nat.reduceAdd,CC]<;>rfl) ?_|refine aD ?_|refine aE ?_|with_reducible first|refine aG ?_|refine aF ?_|refine aK ?_|refine aH ?_|refine aJ ?_|refine aI ?_|refine aL ?_|refine aC ?_))
  refine aB (dN g2 (Nat.zero_lt_succ _) rfl rfl) ?_
  have hpne:p≠nx+11:=by omega
  have g03:(h2.upd (nx+11) (some (.cells (([Value.int .i64 (-1),.int .i64 (s.at_:Int),.int .i64 ((s.at_:Int)+1)]).set 0 (.int .i64 (rW T s).rules[s.rule.toNat])).toArray bQ))).get p=some (.cells (scL kv tv ev mv most bv s er_).toArray aR):=by
   rw [V.T.get_upd_ne _ _ hpne]; exact g02
  refine ⟨fK g02 g03,fK g02 g03,?_⟩
  (repeat(first|refine aB (by simp (disch:=first|omega|exact nnN _|assumption) only [BB,B2,↓reduceIte,Nat.reduceLeDiff,Nat.reduceAdd,CC]<;>rfl) ?_|refine aD ?_|refine aE ?_|with_reducible first|refine aG ?_|refine aF ?_|refine aK ?_|refine aH ?_|refine aJ ?_|refine aI ?_|refine aL ?_|refine aC ?_))
  have htok:qG (rG T s)=over (([Value.int .i64 (-1),.int .i64 (s.at_:Int),.int .i64 ((s.at_:Int)+1)]).set 0 (.int .i64 (rW T s).rules[s.rule.toNat])) 2 [.int .i64 ((s.at_+s.held:Nat):Int)]:=by
   unfold rG qG lS fF
   rw [if_neg hr,if_neg hr,List.getD_eq_getElem?_getD,List.getElem?_eq_getElem hrl]; rfl
  rw [← htok]
  refine aMG (kv:=kv) (tv:=tv) (ev:=ev) (mv:=mv) (bv:=bv) (tb:=nx+11) (rb:=nx) hv hT hI hk hsz ?_ hf ?_ (by omega) (by omega) (by omega) (V.T.get_upd_same _ _ _) ?_ rfl rfl rfl (by omega) fun h' n' h3 h4 h5 h6=>hK h' n' (by omega) h4 h5 h6
  ·exact ((hf2.mono (by omega)).upd (Nat.le_refl _) (by omega)).upd (Nat.le_refl _) (by omega)
  ·intro k o hko
   have:=hf.lt' hko
   rw [V.T.get_upd_ne _ _ (by omega),V.T.get_upd_ne _ _ (by omega)]
   exact hs2 _ _ (hs1 _ _ hko)
  ·rw [V.T.get_upd_ne _ _ (by omega),V.T.get_upd_ne _ _ (by omega)]
   exact g12
end
end V
end Go.Proofs.YtcaccnneblghgaaGreat
namespace Go.Proofs.YtcaccnneblghgaaGreat
namespace V
attribute [local irreducible] aA ifP aS cM eQ exP cO
theorem aNv (id:Nat) (a b c:Int):bU Tryz.prog hG id 1 [(0,.agg [Value.int .i64 a,.int .i64 b,.int .i64 c].toArray)]=some (.slice (some (own id 3)) 1 1,some (.cells [Value.int .i64 a,.int .i64 b,.int .i64 c].toArray bQ)):=by kernel_rfl
theorem aNY:und Tryz.prog hG=some (.slice bQ):=by kernel_rfl
theorem aO1:∃ i,tin Tryz.prog bQ=some i∧i.size=3∧i.bytes=24:=zL (by kernel_rfl)
section
variable {ro:Ro} {h h':T Obj} {nx:Nat} {K:KV} {X X':List Nat} {p:Nat} {qs:List MqD} {T:TabD} {most er_ er':Int} {s s':ScD}
theorem ScX.shrink (hm:ScX ro h X p qs T most er_ s) (hX:∀ k∈X',k∈X) (hp:∀ k∈tV p qs,k∈X'):ScX ro h X' p qs T most er_ s:=by
 obtain ⟨kv,tv,ev,mv,bv,g1,g2,g3,g4,g5,g6,g7,g8,g9⟩:=hm
 have hD:Sub (del h X) (del h X'):=rU hX
 exact ⟨kv,tv,ev,mv,bv,g1,g2.sub hD,g3.sub hD,g4.sub hD (qJ.sub hD),g5.sub hD,g6.sub hD,g7.shrink hX fun q hq k hk=>hp k (aGs hq k hk),hp p (List.mem_cons_self ..),g9⟩
theorem ScX.keep {ids:List Nat} (hm:ScX ro h X p qs T most er_ s) (hs:dU ids h h') (h1:∀ k∈ids,k∈X) (h2:∀ k∈ids,k ∉ tV p qs) (h3:∀ k∈X',k∈X∨h.get k=none) (h4:∀ k∈X,k∈X'):ScX ro h' X' p qs T most er_ s:=by
 obtain ⟨kv,tv,ev,mv,bv,hv⟩:=hm
 have hv:ScV ro h X p qs T most er_ kv tv ev mv bv s:=hv
 exact (hv.keep hs h1 (fun q hq k hk h9=>h2 k hk (aGs hq k h9)) (fun h9=>h2 p h9 (List.mem_cons_self ..)) h3 h4).x
theorem ScX.own (hm:ScX ro h X p qs T most er_ s):∀ k∈tV p qs,k∈X∧∃ o,h.get k=some o:=fun k hk=>by
 obtain ⟨kv,tv,ev,mv,bv,g1,g2,g3,g4,g5,g6,g7,g8,g9⟩:=hm
 rcases List.mem_cons.1 hk with rfl | hk
 ·exact ⟨g8,_,g1⟩
 ·obtain ⟨q,hq,hk⟩:=List.mem_flatMap.1 hk
  obtain ⟨i,hi⟩:=List.getElem?_of_mem hq
  have hl:=(List.getElem?_eq_some_iff.1 hi).1
  obtain ⟨c,e,h9,_⟩:=(g7.at_ i q _ _ hi (List.getElem?_eq_getElem (by rw [← g7.lq]; exact hl)) (List.getElem?_eq_getElem (by rw [g7.lm,← g7.lq]; exact hl))).ty k hk
  exact ⟨g7.inX hi k hk,_,h9⟩
theorem ScX.ownLt (hm:ScX ro h X p qs T most er_ s) (hf:Fr h nx):∀ k∈tV p qs,k < nx:=fun k hk=>by
 obtain ⟨_,o,h9⟩:=hm.own k hk
 exact hf.lt' h9
theorem aJz (l:List TokD) (t:TokD):tF (l++[t])=tF l++[qG t]:=by simp [tF]
structure TkI (ro:Ro) (X:List Nat) (p:Nat) (qs:List MqD) (T:TabD) (most er_:Int) (h:V.T Obj) (nx:Nat) (s:ScD) (h':V.T Obj) (nx' m:Nat) (s':ScD) (acc:List TokD) (out:Value) (Y:List Nat):Prop where
 km:s'.kept.length≤m
 kp:dU (tV p qs) h h'
 fr':Fr h' nx'
 sc:ScX ro h' (X++Y) p qs T most er_ s'
 oo:dV h' out 3 bQ (tF acc) nx
 ob:∀ b∈kM out,b∈Y
 yn:∀ b∈Y,nx≤b
 ii:ScI T s'
 at':s'.at_+s'.kept.length=s.at_+s.kept.length
 eqT:tG T s.kept.length s=(acc++(tG T m s').1,(tG T m s').2)
 al:acc.length+s'.kept.length≤s.kept.length
 le:nx≤nx'
set_option maxRecDepth 8000 in
set_option maxHeartbeats 2000000 in
theorem aF3 (hm:ScX ro h X p qs T most er_ s) (hT:TabR T) (hI:ScI T s) (hTl:T.entries.length≤1000) (hsz:s.at_+s.kept.length≤400) (hf:Fr h nx)
  (hK:∀ r h' nx',nx≤nx'→Fr h' nx'→dU (tV p qs) h h'→ScX ro h' X p qs T most er_ (tG T s.kept.length s).2→dV h' r 3 bQ (tF (tG T s.kept.length s).1) nx→K r h' nx'):aN Tryz.prog ro iI [ptr p] h nx K:=by
 have hown:=hm.ownLt hf
 apply v9
 unfold mA
 refine bC (fun j e h' nx'=>∃ s' acc out Y,e 0=ptr p∧e 3=out∧TkI ro X p qs T most er_ h nx s h' nx' j s' acc out Y) ?_ (n:=s.kept.length)
  ⟨s,[],.slice none 0 0,[],rfl,rfl,Nat.le_refl _,(Sub.refl _).keepL,hf.mono (by omega),by rw [List.append_nil]; exact hm,dV.nil,(fun b hb=>by cases hb),(fun b hb=>by cases hb),hI,rfl,rfl,by simp,by omega⟩
 rintro j e h' nx' ⟨s',acc,out,Y,e0,e3,ti⟩ Q' hq hx
 obtain ⟨km,kp,fr',sc,oo,ob,yn,ii,at',eqT,al,le⟩:=ti
 obtain ⟨kv,tv,ev,mv,bv,hv⟩:=id sc
 have hv:ScV ro h' (X++Y) p qs T most er_ kv tv ev mv bv s':=hv
 have g1:=hv.1
 unfold oJ
 rw [e0,e3]
 have l6:=aZ (ro:=ro) (z:=0) g1 (show (scL kv tv ev mv most bv s' er_)[6]?=some bv from rfl)
 have hbl:=(hv.2.2.2.2.2.1.sub (gW h' (X++Y))).len
 rw [d9] at hbl
 have hexit:∀ (e':Env) (h2:V.T Obj) (n':Nat) (s2:ScD),e' 3=out→nx≤n'→Fr h2 n'→dU (tV p qs) h h2→ScX ro h2 (X++Y) p qs T most er_ s2→dV h2 out 3 bQ (tF acc) nx→tG T s.kept.length s=(acc,s2)→gX ro K e' h2 n':=by
  intro e' h2 n' s2 d3 dn df dk ds dout deq
  unfold gX
  rw [d3]
  refine ⟨h2,Sub.refl _,hK out h2 _ (by omega) (df.mono (by omega)) dk ?_ ?_⟩
  ·rw [deq]
   exact ds.shrink (fun k hk=>List.mem_append_left _ hk) fun k hk=>(hm.own k hk).1
  ·rw [deq]; exact dout
 (repeat(first|refine aB (by simp (disch:=first|omega|exact nnN _|assumption) only [BB,B2,↓reduceIte,Nat.reduceLeDiff,Nat.reduceAdd,CC,bA,l6]<;>rfl) ?_|refine aD ?_|refine aE ?_|with_reducible first|refine aG ?_|refine aF ?_|refine aK ?_|refine aH ?_|refine aJ ?_|refine aI ?_|refine aL ?_|refine aC ?_))
 refine aB hbl ?_
 by_cases hk:s'.kept=[]
 ·refine aOr (by rw [hk]; simp) ?_
  (repeat(first|refine aB (by simp (disch:=first|omega|exact nnN _|assumption) only [BB,B2,↓reduceIte,Nat.reduceLeDiff,Nat.reduceAdd,CC]<;>rfl) ?_|refine aD ?_|refine aE ?_|with_reducible first|refine aG ?_|refine aF ?_|refine aK ?_|refine aH ?_|refine aJ ?_|refine aI ?_|refine aL ?_|refine aC ?_))
  refine hx _ _ _ _ (fun e=>by cases e) (eB (dA ?_))
  have h9:tG T s.kept.length s=(acc,s'):=by rw [eqT,aNU _ hk]; simp
  refine hexit _ _ _ s' ?_ ?_ ?_ kp sc oo h9
  ·exact e3
  ·omega
  ·exact fr'.mono (by omega)
 ·have hkl:0 < s'.kept.length:=List.length_pos_iff.2 hk
  have hst:=aNN ii
  rw [at'] at hst
  have hst2:(s.at_+s.kept.length)*(s.at_+s.kept.length+1)≤400*401:=Nat.mul_le_mul hsz (by omega)
  refine aOs (by omega) ?_
  (repeat(first|refine aB (by simp (disch:=first|omega|exact nnN _|assumption) only [BB,B2,↓reduceIte,Nat.reduceLeDiff,Nat.reduceAdd,CC]<;>rfl) ?_|refine aD ?_|refine aE ?_|with_reducible first|refine aG ?_|refine aF ?_|refine aK ?_|refine aH ?_|refine aJ ?_|refine aI ?_|refine aL ?_|refine aC ?_))
  refine aIm sc hT ii hTl (by omega) (fr'.mono (by omega)) fun h2 n2 hn2 hf2 hk2 hs2=>?_
  have hI2:=aPD hT ii hk
  have hout2:dV h2 out 3 bQ (tF acc) nx:=oo.keepK hk2 fun id hid hm9=>by
   have:=hown id hm9
   have:=(oo.blk hid).1
   omega
  obtain ⟨m,rfl⟩:∃ m,j=m+1:=⟨j - 1,by omega⟩
  rw [aEn,if_neg hk] at eqT
  cases hB:(fD T s').1 with
  | false =>
   rw [hB] at eqT
   simp only [Bool.false_eq_true,if_false,List.append_nil] at eqT
   (repeat(first|refine aB (by simp (disch:=first|omega|exact nnN _|assumption) only [BB,B2,↓reduceIte,Nat.reduceLeDiff,Nat.reduceAdd,CC]<;>rfl) ?_|refine aD ?_|refine aE ?_|with_reducible first|refine aG ?_|refine aF ?_|refine aK ?_|refine aH ?_|refine aJ ?_|refine aI ?_|refine aL ?_|refine aC ?_))
   refine hx _ _ _ _ (fun e=>by cases e) (eB (dA ?_))
   refine hexit _ _ _ _ ?_ ?_ ?_ (kp.trans hk2) hs2 hout2 eqT
   ·exact e3
   ·omega
   ·exact hf2.mono (by omega)
  | true =>
   rw [hB] at eqT
   simp only [if_true] at eqT
   have hkE:(fD T s').2.kept=s'.kept:=rfl
   have hatE:(fD T s').2.at_=s'.at_:=rfl
   (repeat(first|refine aB (by simp (disch:=first|omega|exact nnN _|assumption) only [BB,B2,↓reduceIte,Nat.reduceLeDiff,Nat.reduceAdd,CC]<;>rfl) ?_|refine aD ?_|refine aE ?_|with_reducible first|refine aG ?_|refine aF ?_|refine aK ?_|refine aH ?_|refine aJ ?_|refine aI ?_|refine aL ?_|refine aC ?_))
   refine aJr hs2 hT hI2 hTl (by rw [hkE]; exact hk) (by rw [hkE,hatE,at']; omega) (hf2.mono (by omega)) fun h3 n3 hn3 hf3 hk3 hs3=>?_
   obtain ⟨hL1,hL2⟩:=aGc hI2.ok (by rw [hkE]; exact hk)
   rw [hkE] at hL2
   have hI3:=aPw hT hI2 (by rw [hkE]; exact hk)
   have hclen:(oX T (fD T s').2).kept.length=s'.kept.length - fF (fD T s').2:=by rw [aKJ,hkE]
   have hcat:(oX T (fD T s').2).at_=s'.at_+fF (fD T s').2:=rfl
   have hrt:(rG T (fD T s').2).rule=-1∨0≤(rG T (fD T s').2).rule∧(rG T (fD T s').2).rule < T.kinds.length:=by
    show lS T (fD T s').2=-1∨0≤lS T (fD T s').2∧lS T (fD T s').2 < T.kinds.length
    obtain ⟨he1,he2,_⟩:=hI2.at
    by_cases hsr:(fD T s').2.rule=-1
    ·left; unfold lS; rw [if_pos hsr]
    ·right
     have h9:=hI2.ru.resolve_left hsr
     unfold lS
     rw [if_neg hsr,List.getD_eq_getElem?_getD,List.getElem?_eq_getElem (show (fD T s').2.rule.toNat < (rW T (fD T s').2).rules.length by omega)]
     exact hT.rk _ he2 _ (List.getElem_mem _)
   generalize rG T (fD T s').2=t at *
   generalize oX T (fD T s').2=sC at *
   refine jL (x:=qG t) (n:=3) aDM rfl rfl rfl rfl hf3 (Nat.le_refl _) fun h4 hs4 hf4 g4 _=>?_
   have hout4:dV h4 out 3 bQ (tF acc) nx:=(hout2.keepK hk3 fun id hid hm9=>by
    simp at hm9
    subst hm9
    have:=hown id (List.mem_cons_self ..)
    have:=(oo.blk hid).1
    omega).keepS hs4
   have hkp4:dU (tV p qs) h h4:=((kp.trans hk2).trans (hk3.mono fun b hb=>by simp at hb; subst hb; exact List.mem_cons_self ..)).trans hs4.keepL
   have hs4x:ScX ro h4 (X++Y) p qs T most er_ sC:=hs3.keep (ids:=[]) hs4.keepL (fun k hk=>by cases hk) (fun k hk=>by cases hk) (fun k hk=>.inl hk) fun k hk=>hk
   have happ:∀ (n75:Nat) (F:Value→Value × Option Obj→Value × V.T Obj × Nat→Env),n3+1≤n75→(∀ x y z,F x y z 0=ptr p)→(∀ x y z,F x y z 3=z.1)→aC9 T t=true →
     aA (loadA ro h4 3 (ptr n3)) fun t33=>aA (bU Tryz.prog hG (n75+2) 1 [(0,t33)]) fun r79=>eQ h4 (n75+2) r79.2 fun h80=>aA (cR Tryz.prog ro h80 (n75+4) #[hG,hG] [out,r79.1]) fun r81=>Q' .normal (F t33 r79 r81) r81.2.1 (r81.2.2+1):=by
    intro n75 F hn75 f0 f3 hkT
    refine aB (c8 g4 rfl) ?_
    obtain ⟨i9,t1,t2,t3⟩:=aO1
    refine aBk (z:=3) (l:=tF acc) (y:=qG t) (aNv _ _ _ _) rfl hout4 aNY t1 (by omega) (by omega) aDM rfl rfl (by rw [aGH,t3]; unfold big; omega) (by rw [aGH]; unfold big; omega) (hf4.mono (by omega)) (by omega) (by omega) (fun e9=>by have:=hf4.lt' (hout4.blk e9).2; omega) fun h5 ho5 hk5 hf5=>?_
    generalize hnv:Value.slice (some (own (n75+4) 3)) (tF acc++[qG t]).length (tF acc++[qG t]).length=out2 at ho5
    have hsb:iN out2=some (n75+4):=by rw [← hnv]; rfl
    have hkk:dU (kM out) h4 h5:=fun b o hb hn9=>hk5 b o hb (by have:=hf4.lt' hb; omega) fun e9=>hn9 (eV.2 e9)
    have hkO:∀ b∈kM out,b ∉ tV p qs:=fun b hb h9=>by
     have:=hown b h9
     have:=yn b (ob b hb)
     omega
    show Q' .normal (F _ _ (out2,h5,n75+4+1)) h5 (n75+4+1+1)
    refine hq m _ _ _ _ (by omega) ⟨sC,acc++[t],out2,Y++[n75+4],f0 _ _ _,f3 _ _ _,by omega,fun b o hb hn9=>?_,hf5.mono (by omega),?_,by rw [aJz]; exact ho5,fun b hb=>?_,fun b hb=>?_,hI3,by rw [hclen,hcat]; omega,?_,by rw [List.length_append,hclen]; show acc.length+1+_≤_; omega,by omega⟩ (Sub.refl _)
    ·refine hkk b o (hkp4 b o hb hn9) fun h9=>?_
     have:=hf.lt' hb
     have:=yn b (ob b h9)
     omega
    ·refine hs4x.keep hkk (fun b hb=>List.mem_append_right _ (ob b hb)) hkO (fun b hb=>?_) fun b hb=>?_
     ·rcases List.mem_append.1 hb with hb | hb
      ·exact .inl (List.mem_append_left _ hb)
      ·rcases List.mem_append.1 hb with hb | hb
       ·exact .inl (List.mem_append_right _ hb)
       ·simp at hb; subst hb; exact .inr (hf4 _ (by omega))
     ·rw [← List.append_assoc]; exact List.mem_append_left _ hb
    ·have:=eV.1 hb
     rw [hsb] at this
     cases this
     exact List.mem_append_right _ (by simp)
    ·rcases List.mem_append.1 hb with hb | hb
     ·exact yn b hb
     ·simp at hb; omega
    ·rw [eqT]
     unfold aOG
     rw [if_pos hkT,List.append_assoc]
   have hnok:∀ (e':Env) (n':Nat),e' 0=ptr p→e' 3=out→n3+1≤n'→aC9 T t=false→Q' .normal e' h4 n':=by
    intro e' n' f0 f3 hn' hkT
    refine hq m _ _ _ _ (by omega) ⟨sC,acc,out,Y,f0,f3,by omega,hkp4,hf4.mono hn',hs4x,hout4,ob,yn,hI3,by rw [hclen,hcat]; omega,?_,by rw [hclen]; omega,by omega⟩ (Sub.refl _)
    rw [eqT]
    unfold aOG
    rw [if_neg (by rw [hkT]; decide),List.nil_append]
   have t0:=aZ (ro:=ro) (z:=0) g4 (show (qG t)[0]?=some (.int .i64 t.rule) from rfl)
   (repeat(first|refine aB (by simp (disch:=first|omega|exact nnN _|assumption) only [BB,B2,↓reduceIte,Nat.reduceLeDiff,Nat.reduceAdd,CC]<;>rfl) ?_|refine aD ?_|refine aE ?_|with_reducible first|refine aG ?_|refine aF ?_|refine aK ?_|refine aH ?_|refine aJ ?_|refine aI ?_|refine aL ?_|refine aC ?_))
   refine aB t0 ?_
   by_cases hr:t.rule=-1
   ·have hkT:aC9 T t=true:=by unfold aC9; rw [decide_eq_true hr]; rfl
    refine aKS hr ?_
    (repeat(first|refine aB (by simp (disch:=first|omega|exact nnN _|assumption) only [BB,B2,↓reduceIte,Nat.reduceLeDiff,Nat.reduceAdd,CC]<;>rfl) ?_|refine aD ?_|refine aE ?_|with_reducible first|refine aG ?_|refine aF ?_|refine aK ?_|refine aH ?_|refine aJ ?_|refine aI ?_|refine aL ?_|refine aC ?_))
    refine happ _ _ ?_ ?_ ?_ hkT
    ·omega
    ·intro x y z; exact e0
    ·intro x y z; rfl
   ·have hrr:=hrt.resolve_left hr
    obtain ⟨kv4,tv4,ev4,mv4,bv4,hv4⟩:=id hs4x
    have hv4:ScV ro h4 (X++Y) p qs T most er_ kv4 tv4 ev4 mv4 bv4 sC:=hv4
    have l1:=aZ (ro:=ro) (z:=0) hv4.1 (show (scL kv4 tv4 ev4 mv4 most bv4 sC er_)[1]?=some kv4 from rfl)
    have hkv:=hv4.2.1.sub (gW h4 (X++Y))
    have hix:=Sl.ixI hkv .i64 hrr.1 (by rw [zX]; exact hrr.2)
    have hkl9:t.rule.toNat < T.kinds.length:=by omega
    have hld:=hkv.load1 (aGF hkl9)
    have hgd:T.kinds.getD t.rule.toNat .empty=T.kinds[t.rule.toNat]:=by rw [List.getD_eq_getElem?_getD,List.getElem?_eq_getElem hkl9]; rfl
    have hkT:aC9 T t=!decide (T.kinds[t.rule.toNat]=.empty):=by
     unfold aC9
     rw [decide_eq_false hr,hgd]
     generalize T.kinds[t.rule.toNat]=b9
     have:(b9.size≠0) ↔ ¬ (b9=.empty):=by
      constructor
      ·intro h9 e9; rw [e9] at h9; exact h9 rfl
      ·intro h9 e9
       apply h9
       obtain ⟨⟨l9⟩⟩:=b9
       have:l9=[]:=List.length_eq_zero_iff.1 e9
       rw [this]; rfl
     by_cases h9:b9=.empty<;>simp [this,h9]
    generalize T.kinds[t.rule.toNat]=ks at hld hkT
    refine aKR hr ?_
    (repeat(first|refine aB (by simp (disch:=first|omega|exact nnN _|assumption) only [BB,B2,↓reduceIte,Nat.reduceLeDiff,Nat.reduceAdd,CC,bA,l1,t0]<;>rfl) ?_|refine aD ?_|refine aE ?_|with_reducible first|refine aG ?_|refine aF ?_|refine aK ?_|refine aH ?_|refine aJ ?_|refine aI ?_|refine aL ?_|refine aC ?_))
    refine aB hix ?_
    (repeat(first|refine aB (by simp (disch:=first|omega|exact nnN _|assumption) only [BB,B2,↓reduceIte,Nat.reduceLeDiff,Nat.reduceAdd,CC]<;>rfl) ?_|refine aD ?_|refine aE ?_|with_reducible first|refine aG ?_|refine aF ?_|refine aK ?_|refine aH ?_|refine aJ ?_|refine aI ?_|refine aL ?_|refine aC ?_))
    refine aB hld ?_
    (repeat(first|refine aB (by simp (disch:=first|omega|exact nnN _|assumption) only [BB,B2,↓reduceIte,Nat.reduceLeDiff,Nat.reduceAdd,CC]<;>rfl) ?_|refine aD ?_|refine aE ?_|with_reducible first|refine aG ?_|refine aF ?_|refine aK ?_|refine aH ?_|refine aJ ?_|refine aI ?_|refine aL ?_|refine aC ?_))
    refine aB (zI ks .empty) ?_
    rw [← hkT]
    cases hkk:aC9 T t with
    | true =>
     (repeat(first|refine aB (by simp (disch:=first|omega|exact nnN _|assumption) only [BB,B2,↓reduceIte,Nat.reduceLeDiff,Nat.reduceAdd,CC]<;>rfl) ?_|refine aD ?_|refine aE ?_|with_reducible first|refine aG ?_|refine aF ?_|refine aK ?_|refine aH ?_|refine aJ ?_|refine aI ?_|refine aL ?_|refine aC ?_))
     refine happ _ _ ?_ ?_ ?_ hkk
     ·omega
     ·intro x y z; exact e0
     ·intro x y z; rfl
    | false =>
     (repeat(first|refine aB (by simp (disch:=first|omega|exact nnN _|assumption) only [BB,B2,↓reduceIte,Nat.reduceLeDiff,Nat.reduceAdd,CC]<;>rfl) ?_|refine aD ?_|refine aE ?_|with_reducible first|refine aG ?_|refine aF ?_|refine aK ?_|refine aH ?_|refine aJ ?_|refine aI ?_|refine aL ?_|refine aC ?_))
     refine hnok _ _ ?_ ?_ ?_ hkk
     ·exact e0
     ·exact e3
     ·omega
end
end V
end Go.Proofs.YtcaccnneblghgaaGreat
namespace Go.Proofs.YtcaccnneblghgaaGreat
namespace V
attribute [local irreducible] aA ifP aS cM eQ exP cO
def u8L (l:List Nat):List Value:=l.map fun b:Nat=>Value.int .u8 (b:Int)
theorem wC (l:List Nat):(u8L l).length=l.length:=by simp [u8L]
theorem aO5 (l m:List Nat):u8L (l++m)=u8L l++u8L m:=by simp [u8L]
theorem aKV:∀ l:List Nat,(cA l).flatten=u8L l
 | []=>rfl
 | x::r=>by
  have:=aKV r
  simp only [cA,List.map_cons,List.flatten_cons] at this ⊢
  rw [this]; rfl
theorem aPm (l:List Nat):(u8L l).all cP=true:=by simp [u8L,cP]
section
variable {ro:Ro} {h:T Obj} {nx:Nat} {K:KV}
theorem aLn {x:Value} (hx:Sl ro h x 1 (cA [])):cR Tryz.prog ro h nx #[bM,bM] [.slice none 0 0,x]=some (.slice none 0 0,h,nx):=by
 obtain ⟨i,h1,h2,h3⟩:=aJy
 have hs:aAD Tryz.prog ro h cJ i.size i.bytes bM x=some (0,[]):=by
  rcases hx with ⟨rfl,_⟩ | ⟨a,c,rfl,_,_,_,h9⟩
  ·simp only [aAD,oO]
  ·have h9:cellsAt ro h a 0=some []:=by simpa [cA] using h9
   simp only [aAD,oO,cA,List.map_nil,List.length_nil,Nat.zero_mul,h9,Option.bind]
 simp only [cR,List.getElem?_toArray,List.getElem?_cons_zero,List.getElem?_cons_succ,oO,h1,Option.bind,hs]
theorem aOx {x:Value} {id len cap:Nat} {C:List Value} {l:List Nat} (hg:h.get id=some (.cells C.toArray cJ)) (hC:C.length=cap) (hx:Sl ro h x 1 (cA l)) (hle:len+l.length≤cap) :
  ∃ h',cR Tryz.prog ro h nx #[bM,bM] [.slice (some (own id 1)) len cap,x]=some (.slice (some (own id 1)) (len+l.length) cap,h',nx)∧h'.get id=some (.cells (over C len (u8L l)).toArray cJ)∧∀ k,k≠id→h'.get k=h.get k:=by
 obtain ⟨i,h1,h2,h3⟩:=aJy
 have hs:aAD Tryz.prog ro h cJ i.size i.bytes bM x=some (l.length,u8L l):=by
  rcases hx with ⟨rfl,h9⟩ | ⟨a,c,rfl,_,_,_,h9⟩
  ·have:l=[]:=by
    cases l with
    | nil=>rfl
    | cons a r=>simp [cA] at h9
   subst this
   simp only [aAD,oO]; rfl
  ·rw [aKV,d9] at h9
   simp only [aAD,oO,d9,h2,h9,Option.bind]
 have hb1:Nat.ble (len+l.length) cap=true:=Nat.ble_eq_true_of_le hle
 cases l with
 | nil =>
  refine ⟨h,?_,?_,fun k _=>rfl⟩
  ·rw [List.length_nil] at hb1 hs
   simp only [cR,List.getElem?_toArray,List.getElem?_cons_zero,List.getElem?_cons_succ,oO,h1,Option.bind,hs,hb1,List.length_nil]; rfl
  ·rw [hg]; simp [over,u8L]
 | cons a r =>
  refine ⟨h.upd id (some (.cells (over C len (u8L (a::r))).toArray cJ)),?_,T.get_upd_same _ _ _,fun k hk=>T.get_upd_ne _ _ hk⟩
  have hst:i5 h (fwd (own id 1) (len*i.size)) (u8L (a::r))=some (h.upd id (some (.cells (over C len (u8L (a::r))).toArray cJ))):=by
   unfold i5
   simp only [own,fwd,hg,aPm,h2,Nat.mul_one,Nat.zero_add]
   have:Nat.ble (len+(u8L (a::r)).length) C.toArray.size=true:=Nat.ble_eq_true_of_le (by rw [wC,List.size_toArray]; omega)
   simp only [this]
  rw [List.length_cons] at hb1 hs
  simp only [cR,List.getElem?_toArray,List.getElem?_cons_zero,List.getElem?_cons_succ,oO,h1,Option.bind,hs,hb1,hst]
  simp only [own,h2,Nat.beq_refl,List.length_cons]
def RB (ro:Ro) (h:V.T Obj) (x:List Value) (l:List Nat):Prop:=∃ w,x=[w]∧Sl ro h w 1 (cA l)
theorem RB.sub {h':V.T Obj} (hs:Sub h h'):∀ x l,RB ro h x l→RB ro h' x l:=fun x l ⟨w,h1,h2⟩=>⟨w,h1,h2.sub hs⟩
theorem aJb (l m:List Nat) {k:Nat} (hk:m.length≤k):over (u8L l++List.replicate k (Value.int .u8 0)) l.length (u8L m)=u8L (l++m)++List.replicate (k - m.length) (Value.int .u8 0):=by
 unfold over
 rw [List.take_append_of_le_length (by rw [wC]; exact Nat.le_refl _),List.take_of_length_le (by rw [wC]; exact Nat.le_refl _),wC,List.drop_append,wC,List.drop_of_length_le (by rw [wC]; omega),List.nil_append,Nat.add_sub_cancel_left,List.drop_replicate,aO5]
def aOu (h:V.T Obj) (nx N:Nat) (pre:List Nat) (w:Value) (h':V.T Obj):Prop:=Sub h h'∧((N=0∧w=.slice none 0 0)∨∃ id,nx≤id∧w=.slice (some (own id 1)) pre.length N∧h'.get id=some (.cells (u8L pre++List.replicate (N - pre.length) (Value.int .u8 0)).toArray cJ))
set_option maxRecDepth 8000 in
theorem aOu.step {N n1:Nat} {pre l:List Nat} {w x:Value} {h':V.T Obj} (hc:aOu h nx N pre w h') (hf:Fr h nx) (hx:Sl ro h' x 1 (cA l)) (hle:pre.length+l.length≤N) {m:Nat} (hf':Fr h' m):∃ w2 h2,cR Tryz.prog ro h' n1 #[bM,bM] [w,x]=some (w2,h2,n1)∧aOu h nx N (pre++l) w2 h2∧Fr h2 m:=by
 obtain ⟨hs,⟨h0,rfl⟩ | ⟨id,h1,rfl,h2⟩⟩:=hc
 ·have hl:l=[]:=List.length_eq_zero_iff.1 (by omega)
  subst hl
  exact ⟨_,_,aLn hx,⟨hs,.inl ⟨h0,rfl⟩⟩,hf'⟩
 ·obtain ⟨h3,g1,g2,g3⟩:=aOx (nx:=n1) h2 (cap:=N) (by rw [List.length_append,wC,List.length_replicate]; omega) hx hle
  refine ⟨_,_,g1,⟨fun k o hk=>?_,.inr ⟨id,h1,by rw [List.length_append],?_⟩⟩,fun k hk=>?_⟩
  ·have:=hf.lt' hk
   rw [g3 k (by omega)]
   exact hs k o hk
  ·rw [g2,aJb pre l (by omega),List.length_append,show N - pre.length - l.length=N - (pre.length+l.length) by omega]
  ·have:=hf'.lt' h2
   rw [g3 k (by omega)]
   exact hf' k hk
end
end V
end Go.Proofs.YtcaccnneblghgaaGreat
namespace Go.Proofs.YtcaccnneblghgaaGreat
namespace V
attribute [local irreducible] aA ifP aS cM eQ exP cO
theorem Sl.form {ro:Ro} {h:T Obj} {v:Value} {z:Nat} {l:List (List Value)} (hl:Sl ro h v z l):∃ o n c,v=.slice o n c:=by
 rcases hl with ⟨h1,_⟩ | ⟨a,c,h1,_⟩
 ·exact ⟨_,_,_,h1⟩
 ·exact ⟨_,_,_,h1⟩
section
variable {ro:Ro} {h h':T Obj} {nx:Nat} {K:KV} {X X':List Nat} {p:Nat} {qs:List MqD} {T:TabD} {most er_ er':Int} {s s':ScD}
theorem aLv (h:ScI T s):ScI T { s with closed:=true }:=⟨⟨h.ok.lt,h.ok.len,h.ok.took,h.ok.held,h.ok.none,h.ok.some⟩,h.c,h.ms,h.ru,h.kb,h.st⟩
theorem aMP {b:Value} (hm:ScX ro h X p qs T most er_ s) (hr:aEZ er_ s.closed≠0) (hK:∀ nx',nx≤nx'→K (.tuple #[.slice none 0 0,.int .i64 (aEZ er_ s.closed)]) h nx'):aN Tryz.prog ro gU [ptr p,b] h nx K:=by
 apply pU
 unfold kK
 refine sW hm fun n1 hn1=>?_
 refine aDx hr ?_
 (repeat(first|refine aB (by simp (disch:=first|omega|exact nnN _|assumption) only [BB,B2,↓reduceIte,Nat.reduceLeDiff,Nat.reduceAdd,CC]<;>rfl) ?_|refine aD ?_|refine aE ?_|with_reducible first|refine aG ?_|refine aF ?_|refine aK ?_|refine aH ?_|refine aJ ?_|refine aI ?_|refine aL ?_|refine aC ?_))
 exact ⟨h,Sub.refl _,hK _ (by omega)⟩
theorem aKr (hm:ScX ro h X p qs T most er_ s) (hr:aEZ er_ s.closed≠0) (hK:∀ nx',nx≤nx'→K (.tuple #[.slice none 0 0,.int .i64 (aEZ er_ s.closed)]) h nx'):aN Tryz.prog ro eM [ptr p] h nx K:=by
 apply kG
 unfold iC
 refine sW hm fun n1 hn1=>?_
 refine aDx hr ?_
 (repeat(first|refine aB (by simp (disch:=first|omega|exact nnN _|assumption) only [BB,B2,↓reduceIte,Nat.reduceLeDiff,Nat.reduceAdd,CC]<;>rfl) ?_|refine aD ?_|refine aE ?_|with_reducible first|refine aG ?_|refine aF ?_|refine aK ?_|refine aH ?_|refine aJ ?_|refine aI ?_|refine aL ?_|refine aC ?_))
 exact ⟨h,Sub.refl _,hK _ (by omega)⟩
set_option maxRecDepth 8000 in
set_option maxHeartbeats 1000000 in
theorem aHI (hm:ScX ro h X p qs T most 0 s) (hT:TabR T) (hI:ScI T s) (hTl:T.entries.length≤1000) (hcl:s.closed=false) (hsz:s.at_+s.kept.length≤400) (hf:Fr h nx)
  (hK:∀ r h' nx',nx≤nx'→Fr h' nx'→dU (tV p qs) h h'→ScX ro h' X p qs T most 0 (aJN T s).2→dV h' r 3 bQ (tF (aJN T s).1) nx→K (.tuple #[r,.int .i64 0]) h' nx'):aN Tryz.prog ro eM [ptr p] h nx K:=by
 have hr:aEZ 0 s.closed=0:=by unfold aEZ; rw [if_neg (by rw [hcl]; simp)]
 apply kG
 unfold iC
 refine sW hm fun n1 hn1=>?_
 refine aCb hr ?_
 obtain ⟨kv,tv,ev,mv,bv,hv⟩:=id hm
 have hv:ScV ro h X p qs T most 0 kv tv ev mv bv s:=hv
 have g1:=hv.1
 (repeat(first|refine aB (by simp (disch:=first|omega|exact nnN _|assumption) only [BB,B2,↓reduceIte,Nat.reduceLeDiff,Nat.reduceAdd,CC,bA]<;>rfl) ?_|refine aD ?_|refine aE ?_|with_reducible first|refine aG ?_|refine aF ?_|refine aK ?_|refine aH ?_|refine aJ ?_|refine aI ?_|refine aL ?_|refine aC ?_))
 refine aB (dN g1 (by simp [scL]) rfl rfl) ?_
 have hov:(scL kv tv ev mv most bv s 0).set 14 (.bool true)=scL kv tv ev mv most bv { s with closed:=true } 0:=rfl
 rw [hov]
 have hv1:=hv.upd (s':={ s with closed:=true }) (er':=0) rfl rfl
 have hk1:dU (tV p qs) h (h.upd p (some (.cells (scL kv tv ev mv most bv { s with closed:=true } 0).toArray aR))):=(Sub.refl _).keepL.upd (List.mem_cons_self ..)
 refine aF3 hv1.x hT (aLv hI) hTl hsz ((hf.mono (by omega)).upd (Nat.le_refl _) (by have:=hf.lt' g1; omega)) fun r h2 n2 hn2 hf2 hk2 hs2 ho2=>?_
 (repeat(first|refine aB (by simp (disch:=first|omega|exact nnN _|assumption) only [BB,B2,↓reduceIte,Nat.reduceLeDiff,Nat.reduceAdd,CC]<;>rfl) ?_|refine aD ?_|refine aE ?_|with_reducible first|refine aG ?_|refine aF ?_|refine aK ?_|refine aH ?_|refine aJ ?_|refine aI ?_|refine aL ?_|refine aC ?_))
 refine ⟨h2,Sub.refl _,?_⟩
 exact hK r h2 _ (by omega) (hf2.mono (by omega)) (hk1.trans hk2) hs2 (ho2.mono (by omega))
end
end V
end Go.Proofs.YtcaccnneblghgaaGreat
namespace Go.Proofs.YtcaccnneblghgaaGreat
namespace V
attribute [local irreducible] aA ifP aS cM eQ exP cO
theorem aMi (h:T Obj) (a b:Int):fO Tryz.prog h .min #[dW,dW] [.int .i64 a,.int .i64 b]=some (.int .i64 (if b < a then b else a)):=by
 simp only [fO,aK0,aJ3]
 by_cases hb:b < a<;>simp [hb]
theorem aQK (id off z:Nat):vU .neq (at_ id off z) (.pointer none)=some (.bool true):=rfl
theorem aQS {ro:Ro} {h:T Obj} {v:Value} {l:List Nat} (hv:SlR ro h v 1 RU8 l):Sl ro h v 1 (cA l)∧∀ x∈l,x < 256:=by
 obtain ⟨cs,h1,h2,h3⟩:=hv
 have e:cs=cA l:=by
  apply List.ext_getElem?
  intro i
  rcases Nat.lt_or_ge i l.length with hi | hi
  ·have hx:cs[i]?=some (cs[i]'(by omega)):=List.getElem?_eq_getElem _
   have:=(h3 i _ _ hx (List.getElem?_eq_getElem hi)).1
   rw [hx,this,rR hi]
  ·rw [List.getElem?_eq_none (by omega),List.getElem?_eq_none (by rw [d9]; omega)]
 refine ⟨by rw [← e]; exact h1,fun x hx=>?_⟩
 obtain ⟨i,hi⟩:=List.getElem?_of_mem hx
 have hl:=(List.getElem?_eq_some_iff.1 hi).1
 exact (h3 i _ x (List.getElem?_eq_getElem (by omega)) hi).2
theorem dU.base {ids:List Nat} {h0 h h':T Obj} {n0:Nat} (hk:dU ids h h') (hs:Sub h0 h) (hf:Fr h0 n0) (hi:∀ k∈ids,n0≤k):Sub h0 h':=fun k o hk0=>hk k o (hs k o hk0) fun h9=>by
 have:=hf.lt' hk0
 have:=hi k h9
 omega
theorem aCk.right {ro:Ro} {h:T Obj} {x:List Value} {Tb:TabD} (hd:aCk ro h x Tb) (hr:fM Tb=true):TabR Tb:=by
 obtain ⟨cv,kv0,tv0,ev0,rfl,q1,q2,q3,q4,q5,q6,q7,q8⟩:=id hd
 refine (aIc hr fun e he=>?_).1
 obtain ⟨j,hj⟩:=List.getElem?_of_mem he
 obtain ⟨hlt,rfl⟩:=List.getElem?_eq_some_iff.1 hj
 obtain ⟨y,⟨ax,rv,_,hA,_⟩,_⟩:=q4.at hlt
 obtain ⟨cv9,sv9,_,hc9,_⟩:=hA
 exact hc9
end V
end Go.Proofs.YtcaccnneblghgaaGreat
namespace Go.Proofs.YtcaccnneblghgaaGreat
namespace V
abbrev b0:Value:=.int .u8 0
abbrev b1:Value:=.int .u8 1
abbrev j0:Value:=.int .i64 0
abbrev jm:Value:=.int .i64 (-1)
abbrev s0:Value:=.slice none 0 0
def kTf (o:Obj):T Obj:=.n .e (some o) .e
def kTl (x:T Obj):T Obj:=.n x none .e
def kTr (x:T Obj):T Obj:=.n .e none x
def kTb (x y:T Obj):T Obj:=.n x none y
def kTn (x:T Obj) (o:Obj) (y:T Obj):T Obj:=.n x (some o) y
set_option maxRecDepth 1000000
def kO0:Obj:=.cells ⟨[.slice (some ⟨1009,0,(some 1)⟩) 1 1,.bool false,.bool false,.string ⟨⟨[65]⟩⟩,jm,.int .i64 11,.slice (some ⟨1706,0,(some 9)⟩) 2 2]⟩ 90
def kO1:Obj:=.cells ⟨[j0]⟩ 3
def kO2:Obj:=.cells ⟨[.string ⟨⟨[115,116,97,114,116]⟩⟩]⟩ 9
def kO3:Obj:=.cells ⟨[.int .u8 2,.int .u64 0,.int .u64 8589934592,.int .u64 0,.int .u64 0,s0,j0,j0,.string ⟨⟨[]⟩⟩,.int .u8 5,.int .u64 0,.int .u64 0,.int .u64 0,.int .u64 0,.slice (some ⟨1688,0,(some 1)⟩) 1 1,.int .i64 1,jm,.string ⟨⟨[]⟩⟩]⟩ 86
def kV4:List Value:=[.string ⟨⟨[114,117,108,101,32,42,32,45,32,65,32,97,43]⟩⟩]
def kV5:Value:=.tuple ⟨[.agg ⟨[.slice (some ⟨8,0,(some 1)⟩) 1 1,s0,.slice (some ⟨1915,0,(some 7)⟩) 1 1]⟩,j0,j0]⟩
def rT:Cp where
 f:=aFJ
 args:=kV4
 h:=.e
 nx:=2
 v:=kV5
 h':=kTb (kTb (kTr (kTr (kTr (kTr (kTr (kTl (kTr (kTr (kTf kO0))))))))) (kTl (kTl (kTr (kTr (kTr (kTr (kTr (kTf kO1))))))))) (kTb (kTl (kTn .e kO2 (kTr (kTl (kTl (kTr (kTl (kTr (kTf kO1))))))))) (kTl (kTr (kTl (kTr (kTl (kTr (kTl (kTr (kTf kO3))))))))))
 nx':=2425
theorem iS:rL Tryz.prog rT:=s6 jY (l:=[]) jX (k:=200) fun ro=>by kernel_rfl
end V
end Go.Proofs.YtcaccnneblghgaaGreat
namespace Go.Proofs.YtcaccnneblghgaaGreat
namespace V
set_option maxRecDepth 1000000
def kO6:Obj:=.cells ⟨[.slice (some ⟨8,0,(some 1)⟩) 1 1,s0,.slice (some ⟨1915,0,(some 7)⟩) 1 1]⟩ 26
def kO7:Obj:=.cells ⟨[s0,s0,s0,s0]⟩ 34
def kV8:List Value:=[.agg ⟨[.slice (some ⟨8,0,(some 1)⟩) 1 1,s0,.slice (some ⟨1915,0,(some 7)⟩) 1 1]⟩]
def wI:Cp where
 f:=aFK
 args:=kV8
 h:=kTb (kTb (kTr (kTb (kTl (kTl (kTl (kTr (kTr (kTl (kTl (kTf kO6)))))))) (kTr (kTr (kTr (kTl (kTr (kTr (kTf kO0))))))))) (kTb (kTl (kTr (kTr (kTr (kTr (kTr (kTf kO1))))))) (kTr (kTr (kTr (kTr (kTl (kTr (kTl (kTl (kTf kO6))))))))))) (kTb (kTb (kTn .e kO2 (kTr (kTl (kTl (kTr (kTl (kTr (kTf kO1)))))))) (kTl (kTl (kTl (kTl (kTr (kTr (kTl (kTl (kTf kO7)))))))))) (kTl (kTr (kTl (kTr (kTl (kTr (kTl (kTr (kTf kO3))))))))))
 nx:=2441
 v:=.bool true
 h':=kTb (kTb (kTr (kTb (kTl (kTl (kTl (kTr (kTr (kTl (kTl (kTf kO6)))))))) (kTr (kTr (kTr (kTl (kTr (kTr (kTf kO0))))))))) (kTb (kTl (kTr (kTr (kTr (kTr (kTr (kTf kO1))))))) (kTr (kTr (kTr (kTr (kTl (kTr (kTl (kTl (kTf kO6))))))))))) (kTb (kTb (kTn .e kO2 (kTr (kTl (kTl (kTr (kTl (kTr (kTf kO1)))))))) (kTl (kTl (kTl (kTl (kTr (kTr (kTl (kTl (kTf kO7)))))))))) (kTl (kTr (kTl (kTr (kTl (kTr (kTl (kTr (kTf kO3))))))))))
 nx':=3274
theorem kV:rL Tryz.prog wI:=s6 jY (l:=[rT]) (bD iS jX) (k:=200) fun ro=>by kernel_rfl
end V
end Go.Proofs.YtcaccnneblghgaaGreat
namespace Go.Proofs.YtcaccnneblghgaaGreat
namespace V
set_option maxRecDepth 1000000
def kO9:Obj:=.cells ⟨[.slice (some ⟨3287,0,(some 1)⟩) 1 1,s0,s0,s0]⟩ 34
def vO:Obj:=.cells ⟨[.int .u8 2,.int .u64 0,.int .u64 8589934592,.int .u64 0,.int .u64 0,s0,j0,j0,.string ⟨⟨[]⟩⟩,.int .u8 5,.int .u64 0,.int .u64 0,.int .u64 0,.int .u64 0,.slice (some ⟨4546,0,(some 1)⟩) 1 1,.int .i64 1,jm,.string ⟨⟨[]⟩⟩]⟩ 86
def aQd:List Value:=[.agg ⟨[.slice (some ⟨8,0,(some 1)⟩) 1 1,s0,.slice (some ⟨1915,0,(some 7)⟩) 1 1]⟩,j0]
def aQe:Value:=.tuple ⟨[.slice (some ⟨4581,0,(some 9)⟩) 2 2,j0]⟩
def xJ:Cp where
 f:=aG7
 args:=aQd
 h:=kTb (kTb (kTb (kTr (kTr (kTl (kTr (kTr (kTl (kTl (kTr (kTf kO2))))))))) (kTb (kTb (kTl (kTl (kTr (kTr (kTl (kTl (kTf kO6))))))) (kTl (kTr (kTr (kTl (kTl (kTr (kTl .e)))))))) (kTr (kTr (kTr (kTl (kTr (kTr (kTf kO0))))))))) (kTb (kTb (kTr (kTr (kTr (kTr (kTr (kTf kO1)))))) (kTr (kTl (kTr (kTr (kTl (kTl (kTr (kTf kO9))))))))) (kTr (kTr (kTr (kTr (kTl (kTr (kTl (kTl (kTf kO6))))))))))) (kTb (kTb (kTn .e kO2 (kTr (kTl (kTl (kTr (kTl (kTr (kTf kO1)))))))) (kTl (kTl (kTl (kTl (kTr (kTr (kTl (kTl (kTf kO7)))))))))) (kTl (kTr (kTl (kTr (kTl (kTr (kTl (kTr (kTf kO3))))))))))
 nx:=3301
 v:=aQe
 h':=kTb (kTb (kTb (kTr (kTr (kTl (kTr (kTr (kTl (kTl (kTr (kTf kO2))))))))) (kTb (kTl (kTl (kTl (kTr (kTr (kTl (kTl (kTf kO6)))))))) (kTr (kTr (kTr (kTl (kTr (kTr (kTf kO0))))))))) (kTb (kTb (kTr (kTr (kTr (kTr (kTr (kTf kO1)))))) (kTr (kTl (kTr (kTr (kTl (kTl (kTr (kTf kO9))))))))) (kTb (kTl (kTr (kTr (kTr (kTr (kTl (kTl (kTl (kTf vO))))))))) (kTr (kTr (kTr (kTl (kTr (kTl (kTl (kTf kO6))))))))))) (kTb (kTb (kTn .e kO2 (kTr (kTl (kTl (kTr (kTl (kTr (kTf kO1)))))))) (kTl (kTl (kTl (kTl (kTr (kTr (kTl (kTl (kTf kO7)))))))))) (kTl (kTb (kTl (kTl (kTr (kTr (kTr (kTl (kTl (kTl (kTf kO1))))))))) (kTl (kTr (kTl (kTr (kTl (kTr (kTf kO3))))))))))
 nx':=4609
theorem mE:rL Tryz.prog xJ:=s6 jY (l:=[rT,wI]) (bD iS (bD kV jX)) (k:=200) fun ro=>by kernel_rfl
end V
end Go.Proofs.YtcaccnneblghgaaGreat
namespace Go.Proofs.YtcaccnneblghgaaGreat
namespace V
set_option maxRecDepth 1000000
def x5:Obj:=.cells ⟨[.int .u8 2,.int .u64 0,.int .u64 8589934592,.int .u64 0,.int .u64 0,s0,j0,j0,.string ⟨⟨[]⟩⟩,.int .u8 2,.int .u64 0,.int .u64 8589934592,.int .u64 0,.int .u64 0,s0,j0,j0,.string ⟨⟨[]⟩⟩,.int .u8 5,.int .u64 0,.int .u64 0,.int .u64 0,.int .u64 0,.slice (some ⟨5182,0,(some 1)⟩) 1 1,j0,jm,.string ⟨⟨[]⟩⟩,.int .u8 3,.int .u64 0,.int .u64 0,.int .u64 0,.int .u64 0,.slice (some ⟨5215,0,(some 1)⟩) 2 2,j0,j0,.string ⟨⟨[]⟩⟩]⟩ 86
def x6:Obj:=.cells ⟨[j0,.int .i64 2]⟩ 3
def i6:Obj:=.cells ⟨[.int .i64 1]⟩ 3
def aQf:List Value:=[.slice (some ⟨4581,0,(some 9)⟩) 2 2,.int .i64 9]
def aQg:Value:=.tuple ⟨[.slice (some ⟨5247,0,(some 9)⟩) 4 4,j0]⟩
def aAJ:Cp where
 f:=aG6
 args:=aQf
 h:=kTb (kTb (kTb (kTr (kTr (kTl (kTr (kTr (kTl (kTl (kTr (kTf kO2))))))))) (kTb (kTl (kTl (kTl (kTr (kTr (kTl (kTl (kTf kO6)))))))) (kTr (kTr (kTr (kTl (kTr (kTr (kTf kO0))))))))) (kTb (kTb (kTr (kTr (kTr (kTr (kTr (kTf kO1)))))) (kTr (kTl (kTr (kTr (kTl (kTl (kTr (kTf kO9))))))))) (kTb (kTl (kTr (kTr (kTr (kTr (kTl (kTl (kTl (kTf vO))))))))) (kTr (kTr (kTr (kTl (kTr (kTl (kTl (kTf kO6))))))))))) (kTb (kTb (kTn .e kO2 (kTr (kTl (kTl (kTr (kTl (kTr (kTf kO1)))))))) (kTl (kTl (kTl (kTl (kTr (kTr (kTl (kTl (kTf kO7)))))))))) (kTl (kTb (kTl (kTl (kTr (kTr (kTr (kTl (kTl (kTl (kTf kO1))))))))) (kTl (kTr (kTl (kTr (kTl (kTr (kTf kO3))))))))))
 nx:=4617
 v:=aQg
 h':=kTb (kTb (kTb (kTb (kTl (kTb (kTl (kTr (kTl (kTl (kTr (kTl (kTf x5))))))) (kTr (kTl (kTl (kTl (kTr (kTl (kTf x6))))))))) (kTr (kTl (kTr (kTr (kTl (kTl (kTr (kTf kO2))))))))) (kTb (kTl (kTl (kTl (kTr (kTr (kTl (kTl (kTf kO6)))))))) (kTr (kTr (kTr (kTl (kTr (kTr (kTf kO0))))))))) (kTb (kTb (kTr (kTr (kTr (kTr (kTr (kTf kO1)))))) (kTr (kTl (kTr (kTr (kTl (kTl (kTr (kTf kO9))))))))) (kTb (kTl (kTr (kTr (kTr (kTr (kTl (kTl (kTl (kTf vO))))))))) (kTr (kTr (kTr (kTl (kTr (kTl (kTl (kTf kO6))))))))))) (kTb (kTb (kTn .e kO2 (kTr (kTl (kTl (kTr (kTl (kTr (kTf kO1)))))))) (kTl (kTl (kTl (kTl (kTr (kTr (kTl (kTl (kTf kO7)))))))))) (kTb (kTb (kTl (kTl (kTr (kTr (kTr (kTl (kTl (kTl (kTf kO1))))))))) (kTl (kTr (kTl (kTr (kTl (kTr (kTf kO3)))))))) (kTr (kTr (kTr (kTl (kTl (kTl (kTl (kTr (kTl (kTf i6))))))))))))
 nx':=5824
theorem nM:rL Tryz.prog aAJ:=s6 jY (l:=[rT,wI,xJ]) (bD iS (bD kV (bD mE jX))) (k:=200) fun ro=>by kernel_rfl
end V
end Go.Proofs.YtcaccnneblghgaaGreat
namespace Go.Proofs.YtcaccnneblghgaaGreat
namespace V
set_option maxRecDepth 1000000
def aQE (t:List Value):List Value:=b0::b0::b0::b0::b0::b0::b0::b0::b0::b0::b0::b0::b0::b0::b0::b0::b0::b0::b0::b0::b0::b0::b0::b0::b0::b0::b0::b0::b0::b0::b0::b0::b0::b0::b0::b0::b0::b0::b0::b0::b0::b0::b0::b0::b0::b0::b0::b0::b0::b0::b0::b0::b0::b0::b0::b0::b0::b0::b0::b0::b0::b0::b0::b0::b0::b0::b0::b0::b0::b0::b0::b0::b0::b0::b0::b0::b0::b0::b0::b0::b0::b0::b0::b0::b0::b0::b0::b0::b0::b0::b0::b0::b0::b0::b0::b0::b0::b0::b0::b0::b0::b0::b0::b0::b0::b0::b0::b0::b0::b0::b0::b0::b0::b0::b0::b0::b0::b0::b0::b0::b0::b0::b0::b0::b0::b0::b0::b0::b0::b0::b0::b0::b0::b0::b0::b0::b0::b0::b0::b0::b0::b0::b0::b0::b0::b0::b0::b0::b0::b0::b0::b0::b0::b0::b0::b0::b0::b0::b0::b0::b0::b0::b0::b0::b0::b0::b0::b0::b0::b0::b0::b0::b0::b0::b0::b0::b0::b0::b0::b0::b0::b0::b0::b0::b0::b0::b0::b0::b0::b0::b0::b0::b0::b0::b0::b0::b0::b0::b0::b0::b0::b0::b0::b0::b0::b0::b0::b0::b0::b0::b0::b0::b0::b0::b0::b0::b0::b0::b0::b0::b0::b0::b0::b0::b0::b0::b0::b0::b0::b0::b0::b0::b0::b0::b0::b0::b0::b0::b0::b0::b0::b0::b0::b0::b0::b0::b0::b0::b0::b0::b0::b0::b0::b0::b0::b0::t
def gC:Obj:=.cells ⟨[.slice (some ⟨5247,0,(some 9)⟩) 4 4]⟩ 79
def aHy:Obj:=.cells ⟨[.slice (some ⟨3287,0,(some 1)⟩) 1 1,.slice (some ⟨5849,0,(some 1)⟩) 1 1,.slice (some ⟨5862,0,(some 1)⟩) 1 1,s0]⟩ 34
def kN:Obj:=.cells ⟨[.string ⟨⟨[65]⟩⟩]⟩ 9
def aCt:Obj:=.cells ⟨(aQE [j0,s0,s0,s0])⟩ 65
def fJ:Obj:=.cells ⟨[jm]⟩ 3
def aMY:Obj:=.cells ⟨[.int .u64 0,.int .u64 8589934592,.int .u64 0,.int .u64 0,.int .i64 1,.int .i64 1,j0,.bool true,.slice (some ⟨7491,0,(some 1)⟩) 1 1,.int .u64 0,.int .u64 8589934592,.int .u64 0,.int .u64 0,.int .i64 1,.int .i64 1,j0,.bool true,.slice (some ⟨7219,0,(some 1)⟩) 1 1]⟩ 192
def aQh:Value:=.tuple ⟨[.agg ⟨[.slice (some ⟨7717,0,(some 1)⟩) 1 1,.slice (some ⟨6903,0,(some 9)⟩) 2 2]⟩,j0]⟩
def aKH:Cp where
 f:=aDm
 args:=[.slice (some ⟨5963,0,(some 1)⟩) 1 1]
 h:=kTb (kTb (kTb (kTb (kTl (kTb (kTl (kTr (kTl (kTl (kTr (kTl (kTf x5))))))) (kTr (kTl (kTl (kTl (kTr (kTl (kTf x6))))))))) (kTr (kTl (kTr (kTr (kTl (kTl (kTr (kTf kO2))))))))) (kTb (kTl (kTl (kTl (kTr (kTr (kTl (kTl (kTf kO6)))))))) (kTb (kTb (kTr (kTb (kTr (kTr (kTr (kTl (kTf gC))))) (kTl (kTr (kTr (kTl (kTf gC))))))) (kTl (kTl (kTr (kTr (kTr (kTl (kTf kO1)))))))) (kTr (kTr (kTl (kTr (kTr (kTf kO0))))))))) (kTb (kTb (kTr (kTr (kTr (kTr (kTr (kTf kO1)))))) (kTb (kTb (kTr (kTb (kTr (kTr (kTr (kTl (kTf gC))))) (kTl (kTr (kTr (kTl (kTf gC))))))) (kTl (kTl (kTr (kTr (kTr (kTl (kTf kO1)))))))) (kTb (kTr (kTr (kTl (kTb (kTr (kTf aHy)) (kTr (kTl (kTf kN))))))) (kTl (kTl (kTr (kTr (kTr (kTl (kTf aCt)))))))))) (kTb (kTb (kTr (kTr (kTr (kTr (kTl (kTl (kTl (kTf vO)))))))) (kTl (kTr (kTr (kTl (kTr (kTr (kTl (kTf kN))))))))) (kTr (kTr (kTr (kTb (kTr (kTl (kTl (kTf kO6)))) (kTl (kTr (kTr (kTl (kTf kO6)))))))))))) (kTb (kTb (kTn .e kO2 (kTr (kTl (kTl (kTr (kTl (kTr (kTf kO1)))))))) (kTl (kTl (kTl (kTl (kTr (kTr (kTl (kTl (kTf kO7)))))))))) (kTb (kTb (kTl (kTb (kTr (kTr (kTr (kTl (kTl (kTl (kTf kO1))))))) (kTr (kTr (kTl (kTr (kTr (kTl (kTf fJ))))))))) (kTl (kTr (kTl (kTr (kTl (kTr (kTf kO3)))))))) (kTb (kTl (kTr (kTr (kTr (kTl (kTr (kTr (kTl (kTf fJ))))))))) (kTr (kTr (kTl (kTl (kTl (kTl (kTr (kTl (kTf i6))))))))))))
 nx:=5974
 v:=aQh
 h':=kTb (kTb (kTb (kTb (kTl (kTb (kTl (kTr (kTl (kTl (kTr (kTl (kTf x5))))))) (kTr (kTl (kTl (kTl (kTr (kTl (kTf x6))))))))) (kTr (kTb (kTr (kTr (kTl (kTl (kTr (kTf kO2)))))) (kTr (kTr (kTl (kTr (kTl (kTr (kTf aMY)))))))))) (kTb (kTb (kTl (kTb (kTr (kTr (kTl (kTl (kTf kO6))))) (kTl (kTr (kTl (kTr (kTr (kTf i6)))))))) (kTr (kTl (kTl (kTl (kTl (kTr (kTr (kTf i6))))))))) (kTb (kTb (kTr (kTb (kTr (kTr (kTr (kTl (kTf gC))))) (kTl (kTr (kTr (kTl (kTf gC))))))) (kTl (kTl (kTr (kTr (kTr (kTl (kTf kO1)))))))) (kTr (kTr (kTl (kTr (kTr (kTf kO0))))))))) (kTb (kTb (kTr (kTr (kTr (kTr (kTr (kTf kO1)))))) (kTb (kTb (kTr (kTb (kTr (kTr (kTr (kTl (kTf gC))))) (kTl (kTr (kTr (kTl (kTf gC))))))) (kTl (kTl (kTr (kTr (kTr (kTl (kTf kO1)))))))) (kTb (kTr (kTr (kTl (kTb (kTr (kTf aHy)) (kTr (kTl (kTf kN))))))) (kTl (kTl (kTr (kTr (kTr (kTl (kTf aCt)))))))))) (kTb (kTb (kTr (kTb (kTl (kTl (kTr (kTr (kTr (kTf kO1)))))) (kTr (kTr (kTl (kTl (kTl (kTf vO)))))))) (kTl (kTr (kTr (kTl (kTr (kTr (kTl (kTf kN))))))))) (kTr (kTr (kTr (kTb (kTr (kTl (kTl (kTf kO6)))) (kTl (kTr (kTr (kTl (kTf kO6)))))))))))) (kTb (kTb (kTn .e kO2 (kTr (kTl (kTl (kTr (kTl (kTr (kTf kO1)))))))) (kTl (kTl (kTl (kTl (kTr (kTr (kTl (kTl (kTf kO7)))))))))) (kTb (kTb (kTl (kTb (kTr (kTr (kTr (kTl (kTl (kTl (kTf kO1))))))) (kTr (kTr (kTl (kTr (kTr (kTl (kTf fJ))))))))) (kTl (kTr (kTl (kTr (kTl (kTr (kTf kO3)))))))) (kTb (kTl (kTr (kTr (kTr (kTl (kTr (kTr (kTl (kTf fJ))))))))) (kTr (kTr (kTl (kTl (kTl (kTl (kTr (kTl (kTf i6))))))))))))
 nx':=7804
theorem aD2:rL Tryz.prog aKH:=s6 jY (l:=[rT,wI,xJ,aAJ]) (bD iS (bD kV (bD mE (bD nM jX)))) (k:=200) fun ro=>by kernel_rfl
end V
end Go.Proofs.YtcaccnneblghgaaGreat
namespace Go.Proofs.YtcaccnneblghgaaGreat
namespace V
set_option maxRecDepth 1000000
def aBW (t:List Value):List Value:=b0::b0::b0::b0::b0::b0::b0::b0::b0::b0::b0::b0::b0::b0::b0::b0::b0::b0::b0::b0::b0::b0::b0::b0::b0::b0::b0::b0::b0::b0::b0::b0::b0::b0::b0::b0::b0::b0::b0::b0::b0::b0::b0::b0::b0::b0::b0::b0::b0::b0::b0::b0::b0::b0::b0::b0::b0::b0::b0::b0::b0::b0::b0::b0::b0::b0::b0::b0::b0::b0::b0::b0::b0::b0::b0::b0::b0::b0::b0::b0::b0::b0::b0::b0::b0::b0::b0::b0::b0::b0::b0::b0::b0::b0::b0::b0::b0::b1::b0::b0::b0::b0::b0::b0::b0::b0::b0::b0::b0::b0::b0::b0::b0::b0::b0::b0::b0::b0::b0::b0::b0::b0::b0::b0::b0::b0::b0::b0::b0::b0::b0::b0::b0::b0::b0::b0::b0::b0::b0::b0::b0::b0::b0::b0::b0::b0::b0::b0::b0::b0::b0::b0::b0::b0::b0::b0::b0::b0::b0::b0::b0::b0::b0::b0::b0::b0::b0::b0::b0::b0::b0::b0::b0::b0::b0::b0::b0::b0::b0::b0::b0::b0::b0::b0::b0::b0::b0::b0::b0::b0::b0::b0::b0::b0::b0::b0::b0::b0::b0::b0::b0::b0::b0::b0::b0::b0::b0::b0::b0::b0::b0::b0::b0::b0::b0::b0::b0::b0::b0::b0::b0::b0::b0::b0::b0::b0::b0::b0::b0::b0::b0::b0::b0::b0::b0::b0::b0::b0::b0::b0::b0::b0::b0::b0::b0::b0::b0::b0::b0::b0::b0::b0::b0::b0::b0::b0::t
def aNq:Obj:=.cells ⟨[.slice (some ⟨7717,0,(some 1)⟩) 1 1,.slice (some ⟨6903,0,(some 9)⟩) 2 2]⟩ 136
def aCu:Obj:=.cells ⟨[jm,s0,.int .i64 2,s0]⟩ 202
def aLE:Obj:=.cells ⟨[jm,s0,.int .i64 1,s0]⟩ 202
def aPK:Obj:=.cells ⟨[.slice (some ⟨42591,0,(some 2)⟩) 2 2]⟩ 200
def aPL:Obj:=.cells ⟨[.slice (some ⟨40887,0,(some 2)⟩) 2 2]⟩ 200
def aPM:Obj:=.cells ⟨[s0,s0,.slice (some ⟨40384,0,(some 1)⟩) 1 1,.slice (some ⟨40909,0,(some 1)⟩) 1 1,.slice (some ⟨40670,0,(some 1)⟩) 1 1,s0,.slice (some ⟨41071,0,(some 1)⟩) 1 1,.slice (some ⟨41768,0,(some 1)⟩) 1 1,.slice (some ⟨41593,0,(some 1)⟩) 1 1,s0,.slice (some ⟨41930,0,(some 1)⟩) 1 1,.slice (some ⟨42613,0,(some 1)⟩) 1 1]⟩ 160
def aPN:Obj:=.cells ⟨[.slice (some ⟨41746,0,(some 2)⟩) 2 2]⟩ 200
def aQi:List Value:=[.agg ⟨[.slice (some ⟨7717,0,(some 1)⟩) 1 1,.slice (some ⟨6903,0,(some 9)⟩) 2 2]⟩]
def aQj:Value:=.tuple ⟨[.agg ⟨(aBW [.int .i64 2,s0,.slice (some ⟨41728,0,(some 4)⟩) 3 3])⟩,j0]⟩
def aLz:Cp where
 f:=aDn
 args:=aQi
 h:=kTb (kTb (kTb (kTb (kTl (kTb (kTl (kTr (kTl (kTb (kTr (kTl (kTf x5))) (kTr (kTr (kTf aNq))))))) (kTr (kTl (kTl (kTl (kTr (kTl (kTf x6))))))))) (kTr (kTb (kTr (kTr (kTl (kTl (kTr (kTf kO2)))))) (kTr (kTr (kTl (kTr (kTl (kTr (kTf aMY)))))))))) (kTb (kTb (kTl (kTb (kTr (kTr (kTl (kTl (kTf kO6))))) (kTl (kTr (kTl (kTr (kTr (kTf i6)))))))) (kTr (kTl (kTl (kTl (kTl (kTr (kTr (kTf i6))))))))) (kTb (kTb (kTr (kTb (kTr (kTr (kTr (kTl (kTf gC))))) (kTl (kTr (kTr (kTl (kTf gC))))))) (kTl (kTl (kTr (kTr (kTr (kTl (kTf kO1)))))))) (kTr (kTr (kTl (kTr (kTr (kTf kO0))))))))) (kTb (kTb (kTr (kTr (kTr (kTr (kTr (kTf kO1)))))) (kTb (kTb (kTr (kTb (kTr (kTr (kTr (kTl (kTf gC))))) (kTl (kTr (kTr (kTl (kTf gC))))))) (kTl (kTl (kTr (kTr (kTr (kTl (kTf kO1)))))))) (kTb (kTr (kTr (kTl (kTb (kTr (kTf aHy)) (kTr (kTl (kTf kN))))))) (kTl (kTl (kTr (kTr (kTr (kTl (kTf aCt)))))))))) (kTb (kTb (kTr (kTb (kTl (kTl (kTr (kTr (kTr (kTf kO1)))))) (kTr (kTr (kTl (kTl (kTl (kTf vO)))))))) (kTl (kTr (kTr (kTl (kTr (kTr (kTl (kTf kN))))))))) (kTr (kTr (kTr (kTb (kTr (kTl (kTl (kTf kO6)))) (kTl (kTr (kTr (kTl (kTf kO6)))))))))))) (kTb (kTb (kTn .e kO2 (kTr (kTl (kTl (kTr (kTl (kTr (kTf kO1)))))))) (kTl (kTl (kTl (kTl (kTr (kTr (kTl (kTl (kTf kO7)))))))))) (kTb (kTb (kTl (kTb (kTr (kTr (kTr (kTl (kTl (kTl (kTf kO1))))))) (kTr (kTr (kTl (kTr (kTr (kTl (kTf fJ))))))))) (kTl (kTr (kTl (kTr (kTl (kTr (kTf kO3)))))))) (kTb (kTl (kTr (kTr (kTr (kTl (kTr (kTr (kTl (kTf fJ))))))))) (kTr (kTr (kTl (kTl (kTl (kTl (kTr (kTl (kTf i6))))))))))))
 nx:=7814
 v:=aQj
 h':=kTb (kTb (kTb (kTb (kTb (kTb (kTl (kTr (kTl (kTb (kTr (kTl (kTf x5))) (kTr (kTr (kTf aNq))))))) (kTr (kTl (kTl (kTb (kTr (kTl (kTf x6))) (kTr (kTl (kTl (kTr (kTl (kTf aCu))))))))))) (kTr (kTr (kTl (kTl (kTl (kTl (kTl (kTl (kTr (kTl (kTf kO1)))))))))))) (kTr (kTb (kTr (kTr (kTl (kTl (kTr (kTf kO2)))))) (kTb (kTr (kTr (kTr (kTr (kTr (kTr (kTl (kTl (kTf aLE))))))))) (kTr (kTl (kTr (kTl (kTr (kTf aMY)))))))))) (kTb (kTb (kTl (kTb (kTr (kTr (kTl (kTl (kTf kO6))))) (kTl (kTr (kTl (kTr (kTr (kTf i6)))))))) (kTr (kTl (kTl (kTl (kTl (kTr (kTr (kTf i6))))))))) (kTb (kTb (kTr (kTb (kTr (kTr (kTr (kTl (kTf gC))))) (kTl (kTr (kTr (kTl (kTf gC))))))) (kTl (kTl (kTr (kTr (kTr (kTl (kTf kO1)))))))) (kTr (kTr (kTl (kTr (kTr (kTf kO0))))))))) (kTb (kTb (kTr (kTr (kTr (kTr (kTr (kTf kO1)))))) (kTb (kTb (kTr (kTb (kTr (kTr (kTr (kTl (kTf gC))))) (kTl (kTr (kTr (kTl (kTf gC))))))) (kTl (kTl (kTr (kTr (kTr (kTl (kTf kO1)))))))) (kTb (kTr (kTr (kTl (kTb (kTr (kTf aHy)) (kTr (kTl (kTf kN))))))) (kTb (kTl (kTr (kTr (kTr (kTl (kTf aCt)))))) (kTl (kTl (kTr (kTl (kTl (kTl (kTr (kTl (kTf i6))))))))))))) (kTb (kTb (kTr (kTb (kTl (kTl (kTr (kTr (kTr (kTf kO1)))))) (kTr (kTr (kTl (kTl (kTl (kTf vO)))))))) (kTb (kTr (kTr (kTl (kTr (kTr (kTl (kTf kN))))))) (kTr (kTl (kTl (kTr (kTr (kTl (kTl (kTr (kTl (kTf aPK)))))))))))) (kTb (kTl (kTr (kTr (kTr (kTr (kTr (kTr (kTr (kTl (kTl (kTf aPL))))))))))) (kTr (kTr (kTb (kTr (kTl (kTl (kTf kO6)))) (kTl (kTr (kTr (kTl (kTf kO6)))))))))))) (kTb (kTb (kTn (kTl (kTl (kTb (kTl (kTr (kTr (kTl (kTl (kTl (kTr (kTl (kTf aPM))))))))) (kTr (kTr (kTl (kTr (kTr (kTr (kTl (kTl (kTf fJ)))))))))))) kO2 (kTb (kTr (kTl (kTl (kTr (kTr (kTl (kTl (kTl (kTr (kTl (kTf aPN))))))))))) (kTl (kTl (kTr (kTl (kTr (kTf kO1)))))))) (kTl (kTl (kTl (kTl (kTr (kTr (kTl (kTl (kTf kO7)))))))))) (kTb (kTb (kTb (kTb (kTr (kTr (kTr (kTl (kTl (kTl (kTf kO1))))))) (kTr (kTr (kTl (kTr (kTr (kTl (kTf fJ)))))))) (kTl (kTl (kTl (kTr (kTr (kTl (kTl (kTl (kTr (kTl (kTf aCu)))))))))))) (kTl (kTb (kTr (kTr (kTr (kTr (kTl (kTl (kTl (kTr (kTl (kTf kO1)))))))))) (kTl (kTr (kTl (kTr (kTf kO3)))))))) (kTb (kTl (kTr (kTr (kTr (kTl (kTr (kTr (kTl (kTf fJ))))))))) (kTr (kTb (kTr (kTr (kTl (kTr (kTr (kTr (kTr (kTl (kTl (kTf kO1)))))))))) (kTl (kTl (kTl (kTl (kTr (kTl (kTf i6))))))))))))
 nx':=42658
theorem aHa:rL Tryz.prog aLz:=s6 jY (l:=[rT,wI,xJ,aAJ,aKH]) (bD iS (bD kV (bD mE (bD nM (bD aD2 jX))))) (k:=200) fun ro=>by kernel_rfl
end V
end Go.Proofs.YtcaccnneblghgaaGreat
namespace Go.Proofs.YtcaccnneblghgaaGreat
namespace V
set_option maxRecDepth 1000000
def aQB:Obj:=.cells ⟨(aBW [.int .i64 2,s0,.slice (some ⟨41728,0,(some 4)⟩) 3 3])⟩ 63
def uQ:Obj:=.cells ⟨[]⟩ 149
def aBt:Obj:=.cells ⟨[jm,s0,.int .i64 1,.slice (some ⟨62911,0,(some 1)⟩) 0 0]⟩ 202
def aBu:Obj:=.cells ⟨[.slice (some ⟨62919,0,(some 2)⟩) 2 2]⟩ 200
def aBv:Obj:=.cells ⟨[.slice (some ⟨63066,0,(some 2)⟩) 2 2]⟩ 200
def aBw:Obj:=.cells ⟨[jm,s0,.int .i64 1,.slice (some ⟨63058,0,(some 1)⟩) 0 0]⟩ 202
def aBx:Obj:=.cells ⟨[.slice (some ⟨62947,0,(some 1)⟩) 0 0,.slice (some ⟨62951,0,(some 1)⟩) 0 0,.slice (some ⟨62965,0,(some 1)⟩) 1 1,.slice (some ⟨62935,0,(some 1)⟩) 1 1,.slice (some ⟨63112,0,(some 1)⟩) 1 1,.slice (some ⟨63098,0,(some 1)⟩) 0 0,.slice (some ⟨63113,0,(some 1)⟩) 1 1,.slice (some ⟨63082,0,(some 1)⟩) 1 1]⟩ 160
def aQk:List Value:=[.agg ⟨(aBW [.int .i64 2,s0,.slice (some ⟨41728,0,(some 4)⟩) 3 3])⟩]
def aQl:Value:=.tuple ⟨[.agg ⟨(aBW [.int .i64 2,.slice (some ⟨62815,0,(some 2)⟩) 0 0,.slice (some ⟨63322,0,(some 4)⟩) 2 2])⟩,j0]⟩
def aOl:Cp where
 f:=aDo
 args:=aQk
 h:=kTb (kTb (kTb (kTb (kTb (kTb (kTl (kTr (kTl (kTb (kTr (kTl (kTf x5))) (kTr (kTr (kTf aNq))))))) (kTr (kTl (kTl (kTb (kTr (kTl (kTf x6))) (kTr (kTl (kTl (kTr (kTl (kTf aCu))))))))))) (kTr (kTr (kTl (kTl (kTl (kTl (kTl (kTl (kTr (kTl (kTf kO1)))))))))))) (kTr (kTb (kTr (kTr (kTl (kTl (kTr (kTf kO2)))))) (kTb (kTr (kTr (kTr (kTr (kTr (kTr (kTl (kTl (kTf aLE))))))))) (kTr (kTl (kTr (kTl (kTr (kTf aMY)))))))))) (kTb (kTb (kTl (kTb (kTr (kTr (kTl (kTl (kTf kO6))))) (kTl (kTr (kTl (kTr (kTr (kTf i6)))))))) (kTr (kTl (kTl (kTl (kTl (kTr (kTr (kTf i6))))))))) (kTb (kTb (kTr (kTb (kTr (kTr (kTr (kTl (kTf gC))))) (kTl (kTr (kTr (kTl (kTf gC))))))) (kTl (kTl (kTr (kTr (kTr (kTl (kTf kO1)))))))) (kTr (kTr (kTl (kTr (kTr (kTf kO0))))))))) (kTb (kTb (kTr (kTr (kTr (kTr (kTr (kTf kO1)))))) (kTb (kTb (kTr (kTb (kTr (kTr (kTr (kTl (kTf gC))))) (kTl (kTr (kTr (kTl (kTf gC))))))) (kTl (kTl (kTr (kTr (kTr (kTl (kTf kO1)))))))) (kTb (kTr (kTr (kTl (kTb (kTr (kTf aHy)) (kTr (kTl (kTf kN))))))) (kTb (kTl (kTr (kTr (kTr (kTl (kTf aCt)))))) (kTl (kTl (kTr (kTl (kTl (kTl (kTr (kTl (kTf i6))))))))))))) (kTb (kTb (kTr (kTb (kTb (kTl (kTr (kTr (kTr (kTf kO1))))) (kTl (kTr (kTr (kTl (kTl (kTr (kTl (kTf aQB))))))))) (kTr (kTr (kTl (kTl (kTl (kTf vO)))))))) (kTb (kTr (kTr (kTl (kTr (kTr (kTl (kTf kN))))))) (kTr (kTl (kTl (kTr (kTr (kTl (kTl (kTr (kTl (kTf aPK)))))))))))) (kTb (kTl (kTr (kTr (kTr (kTr (kTr (kTr (kTr (kTl (kTl (kTf aPL))))))))))) (kTr (kTr (kTb (kTr (kTl (kTl (kTf kO6)))) (kTl (kTr (kTr (kTl (kTf kO6)))))))))))) (kTb (kTb (kTn (kTl (kTl (kTb (kTl (kTr (kTr (kTl (kTl (kTl (kTr (kTl (kTf aPM))))))))) (kTr (kTr (kTl (kTr (kTr (kTr (kTl (kTl (kTf fJ)))))))))))) kO2 (kTb (kTr (kTl (kTl (kTr (kTr (kTl (kTl (kTl (kTr (kTl (kTf aPN))))))))))) (kTl (kTl (kTr (kTl (kTr (kTf kO1)))))))) (kTl (kTl (kTl (kTl (kTr (kTr (kTl (kTl (kTf kO7)))))))))) (kTb (kTb (kTb (kTb (kTr (kTr (kTr (kTl (kTl (kTl (kTf kO1))))))) (kTr (kTr (kTl (kTr (kTr (kTl (kTf fJ)))))))) (kTl (kTl (kTl (kTr (kTr (kTl (kTl (kTl (kTr (kTl (kTf aCu)))))))))))) (kTl (kTb (kTr (kTr (kTr (kTr (kTl (kTl (kTl (kTr (kTl (kTf kO1)))))))))) (kTl (kTr (kTl (kTr (kTf kO3)))))))) (kTb (kTl (kTr (kTr (kTr (kTl (kTr (kTr (kTl (kTf fJ))))))))) (kTr (kTb (kTr (kTr (kTl (kTr (kTr (kTr (kTr (kTl (kTl (kTf kO1)))))))))) (kTl (kTl (kTl (kTl (kTr (kTl (kTf i6))))))))))))
 nx:=42668
 v:=aQl
 h':=kTb (kTb (kTb (kTb (kTb (kTb (kTb (kTr (kTl (kTb (kTr (kTl (kTf x5))) (kTr (kTr (kTf aNq)))))) (kTr (kTr (kTl (kTr (kTl (kTr (kTr (kTr (kTf (.cells ⟨[]⟩ 5))))))))))) (kTr (kTl (kTb (kTb (kTr (kTl (kTf x6))) (kTr (kTl (kTl (kTr (kTl (kTf aCu))))))) (kTl (kTr (kTl (kTr (kTr (kTr (kTf uQ))))))))))) (kTr (kTr (kTl (kTl (kTl (kTl (kTl (kTl (kTr (kTl (kTf kO1)))))))))))) (kTb (kTb (kTr (kTr (kTr (kTl (kTr (kTl (kTr (kTr (kTr (kTf aBt)))))))))) (kTr (kTr (kTr (kTl (kTr (kTl (kTr (kTr (kTr (kTf (.cells ⟨[]⟩ 3)))))))))))) (kTb (kTr (kTr (kTb (kTl (kTr (kTf kO2))) (kTl (kTr (kTl (kTr (kTr (kTr (kTf aBu)))))))))) (kTb (kTr (kTr (kTr (kTr (kTr (kTr (kTl (kTl (kTf aLE))))))))) (kTr (kTl (kTr (kTl (kTr (kTf aMY)))))))))) (kTb (kTb (kTb (kTb (kTr (kTr (kTl (kTl (kTf kO6))))) (kTl (kTr (kTl (kTr (kTr (kTf i6))))))) (kTr (kTr (kTr (kTl (kTr (kTl (kTr (kTr (kTr (kTf (.cells ⟨[]⟩ 3)))))))))))) (kTr (kTl (kTl (kTl (kTl (kTr (kTr (kTf i6))))))))) (kTb (kTb (kTr (kTb (kTr (kTr (kTr (kTl (kTf gC))))) (kTl (kTr (kTr (kTl (kTf gC))))))) (kTl (kTl (kTr (kTr (kTr (kTl (kTf kO1)))))))) (kTr (kTr (kTl (kTr (kTr (kTf kO0))))))))) (kTb (kTb (kTr (kTr (kTr (kTr (kTr (kTf kO1)))))) (kTb (kTb (kTb (kTr (kTl (kTr (kTr (kTl (kTr (kTr (kTr (kTf kO1))))))))) (kTb (kTr (kTr (kTr (kTl (kTf gC))))) (kTl (kTr (kTr (kTl (kTf gC))))))) (kTl (kTl (kTr (kTr (kTr (kTl (kTf kO1)))))))) (kTb (kTr (kTr (kTl (kTb (kTr (kTf aHy)) (kTr (kTl (kTf kN))))))) (kTb (kTl (kTr (kTr (kTr (kTl (kTf aCt)))))) (kTl (kTl (kTr (kTl (kTl (kTl (kTr (kTl (kTf i6))))))))))))) (kTb (kTb (kTr (kTb (kTb (kTl (kTr (kTr (kTr (kTf kO1))))) (kTl (kTr (kTr (kTl (kTl (kTr (kTl (kTf aQB))))))))) (kTr (kTr (kTl (kTl (kTl (kTf vO)))))))) (kTb (kTr (kTr (kTl (kTr (kTr (kTl (kTf kN))))))) (kTr (kTb (kTl (kTr (kTr (kTl (kTl (kTr (kTl (kTf aPK)))))))) (kTr (kTl (kTr (kTl (kTr (kTr (kTr (kTf fJ)))))))))))) (kTb (kTl (kTr (kTr (kTr (kTr (kTr (kTr (kTr (kTl (kTl (kTf aPL))))))))))) (kTr (kTr (kTb (kTr (kTl (kTl (kTf kO6)))) (kTl (kTr (kTr (kTl (kTf kO6)))))))))))) (kTb (kTb (kTn (kTl (kTl (kTb (kTl (kTr (kTr (kTl (kTl (kTl (kTr (kTl (kTf aPM))))))))) (kTr (kTr (kTl (kTr (kTr (kTr (kTl (kTl (kTf fJ)))))))))))) kO2 (kTb (kTb (kTl (kTr (kTl (kTr (kTr (kTl (kTr (kTr (kTr (kTf kO1)))))))))) (kTl (kTl (kTr (kTr (kTl (kTl (kTl (kTr (kTl (kTf aPN))))))))))) (kTl (kTl (kTr (kTl (kTr (kTf kO1)))))))) (kTl (kTl (kTl (kTl (kTr (kTr (kTl (kTl (kTf kO7)))))))))) (kTb (kTb (kTb (kTb (kTr (kTr (kTr (kTl (kTl (kTl (kTf kO1))))))) (kTr (kTr (kTl (kTr (kTr (kTl (kTf fJ)))))))) (kTl (kTb (kTl (kTr (kTr (kTl (kTl (kTl (kTr (kTl (kTf aCu))))))))) (kTl (kTl (kTr (kTr (kTl (kTr (kTr (kTr (kTf (.cells ⟨[]⟩ 5))))))))))))) (kTb (kTb (kTr (kTr (kTr (kTr (kTl (kTl (kTl (kTr (kTl (kTf kO1)))))))))) (kTb (kTr (kTl (kTr (kTf kO3)))) (kTl (kTl (kTr (kTr (kTl (kTr (kTr (kTr (kTf aBv))))))))))) (kTb (kTr (kTl (kTb (kTr (kTr (kTl (kTr (kTr (kTr (kTf aBw))))))) (kTr (kTr (kTl (kTr (kTr (kTr (kTf aBx)))))))))) (kTr (kTl (kTl (kTr (kTr (kTl (kTr (kTr (kTr (kTf (.cells ⟨[]⟩ 3)))))))))))))) (kTb (kTl (kTr (kTr (kTr (kTl (kTr (kTr (kTl (kTf fJ))))))))) (kTr (kTb (kTr (kTr (kTl (kTr (kTr (kTr (kTr (kTl (kTl (kTf kO1)))))))))) (kTl (kTl (kTl (kTl (kTr (kTl (kTf i6))))))))))))
 nx':=63333
theorem aMA:rL Tryz.prog aOl:=s6 jY (l:=[rT,wI,xJ,aAJ,aKH,aLz]) (bD iS (bD kV (bD mE (bD nM (bD aD2 (bD aHa jX)))))) (k:=200) fun ro=>by kernel_rfl
end V
end Go.Proofs.YtcaccnneblghgaaGreat
namespace Go.Proofs.YtcaccnneblghgaaGreat
namespace V
set_option maxRecDepth 1000000
def aQm:List Value:=[.slice (some ⟨5931,0,(some 1)⟩) 1 1,.slice (some ⟨5835,0,(some 1)⟩) 1 1]
def aQn:Value:=.tuple ⟨[.agg ⟨(aBW [.int .i64 2,.slice (some ⟨62815,0,(some 2)⟩) 0 0,.slice (some ⟨63322,0,(some 4)⟩) 2 2,.slice (some ⟨5931,0,(some 1)⟩) 1 1])⟩,j0]⟩
def aFh:Cp where
 f:=aAO
 args:=aQm
 h:=kTb (kTb (kTb (kTb (kTl (kTb (kTl (kTr (kTl (kTl (kTr (kTl (kTf x5))))))) (kTr (kTl (kTl (kTl (kTr (kTl (kTf x6))))))))) (kTr (kTl (kTr (kTr (kTl (kTl (kTr (kTf kO2))))))))) (kTb (kTl (kTl (kTl (kTr (kTr (kTl (kTl (kTf kO6)))))))) (kTb (kTb (kTr (kTr (kTl (kTr (kTr (kTl (kTf gC))))))) (kTl (kTl (kTr (kTr (kTr (kTl (kTf kO1)))))))) (kTr (kTr (kTl (kTr (kTr (kTf kO0))))))))) (kTb (kTb (kTr (kTr (kTr (kTr (kTr (kTf kO1)))))) (kTb (kTb (kTr (kTr (kTl (kTr (kTr (kTl (kTf gC))))))) (kTl (kTl (kTr (kTr (kTr (kTl (kTf kO1)))))))) (kTl (kTr (kTr (kTl (kTb (kTr (kTf aHy)) (kTr (kTl (kTf kN)))))))))) (kTb (kTb (kTr (kTr (kTr (kTr (kTl (kTl (kTl (kTf vO)))))))) (kTl (kTr (kTr (kTl (kTr (kTr (kTl (kTf kN))))))))) (kTr (kTr (kTr (kTb (kTr (kTl (kTl (kTf kO6)))) (kTl (kTr (kTr (kTl (kTf kO6)))))))))))) (kTb (kTb (kTn .e kO2 (kTr (kTl (kTl (kTr (kTl (kTr (kTf kO1)))))))) (kTl (kTl (kTl (kTl (kTr (kTr (kTl (kTl (kTf kO7)))))))))) (kTb (kTb (kTl (kTb (kTr (kTr (kTr (kTl (kTl (kTl (kTf kO1))))))) (kTr (kTr (kTl (kTr (kTr (kTl (kTf fJ))))))))) (kTl (kTr (kTl (kTr (kTl (kTr (kTf kO3)))))))) (kTb (kTl (kTr (kTr (kTr (kTl (kTr (kTr (kTl (kTf fJ))))))))) (kTr (kTr (kTl (kTl (kTl (kTl (kTr (kTl (kTf i6))))))))))))
 nx:=5945
 v:=aQn
 h':=kTb (kTb (kTb (kTb (kTl (kTb (kTb (kTr (kTl (kTl (kTr (kTl (kTf x5)))))) (kTr (kTr (kTl (kTr (kTl (kTr (kTr (kTr (kTf (.cells ⟨[]⟩ 5))))))))))) (kTr (kTl (kTb (kTl (kTr (kTl (kTf x6)))) (kTl (kTr (kTl (kTr (kTr (kTr (kTf uQ)))))))))))) (kTb (kTb (kTr (kTr (kTr (kTl (kTr (kTl (kTr (kTr (kTr (kTf aBt)))))))))) (kTr (kTr (kTr (kTl (kTr (kTl (kTr (kTr (kTr (kTf (.cells ⟨[]⟩ 3)))))))))))) (kTl (kTr (kTr (kTb (kTl (kTr (kTf kO2))) (kTl (kTr (kTl (kTr (kTr (kTr (kTf aBu))))))))))))) (kTb (kTl (kTb (kTl (kTr (kTr (kTl (kTl (kTf kO6)))))) (kTr (kTr (kTr (kTl (kTr (kTl (kTr (kTr (kTr (kTf (.cells ⟨[]⟩ 3))))))))))))) (kTb (kTb (kTr (kTr (kTl (kTr (kTr (kTl (kTf gC))))))) (kTl (kTl (kTr (kTr (kTr (kTl (kTf kO1)))))))) (kTr (kTr (kTl (kTr (kTr (kTf kO0))))))))) (kTb (kTb (kTr (kTr (kTr (kTr (kTr (kTf kO1)))))) (kTb (kTb (kTb (kTr (kTl (kTr (kTr (kTl (kTr (kTr (kTr (kTf kO1))))))))) (kTr (kTl (kTr (kTr (kTl (kTf gC))))))) (kTl (kTl (kTr (kTr (kTr (kTl (kTf kO1)))))))) (kTl (kTr (kTr (kTl (kTb (kTr (kTf aHy)) (kTr (kTl (kTf kN)))))))))) (kTb (kTb (kTr (kTr (kTr (kTr (kTl (kTl (kTl (kTf vO)))))))) (kTb (kTr (kTr (kTl (kTr (kTr (kTl (kTf kN))))))) (kTr (kTr (kTr (kTl (kTr (kTl (kTr (kTr (kTr (kTf fJ)))))))))))) (kTr (kTr (kTr (kTb (kTr (kTl (kTl (kTf kO6)))) (kTl (kTr (kTr (kTl (kTf kO6)))))))))))) (kTb (kTb (kTn .e kO2 (kTb (kTl (kTl (kTr (kTl (kTr (kTr (kTl (kTr (kTr (kTr (kTf kO1))))))))))) (kTl (kTl (kTr (kTl (kTr (kTf kO1)))))))) (kTl (kTl (kTl (kTl (kTr (kTr (kTl (kTl (kTf kO7)))))))))) (kTb (kTb (kTb (kTb (kTr (kTr (kTr (kTl (kTl (kTl (kTf kO1))))))) (kTr (kTr (kTl (kTr (kTr (kTl (kTf fJ)))))))) (kTl (kTr (kTl (kTl (kTr (kTr (kTl (kTr (kTr (kTr (kTf (.cells ⟨[]⟩ 5))))))))))))) (kTb (kTr (kTb (kTr (kTl (kTr (kTf kO3)))) (kTl (kTl (kTr (kTr (kTl (kTr (kTr (kTr (kTf aBv))))))))))) (kTb (kTr (kTl (kTb (kTr (kTr (kTl (kTr (kTr (kTr (kTf aBw))))))) (kTr (kTr (kTl (kTr (kTr (kTr (kTf aBx)))))))))) (kTr (kTl (kTl (kTr (kTr (kTl (kTr (kTr (kTr (kTf (.cells ⟨[]⟩ 3)))))))))))))) (kTb (kTl (kTr (kTr (kTr (kTl (kTr (kTr (kTl (kTf fJ))))))))) (kTr (kTr (kTl (kTl (kTl (kTl (kTr (kTl (kTf i6))))))))))))
 nx':=63345
theorem xK:rL Tryz.prog aFh:=s6 jY (l:=[rT,wI,xJ,aAJ,aKH,aLz,aOl]) (bD iS (bD kV (bD mE (bD nM (bD aD2 (bD aHa (bD aMA jX))))))) (k:=200) fun ro=>by kernel_rfl
end V
end Go.Proofs.YtcaccnneblghgaaGreat
namespace Go.Proofs.YtcaccnneblghgaaGreat
namespace V
set_option maxRecDepth 1000000
def aHz:Obj:=.cells ⟨[.slice (some ⟨3287,0,(some 1)⟩) 1 1,.slice (some ⟨5849,0,(some 1)⟩) 1 1,.slice (some ⟨5862,0,(some 1)⟩) 1 1,.slice (some ⟨63358,0,(some 260)⟩) 1 1]⟩ 34
def qV:Obj:=.cells ⟨(aBW [.int .i64 2,.slice (some ⟨62815,0,(some 2)⟩) 0 0,.slice (some ⟨63322,0,(some 4)⟩) 2 2,.slice (some ⟨5931,0,(some 1)⟩) 1 1])⟩ 65
def aMZ:Obj:=.cells ⟨[.int .u64 0,.int .u64 8589934592,.int .u64 0,.int .u64 0,.int .i64 1,.int .i64 1,j0,.bool true,.slice (some ⟨64976,0,(some 1)⟩) 1 1,.int .u64 0,.int .u64 8589934592,.int .u64 0,.int .u64 0,.int .i64 1,.int .i64 1,j0,.bool true,.slice (some ⟨64704,0,(some 1)⟩) 1 1]⟩ 192
def aQo:Value:=.tuple ⟨[.agg ⟨[.slice (some ⟨65202,0,(some 1)⟩) 1 1,.slice (some ⟨64388,0,(some 9)⟩) 2 2]⟩,j0]⟩
def aKI:Cp where
 f:=aDm
 args:=[.slice (some ⟨63448,0,(some 1)⟩) 1 1]
 h:=kTb (kTb (kTb (kTb (kTl (kTb (kTb (kTr (kTl (kTl (kTr (kTl (kTf x5)))))) (kTr (kTr (kTl (kTr (kTl (kTr (kTr (kTr (kTf (.cells ⟨[]⟩ 5))))))))))) (kTr (kTl (kTb (kTl (kTr (kTl (kTf x6)))) (kTl (kTr (kTl (kTr (kTr (kTr (kTf uQ)))))))))))) (kTb (kTb (kTr (kTr (kTr (kTl (kTr (kTl (kTr (kTr (kTr (kTf aBt)))))))))) (kTr (kTr (kTr (kTl (kTr (kTl (kTr (kTr (kTr (kTf (.cells ⟨[]⟩ 3)))))))))))) (kTl (kTr (kTr (kTb (kTl (kTr (kTf kO2))) (kTl (kTr (kTl (kTr (kTr (kTr (kTf aBu))))))))))))) (kTb (kTl (kTb (kTl (kTr (kTr (kTl (kTl (kTf kO6)))))) (kTr (kTr (kTr (kTl (kTr (kTl (kTr (kTr (kTr (kTf (.cells ⟨[]⟩ 3))))))))))))) (kTb (kTb (kTr (kTr (kTl (kTr (kTr (kTl (kTf gC))))))) (kTl (kTl (kTr (kTr (kTr (kTl (kTf kO1)))))))) (kTr (kTr (kTl (kTr (kTr (kTf kO0))))))))) (kTb (kTb (kTr (kTb (kTl (kTr (kTr (kTr (kTr (kTl (kTr (kTr (kTr (kTf kO6)))))))))) (kTr (kTr (kTr (kTf kO1)))))) (kTb (kTb (kTb (kTr (kTl (kTr (kTr (kTl (kTr (kTr (kTr (kTf kO1))))))))) (kTr (kTl (kTr (kTr (kTl (kTf gC))))))) (kTl (kTl (kTr (kTr (kTr (kTl (kTf kO1)))))))) (kTl (kTr (kTr (kTl (kTb (kTr (kTf aHz)) (kTr (kTl (kTf kN)))))))))) (kTb (kTb (kTr (kTr (kTr (kTr (kTl (kTl (kTl (kTf vO)))))))) (kTb (kTr (kTr (kTl (kTr (kTr (kTl (kTf kN))))))) (kTr (kTr (kTr (kTl (kTr (kTl (kTr (kTr (kTr (kTf fJ)))))))))))) (kTr (kTr (kTr (kTb (kTr (kTl (kTl (kTf kO6)))) (kTl (kTr (kTr (kTl (kTf kO6)))))))))))) (kTb (kTb (kTn .e kO2 (kTb (kTl (kTl (kTr (kTl (kTr (kTr (kTl (kTr (kTr (kTr (kTf kO1))))))))))) (kTb (kTb (kTr (kTl (kTr (kTf kO1)))) (kTr (kTr (kTr (kTr (kTl (kTr (kTr (kTr (kTf gC)))))))))) (kTl (kTr (kTr (kTr (kTr (kTl (kTr (kTr (kTr (kTf kO1))))))))))))) (kTb (kTb (kTl (kTl (kTr (kTr (kTl (kTl (kTf kO7))))))) (kTr (kTr (kTl (kTr (kTr (kTr (kTl (kTr (kTr (kTr (kTf qV)))))))))))) (kTr (kTr (kTr (kTl (kTr (kTr (kTr (kTl (kTr (kTr (kTr (kTf qV)))))))))))))) (kTb (kTb (kTb (kTb (kTr (kTr (kTr (kTl (kTl (kTl (kTf kO1))))))) (kTr (kTr (kTl (kTr (kTr (kTl (kTf fJ)))))))) (kTl (kTr (kTl (kTl (kTr (kTr (kTl (kTr (kTr (kTr (kTf (.cells ⟨[]⟩ 5))))))))))))) (kTb (kTr (kTb (kTr (kTl (kTr (kTf kO3)))) (kTl (kTl (kTr (kTr (kTl (kTr (kTr (kTr (kTf aBv))))))))))) (kTb (kTr (kTl (kTb (kTr (kTr (kTl (kTr (kTr (kTr (kTf aBw))))))) (kTr (kTr (kTl (kTr (kTr (kTr (kTf aBx)))))))))) (kTr (kTl (kTl (kTr (kTr (kTl (kTr (kTr (kTr (kTf (.cells ⟨[]⟩ 3)))))))))))))) (kTb (kTb (kTb (kTr (kTr (kTr (kTr (kTr (kTl (kTr (kTr (kTr (kTf aCt)))))))))) (kTr (kTr (kTl (kTr (kTr (kTl (kTf fJ)))))))) (kTb (kTr (kTr (kTr (kTr (kTr (kTl (kTr (kTr (kTr (kTf gC)))))))))) (kTl (kTr (kTr (kTr (kTr (kTl (kTr (kTr (kTr (kTf kO1)))))))))))) (kTr (kTr (kTb (kTl (kTl (kTl (kTr (kTl (kTf i6)))))) (kTl (kTr (kTr (kTr (kTl (kTr (kTr (kTr (kTf qV)))))))))))))))
 nx:=63459
 v:=aQo
 h':=kTb (kTb (kTb (kTb (kTl (kTb (kTb (kTr (kTl (kTl (kTr (kTl (kTf x5)))))) (kTr (kTr (kTl (kTr (kTl (kTr (kTr (kTr (kTf (.cells ⟨[]⟩ 5))))))))))) (kTr (kTl (kTb (kTl (kTr (kTl (kTf x6)))) (kTl (kTr (kTl (kTr (kTr (kTr (kTf uQ)))))))))))) (kTb (kTb (kTr (kTr (kTr (kTl (kTr (kTl (kTr (kTr (kTr (kTf aBt)))))))))) (kTr (kTr (kTr (kTl (kTr (kTl (kTr (kTr (kTr (kTf (.cells ⟨[]⟩ 3)))))))))))) (kTl (kTr (kTr (kTb (kTl (kTr (kTf kO2))) (kTl (kTr (kTl (kTr (kTr (kTr (kTf aBu))))))))))))) (kTb (kTl (kTb (kTl (kTr (kTr (kTl (kTl (kTf kO6)))))) (kTr (kTr (kTr (kTl (kTr (kTl (kTr (kTr (kTr (kTf (.cells ⟨[]⟩ 3))))))))))))) (kTb (kTb (kTr (kTr (kTl (kTr (kTr (kTl (kTf gC))))))) (kTl (kTl (kTr (kTr (kTr (kTl (kTf kO1)))))))) (kTr (kTr (kTl (kTr (kTr (kTf kO0))))))))) (kTb (kTb (kTr (kTb (kTl (kTr (kTr (kTr (kTr (kTl (kTr (kTr (kTr (kTf kO6)))))))))) (kTr (kTr (kTr (kTf kO1)))))) (kTb (kTb (kTb (kTr (kTl (kTr (kTr (kTl (kTr (kTr (kTr (kTf kO1))))))))) (kTr (kTl (kTr (kTr (kTl (kTf gC))))))) (kTl (kTl (kTr (kTr (kTr (kTl (kTf kO1)))))))) (kTl (kTr (kTr (kTl (kTb (kTr (kTf aHz)) (kTr (kTl (kTf kN)))))))))) (kTb (kTb (kTr (kTr (kTr (kTr (kTl (kTl (kTl (kTf vO)))))))) (kTb (kTr (kTr (kTl (kTr (kTr (kTl (kTf kN))))))) (kTr (kTr (kTr (kTl (kTr (kTl (kTr (kTr (kTr (kTf fJ)))))))))))) (kTr (kTr (kTr (kTb (kTr (kTl (kTl (kTf kO6)))) (kTl (kTr (kTr (kTl (kTf kO6)))))))))))) (kTb (kTb (kTn (kTb (kTl (kTr (kTr (kTl (kTl (kTr (kTr (kTr (kTr (kTr (kTf i6))))))))))) (kTl (kTr (kTr (kTr (kTl (kTr (kTr (kTr (kTr (kTr (kTf i6)))))))))))) kO2 (kTb (kTl (kTl (kTr (kTl (kTr (kTr (kTl (kTr (kTr (kTr (kTf kO1))))))))))) (kTb (kTb (kTr (kTl (kTr (kTf kO1)))) (kTr (kTr (kTr (kTr (kTl (kTr (kTr (kTr (kTf gC)))))))))) (kTl (kTr (kTr (kTr (kTr (kTl (kTr (kTr (kTr (kTf kO1))))))))))))) (kTb (kTb (kTl (kTl (kTr (kTr (kTb (kTl (kTf kO7)) (kTl (kTr (kTr (kTr (kTr (kTf aMZ))))))))))) (kTr (kTr (kTl (kTr (kTr (kTr (kTl (kTr (kTr (kTr (kTf qV)))))))))))) (kTr (kTr (kTr (kTl (kTr (kTr (kTr (kTl (kTr (kTr (kTr (kTf qV)))))))))))))) (kTb (kTb (kTb (kTb (kTr (kTr (kTr (kTl (kTl (kTl (kTf kO1))))))) (kTr (kTr (kTl (kTr (kTr (kTl (kTf fJ)))))))) (kTb (kTr (kTl (kTl (kTr (kTr (kTl (kTr (kTr (kTr (kTf (.cells ⟨[]⟩ 5))))))))))) (kTl (kTr (kTl (kTr (kTr (kTr (kTr (kTr (kTr (kTf kO1)))))))))))) (kTb (kTr (kTb (kTr (kTl (kTr (kTf kO3)))) (kTl (kTl (kTr (kTr (kTl (kTr (kTr (kTr (kTf aBv))))))))))) (kTb (kTr (kTl (kTb (kTr (kTr (kTl (kTr (kTr (kTr (kTf aBw))))))) (kTr (kTr (kTl (kTr (kTr (kTr (kTf aBx)))))))))) (kTr (kTl (kTl (kTr (kTr (kTl (kTr (kTr (kTr (kTf (.cells ⟨[]⟩ 3)))))))))))))) (kTb (kTb (kTb (kTr (kTr (kTr (kTr (kTr (kTl (kTr (kTr (kTr (kTf aCt)))))))))) (kTr (kTr (kTl (kTr (kTr (kTl (kTf fJ)))))))) (kTb (kTr (kTr (kTr (kTr (kTr (kTl (kTr (kTr (kTr (kTf gC)))))))))) (kTl (kTr (kTr (kTr (kTr (kTl (kTr (kTr (kTr (kTf kO1)))))))))))) (kTr (kTr (kTb (kTl (kTl (kTl (kTr (kTl (kTf i6)))))) (kTl (kTr (kTr (kTr (kTl (kTr (kTr (kTr (kTf qV)))))))))))))))
 nx':=65289
theorem aD3:rL Tryz.prog aKI:=s6 jY (l:=[rT,wI,xJ,aAJ,aFh]) (bD iS (bD kV (bD mE (bD nM (bD xK jX))))) (k:=200) fun ro=>by kernel_rfl
end V
end Go.Proofs.YtcaccnneblghgaaGreat
namespace Go.Proofs.YtcaccnneblghgaaGreat
namespace V
set_option maxRecDepth 1000000
def aNr:Obj:=.cells ⟨[.slice (some ⟨65202,0,(some 1)⟩) 1 1,.slice (some ⟨64388,0,(some 9)⟩) 2 2]⟩ 136
def aPO:Obj:=.cells ⟨[.slice (some ⟨99231,0,(some 2)⟩) 2 2]⟩ 200
def aPP:Obj:=.cells ⟨[s0,s0,.slice (some ⟨97869,0,(some 1)⟩) 1 1,.slice (some ⟨98394,0,(some 1)⟩) 1 1,.slice (some ⟨98155,0,(some 1)⟩) 1 1,s0,.slice (some ⟨98556,0,(some 1)⟩) 1 1,.slice (some ⟨99253,0,(some 1)⟩) 1 1,.slice (some ⟨99078,0,(some 1)⟩) 1 1,s0,.slice (some ⟨99415,0,(some 1)⟩) 1 1,.slice (some ⟨100098,0,(some 1)⟩) 1 1]⟩ 160
def aPQ:Obj:=.cells ⟨[.slice (some ⟨100076,0,(some 2)⟩) 2 2]⟩ 200
def aPR:Obj:=.cells ⟨[.slice (some ⟨98372,0,(some 2)⟩) 2 2]⟩ 200
def aQp:List Value:=[.agg ⟨[.slice (some ⟨65202,0,(some 1)⟩) 1 1,.slice (some ⟨64388,0,(some 9)⟩) 2 2]⟩]
def aQq:Value:=.tuple ⟨[.agg ⟨(aBW [.int .i64 2,s0,.slice (some ⟨99213,0,(some 4)⟩) 3 3])⟩,j0]⟩
def aMB:Cp where
 f:=aDn
 args:=aQp
 h:=kTb (kTb (kTb (kTb (kTl (kTb (kTb (kTr (kTl (kTl (kTr (kTl (kTf x5)))))) (kTr (kTr (kTl (kTr (kTl (kTr (kTr (kTr (kTf (.cells ⟨[]⟩ 5))))))))))) (kTr (kTl (kTb (kTl (kTr (kTl (kTf x6)))) (kTl (kTr (kTl (kTr (kTr (kTr (kTf uQ)))))))))))) (kTb (kTb (kTr (kTr (kTr (kTl (kTr (kTl (kTr (kTr (kTr (kTf aBt)))))))))) (kTr (kTr (kTr (kTl (kTr (kTl (kTr (kTr (kTr (kTf (.cells ⟨[]⟩ 3)))))))))))) (kTl (kTr (kTr (kTb (kTl (kTr (kTf kO2))) (kTl (kTr (kTl (kTr (kTr (kTr (kTf aBu))))))))))))) (kTb (kTl (kTb (kTl (kTr (kTr (kTl (kTl (kTf kO6)))))) (kTr (kTr (kTr (kTl (kTr (kTl (kTr (kTr (kTr (kTf (.cells ⟨[]⟩ 3))))))))))))) (kTb (kTb (kTr (kTr (kTl (kTr (kTr (kTl (kTf gC))))))) (kTl (kTl (kTr (kTr (kTr (kTl (kTf kO1)))))))) (kTr (kTr (kTl (kTr (kTr (kTf kO0))))))))) (kTb (kTb (kTr (kTb (kTl (kTr (kTr (kTr (kTr (kTl (kTr (kTr (kTr (kTf kO6)))))))))) (kTr (kTr (kTr (kTf kO1)))))) (kTb (kTb (kTb (kTr (kTl (kTr (kTr (kTl (kTr (kTr (kTr (kTf kO1))))))))) (kTr (kTl (kTr (kTr (kTl (kTf gC))))))) (kTl (kTl (kTr (kTr (kTr (kTl (kTf kO1)))))))) (kTl (kTr (kTr (kTl (kTb (kTr (kTf aHz)) (kTr (kTl (kTf kN)))))))))) (kTb (kTb (kTr (kTr (kTr (kTr (kTl (kTl (kTl (kTf vO)))))))) (kTb (kTr (kTr (kTl (kTr (kTr (kTl (kTf kN))))))) (kTr (kTr (kTr (kTl (kTr (kTl (kTr (kTr (kTr (kTf fJ)))))))))))) (kTr (kTr (kTr (kTb (kTr (kTl (kTl (kTf kO6)))) (kTl (kTr (kTr (kTl (kTf kO6)))))))))))) (kTb (kTb (kTn (kTb (kTl (kTr (kTr (kTl (kTl (kTr (kTr (kTr (kTr (kTr (kTf i6))))))))))) (kTl (kTr (kTr (kTr (kTl (kTr (kTr (kTr (kTr (kTr (kTf i6)))))))))))) kO2 (kTb (kTl (kTl (kTr (kTl (kTr (kTr (kTl (kTr (kTr (kTr (kTf kO1))))))))))) (kTb (kTb (kTr (kTl (kTr (kTf kO1)))) (kTr (kTr (kTr (kTr (kTl (kTr (kTr (kTr (kTf gC)))))))))) (kTl (kTr (kTr (kTr (kTr (kTl (kTr (kTr (kTr (kTf kO1))))))))))))) (kTb (kTb (kTl (kTl (kTr (kTr (kTb (kTl (kTf kO7)) (kTl (kTr (kTr (kTr (kTr (kTf aMZ))))))))))) (kTr (kTr (kTl (kTr (kTr (kTr (kTl (kTr (kTr (kTr (kTf qV)))))))))))) (kTb (kTl (kTl (kTl (kTr (kTr (kTr (kTr (kTr (kTr (kTr (kTf aNr))))))))))) (kTr (kTr (kTl (kTr (kTr (kTr (kTl (kTr (kTr (kTr (kTf qV)))))))))))))) (kTb (kTb (kTb (kTb (kTr (kTr (kTr (kTl (kTl (kTl (kTf kO1))))))) (kTr (kTr (kTl (kTr (kTr (kTl (kTf fJ)))))))) (kTb (kTr (kTl (kTl (kTr (kTr (kTl (kTr (kTr (kTr (kTf (.cells ⟨[]⟩ 5))))))))))) (kTl (kTr (kTl (kTr (kTr (kTr (kTr (kTr (kTr (kTf kO1)))))))))))) (kTb (kTr (kTb (kTr (kTl (kTr (kTf kO3)))) (kTl (kTl (kTr (kTr (kTl (kTr (kTr (kTr (kTf aBv))))))))))) (kTb (kTr (kTl (kTb (kTr (kTr (kTl (kTr (kTr (kTr (kTf aBw))))))) (kTr (kTr (kTl (kTr (kTr (kTr (kTf aBx)))))))))) (kTr (kTl (kTl (kTr (kTr (kTl (kTr (kTr (kTr (kTf (.cells ⟨[]⟩ 3)))))))))))))) (kTb (kTb (kTb (kTr (kTr (kTr (kTr (kTr (kTl (kTr (kTr (kTr (kTf aCt)))))))))) (kTr (kTr (kTl (kTr (kTr (kTl (kTf fJ)))))))) (kTb (kTr (kTr (kTr (kTr (kTr (kTl (kTr (kTr (kTr (kTf gC)))))))))) (kTl (kTr (kTr (kTr (kTr (kTl (kTr (kTr (kTr (kTf kO1)))))))))))) (kTr (kTr (kTb (kTl (kTl (kTl (kTr (kTl (kTf i6)))))) (kTl (kTr (kTr (kTr (kTl (kTr (kTr (kTr (kTf qV)))))))))))))))
 nx:=65299
 v:=aQq
 h':=kTb (kTb (kTb (kTb (kTl (kTb (kTb (kTr (kTl (kTl (kTr (kTl (kTf x5)))))) (kTr (kTr (kTl (kTr (kTl (kTr (kTr (kTr (kTf (.cells ⟨[]⟩ 5))))))))))) (kTb (kTr (kTr (kTr (kTl (kTl (kTl (kTl (kTl (kTr (kTf aCu)))))))))) (kTl (kTb (kTl (kTr (kTl (kTf x6)))) (kTl (kTr (kTl (kTr (kTr (kTr (kTf uQ)))))))))))) (kTb (kTb (kTr (kTr (kTr (kTl (kTr (kTl (kTr (kTr (kTr (kTf aBt)))))))))) (kTr (kTr (kTr (kTl (kTr (kTl (kTr (kTr (kTr (kTf (.cells ⟨[]⟩ 3)))))))))))) (kTl (kTr (kTb (kTl (kTl (kTr (kTl (kTl (kTl (kTl (kTr (kTf kO1))))))))) (kTb (kTl (kTr (kTf kO2))) (kTl (kTr (kTl (kTr (kTr (kTr (kTf aBu))))))))))))) (kTb (kTl (kTb (kTl (kTr (kTr (kTl (kTl (kTf kO6)))))) (kTr (kTr (kTr (kTl (kTr (kTl (kTr (kTr (kTr (kTf (.cells ⟨[]⟩ 3))))))))))))) (kTb (kTb (kTr (kTr (kTl (kTr (kTr (kTl (kTf gC))))))) (kTb (kTl (kTr (kTr (kTr (kTl (kTf kO1)))))) (kTl (kTr (kTr (kTr (kTr (kTr (kTr (kTr (kTl (kTf kO1)))))))))))) (kTr (kTr (kTl (kTr (kTr (kTf kO0))))))))) (kTb (kTb (kTr (kTb (kTl (kTr (kTr (kTr (kTr (kTl (kTr (kTr (kTr (kTf kO6)))))))))) (kTr (kTr (kTr (kTf kO1)))))) (kTb (kTb (kTb (kTr (kTl (kTr (kTr (kTl (kTr (kTr (kTr (kTf kO1))))))))) (kTr (kTl (kTr (kTr (kTl (kTf gC))))))) (kTl (kTl (kTr (kTr (kTr (kTl (kTf kO1)))))))) (kTl (kTr (kTr (kTl (kTb (kTr (kTf aHz)) (kTr (kTl (kTf kN)))))))))) (kTb (kTb (kTr (kTr (kTr (kTr (kTl (kTl (kTl (kTf vO)))))))) (kTb (kTr (kTr (kTl (kTr (kTr (kTl (kTf kN))))))) (kTb (kTr (kTr (kTr (kTl (kTl (kTl (kTl (kTl (kTr (kTf aPO)))))))))) (kTr (kTr (kTl (kTr (kTl (kTr (kTr (kTr (kTf fJ)))))))))))) (kTb (kTl (kTb (kTr (kTr (kTr (kTl (kTl (kTl (kTl (kTl (kTr (kTf aPP)))))))))) (kTl (kTl (kTr (kTr (kTr (kTr (kTr (kTr (kTl (kTf fJ)))))))))))) (kTr (kTr (kTb (kTr (kTl (kTl (kTf kO6)))) (kTl (kTr (kTr (kTl (kTf kO6)))))))))))) (kTb (kTb (kTn (kTb (kTl (kTr (kTr (kTl (kTl (kTr (kTr (kTr (kTr (kTr (kTf i6))))))))))) (kTl (kTr (kTr (kTr (kTl (kTr (kTr (kTr (kTr (kTr (kTf i6)))))))))))) kO2 (kTb (kTl (kTl (kTr (kTl (kTr (kTr (kTl (kTr (kTr (kTr (kTf kO1))))))))))) (kTb (kTb (kTr (kTl (kTr (kTf kO1)))) (kTr (kTr (kTr (kTr (kTl (kTr (kTr (kTr (kTf gC)))))))))) (kTl (kTr (kTr (kTr (kTr (kTl (kTr (kTr (kTr (kTf kO1))))))))))))) (kTb (kTb (kTl (kTb (kTr (kTr (kTb (kTl (kTf kO7)) (kTl (kTr (kTr (kTr (kTr (kTf aMZ))))))))) (kTl (kTl (kTl (kTl (kTl (kTl (kTl (kTl (kTr (kTf aLE)))))))))))) (kTr (kTr (kTl (kTr (kTr (kTr (kTl (kTr (kTr (kTr (kTf qV)))))))))))) (kTb (kTb (kTl (kTl (kTr (kTr (kTr (kTr (kTr (kTr (kTr (kTf aNr)))))))))) (kTr (kTr (kTl (kTr (kTr (kTl (kTl (kTl (kTl (kTr (kTf aCu)))))))))))) (kTr (kTr (kTb (kTr (kTr (kTr (kTl (kTr (kTr (kTr (kTf qV)))))))) (kTl (kTl (kTl (kTl (kTl (kTl (kTl (kTr (kTf kO1))))))))))))))) (kTb (kTb (kTb (kTb (kTb (kTl (kTr (kTr (kTr (kTl (kTl (kTl (kTl (kTr (kTf aPQ)))))))))) (kTr (kTr (kTl (kTl (kTl (kTf kO1))))))) (kTr (kTr (kTl (kTr (kTr (kTl (kTf fJ)))))))) (kTb (kTr (kTl (kTl (kTr (kTr (kTl (kTr (kTr (kTr (kTf (.cells ⟨[]⟩ 5))))))))))) (kTl (kTr (kTl (kTr (kTr (kTr (kTr (kTr (kTr (kTf kO1)))))))))))) (kTb (kTr (kTb (kTr (kTl (kTr (kTf kO3)))) (kTl (kTl (kTr (kTr (kTl (kTr (kTr (kTr (kTf aBv))))))))))) (kTb (kTr (kTl (kTb (kTb (kTl (kTl (kTl (kTl (kTl (kTr (kTf aPR))))))) (kTr (kTl (kTr (kTr (kTr (kTf aBw))))))) (kTr (kTr (kTl (kTr (kTr (kTr (kTf aBx)))))))))) (kTr (kTl (kTl (kTr (kTr (kTl (kTr (kTr (kTr (kTf (.cells ⟨[]⟩ 3)))))))))))))) (kTb (kTb (kTb (kTb (kTl (kTr (kTr (kTl (kTl (kTl (kTl (kTl (kTr (kTf i6)))))))))) (kTr (kTr (kTr (kTr (kTl (kTr (kTr (kTr (kTf aCt)))))))))) (kTr (kTr (kTl (kTr (kTr (kTl (kTf fJ)))))))) (kTb (kTr (kTr (kTr (kTr (kTr (kTl (kTr (kTr (kTr (kTf gC)))))))))) (kTl (kTr (kTr (kTr (kTr (kTl (kTr (kTr (kTr (kTf kO1)))))))))))) (kTr (kTr (kTb (kTl (kTl (kTl (kTr (kTl (kTf i6)))))) (kTl (kTr (kTr (kTr (kTl (kTr (kTr (kTr (kTf qV)))))))))))))))
 nx':=100143
theorem aHb:rL Tryz.prog aMB:=s6 jY (l:=[rT,wI,xJ,aAJ,aFh,aKI]) (bD iS (bD kV (bD mE (bD nM (bD xK (bD aD3 jX)))))) (k:=200) fun ro=>by kernel_rfl
end V
end Go.Proofs.YtcaccnneblghgaaGreat
namespace Go.Proofs.YtcaccnneblghgaaGreat
namespace V
set_option maxRecDepth 1000000
def aQC:Obj:=.cells ⟨(aBW [.int .i64 2,s0,.slice (some ⟨99213,0,(some 4)⟩) 3 3])⟩ 63
def aM0:Obj:=.cells ⟨[jm,s0,.int .i64 1,.slice (some ⟨120543,0,(some 1)⟩) 0 0]⟩ 202
def aM1:Obj:=.cells ⟨[.slice (some ⟨120432,0,(some 1)⟩) 0 0,.slice (some ⟨120436,0,(some 1)⟩) 0 0,.slice (some ⟨120450,0,(some 1)⟩) 1 1,.slice (some ⟨120420,0,(some 1)⟩) 1 1,.slice (some ⟨120597,0,(some 1)⟩) 1 1,.slice (some ⟨120583,0,(some 1)⟩) 0 0,.slice (some ⟨120598,0,(some 1)⟩) 1 1,.slice (some ⟨120567,0,(some 1)⟩) 1 1]⟩ 160
def aM2:Obj:=.cells ⟨[.slice (some ⟨120551,0,(some 2)⟩) 2 2]⟩ 200
def aM3:Obj:=.cells ⟨[.slice (some ⟨120404,0,(some 2)⟩) 2 2]⟩ 200
def aM4:Obj:=.cells ⟨[jm,s0,.int .i64 1,.slice (some ⟨120396,0,(some 1)⟩) 0 0]⟩ 202
def aQr:List Value:=[.agg ⟨(aBW [.int .i64 2,s0,.slice (some ⟨99213,0,(some 4)⟩) 3 3])⟩]
def aQs:Value:=.tuple ⟨[.agg ⟨(aBW [.int .i64 2,.slice (some ⟨120300,0,(some 2)⟩) 0 0,.slice (some ⟨120807,0,(some 4)⟩) 2 2])⟩,j0]⟩
def aOm:Cp where
 f:=aDo
 args:=aQr
 h:=kTb (kTb (kTb (kTb (kTl (kTb (kTb (kTr (kTl (kTl (kTr (kTl (kTf x5)))))) (kTr (kTr (kTl (kTr (kTl (kTr (kTr (kTr (kTf (.cells ⟨[]⟩ 5))))))))))) (kTb (kTr (kTr (kTr (kTl (kTl (kTl (kTl (kTl (kTr (kTf aCu)))))))))) (kTl (kTb (kTl (kTr (kTl (kTf x6)))) (kTl (kTr (kTl (kTr (kTr (kTr (kTf uQ)))))))))))) (kTb (kTb (kTr (kTr (kTr (kTl (kTr (kTl (kTr (kTr (kTr (kTf aBt)))))))))) (kTr (kTr (kTr (kTl (kTr (kTl (kTr (kTr (kTr (kTf (.cells ⟨[]⟩ 3)))))))))))) (kTl (kTr (kTb (kTl (kTl (kTr (kTl (kTl (kTl (kTl (kTr (kTf kO1))))))))) (kTb (kTl (kTr (kTf kO2))) (kTl (kTr (kTl (kTr (kTr (kTr (kTf aBu))))))))))))) (kTb (kTl (kTb (kTl (kTr (kTr (kTl (kTl (kTf kO6)))))) (kTr (kTr (kTr (kTl (kTr (kTl (kTr (kTr (kTr (kTf (.cells ⟨[]⟩ 3))))))))))))) (kTb (kTb (kTr (kTr (kTl (kTr (kTr (kTl (kTf gC))))))) (kTb (kTl (kTr (kTr (kTr (kTl (kTf kO1)))))) (kTl (kTr (kTr (kTr (kTr (kTr (kTr (kTr (kTl (kTf kO1)))))))))))) (kTr (kTr (kTl (kTr (kTr (kTf kO0))))))))) (kTb (kTb (kTr (kTb (kTl (kTr (kTr (kTr (kTr (kTl (kTr (kTr (kTr (kTf kO6)))))))))) (kTr (kTr (kTr (kTf kO1)))))) (kTb (kTb (kTb (kTr (kTl (kTr (kTr (kTl (kTr (kTr (kTr (kTf kO1))))))))) (kTr (kTl (kTr (kTr (kTl (kTf gC))))))) (kTl (kTl (kTr (kTr (kTr (kTl (kTf kO1)))))))) (kTl (kTr (kTr (kTl (kTb (kTr (kTf aHz)) (kTr (kTl (kTf kN)))))))))) (kTb (kTb (kTr (kTr (kTr (kTr (kTl (kTl (kTl (kTf vO)))))))) (kTb (kTr (kTr (kTl (kTr (kTr (kTl (kTf kN))))))) (kTb (kTr (kTr (kTr (kTl (kTl (kTl (kTl (kTl (kTr (kTf aPO)))))))))) (kTr (kTr (kTl (kTr (kTl (kTr (kTr (kTr (kTf fJ)))))))))))) (kTb (kTl (kTb (kTr (kTr (kTr (kTl (kTl (kTl (kTl (kTl (kTr (kTf aPP)))))))))) (kTl (kTl (kTr (kTr (kTr (kTr (kTr (kTr (kTl (kTf fJ)))))))))))) (kTr (kTr (kTb (kTr (kTl (kTl (kTf kO6)))) (kTl (kTr (kTr (kTl (kTf kO6)))))))))))) (kTb (kTb (kTn (kTb (kTl (kTr (kTr (kTl (kTl (kTr (kTr (kTr (kTr (kTr (kTf i6))))))))))) (kTl (kTr (kTr (kTr (kTl (kTr (kTr (kTr (kTr (kTr (kTf i6)))))))))))) kO2 (kTb (kTl (kTl (kTr (kTl (kTr (kTr (kTl (kTr (kTr (kTr (kTf kO1))))))))))) (kTb (kTb (kTr (kTl (kTr (kTf kO1)))) (kTr (kTr (kTr (kTr (kTl (kTr (kTr (kTr (kTf gC)))))))))) (kTl (kTr (kTr (kTr (kTr (kTl (kTr (kTr (kTr (kTf kO1))))))))))))) (kTb (kTb (kTl (kTb (kTr (kTr (kTb (kTl (kTf kO7)) (kTl (kTr (kTr (kTr (kTr (kTf aMZ))))))))) (kTl (kTl (kTl (kTl (kTl (kTl (kTl (kTl (kTr (kTf aLE)))))))))))) (kTr (kTr (kTl (kTr (kTr (kTr (kTl (kTr (kTr (kTr (kTf qV)))))))))))) (kTb (kTb (kTl (kTl (kTr (kTr (kTr (kTr (kTr (kTr (kTr (kTf aNr)))))))))) (kTr (kTr (kTl (kTr (kTr (kTl (kTl (kTl (kTl (kTr (kTf aCu)))))))))))) (kTr (kTr (kTb (kTr (kTr (kTr (kTl (kTr (kTr (kTr (kTf qV)))))))) (kTl (kTl (kTl (kTl (kTl (kTl (kTl (kTr (kTf kO1))))))))))))))) (kTb (kTb (kTb (kTb (kTb (kTl (kTr (kTr (kTr (kTl (kTl (kTl (kTl (kTr (kTf aPQ)))))))))) (kTr (kTr (kTl (kTl (kTl (kTf kO1))))))) (kTr (kTr (kTl (kTr (kTr (kTl (kTf fJ)))))))) (kTb (kTr (kTl (kTl (kTr (kTr (kTl (kTr (kTr (kTr (kTf (.cells ⟨[]⟩ 5))))))))))) (kTl (kTb (kTr (kTr (kTr (kTl (kTl (kTl (kTl (kTr (kTf aQC))))))))) (kTl (kTr (kTr (kTr (kTr (kTr (kTr (kTf kO1)))))))))))) (kTb (kTr (kTb (kTr (kTl (kTr (kTf kO3)))) (kTl (kTl (kTr (kTr (kTl (kTr (kTr (kTr (kTf aBv))))))))))) (kTb (kTr (kTl (kTb (kTb (kTl (kTl (kTl (kTl (kTl (kTr (kTf aPR))))))) (kTr (kTl (kTr (kTr (kTr (kTf aBw))))))) (kTr (kTr (kTl (kTr (kTr (kTr (kTf aBx)))))))))) (kTr (kTl (kTl (kTr (kTr (kTl (kTr (kTr (kTr (kTf (.cells ⟨[]⟩ 3)))))))))))))) (kTb (kTb (kTb (kTb (kTl (kTr (kTr (kTl (kTl (kTl (kTl (kTl (kTr (kTf i6)))))))))) (kTr (kTr (kTr (kTr (kTl (kTr (kTr (kTr (kTf aCt)))))))))) (kTr (kTr (kTl (kTr (kTr (kTl (kTf fJ)))))))) (kTb (kTr (kTr (kTr (kTr (kTr (kTl (kTr (kTr (kTr (kTf gC)))))))))) (kTl (kTr (kTr (kTr (kTr (kTl (kTr (kTr (kTr (kTf kO1)))))))))))) (kTr (kTr (kTb (kTl (kTl (kTl (kTr (kTl (kTf i6)))))) (kTl (kTr (kTr (kTr (kTl (kTr (kTr (kTr (kTf qV)))))))))))))))
 nx:=100153
 v:=aQs
 h':=kTb (kTb (kTb (kTb (kTl (kTb (kTb (kTr (kTl (kTl (kTr (kTl (kTf x5)))))) (kTr (kTr (kTl (kTr (kTl (kTr (kTr (kTr (kTf (.cells ⟨[]⟩ 5))))))))))) (kTb (kTr (kTr (kTr (kTl (kTl (kTl (kTl (kTl (kTr (kTf aCu)))))))))) (kTb (kTb (kTl (kTr (kTl (kTf x6)))) (kTl (kTr (kTl (kTr (kTr (kTr (kTf uQ)))))))) (kTl (kTr (kTr (kTl (kTr (kTl (kTr (kTr (kTf (.cells ⟨[]⟩ 5)))))))))))))) (kTb (kTb (kTb (kTl (kTr (kTr (kTr (kTl (kTr (kTl (kTr (kTr (kTf (.cells ⟨[]⟩ 3))))))))))) (kTr (kTr (kTl (kTr (kTl (kTr (kTr (kTr (kTf aBt)))))))))) (kTr (kTr (kTb (kTr (kTr (kTl (kTr (kTl (kTr (kTr (kTf aM0)))))))) (kTb (kTr (kTl (kTr (kTr (kTr (kTf (.cells ⟨[]⟩ 3))))))) (kTr (kTl (kTr (kTl (kTr (kTr (kTf aM1)))))))))))) (kTb (kTr (kTb (kTl (kTl (kTr (kTl (kTl (kTl (kTl (kTr (kTf kO1))))))))) (kTb (kTl (kTr (kTf kO2))) (kTl (kTr (kTl (kTr (kTr (kTr (kTf aBu)))))))))) (kTr (kTr (kTl (kTr (kTr (kTl (kTr (kTl (kTr (kTr (kTf aM2)))))))))))))) (kTb (kTl (kTb (kTl (kTr (kTr (kTl (kTl (kTf kO6)))))) (kTr (kTr (kTr (kTl (kTr (kTl (kTr (kTr (kTr (kTf (.cells ⟨[]⟩ 3))))))))))))) (kTb (kTb (kTr (kTr (kTl (kTr (kTr (kTl (kTf gC))))))) (kTb (kTl (kTr (kTr (kTr (kTl (kTf kO1)))))) (kTl (kTr (kTr (kTr (kTr (kTr (kTr (kTr (kTl (kTf kO1)))))))))))) (kTr (kTr (kTl (kTr (kTr (kTf kO0))))))))) (kTb (kTb (kTr (kTb (kTl (kTr (kTr (kTr (kTr (kTl (kTr (kTr (kTr (kTf kO6)))))))))) (kTr (kTr (kTr (kTf kO1)))))) (kTb (kTb (kTb (kTr (kTl (kTr (kTr (kTl (kTr (kTr (kTr (kTf kO1))))))))) (kTr (kTl (kTr (kTr (kTl (kTf gC))))))) (kTl (kTl (kTr (kTr (kTr (kTl (kTf kO1)))))))) (kTl (kTr (kTr (kTl (kTb (kTr (kTf aHz)) (kTr (kTl (kTf kN)))))))))) (kTb (kTb (kTr (kTr (kTr (kTr (kTl (kTl (kTl (kTf vO)))))))) (kTb (kTb (kTl (kTr (kTr (kTr (kTl (kTr (kTl (kTr (kTr (kTf kO1)))))))))) (kTr (kTl (kTr (kTr (kTl (kTf kN))))))) (kTb (kTr (kTr (kTr (kTl (kTl (kTl (kTl (kTl (kTr (kTf aPO)))))))))) (kTr (kTr (kTl (kTr (kTl (kTr (kTr (kTr (kTf fJ)))))))))))) (kTb (kTl (kTb (kTr (kTr (kTr (kTl (kTl (kTl (kTl (kTl (kTr (kTf aPP)))))))))) (kTl (kTl (kTr (kTr (kTr (kTr (kTr (kTr (kTl (kTf fJ)))))))))))) (kTr (kTr (kTb (kTr (kTl (kTl (kTf kO6)))) (kTl (kTr (kTr (kTl (kTf kO6)))))))))))) (kTb (kTb (kTn (kTb (kTl (kTr (kTr (kTl (kTl (kTr (kTr (kTr (kTr (kTr (kTf i6))))))))))) (kTb (kTr (kTr (kTr (kTl (kTr (kTr (kTr (kTr (kTr (kTf i6)))))))))) (kTr (kTl (kTl (kTr (kTr (kTl (kTr (kTl (kTr (kTr (kTf (.cells ⟨[]⟩ 3)))))))))))))) kO2 (kTb (kTl (kTl (kTr (kTl (kTr (kTr (kTl (kTr (kTr (kTr (kTf kO1))))))))))) (kTb (kTb (kTr (kTl (kTr (kTf kO1)))) (kTr (kTr (kTr (kTr (kTl (kTr (kTr (kTr (kTf gC)))))))))) (kTl (kTr (kTr (kTr (kTr (kTl (kTr (kTr (kTr (kTf kO1))))))))))))) (kTb (kTb (kTb (kTb (kTr (kTr (kTb (kTl (kTf kO7)) (kTl (kTr (kTr (kTr (kTr (kTf aMZ))))))))) (kTl (kTl (kTl (kTl (kTl (kTl (kTl (kTl (kTr (kTf aLE))))))))))) (kTr (kTl (kTl (kTr (kTr (kTl (kTr (kTl (kTr (kTr (kTf aM3)))))))))))) (kTb (kTr (kTl (kTl (kTr (kTr (kTl (kTr (kTl (kTr (kTr (kTf aM4))))))))))) (kTr (kTl (kTb (kTr (kTr (kTl (kTr (kTl (kTr (kTr (kTf (.cells ⟨[]⟩ 3))))))))) (kTr (kTr (kTl (kTr (kTr (kTr (kTf qV)))))))))))) (kTb (kTb (kTb (kTl (kTr (kTr (kTr (kTr (kTr (kTr (kTr (kTf aNr))))))))) (kTl (kTl (kTr (kTr (kTl (kTr (kTl (kTr (kTr (kTf (.cells ⟨[]⟩ 5)))))))))))) (kTr (kTr (kTb (kTr (kTr (kTl (kTl (kTl (kTl (kTr (kTf aCu)))))))) (kTl (kTr (kTl (kTr (kTl (kTr (kTr (kTf uQ)))))))))))) (kTr (kTr (kTb (kTr (kTr (kTr (kTl (kTr (kTr (kTr (kTf qV)))))))) (kTl (kTl (kTl (kTl (kTl (kTl (kTl (kTr (kTf kO1))))))))))))))) (kTb (kTb (kTb (kTb (kTb (kTb (kTr (kTr (kTr (kTl (kTl (kTl (kTl (kTr (kTf aPQ))))))))) (kTl (kTr (kTr (kTl (kTr (kTl (kTr (kTr (kTf fJ)))))))))) (kTr (kTr (kTl (kTl (kTl (kTf kO1))))))) (kTr (kTr (kTl (kTr (kTr (kTl (kTf fJ)))))))) (kTb (kTr (kTl (kTl (kTr (kTr (kTl (kTr (kTr (kTr (kTf (.cells ⟨[]⟩ 5))))))))))) (kTl (kTb (kTr (kTr (kTr (kTl (kTl (kTl (kTl (kTr (kTf aQC))))))))) (kTl (kTr (kTr (kTr (kTr (kTr (kTr (kTf kO1)))))))))))) (kTb (kTr (kTb (kTr (kTl (kTr (kTf kO3)))) (kTl (kTl (kTr (kTr (kTl (kTr (kTr (kTr (kTf aBv))))))))))) (kTb (kTr (kTl (kTb (kTb (kTl (kTl (kTl (kTl (kTl (kTr (kTf aPR))))))) (kTr (kTl (kTr (kTr (kTr (kTf aBw))))))) (kTr (kTr (kTl (kTr (kTr (kTr (kTf aBx)))))))))) (kTr (kTl (kTl (kTr (kTr (kTl (kTr (kTr (kTr (kTf (.cells ⟨[]⟩ 3)))))))))))))) (kTb (kTb (kTb (kTb (kTl (kTr (kTr (kTl (kTl (kTl (kTl (kTl (kTr (kTf i6)))))))))) (kTr (kTr (kTr (kTr (kTl (kTr (kTr (kTr (kTf aCt)))))))))) (kTr (kTr (kTl (kTr (kTr (kTl (kTf fJ)))))))) (kTb (kTb (kTl (kTr (kTr (kTr (kTl (kTr (kTl (kTr (kTr (kTf kO1)))))))))) (kTr (kTr (kTr (kTr (kTl (kTr (kTr (kTr (kTf gC)))))))))) (kTl (kTr (kTr (kTr (kTr (kTl (kTr (kTr (kTr (kTf kO1)))))))))))) (kTr (kTr (kTb (kTl (kTl (kTl (kTr (kTl (kTf i6)))))) (kTl (kTr (kTr (kTr (kTl (kTr (kTr (kTr (kTf qV)))))))))))))))
 nx':=120818
theorem aMC:rL Tryz.prog aOm:=s6 jY (l:=[rT,wI,xJ,aAJ,aFh,aKI,aMB]) (bD iS (bD kV (bD mE (bD nM (bD xK (bD aD3 (bD aHb jX))))))) (k:=200) fun ro=>by kernel_rfl
end V
end Go.Proofs.YtcaccnneblghgaaGreat