/- Texts laid one behind the other: G4, T6, LCuts.
   No condition. -/
import Derived.KernelRfl
import Derived.Test.YtcaccnneblghgaaGreatQ36
set_option linter.unusedVariables false
set_option linter.unusedSimpArgs false
namespace Go.Proofs.YtcaccnneblghgaaGreat
namespace V
attribute [local irreducible] rJ aN aB
@[irreducible] def lK (ro:Ro) (K:KV):Env→T Obj→Nat→Prop:=fun e h nx=>aB (bQ Tryz.prog eE (nx+2) 1 [(0,(e 13))]) fun n'=>eS h (nx+2) n'.2 fun aN'=>aB (cA Tryz.prog ro aN' (nx+4) #[eE,eE] [(e 12),n'.1]) fun f'=>aB (loadA ro f'.2.1 4 (e 3)) fun aO'=>aN Tryz.prog ro s7 [aO',(Value.int IntKind.i64 1000)] f'.2.1 (f'.2.2+3) fun o' p' aP'=>aB (nth 0 o') fun a'=>aB (nth 1 o') fun aQ'=>aB (loadA ro p' 4 (e 3)) fun aR'=>aN Tryz.prog ro s7 [aR',(Value.int IntKind.i64 1000)] p' (aP'+7) fun q' r' s'=>aB (nth 0 q') fun b'=>aB (nth 1 q') fun aS'=>aB (v8 .eql a' (Value.pointer none)) fun j'=>ifP j' false r' (s'+8) (fun aT'=>aT' b' r' (s'+9)) fun aU' t' u'=>ifP j' false t' u' (fun aV'=>aB (v8 .eql aU' (Value.pointer none)) fun aW'=>aV' aW' t' (u'+1)) fun aX' v' w'=>aB (bL j' (Value.bool true) aX') fun k'=>ifP k' false v' (w'+2) (fun aY'=>aY' aQ' v' (w'+3)) fun aZ' x' y'=>ifP k' false x' y' (fun a0'=>aB (aO .neq aZ' (Value.int IntKind.i64 0)) fun a1'=>a0' a1' x' (y'+1)) fun a2' z' A'=>aB (bL k' (Value.bool true) a2') fun l'=>ifP l' false z' (A'+2) (fun a3'=>a3' aS' z' (A'+3)) fun a4' B' C'=>ifP l' false B' C' (fun a5'=>aB (aO .neq a4' (Value.int IntKind.i64 0)) fun a6'=>a5' a6' B' (C'+1)) fun a7' D' E'=>aB (bL l' (Value.bool true) a7') fun a8'=>aQ a8' (∃ F',Sub F' D'∧K (Value.bool false) F' (E'+2)) (aN Tryz.prog ro uC [a',(e 8)] D' (E'+4) fun G' a9' ba'=>aB (nth 0 G') fun bb'=>aB (nth 1 G') fun bc'=>aN Tryz.prog ro uC [b',f'.1] a9' (ba'+8) fun H' I' J'=>aB (nth 0 H') fun bd'=>aB (nth 1 H') fun be'=>ifP (e 7) true I' (J'+7) (fun bf'=>bf' bc' I' (J'+8)) fun bg' K' L'=>ifP (e 7) true K' L' (fun bh'=>aB (aO .eql bg' (Value.int IntKind.i64 0)) fun bi'=>bh' bi' K' (L'+1)) fun bj' M' N'=>aB (bL (e 7) bj' (Value.bool false)) fun m'=>ifP m' true M' (N'+2) (fun bk'=>bk' be' M' (N'+3)) fun bl' O' P'=>ifP m' true O' P' (fun bm'=>aB (aO .eql bl' (Value.int IntKind.i64 0)) fun bn'=>bm' bn' O' (P'+1)) fun bo' Q' R'=>aB (bL m' bo' (Value.bool false)) fun g'=>ifP g' true Q' (R'+2) (fun bp'=>bp' bb' Q' (R'+3)) fun bq' S' T'=>ifP g' true S' T' (fun br'=>br' bd' S' (T'+1)) fun bs' U' V'=>ifP g' true U' V' (fun bt'=>aN Tryz.prog ro wV [bq',bs'] U' (V'+1) fun bu' bv' bw'=>bt' bu' bv' bw') fun bx' W' X'=>aB (bL g' bx' (Value.bool false)) fun c'=>ifP c' true W' (X'+2) (fun by'=>by' a' W' (X'+3)) fun bz' Y' Z'=>ifP c' true Y' Z' (fun bA'=>aN Tryz.prog ro jN [bz'] Y' (Z'+1) fun bB' bC' bD'=>bA' bB' bC' bD') fun bE' aa' ab'=>ifP c' true aa' ab' (fun bF'=>bF' b' aa' (ab'+1)) fun bG' ac' ad'=>ifP c' true ac' ad' (fun bH'=>aN Tryz.prog ro jN [bG'] ac' (ad'+1) fun bI' bJ' bK'=>bH' bI' bJ' bK') fun bL' ae' af'=>ifP c' true ae' af' (fun bM'=>aB (aO .eql bE' bL') fun bN'=>bM' bN' ae' (af'+1)) fun bO' ag' ah'=>aB (bL c' bO' (Value.bool false)) fun d'=>ifP d' true ag' (ah'+2) (fun bP'=>bP' a' ag' (ah'+3)) fun bQ' ai' aj'=>ifP d' true ai' aj' (fun bR'=>aN Tryz.prog ro kA [bQ'] ai' (aj'+1) fun bS' bT' bU'=>bR' bS' bT' bU') fun bV' ak' al'=>ifP d' true ak' al' (fun bW'=>bW' b' ak' (al'+1)) fun bX' am' an'=>ifP d' true am' an' (fun bY'=>aN Tryz.prog ro kA [bX'] am' (an'+1) fun bZ' b0' b1'=>bY' bZ' b0' b1') fun b2' ao' ap'=>ifP d' true ao' ap' (fun b3'=>aB (aO .eql bV' b2') fun b4'=>b3' b4' ao' (ap'+1)) fun b5' aq' ar'=>aB (bL d' b5' (Value.bool false)) fun e'=>ifP e' true aq' (ar'+2) (fun b6'=>b6' a' aq' (ar'+3)) fun b7' as' at'=>ifP e' true as' at' (fun b8'=>aN Tryz.prog ro j8 [b7'] as' (at'+1) fun b9' ca' cb'=>b8' b9' ca' cb') fun cc' au' av'=>ifP e' true au' av' (fun cd'=>cd' b' au' (av'+1)) fun ce' aw' ax'=>ifP e' true aw' ax' (fun cf'=>aN Tryz.prog ro j8 [ce'] aw' (ax'+1) fun cg' ch' ci'=>cf' cg' ch' ci') fun cj' ay' az'=>ifP e' true ay' az' (fun ck'=>aB (aO .eql cc' cj') fun cl'=>ck' cl' ay' (az'+1)) fun cm' aA' aB'=>aB (bL e' cm' (Value.bool false)) fun h'=>ifP h' true aA' (aB'+2) (fun cn'=>cn' a' aA' (aB'+3)) fun co' aC' aD'=>ifP h' true aC' aD' (fun cp'=>aN Tryz.prog ro j9 [co'] aC' (aD'+1) fun cq' cr' cs'=>cp' cq' cr' cs') fun ct' aE' aF'=>ifP h' true aE' aF' (fun cu'=>aB (aO .eql ct' (Value.int IntKind.i64 0)) fun cv'=>cu' cv' aE' (aF'+1)) fun cw' aG' aH'=>aB (bL h' cw' (Value.bool false)) fun i'=>ifP i' true aG' (aH'+2) (fun cx'=>cx' b' aG' (aH'+3)) fun cy' aI' aJ'=>ifP i' true aI' aJ' (fun cz'=>aN Tryz.prog ro j9 [cy'] aI' (aJ'+1) fun cA' cB' cC'=>cz' cA' cB' cC') fun cD' aK' aL'=>ifP i' true aK' aL' (fun cE'=>aB (aO .eql cD' (Value.int IntKind.i64 0)) fun cF'=>cE' cF' aK' (aL'+1)) fun cG' cH' cI'=>aB (bL i' cG' (Value.bool false)) fun cJ'=>∃ aM',Sub aM' cH'∧K cJ' aM' (cI'+2))
@[irreducible] def lL (ro:Ro) (Q:KE):Env→T Obj→Nat→Prop:=fun e h nx=>aB (aO .add (e 50) (Value.int IntKind.i64 1)) fun a'=>Q .normal (puts e [(71,a'),(50,a')]) h (nx+2)
@[irreducible] def uE (ro:Ro):PT:=fun e h nx Q=>aB (aO .lss (e 50) (e 49)) fun c'=>aQ c' (aB (cN 1 (e 48) (e 50)) fun e'=>aB (load1 ro h e') fun b'=>aB (vQ .i64 b') fun f'=>aB (bG (e 13)) fun g'=>aB (eZ Tryz.prog h .min #[dZ,dZ] [f',g']) fun a'=>aB (bG (e 12)) fun h'=>aB (aO .lss h' (Value.int IntKind.i64 50)) fun i'=>aQ i' (aB (kZ Tryz.prog a8 (e 13) none (some a') none) fun k'=>aB (bQ Tryz.prog eE (nx+17) 1 [(0,k')]) fun j'=>eS h (nx+17) j'.2 fun m'=>aB (cA Tryz.prog ro m' (nx+24) #[eE,eE] [(e 12),j'.1]) fun d'=>aB (kZ Tryz.prog a8 (e 13) (some a') none none) fun l'=>lL ro Q (puts e [(51,c'),(52,e'),(53,b'),(15,b'),(54,b'),(55,f'),(56,(e 13)),(57,g'),(58,a'),(16,a'),(59,(e 12)),(60,h'),(61,i'),(62,(e 12)),(63,(e 13)),(64,a'),(65,k'),(66,j'.1),(67,d'.1),(68,(e 13)),(69,a'),(70,l'),(12,d'.1),(13,l')]) d'.2.1 d'.2.2) (lL ro Q (puts e [(51,c'),(52,e'),(53,b'),(15,b'),(54,b'),(55,f'),(56,(e 13)),(57,g'),(58,a'),(16,a'),(59,(e 12)),(60,h'),(61,i')]) h (nx+13))) (Q (.exit 2) (puts e [(51,c')]) h (nx+1))
@[irreducible] def lJ (ro:Ro) (K:KV):Env→T Obj→Nat→Prop:=fun e h nx=>aB (bG (e 2)) fun e'=>dO (uE ro) (puts e [(12,(Value.slice none 0 0)),(47,(e 9)),(13,(e 9)),(48,(e 2)),(49,e'),(50,(Value.int IntKind.i64 0))]) h (nx+6) fun f' a' b' c'=>exP f' (lK ro K a' b' c') (fun g'=>cP (Nat.beq g' 2) (lK ro K a' b' c') (False)) (∃ d',Sub d' b'∧K (a' 6) d' c')
@[irreducible] def uF (ro:Ro):PT:=fun e h nx Q=>aB (aO .lss (e 39) (e 38)) fun c'=>aQ c' (aB (cN 1 (e 37) (e 39)) fun d'=>aB (load1 ro h d') fun a'=>aB (cA Tryz.prog ro h (nx+7) #[a8,a8] [(e 9),a']) fun b'=>aB (aO .add (e 39) (Value.int IntKind.i64 1)) fun e'=>Q .normal (puts e [(40,c'),(41,d'),(42,a'),(11,a'),(43,(e 9)),(44,a'),(45,b'.1),(9,b'.1),(46,e'),(39,e')]) b'.2.1 (b'.2.2+3)) (Q (.exit 0) (puts e [(40,c')]) h (nx+1))
@[irreducible] def yU (ro:Ro) (v0 v1 v2:Value) (h:T Obj) (nx:Nat) (K:KV):Prop:=cV h nx (.cells (Value.cells v0) dI) fun h1=>aN Tryz.prog ro uY [] h1 (nx+3) fun c' h3 n4=>aB (loadA ro h3 4 (ptr nx)) fun g'=>aN Tryz.prog ro yP [g'] h3 (n4+3) fun h' h7 n8=>aB (unV .not h') fun a'=>ifP a' false h7 (n8+2) (fun u'=>aB (loadA ro h7 4 (ptr nx)) fun v'=>u' v' h7 (n8+3)) fun i' j' k'=>ifP a' false j' k' (fun w'=>aN Tryz.prog ro vC [i'] j' (k'+1) fun x' y' z'=>w' x' y' z') fun l' m' n'=>ifP a' false m' n' (fun A'=>aB (unV .not l') fun B'=>A' B' m' (n'+1)) fun o' p' q'=>aB (bL a' (Value.bool true) o') fun r'=>aQ r' (∃ s',Sub s' p'∧K c' s' (q'+3)) (aN Tryz.prog ro uX [v1] p' (q'+3) fun b' C' D'=>aB (bG b') fun E'=>dO (uF ro) (puts (gK [v0,v1,v2]) [(3,(ptr nx)),(6,(Value.bool false)),(25,c'),(7,c'),(26,g'),(27,h'),(28,a'),(29,a'),(30,i'),(31,l'),(32,o'),(33,r'),(35,v1),(36,b'),(8,b'),(9,(Value.slice none 0 0)),(37,b'),(38,E'),(39,(Value.int IntKind.i64 0))]) C' (D'+5) fun F' d' e' f'=>exP F' (lJ ro K d' e' f') (fun G'=>cP (Nat.beq G' 0) (lJ ro K d' e' f') (False)) (∃ t',Sub t' e'∧K (d' 6) t' f'))
theorem aBc {ro:Ro}{v0 v1 v2:Value}{h:T Obj}{nx:Nat}{K:KV} (hw:yU ro v0 v1 v2 h nx K):aN Tryz.prog ro vX [v0,v1,v2] h nx K:=a7 (P:=Tryz.prog) (fn:=Tryz.f8) (by kernel_rfl) (by kernel_rfl) (by kernel_rfl) (Eq.mpr (by kernel_rfl) hw)
end V
end Go.Proofs.YtcaccnneblghgaaGreat
namespace Go.Proofs.YtcaccnneblghgaaGreat
namespace V
open Go.ChangeShapes Go.WideShapes Go.ChangeAt Go.RowKit Go.Deep
attribute [local irreducible] aB ifP aQ cV eS exP cP
set_option maxRecDepth 8000 in
theorem aNg {H:Type}{enc:TypeId × Value→H}{W:World}{v:Value}{d:DataW H}{p:List MemPlace} (h:DataW.Trod enc Tryz.prog W 0 (fun _=>true) true a8 v d p) {base:Nat} (hval:Value.okWide Tryz.prog W .any base a8 v):∃ v' l,Arg W.heap.size v' v∧SlR (nK W) .e v' 1 RU8 l∧l.length≤kQ:=by
 have hu:Tryz.prog.underlying a8=some (.slice cB):=by kernel_rfl
 obtain⟨fuel,hf⟩:=h
 obtain⟨v1,v',l,hv,hn,hl,hb⟩:=aCW hf
 have hvv:v.cells.toList=[v1]:=hv
 have hv1:v=v1:=by
  obtain⟨a,len,cap,rfl⟩:=okWide_slice hu hval
  simpa [Value.cells] using hvv
 subst hv1
 exact⟨v',l,.one hn,hl,hb⟩
theorem aQe {T:TabD} (hT:TabR T) {l:List (List Nat)} (hb:∀ b∈l,∀ x∈b,x < 256):ScI T (uQ T (gB T) l).2:=by
 obtain⟨k1,k2,k3,k4⟩:=s3 hT l (gB T) (aIc hT) rfl hb
 rw[sE]
 exact aO3 hT k1
section
variable {ro:Ro}{h:T Obj}{nx:Nat}{K:KV}
set_option maxRecDepth 8000 in
set_option maxHeartbeats 4000000 in
theorem aCP {x:List Value}{Tb:TabD}{v v2:Value}{ls:List (List Nat)}{long:List Nat} (hf:Fr h nx) (hd:aDN ro h x Tb) (hv0:SlR ro h v 1 (aKe ro h) ls) (hl:ls.length≤kQ) (hlong0:SlR ro h v2 1 RU8 long) (hll:long.length≤kQ) (hK:∀ h' nx',K (.bool true) h' nx'):aN Tryz.prog ro vX [.agg x.toArray,v,v2] h nx K:=by
 obtain⟨cv,kv,tv,ev,rfl,_⟩:=id hd
 obtain⟨hv,hlb,hb256⟩:=aPD hv0
 obtain⟨hlong,hl256⟩:=aOH hlong0
 have hll9:long.length≤9223372036854775807:=hll
 apply aBc
 unfold yU
 refine eJ hf (Nat.le_refl _) fun h1 hs1 hf1 g1 _=>?_
 have g1:h1.get nx=some (.cells [cv,kv,tv,ev].toArray dI):=g1
 refine aPL ?_
 have hd1:=hd.sub hs1
 have hv1:=hv.sub hs1 (RB.sub hs1)
 have hlong1:=hlong.sub hs1
 refine aA (dL g1 rfl) ?_
 refine aIZ (hf1.mono (by omega)) hd1 fun n2 hn2=>?_
 cases hfew:aIM Tb with
 | false =>
  (repeat(first|refine zzB ?_|apply aD|apply aE|with_reducible first|apply aG|apply aF|apply aK|apply aH|apply aJ|apply aI|apply aL|apply aC))
  exact⟨h1,Sub.refl _,hK _ _⟩
 | true =>
  (repeat(first|refine zzB ?_|apply aD|apply aE|with_reducible first|apply aG|apply aF|apply aK|apply aH|apply aJ|apply aI|apply aL|apply aC))
  refine aA (dL g1 rfl) ?_
  (repeat(first|refine zzB ?_|apply aD|apply aE|with_reducible first|apply aG|apply aF|apply aK|apply aH|apply aJ|apply aI|apply aL|apply aC))
  refine aFe (hf1.mono (by omega)) hd1 fun n3 hn3=>?_
  cases hr:gC Tb with
  | false =>
   (repeat(first|refine zzB ?_|apply aD|apply aE|with_reducible first|apply aG|apply aF|apply aK|apply aH|apply aJ|apply aI|apply aL|apply aC))
   exact⟨h1,Sub.refl _,hK _ _⟩
  | true =>
   have hT:=hd.right hr
   obtain⟨_,_,_,hTl,_⟩:=aGV hr
   (repeat(first|refine zzB ?_|apply aD|apply aE|with_reducible first|apply aG|apply aF|apply aK|apply aH|apply aJ|apply aI|apply aL|apply aC))
   refine aF2 (X:=[]) hv1 hl hlb (fun k hk=>by cases hk) (hf1.mono (by omega)) fun r4 h4 n4 hn4 hf4 hs4 hr4=>?_
   have hr4:SlR ro h4 r4 1 (RB ro h4) (nD ls):=hr4
   have hpb:=aNi hb256
   have hpf:=aKJ ls
   have hpl:(nD ls).length≤12:=by rw[aBE]; omega
   have hr4l:=hr4.len
   refine aA hr4l ?_
   generalize nD ls=ps at *
   refine bA (fun j e h' nx'=>∃ (i:Nat) (w:Value),i+j=ps.length∧n4≤nx'∧Sub h4 h'∧Fr h' nx'∧e 2=v2∧e 3=ptr nx∧e 7=.bool true∧e 8=r4∧e 9=w∧e 37=r4∧e 38=.int .i64 ps.length∧e 39=.int .i64 i∧dK h' w 1 cB (bP (ps.take i).flatten) n4) ?_ (n:=ps.length) ⟨0,.slice none 0 0,by omega,by omega,Sub.refl _,hf4.mono (by omega),rfl,rfl,rfl,rfl,rfl,rfl,rfl,rfl,dK.nil⟩
   rintro j e h' nx' ⟨i,w,hj,hnx,hs',hf',e2,e3,e7,e8,e9,e37,e38,e39,how⟩ Q' hq hx
   unfold uF
   rw[e9,e37,e38,e39]
   refine cY (fun hk=>?_) (fun hk=>?_)
   ·have hk:i < ps.length:=by omega
    have hr5:=hr4.sub hs' (RB.sub hs')
    obtain⟨w9,⟨w',hw,hwl⟩,hld⟩:=hr5.at1 hk
    cases hw
    have hfs:=aAE hk
    have hfl:=rM (ls:=ps) (i+1)
    rw[hfs,List.length_append] at hfl
    obtain⟨i9,t1,t2,t3⟩:=aC7
    obtain⟨r6,h6,n6,p1,p2,p3,p4,p5,_⟩:=aAp (P:=Tryz.prog) (ro:=ro) (nx:=nx'+7) how hwl kD t1 t2 (by omega) aHa rfl (by rw[aD8]; exact aOG _) (by rw[cE,cE,t3]; unfold big; omega) (by rw[cE,cE]; unfold big; omega) (by omega) (hf'.mono (by omega))
    have hcat:bP (ps.take i).flatten++bP ps[i]=bP (ps.take (i+1)).flatten:=by rw[hfs]; simp[bP]
    rw[hcat] at p2
    (repeat(first|refine zzB ?_|apply aD|apply aE|with_reducible first|apply aG|apply aF|apply aK|apply aH|apply aJ|apply aI|apply aL|apply aC))
    refine aA (hr5.ix .i64 hk) (aA hld (aA p1 ?_))
    (repeat(first|refine zzB ?_|apply aD|apply aE|with_reducible first|apply aG|apply aF|apply aK|apply aH|apply aJ|apply aI|apply aL|apply aC))
    refine hq (j - 1) _ _ _ _ (by omega) ⟨i+1,r6,by omega,?_,fun k o hko=>?_,p5.mono ?_,e2,e3,e7,e8,rfl,e37,e38,rfl,p2⟩ (Sub.refl _)
    ·dsimp only; omega
    ·refine p3 k o (hs' k o hko) fun h9=>?_
     have:=hf4.lt' hko
     have:=(how.blk h9).1
     omega
    ·dsimp only; omega
   ·(repeat(first|refine zzB ?_|apply aD|apply aE|with_reducible first|apply aG|apply aF|apply aK|apply aH|apply aJ|apply aI|apply aL|apply aC))
    refine hx _ _ _ _ (fun e=>by cases e) (d5 (cR ?_))
    obtain rfl:i=ps.length:=by omega
    rw[List.take_length] at how
    have hj1:∀ (e':Env) n',e' 2=v2→e' 3=ptr nx→e' 7=.bool true→e' 8=r4→e' 9=w→nx'≤n'→lJ ro K e' h' n':=by
     intro e' n' d2 d3 d7 d8 d9 dn
     unfold lJ
     rw[d2,d9]
     have hlongW:=hlong1.sub (hs4.trans hs')
     have hlongl:=hlongW.len
     rw[cE] at hlongl
     refine aA hlongl ?_
     refine bA (fun j e h2 n2=>∃ (i:Nat) (yv rv:Value) (ys:List (List Nat)) (rest:List Nat) (cs:List (List Value)),i+j=long.length∧n'≤n2∧Sub h' h2∧Fr h2 n2∧e 3=ptr nx∧e 7=.bool true∧e 8=r4∧e 12=yv∧e 13=rv∧e 48=v2∧e 49=.int .i64 long.length∧e 50=.int .i64 i ∧
       dK h2 yv 1 a8 cs n'∧cs.length=ys.length∧(∀ (i:Nat) x d,cs[i]?=some x→ys[i]?=some d→RB ro h' x d)∧Sl ro h' rv 1 (bP rest)∧ys.flatten++rest=ps.flatten∧ys.length≤50) ?_ (n:=long.length)
      ⟨0,.slice none 0 0,w,[],ps.flatten,[],by omega,by omega,Sub.refl _,hf'.mono (by omega),d3,d7,d8,rfl,rfl,rfl,rfl,rfl,dK.nil,rfl,(fun i x d hx=>by simp at hx),how.sl,rfl,by simp⟩
     rintro j e h2 n2 ⟨i,yv,rv,ys,rest,cs,hj,hnx2,hs2,hf2,c3,c7,c8,c12,c13,c48,c49,c50,hoy,hcl,hcs,hrv,hfl,hyl⟩ Q' hq hx
     have hrestl:rest.length≤240:=by have:=congrArg List.length hfl; rw[List.length_append] at this; omega
     have hrv2:=hrv.sub hs2
     have hrvl:=hrv2.len
     rw[cE] at hrvl
     have hyvl:=hoy.sl (ro:=ro) |>.len
     rw[hcl] at hyvl
     unfold uE
     rw[c12,c13,c48,c49,c50]
     refine cY (fun hk=>?_) (fun hk=>?_)
     ·have hk:i < long.length:=by omega
      have hlv:=hlongW.sub hs2
      have hn256:=hl256 _ (List.getElem_mem hk)
      have hld:=hlv.load1 (pO hk)
      generalize long[i]=n at hn256 hld
      have hj3:∀ (e':Env) (h3:T Obj) (n3:Nat) (yv' rv':Value) (ys':List (List Nat)) (rest':List Nat) (cs':List (List Value)),e' 3=ptr nx→e' 7=.bool true→e' 8=r4→e' 12=yv'→e' 13=rv'→e' 48=v2→e' 49=.int .i64 long.length→e' 50=.int .i64 i→n2≤n3→Sub h' h3→Fr h3 n3→dK h3 yv' 1 a8 cs' n'→cs'.length=ys'.length →
        (∀ (i:Nat) x d,cs'[i]?=some x→ys'[i]?=some d→RB ro h' x d)→Sl ro h' rv' 1 (bP rest')→ys'.flatten++rest'=ps.flatten→ys'.length≤50→lL ro Q' e' h3 n3:=by
       intro e' h3 n3 yv' rv' ys' rest' cs' b3 b7 b8 b12 b13 b48 b49 b50 bn bs bf bo bl bc br bfl byl
       unfold lL
       rw[b50]
       (repeat(first|refine zzB ?_|apply aD|apply aE|with_reducible first|apply aG|apply aF|apply aK|apply aH|apply aJ|apply aI|apply aL|apply aC))
       exact hq (j - 1) _ _ _ _ (by omega) ⟨i+1,yv',rv',ys',rest',cs',by omega,by omega,bs,bf.mono (by omega),b3,b7,b8,b12,b13,b48,b49,rfl,bo,bl,bc,br,bfl,byl⟩ (Sub.refl _)
      (repeat(first|refine zzB ?_|apply aD|apply aE|with_reducible first|apply aG|apply aF|apply aK|apply aH|apply aJ|apply aI|apply aL|apply aC))
      refine aA (hlv.ix .i64 (by rw[cE]; exact hk)) (aA hld ?_)
      (repeat(first|refine zzB ?_|apply aD|apply aE|with_reducible first|apply aG|apply aF|apply aK|apply aH|apply aJ|apply aI|apply aL|apply aC))
      refine aA hrvl (aA (aIa _ _ _) ?_)
      have hmin:(if (rest.length:Int) < (n:Int) then (rest.length:Int) else (n:Int))=((min n rest.length:Nat):Int):=by split<;>omega
      rw[hmin]
      refine aA hyvl ?_
      by_cases h50:ys.length < 50
      ·refine aN2 (by omega) ?_
       (repeat(first|refine zzB ?_|apply aD|apply aE|with_reducible first|apply aG|apply aF|apply aK|apply aH|apply aJ|apply aI|apply aL|apply aC))
       obtain⟨xv,hx1,hx2⟩:=Sl.take (P:=Tryz.prog) hrv kD aC5 (by omega) (n:=min n rest.length) (by rw[cE]; omega) .i64
       obtain⟨zv,hz1,hz2⟩:=Sl.drop (P:=Tryz.prog) hrv kD aC5 (n:=min n rest.length) (by rw[cE]; omega) .i64
       have htk:(bP rest).take (min n rest.length)=bP (rest.take (min n rest.length)):=by simp[bP,List.map_take]
       have hdk:(bP rest).drop (min n rest.length)=bP (rest.drop (min n rest.length)):=by simp[bP,List.map_drop]
       rw[htk] at hx2
       rw[hdk] at hz2
       refine aA hx1 ?_
       obtain⟨o1,m1,c1,e1⟩:=hx2.form
       obtain⟨i9,t1,t2,t3⟩:=aK6
       refine wJ (z:=1) (l:=cs) (y:=[xv]) (by rw[e1]; exact aJt _ _ _ _) rfl hoy aK9 t1 (by omega) (by omega) aKc rfl (by simp only[List.all_cons,List.all_nil,hx2.ok,Bool.and_true]) (by rw[t3]; unfold big; omega) (by unfold big; omega) (hf2.mono (by omega)) (by omega) (by omega) (fun e9=>by have:=hf2.lt' (hoy.blk e9).2; omega) fun h5 ho5 hk5 hf5=>?_
       dsimp only
       refine aA hz1 ?_
       refine hj3 _ _ _ _ _ (ys++[rest.take (min n rest.length)]) (rest.drop (min n rest.length)) (cs++[[xv]]) ?_ ?_ ?_ rfl rfl ?_ ?_ ?_ ?_ ?_ hf5 ho5 ?_ ?_ hz2 ?_ ?_
       ·exact c3
       ·exact c7
       ·exact c8
       ·exact c48
       ·exact c49
       ·exact c50
       ·omega
       ·intro b o hb
        have hlt:=hf'.lt' hb
        refine hk5 b o (hs2 b o hb) (by omega) fun e9=>?_
        have:=(hoy.blk e9).1
        omega
       ·simp[hcl]
       ·intro i x d hxi hdi
        rcases Nat.lt_or_ge i cs.length with hi | hi
        ·rw[List.getElem?_append_left hi] at hxi
         rw[List.getElem?_append_left (by omega)] at hdi
         exact hcs i x d hxi hdi
        ·rw[List.getElem?_append_right hi] at hxi
         rw[List.getElem?_append_right (by omega)] at hdi
         have hi0:i - cs.length=0:=by
          rcases Nat.eq_zero_or_pos (i - cs.length) with h0 | h0
          ·exact h0
          ·rw[List.getElem?_eq_none (by simp; omega)] at hxi; cases hxi
         rw[hi0] at hxi
         rw[show i - ys.length=0 by omega] at hdi
         cases hxi
         cases hdi
         exact⟨xv,rfl,hx2⟩
       ·rw[← hfl]; simp
       ·simp; omega
      ·refine aN1 (by omega) ?_
       (repeat(first|refine zzB ?_|apply aD|apply aE|with_reducible first|apply aG|apply aF|apply aK|apply aH|apply aJ|apply aI|apply aL|apply aC))
       refine hj3 _ _ _ yv rv ys rest cs ?_ ?_ ?_ ?_ ?_ ?_ ?_ ?_ ?_ hs2 ?_ hoy hcl hcs hrv hfl hyl
       ·exact c3
       ·exact c7
       ·exact c8
       ·exact c12
       ·exact c13
       ·exact c48
       ·exact c49
       ·exact c50
       ·omega
       ·exact hf2.mono (by omega)
     ·(repeat(first|refine zzB ?_|apply aD|apply aE|with_reducible first|apply aG|apply aF|apply aK|apply aH|apply aJ|apply aI|apply aL|apply aC))
      refine hx _ _ _ _ (fun e=>by cases e) (d5 (cR ?_))
      have hj2:∀ (e':Env) n3,e' 3=ptr nx→e' 7=.bool true→e' 8=r4→e' 12=yv→e' 13=rv→n2≤n3→lK ro K e' h2 n3:=by
       intro e' n3 b3 b7 b8 b12 b13 bn
       unfold lK
       rw[b3,b7,b8,b12,b13]
       obtain⟨o1,m1,c1,e1⟩:=hrv.form
       obtain⟨i9,t1,t2,t3⟩:=aK6
       refine wJ (z:=1) (l:=cs) (y:=[rv]) (by rw[e1]; exact aJt _ _ _ _) rfl hoy aK9 t1 (by omega) (by omega) aKc rfl (by simp only[List.all_cons,List.all_nil,hrv.ok,Bool.and_true]) (by rw[t3]; unfold big; omega) (by unfold big; omega) (hf2.mono (by omega)) (by omega) (by omega) (fun e9=>by have:=hf2.lt' (hoy.blk e9).2; omega) fun h5 ho5 hk5 hf5=>?_
       dsimp only
       generalize hyv:Value.slice (some (own (n3+4) 1)) (cs++[[rv]]).length (cs++[[rv]]).length=yv2 at ho5
       have hs5:Sub h' h5:=fun b o hb=>by
        have hlt:=hf'.lt' hb
        refine hk5 b o (hs2 b o hb) (by omega) fun e9=>?_
        have:=(hoy.blk e9).1
        omega
       have hflat:ps.flatten=(ys++[rest]).flatten:=by rw[← hfl]; simp
       have hyb:∀ (i:Nat) x d,(cs++[[rv]])[i]?=some x→(ys++[rest])[i]?=some d→RB ro h' x d:=by
        intro i x d hxi hdi
        rcases Nat.lt_or_ge i cs.length with hi | hi
        ·rw[List.getElem?_append_left hi] at hxi
         rw[List.getElem?_append_left (by omega)] at hdi
         exact hcs i x d hxi hdi
        ·rw[List.getElem?_append_right hi] at hxi
         rw[List.getElem?_append_right (by omega)] at hdi
         have hi0:i - cs.length=0:=by
          rcases Nat.eq_zero_or_pos (i - cs.length) with h0 | h0
          ·exact h0
          ·rw[List.getElem?_eq_none (by simp; omega)] at hxi; cases hxi
         rw[hi0] at hxi
         rw[show i - ys.length=0 by omega] at hdi
         cases hxi
         cases hdi
         exact⟨rv,rfl,hrv⟩
       have hyb256:∀ b∈ys++[rest],∀ x∈b,x < 256:=fun b hb x hx9=>by
        have:x∈ps.flatten:=by rw[hflat]; exact List.mem_flatten.2 ⟨b,hb,hx9⟩
        obtain⟨c,hc1,hc2⟩:=List.mem_flatten.1 this
        exact hpb c hc1 x hc2
       have hs15:Sub h1 h5:=(hs4.trans hs').trans hs5
       have hcl2:(cs++[[rv]]).length=(ys++[rest]).length:=by simp[hcl]
       have hyl2:(ys++[rest]).length≤51:=by simp; omega
       generalize ys++[rest]=ys2 at *
       generalize cs++[[rv]]=cs2 at *
       have hg5:=hs15 _ _ g1
       refine aA (dL hg5 rfl) ?_
       refine aEu (X0:=[]) (hf5.mono (by omega)) (hd1.sub hs15) (fun b hb=>by cases hb) (fun h9=>by rcases h9 with h9 | h9<;>first | omega | (rw[hr] at h9; cases h9)) fun _ _ p1 qs1 h6 n6 hn6 hf6 hs6 hown1 hsc1=>?_
       rw[List.nil_append] at hsc1
       refine aA (aIf _ _) (aA (aIg _ _) ?_)
       refine aA (dL (hs6 _ _ hg5) rfl) ?_
       refine aEu (X0:=iP p1 qs1) (hf6.mono (by omega)) (hd1.sub (hs15.trans hs6)) (fun b hb=>by have:=(hown1 b hb).2; omega) (fun h9=>by rcases h9 with h9 | h9<;>first | omega | (rw[hr] at h9; cases h9)) fun _ _ p2 qs2 h7 n7 hn7 hf7 hs7 hown2 hsc2=>?_
       refine aA (aIf _ _) (aA (aIg _ _) ?_)
       have hsc1:ScX ro h7 (iP p1 qs1++iP p2 qs2) p1 qs1 Tb 1000 0 (gB Tb):=hsc1.sub hs7 (fun k hk=>by
        rcases List.mem_append.1 hk with hk | hk
        ·exact .inl hk
        ·exact .inr (hf6 k (by have:=(hown2 k hk).1; omega))) fun k hk=>List.mem_append_left _ hk
       have hsc2:ScX ro h7 (iP p1 qs1++iP p2 qs2) p2 qs2 Tb 1000 0 (gB Tb):=hsc2
       have hX:∀ k∈iP p1 qs1++iP p2 qs2,n3+4+1≤k∧k < n7:=fun k hk=>by
        rcases List.mem_append.1 hk with hk | hk
        ·have:=hown1 k hk; omega
        ·have:=hown2 k hk; omega
       have hdis:∀ k∈iP p1 qs1,k ∉ iP p2 qs2:=fun k hk hk2=>by
        have:=(hown1 k hk).2
        have:=(hown2 k hk2).1
        omega
       have hx1:∀ k∈iP p1 qs1,k∈iP p1 qs1++iP p2 qs2:=fun k hk=>List.mem_append_left _ hk
       have hx2:∀ k∈iP p2 qs2,k∈iP p1 qs1++iP p2 qs2:=fun k hk=>List.mem_append_right _ hk
       generalize iP p1 qs1++iP p2 qs2=X at *
       have hD7:Sub h5 (del h7 X):=fun k o hk=>jH (hs7 _ _ (hs6 _ _ hk)) fun h9=>by
        have:=hf5.lt' hk
        have:=(hX k h9).1
        omega
       have hD74:Sub h4 (del h7 X):=(hs'.trans hs5).trans hD7
       (repeat(first|refine aA (by simp (disch:=first|omega|exact nnN _|assumption) only [BB,B2,↓reduceIte,Nat.reduceLeDiff,Nat.reduceAdd,CC,aIe]<;>rfl) ?_|apply aD|apply aE|with_reducible first|apply aG|apply aF|apply aK|apply aH|apply aJ|apply aI|apply aL|apply aC))
       refine aCq hsc1 hT (aIc hT) (by omega) rfl (fun k hk=>by have:=(hX k hk).2; omega) (hr4.sub hD74 (RB.sub hD74)) (by omega) hpb (by show 0+0+ps.flatten.length≤400; omega) (by show ((0+ps.flatten.length:Nat):Int)≤1000; omega) (hf7.mono (by omega)) fun r8 h8 n8 hn8 hf8 hk8 hsA ho8=>?_
       refine aA (aIf _ _) (aA (aIg _ _) ?_)
       have hsc2:ScX ro h8 X p2 qs2 Tb 1000 0 (gB Tb):=hsc2.keep hk8 hx1 hdis (fun k hk=>.inl hk) fun k hk=>hk
       have hs58:Sub h5 h8:=hk8.base (hs6.trans hs7) hf5 fun k hk=>(hX k (hx1 k hk)).1
       have hD8:Sub h5 (del h8 X):=fun k o hk=>jH (hs58 _ _ hk) fun h9=>by
        have:=hf5.lt' hk
        have:=(hX k h9).1
        omega
       have hy8:SlR ro (del h8 X) yv2 1 (RB ro (del h8 X)) ys2:=⟨cs2,((ho5.sl (ro:=ro)).sub hD8),hcl2,fun i x d h1 h2=>RB.sub (hs5.trans hD8) x d (hyb i x d h1 h2)⟩
       have hfl2:ys2.flatten.length≤240:=by rw[← hflat]; exact hpf
       refine aCq hsc2 hT (aIc hT) (by omega) rfl (fun k hk=>by have:=(hX k hk).2; omega) hy8 (by omega) hyb256 (by show 0+0+ys2.flatten.length≤400; omega) (by show ((0+ys2.flatten.length:Nat):Int)≤1000; omega) (hf8.mono (by omega)) fun r9 h9 n9 hn9 hf9 hk9 hsB ho9=>?_
       refine aA (aIf _ _) (aA (aIg _ _) ?_)
       have hsame:=aLc hT.tok (by have:=hT.len; have:=hT.pos; omega) hflat
       rw[← hsame] at hsB ho9
       have hsA:ScX ro h9 X p1 qs1 Tb 1000 0 (uQ Tb (gB Tb) ps).2:=hsA.keep hk9 hx2 (fun k hk hk2=>hdis k hk2 hk) (fun k hk=>.inl hk) fun k hk=>hk
       have ho8:=ho8.keepK hk9 fun id hid hm9=>by
        have:=(ho8.blk hid).1
        have:=(hX id (hx2 id hm9)).2
        omega
       have hlen:=aOZ hT hpb
       obtain⟨z1,z2,z3⟩:=aOY hT hpb
       have hIf:=aQe hT hpb
       have hst:=aJY hIf
       rw[z1,z2] at hst
       generalize (uQ Tb (gB Tb) ps).2=sf at *
       generalize (uQ Tb (gB Tb) ps).1=toks at *
       have hst9:sf.steps≤90000:=by
        have h9:(ps.flatten.length+([]:List Nat).length)*(ps.flatten.length+([]:List Nat).length+1)≤240*241:=Nat.mul_le_mul hpf (by simpa using hpf)
        omega
       have hk0:((sf.kept.length:Nat):Int)=0:=by rw[z1]; rfl
       (repeat(first|refine zzB ?_|apply aD|apply aE|with_reducible first|apply aG|apply aF|apply aK|apply aH|apply aJ|apply aI|apply aL|apply aC))
       refine aHW (by omega) (by omega) ho8.sl ho9.sl fun n10 hn10=>?_
       rw[decide_eq_true (rfl:toks=toks)]
       (repeat(first|refine zzB ?_|apply aD|apply aE|with_reducible first|apply aG|apply aF|apply aK|apply aH|apply aJ|apply aI|apply aL|apply aC))
       refine aBt hsA fun n11 hn11=>?_
       (repeat(first|refine zzB ?_|apply aD|apply aE|with_reducible first|apply aG|apply aF|apply aK|apply aH|apply aJ|apply aI|apply aL|apply aC))
       refine aBt hsB fun n12 hn12=>?_
       (repeat(first|refine zzB ?_|apply aD|apply aE|with_reducible first|apply aG|apply aF|apply aK|apply aH|apply aJ|apply aI|apply aL|apply aC))
       refine aDJ hsA hT hIf (by omega) hst9 fun n13 hn13=>?_
       (repeat(first|refine zzB ?_|apply aD|apply aE|with_reducible first|apply aG|apply aF|apply aK|apply aH|apply aJ|apply aI|apply aL|apply aC))
       refine aDJ hsB hT hIf (by omega) hst9 fun n14 hn14=>?_
       (repeat(first|refine zzB ?_|apply aD|apply aE|with_reducible first|apply aG|apply aF|apply aK|apply aH|apply aJ|apply aI|apply aL|apply aC))
       refine aDG hsA fun n15 hn15=>?_
       (repeat(first|refine zzB ?_|apply aD|apply aE|with_reducible first|apply aG|apply aF|apply aK|apply aH|apply aJ|apply aI|apply aL|apply aC))
       refine aDG hsB fun n16 hn16=>?_
       (repeat(first|refine zzB ?_|apply aD|apply aE|with_reducible first|apply aG|apply aF|apply aK|apply aH|apply aJ|apply aI|apply aL|apply aC))
       refine aDH hsA fun n17 hn17=>?_
       rw[hk0]
       (repeat(first|refine zzB ?_|apply aD|apply aE|with_reducible first|apply aG|apply aF|apply aK|apply aH|apply aJ|apply aI|apply aL|apply aC))
       refine aDH hsB fun n18 hn18=>?_
       rw[hk0]
       (repeat(first|refine zzB ?_|apply aD|apply aE|with_reducible first|apply aG|apply aF|apply aK|apply aH|apply aJ|apply aI|apply aL|apply aC))
       exact⟨h9,Sub.refl _,hK _ _⟩
      refine hj2 _ _ ?_ ?_ ?_ ?_ ?_ ?_
      ·exact c3
      ·exact c7
      ·exact c8
      ·exact c12
      ·exact c13
      ·omega
    refine hj1 _ _ e2 e3 e7 e8 e9 ?_
    omega
end
end V
end Go.Proofs.YtcaccnneblghgaaGreat
set_option maxRecDepth 16000
namespace Go.Proofs.YtcaccnneblghgaaGreat
namespace V
open Go.ChangeShapes Go.WideShapes Go.ChangeAt Go.RowKit
theorem aD0 (os:Os) (started:os.Started) (H:Type) (enc:TypeId × Value→H) :
  ReturnsInHanded {} Tryz.checked os 8 .any (Rows.scanCutsSpec.pre6 enc Tryz.prog Tryz.f8 Rows.scanCutsRow.domain false) (Rows.scanCutsSpec.post enc Tryz.prog Tryz.f8 false true false false):=by
 refine returnsInHanded_of_change_sized (C:=Tryz.checked) aQu started (by kernel_rfl) (by kernel_rfl)
  (ChangeSpec.witness6 (enc:=enc) (C:=Tryz.checked) false ⟨#[],#[.agg #[.slice none 0 0,.slice none 0 0,.slice none 0 0,.slice none 0 0],.slice none 0 0,.slice none 0 0],[]⟩ 8 (by kernel_rfl) (by kernel_rfl) (by kernel_rfl) (by kernel_rfl)) ?_
 intro W base args ds gs before hval hW _ _ _
 have hW':=hW
 obtain⟨p,q,hA0,hV,rfl,hfz,hnd⟩:=hW
 have hA:DataW.TrodAll enc Tryz.prog W 0 (fun _=>true) true [dI,eE,a8] args.toList ds p:=hA0
 obtain⟨v0,v1,v2,d0,d1,d2,p0,p1,p2,rfl,rfl,rfl,h0,h1,h2⟩:=trodAll_three hA
 obtain⟨rfl,rfl⟩:=trodVars_none hV
 obtain⟨w0,t0,a0,hd0⟩:=aNf h0 (hval 0 dI v0 rfl rfl)
 obtain⟨w1,l1,a1,hl1,hn1⟩:=aKD h1 (hval 1 eE v1 rfl rfl)
 obtain⟨w2,l2,a2,hl2,hn2⟩:=aNg h2 (hval 2 a8 v2 rfl rfl)
 have hsay:aQd Tryz.prog W 8 [.agg w0.toArray,w1,w2]:=aCP Fr.e hd0 hl1 hn1 hl2 hn2 fun _ _=>rfl
 refine (aKY okZ okN okM (args:=#[v0,v1,v2]) (.cons a0 (.cons a1 (.cons a2 .nil))) hsay).mono fun e W' ⟨he,hb⟩=>?_
 subst he
 exact⟨_,rfl,aNS (tb:=aFJ) aQR (by kernel_rfl) (by kernel_rfl) (by kernel_rfl) rfl hW' hb rfl⟩
end V
theorem scanCuts_holds:Rows.ScanCutsSaid :=
 OpenClaim.holds_of_wide 8 Tryz.f8 rfl rfl rfl rfl rfl rfl rfl ⟨rfl,rfl,rfl,rfl,rfl⟩ rfl rfl rfl rfl rfl (by kernel_rfl) (by kernel_rfl) (by kernel_rfl)
  (of_decide_eq_true (by kernel_rfl)) (by unfold Func.isWrapper; rw[if_neg (of_decide_eq_false (by kernel_rfl))]; exact⟨rfl,rfl⟩)
  (fun os started H enc _=>V.aD0 os started H enc)
end Go.Proofs.YtcaccnneblghgaaGreat