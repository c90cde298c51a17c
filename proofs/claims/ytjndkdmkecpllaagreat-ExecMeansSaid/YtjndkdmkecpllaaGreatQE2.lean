/- Texts laid one behind the other: V2.
   No condition. -/
import Derived.LoopN
import Derived.Scope
import Derived.Tactics
import Derived.Test.YtjndkdmkecpllaaGreatQE1
set_option linter.unusedVariables false
set_option linter.unusedSimpArgs false
noncomputable section
namespace Go.Proofs.YtjndkdmkecpllaaGreat
namespace V
section
variable {P:Program}{ro:Ro}{N:Nat}{φ:gF}{w0 w:World}{H:Nat→Option Obj}{h:T Obj}
theorem aNF (hz:gC P=true) (hS:Sim ro N φ w0 H w) (hsub:∀ k o,h.get k=some o→H k=some o) {t:TypeId}{x x' k k' v:Value}{ok:Bool} (hl:aBt P h t x k ok=some v) (hx:VR N φ x x') (hk:VR N φ k k') :
    ∃ v',(Instr.lookup t x' k' ok).run P w=.ok v' w∧VR N φ v v':=by
  unfold aBt at hl
  split at hl
  case h_2=>cases hl
  rename_i kt et r hu
  cases hok:aAH P kt k with
  | false=>rw[hok] at hl; cases hl
  | true =>
    rw[hok] at hl
    obtain⟨rfl,hkk⟩:=aGZ hok hk
    have fin:∀ (es:List MapEntry) (ES:Array MapEntry),ER N φ es ES.toList→aNE P kt et k' ok es=some v →
        ∃ r' u b,(Instr.findKey kt k' ES.toList).run P w=.ok r' w∧(∀ i y,r'=some (i,y)→u=y∧b=true)∧(r'=none→(zeroValue et).run P w=.ok u w∧b=false)∧VR N φ v (if ok then .tuple #[u,.bool b] else u):=by
      intro es ES he hf
      unfold aNE at hf
      cases hr:uN P kt k' es 0 with
      | none=>rw[hr] at hf; cases hf
      | some f =>
        rw[hr] at hf
        obtain⟨r',g1,g2⟩:=aGQ (P:=P) (w:=w) hok hkk he hr
        cases f with
        | some f =>
          cases r' with
          | none=>exact g2.elim
          | some y =>
            obtain⟨yi,yv⟩:=y
            simp only[Option.bind,aVZ] at hf
            cases hf
            refine⟨_,yv,true,g1,fun i y e=>by cases e; exact⟨rfl,rfl⟩,(by intro e; cases e),?_⟩
            cases ok with
            | true=>exact VR.tupleL (.cons g2.2 (.cons (.flat rfl) .nil))
            | false=>exact g2.2
        | none =>
          cases r' with
          | some y=>exact g2.elim
          | none =>
            simp only[Option.bind,aVZ] at hf
            cases hze:i8 P et with
            | none=>rw[hze] at hf; cases hf
            | some z =>
              rw[hze] at hf
              have hzf:VR N φ z z:=by
                have hfl:=aDt hz hze
                by_cases ha:∃ cs,z=.agg cs
                · obtain⟨cs,rfl⟩:=ha; exact VR.aggL (LR.flat hfl)
                · have:z.cells=#[z]:=by cases z<;>first | rfl | exact absurd ⟨_,rfl⟩ ha
                  rw[this] at hfl
                  exact .flat (hfl z (by simp))
              cases hf
              refine⟨_,z,false,g1,(by intro i y e; cases e),fun _=>⟨aDj hze,rfl⟩,?_⟩
              cases ok with
              | true=>exact VR.tupleL (.cons hzf (.cons (.flat rfl) .nil))
              | false=>exact hzf
    cases r with
    | none =>
      rw[hx.of_nilMap]
      obtain⟨r',u,b,g1,g2,g3,g4⟩:=fin [] #[] .nil hl
      refine⟨_,?_,g4⟩
      have hck:=aDz (P:=P) (w:=w) (#[]:Array MapEntry).isEmpty hok
      cases r' with
      | none=>obtain⟨g5,rfl⟩:=g3 rfl; simp only[Instr.lookup,Sem.run_bind,b8 hu,Result.andThen_ok,Sem.run_pure,hck,g1,g5]
      | some y=>obtain⟨yi,yv⟩:=y; obtain⟨rfl,rfl⟩:=g2 _ _ rfl; simp only[Instr.lookup,Sem.run_bind,b8 hu,Result.andThen_ok,Sem.run_pure,hck,g1]
    | some r =>
      obtain⟨B,rfl,hφ⟩:=hx.of_map
      simp only[aLQ] at hl
      cases he:jY h r with
      | none=>rw[he] at hl; cases hl
      | some es =>
        rw[he] at hl
        obtain⟨ES,e1,e2⟩:=hS.entries hsub hφ he
        obtain⟨r',u,b,g1,g2,g3,g4⟩:=fin es.1 ES e2 hl
        refine⟨_,?_,g4⟩
        have hgo:(getObj B).run P w=.ok (.map ES es.2) w:=by simp[getObj,Sem.run,e1]
        have hck:=aDz (P:=P) (w:=w) ES.isEmpty hok
        cases r' with
        | none=>obtain⟨g5,rfl⟩:=g3 rfl; simp only[Instr.lookup,Sem.run_bind,b8 hu,Result.andThen_ok,Sem.run_pure,hgo,hck,g1,g5]
        | some y=>obtain⟨yi,yv⟩:=y; obtain⟨rfl,rfl⟩:=g2 _ _ rfl; simp only[Instr.lookup,Sem.run_bind,b8 hu,Result.andThen_ok,Sem.run_pure,hgo,hck,g1]
theorem ER.length {es ES:List MapEntry} (h:ER N φ es ES):es.length=ES.length:=by
  induction h with
  | nil=>rfl
  | cons _ _ _ _ ih=>simp[ih]
theorem aP0 (hS:Sim ro N φ w0 H w) (hsub:∀ k o,h.get k=some o→H k=some o) {ts:Array TypeId}{t ty:TypeId}{x x' v:Value} (ht:ts[0]?=some t) (hl:aLH P h t x=some v) (hx:VR N φ x x') :
    (Builtin.len_ ts ty #[x']).run P w=.ok v w∧flat v=true:=by
  unfold aLH at hl
  unfold Builtin.len_
  split at hl
  · rename_i s0 hu
    cases hl; rw[hx.of_string]; simp[ht,b8 hu,flat,goInt]
  · rename_i n e hu
    cases hl; simp[ht,b8 hu,flat,goInt]
  · rename_i e a l c hu
    cases hl
    have:∃ b c',x'=.slice b l c':=by
      cases a with
      | none=>exact⟨_,_,hx.of_nilSlice⟩
      | some a=>obtain⟨b,c',rfl,_⟩:=hx.of_slice; exact⟨_,_,rfl⟩
    obtain⟨b,c',rfl⟩:=this
    simp[ht,b8 hu,flat,goInt]
  · rename_i k e hu
    cases hl; rw[hx.of_nilMap]; simp[ht,b8 hu,flat,goInt]
  · rename_i k e r hu
    obtain⟨B,rfl,hφ⟩:=hx.of_map
    cases he:jY h r with
    | none=>rw[he] at hl; cases hl
    | some es =>
      rw[he] at hl; cases hl
      obtain⟨ES,e1,e2⟩:=hS.entries hsub hφ he
      have hgo:(getObj B).run P w=.ok (.map ES es.2) w:=by simp[getObj,Sem.run,e1]
      have:=e2.length
      simp[ht,b8 hu,flat,goInt,hgo]
      simp at this; omega
  · cases hl
theorem aI5 (less:Bool):∀ (n:Nat) (l:List Value) (v:Value),l.length=n→zN less l=some v→(∀ x∈l,∃ k n,x=.int k n)∧∃ k n,v=.int k n:=by
  intro n
  induction n with
  | zero=>intro l v hl h; simp at hl; subst hl; simp[zN] at h
  | succ n ih =>
    intro l v hl h
    unfold zN at h
    split at h
    · simp at hl
    · rename_i k x; cases h; exact⟨fun y hy=>by simp at hy; subst hy; exact⟨_,_,rfl⟩,_,_,rfl⟩
    · rename_i k x k' y r
      obtain⟨h1,h2⟩:=ih _ v (by simpa using hl) h
      exact⟨fun z hz=>by
        simp at hz
        rcases hz with rfl | rfl | hz
        · exact⟨_,_,rfl⟩
        · exact⟨_,_,rfl⟩
        · exact h1 z (by simp[hz]),h2⟩
    · cases h
theorem aTw:∀ (r:List Value) (k:IntKind) (x:Int) (v:Value),zN true (.int k x::r)=some v→(r.foldlM Builtin.min2 (.int k x):Sem Value).run P w=.ok v w:=by
  intro r
  induction r with
  | nil=>intro k x v h; simp[zN] at h; subst h; rfl
  | cons y r ih =>
    intro k x v h
    unfold zN at h
    cases y<;>simp only at h<;>try (cases h; done)
    rename_i k' y
    rw[List.foldlM_cons,Sem.run_bind]
    have e:(Builtin.min2 (.int k x) (.int k' y)).run P w=.ok (.int k (if y < x then y else x)) w:=rfl
    rw[e,Result.andThen_ok]
    refine ih k _ v ?_
    by_cases hyx:y < x
    · simpa [hyx] using h
    · simpa [hyx] using h
theorem aTt:∀ (r:List Value) (k:IntKind) (x:Int) (v:Value),zN false (.int k x::r)=some v→(r.foldlM Builtin.max2 (.int k x):Sem Value).run P w=.ok v w:=by
  intro r
  induction r with
  | nil=>intro k x v h; simp[zN] at h; subst h; rfl
  | cons y r ih =>
    intro k x v h
    unfold zN at h
    cases y<;>simp only at h<;>try (cases h; done)
    rename_i k' y
    rw[List.foldlM_cons,Sem.run_bind]
    have e:(Builtin.max2 (.int k x) (.int k' y)).run P w=.ok (.int k (if y > x then y else x)) w:=rfl
    rw[e,Result.andThen_ok]
    refine ih k _ v ?_
    by_cases hyx:x < y
    · simpa [hyx] using h
    · simpa [hyx] using h
theorem aHd (hS:Sim ro N φ w0 H w) (hsub:∀ k o,h.get k=some o→H k=some o) {b:Builtin}{ts:Array TypeId}{ty:TypeId}{cs:Array Bool}{vs:List Value}{vs':Array Value}{v:Value} (hb:iT P h b ts vs=some v) (hv:LR N φ vs vs'.toList) :
    (builtin b ts ty cs vs').run P w=.ok (.value v) w∧flat v=true:=by
  unfold iT at hb
  split at hb
  · rename_i x
    cases ht:ts[0]? with
    | none=>rw[ht] at hb; cases hb
    | some t =>
      rw[ht] at hb
      have:∃ x',vs'=#[x']∧VR N φ x x':=by
        obtain⟨l⟩:=vs'
        cases hv with
        | cons h1 h2=>cases h2; exact⟨_,rfl,h1⟩
      obtain⟨x',rfl,hx⟩:=this
      obtain⟨g1,g2⟩:=aP0 (ty:=ty) (w:=w) hS hsub ht hb hx
      exact⟨by simp[builtin,g1],g2⟩
  · obtain⟨hi,k0,n0,rfl⟩:=aI5 true _ vs v rfl hb
    have e:=hv.flat_eq (fun x hx=>by obtain⟨k,n,rfl⟩:=hi x hx; rfl)
    refine⟨?_,rfl⟩
    cases vs with
    | nil=>simp[zN] at hb
    | cons x r =>
      obtain⟨k,n,rfl⟩:=hi x (by simp)
      have:=aTw (P:=P) (w:=w) r k n _ hb
      simp[builtin,Builtin.min_,e,this]
  · obtain⟨hi,k0,n0,rfl⟩:=aI5 false _ vs v rfl hb
    have e:=hv.flat_eq (fun x hx=>by obtain⟨k,n,rfl⟩:=hi x hx; rfl)
    refine⟨?_,rfl⟩
    cases vs with
    | nil=>simp[zN] at hb
    | cons x r =>
      obtain⟨k,n,rfl⟩:=hi x (by simp)
      have:=aTt (P:=P) (w:=w) r k n _ hb
      simp[builtin,Builtin.max_,e,this]
  · rename_i l c
    cases ht:ts[0]? with
    | none=>rw[ht] at hb; cases hb
    | some t =>
      rw[ht] at hb
      simp only[Option.bind] at hb
      have:vs'=#[.slice none l c]:=by
        obtain⟨l⟩:=vs'
        cases hv with
        | cons h1 h2=>cases h2; rw[h1.of_nilSlice]
      subst this
      split at hb
      · rename_i e hu
        cases hb
        refine⟨?_,rfl⟩
        simp[builtin,Builtin.cap_,ht,b8 hu,goInt]
      · cases hb
  · cases hb
variable {t:T Value}{ρ:Operand→Value}
theorem aB3:∀ {xs:List Operand}{vs:List Value},(∀ x∈xs,∀ v,evl t x=some v→VR N φ v (ρ x))→aAL t xs=some vs→LR N φ vs (xs.map ρ):=by
  intro xs
  induction xs with
  | nil=>intro vs _ h; simp[aAL] at h; subst h; exact .nil
  | cons x xs ih =>
    intro vs henv h
    simp only[aAL] at h
    cases hx:evl t x with
    | none=>rw[hx] at h; cases h
    | some v =>
      rw[hx] at h
      cases hr:aAL t xs with
      | none=>rw[hr] at h; cases h
      | some r=>rw[hr] at h; cases h; exact .cons (henv x (by simp) v hx) (ih (fun y hy=>henv y (by simp[hy])) hr)
theorem aOG:∀ {xs:List (Nat × Operand)}{vs:List (Nat × Value)},(∀ x∈xs.map (·.2),∀ v,evl t x=some v→VR N φ v (ρ x))→aJV t xs=some vs→PR N φ vs (xs.map fun x=>(x.1,ρ x.2)):=by
  intro xs
  induction xs with
  | nil=>intro vs _ h; simp[aJV] at h; subst h; exact .nil
  | cons x xs ih =>
    intro vs henv h
    simp only[aJV] at h
    cases hx:evl t x.2 with
    | none=>rw[hx] at h; cases h
    | some v =>
      rw[hx] at h
      cases hr:aJV t xs with
      | none=>rw[hr] at h; cases h
      | some r=>rw[hr] at h; cases h; exact .cons (henv x.2 (by simp) v hx) (ih (fun y hy=>henv y (by simp at hy ⊢; exact .inr hy)) hr)
theorem aGK {o:Option Operand}{u:Option Value} (henv:∀ x∈o.toArray,∀ v,evl t x=some v→VR N φ v (ρ x)) (h:aKp t o=some u) (hn:aRw u):o.map ρ=u:=by
  cases o with
  | none=>simp[aKp] at h; subst h; rfl
  | some x =>
    simp only[aKp] at h
    cases hx:evl t x with
    | none=>rw[hx] at h; cases h
    | some v =>
      rw[hx] at h; cases h
      obtain⟨k,n,rfl⟩:=hn v rfl
      have:=(henv x (by simp) _ hx).of_int
      simp[this]
def lL (N:Nat) (φ:gF) (aid:Nat) (w:World) (v:Value) (ob:Option Obj) (r:Result Next):Prop :=
  ∃ v' w',r=.ok (.value v') w'∧match ob with
    | none=>w'=w∧VR N φ v v'
    | some o=>∃ o' rm,w'.heap=w.heap.push o'∧w'.os=w.os∧w'.tape=w.tape∧w'.output=w.output∧(N≤w.heap.size→∀ ψ,gF.le φ ψ→ψ aid=some (w.heap.size,0,rm)→VR N ψ v v'∧OR N ψ o o' 0 rm)
theorem lL.of {aid:Nat}{v:Value}{ob:Option Obj}{s:Sem Value} (h:oT N φ aid w v ob (s.run P w)):lL N φ aid w v ob ((do pure (.value (← s)):Sem Next).run P w):=by
  obtain⟨v',w',h1,h2⟩:=h
  exact⟨v',w',by rw[Sem.run_bind,h1]; rfl,h2⟩
theorem lL.same {aid:Nat}{v v':Value}{s:Sem Value} (h:s.run P w=.ok v' w) (hv:VR N φ v v'):lL N φ aid w v none ((do pure (.value (← s)):Sem Next).run P w) :=
  lL.of (oT.value h hv)
theorem lL.pure {aid:Nat}{v v':Value} (hv:VR N φ v v'):lL N φ aid w v none ((Pure.pure (Next.value v'):Sem Next).run P w):=⟨v',w,rfl,rfl,hv⟩
end
end V
end Go.Proofs.YtjndkdmkecpllaaGreat
noncomputable section
namespace Go.Proofs.YtjndkdmkecpllaaGreat
namespace V
section
variable {P:Program}{ro:Ro}{N:Nat}{φ:gF}{w0 w:World}{H:Nat→Option Obj}{h:T Obj}{t:T Value}{ρ:Operand→Value}
theorem fB {x:Operand}{f:Value→Option (Value × Option Obj)}{r:Value × Option Obj} (h:(evl t x).bind f=some r):∃ v,evl t x=some v∧f v=some r:=by
  cases hx:evl t x with
  | none=>rw[hx] at h; cases h
  | some v=>rw[hx] at h; exact⟨v,rfl,h⟩
theorem aM {α β:Type}{o:Option α}{f:α→Option β}{r:β} (h:o.bind f=some r):∃ v,o=some v∧f v=some r:=by
  cases o with
  | none=>cases h
  | some v=>exact⟨v,rfl,h⟩
theorem aNG (hz:gC P=true) {ty:TypeId}{aid:Nat}{l l' c c' v:Value}{ob:Option Obj} (h:aBu P ty aid l c=some (v,ob)) (hl:VR N φ l l') (hc:VR N φ c c') :
    oT N φ aid w v ob ((Instr.makeSlice ty l' c').run P w):=by
  unfold aBu at h
  split at h
  case h_2=>cases h
  rename_i e kl l kc c hu
  rw[hl.of_int,hc.of_int]
  by_cases h0:0≤l
  · by_cases h1:l≤c
    · simp only[h0,h1,decide_true] at h
      obtain⟨i,hi,h⟩:=aM h
      cases hb:Nat.ble (c.toNat*i.bytes) oB with
      | false=>rw[hb] at h; cases h
      | true =>
        by_cases h2:c≤70368744177664
        · simp only[hb,h2,decide_true] at h
          obtain⟨r,hr,h⟩:=aM h
          cases h
          have hle:c.toNat*i.bytes≤70368744177664:=Nat.le_of_ble_eq_true hb
          have hii:=sU hi
          have hsz:pD P e=some i.size:=by unfold pD; rw[hi]; rfl
          obtain⟨s,hm⟩:=aEg (φ:=φ) (N:=N) hz hr
          have wl:IntKind.i64.wrap l=l:=by rw[IntKind.wrap_i64]; omega
          have wc:IntKind.i64.wrap c=c:=by rw[IntKind.wrap_i64]; omega
          have n1:¬ c < 0:=by omega
          have hbc:(i.bytes:Int)*c=((c.toNat*i.bytes:Nat):Int):=by
            rw[Int.natCast_mul,Int.toNat_of_nonneg (by omega),Int.mul_comm]
          have n2:¬ (281474976710656 < (i.bytes:Int)*c):=by rw[hbc]; omega
          have n3:¬ l < 0:=by omega
          have n4:¬ c < l:=by omega
          rcases hm with ⟨e1,e2⟩ | ⟨e1,e2,e3,z,e4,e5,_⟩
          · subst e2
            refine oT.row (C:=#[]) ?_ .nil (by rw[e1]; simp)
            simp[Instr.makeSlice,b8 hu,asInt,asIntOf,typeInfo,hii,sizeOf,wl,wc,n1,n2,n3,n4,e1,newRow,Array.range_zero']
          · rw[hsz] at e1; cases e1
            refine oT.row (C:=(Array.range (c.toNat*i.size)).map (z.cells[· % z.cells.size]!)) ?_ (by simpa using e5) (by simp)
            obtain⟨i',hi',hz'⟩:=aBY e4
            rw[hii] at hi'; cases hi'
            have hne:¬ (c.toNat*i.size=0):=by omega
            have hne':¬ (c.toNat=0∨i.size=0):=by rintro (e | e)<;>rw[e] at e3<;>simp at e3
            simp[Instr.makeSlice,b8 hu,asInt,asIntOf,typeInfo,hii,sizeOf,zeroValue,hz',wl,wc,n1,n2,n3,n4,hne,hne',newRow]
        · simp[hb,h2] at h
    · simp[h0,h1] at h
  · simp[h0] at h
set_option maxHeartbeats 2000000 in
theorem aPj (hz:gC P=true) (hS:Sim ro N φ w0 H w) (hsub:∀ k o,h.get k=some o→H k=some o) {o:Oper}{aid:Nat}{v:Value}{ob:Option Obj}
    (henv:∀ x∈o.op.operands,∀ v,evl t x=some v→VR N φ v (ρ x)) (hq:kD P ro t h aid o.op=some (v,ob)) :
    lL N φ aid w v ob ((execOp ρ o).run P w):=by
  obtain⟨dst,op,ty0,pos,after,guard⟩:=o
  simp only at henv hq
  cases op with
  | move x =>
    simp only[kD] at hq
    obtain⟨u,hu,hq⟩:=fB hq
    cases hq
    exact lL.pure (henv x (by simp[Op.operands]) _ hu)
  | assign x =>
    simp only[kD] at hq
    obtain⟨u,hu,hq⟩:=fB hq
    cases hq
    exact lL.pure (henv x (by simp[Op.operands]) _ hu)
  | pick c a b =>
    simp only[kD] at hq
    obtain⟨u,hu,hq⟩:=fB hq
    have hc:=henv c (by simp[Op.operands]) u hu
    split at hq
    · obtain⟨v1,h1,hq⟩:=fB hq
      cases hq
      refine⟨ρ a,w,?_,rfl,henv a (by simp[Op.operands]) _ h1⟩
      simp[execOp,asBool,hc.of_bool]
    · obtain⟨v1,h1,hq⟩:=fB hq
      cases hq
      refine⟨ρ b,w,?_,rfl,henv b (by simp[Op.operands]) _ h1⟩
      simp[execOp,asBool,hc.of_bool]
    · cases hq
  | alloc e =>
    simp only[kD] at hq
    obtain⟨z,hzr,hq⟩:=aM hq
    cases hq
    refine lL.of (oT.ptr (C:=z.cells) ?_ (LR.flat (aDt hz hzr)))
    simp[Instr.alloc,aDj hzr,newVar,newRow]
  | box e x =>
    simp only[kD] at hq
    obtain⟨u,hu,hq⟩:=fB hq
    cases hq
    refine lL.of (oT.ptr (C:=(ρ x).cells) ?_ (henv x (by simp[Op.operands]) u hu).cells)
    simp[Instr.box,newVar,newRow]
  | build bt ps =>
    simp only[kD] at hq
    obtain⟨vs,hvs,hq⟩:=aM hq
    obtain⟨u,hu,hq⟩:=aM hq
    cases hq
    have hp:=aOG (N:=N) (φ:=φ) (ρ:=ρ) (fun x hx=>henv x (by simpa [Op.operands] using hx)) hvs
    obtain⟨l,r,rfl,h1,h2⟩:=aJJ hz hp hu
    refine lL.same (v':=.agg r) ?_ (VR.aggL h2)
    exact run_build (P:=P) w bt _ r (by simpa using h1)
  | buildSlice bt n ps =>
    simp only[kD] at hq
    obtain⟨vs,hvs,hq⟩:=aM hq
    have hp:=aOG (N:=N) (φ:=φ) (ρ:=ρ) (fun x hx=>henv x (by simpa [Op.operands] using hx)) hvs
    exact lL.of (aKC (w:=w) hz (qs:=ps.map fun x=>(x.1,ρ x.2)) (by simpa using hp) hq)
  | load lt x =>
    simp only[kD] at hq
    obtain⟨u,hu,hq⟩:=fB hq
    have hx:=henv x (by simp[Op.operands]) u hu
    split at hq
    · obtain⟨u2,hl,hq⟩:=aM hq
      cases hq
      obtain⟨b,e,ha⟩:=hx.of_ptr
      obtain⟨v',h1,h2⟩:=hS.load hsub ha hl
      refine lL.same (v':=v') ?_ h2
      simp[Instr.loadAt,Instr.sureAddr,e,h1]
    · cases hq
  | nilCheck x =>
    simp only[kD] at hq
    obtain⟨u,hu,hq⟩:=fB hq
    have hx:=henv x (by simp[Op.operands]) u hu
    split at hq
    · cases hq
      obtain⟨b,e,ha⟩:=hx.of_ptr
      refine⟨.pointer (some b),w,?_,rfl,by rw[← e]; exact hx⟩
      simp[execOp,e]
    · cases hq
      obtain⟨a',b',e,_,_⟩:=hx.of_func
      refine⟨.func (.func _) a' b',w,?_,rfl,by rw[← e]; exact hx⟩
      simp[execOp,e]
    · cases hq
  | binOp op bt x y yt =>
    simp only[kD] at hq
    obtain⟨a,ha,hq⟩:=fB hq
    obtain⟨b,hb,hq⟩:=fB hq
    obtain⟨u,hu,hq⟩:=aM hq
    cases hq
    obtain⟨g1,g2⟩:=aOm (w:=w) (xo:=x) (yo:=y) hu (henv x (by simp[Op.operands]) a ha) (henv y (by simp[Op.operands]) b hb)
    simp only[execOp]
    exact lL.same g1 (.flat g2)
  | unOp op bt x =>
    simp only[kD] at hq
    obtain⟨a,ha,hq⟩:=fB hq
    obtain⟨u,hu,hq⟩:=aM hq
    cases hq
    obtain⟨g1,g2⟩:=aTB (P:=P) (w:=w) hu (henv x (by simp[Op.operands]) a ha)
    exact lL.same g1 (.flat g2)
  | convert s d x =>
    simp only[kD] at hq
    obtain⟨a,ha,hq⟩:=fB hq
    exact lL.of (aMq hS hsub hq (henv x (by simp[Op.operands]) a ha))
  | makeFunc fn a b =>
    cases fn with
    | func f =>
      simp only[kD] at hq
      obtain⟨as,has,hq⟩:=aM hq
      obtain⟨bs,hbs,hq⟩:=aM hq
      cases hq
      have h1:=aB3 (N:=N) (φ:=φ) (ρ:=ρ) (fun x hx=>henv x (by simp[Op.operands]; exact .inl (by simpa using hx))) has
      have h2:=aB3 (N:=N) (φ:=φ) (ρ:=ρ) (fun x hx=>henv x (by simp[Op.operands]; exact .inr (by simpa using hx))) hbs
      refine⟨.func (.func f) (a.map ρ) (b.map ρ),w,by simp[execOp,Instr.makeFunc],rfl,?_⟩
      exact .func (by simpa using h1.length) (fun i x y hx hy=>h1.get i x y (by simpa using hx) (by simpa using hy)) (by simpa using h2.length) (fun i x y hx hy=>h2.get i x y (by simpa using hx) (by simpa using hy))
    | _=>simp only[kD] at hq; cases hq
  | makeMap mt r =>
    cases r with
    | some _=>simp only[kD] at hq; cases hq
    | none =>
      simp only[kD] at hq
      cases hq
      refine⟨.map (some w.heap.size),w.alloc (.map #[] 0),by simp[execOp,Instr.makeMap],.map #[] 0,0,rfl,rfl,rfl,rfl,fun _ ψ hle hψ=>⟨.map hψ,⟨rfl,rfl,rfl,.nil⟩⟩⟩
  | makeSlice mt l c =>
    simp only[kD] at hq
    obtain⟨a,ha,hq⟩:=fB hq
    obtain⟨b,hb,hq⟩:=fB hq
    exact lL.of (aNG hz hq (henv l (by simp[Op.operands]) a ha) (henv c (by simp[Op.operands]) b hb))
  | slice st x lo hi mx =>
    simp only[kD] at hq
    obtain⟨a,ha,hq⟩:=fB hq
    obtain⟨lov,hlo,hq⟩:=aM hq
    obtain⟨hiv,hhi,hq⟩:=aM hq
    obtain⟨mxv,hmx,hq⟩:=aM hq
    obtain⟨u,hu,hq⟩:=aM hq
    cases hq
    obtain⟨⟨v',g1,g2⟩,n1,n2,n3⟩:=aMX (w:=w) hu (henv x (by simp[Op.operands]) a ha)
    have e1:=aGK (N:=N) (φ:=φ) (ρ:=ρ) (fun y hy=>henv y (by simp[Op.operands]; exact .inr (.inl (by simpa using hy)))) hlo n1
    have e2:=aGK (N:=N) (φ:=φ) (ρ:=ρ) (fun y hy=>henv y (by simp[Op.operands]; exact .inr (.inr (.inl (by simpa using hy))))) hhi n2
    have e3:=aGK (N:=N) (φ:=φ) (ρ:=ρ) (fun y hy=>henv y (by simp[Op.operands]; exact .inr (.inr (.inr (by simpa using hy))))) hmx n3
    exact lL.same (by rw[e1,e2,e3]; exact g1) g2
  | fieldAddr st x f =>
    simp only[kD] at hq
    obtain⟨u,hu,hq⟩:=fB hq
    have hx:=henv x (by simp[Op.operands]) u hu
    split at hq
    · obtain⟨fd,hf,hq⟩:=aM hq
      obtain⟨n,hn,hq⟩:=aM hq
      cases n with
      | zero=>cases hq
      | succ n =>
        cases hq
        obtain⟨b,e,ha⟩:=hx.of_ptr
        unfold aKv at hf
        split at hf
        · rename_i fs hus
          refine lL.same (v':=.pointer (some (b.add fd.offset))) ?_ (ha.fwd _).ptr
          simp[Instr.fieldAt,b8 hus,hf,e,Instr.sureAddr,fieldPlace,lY hn]
        · cases hf
    · cases hq
  | field ft x f =>
    simp only[kD] at hq
    obtain⟨u,hu,hq⟩:=fB hq
    have hx:=henv x (by simp[Op.operands]) u hu
    split at hq
    · obtain⟨fd,hf,hq⟩:=aM hq
      obtain⟨u2,hp,hq⟩:=aM hq
      cases hq
      obtain⟨ys,e,hl⟩:=hx.of_agg
      unfold aKv at hf
      split at hf
      · rename_i fs hus
        obtain⟨v',g1,g2⟩:=aGj (w:=w) hp hl
        refine lL.same (v':=v') ?_ g2
        simp[Instr.field,b8 hus,hf,e,asAgg,g1]
      · cases hf
    · cases hq
  | indexAddr it x i =>
    simp only[kD] at hq
    obtain⟨a,ha,hq⟩:=fB hq
    obtain⟨b,hb,hq⟩:=fB hq
    obtain⟨u,hu,hq⟩:=aM hq
    cases hq
    obtain⟨v',g1,g2⟩:=aF1 (w:=w) hu (henv x (by simp[Op.operands]) a ha) (henv i (by simp[Op.operands]) b hb)
    exact lL.same g1 g2
  | index it x i =>
    simp only[kD] at hq
    obtain⟨a,ha,hq⟩:=fB hq
    obtain⟨b,hb,hq⟩:=fB hq
    obtain⟨u,hu,hq⟩:=aM hq
    cases hq
    obtain⟨v',g1,g2⟩:=aLB (w:=w) hu (henv x (by simp[Op.operands]) a ha) (henv i (by simp[Op.operands]) b hb)
    exact lL.same g1 g2
  | lookup lt x k ok =>
    simp only[kD] at hq
    obtain⟨a,ha,hq⟩:=fB hq
    obtain⟨b,hb,hq⟩:=fB hq
    obtain⟨u,hu,hq⟩:=aM hq
    cases hq
    obtain⟨v',g1,g2⟩:=aNF hz hS hsub hu (henv x (by simp[Op.operands]) a ha) (henv k (by simp[Op.operands]) b hb)
    exact lL.same g1 g2
  | extract x i =>
    simp only[kD] at hq
    obtain⟨u,hu,hq⟩:=fB hq
    have hx:=henv x (by simp[Op.operands]) u hu
    split at hq
    · obtain⟨u2,hp,hq⟩:=aM hq
      cases hq
      obtain⟨ys,e,hl⟩:=hx.of_tuple
      obtain⟨y,hy,hv⟩:=hl.some (by simpa using hp:_=some _)
      refine lL.same (v':=y) ?_ hv
      have:ys[i]?=some y:=by simpa using hy
      simp[Instr.extract,e,this]
    · cases hq
  | call c =>
    obtain⟨callee,args,argTypes⟩:=c
    cases callee with
    | builtin b =>
      simp only[kD] at hq
      obtain⟨vs,hvs,hq⟩:=aM hq
      obtain⟨u,hu,hq⟩:=aM hq
      cases hq
      have hl:=aB3 (N:=N) (φ:=φ) (ρ:=ρ) (fun x hx=>henv x (by simp[Op.operands,Call.operands]; simpa using hx)) hvs
      obtain⟨g1,g2⟩:=aHd (ty:=ty0) (cs:=args.map fun | .const _=>true | _=>false) (vs':=args.map ρ) hS hsub hu (by simpa using hl)
      refine⟨v,w,?_,rfl,.flat g2⟩
      simp only[execOp,resolve,Sem.run_bind,Sem.run_pure,Result.andThen_ok,invoke]
      exact g1
    | _=>simp only[kD] at hq; cases hq
  | _=>simp only[kD] at hq; cases hq
end
end V
end Go.Proofs.YtjndkdmkecpllaaGreat
noncomputable section
namespace Go.Proofs.YtjndkdmkecpllaaGreat
namespace V
structure SS (ro:Ro) (N:Nat) (w0:World) (φ:gF) (h:T Obj) (nx:Nat) (w:World):Prop where
  sim:Sim ro N φ w0 h.get w
  fresh:∀ k,nx≤k→φ k=none
structure Step (ro:Ro) (N:Nat) (w0:World) (φ:gF) (h:T Obj) (nx:Nat) (w:World) (φ':gF) (h':T Obj) (nx':Nat) (w':World):Prop where
  le:gF.le φ φ'
  ss:SS ro N w0 φ' h' nx' w'
  up:nx≤nx'
  new:∀ k,k < nx→φ' k=φ k
  size:w.heap.size≤w'.heap.size
  frame:∀ b,b < w.heap.size→(∀ k B o r,h.get k≠none→φ k=some (B,o,r)→B≠b)→w'.heap[b]?=w.heap[b]?
  img:∀ k B o r,h'.get k≠none→φ' k=some (B,o,r)→w.heap.size≤B∨∃ k0 o0 r0,h.get k0≠none∧φ k0=some (B,o0,r0)
  os:w'.os=w.os
  tape:w'.tape=w.tape
  output:w'.output=w.output
section
variable {P:Program}{ro:Ro}{N:Nat}{φ φ1 φ2:gF}{w0 w w1 w2:World}{h h1 h2:T Obj}{nx nx1 nx2:Nat}
theorem Step.refl (s:SS ro N w0 φ h nx w):Step ro N w0 φ h nx w φ h nx w :=
  ⟨gF.le_refl _,s,Nat.le_refl _,fun _ _=>rfl,Nat.le_refl _,fun _ _ _=>rfl,fun k B o r hk hφ=>.inr ⟨k,o,r,hk,hφ⟩,rfl,rfl,rfl⟩
theorem Step.trans (a:Step ro N w0 φ h nx w φ1 h1 nx1 w1) (b:Step ro N w0 φ1 h1 nx1 w1 φ2 h2 nx2 w2):Step ro N w0 φ h nx w φ2 h2 nx2 w2 where
  le:=gF.le_trans a.le b.le
  ss:=b.ss
  up:=Nat.le_trans a.up b.up
  new:=fun k hk=>(b.new k (Nat.lt_of_lt_of_le hk a.up)).trans (a.new k hk)
  size:=Nat.le_trans a.size b.size
  frame:=fun x hx hn=>by
    rw[b.frame x (Nat.lt_of_lt_of_le hx a.size),a.frame x hx hn]
    intro k B o r hk hφ e
    subst e
    rcases a.img k B o r hk hφ with h | ⟨k0,o0,r0,g1,g2⟩
    · omega
    · exact hn k0 B o0 r0 g1 g2 rfl
  img:=fun k B o r hk hφ=>by
    rcases b.img k B o r hk hφ with h | ⟨k0,o0,r0,g1,g2⟩
    · exact .inl (Nat.le_trans a.size h)
    · exact a.img k0 B o0 r0 g1 g2
  os:=b.os.trans a.os
  tape:=b.tape.trans a.tape
  output:=b.output.trans a.output
theorem Step.sub (a:Step ro N w0 φ h nx w φ1 h1 nx1 w1) (hs:aU h2 h1):Step ro N w0 φ h nx w φ1 h2 nx1 w1 :=
  { a with
    ss:=⟨a.ss.sim.sub hs,a.ss.fresh⟩
    img:=fun k B o r hk hφ=>a.img k B o r (fun e=>by
      cases hx:h2.get k with
      | none=>exact hk hx
      | some x=>rw[hs k x hx] at e; cases e) hφ }
theorem Step.rise (a:Step ro N w0 φ h nx w φ1 h1 nx1 w1) (hn:nx1≤nx2):Step ro N w0 φ h nx w φ1 h1 nx2 w1 :=
  { a with ss:=⟨a.ss.sim,fun k hk=>a.ss.fresh k (Nat.le_trans hn hk)⟩,up:=Nat.le_trans a.up hn }
theorem Step.down (a:Step ro N w0 φ h nx1 w φ1 h1 nx2 w1) (hn:nx≤nx1):Step ro N w0 φ h nx w φ1 h1 nx2 w1 :=
  { a with up:=Nat.le_trans hn a.up,new:=fun k hk=>a.new k (Nat.lt_of_lt_of_le hk hn) }
theorem Step.drew (a:Step ro N w0 φ h nx w φ1 h1 nx1 w1) {u:World} (hu:u.heap=w1.heap) (ho:u.os=w1.os) (ht:u.tape=w1.tape) (hq:u.output=w1.output):Step ro N w0 φ h nx w φ1 h1 nx1 u where
  le:=a.le
  ss:=⟨{ n:=a.ss.sim.n,le:=by rw[hu]; exact a.ss.sim.le,old:=by rw[hu]; exact a.ss.sim.old,dom:=by rw[hu]; exact a.ss.sim.dom,inj:=a.ss.sim.inj,own:=by rw[hu]; exact a.ss.sim.own,ro:=a.ss.sim.ro },a.ss.fresh⟩
  up:=a.up
  new:=a.new
  size:=by rw[hu]; exact a.size
  frame:=by rw[hu]; exact a.frame
  img:=a.img
  os:=ho.trans a.os
  tape:=ht.trans a.tape
  output:=hq.trans a.output
def gF.add (φ:gF) (k B r:Nat):gF:=fun i=>if i=k then some (B,0,r) else φ i
theorem gF.le_add {k B r:Nat} (hk:φ k=none):gF.le φ (φ.add k B r):=by
  intro i p hi
  unfold gF.add
  by_cases e:i=k
  · subst e; rw[hk] at hi; cases hi
  · rw[if_neg e]; exact hi
theorem gF.add_same {k B r:Nat}:φ.add k B r k=some (B,0,r):=by simp[gF.add]
theorem gF.add_ne {k B r i:Nat} (h:i≠k):φ.add k B r i=φ i:=by simp[gF.add,h]
theorem Sim.alloc {H:Nat→Option Obj} (hS:Sim ro N φ w0 H w) {k:Nat} (hk:φ k=none) {o o':Obj}{rm:Nat}{w':World} (hh:w'.heap=w.heap.push o')
    (ho:OR N (φ.add k w.heap.size rm) o o' 0 rm):Sim ro N (φ.add k w.heap.size rm) w0 (fun i=>if i=k then some o else H i) w':=by
  have hle:=gF.le_add (φ:=φ) (B:=w.heap.size) (r:=rm) hk
  have hold:∀ b,b < w.heap.size→w'.heap[b]?=w.heap[b]?:=fun b hb=>by rw[hh,Array.getElem?_push,if_neg (by omega)]
  have hne:∀ i,i≠k→φ.add k w.heap.size rm i=φ i:=fun i hi=>gF.add_ne hi
  exact {
    n:=hS.n
    le:=by rw[hh]; simp; exact Nat.le_succ_of_le hS.le
    old:=fun b hb=>by rw[hold b (Nat.lt_of_lt_of_le hb hS.le)]; exact hS.old b hb
    dom:=fun i B o r hi=>by
      by_cases e:i=k
      · subst e; rw[gF.add_same] at hi; cases hi; exact⟨hS.le,by rw[hh]; simp⟩
      · rw[hne i e] at hi
        have:=hS.dom i B o r hi
        exact⟨this.1,by rw[hh]; simp; omega⟩
    inj:=fun i j B o r B' o' r' hi hj e1 e2 hij=>by
      by_cases a:i=k
      · subst a
        rw[gF.add_same] at e1; cases e1
        rw[hne j (Ne.symm hij)] at e2
        have:=hS.dom j _ _ _ e2
        omega
      · rw[hne i a] at e1
        by_cases b:j=k
        · subst b
          rw[gF.add_same] at e2; cases e2
          have:=hS.dom i _ _ _ e1
          omega
        · rw[hne j b] at e2
          rw[if_neg a] at hi; rw[if_neg b] at hj
          exact hS.inj i j B o r B' o' r' hi hj e1 e2 hij
    own:=fun i x hi=>by
      by_cases e:i=k
      · subst e
        rw[if_pos rfl] at hi; cases hi
        exact⟨_,_,_,o',gF.add_same,by rw[hh]; simp,ho⟩
      · rw[if_neg e] at hi
        obtain⟨B,b,r,x',g1,g2,g3⟩:=hS.own i x hi
        exact⟨B,b,r,x',by rw[hne i e]; exact g1,by rw[hold B (hS.dom i B b r g1).2]; exact g2,g3.mono hle⟩
    ro:=hS.ro }
theorem aT9 (h:T Obj) (k:Nat) (o:Obj):(h.upd k (some o)).get=fun i=>if i=k then some o else h.get i:=by
  funext i; rw[T.get_upd]
theorem SS.alloc (s:SS ro N w0 φ h nx w) {o o':Obj}{rm:Nat}{w':World} (hh:w'.heap=w.heap.push o') (hos:w'.os=w.os) (ht:w'.tape=w.tape) (hout:w'.output=w.output)
    (ho:OR N (φ.add nx w.heap.size rm) o o' 0 rm):Step ro N w0 φ h nx w (φ.add nx w.heap.size rm) (h.upd nx (some o)) (nx+1) w' where
  le:=gF.le_add (s.fresh nx (Nat.le_refl _))
  ss:=⟨by rw[aT9]; exact s.sim.alloc (s.fresh nx (Nat.le_refl _)) hh ho,fun k hk=>by rw[gF.add_ne (by omega)]; exact s.fresh k (by omega)⟩
  up:=Nat.le_succ _
  new:=fun k hk=>gF.add_ne (by omega)
  size:=by rw[hh]; simp
  frame:=fun b hb _=>by rw[hh,Array.getElem?_push,if_neg (by omega)]
  img:=fun k B o r hk hφ=>by
    by_cases e:k=nx
    · subst e; rw[gF.add_same] at hφ; cases hφ; exact .inl (Nat.le_refl _)
    · rw[gF.add_ne e] at hφ
      rw[T.get_upd,if_neg e] at hk
      exact .inr ⟨k,o,r,hk,hφ⟩
  os:=hos
  tape:=ht
  output:=hout
def oN (w:World) (B:Nat) (o:Obj):World:={ w with heap:=w.heap.setIfInBounds B o }
theorem aEa {B:Nat}{o o':Obj} (hB:w.heap[B]?=some o):(oN w B o').heap[B]?=some o':=by
  have:B < w.heap.size:=(Array.getElem?_eq_some_iff.1 hB).1
  simp[oN,Array.getElem?_setIfInBounds,this]
theorem yR {B b:Nat}{o':Obj} (h:b≠B):(oN w B o').heap[b]?=w.heap[b]?:=by
  simp[oN,Array.getElem?_setIfInBounds,Ne.symm h]
theorem rP {B:Nat}{o':Obj}:(oN w B o').heap.size=w.heap.size:=by simp[oN]
theorem aCr {w w':World} (h1:w.heap=w'.heap) (h2:w.tape=w'.tape) (h3:w.drawn=w'.drawn) (h4:w.os=w'.os) (h5:w.output=w'.output):w=w':=by
  cases w; cases w'; simp_all
theorem aMU {B:Nat}{o o':Obj}:oN (oN w B o) B o'=oN w B o':=by
  refine aCr (Array.ext_getElem? fun i=>?_) rfl rfl rfl rfl
  simp only[oN,Array.getElem?_setIfInBounds,Array.size_setIfInBounds]
  by_cases e:B=i<;>simp[e]
theorem aNb {B:Nat}{o:Obj} (hB:w.heap[B]?=some o):oN w B o=w:=by
  refine aCr (Array.ext_getElem? fun i=>?_) rfl rfl rfl rfl
  simp only[oN,Array.getElem?_setIfInBounds]
  by_cases e:B=i
  · subst e
    have hlt:=(Array.getElem?_eq_some_iff.1 hB).1
    simp[hlt,hB]
    rw[Array.getElem?_eq_getElem hlt] at hB; exact (Option.some.inj hB).symm
  · simp[e]
theorem aHw {B i:Nat}{C:Array Value}{e:TypeId}{F:Nat × Nat} (hB:w.heap[B]?=some (.cells C e F)) (v:Value) :
    w.setCell ⟨B,i,none⟩ v=oN w B (.cells (C.setIfInBounds i v) e F):=by
  refine aCr (Array.ext_getElem? fun j=>?_) rfl rfl rfl rfl
  have hlt:=(Array.getElem?_eq_some_iff.1 hB).1
  simp only[oN,World.setCell,Array.getElem?_setIfInBounds,Array.getElem?_modify]
  by_cases e:B=j
  · subst e
    simp[hlt]
    rw[Array.getElem?_eq_getElem hlt] at hB
    rw[Option.some.inj hB]
  · simp[e]
theorem vU {B o:Nat}{e:TypeId}{F:Nat × Nat}:∀ (vs:List Value) (i:Nat) (C:Array Value) (w:World),w.heap[B]?=some (.cells C e F)→(∀ j,j < C.size→¬ (F.1≤j∧j < F.2)) →
    o+i+vs.length≤C.size→(∀ u∈vs,u.oneCell'=true)→(storeCells ⟨B,o,none⟩ vs i).run P w=.ok () (oN w B (.cells (over C.toList (o+i) vs).toArray e F)):=by
  intro vs
  induction vs with
  | nil =>
    intro i C w hB hF hle hu
    have:(over C.toList (o+i) []).toArray=C:=by apply Array.ext'; simp[over]
    rw[this,aNb hB]
    rfl
  | cons v vs ih =>
    intro i C w hB hF hle hu
    simp only[List.length_cons] at hle
    have hlt:o+i < C.size:=by omega
    have hc:w.cell? ⟨B,o+i,none⟩=some C[o+i]:=by simp[World.cell?,hB,hlt]
    have hf:w.frozen? ⟨B,o+i,none⟩=false:=by
      have:=hF (o+i) hlt
      simp only[World.frozen?,hB]
      simpa using this
    have hst:(store ((⟨B,o,none⟩:Addr).add i) v).run P w=.ok () (oN w B (.cells (C.setIfInBounds (o+i) v) e F)):=by
      rw[Addr.add_lit,run_store P w _ v _ (hu v (by simp)),hc]
      simp only[hf]
      rw[aHw hB]; rfl
    unfold storeCells
    rw[Sem.run_bind,hst,Result.andThen_ok,ih (i+1) (C.setIfInBounds (o+i) v) _ (aEa hB) (by simpa using hF) (by simp; omega) (fun u hu'=>hu u (by simp[hu'])),aMU]
    congr 3
    apply Array.ext'
    apply List.ext_getElem?
    intro j
    rw[List.toList_toArray,List.toList_toArray,u0 _ _ _ (by simp; omega),u0 _ _ _ (by simp; omega)]
    simp only[Array.toList_setIfInBounds,List.getElem?_set,List.length_cons]
    by_cases a:j < o+i
    · rw[if_pos (by omega),if_pos a,if_neg (by omega)]
    · by_cases ee:o+i=j
      · subst ee
        rw[if_pos (by omega),if_pos rfl,if_pos (by simpa using hlt),if_neg a,if_pos (by omega),Nat.sub_self]
        rfl
      · rw[if_neg (by omega:¬ j < o+i)]
        by_cases b:j < o+i+(vs.length+1)
        · rw[if_neg (by omega),if_pos (by omega),if_pos b]
          rw[show j - (o+i)=(j - (o+(i+1)))+1 by omega]
          simp
        · rw[if_neg (by omega),if_neg (by omega),if_neg b,if_neg ee]
theorem SS.set (s:SS ro N w0 φ h nx w) {k B b r:Nat}{ob ob' oc:Obj} (hk:h.get k=some ob) (hφ:φ k=some (B,b,r)) (hw:w.heap[B]?=some oc) {oc':Obj} (ho:OR N φ ob' oc' b r) :
    Step ro N w0 φ h nx w φ (h.upd k (some ob')) nx (oN w B oc') where
  le:=gF.le_refl _
  ss:=⟨{
    n:=s.sim.n
    le:=by rw[rP]; exact s.sim.le
    old:=fun x hx=>by
      have:=(s.sim.dom k B b r hφ).1
      rw[yR (by omega)]; exact s.sim.old x hx
    dom:=fun i B' o' r' hi=>by rw[rP]; exact s.sim.dom i B' o' r' hi
    inj:=fun i j B1 o1 r1 B2 o2 r2 hi hj=>s.sim.inj i j B1 o1 r1 B2 o2 r2
      (fun e=>hi (by rw[T.get_upd,if_neg (fun e'=>by subst e'; rw[hk] at e; cases e)]; exact e))
      (fun e=>hj (by rw[T.get_upd,if_neg (fun e'=>by subst e'; rw[hk] at e; cases e)]; exact e))
    own:=fun i x hi=>by
      by_cases e:i=k
      · subst e
        rw[T.get_upd_same] at hi; cases hi
        exact⟨B,b,r,oc',hφ,aEa hw,ho⟩
      · rw[T.get_upd_ne _ _ e] at hi
        obtain⟨B',b',r',x',g1,g2,g3⟩:=s.sim.own i x hi
        have hne:B'≠B:=s.sim.inj i k B' b' r' B b r (by rw[hi]; simp) (by rw[hk]; simp) g1 hφ e
        exact⟨B',b',r',x',g1,by rw[yR hne]; exact g2,g3⟩
    ro:=s.sim.ro },s.fresh⟩
  up:=Nat.le_refl _
  new:=fun _ _=>rfl
  size:=by rw[rP]; exact Nat.le_refl _
  frame:=fun x hx hn=>yR (fun e=>hn k B b r (by rw[hk]; simp) hφ e.symm)
  img:=fun i B' o' r' hi hφ'=>.inr ⟨i,o',r',fun e=>hi (by rw[T.get_upd,if_neg (fun e'=>by subst e'; rw[hk] at e; cases e)]; exact e),hφ'⟩
  os:=rfl
  tape:=rfl
  output:=rfl
theorem xZ (s:SS ro N w0 φ h nx w) {a b:Addr} (ha:AR N φ a b) {vs vs':List Value} (hv:LR N φ vs vs') {h':T Obj} (hs:mF h a vs=some h') :
    ∃ w',(storeCells b vs').run P w=.ok () w'∧Step ro N w0 φ h nx w φ h' nx w':=by
  unfold mF at hs
  rcases ha with ⟨g1,_⟩ | ⟨z,B,o,r,g1,g2,rfl⟩
  · rw[g1] at hs; cases hs
  · rw[g1] at hs
    simp only at hs
    cases hk:h.get a.block with
    | none=>rw[hk] at hs; cases hs
    | some ob =>
      rw[hk] at hs
      cases ob<;>(try (cases hs; done))
      rename_i c e f
      dsimp only at hs
      cases hb:Nat.ble (a.off+vs.length) c.size with
      | false=>rw[hb] at hs; cases hs
      | true =>
        cases hall:vs.all bV with
        | false=>rw[hb,hall] at hs; cases hs
        | true =>
          rw[hb,hall] at hs; cases hs
          have hle:a.off+vs.length≤c.size:=Nat.le_of_ble_eq_true hb
          obtain⟨B',b',r',o',e1,e2,e3⟩:=s.sim.own _ _ hk
          rw[g2] at e1; cases e1
          cases o'<;>simp only[OR] at e3
          rename_i C E F
          obtain⟨q1,q2,q3,q4⟩:=e3
          have hl:=hv.length
          have hone:∀ u∈vs',u.oneCell'=true:=by
            intro u hu
            obtain⟨i,hi⟩:=List.getElem?_of_mem hu
            have hlt:i < vs.length:=by rw[hl]; exact (List.getElem?_eq_some_iff.1 hi).1
            have:=hv.get i vs[i] u (List.getElem?_eq_getElem hlt) hi
            exact this.oneCell (List.all_eq_true.1 hall _ (by simp))
          have hrun:=vU (P:=P) (B:=B) (o:=o+a.off) (e:=E) (F:=F) vs' 0 C w e2 q4.no (by omega) hone
          refine⟨_,hrun,s.set hk g2 e2 ⟨?_,?_,?_,?_⟩⟩
          · rw[List.size_toArray,pW _ _ _ (by simp; omega)]; simpa using q1
          · rw[List.size_toArray,pW _ _ _ (by simp; omega)]; simpa using q2
          · intro i x hx
            rw[List.getElem?_toArray,u0 _ _ _ (by simp; omega)] at hx
            rw[List.getElem?_toArray,u0 _ _ _ (by simp; omega)]
            by_cases p1:i < a.off
            · rw[if_pos p1] at hx
              rw[if_pos (by omega)]
              obtain⟨y,hy,hv⟩:=q3 i x (by simpa using hx)
              exact⟨y,by simpa using hy,hv⟩
            · rw[if_neg p1] at hx
              rw[if_neg (by omega)]
              by_cases p2:i < a.off+vs.length
              · rw[if_pos p2] at hx
                rw[if_pos (by omega)]
                obtain⟨y,hy,hyv⟩:=hv.some hx
                exact⟨y,by rw[← hy]; congr 1; omega,hyv⟩
              · rw[if_neg p2] at hx
                rw[if_neg (by omega)]
                obtain⟨y,hy,hv⟩:=q3 i x (by simpa using hx)
                exact⟨y,by simpa using hy,hv⟩
          · rw[List.size_toArray,pW _ _ _ (by simp; omega)]; simpa using q4
theorem aM2 (s:SS ro N w0 φ h nx w) {ty:TypeId}{a a' x x':Value} (ha:VR N φ a a') (hx:VR N φ x x') {h':T Obj} (hs:aBT P h ty a x=some h') :
    ∃ w',(Instr.storeAt ty a' x').run P w=.ok () w'∧Step ro N w0 φ h nx w φ h' nx w':=by
  unfold aBT at hs
  split at hs
  · rename_i a
    obtain⟨n,hn,hs⟩:=aM hs
    cases hb:Nat.beq x.cells.size n with
    | false=>rw[hb] at hs; cases hs
    | true =>
      rw[hb] at hs
      obtain⟨b,rfl,hab⟩:=ha.of_ptr
      have hc:=hx.cells
      obtain⟨w',g1,g2⟩:=xZ (P:=P) s hab hc hs
      refine⟨w',?_,g2⟩
      have e:x'.cells.size=n:=by have:=hc.length; have:=Nat.eq_of_beq_eq_true hb; simp at *; omega
      simp[Instr.storeAt,Instr.sureAddr,storeVar,lY hn,e,g1]
  · cases hs
end
end V
end Go.Proofs.YtjndkdmkecpllaaGreat
noncomputable section
namespace Go.Proofs.YtjndkdmkecpllaaGreat
namespace V
section
variable {P:Program}{ro:Ro}{N:Nat}{φ:gF}{w0 w:World}{h:T Obj}{nx:Nat}
inductive Src (P:Program) (w:World) (e:TypeId) (i:TypeInfo) (t1:TypeId) (x':Value) (n:Nat) (news:List Value):Prop where
  | plain (d:TypeDesc) (hd:gG P t1=some d) (hni:d=.string∨∃ e1,d=.slice e1) (hlen:∀ u:World,(Builtin.lenOf x').run P u=.ok n u)
      (hc:∀ u:World,u.heap=w.heap→(Builtin.firstCells i.size n x').run P u=.ok news.toArray u)
  | zeros (k k':IntKind) (hd:gG P t1=some (.int k)) (hx:x'=.int k' (n:Int)) (hn:n≤70368744177664) (hb:n*i.bytes≤70368744177664)
      (hc:(n*i.size=0∧news=[])∨(n*i.size≠0∧∃ z,i8 P e=some z∧news=(Builtin.zeroCells z.cells n).toList))
set_option maxHeartbeats 2000000 in
theorem aBZ {t0 t1 ty e:TypeId}{ts:Array TypeId}{i:TypeInfo}{x':Value}{n:Nat}{news:List Value} (h0:ts[0]?=some t0) (h1:ts[1]?=some t1) (hu:gG P t0=some (.slice e)) (hi:tin P e=some i)
    (hs:Src P w e i t1 x' n news) (base:Option Addr) (sLen sCap:Nat) (hle:sLen+n≤sCap) (w':World) (hst:(match base with | some a=>storeCells (a.add (sLen*i.size)) news | none=>pure ():Sem Unit).run P w=.ok () w') :
    (Builtin.append_ ts ty #[.slice base sLen sCap,x']).run P w=.ok (.slice base (sLen+n) sCap) w':=by
  have hii:=sU hi
  cases hs with
  | plain d hd hni hlen hc =>
    have hcw:=hc w rfl
    cases base with
    | none =>
      cases hst
      rcases hni with rfl | ⟨e1,rfl⟩ <;>
        simp[Builtin.append_,h0,h1,b8 hu,b8 hd,sizeOf,typeInfo,hii,hlen,hle,hcw]
    | some a =>
      simp only at hst
      rcases hni with rfl | ⟨e1,rfl⟩ <;>
        simp[Builtin.append_,h0,h1,b8 hu,b8 hd,sizeOf,typeInfo,hii,hlen,hle,hcw,hst]
  | zeros k k' hd hx hn hb hc =>
    subst hx
    have hw:IntKind.i64.wrap (n:Int)=n:=by rw[IntKind.wrap_i64]; omega
    have n1:¬ ((n:Int) < 0):=by omega
    have hbc:(n:Int)*(i.bytes:Int)=((n*i.bytes:Nat):Int):=by rw[Int.natCast_mul]
    have n2:¬ (281474976710656 < (n:Int)*(i.bytes:Int)):=by rw[hbc]; omega
    rcases hc with ⟨hz,rfl⟩ | ⟨hz,z,hze,rfl⟩
    · have hz':n=0∨i.size=0:=Nat.mul_eq_zero.1 hz
      cases base with
      | none=>cases hst; simp[Builtin.append_,h0,h1,b8 hu,b8 hd,sizeOf,typeInfo,hii,asInt,asIntOf,hw,n1,n2,hle,hz,hz']
      | some a=>simp only at hst; simp[Builtin.append_,h0,h1,b8 hu,b8 hd,sizeOf,typeInfo,hii,asInt,asIntOf,hw,n1,n2,hle,hz,hz',hst]
    · have hz':¬ (n=0∨i.size=0):=fun h=>hz (Nat.mul_eq_zero.2 h)
      cases base with
      | none=>cases hst; simp[Builtin.append_,h0,h1,b8 hu,b8 hd,sizeOf,typeInfo,hii,asInt,asIntOf,hw,n1,n2,hle,hz,hz',aDj hze]
      | some a=>simp only at hst; simp[Builtin.append_,h0,h1,b8 hu,b8 hd,sizeOf,typeInfo,hii,asInt,asIntOf,hw,n1,n2,hle,hz,hz',aDj hze,hst]
set_option maxHeartbeats 2000000 in
theorem aKR {t0 t1 ty e:TypeId}{ts:Array TypeId}{i:TypeInfo}{x' z:Value}{n:Nat}{news olds:List Value} (h0:ts[0]?=some t0) (h1:ts[1]?=some t1) (hu:gG P t0=some (.slice e)) (hi:tin P e=some i) (hz:i.zero=some z)
    (hs:Src P w e i t1 x' n news) (base:Option Addr) (sLen sCap:Nat) (hlt:sCap < sLen+n) (hb1:(sLen+n)*i.bytes≤70368744177664) (hb2:sLen+n≤70368744177664)
    (hold:∀ u:World,u.heap=w.heap→(Builtin.firstCells i.size sLen (.slice base sLen sCap)).run P u=.ok olds.toArray u) :
    ∃ cap' C w',(Builtin.append_ ts ty #[.slice base sLen sCap,x']).run P w=.ok (.slice (some ⟨w.heap.size,0,none⟩) (sLen+n) cap') w'∧sLen+n≤cap' ∧
      w'.heap=w.heap.push (.cells C e)∧w'.os=w.os∧w'.tape=w.tape∧w'.output=w.output∧C=olds.toArray++news.toArray++Builtin.zeroCells z.cells (cap' - (sLen+n)):=by
  have hii:=sU hi
  have hn:¬ (sLen+n≤sCap):=by omega
  have h63':¬ (9223372036854775807 < ((sLen:Int)+(n:Int))):=by omega
  have hfit:=growslice_fits (bytes:=i.bytes) hlt (by omega)
  have h48':¬ (281474976710656 < Builtin.nextslicecap (sLen+n) sCap*i.bytes):=by omega
  have hzr:∀ u:World,(zeroValue e).run P u=.ok z u:=fun u=>by simp[zeroValue,typeInfo,hii,hz]
  have ho:=hold w.drew rfl
  refine⟨grownCap w (sLen+n) sCap e,_,w.drew.alloc (.cells (olds.toArray++news.toArray++Builtin.zeroCells z.cells (grownCap w (sLen+n) sCap e - (sLen+n))) e),?_,grownCap_ge w _ _ _,rfl,rfl,rfl,rfl,rfl⟩
  cases hs with
  | plain d hd hni hlen hc =>
    have hcw:=hc w.drew rfl
    rcases hni with rfl | ⟨e1,rfl⟩ <;>
      simp[Builtin.append_,h0,h1,b8 hu,b8 hd,sizeOf,typeInfo,zeroValue,hii,hz,hlen,hn,h63',h48',hcw,ho,Question.forced,newRow,grownCap] <;>
      (congr 2; apply Array.ext'; simp[List.append_assoc])
  | zeros k k' hd hx hn' hb hc =>
    subst hx
    have hw:IntKind.i64.wrap (n:Int)=n:=by rw[IntKind.wrap_i64]; omega
    have n1:¬ ((n:Int) < 0):=by omega
    have hbc:(n:Int)*(i.bytes:Int)=((n*i.bytes:Nat):Int):=by rw[Int.natCast_mul]
    have n2:¬ (281474976710656 < (n:Int)*(i.bytes:Int)):=by rw[hbc]; omega
    rcases hc with ⟨hzz,rfl⟩ | ⟨hzz,z',hze,rfl⟩
    · have hz':n=0∨i.size=0:=Nat.mul_eq_zero.1 hzz
      simp[Builtin.append_,h0,h1,b8 hu,b8 hd,sizeOf,typeInfo,zeroValue,hii,hz,asInt,asIntOf,hw,n1,n2,hn,h63',h48',hzz,hz',ho,Question.forced,newRow,grownCap]
    · have hz':¬ (n=0∨i.size=0):=fun h=>hzz (Nat.mul_eq_zero.2 h)
      obtain⟨i',hi',hz2⟩:=aBY hze
      rw[hii] at hi'; cases hi'
      rw[hz] at hz2; cases hz2
      simp[Builtin.append_,h0,h1,b8 hu,b8 hd,sizeOf,typeInfo,zeroValue,hii,hz,asInt,asIntOf,hw,n1,n2,hn,h63',h48',hzz,hz',ho,Question.forced,newRow,grownCap]
theorem aQN (hz:gC P=true) (s:SS ro N w0 φ h nx w) {e t1:TypeId}{i:TypeInfo}{x x':Value}{n:Nat}{l:List Value} (hi:tin P e=some i) (hsr:aHy P ro h e i.size i.bytes t1 x=some (n,l)) (hx:VR N φ x x') :
    ∃ news,Src P w e i t1 x' n news∧LR N φ l news∧l.length=n*i.size:=by
  have hsz:pD P e=some i.size:=by unfold pD; rw[hi]; rfl
  unfold aHy at hsr
  split at hsr
  · rename_i k k' m hu
    by_cases h0:0≤m
    · by_cases h1:m≤70368744177664
      · cases hb:Nat.ble (m.toNat*i.bytes) oB with
        | false=>simp[h0,h1,hb] at hsr
        | true =>
          simp only[h0,h1,hb,decide_true] at hsr
          obtain⟨r,hr,hsr⟩:=aM hsr
          cases hsr
          have hle:m.toNat*i.bytes≤70368744177664:=Nat.le_of_ble_eq_true hb
          obtain⟨s',hm⟩:=aEg (φ:=φ) (N:=N) hz hr
          rcases hm with ⟨e1,e2⟩ | ⟨e1,e2,e3,z,e4,e5,e6⟩
          · subst e2
            exact⟨[],.zeros k k' hu (by rw[hx.of_int,Int.toNat_of_nonneg h0]) (by omega) hle (.inl ⟨by rw[e1]; simp,rfl⟩),.nil,by rw[e1]; simp⟩
          · rw[hsz] at e1; cases e1
            refine⟨_,.zeros k k' hu (by rw[hx.of_int,Int.toNat_of_nonneg h0]) (by omega) hle (.inr ⟨by omega,z,e4,rfl⟩),?_,e2⟩
            unfold Builtin.zeroCells
            rw[e6] at e5 ⊢
            first | exact e5 | simpa using e5
      · simp[h0,h1] at hsr
    · simp[h0] at hsr
  · rename_i e1 m c hu
    cases m with
    | succ m=>cases hsr
    | zero =>
      cases hsr
      rw[hx.of_nilSlice]
      exact⟨[],.plain _ hu (.inr ⟨_,rfl⟩) (fun u=>rfl) (fun u _=>rfl),.nil,by simp⟩
  · rename_i e1 a m c hu
    obtain⟨cs,hcs,hsr⟩:=aM hsr
    cases hsr
    obtain⟨b,c',cs',rfl,g1,g2,g3⟩:=s.sim.sliceCells (fun _ _ h=>h) hx hcs
    refine⟨cs',.plain _ hu (.inr ⟨_,rfl⟩) (fun u=>rfl) (fun u hu'=>?_),g1,g2⟩
    refine run_firstCells_some (P:=P) u i.size n b n c' cs' (by rw[← g1.length,g2]) (fun j v hj=>?_)
    have:=g3 j v hj
    unfold World.cell? at this ⊢
    rw[hu']; exact this
  · rename_i s1 hu
    cases hb:Nat.beq i.size 1 with
    | false=>rw[hb] at hsr; cases hsr
    | true =>
      rw[hb] at hsr; cases hsr
      have e1:=Nat.eq_of_beq_eq_true hb
      rw[hx.of_string,e1]
      refine⟨_,.plain _ hu (.inl rfl) (fun u=>rfl) (fun u _=>?_),LR.flat (fun x hx=>?_),?_⟩
      · have h1:(Array.map (fun b:UInt8=>Value.int IntKind.u8 (b.toNat:Int)) s1.data).extract 0 s1.size=Array.map (fun b:UInt8=>Value.int IntKind.u8 (b.toNat:Int)) s1.data:=by
          have hs:s1.size=(Array.map (fun b:UInt8=>Value.int IntKind.u8 (b.toNat:Int)) s1.data).size:=by rw[Array.size_map]; rfl
          rw[hs,Array.extract_size]
        simp[Builtin.firstCells,h1]
        apply Array.ext'; simp
      · simp at hx; obtain⟨b,_,rfl⟩:=hx; rfl
      · simp
  · cases hsr
theorem aF0 (z l c:Nat) (u:World):(Builtin.firstCells z l (.slice none l c)).run P u=.ok (#[]:Array Value) u:=by simp[Builtin.firstCells]
theorem SS.drop (s:SS ro N w0 φ h nx w) (k:Nat):Step ro N w0 φ h nx w φ (h.upd k none) nx w where
  le:=gF.le_refl _
  ss:=⟨s.sim.sub (fun i o hi=>by
    rw[T.get_upd] at hi
    split at hi
    · cases hi
    · exact hi),s.fresh⟩
  up:=Nat.le_refl _
  new:=fun _ _=>rfl
  size:=Nat.le_refl _
  frame:=fun _ _ _=>rfl
  img:=fun i B o r hi hφ=>.inr ⟨i,o,r,fun e=>hi (by rw[T.get_upd]; split<;>first | rfl | exact e),hφ⟩
  os:=rfl
  tape:=rfl
  output:=rfl
theorem aRH (s:SS ro N w0 φ h nx w) {e:TypeId}{n cap' z:Nat}{l olds' news':List Value}{rest:Array Value}{w':World} (hl:LR N φ l (olds'++news')) (hlen:l.length=n*z) (hn:n≤cap') (hr:rest.size=(cap' - n)*z)
    (hh:w'.heap=w.heap.push (.cells (olds'.toArray++news'.toArray++rest) e)) (hos:w'.os=w.os) (ht:w'.tape=w.tape) (hout:w'.output=w.output) :
    Step ro N w0 φ h nx w (φ.add nx w.heap.size (cap'*z)) (h.upd nx (some (.cells l.toArray e))) (nx+1) w'∧VR N (φ.add nx w.heap.size (cap'*z)) (.slice (some (own nx z)) n n) (.slice (some ⟨w.heap.size,0,none⟩) n cap'):=by
  have hle:=gF.le_add (φ:=φ) (B:=w.heap.size) (r:=cap'*z) (s.fresh nx (Nat.le_refl _))
  have hsum:n*z+(cap' - n)*z=cap'*z:=by rw[← Nat.add_mul]; congr 1; omega
  have hll:=hl.length
  simp at hll
  refine⟨s.alloc hh hos ht hout ⟨?_,?_,?_,.inl rfl⟩,.sliceOwn (a:=own nx z) gF.add_same rfl hn (by simp[own])⟩
  · simp[hr]; omega
  · simp[hlen]; omega
  · intro i x hx
    obtain⟨y,hy,hv⟩:=hl.some (by simpa using hx:l[i]?=some x)
    refine⟨y,?_,hv.mono hle⟩
    have hlt:i < olds'.length+news'.length:=by have:=(List.getElem?_eq_some_iff.1 hy).1; simpa using this
    rw[Nat.zero_add,Array.getElem?_append,if_pos (by simpa using hlt)]
    have:(olds'.toArray++news'.toArray)=(olds'++news').toArray:=by simp
    rw[this,List.getElem?_toArray]; exact hy
theorem aJF (hz:gC P=true) (s:SS ro N w0 φ h nx w) {ts:Array TypeId}{ty:TypeId}{vs vs':List Value}{v:Value}{h':T Obj}{nx':Nat} (ha:bY P ro h nx ts vs=some (v,h',nx')) (hv:LR N φ vs vs') :
    ∃ v' w' φ',(Builtin.append_ ts ty vs'.toArray).run P w=.ok v' w'∧Step ro N w0 φ h nx w φ' h' nx' w'∧VR N φ' v v':=by
  unfold bY at ha
  split at ha
  case h_2=>cases ha
  rename_i t0 t1 base len cap x h0 h1
  cases hv with
  | cons hb ht=>cases ht with
    | cons hx ht=>cases ht with
      | nil =>
        rename_i b' x'
        split at ha
        case h_2=>cases ha
        rename_i e hu
        obtain⟨i,hi,ha⟩:=aM ha
        obtain⟨⟨n,l⟩,hsr,ha⟩:=aM ha
        obtain⟨news,g1,g2,g3⟩:=aQN (w:=w) hz s hi hsr hx
        simp only at ha
        cases hroom:Nat.ble (len+n) cap with
        | true =>
          rw[hroom] at ha
          simp only at ha
          have hle:len+n≤cap:=Nat.le_of_ble_eq_true hroom
          cases n with
          | zero =>
            simp only at ha
            cases ha
            have hn0:news=[]:=by have:=g2.length; rw[g3] at this; simp at this; exact List.eq_nil_of_length_eq_zero this.symm
            subst hn0
            cases base with
            | none =>
              rw[hb.of_nilSlice]
              refine⟨_,w,φ,aBZ (ty:=ty) h0 h1 hu hi g1 none len cap hle w rfl,Step.refl s,.flat rfl⟩
            | some a =>
              obtain⟨b,c',rfl,hsl⟩:=hb.of_slice
              have hcc:cap≤c':=by
                rcases hsl with hsl | ⟨_,rfl,rfl,_⟩
                · cases hsl with
                  | ro _ _=>exact Nat.le_refl _
                  | own _ _ h _=>exact h
                · exact Nat.le_refl _
              exact⟨_,w,φ,aBZ (ty:=ty) h0 h1 hu hi g1 (some b) len c' (by omega) w rfl,Step.refl s,hb⟩
          | succ n =>
            simp only at ha
            cases base with
            | none=>cases ha
            | some a =>
              simp only at ha
              cases hsp:a.spot with
              | none=>rw[hsp] at ha; cases ha
              | some z =>
                rw[hsp] at ha
                simp only at ha
                cases hzz:Nat.beq z i.size with
                | false=>rw[hzz] at ha; cases ha
                | true =>
                  rw[hzz] at ha
                  obtain⟨h2,hst,ha⟩:=aM ha
                  cases ha
                  have ez:=Nat.eq_of_beq_eq_true hzz
                  obtain⟨b,c',rfl,hsl⟩:=hb.of_slice
                  rcases hsl with hsl | ⟨_,rfl,_⟩
                  · cases hsl with
                    | ro h _=>rw[h] at hsp; cases hsp
                    | own hφ hs0 hc hr =>
                      rename_i z0 B o r
                      have har:AR N φ (fwd a (len*i.size)) (Addr.add ⟨B,o+a.off,none⟩ (len*i.size)):=AR.fwd (.inr ⟨z0,B,o,r,hs0,hφ,rfl⟩) _
                      obtain⟨w',q1,q2⟩:=xZ (P:=P) s har g2 hst
                      exact⟨_,w',φ,aBZ (ty:=ty) h0 h1 hu hi g1 (some _) len c' (by omega) w' q1,q2,.sliceOwn hφ hs0 (by omega) hr⟩
                  · omega
        | false =>
          rw[hroom] at ha
          simp only at ha
          have hgt:cap < len+n:=by
            rcases Nat.lt_or_ge cap (len+n) with h | h
            · exact h
            · rw[Nat.ble_eq_true_of_le h] at hroom; cases hroom
          obtain⟨zv,hzv,ha⟩:=aM ha
          cases hb1:Nat.ble ((len+n)*i.bytes) oB with
          | false=>rw[hb1] at ha; cases ha
          | true =>
            cases hb2:Nat.ble (len+n) oB with
            | false=>rw[hb1,hb2] at ha; cases ha
            | true =>
              cases hb3:Nat.blt 0 i.size with
              | false=>rw[hb1,hb2,hb3] at ha; cases ha
              | true =>
                cases hb4:(Nat.beq zv.cells.size i.size&&l.all bV) with
                | false=>rw[hb1,hb2,hb3,hb4] at ha; cases ha
                | true =>
                  rw[hb1,hb2,hb3,hb4] at ha
                  obtain⟨⟨olds,h2⟩,hold,ha⟩:=aM ha
                  cases ha
                  have q1:(len+n)*i.bytes≤70368744177664:=Nat.le_of_ble_eq_true hb1
                  have q2:len+n≤70368744177664:=Nat.le_of_ble_eq_true hb2
                  have q3:0 < i.size:=by have:=hb3; simp[Nat.blt] at this; omega
                  rw[Bool.and_eq_true] at hb4
                  have q4:zv.cells.size=i.size:=Nat.eq_of_beq_eq_true hb4.1
                  obtain⟨i',hi',hiz⟩:=aBY hzv
                  rw[sU hi] at hi'; cases hi'
                  have hrest:∀ m,(Builtin.zeroCells zv.cells m).size=m*i.size:=fun m=>by simp[Builtin.zeroCells,q4]
                  have fin:∀ (base':Option Addr) (c':Nat) (olds':List Value) (hs2:Step ro N w0 φ h nx w φ h2 nx w),c' < len+n→olds.length=len*i.size→LR N φ olds olds' →
                      (∀ u:World,u.heap=w.heap→(Builtin.firstCells i.size len (.slice base' len c')).run P u=.ok olds'.toArray u) →
                      ∃ v' w' φ',(Builtin.append_ ts ty #[.slice base' len c',x']).run P w=.ok v' w'∧Step ro N w0 φ h nx w φ' (h2.upd nx (some (.cells (olds++l).toArray e))) (nx+1) w'∧VR N φ' (.slice (some (own nx i.size)) (len+n) (len+n)) v':=by
                    intro base' c' olds' hs2 hlt ho hlo hfc
                    obtain⟨cap',C,w',r1,r2,r3,r4,r5,r6,r7⟩:=aKR (ty:=ty) h0 h1 hu hi hiz g1 base' len c' hlt q1 q2 hfc
                    subst r7
                    obtain⟨m1,m2⟩:=aRH hs2.ss (z:=i.size) (hlo.append g2) (by simp[ho,g3,Nat.add_mul]) r2 (hrest _) r3 r4 r5 r6
                    exact⟨_,w',_,r1,hs2.trans m1,m2⟩
                  unfold aLY at hold
                  cases base with
                  | none =>
                    cases len with
                    | succ len=>cases hold
                    | zero =>
                      cases hold
                      rw[hb.of_nilSlice]
                      exact fin none cap [] (Step.refl s) hgt (by simp) .nil (fun u _=>aF0 _ _ _ u)
                  | some a =>
                    obtain⟨lc,hlc,hold⟩:=aM hold
                    obtain⟨b,c',cs',rfl,p1,p2,p3⟩:=s.sim.sliceCells (fun _ _ h=>h) hb hlc
                    have hfc:∀ (c2:Nat) (u:World),u.heap=w.heap→(Builtin.firstCells i.size len (.slice (some b) len c2)).run P u=.ok cs'.toArray u:=fun c2 u hu' =>
                      run_firstCells_some (P:=P) u i.size len b len c2 cs' (by rw[← p1.length,p2]) (fun j v hj=>by
                        have:=p3 j v hj
                        unfold World.cell? at this ⊢
                        rw[hu']; exact this)
                    cases hsp:a.spot with
                    | none =>
                      rw[hsp] at hold; cases hold
                      have hcc:c'=cap:=by
                        obtain⟨b2,c2,e2,hsl⟩:=hb.of_slice
                        cases e2
                        rcases hsl with hsl | ⟨_,e9,e8,_⟩
                        · cases hsl with
                          | ro _ _=>rfl
                          | own _ h9 _ _=>rw[h9] at hsp; cases hsp
                        · omega
                      subst hcc
                      exact fin (some b) c' cs' (Step.refl s) hgt p2 p1 (hfc c')
                    | some z =>
                      rw[hsp] at hold
                      simp only at hold
                      cases hzz:Nat.beq z i.size with
                      | false=>rw[hzz] at hold; cases hold
                      | true =>
                        rw[hzz] at hold; cases hold
                        have ez:=Nat.eq_of_beq_eq_true hzz
                        subst ez
                        by_cases hin:len+n≤c'
                        · obtain⟨b2,c2,e2,hsl⟩:=hb.of_slice
                          cases e2
                          rcases hsl with hsl | ⟨_,_,rfl,_⟩
                          · cases hsl with
                            | ro h9 _=>rw[h9] at hsp; cases hsp
                            | own hφ hs0 hc hr =>
                              rename_i z0 B o r
                              rw[hs0] at hsp; cases hsp
                              have hkk:∃ ob,h.get a.block=some ob:=by
                                unfold cellsAt at hlc
                                rw[hs0] at hlc
                                cases hk:h.get a.block with
                                | none=>rw[hk] at hlc; cases hlc
                                | some ob=>exact⟨ob,rfl⟩
                              obtain⟨ob,hk⟩:=hkk
                              obtain⟨B',b',r',o',e1,e2,e3⟩:=s.sim.own _ _ hk
                              rw[hφ] at e1; cases e1
                              have hob:∃ C E F,o'=.cells C E F∧o+r≤C.size∧aQ2 C.size F:=by
                                unfold cellsAt at hlc
                                rw[hs0,hk] at hlc
                                cases ob<;>(try (cases hlc; done))
                                cases o'<;>simp only[OR] at e3
                                exact⟨_,_,_,rfl,e3.1,e3.2.2.2⟩
                              obtain⟨C,E,F,rfl,y1,y2⟩:=hob
                              have hnl:news.length=n*i.size:=by rw[← g2.length,g3]
                              have hfit:len*i.size+n*i.size≤c'*i.size:=by rw[← Nat.add_mul]; exact Nat.mul_le_mul_right _ hin
                              have hone:∀ u∈news,u.oneCell'=true:=by
                                intro u hu
                                obtain⟨j,hj⟩:=List.getElem?_of_mem hu
                                have hlt:j < l.length:=by rw[g2.length]; exact (List.getElem?_eq_some_iff.1 hj).1
                                exact (g2.get j l[j] u (List.getElem?_eq_getElem hlt) hj).oneCell (List.all_eq_true.1 hb4.2 _ (by simp))
                              have hrun:=vU (P:=P) (B:=B) (o:=o+a.off+len*i.size) (e:=E) (F:=F) news 0 C w e2 y2.no (by omega) hone
                              have hrun2:=aBZ (ty:=ty) h0 h1 hu hi g1 (some ⟨B,o+a.off,none⟩) len c' hin _ (by simp only[Addr.add_lit]; exact hrun)
                              have hnx:φ nx=none:=s.fresh nx (Nat.le_refl _)
                              have hak:a.block≠nx:=fun e=>by rw[e,hnx] at hφ; cases hφ
                              let ψ:gF:=fun k=>if k=nx then some (B,o+a.off,r - a.off) else φ k
                              have hψ1:ψ nx=some (B,o+a.off,r - a.off):=if_pos rfl
                              have hψ2:∀ k,k≠nx→ψ k=φ k:=fun k hk=>if_neg hk
                              have hle:gF.le φ ψ:=fun k p hk=>by rw[hψ2 k (fun e=>by rw[e,hnx] at hk; cases hk)]; exact hk
                              have hC:∀ j u,cs'[j]?=some u→C[o+a.off+j]?=some u:=by
                                intro j u hj
                                have:=p3 j u hj
                                rw[Addr.add_lit] at this
                                simpa [World.cell?,e2] using this
                              have hgone:∀ k x,((h.upd a.block none).upd nx (some (.cells (olds++l).toArray e))).get k=some x→(k=nx∧x=.cells (olds++l).toArray e)∨(k≠nx∧k≠a.block∧h.get k=some x):=by
                                intro k x hk
                                rw[T.get_upd] at hk
                                split at hk
                                · rename_i e; cases hk; exact .inl ⟨e,rfl⟩
                                · rename_i ne
                                  rw[T.get_upd] at hk
                                  split at hk
                                  · cases hk
                                  · rename_i ne2; exact .inr ⟨ne,ne2,hk⟩
                              have hgn:∀ k,((h.upd a.block none).upd nx (some (.cells (olds++l).toArray e))).get k≠none→k=nx∨(k≠nx∧k≠a.block∧h.get k≠none):=by
                                intro k hk
                                cases hx:((h.upd a.block none).upd nx (some (.cells (olds++l).toArray e))).get k with
                                | none=>exact absurd hx hk
                                | some x =>
                                  rcases hgone k x hx with ⟨e,_⟩ | ⟨e1,e2,e3⟩
                                  · exact .inl e
                                  · exact .inr ⟨e1,e2,by rw[e3]; simp⟩
                              have hdomB:=s.sim.dom _ _ _ _ hφ
                              refine⟨_,_,ψ,hrun2,⟨hle,⟨{ n:=s.sim.n,le:=by rw[rP]; exact s.sim.le,old:=fun x hx=>by rw[yR (by omega)]; exact s.sim.old x hx,dom:=?_,inj:=?_,own:=?_,ro:=s.sim.ro },fun k hk=>by rw[hψ2 k (by omega)]; exact s.fresh k (by omega)⟩,
                                Nat.le_succ _,fun k hk=>hψ2 k (by omega),by rw[rP]; exact Nat.le_refl _,fun x hx hn=>yR (fun e=>hn a.block B o r (by rw[hk]; simp) hφ e.symm),?_,rfl,rfl,rfl⟩,?_⟩
                              · intro k B2 o2 r2 hk2
                                rw[rP]
                                by_cases e:k=nx
                                · subst e; rw[hψ1] at hk2; cases hk2; exact hdomB
                                · rw[hψ2 k e] at hk2; exact s.sim.dom k B2 o2 r2 hk2
                              · intro k k' B1 o1 r1 B2 o2 r2 hk1 hk2 f1 f2 hne
                                rcases hgn k hk1 with e | ⟨n1,n2,n3⟩
                                · subst e
                                  rw[hψ1] at f1; cases f1
                                  rcases hgn k' hk2 with e | ⟨n1,n2,n3⟩
                                  · exact absurd e.symm hne
                                  · rw[hψ2 k' n1] at f2
                                    exact s.sim.inj a.block k' _ _ _ _ _ _ (by rw[hk]; simp) n3 hφ f2 (Ne.symm n2)
                                · rw[hψ2 k n1] at f1
                                  rcases hgn k' hk2 with e | ⟨m1,m2,m3⟩
                                  · subst e
                                    rw[hψ1] at f2; cases f2
                                    exact s.sim.inj k a.block _ _ _ _ _ _ n3 (by rw[hk]; simp) f1 hφ n2
                                  · rw[hψ2 k' m1] at f2
                                    exact s.sim.inj k k' _ _ _ _ _ _ n3 m3 f1 f2 hne
                              · intro k x hkx
                                rcases hgone k x hkx with ⟨rfl,rfl⟩ | ⟨n1,n2,n3⟩
                                · refine⟨B,o+a.off,r - a.off,_,hψ1,aEa e2,?_,?_,?_,?_⟩
                                  · rw[List.size_toArray,pW _ _ _ (by simp; omega)]; simp; omega
                                  · simp[p2,g3]; omega
                                  · intro j u hj
                                    rw[List.getElem?_toArray,List.getElem?_append] at hj
                                    rw[List.getElem?_toArray,u0 _ _ _ (by simp; omega)]
                                    by_cases hjl:j < olds.length
                                    · rw[if_pos hjl] at hj
                                      rw[if_pos (by omega)]
                                      obtain⟨y,hy,hv⟩:=p1.some hj
                                      exact⟨y,by have:=hC j y hy; simpa using this,hv.mono hle⟩
                                    · rw[if_neg hjl] at hj
                                      obtain⟨y,hy,hv⟩:=g2.some hj
                                      have hyl:=(List.getElem?_eq_some_iff.1 hy).1
                                      rw[if_neg (by omega),if_pos (by omega)]
                                      refine⟨y,?_,hv.mono hle⟩
                                      rw[← hy]; congr 1; omega
                                  · rw[List.size_toArray,pW _ _ _ (by simp; omega)]; simpa using y2
                                · obtain⟨B2,b2,r2,x',f1,f2,f3⟩:=s.sim.own k x n3
                                  have hne:B2≠B:=s.sim.inj k a.block _ _ _ _ _ _ (by rw[n3]; simp) (by rw[hk]; simp) f1 hφ n2
                                  exact⟨B2,b2,r2,x',by rw[hψ2 k n1]; exact f1,by rw[yR hne]; exact f2,f3.mono hle⟩
                              · intro k B2 o2 r2 hk2 f2
                                rcases hgn k hk2 with e | ⟨n1,n2,n3⟩
                                · subst e; rw[hψ1] at f2; cases f2
                                  exact .inr ⟨a.block,o,r,by rw[hk]; simp,hφ⟩
                                · rw[hψ2 k n1] at f2
                                  exact .inr ⟨k,o2,r2,n3,f2⟩
                              · exact .sliceOwn (a:=own nx i.size) hψ1 rfl hin (by simp[own]; omega)
                          · omega
                        · exact fin (some b) c' cs' (s.drop a.block) (by omega) p2 p1 (hfc c')
end
end V
end Go.Proofs.YtjndkdmkecpllaaGreat
noncomputable section
namespace Go.Proofs.YtjndkdmkecpllaaGreat
namespace V
section
variable {P:Program}{ro:Ro}{N:Nat}{φ:gF}{w0 w:World}{h:T Obj}{nx:Nat}
theorem aMr (s:SS ro N w0 φ h nx w) {ts:Array TypeId}{ty:TypeId}{vs vs':List Value}{v:Value}{h':T Obj}{nx':Nat} (ha:aGF P ro h nx ts vs=some (v,h',nx')) (hv:LR N φ vs vs') :
    ∃ w',(Builtin.copy_ ts ty vs'.toArray).run P w=.ok v w'∧Step ro N w0 φ h nx w φ h' nx' w'∧flat v=true:=by
  unfold aGF at ha
  split at ha
  case h_2=>cases ha
  rename_i t0 base dl dc src sl sc h0
  cases hv with
  | cons hd ht=>cases ht with
    | cons hs ht=>cases ht with
      | nil =>
        split at ha
        case h_2=>cases ha
        rename_i e hu
        obtain⟨z,hz,ha⟩:=aM ha
        have hdl:∃ b c',∀ {d'},VR N φ (.slice base dl dc) d'→d'=.slice b dl c'∨True:=⟨none,0,fun _=>.inr trivial⟩
        have shape:∀ {a:Option Addr} {l c:Nat} {d':Value},VR N φ (.slice a l c) d'→∃ b c',d'=.slice b l c':=by
          intro a l c d' hh
          cases a with
          | none=>exact⟨_,_,hh.of_nilSlice⟩
          | some a=>obtain⟨b,c',rfl,_⟩:=hh.of_slice; exact⟨_,_,rfl⟩
        obtain⟨db,dc',rfl⟩:=shape hd
        obtain⟨sb,sc',rfl⟩:=shape hs
        cases hn:Nat.min sl dl with
        | zero =>
          rw[hn] at ha
          simp only at ha
          cases ha
          refine⟨w,?_,Step.refl s,rfl⟩
          have hf:(Builtin.firstCells z 0 (.slice sb sl sc')).run P w=.ok (#[]:Array Value) w:=by
            cases sb with
            | none=>simp[Builtin.firstCells]
            | some b=>simp[Builtin.firstCells,loadCells,loadCellsFrom]
          cases db with
          | none=>simp[Builtin.copy_,h0,b8 hu,Builtin.lenOf,hn,lY hz,hf,goInt]
          | some b=>simp[Builtin.copy_,h0,b8 hu,Builtin.lenOf,hn,lY hz,hf,goInt,storeCells]
        | succ n =>
          rw[hn] at ha
          cases base with
          | none=>cases src<;>cases ha
          | some a =>
            cases src with
            | none=>cases ha
            | some b =>
              simp only at ha
              cases hsp:a.spot with
              | none=>rw[hsp] at ha; cases ha
              | some z' =>
                rw[hsp] at ha
                simp only at ha
                cases hzz:Nat.beq z' z with
                | false=>rw[hzz] at ha; cases ha
                | true =>
                  rw[hzz] at ha
                  obtain⟨l,hl,ha⟩:=aM ha
                  obtain⟨h2,hst,ha⟩:=aM ha
                  cases ha
                  have hmin:n+1≤sl∧n+1≤dl:=by have:=hn; simp only[Nat.min_def] at this; split at this<;>omega
                  have hsrc:∃ cs',LR N φ l cs'∧l.length=(n+1)*z∧∃ sb',sb=some sb'∧∀ j u,cs'[j]?=some u→w.cell? (sb'.add j)=some u:=by
                    obtain⟨b2,c2,e2,h9⟩:=hs.of_sliceP
                    cases e2
                    rcases h9 with h9 | h9
                    · obtain⟨cs',g1,g2,g3⟩:=s.sim.cellsAt (fun _ _ h=>h) h9 hl
                      exact⟨cs',g1,g2,_,rfl,g3⟩
                    · omega
                  obtain⟨cs',g1,g2,sb',rfl,g3⟩:=hsrc
                  obtain⟨b2,c2,e2,hsl⟩:=hd.of_slice
                  cases e2
                  rcases hsl with hsl | ⟨h9,_⟩
                  · cases hsl with
                    | ro h9 _=>rw[h9] at hsp; cases hsp
                    | own hφ hs0 hc hr =>
                      rename_i z0 B o r
                      have har:AR N φ (elt a 0) ⟨B,o+a.off,none⟩:=.inr ⟨0,B,o,r,by simp[elt,hs0],hφ,by simp[elt]⟩
                      obtain⟨w',q1,q2⟩:=xZ (P:=P) s har g1 hst
                      refine⟨w',?_,q2,rfl⟩
                      have hf:(Builtin.firstCells z (n+1) (.slice (some sb') sl sc')).run P w=.ok cs'.toArray w:=by
                        have:=run_loadCells_list (P:=P) w sb' cs' g3
                        rw[← g1.length,g2] at this
                        simp[Builtin.firstCells,this]
                      simp[Builtin.copy_,h0,b8 hu,Builtin.lenOf,hn,lY hz,hf,goInt,q1]
                  · omega
theorem aGU {B:Nat}{ES:Array MapEntry}{c:Nat} (hw:w.heap[B]?=some (.map ES c)):(getObj B).run P w=.ok (.map ES c) w:=by simp[getObj,Sem.run,hw]
theorem aCn {B:Nat}{ES:Array MapEntry}{c:Nat} (hw:w.heap[B]?=some (.map ES c)) (o:Obj):(setObj B o).run P w=.ok () (oN w B o):=by simp[setObj,Sem.run,hw,oN]
theorem wC {r:Nat}{es:List MapEntry × Nat} (he:jY h r=some es):h.get r=some (.map es.1.toArray es.2):=by
  unfold jY at he
  cases hk:h.get r with
  | none=>rw[hk] at he; cases he
  | some o=>rw[hk] at he; cases o<;>(try cases he); rfl
theorem aMP {kt:TypeId}{a b:Value} (hok:aAH P kt a=true) (hq:aAG P kt a b=some true):Instr.sameBits 10000 b a=true:=by
  unfold aAH at hok
  unfold aAG at hq
  split at hq
  · rename_i xs ys
    split at hq
    · rename_i hg
      obtain⟨ks,hp,hc⟩:=aM hq
      show (ys.size==xs.size&&(ys.toList.zip xs.toList).all fun (x,y)=>Instr.sameBits 9999 x y)=true
      have key:∀ (ks:List Nat) (xs ys:List Value),dY ks xs ys=some true→ys.length=xs.length∧((ys.zip xs).all fun (x,y)=>Instr.sameBits 9999 x y)=true:=by
        intro ks
        induction ks with
        | nil=>intro xs ys h; cases xs<;>cases ys<;>simp[dY] at h ⊢
        | cons k ks ih =>
          intro xs ys h
          cases xs<;>cases ys<;>simp only[dY] at h<;>try (cases h; done)
          rename_i x xs y ys
          obtain⟨b1,h1,h⟩:=aM h
          obtain⟨b2,h2,h⟩:=aM h
          have hbb:b1=true∧b2=true:=by simpa using h
          obtain⟨rfl,rfl⟩:=hbb
          obtain⟨i1,i2⟩:=ih xs ys h2
          refine⟨by simp[i1],?_⟩
          rw[List.zip_cons_cons,List.all_cons,i2,Bool.and_true]
          match k,x,y,h1 with
          | 0,.bool a,.bool c,h1=>simp[kK] at h1; subst h1; simp[Instr.sameBits]
          | 1,.int k a,.int k' c,h1 =>
            by_cases hk:k=k'
            · simp[kK,hk] at h1; subst h1; subst hk; simp[Instr.sameBits]
            · simp[kK,hk] at h1
          | 2,.string a,.string c,h1 =>
            simp[kK] at h1
            have:a=c:=by cases a; cases c; simp_all
            subst this
            have hb:(a==a)=true:=by rw[beq_toListBytes]; simp
            simp[Instr.sameBits,hb]
      obtain⟨k1,k2⟩:=key ks _ _ hc
      have:ys.size=xs.size:=by simpa using k1
      rw[this,k2]; simp
    · cases hq
  · split at hq<;>first
      | (cases hq; done)
      | (rename_i hu
         cases a<;>cases b<;>simp[kK] at hq
         first
           | (rename_i k1 n1 k2 n2 _
              by_cases hk:k1=k2
              · simp[hk] at hq; subst hq; subst hk; simp[Instr.sameBits]
              · simp[hk] at hq)
           | (rename_i s1 s2 _
              have:s1=s2:=by cases s1; cases s2; simp_all
              subst this
              have hb:(s1==s1)=true:=by rw[beq_toListBytes]; simp
              simp[Instr.sameBits,hb])
           | (subst hq; simp[Instr.sameBits]))
theorem aRC {kt:TypeId}{k:Value}:∀ {es:List MapEntry}{i j:Nat}{u:Value},uN P kt k es i=some (some (j,u))→∃ m e,j=i+m∧es[m]?=some e∧aAG P kt k e.key=some true:=by
  intro es
  induction es with
  | nil=>intro i j u h; simp[uN] at h
  | cons e es ih =>
    intro i j u h
    simp only[uN] at h
    cases hq:aAG P kt k e.key with
    | none=>rw[hq] at h; cases h
    | some c =>
      rw[hq] at h
      cases c with
      | true=>cases h; exact⟨0,e,rfl,rfl,hq⟩
      | false =>
        obtain⟨m,e',h1,h2,h3⟩:=ih h
        exact⟨m+1,e',by omega,by simpa using h2,h3⟩
theorem ER.get {es ES:List MapEntry} (he:ER N φ es ES):∀ {i:Nat}{e:MapEntry},es[i]?=some e→∃ E,ES[i]?=some E∧VR N φ e.key E.key∧VR N φ e.val E.val∧e.born=E.born:=by
  induction he with
  | nil=>intro i e h; simp at h
  | cons h1 h2 h3 _ ih =>
    intro i e h
    cases i with
    | zero=>simp at h; subst h; exact⟨_,rfl,h1,h2,h3⟩
    | succ i=>exact ih (by simpa using h)
theorem ER.modify {es ES:List MapEntry} (he:ER N φ es ES) {k v v':Value} (hk:VR N φ k k) (hv:VR N φ v v'):∀ i:Nat,ER N φ (es.modify i (fun e:MapEntry=>{ e with key:=k,val:=v })) (ES.modify i (fun e:MapEntry=>{ e with key:=k,val:=v' })):=by
  induction he with
  | nil=>intro i; simp; exact .nil
  | cons h1 h2 h3 ht ih =>
    intro i
    cases i with
    | zero=>exact .cons hk hv h3 ht
    | succ i=>exact .cons h1 h2 h3 (ih i)
theorem ER.append {es ES fs FS:List MapEntry} (he:ER N φ es ES) (hf:ER N φ fs FS):ER N φ (es++fs) (ES++FS):=by
  induction he with
  | nil=>exact hf
  | cons h1 h2 h3 _ ih=>exact .cons h1 h2 h3 ih
theorem aDR (s:SS ro N w0 φ h nx w) {t:TypeId}{m m' k k' v v':Value} (hm:VR N φ m m') (hk:VR N φ k k') (hv:VR N φ v v') {h':T Obj} (hp:zM P h t m k v=some h') :
    ∃ w',(Instr.mapUpdate t m' k' v').run P w=.ok () w'∧Step ro N w0 φ h nx w φ h' nx w':=by
  unfold zM at hp
  split at hp
  case h_2=>cases hp
  rename_i kt et r hu
  obtain⟨B,rfl,hφ⟩:=hm.of_map
  obtain⟨es,he,hp⟩:=aM hp
  cases hok:aAH P kt k with
  | false=>rw[hok] at hp; cases hp
  | true =>
    rw[hok] at hp
    obtain⟨rfl,hkk⟩:=aGZ hok hk
    obtain⟨f,hf,hp⟩:=aM hp
    obtain⟨ES,e1,e2⟩:=s.sim.entries (fun _ _ h=>h) hφ he
    have hobj:=wC he
    obtain⟨r',g1,g2⟩:=aGQ (P:=P) (w:=w) hok hkk e2 hf
    have hck:=aDz (P:=P) (w:=w) false hok
    have hgo:=aGU (P:=P) e1
    cases f with
    | none =>
      cases r' with
      | some y=>exact g2.elim
      | none =>
        cases hp
        have hso:=aCn (P:=P) e1 (.map (ES.push { key:=k',val:=v',born:=es.2 }) (es.2+1))
        refine⟨_,?_,s.set hobj hφ e1 (oc':=.map (ES.push { key:=k',val:=v',born:=es.2 }) (es.2+1)) ⟨rfl,rfl,rfl,?_⟩⟩
        · simp[Instr.mapUpdate,b8 hu,hgo,hck,g1,hso]
        · simp only[Array.toList_push]
          exact e2.append (.cons hkk hv rfl .nil)
    | some f =>
      obtain⟨fi,fv⟩:=f
      cases r' with
      | none=>exact g2.elim
      | some y =>
        obtain⟨yi,yv⟩:=y
        obtain⟨gi,gv⟩:=g2
        dsimp only at gi
        subst gi
        cases hp
        obtain⟨m,e,hm1,hm2,hm3⟩:=aRC hf
        rw[Nat.zero_add] at hm1
        subst hm1
        obtain⟨E,hE1,hE2,_,_⟩:=e2.get hm2
        have hEk:E.key=e.key:=(aCb hm3 hkk hE2).2
        have hsb:=aMP hok hm3
        have hES:ES[fi]?=some E:=by simpa using hE1
        have hso:=aCn (P:=P) e1 (.map (ES.modify fi fun e=>{ e with key:=k',val:=v' }) es.2)
        refine⟨_,?_,s.set hobj hφ e1 (oc':=.map (ES.modify fi fun e=>{ e with key:=k',val:=v' }) es.2) ⟨rfl,rfl,rfl,?_⟩⟩
        · simp[Instr.mapUpdate,b8 hu,hgo,hck,g1,hES,hEk,Instr.keyThatStays,hsb,hso]
        · simp only[Array.toList_modify]
          exact e2.modify hkk hv fi
theorem aKb (s:SS ro N w0 φ h nx w) {ts:Array TypeId}{ty t:TypeId}{m m':Value} (h0:ts[0]?=some t) (hm:VR N φ m m') {h':T Obj} (hc:aC3 h m=some h') (hu:(gG P t).isSome=true) :
    ∃ w',(Builtin.clear_ ts ty #[m']).run P w=.ok (.tuple #[]) w'∧Step ro N w0 φ h nx w φ h' nx w':=by
  obtain⟨d,hu⟩:=Option.isSome_iff_exists.1 hu
  unfold aC3 at hc
  split at hc
  · cases hc
    rw[hm.of_nilMap]
    exact⟨w,by simp[Builtin.clear_,h0,b8 hu],Step.refl s⟩
  · rename_i r
    obtain⟨B,rfl,hφ⟩:=hm.of_map
    obtain⟨es,he,hc⟩:=aM hc
    cases hc
    obtain⟨ES,e1,e2⟩:=s.sim.entries (fun _ _ h=>h) hφ he
    have hso:=aCn (P:=P) e1 (.map #[] es.2)
    exact⟨_,by simp[Builtin.clear_,h0,b8 hu,aGU e1,hso],s.set (wC he) hφ e1 (oc':=.map #[] es.2) ⟨rfl,rfl,rfl,.nil⟩⟩
  · cases hc
end
end V
end Go.Proofs.YtjndkdmkecpllaaGreat
noncomputable section
namespace Go.Proofs.YtjndkdmkecpllaaGreat
namespace V
structure EnvR (N:Nat) (φ:gF) (n:Nat) (t:T Value) (a:Act):Prop where
  size:a.tmps.size=n
  val:∀ i,VR N φ ((t.get i).getD undef) (a.tmps.getD i undef)
def yW (P:Program) (ro:Ro) (N:Nat) (w0:World) (C:kU):Prop:=∀ f args h nx v h' nx',C f args h nx v h' nx'→(∃ fn,P.funcs[f]?=some fn∧fn.body.isNone=false) ∧
  ∀ (φ:gF) (w:World) (args':Array Value),SS ro N w0 φ h nx w→LR N φ args args'.toList →
    Calls P f args' w fun e w'=>∃ v' φ',e=.returned v'∧Step ro N w0 φ h nx w φ' h' nx' w'∧VR N φ' v v'
def mZ (P : Program) : Bool := P.funcs.toList.all fun fn => !(fn.name == "runtime.NumGoroutine")
section
variable {P:Program}{ro:Ro}{N n:Nat}{φ:gF}{w0 w:World}{h h':T Obj}{nx nx':Nat}{t:T Value}{a:Act}
theorem EnvR.evl (he:EnvR N φ n t a) {x:Operand}{v:Value} (h:evl t x=some v):VR N φ v (a.eval x):=by
  cases x with
  | tmp i=>cases h; exact he.val i
  | const c =>
    simp only[V.evl] at h
    cases hf:flat c with
    | false=>rw[hf] at h; cases h
    | true=>rw[hf] at h; cases h; exact .flat hf
  | global g=>cases h
  | func f=>cases h; exact .func rfl (fun i x y hx _=>by simp at hx) rfl (fun i x y hx _=>by simp at hx)
theorem EnvR.mono {ψ:gF} (hl:gF.le φ ψ) (he:EnvR N φ n t a):EnvR N ψ n t a:=⟨he.size,fun i=>(he.val i).mono hl⟩
theorem EnvR.put (he:EnvR N φ n t a) {dst:Option Tmp}{v v':Value}{t':T Value} (hp:V.put n t dst v=some t') (hv:VR N φ v v'):EnvR N φ n t' (a.put dst v'):=by
  cases dst with
  | none=>cases hp; exact he
  | some d =>
    simp only[V.put] at hp
    cases hb:Nat.blt d n with
    | false=>rw[hb] at hp; cases hp
    | true =>
      rw[hb] at hp; cases hp
      have hd:d < n:=Nat.le_of_ble_eq_true hb
      refine⟨by simp[Act.put,he.size],fun i=>?_⟩
      rw[T.get_upd]
      by_cases e:i=d
      · subst e
        rw[if_pos rfl]
        simp[Act.put,Array.getElem?_setIfInBounds,he.size,hd]
        exact hv
      · rw[if_neg e]
        have:=he.val i
        simpa [Act.put,Array.getElem?_setIfInBounds,Ne.symm e] using this
theorem u7 (a:Act) (d:Option Tmp) (v:Value):(a.put d v).defers=a.defers:=by cases d<;>rfl
theorem VR.to_bool {x:Value}{b:Bool} (h:VR N φ x (.bool b)):x=.bool b:=by cases h; rfl
theorem EnvR.yielded (he:EnvR N φ n t a) (ops:Array Oper) (j:Nat) (b:Bool):Go.yielded ops a.tmps j=some b ↔ ∃ d,(ops[j]?).bind (·.dst)=some d∧t.get d=some (.bool b):=by
  unfold Go.yielded
  cases hd:(ops[j]?).bind (·.dst) with
  | none=>simp
  | some d =>
    simp only[Option.bind]
    have hv:=he.val d
    constructor
    · intro h
      refine⟨d,rfl,?_⟩
      split at h
      · rename_i b' hq
        cases h
        have e:a.tmps.getD d undef=.bool b:=by simp[hq]
        rw[e] at hv
        have e2:=hv.to_bool
        cases ht:t.get d with
        | none=>rw[ht] at e2; cases e2
        | some x=>rw[ht] at e2; exact congrArg some e2
      · cases h
    · rintro⟨d',e,h⟩
      cases e
      rw[h] at hv
      have e:=hv.of_bool
      cases hq:a.tmps[d]? with
      | none=>simp[hq] at e; cases e
      | some q =>
        have e':q=.bool b:=by simpa [hq] using e
        rw[e']
theorem EnvR.wanted (he:EnvR N φ n t a) (ops:Array Oper) (o:Oper):Region.wanted o (Go.yielded ops a.tmps)=V.wanted ops t o:=by
  unfold Region.wanted V.wanted
  cases o.guard with
  | none=>rfl
  | some g =>
    obtain⟨j,wnt⟩:=g
    simp only
    rw[Bool.eq_iff_iff]
    have h:=he.yielded ops j wnt
    rw[beq_iff_eq,h]
    constructor
    · rintro⟨d,h1,h2⟩
      rw[h1]; simp only; rw[h2]; simp
    · intro h
      split at h
      · rename_i d hd
        split at h
        · rename_i b hb
          have:b=wnt:=by simpa using h
          subst this
          exact⟨d,hd,hb⟩
        · cases h
      · cases h
theorem aGE (s:SS ro N w0 φ h nx w) {sx dx:TypeId}{x x' v:Value} (hc:yE P h sx dx x=some (v,h')) (hx:VR N φ x x'):∃ w',(convert sx dx x').run P w=.ok x' w'∧Step ro N w0 φ h nx w φ h' nx w'∧v=x:=by
  unfold yE at hc
  split at hc
  case h_2=>cases hc
  rename_i a l c
  split at hc
  case h_2=>cases hc
  rename_i z cs e f hsp hk
  split at hc
  case h_2=>cases hc
  rename_i el hb hd
  split at hc
  case h_2=>cases hc
  rename_i he
  cases hc
  have hsd:sx=dx:=Nat.eq_of_beq_eq_true hb
  subst hsd
  obtain⟨B',b',r',o',e1,e2,e3⟩:=s.sim.own _ _ hk
  cases o'<;>simp only[OR] at e3
  rename_i C E F
  obtain⟨q1,q2,q3,q4⟩:=e3
  obtain⟨bb,c',rfl,hsl⟩:=hx.of_slice
  obtain⟨hbs,hbB⟩:bb.spot=none∧bb.block=B':=by
    rcases hsl with hsl | ⟨_,_,_,hsl⟩
    · cases hsl with
      | ro h1 _=>rw[h1] at hsp; cases hsp
      | own h1 h2 _ _=>rw[e1] at h1; cases h1; exact⟨rfl,rfl⟩
    · rcases hsl with h1 | ⟨z2,B2,o2,r2,h1,h2,h3,h4⟩
      · rw[h1] at hsp; cases hsp
      · rw[e1] at h2; cases h2; exact⟨h3,h4⟩
  obtain⟨b1,b2,b3⟩:=bb
  change b3=none at hbs; change b1=B' at hbB
  subst hbs hbB
  have hsh:w.shape? b1=some (E,C.size):=by unfold World.shape?; rw[e2]
  let F':Nat × Nat:=if F.1==F.2 then (C.size,C.size+1) else (min F.1 C.size,max F.2 (C.size+1))
  have hfr:w.freeze ⟨b1,C.size,none⟩ 1=oN w b1 (.cells C E F'):=by
    unfold World.freeze oN
    rw[if_neg (by decide)]
    congr 1
    apply Array.ext_getElem?
    intro i
    rw[Array.getElem?_modify,Array.getElem?_setIfInBounds]
    by_cases hi:b1=i
    · subst hi
      have hlt:b1 < w.heap.size:=(Array.getElem?_eq_some_iff.1 e2).1
      have hw:w.heap[b1]=.cells C E F:=by
        have h3:=e2
        rw[Array.getElem?_eq_getElem hlt] at h3
        exact Option.some.inj h3
      simp[hlt,hw,F']
    · simp[hi]
  have hF:aQ2 C.size F':=by
    show (if F.1==F.2 then (C.size,C.size+1) else (min F.1 C.size,max F.2 (C.size+1))).1=(if F.1==F.2 then (C.size,C.size+1) else (min F.1 C.size,max F.2 (C.size+1))).2∨C.size≤(if F.1==F.2 then (C.size,C.size+1) else (min F.1 C.size,max F.2 (C.size+1))).1
    cases hq:F.1==F.2 with
    | true=>right; simp
    | false =>
      right
      have hne:F.1≠F.2:=by simpa using hq
      rcases q4 with q4 | q4
      · exact absurd q4 hne
      · simp; omega
  refine⟨oN w b1 (.cells C E F'),?_,s.set hk e1 e2 ⟨q1,q2,q3,hF⟩,rfl⟩
  simp[convert,b8 hd,b8 he,markStringish,hsh]
  exact hfr
theorem aSF (hz:gC P=true) (hn:mZ P=true) {C:kU} (hC:yW P ro N w0 C) (s:SS ro N w0 φ h nx w) {o:Oper}
    (henv:∀ x∈o.op.operands,∀ v,evl t x=some v→VR N φ v (a.eval x)) {v:Value} (hl:opL P ro C t h nx o.op v h' nx') {K:Act→World→Prop} {Q:Exit→Act→World→Prop}
    (hK:∀ v' w' φ',Step ro N w0 φ h nx w φ' h' nx' w'→VR N φ' v v'→K (a.put o.dst v') w'):o.wp P a w K Q:=by
  obtain⟨dst,op,ty0,pos,after,guard⟩:=o
  simp only at henv hl hK
  unfold Oper.wp
  cases op with
  | store ty x y =>
    obtain⟨av,xv,h1,h2,h3,rfl,rfl⟩:=hl
    obtain⟨w',g1,g2⟩:=aM2 s (henv x (by simp[Op.operands]) av h1) (henv y (by simp[Op.operands]) xv h2) h3
    have:(execOp a.eval ⟨dst,.store ty x y,ty0,pos,after,guard⟩).run P w=.ok .skip w':=by simp only[execOp,Sem.run_bind,g1]; rfl
    rw[this]
    exact hK undef w' φ g2 VR.undef
  | mapUpdate ty m k x =>
    obtain⟨mv,kv,xv,h1,h2,h3,h4,rfl,rfl⟩:=hl
    obtain⟨w',g1,g2⟩:=aDR (P:=P) s (henv m (by simp[Op.operands]) mv h1) (henv k (by simp[Op.operands]) kv h2) (henv x (by simp[Op.operands]) xv h3) h4
    have:(execOp a.eval ⟨dst,.mapUpdate ty m k x,ty0,pos,after,guard⟩).run P w=.ok .skip w':=by simp only[execOp,Sem.run_bind,g1]; rfl
    rw[this]
    exact hK undef w' φ g2 VR.undef
  | insert ty m k x =>
    obtain⟨mv,kv,xv,h1,h2,h3,h4,rfl,rfl⟩:=hl
    obtain⟨w',g1,g2⟩:=aDR (P:=P) s (henv m (by simp[Op.operands]) mv h1) (henv k (by simp[Op.operands]) kv h2) (henv x (by simp[Op.operands]) xv h3) h4
    have:(execOp a.eval ⟨dst,.insert ty m k x,ty0,pos,after,guard⟩).run P w=.ok .skip w':=by simp only[execOp,Sem.run_bind,g1]; rfl
    rw[this]
    exact hK undef w' φ g2 VR.undef
  | call c =>
    obtain⟨callee,args,argTypes⟩:=c
    cases callee with
    | builtin b =>
      obtain⟨vs,hvs,hb⟩:=hl
      have hlr:=aB3 (N:=N) (φ:=φ) (ρ:=a.eval) (fun x hx=>henv x (by simp[Op.operands,Call.operands]; simpa using hx)) hvs
      have hex:∀ (r:Value) (w':World),(builtin b argTypes ty0 (args.map fun | .const _=>true | _=>false) (args.map a.eval)).run P w=.ok (.value r) w' →
          (execOp a.eval ⟨dst,.call ⟨.builtin b,args,argTypes⟩,ty0,pos,after,guard⟩).run P w=.ok (.value r) w':=by
        intro r w' hr
        simp only[execOp,resolve,Sem.run_bind,Sem.run_pure,Result.andThen_ok,invoke]
        exact hr
      have hmap:(args.toList.map a.eval).toArray=args.map a.eval:=by apply Array.ext'; simp
      cases b<;>simp only at hb<;>try (exact hb.elim)
      case append =>
        obtain⟨v',w',φ',g1,g2,g3⟩:=aJF (ty:=ty0) hz s hb hlr
        rw[hmap] at g1
        rw[hex v' w' (by simp only[builtin,Sem.run_bind,g1]; rfl)]
        exact hK v' w' φ' g2 g3
      case clear =>
        obtain⟨m,t1,rfl,h1,h2,h3,rfl,rfl⟩:=hb
        obtain⟨m',e,hm⟩:∃ m',args.map a.eval=#[m']∧VR N φ m m':=by
          have:LR N φ [m] (args.map a.eval).toList:=by simpa using hlr
          generalize args.map a.eval=arr at this
          obtain⟨l⟩:=arr
          cases this with
          | cons h1 h2=>cases h2; exact⟨_,rfl,h1⟩
        obtain⟨w',g1,g2⟩:=aKb (ty:=ty0) s h1 hm h3 h2
        rw[hex (.tuple #[]) w' (by simp only[builtin,e,Sem.run_bind,g1]; rfl)]
        exact hK (.tuple #[]) w' φ g2 VR.undef
      case copy =>
        obtain⟨w',g1,g2,g3⟩:=aMr (ty:=ty0) s hb hlr
        rw[hmap] at g1
        rw[hex v w' (by simp only[builtin,Sem.run_bind,g1]; rfl)]
        exact hK v w' φ g2 (.flat g3)
    | value f =>
      obtain⟨k,fa,fb,vs,h1,h2,h3⟩:=hl
      have hf:=henv f (by simp[Op.operands,Call.operands]) _ h1
      obtain⟨fa',fb',e,l1,l2⟩:=hf.of_func
      have hlr:=aB3 (N:=N) (φ:=φ) (ρ:=a.eval) (fun x hx=>henv x (by simp[Op.operands,Call.operands]; exact .inr (by simpa using hx))) h2
      have hlr2:LR N φ (fa.toList++vs++fb.toList) (fa'++args.map a.eval++fb').toList:=by
        simp only[Array.toList_append,Array.toList_map]
        exact (l1.append hlr).append l2
      obtain⟨⟨fn,hfn,hbody⟩,hcc⟩:=hC _ _ _ _ _ _ _ h3
      have hcall:=hcc φ w _ s hlr2
      have hname : (fn.name == "runtime.NumGoroutine") = false := by
        have:=List.all_eq_true.1 hn fn (List.mem_of_getElem? (by simpa using hfn))
        simpa using this
      have hrun:(execOp a.eval ⟨dst,.call ⟨.value f,args,argTypes⟩,ty0,pos,after,guard⟩).run P w=.ok (.enter k (fa'++args.map a.eval++fb')) w:=by
        simp only[execOp,resolve,e,Deferred.ofValue,Sem.run_bind,Sem.run_pure,Result.andThen_ok,invoke,callFunc,run_program,hfn,hname,hbody]
        simp
      rw[hrun,Oper.upon_enter]
      refine hcall.mono ?_
      rintro e' w' ⟨v',φ',rfl,g1,g2⟩
      exact hK v' w' φ' g1 g2
    | invoke r m=>exact hl.elim
  | convert sx dx x =>
    obtain⟨xv,h1,h2,rfl⟩:=hl
    have hx:=henv x (by simp[Op.operands]) xv h1
    obtain⟨w',g1,g2,rfl⟩:=aGE (P:=P) s h2 hx
    have:(execOp a.eval ⟨dst,.convert sx dx x,ty0,pos,after,guard⟩).run P w=.ok (.value (a.eval x)) w':=by simp only[execOp,Sem.run_bind,g1]; rfl
    rw[this]
    exact hK _ w' φ g2 (hx.mono g2.le)
  | _=>exact hl.elim
theorem aSG (hz:gC P=true) {H:Nat→Option Obj} (hS:Sim ro N φ w0 H w) (hsub:∀ k o,h.get k=some o→H k=some o) {o:Oper}{aid:Nat} (haid:φ aid=none)
    (henv:∀ x∈o.op.operands,∀ v,evl t x=some v→VR N φ v (a.eval x)) {v:Value} {ob:Option Obj} (hq:kD P ro t h aid o.op=some (v,ob)) {K:Act→World→Prop} {Q:Exit→Act→World→Prop}
    (hK0:ob=none→∀ v',VR N φ v v'→K (a.put o.dst v') w)
    (hK1:∀ x,ob=some x→∀ (x':Obj) (rm:Nat) (v':Value) (w':World),w'.heap=w.heap.push x'→w'.os=w.os→w'.tape=w.tape→w'.output=w.output →
      VR N (φ.add aid w.heap.size rm) v v'→OR N (φ.add aid w.heap.size rm) x x' 0 rm→K (a.put o.dst v') w'):o.wp P a w K Q:=by
  obtain⟨v',w',g1,g2⟩:=aPj hz hS hsub henv hq
  unfold Oper.wp
  rw[g1,Oper.upon_value]
  cases ob with
  | none=>obtain⟨rfl,g3⟩:=g2; exact hK0 rfl v' g3
  | some x =>
    obtain⟨x',rm,e1,e2,e3,e4,g3⟩:=g2
    obtain⟨g4,g5⟩:=g3 hS.le (φ.add aid w.heap.size rm) (gF.le_add haid) gF.add_same
    exact hK1 x rfl x' rm v' w' e1 e2 e3 e4 g4 g5
theorem aVg (hz:gC P=true) (hn:mZ P=true) {C:kU} (hC:yW P ro N w0 C) (s:SS ro N w0 φ h nx w) {o:Oper}
    (henv:∀ x∈o.op.operands,∀ v,evl t x=some v→VR N φ v (a.eval x)) {v:Value} (hl:opR P ro C t h (nx+1) nx o.op v h' nx') {K:Act→World→Prop} {Q:Exit→Act→World→Prop}
    (hK:∀ v' w' φ',Step ro N w0 φ h nx w φ' h' nx' w'→VR N φ' v v'→K (a.put o.dst v') w'):o.wp P a w K Q:=by
  unfold opR at hl
  cases hq:iN o.op with
  | true =>
    rw[hq] at hl
    have s':SS ro N w0 φ h (nx+1) w:=⟨s.sim,fun k hk=>s.fresh k (by omega)⟩
    exact aSF hz hn hC s' henv hl (fun v' w' φ' g1 g2=>hK v' w' φ' (g1.down (Nat.le_succ _)) g2)
  | false =>
    rw[hq] at hl
    obtain⟨ob,h1,rfl,rfl⟩:=hl
    refine aSG hz s.sim (fun _ _ h=>h) (s.fresh nx (Nat.le_refl _)) henv h1 ?_ ?_
    · rintro rfl v' g1
      exact hK v' w φ ((Step.refl s).rise (Nat.le_succ _)) g1
    · rintro x rfl x' rm v' w' e1 e2 e3 e4 g1 g2
      exact hK v' w' _ (s.alloc e1 e2 e3 e4 g2) g1
theorem aVk (hz:gC P=true) (hn:mZ P=true) {C:kU} (hC:yW P ro N w0 C) {ops:Array Oper}{Q:Exit→Act→World→Prop} :
    ∀ (l:List Oper) (s s':St) (φ:gF) (w:World) (a:Act),SS ro N w0 φ s.h s.nx w→EnvR N φ n s.t a→aBe P ro C n ops l s s' →
      (∀ a' w' φ',Step ro N w0 φ s.h s.nx w φ' s'.h s'.nx w'→EnvR N φ' n s'.t a'→a'.defers=a.defers→Q .normal a' w')→wpList P ops Q l a w:=by
  intro l
  induction l with
  | nil =>
    intro s s' φ w a hs he h hQ
    simp only[aBe] at h
    subst h
    exact hQ a w φ (Step.refl hs) he rfl
  | cons o l ih =>
    intro s s' φ w a hs he h hQ
    simp only[aBe] at h
    unfold wpList
    rw[he.wanted]
    cases hw:V.wanted ops s.t o with
    | false =>
      rw[hw] at h
      obtain⟨t',h1,h2⟩:=h
      simp only[Bool.false_eq_true,if_false]
      exact ih ⟨t',s.h,s.nx⟩ s' φ w _ hs (he.put h1 VR.undef) h2 (fun a' w' φ' g1 g2 g3=>hQ a' w' φ' g1 g2 (g3.trans (u7 _ _ _)))
    | true =>
      rw[hw] at h
      obtain⟨v,h',nx',t',h1,h2,h3⟩:=h
      simp only[if_true]
      refine .inl (aVg hz hn hC hs (fun x _ v hv=>he.evl hv) h1 ?_)
      intro v' w' φ' g1 g2
      exact ih ⟨t',h',nx'⟩ s' φ' w' _ g1.ss ((he.mono g1.le).put h2 g2) h3 (fun a' w'' φ'' q1 q2 q3=>hQ a' w'' φ'' (g1.trans q1) q2 (q3.trans (u7 _ _ _)))
end
end V
end Go.Proofs.YtjndkdmkecpllaaGreat
noncomputable section
namespace Go.Proofs.YtjndkdmkecpllaaGreat
namespace V
def jQ (h:T Obj) (nx:Nat) (h':T Obj) (nx':Nat):Prop:=nx≤nx'∧∀ k,k < nx→h.get k=none→h'.get k=none
theorem jQ.refl (h:T Obj) (nx:Nat):jQ h nx h nx:=⟨Nat.le_refl _,fun _ _ e=>e⟩
theorem jQ.trans {h h1 h2:T Obj}{nx nx1 nx2:Nat} (a:jQ h nx h1 nx1) (b:jQ h1 nx1 h2 nx2):jQ h nx h2 nx2 :=
  ⟨Nat.le_trans a.1 b.1,fun k hk e=>b.2 k (Nat.lt_of_lt_of_le hk a.1) (a.2 k hk e)⟩
theorem jQ.upd {h:T Obj}{nx k:Nat}{x:Obj}{o:Option Obj} (hk:h.get k=some x):jQ h nx (h.upd k o) nx :=
  ⟨Nat.le_refl _,fun i _ e=>by
    rw[T.get_upd]
    split
    · rename_i e'; subst e'; rw[hk] at e; cases e
    · exact e⟩
theorem jQ.add {h:T Obj}{nx k:Nat}{o:Option Obj} (hk:nx≤k):jQ h nx (h.upd k o) (nx+1) :=
  ⟨Nat.le_succ _,fun i hi e=>by rw[T.get_upd,if_neg (by omega)]; exact e⟩
theorem jQ.sub {h h1 h2:T Obj}{nx nx1:Nat} (a:jQ h nx h1 nx1) (hs:aU h2 h1):jQ h nx h2 nx1 :=
  ⟨a.1,fun k hk e=>by
    cases hx:h2.get k with
    | none=>rfl
    | some x=>have:=hs k x hx; rw[a.2 k hk e] at this; cases this⟩
def aFk (C:kU):Prop:=∀ f args h nx v h' nx',C f args h nx v h' nx'→jQ h nx h' nx'
section
variable {P:Program}{ro:Ro}{h h':T Obj}{nx nx':Nat}
theorem aAE {a:Addr}{vs:List Value} (hs:mF h a vs=some h'):jQ h nx h' nx:=by
  unfold mF at hs
  split at hs
  · cases hs
  · split at hs
    · rename_i hk
      split at hs
      · cases hs; exact jQ.upd hk
      · cases hs
    · cases hs
theorem aNj {ty:TypeId}{a x:Value} (hs:aBT P h ty a x=some h'):jQ h nx h' nx:=by
  unfold aBT at hs
  split at hs
  · obtain⟨n,hn,hs⟩:=aM hs
    split at hs
    · exact aAE hs
    · cases hs
  · cases hs
theorem aEw {t:TypeId}{m k v:Value} (hp:zM P h t m k v=some h'):jQ h nx h' nx:=by
  unfold zM at hp
  split at hp
  case h_2=>cases hp
  obtain⟨es,he,hp⟩:=aM hp
  have hobj:=wC he
  split at hp
  · obtain⟨f,hf,hp⟩:=aM hp
    split at hp<;>cases hp<;>exact jQ.upd hobj
  · cases hp
theorem aMk {m:Value} (hc:aC3 h m=some h'):jQ h nx h' nx:=by
  unfold aC3 at hc
  split at hc
  · cases hc; exact jQ.refl _ _
  · obtain⟨es,he,hc⟩:=aM hc
    cases hc; exact jQ.upd (wC he)
  · cases hc
theorem aPA {ts:Array TypeId}{vs:List Value}{v:Value} (hc:aGF P ro h nx ts vs=some (v,h',nx')):jQ h nx h' nx':=by
  unfold aGF at hc
  split at hc
  case h_2=>cases hc
  split at hc
  case h_2=>cases hc
  obtain⟨z,hz,hc⟩:=aM hc
  split at hc
  · cases hc; exact jQ.refl _ _
  · split at hc
    · cases hc
    · split at hc
      · obtain⟨l,hl,hc⟩:=aM hc
        obtain⟨h2,hs,hc⟩:=aM hc
        cases hc; exact aAE hs
      · cases hc
  · cases hc
theorem aSD {z len:Nat}{base:Option Addr}{p:List Value × T Obj} (ho:aLY ro h z base len=some p):jQ h nx p.2 nx:=by
  unfold aLY at ho
  split at ho
  · split at ho
    · cases ho; exact jQ.refl _ _
    · cases ho
  · rename_i a
    obtain⟨l,hl,ho⟩:=aM ho
    split at ho
    · cases ho; exact jQ.refl _ _
    · rename_i z' hsp
      split at ho
      · cases ho
        unfold cellsAt at hl
        rw[hsp] at hl
        cases hk:h.get a.block with
        | none=>rw[hk] at hl; cases hl
        | some ob=>exact jQ.upd hk
      · cases ho
theorem aKS {ts:Array TypeId}{vs:List Value}{v:Value} (hc:bY P ro h nx ts vs=some (v,h',nx')):jQ h nx h' nx':=by
  unfold bY at hc
  split at hc
  case h_2=>cases hc
  split at hc
  case h_2=>cases hc
  obtain⟨i,hi,hc⟩:=aM hc
  obtain⟨s,hs,hc⟩:=aM hc
  split at hc
  · split at hc
    · cases hc; exact jQ.refl _ _
    · split at hc
      · cases hc
      · split at hc
        · cases hc
        · split at hc
          · obtain⟨h2,hst,hc⟩:=aM hc
            cases hc; exact aAE hst
          · cases hc
  · obtain⟨zv,hzv,hc⟩:=aM hc
    split at hc
    · obtain⟨p,hp,hc⟩:=aM hc
      cases hc
      exact (aSD hp).trans (jQ.add (Nat.le_refl _))
    · cases hc
theorem aGf {C:kU} (hC:aFk C) {t:T Value}{op:Op}{v:Value} (hl:opL P ro C t h nx op v h' nx'):jQ h nx h' nx':=by
  cases op with
  | store ty x y=>obtain⟨_,_,_,_,h3,rfl,_⟩:=hl; exact aNj h3
  | mapUpdate ty m k x=>obtain⟨_,_,_,_,_,_,h4,rfl,_⟩:=hl; exact aEw h4
  | insert ty m k x=>obtain⟨_,_,_,_,_,_,h4,rfl,_⟩:=hl; exact aEw h4
  | call c =>
    obtain⟨callee,args,argTypes⟩:=c
    cases callee with
    | builtin b =>
      obtain⟨vs,hvs,hb⟩:=hl
      cases b<;>simp only at hb<;>try (exact hb.elim)
      case append=>exact aKS hb
      case clear=>obtain⟨m,t1,rfl,h1,h2,h3,rfl,rfl⟩:=hb; exact aMk h3
      case copy=>exact aPA hb
    | value f=>obtain⟨k,fa,fb,vs,h1,h2,h3⟩:=hl; exact hC _ _ _ _ _ _ _ h3
    | invoke r m=>exact hl.elim
  | convert sx dx x =>
    obtain⟨xv,h1,hc,rfl⟩:=hl
    unfold yE at hc
    split at hc
    case h_2=>cases hc
    rename_i a l c
    split at hc
    case h_2=>cases hc
    rename_i z cs e f hsp hk
    split at hc
    case h_2=>cases hc
    split at hc
    case h_2=>cases hc
    cases hc
    refine⟨Nat.le_refl _,fun k hk2 e=>?_⟩
    rw[T.get_upd]
    split
    · rename_i ek; subst ek; rw[hk] at e; cases e
    · exact e
  | _=>exact hl.elim
theorem aIB {id:Nat}{ob:Option Obj} (hid:nx≤id):jQ h nx (aCW h id ob) nx:=by
  cases ob with
  | none=>exact jQ.refl _ _
  | some o=>exact⟨Nat.le_refl _,(jQ.add (o:=some o) hid).2⟩
theorem aPm {C:kU} (hC:aFk C) {n:Nat}{ops:Array Oper}:∀ (l:List Oper) (s s':St),aBe P ro C n ops l s s'→jQ s.h s.nx s'.h s'.nx:=by
  intro l
  induction l with
  | nil=>intro s s' h; simp only[aBe] at h; subst h; exact jQ.refl _ _
  | cons o l ih =>
    intro s s' h
    simp only[aBe] at h
    cases hw:wanted ops s.t o with
    | false=>rw[hw] at h; obtain⟨t',h1,h2⟩:=h; exact ih ⟨t',s.h,s.nx⟩ s' h2
    | true =>
      rw[hw] at h
      obtain⟨v,h',nx',t',h1,h2,h3⟩:=h
      refine jQ.trans ?_ (ih ⟨t',h',nx'⟩ s' h3)
      unfold opR at h1
      cases hq:iN o.op with
      | true =>
        rw[hq] at h1
        have:=aGf hC h1
        exact⟨Nat.le_trans (Nat.le_succ _) this.1,fun k hk e=>this.2 k (by omega) e⟩
      | false =>
        rw[hq] at h1
        obtain⟨ob,_,rfl,rfl⟩:=h1
        have:=aIB (h:=s.h) (nx:=s.nx) (id:=s.nx) (ob:=ob) (Nat.le_refl _)
        exact⟨Nat.le_succ _,this.2⟩
theorem aPk {C:kU} (hC:aFk C) {n n0:Nat}{ops:Array Oper}:∀ (l:List Oper) (i:Nat) (ls:List (Nat × Nat)) (ms:List (Nat × T Obj × T Obj)) (s s':St),xQ P ro C n ops n0 l i ls ms s s'→n0≤s.nx→jQ s.h n0 s'.h s'.nx∧s.nx≤s'.nx:=by
  intro l
  induction l with
  | nil=>intro i ls ms s s' h hn; simp only[xQ] at h; subst h; exact⟨⟨hn,fun _ _ e=>e⟩,Nat.le_refl _⟩
  | cons o l ih =>
    intro i ls ms s s' h hn
    simp only[xQ] at h
    cases hw:wanted ops s.t o with
    | false=>rw[hw] at h; obtain⟨t',h1,h2⟩:=h; exact ih (i+1) ls ms ⟨t',s.h,s.nx⟩ s' h2 hn
    | true =>
      rw[hw] at h
      obtain⟨v,h',nx',t',h1,h2,h3⟩:=h
      unfold opR at h1
      cases hq:iN o.op with
      | true =>
        rw[hq] at h1 h3
        have m:=aGf hC h1
        obtain⟨i1,i2⟩:=ih (i+1) ls ((i,s.h,h')::ms) ⟨t',h',nx'⟩ s' h3.2 (Nat.le_trans hn m.1)
        exact⟨⟨i1.1,fun k hk e=>i1.2 k hk (m.2 k (by omega) e)⟩,Nat.le_trans m.1 i2⟩
      | false =>
        rw[hq] at h1 h3
        obtain⟨ob,_,rfl,rfl⟩:=h1
        have m:=aIB (h:=s.h) (nx:=n0) (id:=n0+i) (ob:=ob) (by omega)
        have:jQ (aCW s.h (n0+i) ob) n0 s'.h s'.nx∧s.nx≤s'.nx:=by
          simp only at h3
          split at h3
          · exact ih (i+1) _ ms ⟨t',aCW s.h (n0+i) ob,s.nx⟩ s' h3.2 hn
          · exact ih (i+1) ls ms ⟨t',aCW s.h (n0+i) ob,s.nx⟩ s' h3 hn
        exact⟨⟨this.1.1,fun k hk e=>this.1.2 k hk (m.2 k hk e)⟩,this.2⟩
theorem aGB {X:aAW} (hX:∀ n c s e s',X n c s e s'→jQ s.h s.nx s'.h s'.nx):aFk (aFz P ro X):=by
  intro f args h nx v h' nx' hc
  rcases hc with ⟨fn,body,e,s,vs,h1,h2,h3,h4,h5,h6,rfl,h7,rfl⟩ | ⟨_,_,h7,rfl⟩ | ⟨z,l,c,cs,el,_,_,h7,rfl⟩
  · exact (hX _ _ _ _ _ h4).sub h7
  · exact (jQ.refl _ _).sub h7
  · refine jQ.sub ⟨Nat.le_succ _,fun k hk e=>?_⟩ h7
    rw[T.get_upd_ne _ _ (by omega)]; exact e
theorem aOx:∀ k n c s e s',code P ro k n c s e s'→jQ s.h s.nx s'.h s'.nx:=by
  intro k
  induction k with
  | zero=>intro n c s e s' h; exact h.elim
  | succ k ih =>
    intro n c s e s' hc
    have hC:=aGB (P:=P) (ro:=ro) ih
    change aKd P ro (code P ro k) n c s e s' at hc
    cases c with
    | skip | label | ret | exit=>obtain⟨_,rfl⟩:=hc; exact jQ.refl _ _
    | seq x y =>
      rcases hc with ⟨s1,h1,h2⟩ | ⟨_,h1⟩
      · exact (ih _ _ _ _ _ h1).trans (ih _ _ _ _ _ h2)
      · exact ih _ _ _ _ _ h1
    | cond c x y=>obtain⟨v,h1,h2⟩:=hc; exact ih _ _ _ _ _ h2
    | block id b=>obtain⟨e1,h1,h2⟩:=hc; exact ih _ _ _ _ _ h1
    | loop b =>
      rcases hc with ⟨s1,hh,h1,h3,h2⟩ | ⟨_,h1⟩
      · exact ((ih _ _ _ _ _ h1).sub h3).trans (ih _ _ ⟨s1.t,hh,s1.nx⟩ _ _ h2)
      · exact ih _ _ _ _ _ h1
    | scope b=>exact ih _ _ _ _ _ hc
    | region id ops draw =>
      obtain⟨_,hreg⟩:=hc
      cases draw with
      | false=>exact aPm hC _ _ _ hreg
      | true =>
        obtain⟨_,hreg⟩:=hreg
        have:=aPk hC _ _ _ _ _ _ hreg (Nat.le_add_right _ _)
        exact this.1
    | _=>exact hc.elim
end
end V
end Go.Proofs.YtjndkdmkecpllaaGreat
noncomputable section
namespace Go.Proofs.YtjndkdmkecpllaaGreat
namespace V
section
variable {P:Program}{ro:Ro}{C:kU}{n n0:Nat}{ops:Array Oper}
def aF3 (P:Program) (ro:Ro) (C:kU) (n:Nat) (ops:Array Oper) (n0 i:Nat) (o:Oper) (S S':St) (v:Value) (ob:Option Obj):Prop :=
  match wanted ops S.t o with
  | true=>match iN o.op with
    | true=>∃ h' nx' t',opL P ro C S.t S.h S.nx o.op v h' nx'∧put n S.t o.dst v=some t'∧S'=⟨t',h',nx'⟩∧ob=none
    | false=>∃ t',kD P ro S.t S.h (n0+i) o.op=some (v,ob)∧put n S.t o.dst v=some t'∧S'=⟨t',aCW S.h (n0+i) ob,S.nx⟩
  | false=>∃ t',v=undef∧ob=none∧put n S.t o.dst undef=some t'∧S'=⟨t',S.h,S.nx⟩
structure Tab (P:Program) (ro:Ro) (C:kU) (n:Nat) (ops:Array Oper) (n0 i:Nat) (l:List Oper) (ls:List (Nat × Nat)) (ms:List (Nat × T Obj × T Obj)) (S:Nat→St) (V:Nat→Value) (OB:Nat→Option Obj):Prop where
  row:∀ j o,i≤j→l[j - i]?=some o→aF3 P ro C n ops n0 j o (S j) (S (j+1)) (V j) (OB j)
  a1:∀ q∈ls,∀ j o,i≤j→l[j - i]?=some o→wanted ops (S j).t o=true→iN o.op=true→free (bef ops) q.1 j=true→same q.2 (S j).h (S (j+1)).h
  a2:∀ q∈ms,∀ j o a,i≤j→l[j - i]?=some o→wanted ops (S j).t o=true→iN o.op=false→rdB P (S j).t o.op=some a→free (bef ops) q.1 j=true→same a q.2.1 q.2.2
  p1:∀ j1 j2 o1 o2 a,i≤j1→j1 < j2→l[j1 - i]?=some o1→l[j2 - i]?=some o2→wanted ops (S j1).t o1=true→wanted ops (S j2).t o2=true→iN o1.op=false→rdB P (S j1).t o1.op=some a→iN o2.op=true →
    free (bef ops) j1 j2=true→same a (S j2).h (S (j2+1)).h
  p2:∀ j1 j2 o1 o2 a,i≤j1→j1 < j2→l[j1 - i]?=some o1→l[j2 - i]?=some o2→wanted ops (S j1).t o1=true→wanted ops (S j2).t o2=true→iN o1.op=true→iN o2.op=false→rdB P (S j2).t o2.op=some a →
    free (bef ops) j1 j2=true→same a (S j1).h (S (j1+1)).h
theorem zB {o x:Oper}{l:List Oper}{i j:Nat} (hij:i≤j) (h:(o::l)[j - i]?=some x):(j=i∧x=o)∨(i+1≤j∧l[j - (i+1)]?=some x):=by
  rcases Nat.lt_or_eq_of_le hij with hlt | rfl
  · refine .inr ⟨hlt,?_⟩
    rw[show j - i=(j - (i+1))+1 by omega,List.getElem?_cons_succ] at h
    exact h
  · rw[Nat.sub_self] at h; simp at h; exact .inl ⟨rfl,h.symm⟩
theorem aNS:∀ (l:List Oper) (i:Nat) (ls:List (Nat × Nat)) (ms:List (Nat × T Obj × T Obj)) (s s':St),xQ P ro C n ops n0 l i ls ms s s' →
    ∃ S V OB,S i=s∧S (i+l.length)=s'∧Tab P ro C n ops n0 i l ls ms S V OB:=by
  intro l
  induction l with
  | nil =>
    intro i ls ms s s' h
    simp only[xQ] at h
    subst h
    refine⟨fun _=>s',fun _=>undef,fun _=>none,rfl,rfl,⟨?_,?_,?_,?_,?_⟩⟩
    · intro j o _ h; simp at h
    · intro q _ j o _ h; simp at h
    · intro q _ j o a _ h; simp at h
    · intro j1 j2 o1 o2 a _ _ h; simp at h
    · intro j1 j2 o1 o2 a _ _ h; simp at h
  | cons o l ih =>
    intro i ls ms s s' h
    have main:∀ (s1:St) (v:Value) (ob:Option Obj) (ls':List (Nat × Nat)) (ms':List (Nat × T Obj × T Obj)),aF3 P ro C n ops n0 i o s s1 v ob →
        xQ P ro C n ops n0 l (i+1) ls' ms' s1 s' →
        (∀ q∈ls,q∈ls')→(∀ q∈ms,q∈ms') →
        (wanted ops s.t o=true→iN o.op=true→(∀ q∈ls,free (bef ops) q.1 i=true→same q.2 s.h s1.h)∧(i,s.h,s1.h)∈ms') →
        (∀ a,wanted ops s.t o=true→iN o.op=false→rdB P s.t o.op=some a→(∀ q∈ms,free (bef ops) q.1 i=true→same a q.2.1 q.2.2)∧(i,a)∈ls') →
        ∃ S V OB,S i=s∧S (i+(o::l).length)=s'∧Tab P ro C n ops n0 i (o::l) ls ms S V OB:=by
      intro s1 v ob ls' ms' hrow hrest hls hms hloud hload
      obtain⟨S,V,OB,e1,e2,tb⟩:=ih (i+1) ls' ms' s1 s' hrest
      have hS:∀ j,i+1≤j→(if j=i then s else S j)=S j:=fun j hj=>if_neg (by omega)
      have hS0:(if i=i then s else S i)=s:=if_pos rfl
      refine⟨fun j=>if j=i then s else S j,fun j=>if j=i then v else V j,fun j=>if j=i then ob else OB j,hS0,?_,⟨?_,?_,?_,?_,?_⟩⟩
      · show (if i+(o::l).length=i then s else S (i+(o::l).length))=s'
        rw[if_neg (by simp),← e2]; congr 1; simp; omega
      · intro j x hij hx
        rcases zB hij hx with ⟨rfl,rfl⟩ | ⟨hj,hx⟩
        · simp only[if_pos rfl,if_neg (show ¬ j+1=j by omega)]
          rw[e1]; exact hrow
        · simp only[if_neg (show ¬ j=i by omega),if_neg (show ¬ j+1=i by omega)]
          exact tb.row j x hj hx
      · intro q hq j x hij hx hw hl hf
        rcases zB hij hx with ⟨rfl,rfl⟩ | ⟨hj,hx⟩
        · simp only[if_pos rfl] at hw ⊢
          simp only[if_neg (show ¬ j+1=j by omega)]
          rw[e1]
          exact (hloud hw hl).1 q hq hf
        · simp only[if_neg (show ¬ j=i by omega),if_neg (show ¬ j+1=i by omega)] at hw ⊢
          exact tb.a1 q (hls q hq) j x hj hx hw hl hf
      · intro q hq j x a hij hx hw hl ha hf
        rcases zB hij hx with ⟨rfl,rfl⟩ | ⟨hj,hx⟩
        · simp only[if_pos rfl] at hw ha
          exact (hload a hw hl ha).1 q hq hf
        · simp only[if_neg (show ¬ j=i by omega)] at hw ha
          exact tb.a2 q (hms q hq) j x a hj hx hw hl ha hf
      · intro j1 j2 x1 x2 a hij h12 hx1 hx2 hw1 hw2 hl1 ha hl2 hf
        rcases zB (by omega) hx2 with ⟨e,_⟩ | ⟨hj2,hx2'⟩
        · omega
        · simp only[if_neg (show ¬ j2=i by omega),if_neg (show ¬ j2+1=i by omega)] at hw2 ⊢
          rcases zB hij hx1 with ⟨rfl,rfl⟩ | ⟨hj1,hx1⟩
          · simp only[if_pos rfl] at hw1 ha
            exact tb.a1 (j1,a) (hload a hw1 hl1 ha).2 j2 x2 hj2 hx2' hw2 hl2 hf
          · simp only[if_neg (show ¬ j1=i by omega)] at hw1 ha
            exact tb.p1 j1 j2 x1 x2 a hj1 h12 hx1 hx2' hw1 hw2 hl1 ha hl2 hf
      · intro j1 j2 x1 x2 a hij h12 hx1 hx2 hw1 hw2 hl1 hl2 ha hf
        rcases zB (by omega) hx2 with ⟨e,_⟩ | ⟨hj2,hx2'⟩
        · omega
        · simp only[if_neg (show ¬ j2=i by omega)] at hw2 ha
          rcases zB hij hx1 with ⟨rfl,rfl⟩ | ⟨hj1,hx1⟩
          · simp only[if_pos rfl] at hw1 ⊢
            simp only[if_neg (show ¬ j1+1=j1 by omega)]
            rw[e1]
            exact tb.a2 (j1,s.h,s1.h) (hloud hw1 hl1).2 j2 x2 a hj2 hx2' hw2 hl2 ha hf
          · simp only[if_neg (show ¬ j1=i by omega),if_neg (show ¬ j1+1=i by omega)] at hw1 ⊢
            exact tb.p2 j1 j2 x1 x2 a hj1 h12 hx1 hx2' hw1 hw2 hl1 hl2 ha hf
    simp only[xQ] at h
    cases hw:wanted ops s.t o with
    | false =>
      rw[hw] at h
      obtain⟨t',h1,h2⟩:=h
      exact main ⟨t',s.h,s.nx⟩ undef none ls ms (by unfold aF3; rw[hw]; exact⟨t',rfl,rfl,h1,rfl⟩) h2 (fun _ h=>h) (fun _ h=>h) (by rw[hw]; intro h; cases h) (by rw[hw]; intro _ h; cases h)
    | true =>
      rw[hw] at h
      obtain⟨v,h',nx',t',h1,h2,h3⟩:=h
      unfold opR at h1
      cases hq:iN o.op with
      | true =>
        rw[hq] at h1 h3
        exact main ⟨t',h',nx'⟩ v none ls ((i,s.h,h')::ms) (by unfold aF3; rw[hw,hq]; exact⟨h',nx',t',h1,h2,rfl,rfl⟩) h3.2 (fun _ h=>h) (fun _ h=>List.mem_cons_of_mem _ h)
          (fun _ _=>⟨h3.1,by simp⟩) (by rw[hq]; intro _ _ h; cases h)
      | false =>
        rw[hq] at h1 h3
        obtain⟨ob,h1,rfl,rfl⟩:=h1
        have hrow:aF3 P ro C n ops n0 i o s ⟨t',aCW s.h (n0+i) ob,s.nx⟩ v ob:=by unfold aF3; rw[hw,hq]; exact⟨t',h1,h2,rfl⟩
        simp only at h3
        cases hla:rdB P s.t o.op with
        | none =>
          rw[hla] at h3
          exact main _ v ob ls ms hrow h3 (fun _ h=>h) (fun _ h=>h) (by rw[hq]; intro _ h; cases h) (by rw[hla]; intro a _ _ h; cases h)
        | some a =>
          rw[hla] at h3
          exact main _ v ob ((i,a)::ls) ms hrow h3.2 (fun _ h=>List.mem_cons_of_mem _ h) (fun _ h=>h) (by rw[hq]; intro _ h; cases h)
            (by rw[hla]; intro a' _ _ e; cases e; exact⟨h3.1,by simp⟩)
end
end V
end Go.Proofs.YtjndkdmkecpllaaGreat
noncomputable section
namespace Go.Proofs.YtjndkdmkecpllaaGreat
namespace V
def aB1 (acc:Array Nat) (o:Oper):Nat:=o.after.foldl (fun s e=>if Region.binds .any e then s ||| 2 ^ e.on ||| acc.getD e.on 0 else s) 0
def aFv:List Oper→Array Nat→Array Nat
  | [],acc=>acc
  | o::l,acc=>aFv l (acc.push (aB1 acc o))
theorem aVN (ops:Array Oper):bef ops=aFv ops.toList #[]:=by
  unfold bef Region.before
  rw[← Array.foldl_toList]
  generalize (#[]:Array Nat)=acc
  induction ops.toList generalizing acc with
  | nil=>rfl
  | cons o l ih=>rw[List.foldl_cons,ih]; rfl
theorem aKZ:∀ (l:List Oper) (acc:Array Nat) (j:Nat),j < acc.size→(aFv l acc).getD j 0=acc.getD j 0:=by
  intro l
  induction l with
  | nil=>intro acc j _; rfl
  | cons o l ih =>
    intro acc j hj
    rw[aFv,ih _ j (by simp; omega)]
    simp[Array.getElem?_push,show ¬ j=acc.size by omega]
theorem aK0 (acc:Array Nat) (o:Oper) (i:Nat) (h:(aB1 acc o).testBit i=true):∃ e∈o.after.toList,Region.binds .any e=true∧(i=e.on∨(acc.getD e.on 0).testBit i=true):=by
  unfold aB1 at h
  rw[← Array.foldl_toList] at h
  have key:∀ (l:List Edge) (s:Nat),(l.foldl (fun s e=>if Region.binds .any e then s ||| 2 ^ e.on ||| acc.getD e.on 0 else s) s).testBit i=true →
      s.testBit i=true∨∃ e∈l,Region.binds .any e=true∧(i=e.on∨(acc.getD e.on 0).testBit i=true):=by
    intro l
    induction l with
    | nil=>intro s h; exact .inl h
    | cons e l ih =>
      intro s h
      rw[List.foldl_cons] at h
      rcases ih _ h with h1 | ⟨e',h1,h2,h3⟩
      · by_cases hb:Region.binds .any e=true
        · rw[if_pos hb] at h1
          rw[Nat.testBit_or,Nat.testBit_or,Bool.or_eq_true,Bool.or_eq_true] at h1
          rcases h1 with (h1 | h1) | h1
          · exact .inl h1
          · refine .inr ⟨e,by simp,hb,.inl ?_⟩
            rw[Nat.testBit_two_pow] at h1
            exact (of_decide_eq_true h1).symm
          · exact .inr ⟨e,by simp,hb,.inr h1⟩
        · rw[if_neg hb] at h1
          exact .inl h1
      · exact .inr ⟨e',by simp[h1],h2,h3⟩
  rcases key _ _ h with h1 | h1
  · simp at h1
  · exact h1
theorem aTX:∀ (l:List Oper) (acc:Array Nat) (k:Nat) (o:Oper),l[k]?=some o→∃ acc':Array Nat,acc'.size=acc.size+k∧(aFv l acc).getD (acc.size+k) 0=aB1 acc' o∧∀ j,j < acc'.size→acc'.getD j 0=(aFv l acc).getD j 0:=by
  intro l
  induction l with
  | nil=>intro acc k o h; simp at h
  | cons x l ih =>
    intro acc k o h
    cases k with
    | zero =>
      simp at h; subst h
      refine⟨acc,rfl,?_,fun j hj=>?_⟩
      · rw[aFv,aKZ _ _ _ (by simp)]
        simp
      · rw[aFv,aKZ _ _ _ (by simp; omega)]
        simp[Array.getElem?_push,show ¬ j=acc.size by omega]
    | succ k =>
      obtain⟨acc',h1,h2,h3⟩:=ih (acc.push (aB1 acc x)) k o (by simpa using h)
      refine⟨acc',by simp at h1; omega,?_,?_⟩
      · rw[aFv]
        simp only[Array.size_push] at h2
        rw[show acc.size+(k+1)=acc.size+1+k by omega]; exact h2
      · rw[aFv]; exact h3
theorem aQ7 {ops:Array Oper}{j i:Nat}{o:Oper} (ho:ops[j]?=some o) (hb:((bef ops).getD j 0).testBit i=true) :
    ∃ e∈o.after.toList,Region.binds .any e=true∧(i=e.on∨(e.on < j∧((bef ops).getD e.on 0).testBit i=true)):=by
  rw[aVN] at hb ⊢
  obtain⟨acc',h1,h2,h3⟩:=aTX ops.toList #[] j o (by simpa using ho)
  simp at h1 h2
  rw[show (aFv ops.toList #[]).getD j 0=aB1 acc' o by simpa using h2] at hb
  obtain⟨e,he,hbind,hor⟩:=aK0 acc' o i hb
  refine⟨e,he,hbind,?_⟩
  rcases hor with h | h
  · exact .inl h
  · by_cases hlt:e.on < acc'.size
    · rw[h3 _ hlt] at h
      exact .inr ⟨by omega,h⟩
    · exfalso
      have:acc'.getD e.on 0=0:=by simp[Array.getElem?_eq_none (Nat.le_of_not_lt hlt)]
      rw[this] at h; simp at h
structure DR (P:Program) (ro:Ro) (C:kU) (n:Nat) (ops:Array Oper) (s:St) (S:Nat→St) (V:Nat→Value) (OB:Nat→Option Obj):Prop where
  row:∀ j o,ops[j]?=some o→aF3 P ro C n ops s.nx j o (S j) (S (j+1)) (V j) (OB j)
  s0:S 0=⟨s.t,s.h,s.nx+ops.size⟩
  p1:∀ j1 j2 o1 o2 a,j1 < j2→ops[j1]?=some o1→ops[j2]?=some o2→wanted ops (S j1).t o1=true→wanted ops (S j2).t o2=true→iN o1.op=false→rdB P (S j1).t o1.op=some a→iN o2.op=true →
    free (bef ops) j1 j2=true→same a (S j2).h (S (j2+1)).h
  p2:∀ j1 j2 o1 o2 a,j1 < j2→ops[j1]?=some o1→ops[j2]?=some o2→wanted ops (S j1).t o1=true→wanted ops (S j2).t o2=true→iN o1.op=true→iN o2.op=false→rdB P (S j2).t o2.op=some a →
    free (bef ops) j1 j2=true→same a (S j1).h (S (j1+1)).h
  ok:xG P ops=true
  mono:aFk C
  fresh:∀ k,s.nx≤k→s.h.get k=none
section
variable {P:Program}{ro:Ro}{C:kU}{n:Nat}{ops:Array Oper}{s:St}{S:Nat→St}{V:Nat→Value}{OB:Nat→Option Obj}
theorem DR.pair (d:DR P ro C n ops s S V OB) {i j:Nat}{oi oj:Oper} (hij:i < j) (hi:ops[i]?=some oi) (hj:ops[j]?=some oj) (hf:free (bef ops) i j=true):xR P ops oi oj=true:=by
  have h:=d.ok
  unfold xG at h
  have hjl:=(Array.getElem?_eq_some_iff.1 hj).1
  have h1:=List.all_eq_true.1 h j (List.mem_range.2 hjl)
  rw[hj] at h1
  simp only[Bool.and_eq_true] at h1
  have h2:=List.all_eq_true.1 h1.2 i (List.mem_range.2 hij)
  rw[hi] at h2
  simp only[hf] at h2
  exact h2
theorem DR.edge (d:DR P ro C n ops s S V OB) {j:Nat}{oj:Oper} (hj:ops[j]?=some oj) {e:Edge} (he:e∈oj.after.toList) (hb:Region.binds .any e=true):e.on < j:=by
  have h:=d.ok
  unfold xG at h
  have hjl:=(Array.getElem?_eq_some_iff.1 hj).1
  have h1:=List.all_eq_true.1 h j (List.mem_range.2 hjl)
  rw[hj] at h1
  simp only[Bool.and_eq_true] at h1
  have h2:=List.all_eq_true.1 h1.1 e he
  rw[hb] at h2
  simpa using h2
def yX (ops:Array Oper) (L:Nat→Bool):Prop:=∀ j o,ops[j]?=some o→L j=true→∀ e∈o.after.toList,Region.binds .any e=true→L e.on=true
theorem DR.anc (d:DR P ro C n ops s S V OB) {L:Nat→Bool} (hc:yX ops L):∀ (j:Nat) (o:Oper) (i:Nat),ops[j]?=some o→(∀ e∈o.after.toList,Region.binds .any e=true→L e.on=true)→free (bef ops) i j=false→L i=true:=by
  intro j
  induction j using Nat.strongRecOn with
  | ind j ih =>
    intro o i ho hL hf
    have hb:((bef ops).getD j 0).testBit i=true:=by simpa [free] using hf
    obtain⟨e,he,hbind,hor⟩:=aQ7 ho hb
    rcases hor with rfl | ⟨hlt,hb2⟩
    · exact hL e he hbind
    · have hjl:=(Array.getElem?_eq_some_iff.1 ho).1
      have hoe:ops[e.on]?=some ops[e.on]:=Array.getElem?_eq_getElem (by omega)
      exact ih e.on hlt _ i hoe (hc e.on _ hoe (hL e he hbind)) (by unfold free; rw[hb2]; rfl)
def fR (ops:Array Oper) (S:Nat→St) (j:Nat):Bool:=match ops[j]? with
  | some o=>wanted ops (S j).t o&&iN o.op
  | none=>false
theorem DR.quiet (d:DR P ro C n ops s S V OB) {j:Nat} (hj:j < ops.size) (hl:fR ops S j=false) (b:Nat) :
    (S (j+1)).nx=(S j).nx∧(S (j+1)).h.get b=(if b=s.nx+j∧(OB j).isSome=true then OB j else (S j).h.get b):=by
  have ho:ops[j]?=some ops[j]:=Array.getElem?_eq_getElem hj
  have hr:=d.row j _ ho
  unfold fR at hl
  rw[ho] at hl
  unfold aF3 at hr
  cases hw:wanted ops (S j).t ops[j] with
  | false =>
    rw[hw] at hr
    obtain⟨t',_,e2,_,e4⟩:=hr
    rw[e4,e2]; simp
  | true =>
    rw[hw] at hr
    simp only[hw,Bool.true_and] at hl
    rw[hl] at hr
    obtain⟨t',h1,h2,e⟩:=hr
    rw[e]
    refine⟨rfl,?_⟩
    cases hob:OB j with
    | none=>simp[aCW]
    | some o =>
      simp only[aCW,T.get_upd,Option.isSome_some,and_true]
theorem DR.loudly (d:DR P ro C n ops s S V OB) {j:Nat} (hj:j < ops.size) (hl:fR ops S j=true):jQ (S j).h (S j).nx (S (j+1)).h (S (j+1)).nx∧OB j=none:=by
  have ho:ops[j]?=some ops[j]:=Array.getElem?_eq_getElem hj
  have hr:=d.row j _ ho
  unfold fR at hl
  rw[ho] at hl
  simp at hl
  unfold aF3 at hr
  rw[hl.1,hl.2] at hr
  obtain⟨h',nx',t',h1,h2,e,e2⟩:=hr
  rw[e]
  exact⟨aGf d.mono h1,e2⟩
theorem DR.nx (d:DR P ro C n ops s S V OB):∀ j,j≤ops.size→s.nx+ops.size≤(S j).nx:=by
  intro j
  induction j with
  | zero=>intro _; rw[d.s0]; exact Nat.le_refl _
  | succ j ih =>
    intro hj
    cases hl:fR ops S j with
    | true=>exact Nat.le_trans (ih (by omega)) (d.loudly (by omega) hl).1.1
    | false=>rw[(d.quiet (by omega) hl 0).1]; exact ih (by omega)
theorem DR.gone (d:DR P ro C n ops s S V OB):∀ j,j≤ops.size→∀ k,j≤k→k < ops.size→(S j).h.get (s.nx+k)=none:=by
  intro j
  induction j with
  | zero=>intro _ k _ _; rw[d.s0]; exact d.fresh _ (by omega)
  | succ j ih =>
    intro hj k h1 h2
    have:=ih (by omega) k (by omega) h2
    cases hl:fR ops S j with
    | true=>exact (d.loudly (by omega) hl).1.2 _ (by have:=d.nx j (by omega); omega) this
    | false =>
      rw[(d.quiet (by omega) hl _).2,if_neg (by omega)]; exact this
theorem DR.range (d:DR P ro C n ops s S V OB) {b:Nat}{i:Nat}:∀ j,i≤j→j≤ops.size→(∀ q,i≤q→q < j→fR ops S q=true→(S q).h.get b=(S (q+1)).h.get b) →
    (∀ q,i≤q→q < j→b=s.nx+q→OB q=none)→(S j).h.get b=(S i).h.get b:=by
  intro j
  induction j with
  | zero=>intro h1 _ _ _; rw[Nat.le_zero.1 h1]
  | succ j ih =>
    intro h1 h2 h3 h4
    rcases Nat.lt_or_eq_of_le h1 with hlt | rfl
    · rw[← ih (by omega) (by omega) (fun q a b=>h3 q a (by omega)) (fun q a b=>h4 q a (by omega))]
      cases hl:fR ops S j with
      | true=>exact (h3 j (by omega) (by omega) hl).symm
      | false =>
        rw[(d.quiet (by omega) hl _).2,if_neg]
        rintro⟨e,hs⟩
        rw[h4 j (by omega) (by omega) e] at hs; cases hs
    · rfl
def aNk (t:T Value) (d:Option Tmp) (v:Value):T Value:=match d with
  | none=>t
  | some d=>t.upd d (some v)
def yG (ops:Array Oper) (j:Nat):Option Tmp:=(ops[j]?).bind (·.dst)
def tW (ops:Array Oper) (s:St) (V:Nat→Value) (L:Nat→Bool):Nat→T Value
  | 0=>s.t
  | m+1=>if L m=true then aNk (tW ops s V L m) (yG ops m) (V m) else tW ops s V L m
theorem aGl {m:Nat}{t t':T Value}{d:Option Tmp}{v:Value} (h:put m t d v=some t'):t'=aNk t d v:=by
  cases d with
  | none=>cases h; rfl
  | some d =>
    simp only[put] at h
    cases hb:Nat.blt d m<;>rw[hb] at h<;>cases h
    rfl
theorem yK (t:T Value) (d:Option Tmp) (v:Value) (i:Nat):(aNk t d v).get i=if d=some i then some v else t.get i:=by
  cases d with
  | none=>simp[aNk]
  | some d =>
    simp only[aNk,T.get_upd,Option.some.injEq]
    by_cases e:i=d
    · rw[if_pos e,if_pos e.symm]
    · rw[if_neg e,if_neg (Ne.symm e)]
theorem aCq {A B:Nat→Bool}{d:Tmp}:∀ m,(∀ k,k < m→yG ops k=some d→A k=B k)→(tW ops s V A m).get d=(tW ops s V B m).get d:=by
  intro m
  induction m with
  | zero=>intro _; rfl
  | succ m ih =>
    intro h
    have ih':=ih (fun k hk=>h k (by omega))
    simp only[tW]
    by_cases e:yG ops m=some d
    · have:=h m (by omega) e
      rw[this]
      split
      · rw[yK,yK,if_pos e,if_pos e]
      · exact ih'
    · split<;>split<;>(try simp only[yK,if_neg e])<;>exact ih'
theorem DR.tmp (d:DR P ro C n ops s S V OB):∀ j,j≤ops.size→(S j).t=tW ops s V (fun _=>true) j:=by
  intro j
  induction j with
  | zero=>intro _; rw[d.s0]; rfl
  | succ j ih =>
    intro hj
    have ho:ops[j]?=some ops[j]:=Array.getElem?_eq_getElem (by omega)
    have hr:=d.row j _ ho
    have hd:yG ops j=ops[j].dst:=by unfold yG; rw[ho]; rfl
    rw[show tW ops s V (fun _=>true) (j+1)=aNk (tW ops s V (fun _=>true) j) (yG ops j) (V j) from rfl,← ih (by omega),hd]
    unfold aF3 at hr
    cases hw:wanted ops (S j).t ops[j] with
    | false =>
      rw[hw] at hr
      obtain⟨t',e1,_,h2,e4⟩:=hr
      rw[e4,e1]; exact aGl h2
    | true =>
      rw[hw] at hr
      cases hl:iN ops[j].op with
      | true =>
        rw[hl] at hr
        obtain⟨h',nx',t',h1,h2,e,e2⟩:=hr
        rw[e]; exact aGl h2
      | false =>
        rw[hl] at hr
        obtain⟨t',h1,h2,e⟩:=hr
        rw[e]; exact aGl h2
theorem aQW (j:Nat):∀ m,j≤m→tW ops s V (fun k=>decide (k < j)) m=tW ops s V (fun _=>true) j:=by
  intro m
  induction m with
  | zero=>intro h; rw[Nat.le_zero.1 h]; rfl
  | succ m ih =>
    intro h
    rcases Nat.lt_or_eq_of_le h with hlt | rfl
    · simp only[tW]
      rw[if_neg (by simp; omega)]
      exact ih (by omega)
    · have key:∀ q,q≤m+1→tW ops s V (fun k=>decide (k < m+1)) q=tW ops s V (fun _=>true) q:=by
        intro q
        induction q with
        | zero=>intro _; rfl
        | succ q iq =>
          intro hq
          simp only[tW]
          rw[if_pos (by simp; omega),iq (by omega)]; rfl
      exact key _ (Nat.le_refl _)
end
end V
end Go.Proofs.YtjndkdmkecpllaaGreat
noncomputable section
namespace Go.Proofs.YtjndkdmkecpllaaGreat
namespace V
section
variable {P:Program}{ro:Ro}
theorem aBl {h h':T Obj}{a:Addr} (hb:a.spot.isSome=true→h'.get a.block=h.get a.block) (n:Nat):cellsAt ro h' a n=cellsAt ro h a n:=by
  unfold cellsAt
  cases hs:a.spot with
  | none=>rfl
  | some z=>rw[hs] at hb; simp only; rw[hb rfl]
theorem aLR {h h':T Obj}{r:Option Nat} (hb:∀ b,r=some b→h'.get b=h.get b):aLQ h' r=aLQ h r:=by
  cases r with
  | none=>rfl
  | some r=>simp only[aLQ,jY]; rw[hb r rfl]
theorem aLL {h h':T Obj}{ty:TypeId}{x k:Value}{ok:Bool} (hb:∀ b,blk x=some b→h'.get b=h.get b):aBt P h' ty x k ok=aBt P h ty x k ok:=by
  unfold aBt
  split
  · rename_i r _
    rw[aLR (fun b e=>hb b (by simp[blk,e]))]
  · rfl
theorem aL5 {t:T Value}{h h':T Obj}{aid:Nat}{op:Op} (hb:∀ b,rdB P t op=some b→h'.get b=h.get b):kD P ro t h' aid op=kD P ro t h aid op:=by
  cases op with
  | load ty x =>
    simp only[kD]
    cases hx:evl t x with
    | none=>rfl
    | some v =>
      simp only[Option.bind]
      split
      · rename_i a
        have:∀ n,cellsAt ro h' a n=cellsAt ro h a n:=aBl (fun hs=>hb _ (by
          obtain⟨z,hz⟩:=Option.isSome_iff_exists.1 hs
          simp only[rdB,aBy,hx,Option.bind,blk,hz]))
        simp only[pU,this]
      · rfl
  | lookup ty x k ok =>
    simp only[kD]
    cases hx:evl t x with
    | none=>rfl
    | some v =>
      have:∀ k,aBt P h' ty v k ok=aBt P h ty v k ok:=fun k=>aLL (fun b e=>hb b (by simp only[rdB,aBy,hx,Option.bind,e]))
      simp only[Option.bind,this]
  | convert sx dx x =>
    simp only[kD]
    cases hx:evl t x with
    | none=>rfl
    | some v =>
      simp only[Option.bind]
      unfold aEp
      split<;>try rfl
      rename_i e a l c hu _
      split<;>try rfl
      rename_i a _
      rw[aBl (fun hs=>hb _ (by
        obtain⟨z,hz⟩:=Option.isSome_iff_exists.1 hs
        simp only[rdB,aBy,hu,hx,Option.bind,blk,hz]))]
  | call c =>
    obtain⟨callee,args,ts⟩:=c
    cases callee with
    | builtin b =>
      simp only[kD]
      cases hx:aAL t args.toList with
      | none=>rfl
      | some vs =>
        simp only[Option.bind]
        have:iT P h' b ts vs=iT P h b ts vs:=by
          unfold iT
          split<;>try rfl
          rename_i x
          cases hty:ts[0]? with
          | none=>rfl
          | some ty =>
            simp only[Option.bind]
            unfold aLH
            split<;>try rfl
            rename_i r hu
            simp only[jY]
            rw[hb r (by simp only[rdB,aBy,hty,Option.bind,hu,hx,blk])]
        rw[this]
    | _=>rfl
  | makeFunc fn a b=>cases fn<;>rfl
  | makeMap mt r=>cases r<;>rfl
  | _=>rfl
theorem aF9 {N:Nat}{φ:gF}{v v':Value}{b:Nat} (hb:blk v=some b) (hv:VR N φ v v'):φ b≠none:=by
  cases hv with
  | flat h =>
    exfalso
    cases v<;>try (cases hb; done)
    case pointer a=>cases a<;>first | (cases hb; done) | (cases h; done)
    case slice a l c=>cases a<;>first | (cases hb; done) | (cases h; done)
    case map r=>cases r<;>first | (cases hb; done) | (cases h; done)
  | ptrRo h _=>simp[blk,h] at hb
  | ptrOwn h hs=>simp[blk,hs] at hb; subst hb; rw[h]; simp
  | sliceRo h _=>simp[blk,h] at hb
  | sliceOwn h hs _ _=>simp[blk,hs] at hb; subst hb; rw[h]; simp
  | sliceEnd h hs=>simp[blk,hs] at hb; subst hb; rw[h]; simp
  | sliceNo h=>simp[blk,h] at hb
  | map h=>simp[blk] at hb; subst hb; rw[h]; simp
  | _=>simp[blk] at hb
theorem aUU {N:Nat}{φ:gF}{t:T Value}{op:Op}{b:Nat}{ρ:Operand→Value} (h:rdB P t op=some b) (henv:∀ x∈op.operands,∀ v,evl t x=some v→VR N φ v (ρ x)):φ b≠none:=by
  obtain⟨v,h1,h2⟩:=aM h
  cases op with
  | load ty x=>exact aF9 h2 (henv x (by simp[Op.operands]) _ h1)
  | lookup ty x k ok=>exact aF9 h2 (henv x (by simp[Op.operands]) _ h1)
  | convert sx dx x =>
    simp only[aBy] at h1
    split at h1
    · exact aF9 h2 (henv x (by simp[Op.operands]) _ h1)
    · cases h1
  | call c =>
    obtain⟨callee,args,ts⟩:=c
    cases callee with
    | builtin bi =>
      simp only[aBy] at h1
      split at h1
      · split at h1
        · rename_i v' hx
          cases h1
          have hl:=aB3 (N:=N) (φ:=φ) (ρ:=ρ) (fun x hx=>henv x (by simp[Op.operands,Call.operands]; simpa using hx)) hx
          cases hm:args.toList.map ρ with
          | nil=>rw[hm] at hl; cases hl
          | cons y ys=>rw[hm] at hl; cases hl with
            | cons h1 _=>exact aF9 h2 h1
        · cases h1
      · cases h1
    | _=>cases h1
  | _=>cases h1
theorem aPi {t:T Value}{h:T Obj}{aid:Nat}{op:Op}{v:Value}{o:Obj} (hq:kD P ro t h aid op=some (v,some o)):makes P op=true:=by
  have key:∀ (x:Option (Value × Option Obj)),x=some (v,some o)→(∀ r,x=some r→r.2=none)→False:=by
    intro x h1 h2
    have:=h2 _ h1; cases this
  cases op with
  | alloc | box | buildSlice | makeSlice | makeMap=>rfl
  | convert sx dx x =>
    simp only[kD] at hq
    obtain⟨u,_,hq⟩:=aM hq
    unfold aEp at hq
    split at hq
    · cases hq
    · cases hq
    · rename_i hu _
      simp only[makes,hu]
    · split at hq
      · cases hq
      · obtain⟨u,_,hq⟩:=aM hq; obtain⟨u,_,hq⟩:=aM hq; cases hq
      · cases hq
    · cases hq
  | move x | assign x=>simp only[kD] at hq; obtain⟨u,_,hq⟩:=aM hq; cases hq
  | pick c a b =>
    simp only[kD] at hq
    obtain⟨u,_,hq⟩:=aM hq
    split at hq
    · obtain⟨u,_,hq⟩:=aM hq; cases hq
    · obtain⟨u,_,hq⟩:=aM hq; cases hq
    · cases hq
  | build bt ps=>simp only[kD] at hq; obtain⟨u,_,hq⟩:=aM hq; obtain⟨u,_,hq⟩:=aM hq; cases hq
  | load lt x =>
    simp only[kD] at hq
    obtain⟨u,_,hq⟩:=aM hq
    split at hq
    · obtain⟨u,_,hq⟩:=aM hq; cases hq
    · cases hq
  | nilCheck x =>
    simp only[kD] at hq
    obtain⟨u,_,hq⟩:=aM hq
    split at hq<;>cases hq
  | binOp op bt x y yt=>simp only[kD] at hq; obtain⟨u,_,hq⟩:=aM hq; obtain⟨u,_,hq⟩:=aM hq; obtain⟨u,_,hq⟩:=aM hq; cases hq
  | unOp op bt x=>simp only[kD] at hq; obtain⟨u,_,hq⟩:=aM hq; obtain⟨u,_,hq⟩:=aM hq; cases hq
  | makeFunc fn a b =>
    cases fn<;>simp only[kD] at hq<;>try (cases hq; done)
    obtain⟨u,_,hq⟩:=aM hq; obtain⟨u,_,hq⟩:=aM hq; cases hq
  | slice st x lo hi mx =>
    simp only[kD] at hq
    obtain⟨u,_,hq⟩:=aM hq; obtain⟨u,_,hq⟩:=aM hq; obtain⟨u,_,hq⟩:=aM hq; obtain⟨u,_,hq⟩:=aM hq; obtain⟨u,_,hq⟩:=aM hq
    cases hq
  | fieldAddr st x f =>
    simp only[kD] at hq
    obtain⟨u,_,hq⟩:=aM hq
    split at hq
    · obtain⟨u,_,hq⟩:=aM hq
      obtain⟨u,_,hq⟩:=aM hq
      split at hq<;>cases hq
    · cases hq
  | field ft x f =>
    simp only[kD] at hq
    obtain⟨u,_,hq⟩:=aM hq
    split at hq
    · obtain⟨u,_,hq⟩:=aM hq; obtain⟨u,_,hq⟩:=aM hq; cases hq
    · cases hq
  | indexAddr it x i=>simp only[kD] at hq; obtain⟨u,_,hq⟩:=aM hq; obtain⟨u,_,hq⟩:=aM hq; obtain⟨u,_,hq⟩:=aM hq; cases hq
  | index it x i=>simp only[kD] at hq; obtain⟨u,_,hq⟩:=aM hq; obtain⟨u,_,hq⟩:=aM hq; obtain⟨u,_,hq⟩:=aM hq; cases hq
  | lookup lt x k ok=>simp only[kD] at hq; obtain⟨u,_,hq⟩:=aM hq; obtain⟨u,_,hq⟩:=aM hq; obtain⟨u,_,hq⟩:=aM hq; cases hq
  | extract x i =>
    simp only[kD] at hq
    obtain⟨u,_,hq⟩:=aM hq
    split at hq
    · obtain⟨u,_,hq⟩:=aM hq; cases hq
    · cases hq
  | call c =>
    obtain⟨callee,args,ts⟩:=c
    cases callee<;>simp only[kD] at hq<;>try (cases hq; done)
    obtain⟨u,_,hq⟩:=aM hq; obtain⟨u,_,hq⟩:=aM hq; cases hq
  | _=>simp only[kD] at hq; cases hq
end
end V
end Go.Proofs.YtjndkdmkecpllaaGreat
noncomputable section
namespace Go.Proofs.YtjndkdmkecpllaaGreat
namespace V
section
variable {P:Program}{ro:Ro}{C:kU}{N n:Nat}{ops:Array Oper}{s:St}{S:Nat→St}{V:Nat→Value}{OB:Nat→Option Obj}{w0:World}
def hat (ops:Array Oper) (s:St) (S:Nat→St) (OB:Nat→Option Obj) (c:Nat) (L:Nat→Bool):Nat→Option Obj:=fun b =>
  if s.nx≤b∧b < s.nx+ops.size∧c≤b - s.nx∧L (b - s.nx)=true∧(OB (b - s.nx)).isSome=true then OB (b - s.nx) else (S c).h.get b
structure Inv (ro:Ro) (N n:Nat) (w0:World) (ops:Array Oper) (s:St) (S:Nat→St) (V:Nat→Value) (OB:Nat→Option Obj) (φ0:gF) (w1:World) (a0:Act) (L:Nat→Bool) (c:Nat) (φ:gF) (a:Act) (w:World):Prop where
  closed:yX ops L
  cm:c≤ops.size
  c1:c=0∨∃ q,c=q+1∧fR ops S q=true∧L q=true
  c2:∀ j,c≤j→j < ops.size→fR ops S j=true→L j=false
  sim:Sim ro N φ w0 (hat ops s S OB c L) w
  fr1:∀ k,(S c).nx≤k→φ k=none
  fr2:∀ j,j < ops.size→L j=false→φ (s.nx+j)=none
  env:EnvR N φ n (tW ops s V L ops.size) a
  defers:a.defers=a0.defers
  le:gF.le φ0 φ
  new:∀ k,k < s.nx→φ k=φ0 k
  size:w1.heap.size≤w.heap.size
  frame:∀ b,b < w1.heap.size→(∀ k B o r,s.h.get k≠none→φ0 k=some (B,o,r)→B≠b)→w.heap[b]?=w1.heap[b]?
  img:∀ k B o r,hat ops s S OB c L k≠none→φ k=some (B,o,r)→w1.heap.size≤B∨∃ k0 o0 r0,s.h.get k0≠none∧φ0 k0=some (B,o0,r0)
  os:w.os=w1.os
  tape:w.tape=w1.tape
  output:w.output=w1.output
theorem tX {j:Nat}{o:Oper} (ho:ops[j]?=some o) (h:fR ops S j=true):wanted ops (S j).t o=true∧iN o.op=true:=by
  unfold fR at h
  rw[ho] at h
  simpa using h
theorem aD2 {j:Nat} (h:fR ops S j=true):j < ops.size:=by
  unfold fR at h
  cases ho:ops[j]? with
  | none=>rw[ho] at h; cases h
  | some o=>exact (Array.getElem?_eq_some_iff.1 ho).1
variable {φ0 φ:gF}{w1 w:World}{a0 a:Act}{L:Nat→Bool}{c:Nat}
theorem Inv.k1 (d:DR P ro C n ops s S V OB) (I:Inv ro N n w0 ops s S V OB φ0 w1 a0 L c φ a w) {j:Nat} (hj:j < c) (hl:fR ops S j=true):L j=true:=by
  rcases I.c1 with rfl | ⟨q,rfl,hq,hLq⟩
  · omega
  · have hjl:=aD2 hl
    have hql:=aD2 hq
    rcases Nat.lt_or_eq_of_le (Nat.le_of_lt_succ hj) with hlt | rfl
    · have h1:ops[j]?=some ops[j]:=Array.getElem?_eq_getElem hjl
      have h2:ops[q]?=some ops[q]:=Array.getElem?_eq_getElem hql
      cases hf:free (bef ops) j q with
      | false=>exact d.anc I.closed q _ j h2 (I.closed q _ h2 hLq) hf
      | true =>
        have hp:=d.pair hlt h1 h2 hf
        unfold xR at hp
        rw[(tX h1 hl).2,(tX h2 hq).2] at hp
        simp at hp
    · exact hLq
theorem DR.obMakes (d:DR P ro C n ops s S V OB) {j:Nat} (hj:j < ops.size) (ho:(OB j).isSome=true):makes P ops[j].op=true∧fR ops S j=false:=by
  have h1:ops[j]?=some ops[j]:=Array.getElem?_eq_getElem hj
  have hr:=d.row j _ h1
  unfold aF3 at hr
  cases hw:wanted ops (S j).t ops[j] with
  | false=>rw[hw] at hr; obtain⟨_,_,e,_⟩:=hr; rw[e] at ho; cases ho
  | true =>
    rw[hw] at hr
    cases hl:iN ops[j].op with
    | true=>rw[hl] at hr; obtain⟨_,_,_,_,_,_,e⟩:=hr; rw[e] at ho; cases ho
    | false =>
      rw[hl] at hr
      obtain⟨t',hq,_⟩:=hr
      obtain⟨o,e⟩:=Option.isSome_iff_exists.1 ho
      rw[e] at hq
      exact⟨aPi hq,by unfold fR; rw[h1]; simp[hl]⟩
structure Rdy (ops:Array Oper) (L:Nat→Bool) (i:Nat) (o:Oper):Prop where
  at':ops[i]?=some o
  un:L i=false
  all:∀ e∈o.after.toList,Region.binds .any e=true→L e.on=true
variable {i:Nat}{o:Oper}
theorem Rdy.lt (r:Rdy ops L i o):i < ops.size:=(Array.getElem?_eq_some_iff.1 r.at').1
theorem Rdy.free1 (d:DR P ro C n ops s S V OB) (hc:yX ops L) (r:Rdy ops L i o) {q:Nat} (hq:L q=false):free (bef ops) q i=true:=by
  cases hf:free (bef ops) q i with
  | true=>rfl
  | false=>rw[d.anc hc i o q r.at' r.all hf] at hq; cases hq
theorem Rdy.free2 (d:DR P ro C n ops s S V OB) (hc:yX ops L) (r:Rdy ops L i o) {q:Nat}{oq:Oper} (ho:ops[q]?=some oq) (hq:L q=true):free (bef ops) i q=true:=by
  cases hf:free (bef ops) i q with
  | true=>rfl
  | false=>have:=d.anc hc q oq i ho (hc q oq ho hq) hf; rw[r.un] at this; cases this
theorem zP {x y:Oper} (h:xR P ops x y=true):x.apart ops y=true:=by
  unfold xR at h
  simp only[Bool.and_eq_true] at h
  exact h.1.2
theorem aLc {x y:Oper} (h:xR P ops x y=true) (h1:iN x.op=true) (h2:iN y.op=true):False:=by
  unfold xR at h
  rw[h1,h2] at h; simp at h
theorem aD4 {x y:Oper} (h:xR P ops x y=true) (h1:makes P x.op=true) (h2:iN y.op=true):False:=by
  unfold xR at h
  rw[h1,h2] at h; simp at h
theorem Rdy.keeps (d:DR P ro C n ops s S V OB) (hc:yX ops L) (r:Rdy ops L i o) (hw:wanted ops (S i).t o=true) (hq:iN o.op=false) {b:Nat} (hb:rdB P (S i).t o.op=some b)
    {q:Nat} (hl:fR ops S q=true) (h:(q < i∧L q=false)∨(i < q∧L q=true)):(S q).h.get b=(S (q+1)).h.get b:=by
  have hql:=aD2 hl
  have h2:ops[q]?=some ops[q]:=Array.getElem?_eq_getElem hql
  obtain⟨hw2,hl2⟩:=tX h2 hl
  rcases h with ⟨hlt,hLq⟩ | ⟨hlt,hLq⟩
  · exact (d.p2 q i _ o b hlt h2 r.at' hw2 hw hl2 hq hb (r.free1 d hc hLq)).1
  · exact (d.p1 i q o _ b hlt r.at' h2 hw hw2 hq hb hl2 (r.free2 d hc h2 hLq)).1
theorem aB5 {k:Nat} (hk:k < ops.size) (hck:c≤k) (hL:L k=true) (ho:(OB k).isSome=true):hat ops s S OB c L (s.nx+k)=OB k:=by
  unfold hat
  rw[Nat.add_sub_cancel_left,if_pos ⟨Nat.le_add_right _ _,by omega,hck,hL,ho⟩]
theorem tL {b:Nat} (h:∀ k,k < ops.size→c≤k→L k=true→(OB k).isSome=true→b≠s.nx+k):hat ops s S OB c L b=(S c).h.get b:=by
  unfold hat
  rw[if_neg]
  rintro⟨h1,h2,h3,h4,h5⟩
  exact h (b - s.nx) (by omega) h3 h4 h5 (by omega)
theorem aEJ (b:Nat):(∃ k,k < ops.size∧c≤k∧L k=true∧(OB k).isSome=true∧b=s.nx+k)∨(∀ k,k < ops.size→c≤k→L k=true→(OB k).isSome=true→b≠s.nx+k):=by
  by_cases h:∃ k,k < ops.size∧c≤k∧L k=true∧(OB k).isSome=true∧b=s.nx+k
  · exact .inl h
  · exact .inr fun k h1 h2 h3 h4 e=>h ⟨k,h1,h2,h3,h4,e⟩
theorem Inv.read (d:DR P ro C n ops s S V OB) (I:Inv ro N n w0 ops s S V OB φ0 w1 a0 L c φ a w) (r:Rdy ops L i o) (hw:wanted ops (S i).t o=true) (hq:iN o.op=false) {b:Nat} (hb:rdB P (S i).t o.op=some b)
    {x:Obj} (hx:(S i).h.get b=some x) (hφ:φ b≠none):hat ops s S OB c L b=some x:=by
  have hi:=r.lt
  rcases aEJ (ops:=ops) (s:=s) (c:=c) (L:=L) (OB:=OB) b with ⟨k,h1,h2,h3,h4,rfl⟩ | hno
  · rw[aB5 h1 h2 h3 h4]
    have hki:k < i:=by
      rcases Nat.lt_trichotomy k i with h | h | h
      · exact h
      · subst h; rw[r.un] at h3; cases h3
      · rw[d.gone i (Nat.le_of_lt hi) k (Nat.le_of_lt h) h1] at hx; cases hx
    have hk:=(d.quiet h1 (d.obMakes h1 h4).2 (s.nx+k)).2
    rw[if_pos ⟨rfl,h4⟩] at hk
    rw[← hk,← hx]
    refine (d.range i (by omega) (Nat.le_of_lt hi) ?_ ?_).symm
    · intro q g1 g2 g3
      exact r.keeps d I.closed hw hq hb g3 (.inl ⟨g2,I.c2 q (by omega) (by omega) g3⟩)
    · intro q g1 g2 e; omega
  · rw[tL hno,← hx]
    rcases Nat.le_total c i with hci | hic
    · refine (d.range i hci (Nat.le_of_lt hi) ?_ ?_).symm
      · intro q g1 g2 g3
        exact r.keeps d I.closed hw hq hb g3 (.inl ⟨g2,I.c2 q (by omega) (by omega) g3⟩)
      · intro q g1 g2 e
        cases hob:OB q with
        | none=>rfl
        | some y =>
          exfalso
          cases hLq:L q with
          | true=>exact hno q (by omega) g1 hLq (by rw[hob]; rfl) e
          | false=>rw[e,I.fr2 q (by omega) hLq] at hφ; exact hφ rfl
    · refine d.range c hic I.cm ?_ ?_
      · intro q g1 g2 g3
        have hLq:=I.k1 d g2 g3
        refine r.keeps d I.closed hw hq hb g3 (.inr ⟨?_,hLq⟩)
        rcases Nat.lt_or_eq_of_le g1 with h | h
        · exact h
        · subst h; rw[r.un] at hLq; cases hLq
      · intro q g1 g2 e
        rw[e,d.gone i (Nat.le_of_lt hi) q g1 (Nat.lt_of_lt_of_le g2 I.cm)] at hx; cases hx
theorem Rdy.tmps (d:DR P ro C n ops s S V OB) (hc:yX ops L) (r:Rdy ops L i o) {x:Tmp} (hx:x∈o.looksAt ops):(tW ops s V L ops.size).get x=(S i).t.get x:=by
  have hi:=r.lt
  rw[d.tmp i (Nat.le_of_lt hi),← aQW i ops.size (Nat.le_of_lt hi)]
  refine aCq _ fun k hk hdst=>?_
  have hok:ops[k]?=some ops[k]:=Array.getElem?_eq_getElem hk
  have hd:ops[k].dst=some x:=by unfold yG at hdst; rw[hok] at hdst; exact hdst
  rcases Nat.lt_trichotomy k i with h | h | h
  · rw[decide_eq_true h]
    cases hL:L k with
    | true=>rfl
    | false=>exact absurd hx ((Oper.apart_spec (zP (d.pair h hok r.at' (r.free1 d hc hL)))).1 x hd)
  · subst h; rw[r.un]; simp
  · rw[decide_eq_false (by omega)]
    cases hL:L k with
    | false=>rfl
    | true=>exact absurd hx ((Oper.apart_spec (zP (d.pair h r.at' hok (r.free2 d hc hok hL)))).2.2 x hd)
theorem aLM {x:Tmp} (h:Operand.tmp x∈o.op.operands):x∈o.looksAt ops:=by
  unfold Oper.looksAt
  refine List.mem_append_left _ (List.mem_filterMap.2 ⟨.tmp x,by simpa using h,rfl⟩)
theorem aPI {t t':T Value} (h:∀ x,x∈o.looksAt ops→t'.get x=t.get x):∀ x∈o.op.operands,evl t' x=evl t x:=by
  intro x hx
  cases x with
  | tmp x=>simp only[evl]; rw[h x (aLM hx)]
  | _=>rfl
theorem aKH {t t':T Value} (h:∀ x,x∈o.looksAt ops→t'.get x=t.get x):wanted ops t' o=wanted ops t o:=by
  unfold wanted
  cases hg:o.guard with
  | none=>rfl
  | some g =>
    obtain⟨j,b⟩:=g
    simp only
    cases hd:(ops[j]?).bind (·.dst) with
    | none=>rfl
    | some x =>
      have:x∈o.looksAt ops:=by
        unfold Oper.looksAt
        rw[hg]
        exact List.mem_append_right _ (by simp only; rw[hd]; simp)
      simp only[h x this]
def upL (L:Nat→Bool) (i:Nat):Nat→Bool:=fun k=>if k=i then true else L k
theorem aQU {v:Tmp}:∀ m,i < m→L i=true→yG ops i=some v→(∀ k,i < k→k < m→yG ops k=some v→L k=false)→(tW ops s V L m).get v=some (V i):=by
  intro m
  induction m with
  | zero=>intro h; omega
  | succ m ih =>
    intro h1 h2 h3 h4
    simp only[tW]
    rcases Nat.lt_or_eq_of_le (Nat.le_of_lt_succ h1) with h | rfl
    · have ih':=ih h h2 h3 (fun k a b=>h4 k a (by omega))
      by_cases e:yG ops m=some v
      · rw[h4 m h (by omega) e]; exact ih'
      · split
        · rw[yK,if_neg e]; exact ih'
        · exact ih'
    · rw[if_pos h2,yK,if_pos h3]
theorem EnvR.congr {t t':T Value} (he:EnvR N φ n t a) (h:∀ x,t'.get x=t.get x):EnvR N φ n t' a:=⟨he.size,fun i=>by rw[h]; exact he.val i⟩
theorem Rdy.puts (d:DR P ro C n ops s S V OB) (hc:yX ops L) (r:Rdy ops L i o) {v':Value} (he:EnvR N φ n (tW ops s V L ops.size) a) {t':T Value} (hp:put n (S i).t o.dst (V i)=some t')
    (hv:VR N φ (V i) v'):EnvR N φ n (tW ops s V (upL L i) ops.size) (a.put o.dst v'):=by
  have hi:=r.lt
  have hdi:yG ops i=o.dst:=by unfold yG; rw[r.at']; rfl
  have hp2:put n (tW ops s V L ops.size) o.dst (V i)=some (aNk (tW ops s V L ops.size) o.dst (V i)):=by
    cases hd:o.dst with
    | none=>rfl
    | some x =>
      rw[hd] at hp
      simp only[put] at hp ⊢
      cases hb:Nat.blt x n with
      | false=>rw[hb] at hp; cases hp
      | true=>rfl
  refine (he.put hp2 hv).congr fun x=>?_
  rw[yK]
  by_cases e:o.dst=some x
  · rw[if_pos e]
    refine aQU _ hi (by simp[upL]) (hdi.trans e) fun k h1 h2 h3=>?_
    have hok:ops[k]?=some ops[k]:=Array.getElem?_eq_getElem h2
    have hd:ops[k].dst=some x:=by unfold yG at h3; rw[hok] at h3; exact h3
    unfold upL
    rw[if_neg (by omega)]
    cases hL:L k with
    | false=>rfl
    | true=>exact absurd hd ((Oper.apart_spec (zP (d.pair h1 r.at' hok (r.free2 d hc hok hL)))).2.1 x e)
  · rw[if_neg e]
    refine aCq _ fun k hk hdst=>?_
    unfold upL
    rw[if_neg]
    rintro rfl
    exact e (hdi.symm.trans hdst)
theorem Rdy.closed (hc:yX ops L) (r:Rdy ops L i o):yX ops (upL L i):=by
  intro j oj hoj hL e he hb
  unfold upL at hL ⊢
  by_cases hj:j=i
  · subst hj
    rw[r.at'] at hoj; cases hoj
    split
    · rfl
    · exact r.all e he hb
  · rw[if_neg hj] at hL
    split
    · rfl
    · exact hc j oj hoj hL e he hb
theorem Inv.quiet0 (d:DR P ro C n ops s S V OB) (I:Inv ro N n w0 ops s S V OB φ0 w1 a0 L c φ a w) (r:Rdy ops L i o) (hl:fR ops S i=false) (hob:OB i=none) {t':T Value} (hp:put n (S i).t o.dst (V i)=some t')
    {v':Value} (hv:VR N φ (V i) v'):Inv ro N n w0 ops s S V OB φ0 w1 a0 (upL L i) c φ (a.put o.dst v') w:=by
  have hh:hat ops s S OB c (upL L i)=hat ops s S OB c L:=by
    funext b
    unfold hat upL
    by_cases e:b - s.nx=i
    · rw[e,hob]; simp
    · rw[if_neg e]
  exact {
    closed:=r.closed I.closed
    cm:=I.cm
    c1:=by
      rcases I.c1 with h | ⟨q,h1,h2,h3⟩
      · exact .inl h
      · exact .inr ⟨q,h1,h2,by unfold upL; split; rfl; exact h3⟩
    c2:=fun j h1 h2 h3=>by
      unfold upL
      rw[if_neg (by rintro rfl; rw[hl] at h3; cases h3)]
      exact I.c2 j h1 h2 h3
    sim:=by rw[hh]; exact I.sim
    fr1:=I.fr1
    fr2:=fun j h1 h2=>by
      unfold upL at h2
      by_cases e:j=i
      · rw[if_pos e] at h2; cases h2
      · rw[if_neg e] at h2; exact I.fr2 j h1 h2
    env:=r.puts d I.closed I.env hp hv
    defers:=(u7 _ _ _).trans I.defers
    le:=I.le
    new:=I.new
    size:=I.size
    frame:=I.frame
    img:=by rw[hh]; exact I.img
    os:=I.os
    tape:=I.tape
    output:=I.output }
theorem Inv.quiet1 (d:DR P ro C n ops s S V OB) (I:Inv ro N n w0 ops s S V OB φ0 w1 a0 L c φ a w) (r:Rdy ops L i o) {x x':Obj} (hob:OB i=some x) {t':T Value} (hp:put n (S i).t o.dst (V i)=some t')
    {v':Value} {rm:Nat} {w':World} (hh:w'.heap=w.heap.push x') (hos:w'.os=w.os) (ht:w'.tape=w.tape) (hout:w'.output=w.output)
    (hv:VR N (φ.add (s.nx+i) w.heap.size rm) (V i) v') (hor:OR N (φ.add (s.nx+i) w.heap.size rm) x x' 0 rm) :
    Inv ro N n w0 ops s S V OB φ0 w1 a0 (upL L i) c (φ.add (s.nx+i) w.heap.size rm) (a.put o.dst v') w':=by
  have hi:=r.lt
  have hsome:(OB i).isSome=true:=by rw[hob]; rfl
  obtain⟨hmk,hl⟩:=d.obMakes hi hsome
  have hφi:φ (s.nx+i)=none:=I.fr2 i hi r.un
  have hle:=gF.le_add (B:=w.heap.size) (r:=rm) hφi
  have hci:c≤i:=by
    rcases I.c1 with rfl | ⟨q,rfl,hq,hLq⟩
    · exact Nat.zero_le _
    · have hql:=aD2 hq
      have h2:ops[q]?=some ops[q]:=Array.getElem?_eq_getElem hql
      rcases Nat.lt_trichotomy q i with h | h | h
      · exact h
      · subst h; rw[hl] at hq; cases hq
      · exfalso
        have hoi:ops[i]=o:=by have:=r.at'; rw[Array.getElem?_eq_getElem hi] at this; exact Option.some.inj this
        exact aD4 (d.pair h r.at' h2 (r.free2 d I.closed h2 hLq)) (hoi ▸ hmk) (tX h2 hq).2
  have hH:hat ops s S OB c (upL L i)=fun b=>if b=s.nx+i then some x else hat ops s S OB c L b:=by
    funext b
    by_cases e:b=s.nx+i
    · rw[e,aB5 hi hci (by simp[upL]) hsome,hob,if_pos rfl]
    · rw[if_neg e]
      unfold hat upL
      by_cases e2:b - s.nx=i
      · rw[if_neg (by rintro⟨h,_⟩; omega),if_neg (by rintro⟨h,_⟩; omega)]
      · rw[if_neg e2]
  exact {
    closed:=r.closed I.closed
    cm:=I.cm
    c1:=by
      rcases I.c1 with h | ⟨q,h1,h2,h3⟩
      · exact .inl h
      · exact .inr ⟨q,h1,h2,by unfold upL; split; rfl; exact h3⟩
    c2:=fun j h1 h2 h3=>by
      unfold upL
      rw[if_neg (by rintro rfl; rw[hl] at h3; cases h3)]
      exact I.c2 j h1 h2 h3
    sim:=by rw[hH]; exact I.sim.alloc hφi hh hor
    fr1:=fun k hk=>by
      have:=d.nx c I.cm
      rw[gF.add_ne (by omega)]; exact I.fr1 k hk
    fr2:=fun j h1 h2=>by
      unfold upL at h2
      by_cases e:j=i
      · rw[if_pos e] at h2; cases h2
      · rw[if_neg e] at h2
        rw[gF.add_ne (by omega)]; exact I.fr2 j h1 h2
    env:=r.puts d I.closed (I.env.mono hle) hp hv
    defers:=(u7 _ _ _).trans I.defers
    le:=gF.le_trans I.le hle
    new:=fun k hk=>by rw[gF.add_ne (by omega)]; exact I.new k hk
    size:=by rw[hh,Array.size_push]; exact Nat.le_succ_of_le I.size
    frame:=fun b hb hn=>by
      rw[hh,Array.getElem?_push,if_neg (by have:=I.size; omega)]
      exact I.frame b hb hn
    img:=fun k B o r hk hφ=>by
      rw[hH] at hk
      by_cases e:k=s.nx+i
      · subst e; rw[gF.add_same] at hφ; cases hφ; exact .inl I.size
      · rw[gF.add_ne e] at hφ
        simp only[if_neg e] at hk
        exact I.img k B o r hk hφ
    os:=hos.trans I.os
    tape:=ht.trans I.tape
    output:=hout.trans I.output }
theorem Inv.ahead (d:DR P ro C n ops s S V OB) (I:Inv ro N n w0 ops s S V OB φ0 w1 a0 L c φ a w) (r:Rdy ops L i o) (hl:fR ops S i=true) :
    c≤i∧(∀ b x,(S i).h.get b=some x→hat ops s S OB c L b=some x)∧(S c).nx≤(S i).nx:=by
  have hi:=r.lt
  have hci:c≤i:=by
    rcases Nat.lt_or_ge i c with h | h
    · have:=I.k1 d h hl; rw[r.un] at this; cases this
    · exact h
  have hloud:=(tX r.at' hl).2
  have hno:∀ q,c≤q→q < i→fR ops S q=false:=by
    intro q h1 h2
    cases hq:fR ops S q with
    | false=>rfl
    | true =>
      exfalso
      have hql:=aD2 hq
      have h3:ops[q]?=some ops[q]:=Array.getElem?_eq_getElem hql
      have hu:=I.c2 q h1 (by omega) hq
      exact aLc (d.pair h2 h3 r.at' (r.free1 d I.closed hu)) (tX h3 hq).2 hloud
  have hmk:∀ q,q < i→(OB q).isSome=true→L q=true:=by
    intro q h1 h2
    have hql:q < ops.size:=by omega
    have h3:ops[q]?=some ops[q]:=Array.getElem?_eq_getElem hql
    cases hLq:L q with
    | true=>rfl
    | false=>exact (aD4 (d.pair h1 h3 r.at' (r.free1 d I.closed hLq)) (d.obMakes hql h2).1 hloud).elim
  refine⟨hci,fun b x hx=>?_,?_⟩
  · by_cases hk:∃ k,c≤k∧k < i∧b=s.nx+k∧(OB k).isSome=true
    · obtain⟨k,h1,h2,rfl,h4⟩:=hk
      rw[aB5 (by omega) h1 (hmk k h2 h4) h4]
      have hkk:=(d.quiet (show k < ops.size by omega) (d.obMakes (by omega) h4).2 (s.nx+k)).2
      rw[if_pos ⟨rfl,h4⟩] at hkk
      rw[← hkk,← hx]
      refine (d.range i (by omega) (Nat.le_of_lt hi) ?_ ?_).symm
      · intro q g1 g2 g3; rw[hno q (by omega) g2] at g3; cases g3
      · intro q g1 g2 e; omega
    · have hr:(S i).h.get b=(S c).h.get b:=by
        refine d.range i hci (Nat.le_of_lt hi) ?_ ?_
        · intro q g1 g2 g3; rw[hno q g1 g2] at g3; cases g3
        · intro q g1 g2 e
          cases hob:OB q with
          | none=>rfl
          | some y=>exact (hk ⟨q,g1,g2,e,by rw[hob]; rfl⟩).elim
      rw[tL,← hr,hx]
      rintro k h1 h2 h3 h4 rfl
      rcases Nat.lt_or_ge k i with h | h
      · exact hk ⟨k,h2,h,rfl,h4⟩
      · rw[d.gone i (Nat.le_of_lt hi) k h h1] at hx; cases hx
  · have key:∀ j,c≤j→j≤i→(S c).nx=(S j).nx:=by
      intro j
      induction j with
      | zero=>intro h _; rw[Nat.le_zero.1 h]
      | succ j ih =>
        intro h1 h2
        rcases Nat.lt_or_eq_of_le h1 with h | rfl
        · rw[(d.quiet (by omega) (hno j (by omega) (by omega)) 0).1]; exact ih (by omega) (by omega)
        · rfl
    exact Nat.le_of_eq (key i hci (Nat.le_refl _))
theorem Inv.loud1 (d:DR P ro C n ops s S V OB) (I:Inv ro N n w0 ops s S V OB φ0 w1 a0 L c φ a w) (r:Rdy ops L i o) (hl:fR ops S i=true) {t':T Value} (hp:put n (S i).t o.dst (V i)=some t')
    {v':Value} {w':World} {φ':gF} (st:Step ro N w0 φ (S i).h (S i).nx w φ' (S (i+1)).h (S (i+1)).nx w') (hv:VR N φ' (V i) v') :
    Inv ro N n w0 ops s S V OB φ0 w1 a0 (upL L i) (i+1) φ' (a.put o.dst v') w':=by
  have hi:=r.lt
  obtain⟨hci,hsub,hnx⟩:=I.ahead d r hl
  have hnxi:=d.nx i (Nat.le_of_lt hi)
  have hext:∀ k,k < ops.size→i+1≤k→upL L i k=true→(OB k).isSome=true→hat ops s S OB c L (s.nx+k)=OB k∧(S i).h.get (s.nx+k)=none∧φ' (s.nx+k)=φ (s.nx+k):=by
    intro k h1 h2 h3 h4
    unfold upL at h3
    rw[if_neg (by omega)] at h3
    exact⟨aB5 h1 (by omega) h3 h4,d.gone i (Nat.le_of_lt hi) k (by omega) h1,st.new _ (by omega)⟩
  have hin:∀ k,(S i).h.get k≠none→hat ops s S OB c L k≠none:=by
    intro k hk e
    cases hx:(S i).h.get k with
    | none=>exact hk hx
    | some x=>rw[hsub k x hx] at e; cases e
  have hdis:∀ k k' B b r B' b' r',k < ops.size→i+1≤k→upL L i k=true→(OB k).isSome=true→(S (i+1)).h.get k'≠none→φ' (s.nx+k)=some (B,b,r)→φ' k'=some (B',b',r')→B≠B':=by
    intro k k' B b r B' b' r' h1 h2 h3 h4 h5 h6 h7 e
    obtain⟨g1,g2,g3⟩:=hext k h1 h2 h3 h4
    rw[g3] at h6
    have hd:=I.sim.dom _ _ _ _ h6
    rcases st.img k' B' b' r' h5 h7 with h | ⟨k0,o0,r0,q1,q2⟩
    · omega
    · refine I.sim.inj (s.nx+k) k0 B b r B' o0 r0 ?_ (hin k0 q1) h6 q2 ?_ e
      · rw[g1]; intro e; rw[e] at h4; cases h4
      · rintro rfl; exact q1 g2
  have hcs:=fun b=>aEJ (ops:=ops) (s:=s) (c:=i+1) (L:=upL L i) (OB:=OB) b
  exact {
    closed:=r.closed I.closed
    cm:=hi
    c1:=.inr ⟨i,rfl,hl,by simp[upL]⟩
    c2:=fun j h1 h2 h3=>by
      unfold upL
      rw[if_neg (by omega)]
      exact I.c2 j (by omega) h2 h3
    sim:={
      n:=st.ss.sim.n
      le:=st.ss.sim.le
      old:=st.ss.sim.old
      dom:=st.ss.sim.dom
      inj:=fun k k' B b r B' b' r' hk hk' e1 e2 hne=>by
        rcases hcs k with ⟨j,a1,a2,a3,a4,rfl⟩ | hk0
        · rcases hcs k' with ⟨j',b1,b2,b3,b4,rfl⟩ | hk0'
          · obtain⟨g1,_,g3⟩:=hext j a1 a2 a3 a4
            obtain⟨g1',_,g3'⟩:=hext j' b1 b2 b3 b4
            rw[g3] at e1; rw[g3'] at e2
            refine I.sim.inj _ _ _ _ _ _ _ _ ?_ ?_ e1 e2 hne
            · rw[g1]; intro e; rw[e] at a4; cases a4
            · rw[g1']; intro e; rw[e] at b4; cases b4
          · rw[tL hk0'] at hk'
            exact hdis j k' B b r B' b' r' a1 a2 a3 a4 hk' e1 e2
        · rw[tL hk0] at hk
          rcases hcs k' with ⟨j',b1,b2,b3,b4,rfl⟩ | hk0'
          · exact (hdis j' k B' b' r' B b r b1 b2 b3 b4 hk e2 e1).symm
          · rw[tL hk0'] at hk'
            exact st.ss.sim.inj k k' B b r B' b' r' hk hk' e1 e2 hne
      own:=fun k x hx=>by
        rcases hcs k with ⟨j,a1,a2,a3,a4,rfl⟩ | hk0
        · obtain⟨g1,g2,g3⟩:=hext j a1 a2 a3 a4
          rw[aB5 a1 a2 a3 a4,← g1] at hx
          obtain⟨B,b,r,x',q1,q2,q3⟩:=I.sim.own _ x hx
          refine⟨B,b,r,x',g3.trans q1,?_,q3.mono st.le⟩
          rw[st.frame B (I.sim.dom _ _ _ _ q1).2,q2]
          intro k0 B0 o0 r0 p1 p2 e
          subst e
          refine I.sim.inj (s.nx+j) k0 B0 b r B0 o0 r0 (by rw[hx]; simp) (hin k0 p1) q1 p2 ?_ rfl
          rintro rfl; exact p1 g2
        · rw[tL hk0] at hx
          exact st.ss.sim.own k x hx
      ro:=st.ss.sim.ro }
    fr1:=st.ss.fresh
    fr2:=fun j h1 h2=>by
      rw[st.new _ (by omega)]
      unfold upL at h2
      by_cases e:j=i
      · rw[if_pos e] at h2; cases h2
      · rw[if_neg e] at h2; exact I.fr2 j h1 h2
    env:=r.puts d I.closed (I.env.mono st.le) hp hv
    defers:=(u7 _ _ _).trans I.defers
    le:=gF.le_trans I.le st.le
    new:=fun k hk=>(st.new k (by omega)).trans (I.new k hk)
    size:=Nat.le_trans I.size st.size
    frame:=fun b hb hn=>by
      rw[st.frame b (by have:=I.size; omega),I.frame b hb hn]
      intro k B o r hk hφ e
      subst e
      rcases I.img k B o r (hin k hk) hφ with h | ⟨k0,o0,r0,g1,g2⟩
      · omega
      · exact hn k0 B o0 r0 g1 g2 rfl
    img:=fun k B b r hk hφ=>by
      rcases hcs k with ⟨j,a1,a2,a3,a4,rfl⟩ | hk0
      · obtain⟨g1,g2,g3⟩:=hext j a1 a2 a3 a4
        rw[g3] at hφ
        exact I.img _ B b r (by rw[g1]; intro e; rw[e] at a4; cases a4) hφ
      · rw[tL hk0] at hk
        rcases st.img k B b r hk hφ with h | ⟨k0,o0,r0,g1,g2⟩
        · exact .inl (Nat.le_trans I.size h)
        · exact I.img k0 B o0 r0 (hin k0 g1) g2
    os:=st.os.trans I.os
    tape:=st.tape.trans I.tape
    output:=st.output.trans I.output }
theorem Inv.take (hz:gC P=true) (hn:mZ P=true) (hC:yW P ro N w0 C) (d:DR P ro C n ops s S V OB) (I:Inv ro N n w0 ops s S V OB φ0 w1 a0 L c φ a w) (r:Rdy ops L i o) {Q:Exit→Act→World→Prop}{K:Act→World→Prop}
    (hK:∀ a' w' φ' c',Inv ro N n w0 ops s S V OB φ0 w1 a0 (upL L i) c' φ' a' w'→K a' w'):wpOp P ops Q i K a w:=by
  have hi:=r.lt
  have hrow:=d.row i o r.at'
  have htm:=fun x=>r.tmps d I.closed (x:=x)
  have hwant:Region.wanted o (Go.yielded ops a.tmps)=wanted ops (S i).t o:=(I.env.wanted ops o).trans (aKH htm)
  have henv:∀ x∈o.op.operands,∀ v,evl (S i).t x=some v→VR N φ v (a.eval x):=fun x hx v hv=>I.env.evl (by rw[aPI htm x hx]; exact hv)
  unfold wpOp
  simp only[r.at',hwant]
  unfold aF3 at hrow
  cases hw:wanted ops (S i).t o with
  | false =>
    rw[hw] at hrow
    obtain⟨t',e1,e2,h1,e3⟩:=hrow
    simp only[Bool.false_eq_true,if_false]
    exact hK _ _ _ _ (I.quiet0 d r (by unfold fR; rw[r.at']; simp[hw]) e2 (by rw[e1]; exact h1) (by rw[e1]; exact VR.undef))
  | true =>
    rw[hw] at hrow
    simp only[if_true]
    left
    cases hl:iN o.op with
    | true =>
      rw[hl] at hrow
      obtain⟨h',nx',t',h1,h2,e1,e2⟩:=hrow
      have hla:fR ops S i=true:=by unfold fR; rw[r.at']; simp[hw,hl]
      obtain⟨hci,hsub,hnx⟩:=I.ahead d r hla
      refine aSF hz hn hC ⟨I.sim.sub hsub,fun k hk=>I.fr1 k (by omega)⟩ henv h1 ?_
      intro v' w' φ' g1 g2
      refine hK _ _ _ _ (I.loud1 d r hla h2 ?_ g2)
      rw[e1]; exact g1
    | false =>
      rw[hl] at hrow
      obtain⟨t',h1,h2,e1⟩:=hrow
      have hla:fR ops S i=false:=by unfold fR; rw[r.at']; simp[hl]
      have haid:φ (s.nx+i)=none:=I.fr2 i hi r.un
      obtain⟨h0,q1,q2⟩:∃ h0:T Obj,kD P ro (S i).t h0 (s.nx+i) o.op=some (V i,OB i)∧∀ k x,h0.get k=some x→hat ops s S OB c L k=some x:=by
        cases hb:rdB P (S i).t o.op with
        | none =>
          refine⟨.e,?_,fun k x hx=>by rw[T.get_e] at hx; cases hx⟩
          rw[aL5 (h:=(S i).h) (fun b e=>by rw[hb] at e; cases e)]; exact h1
        | some b =>
          refine⟨T.e.upd b ((S i).h.get b),?_,fun k x hx=>?_⟩
          · rw[aL5 (h:=(S i).h) (fun b' e=>?_)]; exact h1
            rw[hb] at e; cases e
            rw[T.get_upd,if_pos rfl]
          · rw[T.get_upd] at hx
            by_cases e:k=b
            · subst e
              rw[if_pos rfl] at hx
              exact I.read d r hw hl hb hx (aUU hb henv)
            · rw[if_neg e,T.get_e] at hx; cases hx
      refine aSG hz I.sim q2 haid henv q1 ?_ ?_
      · intro hob v' hv
        exact hK _ _ _ _ (I.quiet0 d r hla hob h2 hv)
      · intro x hob x' rm v' w' e1 e2 e3 e4 g1 g2
        exact hK _ _ _ _ (I.quiet1 d r hob h2 e1 e2 e3 e4 g1 g2)
theorem aOL {l:Array Bool}{i:Nat} (h:l.getD i true=false):i < l.size∧l.getD i false=false:=by
  by_cases hi:i < l.size
  · simp[hi] at h ⊢; exact h
  · simp[Nat.le_of_not_lt hi] at h
theorem aUo {l:Array Bool}{i:Nat} (hi:i < l.size):(fun k=>(l.setIfInBounds i true).getD k false)=upL (fun k=>l.getD k false) i:=by
  funext k
  unfold upL
  by_cases e:k=i
  · subst e; simp[hi]
  · rw[if_neg e,getD_set_ne false (Ne.symm e)]
theorem count_set {l:Array Bool}{i:Nat} (hi:i < l.size) (h:l.getD i false=false):(l.setIfInBounds i true).toList.count false+1=l.toList.count false:=by
  obtain⟨l⟩:=l
  simp at hi h ⊢
  rw[List.getElem?_eq_getElem hi] at h
  simp at h
  rw[List.count_set hi]
  simp[h]
  have:0 < l.count false:=List.count_pos_iff.2 (by rw[← h]; exact List.getElem_mem hi)
  omega
theorem Inv.every (hz:gC P=true) (hn:mZ P=true) (hC:yW P ro N w0 C) (d:DR P ro C n ops s S V OB) {Q:Exit→Act→World→Prop}
    (hQ:∀ a' w' φ' c' L',(∀ j,j < ops.size→L' j=true)→Inv ro N n w0 ops s S V OB φ0 w1 a0 L' c' φ' a' w'→Q .normal a' w') :
    ∀ (fuel:Nat) (listed:Array Bool),listed.size=ops.size→∀ (c:Nat) (φ:gF) (a:Act) (w:World),Inv ro N n w0 ops s S V OB φ0 w1 a0 (fun k=>listed.getD k false) c φ a w →
      (listed.toList.count false≤fuel)→wpAny P .any ops Q fuel listed a w:=by
  have hend:∀ (listed:Array Bool),listed.size=ops.size→∀ (c:Nat) (φ:gF) (a:Act) (w:World),Inv ro N n w0 ops s S V OB φ0 w1 a0 (fun k=>listed.getD k false) c φ a w →
      Region.ready .any ops listed=[]→Q .normal a w:=by
    intro listed hs c φ a w I hr
    have hall:∀ j,j < ops.size→listed.getD j false=true:=by
      intro j
      induction j using Nat.strongRecOn with
      | ind j ih =>
        intro hj
        cases hL:listed.getD j false with
        | true=>rfl
        | false =>
          exfalso
          have ho:ops[j]?=some ops[j]:=Array.getElem?_eq_getElem hj
          have:j∈Region.ready .any ops listed:=by
            rw[mem_ready]
            refine⟨?_,ops[j],ho,fun e he hb=>?_⟩
            · simp[show j < listed.size by omega] at hL ⊢; exact hL
            · have hlt:=d.edge ho (by simpa using he) hb
              exact ih _ hlt (by omega)
          rw[hr] at this; cases this
    exact hQ a w φ c _ hall I
  intro fuel
  induction fuel with
  | zero =>
    intro listed hs c φ a w I hc
    have hr:Region.ready .any ops listed=[]:=by
      cases hq:Region.ready .any ops listed with
      | nil=>rfl
      | cons j js =>
        exfalso
        have hj:j∈Region.ready .any ops listed:=by rw[hq]; simp
        rw[mem_ready] at hj
        obtain⟨h1,h2⟩:=aOL hj.1
        have:=count_set h1 h2
        omega
    exact⟨hr,hend listed hs c φ a w I hr⟩
  | succ fuel ih =>
    intro listed hs c φ a w I hc
    refine⟨hend listed hs c φ a w I,fun i hi=>?_⟩
    rw[mem_ready] at hi
    obtain⟨h0,o,ho,hall⟩:=hi
    obtain⟨h1,h2⟩:=aOL h0
    have r:Rdy ops (fun k=>listed.getD k false) i o:=⟨ho,h2,fun e he hb=>hall e (by simpa using he) hb⟩
    refine I.take hz hn hC d r (Q:=Q) ?_
    intro a' w' φ' c' I'
    rw[← aUo h1] at I'
    refine ih _ (by simp[hs]) c' φ' a' w' I' ?_
    have:=count_set h1 h2
    omega
theorem aQV:∀ m,tW ops s V (fun _=>false) m=s.t:=by
  intro m
  induction m with
  | zero=>rfl
  | succ m ih=>simp only[tW]; rw[if_neg (by simp)]; exact ih
theorem aQp (hz:gC P=true) (hn:mZ P=true) (hm:P.follows .mixedOrders=true) {C:kU} (hC:yW P ro N w0 C) (hmono:aFk C) {ops:Array Oper} (hd:xG P ops=true) {Q:Exit→Act→World→Prop}
    {s s':St} (hs:SS ro N w0 φ s.h s.nx w) (he:EnvR N φ n s.t a) (h:xQ P ro C n ops s.nx ops.toList 0 [] [] ⟨s.t,s.h,s.nx+ops.size⟩ s')
    (hQ:∀ a' w' φ',Step ro N w0 φ s.h s.nx w φ' s'.h s'.nx w'→EnvR N φ' n s'.t a'→a'.defers=a.defers→Q .normal a' w'):wpAny P .any ops Q ops.size (Array.replicate ops.size false) a { w with drawn:=w.drawn+1 }:=by
  obtain⟨S,V,OB,e0,e1,tb⟩:=aNS ops.toList 0 [] [] _ _ h
  rw[Nat.zero_add] at e1
  simp at e1
  have at0:∀ {j o},ops[j]?=some o→ops.toList[j - 0]?=some o:=fun h=>by simpa using h
  have d:DR P ro C n ops s S V OB:={
    row:=fun j o ho=>tb.row j o (Nat.zero_le _) (at0 ho)
    s0:=e0
    p1:=fun j1 j2 o1 o2 a h1 h2 h3=>tb.p1 j1 j2 o1 o2 a (Nat.zero_le _) h1 (at0 h2) (at0 h3)
    p2:=fun j1 j2 o1 o2 a h1 h2 h3=>tb.p2 j1 j2 o1 o2 a (Nat.zero_le _) h1 (at0 h2) (at0 h3)
    ok:=hd
    mono:=hmono
    fresh:=fun k hk=>by
      cases hx:s.h.get k with
      | none=>rfl
      | some x =>
        obtain⟨B,b,r,o',g1,_⟩:=hs.sim.own k x hx
        rw[hs.fresh k hk] at g1; cases g1 }
  have hrep:(fun k=>(Array.replicate ops.size false).getD k false)=fun _=>false:=by
    funext k
    simp only[Array.getD_eq_getD_getElem?,Array.getElem?_replicate]
    split<;>rfl
  have h0:hat ops s S OB 0 (fun _=>false)=s.h.get:=by
    funext b
    rw[tL (by intro k _ _ h; cases h),e0]
  refine Inv.every (φ0:=φ) (w1:=w) (a0:=a) hz hn hC d ?_ ops.size _ (by simp) 0 φ a { w with drawn:=w.drawn+1 } ?_ ?_
  · intro a' w' φ' c' L' hall I
    have hH:hat ops s S OB c' L'=s'.h.get:=by
      funext b
      have hlast:fR ops S=fR ops S:=rfl
      have hnl:∀ q,c'≤q→q < ops.size→fR ops S q=false:=fun q h1 h2=>by
        cases hq:fR ops S q with
        | false=>rfl
        | true=>have:=I.c2 q h1 h2 hq; rw[hall q h2] at this; cases this
      rcases aEJ (ops:=ops) (s:=s) (c:=c') (L:=L') (OB:=OB) b with ⟨k,h1,h2,h3,h4,rfl⟩ | hno
      · rw[aB5 h1 h2 h3 h4]
        have hk:=(d.quiet h1 (hnl k h2 h1) (s.nx+k)).2
        rw[if_pos ⟨rfl,h4⟩] at hk
        rw[← hk,← e1]
        refine (d.range ops.size (by omega) (Nat.le_refl _) ?_ ?_).symm
        · intro q g1 g2 g3; rw[hnl q (by omega) g2] at g3; cases g3
        · intro q g1 g2 e; omega
      · rw[tL hno,← e1]
        refine (d.range ops.size I.cm (Nat.le_refl _) ?_ ?_).symm
        · intro q g1 g2 g3; rw[hnl q g1 g2] at g3; cases g3
        · intro q g1 g2 e
          cases hob:OB q with
          | none=>rfl
          | some y=>exact (hno q g2 g1 (hall q g2) (by rw[hob]; rfl) e).elim
    have hnx:(S c').nx≤s'.nx:=by
      rw[← e1]
      have key:∀ j,c'≤j→j≤ops.size→(S c').nx≤(S j).nx:=by
        intro j
        induction j with
        | zero=>intro h _; rw[Nat.le_zero.1 h]; exact Nat.le_refl _
        | succ j ih =>
          intro h1 h2
          rcases Nat.lt_or_eq_of_le h1 with h | rfl
          · refine Nat.le_trans (ih (by omega) (by omega)) ?_
            cases hl:fR ops S j with
            | true=>exact (d.loudly (by omega) hl).1.1
            | false=>exact Nat.le_of_eq (d.quiet (by omega) hl 0).1.symm
          · exact Nat.le_refl _
      exact key _ I.cm (Nat.le_refl _)
    have hup:s.nx≤s'.nx:=by
      have:=d.nx ops.size (Nat.le_refl _)
      rw[e1] at this; omega
    refine hQ a' w' φ' {
      le:=I.le
      ss:=⟨by rw[← hH]; exact I.sim,fun k hk=>I.fr1 k (by omega)⟩
      up:=hup
      new:=I.new
      size:=I.size
      frame:=I.frame
      img:=fun k B o r hk hφ=>I.img k B o r (by rw[hH]; exact hk) hφ
      os:=I.os
      tape:=I.tape
      output:=I.output } (I.env.congr fun x=>?_) I.defers
    rw[← e1,d.tmp _ (Nat.le_refl _)]
    exact (aCq _ fun k hk _=>hall k hk).symm
  · rw[hrep]
    exact {
      closed:=by intro j o _ h; cases h
      cm:=Nat.zero_le _
      c1:=.inl rfl
      c2:=fun _ _ _ _=>rfl
      sim:=by
        rw[h0]
        exact { n:=hs.sim.n,le:=hs.sim.le,old:=hs.sim.old,dom:=hs.sim.dom,inj:=hs.sim.inj,own:=hs.sim.own,ro:=hs.sim.ro }
      fr1:=fun k hk=>by rw[e0] at hk; exact hs.fresh k (by simp only at hk; omega)
      fr2:=fun j _ _=>hs.fresh _ (Nat.le_add_right _ _)
      env:=by rw[aQV]; exact he
      defers:=rfl
      le:=gF.le_refl _
      new:=fun _ _=>rfl
      size:=Nat.le_refl _
      frame:=fun _ _ _=>rfl
      img:=fun k B o r hk hφ=>.inr ⟨k,o,r,by rw[h0] at hk; exact hk,hφ⟩
      os:=rfl
      tape:=rfl
      output:=rfl }
  · exact Nat.le_trans List.count_le_length (by simp)
theorem aT5 (hz:gC P=true) (hn:mZ P=true) (hm:P.follows .mixedOrders=true) {C:kU} (hC:yW P ro N w0 C) (hmono:aFk C) {id:Nat}{ops:Array Oper} (hd:xG P ops=true) {Q:Exit→Act→World→Prop}
    {s s':St} (hs:SS ro N w0 φ s.h s.nx w) (he:EnvR N φ n s.t a) (h:xQ P ro C n ops s.nx ops.toList 0 [] [] ⟨s.t,s.h,s.nx+ops.size⟩ s')
    (hQ:∀ a' w' φ',Step ro N w0 φ s.h s.nx w φ' s'.h s'.nx w'→EnvR N φ' n s'.t a'→a'.defers=a.defers→Q .normal a' w'):(Code.region id ops true).wp P Q a w:=wp_region_any hm (aQp hz hn hm hC hmono hd hs he h hQ)
end
end V
end Go.Proofs.YtjndkdmkecpllaaGreat
noncomputable section
namespace Go.Proofs.YtjndkdmkecpllaaGreat
namespace V
def ExR:Ex→Exit→Prop
  | .normal,.normal=>True
  | .exit i,.exit j=>i=j
  | .ret,.ret=>True
  | _,_=>False
section
variable {P:Program}{ro:Ro}{N n:Nat}{φ:gF}{w0 w:World}{h h':T Obj}{nx nx':Nat}{t:T Value}{a:Act}
theorem aGI:∀ (vs:List Value) (k:Nat) (t:T Value) (i:Nat),(aA6 vs k t).get i=if k≤i∧i < k+vs.length then vs[i - k]? else t.get i:=by
  intro vs
  induction vs with
  | nil=>intro k t i; simp[aA6]; intro h1 h2; omega
  | cons v vs ih =>
    intro k t i
    rw[aA6,ih,T.get_upd,List.length_cons]
    by_cases h1:k+1≤i∧i < k+1+vs.length
    · rw[if_pos h1,if_pos (by omega),show i - k=(i - (k+1))+1 by omega,List.getElem?_cons_succ]
    · rw[if_neg h1]
      by_cases h2:i=k
      · subst h2; rw[if_pos rfl,if_pos (by omega),Nat.sub_self]; rfl
      · rw[if_neg h2,if_neg (by omega)]
theorem aPG {args:List Value}{args':Array Value} (hl:LR N φ args args'.toList) (hle:args.length≤n) :
    EnvR N φ n (aA6 args 0 .e) { tmps:=args'++Array.replicate (n - args'.size) undef,defers:=[] }:=by
  have hlen:args.length=args'.size:=by simpa using hl.length
  refine⟨by simp; omega,fun i=>?_⟩
  rw[aGI]
  by_cases hi:i < args.length
  · rw[if_pos (by omega),Nat.sub_zero]
    obtain⟨y,hy,hv⟩:=hl.some (List.getElem?_eq_getElem hi)
    rw[List.getElem?_eq_getElem hi]
    have hi':i < args'.size:=by omega
    have:(args'++Array.replicate (n - args'.size) undef).getD i undef=y:=by
      simp[Array.getElem?_append,hi']
      have:args'.toList[i]?=some y:=hy
      simp[hi'] at this
      exact this
    show VR N φ _ ((args'++Array.replicate (n - args'.size) undef).getD i undef)
    rw[this]; exact hv
  · rw[if_neg (by omega),T.get_e]
    have:(args'++Array.replicate (n - args'.size) undef).getD i undef=undef:=by
      have hi':¬ i < args'.size:=by omega
      simp[Array.getElem?_append,hi']
      by_cases hj:i - args'.size < n - args'.size
      · simp[Array.getElem?_replicate,hj]
      · simp[Array.getElem?_replicate,hj]
    show VR N φ _ ((args'++Array.replicate (n - args'.size) undef).getD i undef)
    rw[this]; exact VR.undef
def rs1 (tmps:Array Value):ResultVar→Sem Value
  | .tmp t=>pure (tmps.getD t undef)
  | .cell x t=>do loadVar t (← asAddr (tmps.getD x undef))
theorem aN3 (fn:Func) (tmps:Array Value):results fn tmps=(do let vs ← fn.results.mapM (rs1 tmps); pure (if h:vs.size=1 then vs[0] else .tuple vs)):=by
  unfold results
  congr 1
theorem aSa {tmps:Array Value}{x:Tmp}{ty:TypeId}{b:Addr} (e:tmps.getD x undef=.pointer (some b)):(rs1 tmps (.cell x ty)).run P w=(loadVar ty b).run P w:=by
  simp only[rs1,e,asAddr]; rfl
theorem aUX (hS:Sim ro N φ w0 h.get w) (he:EnvR N φ n t a):∀ (rs:List ResultVar) (vs:List Value),aE2 P ro h t rs=some vs →
    ∃ vs',(rs.mapM (rs1 a.tmps)).run P w=.ok vs' w∧LR N φ vs vs':=by
  intro rs
  induction rs with
  | nil=>intro vs h; simp[aE2] at h; subst h; exact⟨[],by simp,.nil⟩
  | cons r rs ih =>
    intro vs hr
    cases r with
    | tmp i =>
      simp only[aE2] at hr
      obtain⟨us,h1,hr⟩:=aM hr
      cases hr
      obtain⟨us',g1,g2⟩:=ih us h1
      refine⟨a.tmps.getD i undef::us',?_,.cons (he.val i) g2⟩
      rw[List.mapM_cons,Sem.run_bind]
      show (Result.ok _ w).andThen _=_
      rw[Result.andThen_ok,Sem.run_bind,g1]; rfl
    | cell x ty =>
      simp only[aE2] at hr
      have hx:=he.val x
      split at hr
      · rename_i ad hq
        obtain⟨u,h0,hr⟩:=aM hr
        obtain⟨us,h1,hr⟩:=aM hr
        cases hr
        rw[hq] at hx
        obtain⟨b,e,hab⟩:=hx.of_ptr
        obtain⟨v',q1,q2⟩:=hS.load (fun _ _ h=>h) hab h0
        obtain⟨us',g1,g2⟩:=ih us h1
        refine⟨v'::us',?_,.cons q2 g2⟩
        rw[List.mapM_cons,Sem.run_bind,aSa e,q1,Result.andThen_ok,Sem.run_bind,g1]; rfl
      · cases hr
theorem aME (hS:Sim ro N φ w0 h.get w) (he:EnvR N φ n t a) {fn:Func}{vs:List Value} (hr:aE2 P ro h t fn.results.toList=some vs) :
    ∃ v',(results fn a.tmps).run P w=.ok v' w∧VR N φ (aDi vs) v':=by
  obtain⟨vs',g1,g2⟩:=aUX (P:=P) hS he _ _ hr
  rw[aN3,Sem.run_bind,Array.mapM_eq_mapM_toList,Sem.run_map,g1]
  simp only[Result.andThen_ok,Sem.run_pure]
  cases g2 with
  | nil=>exact⟨_,rfl,VR.tupleL .nil⟩
  | cons h1 h2 =>
    cases h2 with
    | nil=>exact⟨_,rfl,h1⟩
    | cons h3 h4 =>
      refine⟨_,rfl,?_⟩
      rw[dif_neg (by simp)]
      exact VR.tupleL (.cons h1 (.cons h3 h4))
def aQ0 (P:Program) (ro:Ro) (N:Nat) (w0:World) (k:Nat) (X:aAW):Prop:=∀ n c s e s',X n c s e s'→∀ (Q:Exit→Act→World→Prop) (a:Act) (w:World) (φ:gF),
  SS ro N w0 φ s.h s.nx w→EnvR N φ n s.t a→(∀ e' a' w' φ',ExR e e'→Step ro N w0 φ s.h s.nx w φ' s'.h s'.nx w'→EnvR N φ' n s'.t a'→a'.defers=a.defers→Q e' a' w') →
  c.wp P Q a w∧∀ b,c=.loop b→Code.rounds P b Q k a w
theorem VR.of_rigid {x v:Value} (h:VR N φ x v) (hf:rigid x=true):v=x:=by
  cases h with
  | agg hl h =>
    rename_i xs ys
    have hf:xs.toList.all V.flat=true:=hf
    have:ys=xs:=by
      apply Array.ext hl.symm
      intro i h1 h2
      have:=h i xs[i] ys[i] (Array.getElem?_eq_getElem h2) (Array.getElem?_eq_getElem h1)
      exact this.of_flat (List.all_eq_true.1 hf _ (by simp))
    rw[this]
  | flat h=>rfl
  | _=>simp[rigid,V.flat] at hf
theorem LR.of_rigid {xs ys:List Value} (h:LR N φ xs ys):xs.all rigid=true→ys=xs:=by
  induction h with
  | nil=>intro _; rfl
  | cons hv _ ih =>
    intro hf
    simp only[List.all_cons,Bool.and_eq_true] at hf
    rw[hv.of_rigid hf.1,ih hf.2]
theorem aUQ {f:FuncId}{args:List Value}{z l c nx:Nat}{cs:List Value}{e:TypeId}{h h':T Obj} (hO:aJC P f args z l c cs) (h7:aU h' (h.upd nx (some (.cells cs.toArray e)))) :
    (∃ fn,P.funcs[f]?=some fn∧fn.body.isNone=false)∧∀ (φ:gF) (w:World) (args':Array Value),SS ro N w0 φ h nx w→LR N φ args args'.toList →
      Calls P f args' w fun e w'=>∃ v' φ',e=.returned v'∧Step ro N w0 φ h nx w φ' h' (nx+1) w'∧VR N φ' (.slice (some ⟨nx,0,some z⟩) l c) v':=by
  obtain⟨o1,o2,o3,o4⟩:=hO
  refine⟨o3,fun φ w args' hs hl=>?_⟩
  have ha:args'=args.toArray:=by
    have:=hl.of_rigid o1
    apply Array.ext'
    simpa using this
  subst ha
  refine (o4 w).mono fun en w' ⟨⟨B,b,r,c',C,E,F,he,q1,q2,q3,q4,q5,q6,q7,q8,q9⟩,g1,g2,g3,g4,g5⟩=>?_
  have hnx:φ nx=none:=hs.fresh nx (Nat.le_refl _)
  have hle:gF.le φ (fun k=>if k=nx then some (B,b,r) else φ k):=fun k p hk=>by
    have:k≠nx:=fun e=>by rw[e,hnx] at hk; cases hk
    show (if k=nx then _ else φ k)=_
    rw[if_neg this]; exact hk
  have hself:(fun k=>if k=nx then some (B,b,r) else φ k) nx=some (B,b,r):=if_pos rfl
  have hne:∀ k,k≠nx→(fun k=>if k=nx then some (B,b,r) else φ k) k=φ k:=fun k hk=>if_neg hk
  generalize (fun k=>if k=nx then some (B,b,r) else φ k)=ψ at hle hself hne
  have hsim:Sim ro N ψ w0 (h.upd nx (some (.cells cs.toArray e))).get w':=by
    refine⟨hs.sim.n,Nat.le_trans hs.sim.le g1,fun b hb=>(g2 b (Nat.lt_of_lt_of_le hb hs.sim.le)).trans (hs.sim.old b hb),?_,?_,?_,hs.sim.ro⟩
    · intro k B' o' r' hk
      by_cases hkn:k=nx
      · subst hkn; rw[hself] at hk; cases hk; exact⟨Nat.le_trans hs.sim.le q3,q4⟩
      · rw[hne k hkn] at hk
        exact⟨(hs.sim.dom k B' o' r' hk).1,Nat.lt_of_lt_of_le (hs.sim.dom k B' o' r' hk).2 g1⟩
    · intro k k' B1 o1 r1 B2 o2 r2 h1 h2 p1 p2 hkk
      by_cases hkn:k=nx
      · subst hkn
        rw[hself] at p1; cases p1
        rw[hne k' (Ne.symm hkk)] at p2
        have:=(hs.sim.dom k' B2 o2 r2 p2).2
        omega
      · by_cases hkn':k'=nx
        · subst hkn'
          rw[hself] at p2; cases p2
          rw[hne k hkn] at p1
          have:=(hs.sim.dom k B1 o1 r1 p1).2
          omega
        · rw[hne k hkn] at p1
          rw[hne k' hkn'] at p2
          rw[T.get_upd_ne _ _ hkn] at h1
          rw[T.get_upd_ne _ _ hkn'] at h2
          exact hs.sim.inj k k' B1 o1 r1 B2 o2 r2 h1 h2 p1 p2 hkk
    · intro k o hk
      by_cases hkn:k=nx
      · subst hkn
        rw[T.get_upd_same] at hk
        cases hk
        refine⟨B,b,r,.cells C E F,hself,q5,q6,by simpa using q7,fun i x hx=>⟨x,q8 i x (by simpa using hx),.flat ?_⟩,q9⟩
        exact List.all_eq_true.1 o2 x (List.mem_of_getElem? (by simpa using hx))
      · rw[T.get_upd_ne _ _ hkn] at hk
        obtain⟨B',b',r',o',p1,p2,p3⟩:=hs.sim.own k o hk
        exact⟨B',b',r',o',by rw[hne k hkn]; exact p1,by rw[g2 B' (hs.sim.dom k B' b' r' p1).2]; exact p2,p3.mono hle⟩
  refine⟨_,ψ,he,⟨hle,⟨Sim.sub hsim h7,fun k hk=>?_⟩,Nat.le_succ _,fun k hk=>hne k (by omega),g1,fun b hb _=>g2 b hb,?_,g3,g4,g5⟩,?_⟩
  · rw[hne k (by omega)]; exact hs.fresh k (by omega)
  · intro k B' o' r' hk hφ
    by_cases hkn:k=nx
    · subst hkn; rw[hself] at hφ; cases hφ; exact .inl q3
    · rw[hne k hkn] at hφ
      refine .inr ⟨k,o',r',?_,hφ⟩
      cases ho:h'.get k with
      | none=>exact absurd ho hk
      | some x =>
        have:=h7 k x ho
        rw[T.get_upd_ne _ _ hkn] at this
        rw[this]; simp
  · exact .sliceOwn (a:=⟨nx,0,some z⟩) (o:=b) hself rfl q1 (by simpa using q2)
theorem aIJ {X:aAW}{k:Nat} (hX:aQ0 P ro N w0 k X):yW P ro N w0 (aFz P ro X):=by
  intro f args h nx v h' nx' hc
  rcases hc with ⟨fn,body,e,s,vs,h1,h2,h3,h4,h5,h6,rfl,h7,rfl⟩ | ⟨rfl,hO,h7,rfl⟩ | ⟨z,l,c,cs,el,hO,rfl,h7,rfl⟩
  rotate_left
  rotate_left
  · exact aUQ hO h7
  rotate_left
  · refine⟨hO.2.1,fun φ w args' hs hl=>?_⟩
    have ha:args'=#[]:=by
      have:=hl.length
      simp at this
      exact Array.eq_empty_of_size_eq_zero this.symm
    subst ha
    refine (hO.2.2 w).mono fun e w' ⟨he,g1,g2,g3,g4,g5⟩=>⟨v,φ,he,⟨gF.le_refl _,⟨Sim.sub ?_ h7,hs.fresh⟩,Nat.le_refl _,fun _ _=>rfl,g1,fun b hb _=>g2 b hb,fun k B o r hk hφ=>.inr ⟨k,o,r,?_,hφ⟩,g3,g4,g5⟩,.flat hO.1⟩
    · exact⟨hs.sim.n,Nat.le_trans hs.sim.le g1,fun b hb=>(g2 b (Nat.lt_of_lt_of_le hb hs.sim.le)).trans (hs.sim.old b hb),fun k B o r hk=>⟨(hs.sim.dom k B o r hk).1,Nat.lt_of_lt_of_le (hs.sim.dom k B o r hk).2 g1⟩,hs.sim.inj,
        fun k o hk=>by
          obtain⟨B,b,r,o',q1,q2,q3⟩:=hs.sim.own k o hk
          exact⟨B,b,r,o',q1,by rw[g2 B (hs.sim.dom k B b r q1).2]; exact q2,q3⟩,hs.sim.ro⟩
    · cases ho:h'.get k with
      | none=>exact absurd ho hk
      | some x=>rw[h7 k x ho]; simp
  refine⟨⟨fn,h1,by rw[h2]; rfl⟩,fun φ w args' hs hl=>?_⟩
  refine calls_of_wp h1 h2 (hX _ _ _ _ _ h4 _ _ w φ hs (aPG hl h3) ?_).1
  intro e' a' w' φ' g1 g2 g3 g4
  obtain⟨v',q1,q2⟩:=aME (P:=P) g2.ss.sim g3 h6
  have fin:a'.defers=[]∧∃ v,(results fn a'.tmps).run P w'=.ok v w'∧∃ v' φ',Ending.returned v=.returned v'∧Step ro N w0 φ h nx w φ' h' s.nx w'∧VR N φ' (aDi vs) v' :=
    ⟨g4,v',q1,v',φ',rfl,g2.sub h7,q2⟩
  rcases h5 with rfl | rfl
  · cases e'<;>first | exact g1.elim | exact fin
  · cases e'<;>first | exact g1.elim | exact fin
theorem aT1 (hz:gC P=true) (hn:mZ P=true) (hm:P.follows .mixedOrders=true):∀ k,aQ0 P ro N w0 k (code P ro k):=by
  intro k
  induction k with
  | zero=>intro n c s e s' h; exact h.elim
  | succ k ih =>
    intro n c s e s' hc Q a w φ hs he hQ
    have hcall:=aIJ ih
    change aKd P ro (code P ro k) n c s e s' at hc
    cases c with
    | skip=>obtain⟨rfl,rfl⟩:=hc; exact⟨wp_skip (hQ .normal a w φ trivial (Step.refl hs) he rfl),fun b e=>by cases e⟩
    | label l=>obtain⟨rfl,rfl⟩:=hc; exact⟨wp_label (hQ .normal a w φ trivial (Step.refl hs) he rfl),fun b e=>by cases e⟩
    | ret=>obtain⟨rfl,rfl⟩:=hc; exact⟨wp_ret (hQ .ret a w φ trivial (Step.refl hs) he rfl),fun b e=>by cases e⟩
    | exit id=>obtain⟨rfl,rfl⟩:=hc; exact⟨wp_exit (hQ (.exit id) a w φ rfl (Step.refl hs) he rfl),fun b e=>by cases e⟩
    | seq x y =>
      refine⟨wp_seq ?_,fun b e=>by cases e⟩
      rcases hc with ⟨s1,h1,h2⟩ | ⟨hne,h1⟩
      · refine (ih n x s .normal s1 h1 _ a w φ hs he ?_).1
        intro e' a' w' φ' g1 g2 g3 g4
        cases e'<;>first
          | exact g1.elim
          | exact (ih n y s1 e s' h2 _ a' w' φ' g2.ss g3 (fun e2 a2 w2 φ2 q1 q2 q3 q4=>hQ e2 a2 w2 φ2 q1 (g2.trans q2) q3 (q4.trans g4))).1
      · refine (ih n x s e s' h1 _ a w φ hs he ?_).1
        intro e' a' w' φ' g1 g2 g3 g4
        have:=hQ e' a' w' φ' g1 g2 g3 g4
        cases e<;>cases e'<;>first
          | exact absurd rfl hne
          | exact g1.elim
          | exact this
    | cond c x y =>
      obtain⟨v,h1,h2⟩:=hc
      refine⟨wp_cond (t:=v) ((he.evl h1).of_bool) ?_,fun b e=>by cases e⟩
      cases v with
      | true=>exact (ih n x s e s' h2 _ a w φ hs he hQ).1
      | false=>exact (ih n y s e s' h2 _ a w φ hs he hQ).1
    | block id b =>
      obtain⟨e1,h1,h2⟩:=hc
      refine⟨wp_block ?_,fun b e=>by cases e⟩
      refine (ih n b s e1 s' h1 _ a w φ hs he ?_).1
      intro e' a' w' φ' g1 g2 g3 g4
      cases e1 with
      | normal=>cases e'<;>first | exact g1.elim | (subst h2; exact hQ .normal a' w' φ' trivial g2 g3 g4)
      | ret=>cases e'<;>first | exact g1.elim | (subst h2; exact hQ .ret a' w' φ' trivial g2 g3 g4)
      | exit i =>
        cases e'<;>first
          | exact g1.elim
          | skip
        rename_i j
        have hij:i=j:=g1
        subst hij
        simp only[Exit.inBlock]
        by_cases hid:i=id
        · subst hid
          have:e=.normal:=by rw[h2]; simp
          subst this
          simp
          exact hQ .normal a' w' φ' trivial g2 g3 g4
        · have hb:Nat.beq i id=false:=by
            cases hb:Nat.beq i id with
            | false=>rfl
            | true=>exact absurd (Nat.eq_of_beq_eq_true hb) hid
          have h2':e=(match Nat.beq i id with | true=>.normal | false=>.exit i):=h2
          rw[hb] at h2'
          subst h2'
          simp[hid]
          exact hQ (.exit i) a' w' φ' rfl g2 g3 g4
    | loop b =>
      have hr:Code.rounds P b Q (k+1) a w:=by
        rw[rounds_succ]
        rcases hc with ⟨s1,hh,h1,h3,h2⟩ | ⟨hne,h1⟩
        · refine (ih n b s .normal s1 h1 _ a w φ hs he ?_).1
          intro e' a' w' φ' g1 g2 g3 g4
          cases e'<;>first
            | exact g1.elim
            | exact (ih n (.loop b) ⟨s1.t,hh,s1.nx⟩ e s' h2 _ a' w' φ' (g2.sub h3).ss g3 (fun e2 a2 w2 φ2 q1 q2 q3 q4=>hQ e2 a2 w2 φ2 q1 ((g2.sub h3).trans q2) q3 (q4.trans g4))).2 b rfl
        · refine (ih n b s e s' h1 _ a w φ hs he ?_).1
          intro e' a' w' φ' g1 g2 g3 g4
          have:=hQ e' a' w' φ' g1 g2 g3 g4
          cases e<;>cases e'<;>first
            | exact absurd rfl hne
            | exact g1.elim
            | exact this
      exact⟨wp_loop_rounds _ hr,fun b' e=>by cases e; exact hr⟩
    | scope b =>
      refine⟨wp_scope_straight ?_,fun b e=>by cases e⟩
      refine (ih n b s e s' hc _ a w φ hs he ?_).1
      intro e' a' w' φ' g1 g2 g3 g4
      have:=hQ e' a' w' φ' g1 g2 g3 g4
      cases e<;>cases e'<;>first
        | exact g1.elim
        | exact this
    | region id ops draw =>
      obtain⟨rfl,hreg⟩:=hc
      refine⟨?_,fun b e=>by cases e⟩
      cases draw with
      | false =>
        exact wp_region_list (aVk hz hn hcall ops.toList s s' φ w a hs he hreg (fun a' w' φ' g1 g2 g3=>hQ .normal a' w' φ' trivial g1 g2 g3))
      | true =>
        obtain⟨hd,hreg⟩:=hreg
        exact aT5 hz hn hm hcall (aGB (aOx k)) hd hs he hreg (fun a' w' φ' g1 g2 g3=>hQ .normal a' w' φ' trivial g1 g2 g3)
    | _=>exact hc.elim
theorem aC1 (hz:gC P=true) (hn:mZ P=true) (hm:P.follows .mixedOrders=true) {k:Nat}:yW P ro N w0 (call P ro k):=aIJ (aT1 hz hn hm k)
end
end V
end Go.Proofs.YtjndkdmkecpllaaGreat