/- The machine of VA held against the model's: one operation of a frame; operations in their order.
   No condition. -/
import Derived.Test.YtepbdkfkfcckoaaVN
import Derived.LoopN
import Derived.Scope
import Derived.Tactics
set_option linter.unusedVariables false
set_option linter.unusedSimpArgs false
namespace Go.Proofs.Ytepbdkfkfcckoaa
namespace V
/-- A frame's temporaries. -/
structure EnvR (N : Nat) (φ : Phi) (n : Nat) (t : T Value) (a : Act) : Prop where
  size : a.tmps.size = n
  val : ∀ i, VR N φ ((t.get i).getD undef) (a.tmps.getD i undef)
/-- What a call relation must keep to. -/
def CallOk (P : Program) (ro : Ro) (N : Nat) (w0 : World) (C : CallR) : Prop := ∀ f args h nx v h' nx', C f args h nx v h' nx' → (∃ fn, P.funcs[f]? = some fn ∧ fn.body.isNone = false) ∧
  ∀ (φ : Phi) (w : World) (args' : Array Value), SS ro N w0 φ h nx w → LR N φ args args'.toList →
    Calls P f args' w fun e w' => ∃ v' φ', e = .returned v' ∧ Step ro N w0 φ h nx w φ' h' nx' w' ∧ VR N φ' v v'
/-- The static demands on a program. -/
def namesOk (P : Program) : Bool := P.funcs.toList.all fun fn => !(fn.name == "runtime.NumGoroutine")
section
variable {P : Program} {ro : Ro} {N n : Nat} {φ : Phi} {w0 w : World} {h h' : T Obj} {nx nx' : Nat} {t : T Value} {a : Act}
theorem EnvR.evl (he : EnvR N φ n t a) {x : Operand} {v : Value} (h : evl t x = some v) : VR N φ v (a.eval x) := by
  cases x with
  | tmp i => cases h; exact he.val i
  | const c =>
    simp only [V.evl] at h
    cases hf : flat c with
    | false => rw [hf] at h; cases h
    | true => rw [hf] at h; cases h; exact .flat hf
  | global g => cases h
  | func f => cases h; exact .func rfl (fun i x y hx _ => by simp at hx) rfl (fun i x y hx _ => by simp at hx)
theorem EnvR.mono {ψ : Phi} (hl : Phi.le φ ψ) (he : EnvR N φ n t a) : EnvR N ψ n t a := ⟨he.size, fun i => (he.val i).mono hl⟩
theorem EnvR.put (he : EnvR N φ n t a) {dst : Option Tmp} {v v' : Value} {t' : T Value} (hp : V.put n t dst v = some t') (hv : VR N φ v v') : EnvR N φ n t' (a.put dst v') := by
  cases dst with
  | none => cases hp; exact he
  | some d =>
    simp only [V.put] at hp
    cases hb : Nat.blt d n with
    | false => rw [hb] at hp; cases hp
    | true =>
      rw [hb] at hp; cases hp
      have hd : d < n := Nat.le_of_ble_eq_true hb
      refine ⟨by simp [Act.put, he.size], fun i => ?_⟩
      rw [T.get_upd]
      by_cases e : i = d
      · subst e
        rw [if_pos rfl]
        simp [Act.put, Array.getElem?_setIfInBounds, he.size, hd]
        exact hv
      · rw [if_neg e]
        have := he.val i
        simpa [Act.put, Array.getElem?_setIfInBounds, Ne.symm e] using this
theorem put_defers (a : Act) (d : Option Tmp) (v : Value) : (a.put d v).defers = a.defers := by cases d <;> rfl
theorem VR.to_bool {x : Value} {b : Bool} (h : VR N φ x (.bool b)) : x = .bool b := by cases h; rfl
theorem EnvR.yielded (he : EnvR N φ n t a) (ops : Array Oper) (j : Nat) (b : Bool) : Go.yielded ops a.tmps j = some b ↔ ∃ d, (ops[j]?).bind (·.dst) = some d ∧ t.get d = some (.bool b) := by
  unfold Go.yielded
  cases hd : (ops[j]?).bind (·.dst) with
  | none => simp
  | some d =>
    simp only [Option.bind]
    have hv := he.val d
    constructor
    · intro h
      refine ⟨d, rfl, ?_⟩
      split at h
      · rename_i b' hq
        cases h
        have e : a.tmps.getD d undef = .bool b := by simp [hq]
        rw [e] at hv
        have e2 := hv.to_bool
        cases ht : t.get d with
        | none => rw [ht] at e2; cases e2
        | some x => rw [ht] at e2; exact congrArg some e2
      · cases h
    · rintro ⟨d', e, h⟩
      cases e
      rw [h] at hv
      have e := hv.of_bool
      cases hq : a.tmps[d]? with
      | none => simp [hq] at e; cases e
      | some q =>
        have e' : q = .bool b := by simpa [hq] using e
        rw [e']
theorem EnvR.wanted (he : EnvR N φ n t a) (ops : Array Oper) (o : Oper) : Region.wanted o (Go.yielded ops a.tmps) = V.wanted ops t o := by
  unfold Region.wanted V.wanted
  cases o.guard with
  | none => rfl
  | some g =>
    obtain ⟨j, wnt⟩ := g
    simp only
    rw [Bool.eq_iff_iff]
    have h := he.yielded ops j wnt
    rw [beq_iff_eq, h]
    constructor
    · rintro ⟨d, h1, h2⟩
      rw [h1]; simp only; rw [h2]; simp
    · intro h
      split at h
      · rename_i d hd
        split at h
        · rename_i b hb
          have : b = wnt := by simpa using h
          subst this
          exact ⟨d, hd, hb⟩
        · cases h
      · cases h
theorem convSame_sound (s : SS ro N w0 φ h nx w) {sx dx : TypeId} {x x' v : Value} (hc : convSame P h sx dx x = some (v, h')) (hx : VR N φ x x') : ∃ w', (convert sx dx x').run P w = .ok x' w' ∧ Step ro N w0 φ h nx w φ h' nx w' ∧ v = x := by
  unfold convSame at hc
  split at hc
  case h_2 => cases hc
  rename_i a l c
  split at hc
  case h_2 => cases hc
  rename_i z cs e f hsp hk
  split at hc
  case h_2 => cases hc
  rename_i el hb hd
  split at hc
  case h_2 => cases hc
  rename_i he
  cases hc
  have hsd : sx = dx := Nat.eq_of_beq_eq_true hb
  subst hsd
  obtain ⟨B', b', r', o', e1, e2, e3⟩ := s.sim.own _ _ hk
  cases o' <;> simp only [OR] at e3
  rename_i C E F
  obtain ⟨q1, q2, q3, q4⟩ := e3
  obtain ⟨bb, c', rfl, hsl⟩ := hx.of_slice
  obtain ⟨hbs, hbB⟩ : bb.spot = none ∧ bb.block = B' := by
    rcases hsl with hsl | ⟨_, _, _, hsl⟩
    · cases hsl with
      | ro h1 _ => rw [h1] at hsp; cases hsp
      | own h1 h2 _ _ => rw [e1] at h1; cases h1; exact ⟨rfl, rfl⟩
    · rcases hsl with h1 | ⟨z2, B2, o2, r2, h1, h2, h3, h4⟩
      · rw [h1] at hsp; cases hsp
      · rw [e1] at h2; cases h2; exact ⟨h3, h4⟩
  obtain ⟨b1, b2, b3⟩ := bb
  change b3 = none at hbs; change b1 = B' at hbB
  subst hbs hbB
  have hsh : w.shape? b1 = some (E, C.size) := by unfold World.shape?; rw [e2]
  let F' : Nat × Nat := if F.1 == F.2 then (C.size, C.size + 1) else (min F.1 C.size, max F.2 (C.size + 1))
  have hfr : w.freeze ⟨b1, C.size, none⟩ 1 = setAt w b1 (.cells C E F') := by
    unfold World.freeze setAt
    rw [if_neg (by decide)]
    congr 1
    apply Array.ext_getElem?
    intro i
    rw [Array.getElem?_modify, Array.getElem?_setIfInBounds]
    by_cases hi : b1 = i
    · subst hi
      have hlt : b1 < w.heap.size := (Array.getElem?_eq_some_iff.1 e2).1
      have hw : w.heap[b1] = .cells C E F := by
        have h3 := e2
        rw [Array.getElem?_eq_getElem hlt] at h3
        exact Option.some.inj h3
      simp [hlt, hw, F']
    · simp [hi]
  have hF : FrOk C.size F' := by
    show (if F.1 == F.2 then (C.size, C.size + 1) else (min F.1 C.size, max F.2 (C.size + 1))).1 = (if F.1 == F.2 then (C.size, C.size + 1) else (min F.1 C.size, max F.2 (C.size + 1))).2 ∨ C.size ≤ (if F.1 == F.2 then (C.size, C.size + 1) else (min F.1 C.size, max F.2 (C.size + 1))).1
    cases hq : F.1 == F.2 with
    | true => right; simp
    | false =>
      right
      have hne : F.1 ≠ F.2 := by simpa using hq
      rcases q4 with q4 | q4
      · exact absurd q4 hne
      · simp; omega
  refine ⟨setAt w b1 (.cells C E F'), ?_, s.set hk e1 e2 ⟨q1, q2, q3, hF⟩, rfl⟩
  simp [convert, run_und hd, run_und he, markStringish, hsh]
  exact hfr
/-- A loud operation. -/
theorem opL_wp (hz : zerosOk P = true) (hn : namesOk P = true) {C : CallR} (hC : CallOk P ro N w0 C) (s : SS ro N w0 φ h nx w) {o : Oper}
    (henv : ∀ x ∈ o.op.operands, ∀ v, evl t x = some v → VR N φ v (a.eval x)) {v : Value} (hl : opL P ro C t h nx o.op v h' nx') {K : Act → World → Prop} {Q : Exit → Act → World → Prop}
    (hK : ∀ v' w' φ', Step ro N w0 φ h nx w φ' h' nx' w' → VR N φ' v v' → K (a.put o.dst v') w') : o.wp P a w K Q := by
  obtain ⟨dst, op, ty0, pos, after, guard⟩ := o
  simp only at henv hl hK
  unfold Oper.wp
  cases op with
  | store ty x y =>
    obtain ⟨av, xv, h1, h2, h3, rfl, rfl⟩ := hl
    obtain ⟨w', g1, g2⟩ := store_sound s (henv x (by simp [Op.operands]) av h1) (henv y (by simp [Op.operands]) xv h2) h3
    have : (execOp a.eval ⟨dst, .store ty x y, ty0, pos, after, guard⟩).run P w = .ok .skip w' := by simp only [execOp, Sem.run_bind, g1]; rfl
    rw [this]
    exact hK undef w' φ g2 VR.undef
  | mapUpdate ty m k x =>
    obtain ⟨mv, kv, xv, h1, h2, h3, h4, rfl, rfl⟩ := hl
    obtain ⟨w', g1, g2⟩ := mapPut_sound (P := P) s (henv m (by simp [Op.operands]) mv h1) (henv k (by simp [Op.operands]) kv h2) (henv x (by simp [Op.operands]) xv h3) h4
    have : (execOp a.eval ⟨dst, .mapUpdate ty m k x, ty0, pos, after, guard⟩).run P w = .ok .skip w' := by simp only [execOp, Sem.run_bind, g1]; rfl
    rw [this]
    exact hK undef w' φ g2 VR.undef
  | insert ty m k x =>
    obtain ⟨mv, kv, xv, h1, h2, h3, h4, rfl, rfl⟩ := hl
    obtain ⟨w', g1, g2⟩ := mapPut_sound (P := P) s (henv m (by simp [Op.operands]) mv h1) (henv k (by simp [Op.operands]) kv h2) (henv x (by simp [Op.operands]) xv h3) h4
    have : (execOp a.eval ⟨dst, .insert ty m k x, ty0, pos, after, guard⟩).run P w = .ok .skip w' := by simp only [execOp, Sem.run_bind, g1]; rfl
    rw [this]
    exact hK undef w' φ g2 VR.undef
  | call c =>
    obtain ⟨callee, args, argTypes⟩ := c
    cases callee with
    | builtin b =>
      obtain ⟨vs, hvs, hb⟩ := hl
      have hlr := evlL_LR (N := N) (φ := φ) (ρ := a.eval) (fun x hx => henv x (by simp [Op.operands, Call.operands]; simpa using hx)) hvs
      have hex : ∀ (r : Value) (w' : World), (builtin b argTypes ty0 (args.map fun | .const _ => true | _ => false) (args.map a.eval)).run P w = .ok (.value r) w' →
          (execOp a.eval ⟨dst, .call ⟨.builtin b, args, argTypes⟩, ty0, pos, after, guard⟩).run P w = .ok (.value r) w' := by
        intro r w' hr
        simp only [execOp, resolve, Sem.run_bind, Sem.run_pure, Result.andThen_ok, invoke]
        exact hr
      have hmap : (args.toList.map a.eval).toArray = args.map a.eval := by apply Array.ext'; simp
      cases b <;> simp only at hb <;> try (exact hb.elim)
      case append =>
        obtain ⟨v', w', φ', g1, g2, g3⟩ := append_sound (ty := ty0) hz s hb hlr
        rw [hmap] at g1
        rw [hex v' w' (by simp only [builtin, Sem.run_bind, g1]; rfl)]
        exact hK v' w' φ' g2 g3
      case clear =>
        obtain ⟨m, t1, rfl, h1, h2, h3, rfl, rfl⟩ := hb
        obtain ⟨m', e, hm⟩ : ∃ m', args.map a.eval = #[m'] ∧ VR N φ m m' := by
          have : LR N φ [m] (args.map a.eval).toList := by simpa using hlr
          generalize args.map a.eval = arr at this
          obtain ⟨l⟩ := arr
          cases this with
          | cons h1 h2 => cases h2; exact ⟨_, rfl, h1⟩
        obtain ⟨w', g1, g2⟩ := clear_sound (ty := ty0) s h1 hm h3 h2
        rw [hex (.tuple #[]) w' (by simp only [builtin, e, Sem.run_bind, g1]; rfl)]
        exact hK (.tuple #[]) w' φ g2 VR.undef
      case copy =>
        obtain ⟨w', g1, g2, g3⟩ := copy_sound (ty := ty0) s hb hlr
        rw [hmap] at g1
        rw [hex v w' (by simp only [builtin, Sem.run_bind, g1]; rfl)]
        exact hK v w' φ g2 (.flat g3)
    | value f =>
      obtain ⟨k, fa, fb, vs, h1, h2, h3⟩ := hl
      have hf := henv f (by simp [Op.operands, Call.operands]) _ h1
      obtain ⟨fa', fb', e, l1, l2⟩ := hf.of_func
      have hlr := evlL_LR (N := N) (φ := φ) (ρ := a.eval) (fun x hx => henv x (by simp [Op.operands, Call.operands]; exact .inr (by simpa using hx))) h2
      have hlr2 : LR N φ (fa.toList ++ vs ++ fb.toList) (fa' ++ args.map a.eval ++ fb').toList := by
        simp only [Array.toList_append, Array.toList_map]
        exact (l1.append hlr).append l2
      obtain ⟨⟨fn, hfn, hbody⟩, hcc⟩ := hC _ _ _ _ _ _ _ h3
      have hcall := hcc φ w _ s hlr2
      have hname : (fn.name == "runtime.NumGoroutine") = false := by
        have := List.all_eq_true.1 hn fn (List.mem_of_getElem? (by simpa using hfn))
        simpa using this
      have hrun : (execOp a.eval ⟨dst, .call ⟨.value f, args, argTypes⟩, ty0, pos, after, guard⟩).run P w = .ok (.enter k (fa' ++ args.map a.eval ++ fb')) w := by
        simp only [execOp, resolve, e, Deferred.ofValue, Sem.run_bind, Sem.run_pure, Result.andThen_ok, invoke, callFunc, run_program, hfn, hname, hbody]
        simp
      rw [hrun, Oper.upon_enter]
      refine hcall.mono ?_
      rintro e' w' ⟨v', φ', rfl, g1, g2⟩
      exact hK v' w' φ' g1 g2
    | invoke r m => exact hl.elim
  | convert sx dx x =>
    obtain ⟨xv, h1, h2, rfl⟩ := hl
    have hx := henv x (by simp [Op.operands]) xv h1
    obtain ⟨w', g1, g2, rfl⟩ := convSame_sound (P := P) s h2 hx
    have : (execOp a.eval ⟨dst, .convert sx dx x, ty0, pos, after, guard⟩).run P w = .ok (.value (a.eval x)) w' := by simp only [execOp, Sem.run_bind, g1]; rfl
    rw [this]
    exact hK _ w' φ g2 (hx.mono g2.le)
  | _ => exact hl.elim
/-- A quiet operation, its block at a number of its own. -/
theorem opQ_wp (hz : zerosOk P = true) {H : Nat → Option Obj} (hS : Sim ro N φ w0 H w) (hsub : ∀ k o, h.get k = some o → H k = some o) {o : Oper} {aid : Nat} (haid : φ aid = none)
    (henv : ∀ x ∈ o.op.operands, ∀ v, evl t x = some v → VR N φ v (a.eval x)) {v : Value} {ob : Option Obj} (hq : opQ P ro t h aid o.op = some (v, ob)) {K : Act → World → Prop} {Q : Exit → Act → World → Prop}
    (hK0 : ob = none → ∀ v', VR N φ v v' → K (a.put o.dst v') w)
    (hK1 : ∀ x, ob = some x → ∀ (x' : Obj) (rm : Nat) (v' : Value) (w' : World), w'.heap = w.heap.push x' → w'.os = w.os → w'.tape = w.tape → w'.output = w.output →
      VR N (φ.add aid w.heap.size rm) v v' → OR N (φ.add aid w.heap.size rm) x x' 0 rm → K (a.put o.dst v') w') : o.wp P a w K Q := by
  obtain ⟨v', w', g1, g2⟩ := opQ_sound hz hS hsub henv hq
  unfold Oper.wp
  rw [g1, Oper.upon_value]
  cases ob with
  | none => obtain ⟨rfl, g3⟩ := g2; exact hK0 rfl v' g3
  | some x =>
    obtain ⟨x', rm, e1, e2, e3, e4, g3⟩ := g2
    obtain ⟨g4, g5⟩ := g3 hS.le (φ.add aid w.heap.size rm) (Phi.le_add haid) Phi.add_same
    exact hK1 x rfl x' rm v' w' e1 e2 e3 e4 g4 g5
theorem opR_wp (hz : zerosOk P = true) (hn : namesOk P = true) {C : CallR} (hC : CallOk P ro N w0 C) (s : SS ro N w0 φ h nx w) {o : Oper}
    (henv : ∀ x ∈ o.op.operands, ∀ v, evl t x = some v → VR N φ v (a.eval x)) {v : Value} (hl : opR P ro C t h (nx + 1) nx o.op v h' nx') {K : Act → World → Prop} {Q : Exit → Act → World → Prop}
    (hK : ∀ v' w' φ', Step ro N w0 φ h nx w φ' h' nx' w' → VR N φ' v v' → K (a.put o.dst v') w') : o.wp P a w K Q := by
  unfold opR at hl
  cases hq : loud o.op with
  | true =>
    rw [hq] at hl
    have s' : SS ro N w0 φ h (nx + 1) w := ⟨s.sim, fun k hk => s.fresh k (by omega)⟩
    exact opL_wp hz hn hC s' henv hl (fun v' w' φ' g1 g2 => hK v' w' φ' (g1.down (Nat.le_succ _)) g2)
  | false =>
    rw [hq] at hl
    obtain ⟨ob, h1, rfl, rfl⟩ := hl
    refine opQ_wp hz s.sim (fun _ _ h => h) (s.fresh nx (Nat.le_refl _)) henv h1 ?_ ?_
    · rintro rfl v' g1
      exact hK v' w φ ((Step.refl s).rise (Nat.le_succ _)) g1
    · rintro x rfl x' rm v' w' e1 e2 e3 e4 g1 g2
      exact hK v' w' _ (s.alloc e1 e2 e3 e4 g2) g1
theorem ops_wp (hz : zerosOk P = true) (hn : namesOk P = true) {C : CallR} (hC : CallOk P ro N w0 C) {ops : Array Oper} {Q : Exit → Act → World → Prop} :
    ∀ (l : List Oper) (s s' : St) (φ : Phi) (w : World) (a : Act), SS ro N w0 φ s.h s.nx w → EnvR N φ n s.t a → opsR P ro C n ops l s s' →
      (∀ a' w' φ', Step ro N w0 φ s.h s.nx w φ' s'.h s'.nx w' → EnvR N φ' n s'.t a' → a'.defers = a.defers → Q .normal a' w') → wpList P ops Q l a w := by
  intro l
  induction l with
  | nil =>
    intro s s' φ w a hs he h hQ
    simp only [opsR] at h
    subst h
    exact hQ a w φ (Step.refl hs) he rfl
  | cons o l ih =>
    intro s s' φ w a hs he h hQ
    simp only [opsR] at h
    unfold wpList
    rw [he.wanted]
    cases hw : V.wanted ops s.t o with
    | false =>
      rw [hw] at h
      obtain ⟨t', h1, h2⟩ := h
      simp only [Bool.false_eq_true, if_false]
      exact ih ⟨t', s.h, s.nx⟩ s' φ w _ hs (he.put h1 VR.undef) h2 (fun a' w' φ' g1 g2 g3 => hQ a' w' φ' g1 g2 (g3.trans (put_defers _ _ _)))
    | true =>
      rw [hw] at h
      obtain ⟨v, h', nx', t', h1, h2, h3⟩ := h
      simp only [if_true]
      refine .inl (opR_wp hz hn hC hs (fun x _ v hv => he.evl hv) h1 ?_)
      intro v' w' φ' g1 g2
      exact ih ⟨t', h', nx'⟩ s' φ' w' _ g1.ss ((he.mono g1.le).put h2 g2) h3 (fun a' w'' φ'' q1 q2 q3 => hQ a' w'' φ'' (g1.trans q1) q2 (q3.trans (put_defers _ _ _)))
end
end V
end Go.Proofs.Ytepbdkfkfcckoaa
