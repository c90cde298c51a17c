/- The machine of VA by what stands behind: code and calls.
   No condition. -/
import Derived.Test.YtepbdkfkfcckoaaVY
set_option linter.unusedVariables false
set_option linter.unusedSimpArgs false
namespace Go.Proofs.Ytepbdkfkfcckoaa
namespace V
/-! ### More fuel -/
def LeC (C C' : CallR) : Prop := ∀ f args h nx v h' nx', C f args h nx v h' nx' → C' f args h nx v h' nx'
section
variable {P : Program} {ro : Ro}
theorem opL_le {C C' : CallR} (hC : LeC C C') {t : T Value} {h h' : T Obj} {nx nx' : Nat} {op : Op} {v : Value} (hl : opL P ro C t h nx op v h' nx') : opL P ro C' t h nx op v h' nx' := by
  cases op with
  | call c =>
    obtain ⟨callee, args, ts⟩ := c
    cases callee with
    | value f =>
      obtain ⟨k, a, b, vs, h1, h2, h3⟩ := hl
      exact ⟨k, a, b, vs, h1, h2, hC _ _ _ _ _ _ _ h3⟩
    | builtin b => exact hl
    | invoke r m => exact hl
  | _ => exact hl
theorem opR_le {C C' : CallR} (hC : LeC C C') {t : T Value} {h h' : T Obj} {nx aid nx' : Nat} {op : Op} {v : Value} (hl : opR P ro C t h nx aid op v h' nx') : opR P ro C' t h nx aid op v h' nx' := by
  unfold opR at hl ⊢
  cases hq : loud op with
  | true => rw [hq] at hl; exact opL_le hC hl
  | false => rw [hq] at hl; exact hl
theorem opsR_le {C C' : CallR} (hC : LeC C C') {n : Nat} {ops : Array Oper} : ∀ (l : List Oper) (s s' : St), opsR P ro C n ops l s s' → opsR P ro C' n ops l s s' := by
  intro l
  induction l with
  | nil => intro s s' h; exact h
  | cons o l ih =>
    intro s s' h
    simp only [opsR] at h ⊢
    cases hw : wanted ops s.t o with
    | true => rw [hw] at h; obtain ⟨v, h', nx', t', h1, h2, h3⟩ := h; exact ⟨v, h', nx', t', opR_le hC h1, h2, ih _ _ h3⟩
    | false => rw [hw] at h; obtain ⟨t', h1, h2⟩ := h; exact ⟨t', h1, ih _ _ h2⟩
theorem opsD_le {C C' : CallR} (hC : LeC C C') {n n0 : Nat} {ops : Array Oper} : ∀ (l : List Oper) (i : Nat) (ls : List (Nat × Nat)) (ms : List (Nat × T Obj × T Obj)) (s s' : St), opsD P ro C n ops n0 l i ls ms s s' → opsD P ro C' n ops n0 l i ls ms s s' := by
  intro l
  induction l with
  | nil => intro i ls ms s s' h; exact h
  | cons o l ih =>
    intro i ls ms s s' h
    simp only [opsD] at h ⊢
    cases hw : wanted ops s.t o with
    | true =>
      rw [hw] at h; obtain ⟨v, h', nx', t', h1, h2, h3⟩ := h
      refine ⟨v, h', nx', t', opR_le hC h1, h2, ?_⟩
      cases hq : loud o.op with
      | true => rw [hq] at h3; exact ⟨h3.1, ih _ _ _ _ _ h3.2⟩
      | false =>
        rw [hq] at h3
        simp only at h3 ⊢
        cases hla : rdB P s.t o.op with
        | none => rw [hla] at h3; exact ih _ _ _ _ _ h3
        | some a => rw [hla] at h3; exact ⟨h3.1, ih _ _ _ _ _ h3.2⟩
    | false => rw [hw] at h; obtain ⟨t', h1, h2⟩ := h; exact ⟨t', h1, ih _ _ _ _ _ h2⟩
def LeX (X X' : CodeR) : Prop := ∀ n c s e s', X n c s e s' → X' n c s e s'
theorem callR_le {X X' : CodeR} (hX : LeX X X') : LeC (callR P ro X) (callR P ro X') := by
  rintro f args h nx v h' nx' (⟨fn, body, e, s, vs, h1, h2, h3, h4, h5⟩ | ho)
  · exact .inl ⟨fn, body, e, s, vs, h1, h2, h3, hX _ _ _ _ _ h4, h5⟩
  · exact .inr ho
theorem codeB_le {X X' : CodeR} (hX : LeX X X') : LeX (codeB P ro X) (codeB P ro X') := by
  intro n c s e s' h
  cases c with
  | seq a b =>
    rcases h with ⟨s1, h1, h2⟩ | ⟨h1, h2⟩
    · exact .inl ⟨s1, hX _ _ _ _ _ h1, hX _ _ _ _ _ h2⟩
    · exact .inr ⟨h1, hX _ _ _ _ _ h2⟩
  | cond c a b => obtain ⟨v, h1, h2⟩ := h; exact ⟨v, h1, hX _ _ _ _ _ h2⟩
  | block id b => obtain ⟨e1, h1, h2⟩ := h; exact ⟨e1, hX _ _ _ _ _ h1, h2⟩
  | loop b =>
    rcases h with ⟨s1, hh, h1, h3, h2⟩ | ⟨h1, h2⟩
    · exact .inl ⟨s1, hh, hX _ _ _ _ _ h1, h3, hX _ _ _ _ _ h2⟩
    · exact .inr ⟨h1, hX _ _ _ _ _ h2⟩
  | scope b => exact hX _ _ _ _ _ h
  | region id ops draw =>
    obtain ⟨h1, h2⟩ := h
    refine ⟨h1, ?_⟩
    cases draw with
    | false => exact opsR_le (callR_le hX) _ _ _ h2
    | true => exact ⟨h2.1, opsD_le (callR_le hX) _ _ _ _ _ _ h2.2⟩
  | _ => exact h
theorem code_step : ∀ k, LeX (code P ro k) (code P ro (k + 1)) := by
  intro k
  induction k with
  | zero => intro n c s e s' h; exact h.elim
  | succ k ih => exact codeB_le ih
theorem code_le {k k' : Nat} (h : k ≤ k') : LeX (code P ro k) (code P ro k') := by
  induction h with
  | refl => intro n c s e s' h; exact h
  | step _ ih => intro n c s e s' h; exact code_step _ _ _ _ _ _ (ih _ _ _ _ _ h)
theorem call_le {k k' : Nat} (h : k ≤ k') : LeC (call P ro k) (call P ro k') := callR_le (code_le h)
/-! ### Operations -/
variable {t : T Value} {h : T Obj} {nx : Nat}
theorem ptL_sound {op : Op} {K : KV} (hl : ptL P ro (callP P ro) (envOf t) h nx op K) : ∃ k v h' nx', opL P ro (call P ro k) t h nx op v h' nx' ∧ K v h' nx' := by
  cases op with
  | store ty a x =>
    obtain ⟨a', h1, hl⟩ := bindP_some hl
    obtain ⟨x', h2, hl⟩ := bindP_some hl
    obtain ⟨n, h3, hl⟩ := bindP_some hl
    obtain ⟨h', h4, hl⟩ := bindP_some hl
    obtain ⟨ad, h5, h6⟩ := bind_some' h4
    refine ⟨0, _, _, _, ⟨a', x', by rw [evl_env]; exact h1, by rw [evl_env]; exact h2, ?_, rfl, rfl⟩, hl⟩
    rw [asP_some h5]
    simp only [storeV]
    rw [h3]; exact h6
  | mapUpdate ty m k x | insert ty m k x =>
    obtain ⟨m', h1, hl⟩ := bindP_some hl
    obtain ⟨k', h2, hl⟩ := bindP_some hl
    obtain ⟨x', h3, hl⟩ := bindP_some hl
    obtain ⟨h', h4, hl⟩ := bindP_some hl
    exact ⟨0, _, _, _, ⟨m', k', x', by rw [evl_env]; exact h1, by rw [evl_env]; exact h2, by rw [evl_env]; exact h3, h4, rfl, rfl⟩, hl⟩
  | call c =>
    obtain ⟨callee, args, ts⟩ := c
    cases callee with
    | builtin b =>
      obtain ⟨vs, h1, hl⟩ := bindP_some hl
      cases b <;> try (exact hl.elim)
      case append =>
        obtain ⟨r, h2, hl⟩ := bindP_some hl
        exact ⟨0, r.1, r.2.1, r.2.2, ⟨vs, by rw [evlL_env]; exact h1, h2⟩, hl⟩
      case clear =>
        simp only at hl
        split at hl
        · rename_i m ty hty
          obtain ⟨u, h2, hl⟩ := bindP_some hl
          obtain ⟨h', h3, hl⟩ := bindP_some hl
          exact ⟨0, _, _, _, ⟨_, by rw [evlL_env]; exact h1, _, _, rfl, hty, by rw [h2]; rfl, h3, rfl, rfl⟩, hl⟩
        · exact hl.elim
      case copy =>
        obtain ⟨r, h2, hl⟩ := bindP_some hl
        exact ⟨0, r.1, r.2.1, r.2.2, ⟨vs, by rw [evlL_env]; exact h1, h2⟩, hl⟩
    | value f =>
      obtain ⟨fv, h1, hl⟩ := bindP_some hl
      obtain ⟨vs, h2, hl⟩ := bindP_some hl
      unfold callF at hl
      split at hl
      · rename_i k a b _
        obtain ⟨fu, v, h', nx', h3, h4⟩ := hl
        exact ⟨fu, v, h', nx', ⟨k, a, b, vs, by rw [evl_env]; exact h1, by rw [evlL_env]; exact h2, h3⟩, h4⟩
      · exact hl.elim
    | invoke r m => exact hl.elim
  | convert sx dx x =>
    obtain ⟨x', h1, hl⟩ := bindP_some hl
    obtain ⟨r, h2, hl⟩ := bindP_some hl
    exact ⟨0, r.1, r.2, nx, ⟨x', by rw [evl_env]; exact h1, h2, rfl⟩, hl⟩
  | _ => exact hl.elim
theorem ptO_sound {aid : Nat} {op : Op} {K : KV} (hl : ptO P ro (callP P ro) (envOf t) h nx aid op K) : ∃ k v h' nx', opR P ro (call P ro k) t h nx aid op v h' nx' ∧ K v h' nx' := by
  unfold ptO at hl
  unfold opR
  cases hq : loud op with
  | true => rw [hq] at hl; exact ptL_sound hl
  | false =>
    rw [hq] at hl
    obtain ⟨v, ob, h1, h2⟩ := ptQ_sound hl
    exact ⟨0, v, _, nx, ⟨ob, h1, rfl, rfl⟩, h2⟩
def gTrue (g : Gd) : Prop := match g with
  | none => True
  | some vw => vw.1 = .bool vw.2
theorem onP_true {g : Gd} {X : Prop} (h : onP g X) (hg : gTrue g) : X := by
  cases g with
  | none => exact h
  | some vw => exact h hg
theorem gdP_sound {ops : Array Oper} {o : Oper} {F : Gd → Prop} (hg : gdP ops (envOf t) o.guard F) :
    ∃ g, F g ∧ (∀ h nx A K, wrapG g h nx A K → (wanted ops t o = true ∧ A K) ∨ (wanted ops t o = false ∧ K undef h nx)) ∧ (wanted ops t o = true → gTrue g) := by
  unfold gdP at hg
  unfold wanted
  cases hgd : o.guard with
  | none => rw [hgd] at hg; exact ⟨none, hg, fun h nx A K hA => .inl ⟨rfl, hA⟩, fun _ => trivial⟩
  | some jw =>
    obtain ⟨j, w⟩ := jw
    rw [hgd] at hg
    simp only at hg ⊢
    cases hd : (ops[j]?).bind (·.dst) with
    | none => rw [hd] at hg; exact hg.elim
    | some d =>
      rw [hd] at hg
      simp only at hg ⊢
      refine ⟨_, hg, ?_, ?_⟩
      · intro h nx A K hA
        unfold wrapG ifP at hA
        simp only at hA
        split at hA
        · rename_i b hb
          have hb' : t.get d = some (.bool b) := by
            unfold envOf at hb
            cases ht : t.get d with
            | none => rw [ht] at hb; cases hb
            | some v => rw [ht] at hb; exact congrArg some hb
          rw [hb']
          simp only
          cases hbw : b == w with
          | true => rw [hbw] at hA; exact .inl ⟨rfl, hA⟩
          | false => rw [hbw] at hA; exact .inr ⟨rfl, hA⟩
        · rename_i hnb
          right
          refine ⟨?_, hA⟩
          cases ht : t.get d with
          | none => rfl
          | some v =>
            cases v with
            | bool b => exact absurd (show envOf t d = .bool b by unfold envOf; rw [ht]; rfl) (hnb b)
            | _ => rfl
      · intro hw
        unfold gTrue
        simp only
        split at hw
        · rename_i b hb
          have : b = w := by simpa using hw
          subst this
          unfold envOf; rw [hb]; rfl
        · cases hw
theorem putP_sound {n : Nat} {d : Option Tmp} {v : Value} {K : Env → Prop} (hp : putP n (envOf t) d v K) : ∃ t', put n t d v = some t' ∧ K (envOf t') := by
  cases d with
  | none => exact ⟨t, rfl, hp⟩
  | some d =>
    unfold putP at hp
    simp only at hp
    cases hb : Nat.blt d n with
    | true => rw [hb] at hp; exact ⟨t.upd d (some v), by simp only [put]; rw [hb], by rw [envOf_upd]; exact hp⟩
    | false => rw [hb] at hp; exact hp.elim
theorem ptOps_sound {n : Nat} {ops : Array Oper} : ∀ (l : List Oper) (t : T Value) (h : T Obj) (nx : Nat) (Q : Env → T Obj → Nat → Prop), ptOps P ro (callP P ro) n ops l (envOf t) h nx Q →
    ∃ k s', opsR P ro (call P ro k) n ops l ⟨t, h, nx⟩ s' ∧ Q (envOf s'.t) s'.h s'.nx := by
  intro l
  induction l with
  | nil => intro t h nx Q hl; exact ⟨0, _, rfl, hl⟩
  | cons o l ih =>
    intro t h nx Q hl
    obtain ⟨g, h1, h2, _⟩ := gdP_sound hl
    simp only [opsR]
    rcases h2 _ _ _ _ h1 with ⟨hw, hA⟩ | ⟨hw, hK⟩
    · obtain ⟨k1, v, h', nx', h3, h4⟩ := ptO_sound hA
      obtain ⟨t', h5, h6⟩ := putP_sound h4
      obtain ⟨k2, s', h7, h8⟩ := ih t' h' nx' Q h6
      refine ⟨max k1 k2, s', ?_, h8⟩
      rw [hw]
      exact ⟨v, h', nx', t', opR_le (call_le (Nat.le_max_left _ _)) h3, h5, opsR_le (call_le (Nat.le_max_right _ _)) _ _ _ h7⟩
    · obtain ⟨t', h5, h6⟩ := putP_sound hK
      obtain ⟨k2, s', h7, h8⟩ := ih t' h nx Q h6
      refine ⟨k2, s', ?_, h8⟩
      rw [hw]
      exact ⟨t', h5, h7⟩
theorem nthN_getD : ∀ (l : List Nat) (i : Nat), nthN l i = l.getD i 0
  | [], _ => by simp [nthN]
  | _ :: _, 0 => rfl
  | _ :: r, n + 1 => by simp [nthN, nthN_getD r n]
theorem freeL_eq (ops : Array Oper) (i j : Nat) : freeL (bef ops).toList i j = free (bef ops) i j := by
  unfold freeL free
  rw [nthN_getD]; simp
theorem drawOkL_eq (ops : Array Oper) : drawOkL P ops (bef ops).toList = drawOk P ops := by
  unfold drawOkL drawOk
  simp only [freeL_eq]
  rfl
theorem revK_eq {α : Type} (K : List Nat → α) : ∀ (l o : List Nat), revK K l o = K (l.reverse ++ o)
  | [], o => rfl
  | x :: r, o => by rw [revK, revK_eq K r]; simp
theorem befK_eq' {α : Type} (K : List Nat → α) : ∀ (l : List Oper) (j : Nat) (acc : List Nat), befK K l j acc = K (CheckFast.beforeL l j acc)
  | [], j, acc => by rw [befK, revK_eq, CheckFast.beforeL]; simp
  | o :: r, j, acc => by rw [befK, CheckFast.force_eq, befK_eq' K r, CheckFast.beforeL, CheckFast.force_eq]
theorem befK_eq {α : Type} (K : List Nat → α) (ops : Array Oper) : befK K ops.toList 0 [] = K (bef ops).toList := by
  rw [befK_eq']
  have := CheckFast.beforeF_eq ops
  unfold bef
  rw [← this]
  rfl
theorem sameL_spec {b : List Nat} {i : Nat} {h h' : T Obj} {K : Prop} : ∀ {lp : List (Nat × Gd × Value)}, sameL b i h h' lp K → K ∧ ∀ q ∈ lp, freeL b q.1 i = true → onP q.2.1 (sameV q.2.2 h h') := by
  intro lp
  induction lp with
  | nil => intro h; exact ⟨h, fun q hq => by cases hq⟩
  | cons q lp ih =>
    intro hs
    simp only [sameL] at hs
    cases hf : freeL b q.1 i with
    | true =>
      rw [hf] at hs
      obtain ⟨h1, h2⟩ := ih hs.2
      refine ⟨h1, fun x hx hfx => ?_⟩
      rcases List.mem_cons.1 hx with rfl | hx
      · exact hs.1
      · exact h2 x hx hfx
    | false =>
      rw [hf] at hs
      obtain ⟨h1, h2⟩ := ih hs
      refine ⟨h1, fun x hx hfx => ?_⟩
      rcases List.mem_cons.1 hx with rfl | hx
      · rw [hf] at hfx; cases hfx
      · exact h2 x hx hfx
theorem sameM_spec {b : List Nat} {i : Nat} {v : Value} {K : Prop} : ∀ {mp : List (Nat × Gd × T Obj × T Obj)}, sameM b i v mp K → K ∧ ∀ q ∈ mp, freeL b q.1 i = true → onP q.2.1 (sameV v q.2.2.1 q.2.2.2) := by
  intro mp
  induction mp with
  | nil => intro h; exact ⟨h, fun q hq => by cases hq⟩
  | cons q mp ih =>
    intro hs
    simp only [sameM] at hs
    cases hf : freeL b q.1 i with
    | true =>
      rw [hf] at hs
      obtain ⟨h1, h2⟩ := ih hs.2
      refine ⟨h1, fun x hx hfx => ?_⟩
      rcases List.mem_cons.1 hx with rfl | hx
      · exact hs.1
      · exact h2 x hx hfx
    | false =>
      rw [hf] at hs
      obtain ⟨h1, h2⟩ := ih hs
      refine ⟨h1, fun x hx hfx => ?_⟩
      rcases List.mem_cons.1 hx with rfl | hx
      · rw [hf] at hfx; cases hfx
      · exact h2 x hx hfx
theorem rdVal_env {t : T Value} (op : Op) : rdVal P t op = rdE P (envOf t) op := by
  cases op with
  | load ty x => exact evl_env x
  | lookup ty x k ok => exact evl_env x
  | convert sx dx x =>
    simp only [rdVal, rdE]; rw [evl_env]
    cases und P sx with
    | none => rfl
    | some d => cases d <;> rfl
  | call c =>
    obtain ⟨callee, args, ts⟩ := c
    cases callee with
    | builtin b =>
      simp only [rdVal, rdE]; rw [evlL_env]
      cases (ts[0]?).bind (und P) with
      | none => rfl
      | some d => cases d <;> try rfl
                  all_goals (simp only; cases evsE (envOf t) args.toList with
                    | none => rfl
                    | some l => cases l with
                      | nil => rfl
                      | cons a r => cases r <;> rfl)
    | _ => rfl
  | _ => rfl
def RL (ls : List (Nat × Nat)) (lp : List (Nat × Gd × Value)) : Prop := ∀ q ∈ ls, ∃ g v, (q.1, g, v) ∈ lp ∧ gTrue g ∧ blk v = some q.2
def RM (ms : List (Nat × T Obj × T Obj)) (mp : List (Nat × Gd × T Obj × T Obj)) : Prop := ∀ q ∈ ms, ∃ g, (q.1, g, q.2) ∈ mp ∧ gTrue g
theorem RL.more {ls : List (Nat × Nat)} {lp : List (Nat × Gd × Value)} (h : RL ls lp) (x : Nat × Gd × Value) : RL ls (x :: lp) := fun q hq => by
  obtain ⟨g, v, h1, h2⟩ := h q hq
  exact ⟨g, v, List.mem_cons_of_mem _ h1, h2⟩
theorem RM.more {ms : List (Nat × T Obj × T Obj)} {mp : List (Nat × Gd × T Obj × T Obj)} (h : RM ms mp) (x : Nat × Gd × T Obj × T Obj) : RM ms (x :: mp) := fun q hq => by
  obtain ⟨g, h1, h2⟩ := h q hq
  exact ⟨g, List.mem_cons_of_mem _ h1, h2⟩
theorem ptD_sound {n n0 : Nat} {ops : Array Oper} : ∀ (l : List Oper) (i : Nat) (ls : List (Nat × Nat)) (ms : List (Nat × T Obj × T Obj)) (lp : List (Nat × Gd × Value)) (mp : List (Nat × Gd × T Obj × T Obj)) (t : T Value) (h : T Obj) (nx : Nat) (Q : Env → T Obj → Nat → Prop),
    RL ls lp → RM ms mp → ptD P ro (callP P ro) n ops (bef ops).toList n0 l i lp mp (envOf t) h nx Q → ∃ k s', opsD P ro (call P ro k) n ops n0 l i ls ms ⟨t, h, nx⟩ s' ∧ Q (envOf s'.t) s'.h s'.nx := by
  intro l
  induction l with
  | nil => intro i ls ms lp mp t h nx Q _ _ hl; exact ⟨0, _, rfl, hl⟩
  | cons o l ih =>
    intro i ls ms lp mp t h nx Q hrl hrm hl
    obtain ⟨g, h1, h2, hgt⟩ := gdP_sound hl
    simp only [opsD]
    cases hq : loud o.op with
    | true =>
      rw [hq] at h1
      simp only at h1
      rcases h2 _ _ _ _ h1 with ⟨hw, hA⟩ | ⟨hw, hK⟩
      · obtain ⟨k1, v, h', nx', h3, h4⟩ := ptO_sound hA
        obtain ⟨h4, hsame⟩ := sameL_spec h4
        obtain ⟨t', h5, h6⟩ := putP_sound h4
        obtain ⟨k2, s', h7, h8⟩ := ih (i + 1) ls ((i, h, h') :: ms) lp ((i, g, h, h') :: mp) t' h' nx' Q hrl (fun q hq => by
          rcases List.mem_cons.1 hq with rfl | hq
          · exact ⟨g, by simp, hgt hw⟩
          · obtain ⟨g', e1, e2⟩ := hrm q hq
            exact ⟨g', List.mem_cons_of_mem _ e1, e2⟩) h6
        refine ⟨max k1 k2, s', ?_, h8⟩
        rw [hw]
        refine ⟨v, h', nx', t', opR_le (call_le (Nat.le_max_left _ _)) h3, h5, ?_, opsD_le (call_le (Nat.le_max_right _ _)) _ _ _ _ _ _ h7⟩
        intro q hqm hf
        obtain ⟨g', v', e1, e2, e3⟩ := hrl q hqm
        have := onP_true (hsame _ e1 (by rw [freeL_eq]; exact hf)) e2
        unfold sameV at this
        simp only [e3] at this
        exact this
      · obtain ⟨t', h5, h6⟩ := putP_sound hK
        obtain ⟨k2, s', h7, h8⟩ := ih (i + 1) ls ms lp ((i, g, h, h) :: mp) t' h nx Q hrl (hrm.more _) h6
        refine ⟨k2, s', ?_, h8⟩
        rw [hw]
        exact ⟨t', h5, h7⟩
    | false =>
      rw [hq] at h1
      simp only at h1
      cases hloc : rdE P (envOf t) o.op with
      | some a =>
        rw [hloc] at h1
        simp only at h1
        rcases h2 _ _ _ _ h1 with ⟨hw, hA⟩ | ⟨hw, hK⟩
        · obtain ⟨k1, v, h', nx', h3, h4⟩ := ptO_sound hA
          obtain ⟨h4, hsame⟩ := sameM_spec h4
          obtain ⟨t', h5, h6⟩ := putP_sound h4
          cases hla : rdB P t o.op with
          | none =>
            obtain ⟨k2, s', h7, h8⟩ := ih (i + 1) ls ms ((i, g, a) :: lp) mp t' h' nx' Q (hrl.more _) hrm h6
            refine ⟨max k1 k2, s', ?_, h8⟩
            rw [hw]
            exact ⟨v, h', nx', t', opR_le (call_le (Nat.le_max_left _ _)) h3, h5, opsD_le (call_le (Nat.le_max_right _ _)) _ _ _ _ _ _ h7⟩
          | some ad =>
            have ha : blk a = some ad := by
              unfold rdB at hla
              rw [rdVal_env, hloc] at hla
              exact hla
            obtain ⟨k2, s', h7, h8⟩ := ih (i + 1) ((i, ad) :: ls) ms ((i, g, a) :: lp) mp t' h' nx' Q (fun q hq => by
              rcases List.mem_cons.1 hq with rfl | hq
              · exact ⟨g, a, by simp, hgt hw, ha⟩
              · obtain ⟨g', v', e1, e2⟩ := hrl q hq
                exact ⟨g', v', List.mem_cons_of_mem _ e1, e2⟩) hrm h6
            refine ⟨max k1 k2, s', ?_, h8⟩
            rw [hw]
            refine ⟨v, h', nx', t', opR_le (call_le (Nat.le_max_left _ _)) h3, h5, ?_, opsD_le (call_le (Nat.le_max_right _ _)) _ _ _ _ _ _ h7⟩
            intro q hqm hf
            obtain ⟨g', e1, e2⟩ := hrm q hqm
            have := onP_true (hsame _ e1 (by rw [freeL_eq]; exact hf)) e2
            unfold sameV at this
            simp only [ha] at this
            exact this
        · obtain ⟨t', h5, h6⟩ := putP_sound hK
          obtain ⟨k2, s', h7, h8⟩ := ih (i + 1) ls ms ((i, g, a) :: lp) mp t' h nx Q (hrl.more _) hrm h6
          refine ⟨k2, s', ?_, h8⟩
          rw [hw]
          exact ⟨t', h5, h7⟩
      | none =>
        rw [hloc] at h1
        simp only at h1
        have hla : rdB P t o.op = none := by
          unfold rdB
          rw [rdVal_env, hloc]; rfl
        rcases h2 _ _ _ _ h1 with ⟨hw, hA⟩ | ⟨hw, hK⟩
        · obtain ⟨k1, v, h', nx', h3, h4⟩ := ptO_sound hA
          obtain ⟨t', h5, h6⟩ := putP_sound h4
          obtain ⟨k2, s', h7, h8⟩ := ih (i + 1) ls ms lp mp t' h' nx' Q hrl hrm h6
          refine ⟨max k1 k2, s', ?_, h8⟩
          rw [hw, hla]
          exact ⟨v, h', nx', t', opR_le (call_le (Nat.le_max_left _ _)) h3, h5, opsD_le (call_le (Nat.le_max_right _ _)) _ _ _ _ _ _ h7⟩
        · obtain ⟨t', h5, h6⟩ := putP_sound hK
          obtain ⟨k2, s', h7, h8⟩ := ih (i + 1) ls ms lp mp t' h nx Q hrl hrm h6
          refine ⟨k2, s', ?_, h8⟩
          rw [hw]
          exact ⟨t', h5, h7⟩
/-! ### Code -/
def CodeP (P : Program) (ro : Ro) (n : Nat) (c : Code) (t : T Value) (h : T Obj) (nx : Nat) (Q : KE) : Prop := ∃ k x s', code P ro k n c ⟨t, h, nx⟩ x s' ∧ Q x (envOf s'.t) s'.h s'.nx
theorem iterP_sound {n : Nat} {b : Code} (ihb : ∀ (t : T Value) (h : T Obj) (nx : Nat) (Q : KE), pt P ro (callP P ro) n b (envOf t) h nx Q → CodeP P ro n b t h nx Q) :
    ∀ (j : Nat) (t : T Value) (h : T Obj) (nx : Nat) (Q : KE), iterP (pt P ro (callP P ro) n b) j (envOf t) h nx Q → CodeP P ro n (.loop b) t h nx Q := by
  intro j
  induction j with
  | zero => intro t h nx Q hi; exact hi.elim
  | succ j ih =>
    intro t h nx Q hi
    obtain ⟨k1, x, s1, h1, h2⟩ := ihb _ _ _ _ hi
    cases x with
    | normal =>
      obtain ⟨hh, h3, h4⟩ := h2
      obtain ⟨k2, x, s2, h5, h6⟩ := ih s1.t hh s1.nx Q h4
      exact ⟨max k1 k2 + 1, x, s2, .inl ⟨s1, hh, code_le (Nat.le_max_left _ _) _ _ _ _ _ h1, h3, code_le (Nat.le_max_right _ _) _ _ _ _ _ h5⟩, h6⟩
    | exit id => exact ⟨k1 + 1, _, s1, .inr ⟨by simp, h1⟩, h2⟩
    | ret => exact ⟨k1 + 1, _, s1, .inr ⟨by simp, h1⟩, h2⟩
theorem pt_sound {n : Nat} : ∀ (c : Code) (t : T Value) (h : T Obj) (nx : Nat) (Q : KE), pt P ro (callP P ro) n c (envOf t) h nx Q → CodeP P ro n c t h nx Q := by
  intro c
  induction c with
  | skip | label => intro t h nx Q hp; exact ⟨1, .normal, _, ⟨rfl, rfl⟩, hp⟩
  | ret => intro t h nx Q hp; exact ⟨1, .ret, _, ⟨rfl, rfl⟩, hp⟩
  | exit id => intro t h nx Q hp; exact ⟨1, .exit id, _, ⟨rfl, rfl⟩, hp⟩
  | seq a b iha ihb =>
    intro t h nx Q hp
    obtain ⟨k1, x, s1, h1, h2⟩ := iha _ _ _ _ hp
    cases x with
    | normal =>
      obtain ⟨k2, x, s2, h5, h6⟩ := ihb _ _ _ _ h2
      exact ⟨max k1 k2 + 1, x, s2, .inl ⟨s1, code_le (Nat.le_max_left _ _) _ _ _ _ _ h1, code_le (Nat.le_max_right _ _) _ _ _ _ _ h5⟩, h6⟩
    | exit id => exact ⟨k1 + 1, _, s1, .inr ⟨by simp, h1⟩, h2⟩
    | ret => exact ⟨k1 + 1, _, s1, .inr ⟨by simp, h1⟩, h2⟩
  | cond c a b iha ihb =>
    intro t h nx Q hp
    obtain ⟨v, h1, h2⟩ := bindP_some hp
    rw [← evl_env] at h1
    unfold condP at h2
    split at h2
    · obtain ⟨k, x, s1, h3, h4⟩ := iha _ _ _ _ h2
      exact ⟨k + 1, x, s1, ⟨true, h1, h3⟩, h4⟩
    · obtain ⟨k, x, s1, h3, h4⟩ := ihb _ _ _ _ h2
      exact ⟨k + 1, x, s1, ⟨false, h1, h3⟩, h4⟩
    · exact h2.elim
  | block id b ihb =>
    intro t h nx Q hp
    obtain ⟨k, x, s1, h1, h2⟩ := ihb _ _ _ _ hp
    cases x with
    | normal => exact ⟨k + 1, _, s1, ⟨_, h1, rfl⟩, h2⟩
    | ret => exact ⟨k + 1, _, s1, ⟨_, h1, rfl⟩, h2⟩
    | exit i =>
      refine ⟨k + 1, _, s1, ⟨_, h1, rfl⟩, ?_⟩
      have h2 : beqP (Nat.beq i id) (Q .normal (envOf s1.t) s1.h s1.nx) (Q (.exit i) (envOf s1.t) s1.h s1.nx) := h2
      simp only at ⊢
      cases hb : Nat.beq i id with
      | true => rw [hb] at h2; exact h2
      | false => rw [hb] at h2; exact h2
  | loop b ihb =>
    rintro t h nx Q ⟨j, hp⟩
    exact iterP_sound ihb j t h nx Q hp
  | scope b ihb =>
    intro t h nx Q hp
    obtain ⟨k, x, s1, h1, h2⟩ := ihb _ _ _ _ hp
    exact ⟨k + 1, x, s1, h1, h2⟩
  | region id ops draw =>
    intro t h nx Q hp
    cases draw with
    | false =>
      obtain ⟨k, s', h1, h2⟩ := ptOps_sound _ _ _ _ _ hp
      exact ⟨k + 1, .normal, s', ⟨rfl, h1⟩, h2⟩
    | true =>
      simp only [pt] at hp
      rw [befK_eq, drawOkL_eq] at hp
      cases hd : drawOk P ops with
      | false => rw [hd] at hp; exact hp.elim
      | true =>
        rw [hd] at hp
        obtain ⟨k, s', h1, h2⟩ := ptD_sound (P := P) (ro := ro) ops.toList 0 [] [] [] [] t h (nx + ops.size) (Q .normal) (fun q hq => by cases hq) (fun q hq => by cases hq) hp
        exact ⟨k + 1, .normal, s', ⟨rfl, hd, h1⟩, h2⟩
  | _ => intro t h nx Q hp; exact hp.elim
theorem resE_sound {t : T Value} {h : T Obj} : ∀ (rs : List ResultVar) (K : List Value → Prop), resE P ro (envOf t) h rs K → ∃ vs, resV P ro h t rs = some vs ∧ K vs := by
  intro rs
  induction rs with
  | nil => intro K hr; exact ⟨[], rfl, hr⟩
  | cons r rs ih =>
    intro K hr
    cases r with
    | tmp i =>
      obtain ⟨vs, h1, h2⟩ := ih _ hr
      exact ⟨_, by simp only [resV]; rw [h1]; rfl, h2⟩
    | cell a ty =>
      have key : ∃ ad v, envOf t a = .pointer (some ad) ∧ loadV P ro h ty ad = some v ∧ resE P ro (envOf t) h rs fun vs => K (v :: vs) := by
        simp only [resE] at hr
        split at hr
        · rename_i hagg
          obtain ⟨n, h1, hr⟩ := bindP_some hr
          obtain ⟨v, h2, hr⟩ := bindP_some hr
          obtain ⟨ad, h3, h4⟩ := bind_some' h2
          exact ⟨ad, v, asP_some h3, by unfold loadV; rw [hagg]; show (siz P ty).bind _ = _; rw [h1]; exact h4, hr⟩
        · rename_i hagg
          obtain ⟨v, h2, hr⟩ := bindP_some hr
          obtain ⟨ad, h3, h4⟩ := bind_some' h2
          exact ⟨ad, v, asP_some h3, by unfold loadV; rw [hagg]; exact h4, hr⟩
        · exact hr.elim
      obtain ⟨ad, v, h1, h2, h3⟩ := key
      obtain ⟨vs, h4, h5⟩ := ih _ h3
      refine ⟨_, ?_, h5⟩
      simp only [resV]
      have : (t.get a).getD undef = .pointer (some ad) := h1
      rw [this]
      simp only
      rw [h2, h4]; rfl
theorem envOf_entry {vs : List Value} : envOf (entryT vs 0 .e) = entE vs := by
  funext i
  unfold envOf entE
  rw [entryT_get]
  by_cases hi : i < vs.length
  · rw [if_pos (by omega), Nat.sub_zero]
  · rw [if_neg (by omega), T.get_e, List.getElem?_eq_none (by omega)]
/-- A call by its function's code. -/
theorem callP_of {f : FuncId} {fn : Func} {body : Code} {vs : List Value} {K : KV} (h1 : P.funcs[f]? = some fn) (h2 : fn.body = some body) (h3 : Nat.ble vs.length fn.ntmps = true)
    (hp : pt P ro (callP P ro) fn.ntmps body (entE vs) h nx (endP P ro fn.results.toList K)) : callP P ro f vs h nx K := by
  rw [← envOf_entry] at hp
  obtain ⟨k, x, s', h4, h5⟩ := pt_sound _ _ _ _ _ hp
  have key : (x = .normal ∨ x = .ret) ∧ resE P ro (envOf s'.t) s'.h fn.results.toList fun vs => ∃ h', Sub h' s'.h ∧ K (resOf vs) h' s'.nx := by
    cases x with
    | exit id => exact h5.elim
    | normal => exact ⟨.inl rfl, h5⟩
    | ret => exact ⟨.inr rfl, h5⟩
  obtain ⟨hx, hr⟩ := key
  obtain ⟨ws, h6, h', h7, h8⟩ := resE_sound _ _ hr
  exact ⟨k, resOf ws, h', s'.nx, .inl ⟨fn, body, x, s', ws, h1, h2, Nat.le_of_ble_eq_true h3, h4, hx, h6, rfl, h7, rfl⟩, h8⟩
/-- A call by what was shown of it beforehand. -/
theorem callP_orc {f : FuncId} {v : Value} {K : KV} (ho : Orc P f v) (hK : K v h nx) : callP P ro f [] h nx K := ⟨0, v, h, nx, .inr ⟨rfl, ho, fun _ _ e => e, rfl⟩, hK⟩
theorem callP_by {f : FuncId} {fn : Func} {vs : List Value} {K : KV} (h1 : P.funcs[f]? = some fn) (h2 : fn.body.isSome = true) (h3 : Nat.ble vs.length fn.ntmps = true)
    (hp : callPre P ro (callP P ro) fn vs h nx K) : callP P ro f vs h nx K := by
  cases hb : fn.body with
  | none => rw [hb] at h2; cases h2
  | some b =>
    refine callP_of h1 hb h3 ?_
    unfold callPre bodyOf at hp
    rw [hb] at hp
    exact hp
end
end V
end Go.Proofs.Ytepbdkfkfcckoaa
