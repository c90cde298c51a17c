/- The machine of VA held against the model's: code, calls.
   No condition. -/
import Derived.Test.YtepbdkfkfcckoaaVW
set_option linter.unusedVariables false
set_option linter.unusedSimpArgs false
namespace Go.Proofs.Ytepbdkfkfcckoaa
namespace V
def ExR : Ex → Exit → Prop
  | .normal, .normal => True
  | .exit i, .exit j => i = j
  | .ret, .ret => True
  | _, _ => False
section
variable {P : Program} {ro : Ro} {N n : Nat} {φ : Phi} {w0 w : World} {h h' : T Obj} {nx nx' : Nat} {t : T Value} {a : Act}
theorem entryT_get : ∀ (vs : List Value) (k : Nat) (t : T Value) (i : Nat), (entryT vs k t).get i = if k ≤ i ∧ i < k + vs.length then vs[i - k]? else t.get i := by
  intro vs
  induction vs with
  | nil => intro k t i; simp [entryT]; intro h1 h2; omega
  | cons v vs ih =>
    intro k t i
    rw [entryT, ih, T.get_upd, List.length_cons]
    by_cases h1 : k + 1 ≤ i ∧ i < k + 1 + vs.length
    · rw [if_pos h1, if_pos (by omega), show i - k = (i - (k + 1)) + 1 by omega, List.getElem?_cons_succ]
    · rw [if_neg h1]
      by_cases h2 : i = k
      · subst h2; rw [if_pos rfl, if_pos (by omega), Nat.sub_self]; rfl
      · rw [if_neg h2, if_neg (by omega)]
theorem entry_env {args : List Value} {args' : Array Value} (hl : LR N φ args args'.toList) (hle : args.length ≤ n) :
    EnvR N φ n (entryT args 0 .e) { tmps := args' ++ Array.replicate (n - args'.size) undef, defers := [] } := by
  have hlen : args.length = args'.size := by simpa using hl.length
  refine ⟨by simp; omega, fun i => ?_⟩
  rw [entryT_get]
  by_cases hi : i < args.length
  · rw [if_pos (by omega), Nat.sub_zero]
    obtain ⟨y, hy, hv⟩ := hl.some (List.getElem?_eq_getElem hi)
    rw [List.getElem?_eq_getElem hi]
    have hi' : i < args'.size := by omega
    have : (args' ++ Array.replicate (n - args'.size) undef).getD i undef = y := by
      simp [Array.getElem?_append, hi']
      have : args'.toList[i]? = some y := hy
      simp [hi'] at this
      exact this
    show VR N φ _ ((args' ++ Array.replicate (n - args'.size) undef).getD i undef)
    rw [this]; exact hv
  · rw [if_neg (by omega), T.get_e]
    have : (args' ++ Array.replicate (n - args'.size) undef).getD i undef = undef := by
      have hi' : ¬ i < args'.size := by omega
      simp [Array.getElem?_append, hi']
      by_cases hj : i - args'.size < n - args'.size
      · simp [Array.getElem?_replicate, hj]
      · simp [Array.getElem?_replicate, hj]
    show VR N φ _ ((args' ++ Array.replicate (n - args'.size) undef).getD i undef)
    rw [this]; exact VR.undef
/-- One result. -/
def rs1 (tmps : Array Value) : ResultVar → Sem Value
  | .tmp t => pure (tmps.getD t undef)
  | .cell x t => do loadVar t (← asAddr (tmps.getD x undef))
theorem results_eq (fn : Func) (tmps : Array Value) : results fn tmps = (do let vs ← fn.results.mapM (rs1 tmps); pure (if h : vs.size = 1 then vs[0] else .tuple vs)) := by
  unfold results
  congr 1
theorem rs1_cell {tmps : Array Value} {x : Tmp} {ty : TypeId} {b : Addr} (e : tmps.getD x undef = .pointer (some b)) : (rs1 tmps (.cell x ty)).run P w = (loadVar ty b).run P w := by
  simp only [rs1, e, asAddr]; rfl
theorem res_run (hS : Sim ro N φ w0 h.get w) (he : EnvR N φ n t a) : ∀ (rs : List ResultVar) (vs : List Value), resV P ro h t rs = some vs →
    ∃ vs', (rs.mapM (rs1 a.tmps)).run P w = .ok vs' w ∧ LR N φ vs vs' := by
  intro rs
  induction rs with
  | nil => intro vs h; simp [resV] at h; subst h; exact ⟨[], by simp, .nil⟩
  | cons r rs ih =>
    intro vs hr
    cases r with
    | tmp i =>
      simp only [resV] at hr
      obtain ⟨us, h1, hr⟩ := bind_some' hr
      cases hr
      obtain ⟨us', g1, g2⟩ := ih us h1
      refine ⟨a.tmps.getD i undef :: us', ?_, .cons (he.val i) g2⟩
      rw [List.mapM_cons, Sem.run_bind]
      show (Result.ok _ w).andThen _ = _
      rw [Result.andThen_ok, Sem.run_bind, g1]; rfl
    | cell x ty =>
      simp only [resV] at hr
      have hx := he.val x
      split at hr
      · rename_i ad hq
        obtain ⟨u, h0, hr⟩ := bind_some' hr
        obtain ⟨us, h1, hr⟩ := bind_some' hr
        cases hr
        rw [hq] at hx
        obtain ⟨b, e, hab⟩ := hx.of_ptr
        obtain ⟨v', q1, q2⟩ := hS.load (fun _ _ h => h) hab h0
        obtain ⟨us', g1, g2⟩ := ih us h1
        refine ⟨v' :: us', ?_, .cons q2 g2⟩
        rw [List.mapM_cons, Sem.run_bind, rs1_cell e, q1, Result.andThen_ok, Sem.run_bind, g1]; rfl
      · cases hr
theorem results_run (hS : Sim ro N φ w0 h.get w) (he : EnvR N φ n t a) {fn : Func} {vs : List Value} (hr : resV P ro h t fn.results.toList = some vs) :
    ∃ v', (results fn a.tmps).run P w = .ok v' w ∧ VR N φ (resOf vs) v' := by
  obtain ⟨vs', g1, g2⟩ := res_run (P := P) hS he _ _ hr
  rw [results_eq, Sem.run_bind, Array.mapM_eq_mapM_toList, Sem.run_map, g1]
  simp only [Result.andThen_ok, Sem.run_pure]
  cases g2 with
  | nil => exact ⟨_, rfl, VR.tupleL .nil⟩
  | cons h1 h2 =>
    cases h2 with
    | nil => exact ⟨_, rfl, h1⟩
    | cons h3 h4 =>
      refine ⟨_, rfl, ?_⟩
      rw [dif_neg (by simp)]
      exact VR.tupleL (.cons h1 (.cons h3 h4))
/-- What is shown of code. -/
def CodeOk (P : Program) (ro : Ro) (N : Nat) (w0 : World) (k : Nat) (X : CodeR) : Prop := ∀ n c s e s', X n c s e s' → ∀ (Q : Exit → Act → World → Prop) (a : Act) (w : World) (φ : Phi),
  SS ro N w0 φ s.h s.nx w → EnvR N φ n s.t a → (∀ e' a' w' φ', ExR e e' → Step ro N w0 φ s.h s.nx w φ' s'.h s'.nx w' → EnvR N φ' n s'.t a' → a'.defers = a.defers → Q e' a' w') →
  c.wp P Q a w ∧ ∀ b, c = .loop b → Code.rounds P b Q k a w
theorem callOk_of {X : CodeR} {k : Nat} (hX : CodeOk P ro N w0 k X) : CallOk P ro N w0 (callR P ro X) := by
  intro f args h nx v h' nx' hc
  rcases hc with ⟨fn, body, e, s, vs, h1, h2, h3, h4, h5, h6, rfl, h7, rfl⟩ | ⟨rfl, hO, h7, rfl⟩
  rotate_left
  · refine ⟨hO.2.1, fun φ w args' hs hl => ?_⟩
    have ha : args' = #[] := by
      have := hl.length
      simp at this
      exact Array.eq_empty_of_size_eq_zero this.symm
    subst ha
    refine (hO.2.2 w).mono fun e w' ⟨he, g1, g2, g3, g4, g5⟩ => ⟨v, φ, he, ⟨Phi.le_refl _, ⟨Sim.sub ?_ h7, hs.fresh⟩, Nat.le_refl _, fun _ _ => rfl, g1, fun b hb _ => g2 b hb, fun k B o r hk hφ => .inr ⟨k, o, r, ?_, hφ⟩, g3, g4, g5⟩, .flat hO.1⟩
    · exact ⟨hs.sim.n, Nat.le_trans hs.sim.le g1, fun b hb => (g2 b (Nat.lt_of_lt_of_le hb hs.sim.le)).trans (hs.sim.old b hb), fun k B o r hk => ⟨(hs.sim.dom k B o r hk).1, Nat.lt_of_lt_of_le (hs.sim.dom k B o r hk).2 g1⟩, hs.sim.inj,
        fun k o hk => by
          obtain ⟨B, b, r, o', q1, q2, q3⟩ := hs.sim.own k o hk
          exact ⟨B, b, r, o', q1, by rw [g2 B (hs.sim.dom k B b r q1).2]; exact q2, q3⟩, hs.sim.ro⟩
    · cases ho : h'.get k with
      | none => exact absurd ho hk
      | some x => rw [h7 k x ho]; simp
  refine ⟨⟨fn, h1, by rw [h2]; rfl⟩, fun φ w args' hs hl => ?_⟩
  refine calls_of_wp h1 h2 (hX _ _ _ _ _ h4 _ _ w φ hs (entry_env hl h3) ?_).1
  intro e' a' w' φ' g1 g2 g3 g4
  obtain ⟨v', q1, q2⟩ := results_run (P := P) g2.ss.sim g3 h6
  have fin : a'.defers = [] ∧ ∃ v, (results fn a'.tmps).run P w' = .ok v w' ∧ ∃ v' φ', Ending.returned v = .returned v' ∧ Step ro N w0 φ h nx w φ' h' s.nx w' ∧ VR N φ' (resOf vs) v' :=
    ⟨g4, v', q1, v', φ', rfl, g2.sub h7, q2⟩
  rcases h5 with rfl | rfl
  · cases e' <;> first | exact g1.elim | exact fin
  · cases e' <;> first | exact g1.elim | exact fin
theorem code_ok (hz : zerosOk P = true) (hn : namesOk P = true) (hm : P.follows .mixedOrders = true) : ∀ k, CodeOk P ro N w0 k (code P ro k) := by
  intro k
  induction k with
  | zero => intro n c s e s' h; exact h.elim
  | succ k ih =>
    intro n c s e s' hc Q a w φ hs he hQ
    have hcall := callOk_of ih
    change codeB P ro (code P ro k) n c s e s' at hc
    cases c with
    | skip => obtain ⟨rfl, rfl⟩ := hc; exact ⟨wp_skip (hQ .normal a w φ trivial (Step.refl hs) he rfl), fun b e => by cases e⟩
    | label l => obtain ⟨rfl, rfl⟩ := hc; exact ⟨wp_label (hQ .normal a w φ trivial (Step.refl hs) he rfl), fun b e => by cases e⟩
    | ret => obtain ⟨rfl, rfl⟩ := hc; exact ⟨wp_ret (hQ .ret a w φ trivial (Step.refl hs) he rfl), fun b e => by cases e⟩
    | exit id => obtain ⟨rfl, rfl⟩ := hc; exact ⟨wp_exit (hQ (.exit id) a w φ rfl (Step.refl hs) he rfl), fun b e => by cases e⟩
    | seq x y =>
      refine ⟨wp_seq ?_, fun b e => by cases e⟩
      rcases hc with ⟨s1, h1, h2⟩ | ⟨hne, h1⟩
      · refine (ih n x s .normal s1 h1 _ a w φ hs he ?_).1
        intro e' a' w' φ' g1 g2 g3 g4
        cases e' <;> first
          | exact g1.elim
          | exact (ih n y s1 e s' h2 _ a' w' φ' g2.ss g3 (fun e2 a2 w2 φ2 q1 q2 q3 q4 => hQ e2 a2 w2 φ2 q1 (g2.trans q2) q3 (q4.trans g4))).1
      · refine (ih n x s e s' h1 _ a w φ hs he ?_).1
        intro e' a' w' φ' g1 g2 g3 g4
        have := hQ e' a' w' φ' g1 g2 g3 g4
        cases e <;> cases e' <;> first
          | exact absurd rfl hne
          | exact g1.elim
          | exact this
    | cond c x y =>
      obtain ⟨v, h1, h2⟩ := hc
      refine ⟨wp_cond (t := v) ((he.evl h1).of_bool) ?_, fun b e => by cases e⟩
      cases v with
      | true => exact (ih n x s e s' h2 _ a w φ hs he hQ).1
      | false => exact (ih n y s e s' h2 _ a w φ hs he hQ).1
    | block id b =>
      obtain ⟨e1, h1, h2⟩ := hc
      refine ⟨wp_block ?_, fun b e => by cases e⟩
      refine (ih n b s e1 s' h1 _ a w φ hs he ?_).1
      intro e' a' w' φ' g1 g2 g3 g4
      cases e1 with
      | normal => cases e' <;> first | exact g1.elim | (subst h2; exact hQ .normal a' w' φ' trivial g2 g3 g4)
      | ret => cases e' <;> first | exact g1.elim | (subst h2; exact hQ .ret a' w' φ' trivial g2 g3 g4)
      | exit i =>
        cases e' <;> first
          | exact g1.elim
          | skip
        rename_i j
        have hij : i = j := g1
        subst hij
        simp only [Exit.inBlock]
        by_cases hid : i = id
        · subst hid
          have : e = .normal := by rw [h2]; simp
          subst this
          simp
          exact hQ .normal a' w' φ' trivial g2 g3 g4
        · have hb : Nat.beq i id = false := by
            cases hb : Nat.beq i id with
            | false => rfl
            | true => exact absurd (Nat.eq_of_beq_eq_true hb) hid
          have h2' : e = (match Nat.beq i id with | true => .normal | false => .exit i) := h2
          rw [hb] at h2'
          subst h2'
          simp [hid]
          exact hQ (.exit i) a' w' φ' rfl g2 g3 g4
    | loop b =>
      have hr : Code.rounds P b Q (k + 1) a w := by
        rw [rounds_succ]
        rcases hc with ⟨s1, hh, h1, h3, h2⟩ | ⟨hne, h1⟩
        · refine (ih n b s .normal s1 h1 _ a w φ hs he ?_).1
          intro e' a' w' φ' g1 g2 g3 g4
          cases e' <;> first
            | exact g1.elim
            | exact (ih n (.loop b) ⟨s1.t, hh, s1.nx⟩ e s' h2 _ a' w' φ' (g2.sub h3).ss g3 (fun e2 a2 w2 φ2 q1 q2 q3 q4 => hQ e2 a2 w2 φ2 q1 ((g2.sub h3).trans q2) q3 (q4.trans g4))).2 b rfl
        · refine (ih n b s e s' h1 _ a w φ hs he ?_).1
          intro e' a' w' φ' g1 g2 g3 g4
          have := hQ e' a' w' φ' g1 g2 g3 g4
          cases e <;> cases e' <;> first
            | exact absurd rfl hne
            | exact g1.elim
            | exact this
      exact ⟨wp_loop_rounds _ hr, fun b' e => by cases e; exact hr⟩
    | scope b =>
      refine ⟨wp_scope_straight ?_, fun b e => by cases e⟩
      refine (ih n b s e s' hc _ a w φ hs he ?_).1
      intro e' a' w' φ' g1 g2 g3 g4
      have := hQ e' a' w' φ' g1 g2 g3 g4
      cases e <;> cases e' <;> first
        | exact g1.elim
        | exact this
    | region id ops draw =>
      obtain ⟨rfl, hreg⟩ := hc
      refine ⟨?_, fun b e => by cases e⟩
      cases draw with
      | false =>
        exact wp_region_list (ops_wp hz hn hcall ops.toList s s' φ w a hs he hreg (fun a' w' φ' g1 g2 g3 => hQ .normal a' w' φ' trivial g1 g2 g3))
      | true =>
        obtain ⟨hd, hreg⟩ := hreg
        exact draw_wp hz hn hm hcall (callR_mono (code_mono k)) hd hs he hreg (fun a' w' φ' g1 g2 g3 => hQ .normal a' w' φ' trivial g1 g2 g3)
    | _ => exact hc.elim
/-- A call of the machine is a call of the model's. -/
theorem call_sound (hz : zerosOk P = true) (hn : namesOk P = true) (hm : P.follows .mixedOrders = true) {k : Nat} : CallOk P ro N w0 (call P ro k) := callOk_of (code_ok hz hn hm k)
end
end V
end Go.Proofs.Ytepbdkfkfcckoaa
