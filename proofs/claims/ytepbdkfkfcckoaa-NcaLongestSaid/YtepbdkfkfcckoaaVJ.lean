/- The machine of VA held against the model's: all quiet operations.
   No condition. -/
import Derived.Test.YtepbdkfkfcckoaaVI
set_option linter.unusedVariables false
set_option linter.unusedSimpArgs false
namespace Go.Proofs.Ytepbdkfkfcckoaa
namespace V

section
variable {P : Program} {ro : Ro} {N : Nat} {φ : Phi} {w0 w : World} {H : Nat → Option Obj} {h : T Obj}
theorem look_sound (hz : zerosOk P = true) (hS : Sim ro N φ w0 H w) (hsub : ∀ k o, h.get k = some o → H k = some o) {t : TypeId} {x x' k k' v : Value} {ok : Bool} (hl : lookV P h t x k ok = some v) (hx : VR N φ x x') (hk : VR N φ k k') :
    ∃ v', (Instr.lookup t x' k' ok).run P w = .ok v' w ∧ VR N φ v v' := by
  unfold lookV at hl
  split at hl
  case h_2 => cases hl
  rename_i kt et r hu
  cases hok : keyOk P kt k with
  | false => rw [hok] at hl; cases hl
  | true =>
    rw [hok] at hl
    obtain ⟨rfl, hkk⟩ := keyOk_flat hok hk
    have fin : ∀ (es : List MapEntry) (ES : Array MapEntry), ER N φ es ES.toList → lookIn P kt et k' ok es = some v →
        ∃ r' u b, (Instr.findKey kt k' ES.toList).run P w = .ok r' w ∧ (∀ i y, r' = some (i, y) → u = y ∧ b = true) ∧ (r' = none → (zeroValue et).run P w = .ok u w ∧ b = false) ∧ VR N φ v (if ok then .tuple #[u, .bool b] else u) := by
      intro es ES he hf
      unfold lookIn at hf
      cases hr : findV P kt k' es 0 with
      | none => rw [hr] at hf; cases hf
      | some f =>
        rw [hr] at hf
        obtain ⟨r', g1, g2⟩ := find_sound (P := P) (w := w) hok hkk he hr
        cases f with
        | some f =>
          cases r' with
          | none => exact g2.elim
          | some y =>
            obtain ⟨yi, yv⟩ := y
            simp only [Option.bind, gotV] at hf
            cases hf
            refine ⟨_, yv, true, g1, fun i y e => by cases e; exact ⟨rfl, rfl⟩, (by intro e; cases e), ?_⟩
            cases ok with
            | true => exact VR.tupleL (.cons g2.2 (.cons (.flat rfl) .nil))
            | false => exact g2.2
        | none =>
          cases r' with
          | some y => exact g2.elim
          | none =>
            simp only [Option.bind, gotV] at hf
            cases hze : zer P et with
            | none => rw [hze] at hf; cases hf
            | some z =>
              rw [hze] at hf
              have hzf : VR N φ z z := by
                have hfl := zer_flat hz hze
                by_cases ha : ∃ cs, z = .agg cs
                · obtain ⟨cs, rfl⟩ := ha; exact VR.aggL (LR.flat hfl)
                · have : z.cells = #[z] := by cases z <;> first | rfl | exact absurd ⟨_, rfl⟩ ha
                  rw [this] at hfl
                  exact .flat (hfl z (by simp))
              cases hf
              refine ⟨_, z, false, g1, (by intro i y e; cases e), fun _ => ⟨run_zer hze, rfl⟩, ?_⟩
              cases ok with
              | true => exact VR.tupleL (.cons hzf (.cons (.flat rfl) .nil))
              | false => exact hzf
    cases r with
    | none =>
      rw [hx.of_nilMap]
      obtain ⟨r', u, b, g1, g2, g3, g4⟩ := fin [] #[] .nil hl
      refine ⟨_, ?_, g4⟩
      have hck := check_run (P := P) (w := w) (#[] : Array MapEntry).isEmpty hok
      cases r' with
      | none => obtain ⟨g5, rfl⟩ := g3 rfl; simp only [Instr.lookup, Sem.run_bind, run_und hu, Result.andThen_ok, Sem.run_pure, hck, g1, g5]
      | some y => obtain ⟨yi, yv⟩ := y; obtain ⟨rfl, rfl⟩ := g2 _ _ rfl; simp only [Instr.lookup, Sem.run_bind, run_und hu, Result.andThen_ok, Sem.run_pure, hck, g1]
    | some r =>
      obtain ⟨B, rfl, hφ⟩ := hx.of_map
      simp only [mapAt] at hl
      cases he : entriesAt h r with
      | none => rw [he] at hl; cases hl
      | some es =>
        rw [he] at hl
        obtain ⟨ES, e1, e2⟩ := hS.entries hsub hφ he
        obtain ⟨r', u, b, g1, g2, g3, g4⟩ := fin es.1 ES e2 hl
        refine ⟨_, ?_, g4⟩
        have hgo : (getObj B).run P w = .ok (.map ES es.2) w := by simp [getObj, Sem.run, e1]
        have hck := check_run (P := P) (w := w) ES.isEmpty hok
        cases r' with
        | none => obtain ⟨g5, rfl⟩ := g3 rfl; simp only [Instr.lookup, Sem.run_bind, run_und hu, Result.andThen_ok, Sem.run_pure, hgo, hck, g1, g5]
        | some y => obtain ⟨yi, yv⟩ := y; obtain ⟨rfl, rfl⟩ := g2 _ _ rfl; simp only [Instr.lookup, Sem.run_bind, run_und hu, Result.andThen_ok, Sem.run_pure, hgo, hck, g1]
theorem ER.length {es ES : List MapEntry} (h : ER N φ es ES) : es.length = ES.length := by
  induction h with
  | nil => rfl
  | cons _ _ _ _ ih => simp [ih]
theorem len_sound (hS : Sim ro N φ w0 H w) (hsub : ∀ k o, h.get k = some o → H k = some o) {ts : Array TypeId} {t ty : TypeId} {x x' v : Value} (ht : ts[0]? = some t) (hl : lenV P h t x = some v) (hx : VR N φ x x') :
    (Builtin.len_ ts ty #[x']).run P w = .ok v w ∧ flat v = true := by
  unfold lenV at hl
  unfold Builtin.len_
  split at hl
  · rename_i s0 hu
    cases hl; rw [hx.of_string]; simp [ht, run_und hu, flat, goInt]
  · rename_i n e hu
    cases hl; simp [ht, run_und hu, flat, goInt]
  · rename_i e a l c hu
    cases hl
    have : ∃ b c', x' = .slice b l c' := by
      cases a with
      | none => exact ⟨_, _, hx.of_nilSlice⟩
      | some a => obtain ⟨b, c', rfl, _⟩ := hx.of_slice; exact ⟨_, _, rfl⟩
    obtain ⟨b, c', rfl⟩ := this
    simp [ht, run_und hu, flat, goInt]
  · rename_i k e hu
    cases hl; rw [hx.of_nilMap]; simp [ht, run_und hu, flat, goInt]
  · rename_i k e r hu
    obtain ⟨B, rfl, hφ⟩ := hx.of_map
    cases he : entriesAt h r with
    | none => rw [he] at hl; cases hl
    | some es =>
      rw [he] at hl; cases hl
      obtain ⟨ES, e1, e2⟩ := hS.entries hsub hφ he
      have hgo : (getObj B).run P w = .ok (.map ES es.2) w := by simp [getObj, Sem.run, e1]
      have := e2.length
      simp [ht, run_und hu, flat, goInt, hgo]
      simp at this; omega
  · cases hl
theorem minV_ints (less : Bool) : ∀ (n : Nat) (l : List Value) (v : Value), l.length = n → minV less l = some v → (∀ x ∈ l, ∃ k n, x = .int k n) ∧ ∃ k n, v = .int k n := by
  intro n
  induction n with
  | zero => intro l v hl h; simp at hl; subst hl; simp [minV] at h
  | succ n ih =>
    intro l v hl h
    unfold minV at h
    split at h
    · simp at hl
    · rename_i k x; cases h; exact ⟨fun y hy => by simp at hy; subst hy; exact ⟨_, _, rfl⟩, _, _, rfl⟩
    · rename_i k x k' y r
      obtain ⟨h1, h2⟩ := ih _ v (by simpa using hl) h
      exact ⟨fun z hz => by
        simp at hz
        rcases hz with rfl | rfl | hz
        · exact ⟨_, _, rfl⟩
        · exact ⟨_, _, rfl⟩
        · exact h1 z (by simp [hz]), h2⟩
    · cases h
theorem min_run : ∀ (r : List Value) (k : IntKind) (x : Int) (v : Value), minV true (.int k x :: r) = some v → (r.foldlM Builtin.min2 (.int k x) : Sem Value).run P w = .ok v w := by
  intro r
  induction r with
  | nil => intro k x v h; simp [minV] at h; subst h; rfl
  | cons y r ih =>
    intro k x v h
    unfold minV at h
    cases y <;> simp only at h <;> try (cases h; done)
    rename_i k' y
    rw [List.foldlM_cons, Sem.run_bind]
    have e : (Builtin.min2 (.int k x) (.int k' y)).run P w = .ok (.int k (if y < x then y else x)) w := rfl
    rw [e, Result.andThen_ok]
    refine ih k _ v ?_
    by_cases hyx : y < x
    · simpa [hyx] using h
    · simpa [hyx] using h
theorem max_run : ∀ (r : List Value) (k : IntKind) (x : Int) (v : Value), minV false (.int k x :: r) = some v → (r.foldlM Builtin.max2 (.int k x) : Sem Value).run P w = .ok v w := by
  intro r
  induction r with
  | nil => intro k x v h; simp [minV] at h; subst h; rfl
  | cons y r ih =>
    intro k x v h
    unfold minV at h
    cases y <;> simp only at h <;> try (cases h; done)
    rename_i k' y
    rw [List.foldlM_cons, Sem.run_bind]
    have e : (Builtin.max2 (.int k x) (.int k' y)).run P w = .ok (.int k (if y > x then y else x)) w := rfl
    rw [e, Result.andThen_ok]
    refine ih k _ v ?_
    by_cases hyx : x < y
    · simpa [hyx] using h
    · simpa [hyx] using h
theorem builtin_sound (hS : Sim ro N φ w0 H w) (hsub : ∀ k o, h.get k = some o → H k = some o) {b : Builtin} {ts : Array TypeId} {ty : TypeId} {cs : Array Bool} {vs : List Value} {vs' : Array Value} {v : Value} (hb : builtinQ P h b ts vs = some v) (hv : LR N φ vs vs'.toList) :
    (builtin b ts ty cs vs').run P w = .ok (.value v) w ∧ flat v = true := by
  unfold builtinQ at hb
  split at hb
  · rename_i x
    cases ht : ts[0]? with
    | none => rw [ht] at hb; cases hb
    | some t =>
      rw [ht] at hb
      have : ∃ x', vs' = #[x'] ∧ VR N φ x x' := by
        obtain ⟨l⟩ := vs'
        cases hv with
        | cons h1 h2 => cases h2; exact ⟨_, rfl, h1⟩
      obtain ⟨x', rfl, hx⟩ := this
      obtain ⟨g1, g2⟩ := len_sound (ty := ty) (w := w) hS hsub ht hb hx
      exact ⟨by simp [builtin, g1], g2⟩
  · obtain ⟨hi, k0, n0, rfl⟩ := minV_ints true _ vs v rfl hb
    have e := hv.flat_eq (fun x hx => by obtain ⟨k, n, rfl⟩ := hi x hx; rfl)
    refine ⟨?_, rfl⟩
    cases vs with
    | nil => simp [minV] at hb
    | cons x r =>
      obtain ⟨k, n, rfl⟩ := hi x (by simp)
      have := min_run (P := P) (w := w) r k n _ hb
      simp [builtin, Builtin.min_, e, this]
  · obtain ⟨hi, k0, n0, rfl⟩ := minV_ints false _ vs v rfl hb
    have e := hv.flat_eq (fun x hx => by obtain ⟨k, n, rfl⟩ := hi x hx; rfl)
    refine ⟨?_, rfl⟩
    cases vs with
    | nil => simp [minV] at hb
    | cons x r =>
      obtain ⟨k, n, rfl⟩ := hi x (by simp)
      have := max_run (P := P) (w := w) r k n _ hb
      simp [builtin, Builtin.max_, e, this]
  · rename_i l c
    cases ht : ts[0]? with
    | none => rw [ht] at hb; cases hb
    | some t =>
      rw [ht] at hb
      simp only [Option.bind] at hb
      have : vs' = #[.slice none l c] := by
        obtain ⟨l⟩ := vs'
        cases hv with
        | cons h1 h2 => cases h2; rw [h1.of_nilSlice]
      subst this
      split at hb
      · rename_i e hu
        cases hb
        refine ⟨?_, rfl⟩
        simp [builtin, Builtin.cap_, ht, run_und hu, goInt]
      · cases hb
  · cases hb
/-! ### Operands -/
variable {t : T Value} {ρ : Operand → Value}
theorem evlL_LR : ∀ {xs : List Operand} {vs : List Value}, (∀ x ∈ xs, ∀ v, evl t x = some v → VR N φ v (ρ x)) → evlL t xs = some vs → LR N φ vs (xs.map ρ) := by
  intro xs
  induction xs with
  | nil => intro vs _ h; simp [evlL] at h; subst h; exact .nil
  | cons x xs ih =>
    intro vs henv h
    simp only [evlL] at h
    cases hx : evl t x with
    | none => rw [hx] at h; cases h
    | some v =>
      rw [hx] at h
      cases hr : evlL t xs with
      | none => rw [hr] at h; cases h
      | some r => rw [hr] at h; cases h; exact .cons (henv x (by simp) v hx) (ih (fun y hy => henv y (by simp [hy])) hr)
theorem evlP_PR : ∀ {xs : List (Nat × Operand)} {vs : List (Nat × Value)}, (∀ x ∈ xs.map (·.2), ∀ v, evl t x = some v → VR N φ v (ρ x)) → evlP t xs = some vs → PR N φ vs (xs.map fun x => (x.1, ρ x.2)) := by
  intro xs
  induction xs with
  | nil => intro vs _ h; simp [evlP] at h; subst h; exact .nil
  | cons x xs ih =>
    intro vs henv h
    simp only [evlP] at h
    cases hx : evl t x.2 with
    | none => rw [hx] at h; cases h
    | some v =>
      rw [hx] at h
      cases hr : evlP t xs with
      | none => rw [hr] at h; cases h
      | some r => rw [hr] at h; cases h; exact .cons (henv x.2 (by simp) v hx) (ih (fun y hy => henv y (by simp at hy ⊢; exact .inr hy)) hr)
theorem evlO_num {o : Option Operand} {u : Option Value} (henv : ∀ x ∈ o.toArray, ∀ v, evl t x = some v → VR N φ v (ρ x)) (h : evlO t o = some u) (hn : numO u) : o.map ρ = u := by
  cases o with
  | none => simp [evlO] at h; subst h; rfl
  | some x =>
    simp only [evlO] at h
    cases hx : evl t x with
    | none => rw [hx] at h; cases h
    | some v =>
      rw [hx] at h; cases h
      obtain ⟨k, n, rfl⟩ := hn v rfl
      have := (henv x (by simp) _ hx).of_int
      simp [this]
/-- What is shown of a quiet operation. -/
def QNext (N : Nat) (φ : Phi) (aid : Nat) (w : World) (v : Value) (ob : Option Obj) (r : Result Next) : Prop :=
  ∃ v' w', r = .ok (.value v') w' ∧ match ob with
    | none => w' = w ∧ VR N φ v v'
    | some o => ∃ o' rm, w'.heap = w.heap.push o' ∧ w'.os = w.os ∧ w'.tape = w.tape ∧ w'.output = w.output ∧ (N ≤ w.heap.size → ∀ ψ, Phi.le φ ψ → ψ aid = some (w.heap.size, 0, rm) → VR N ψ v v' ∧ OR N ψ o o' 0 rm)
theorem QNext.of {aid : Nat} {v : Value} {ob : Option Obj} {s : Sem Value} (h : QPost N φ aid w v ob (s.run P w)) : QNext N φ aid w v ob ((do pure (.value (← s)) : Sem Next).run P w) := by
  obtain ⟨v', w', h1, h2⟩ := h
  exact ⟨v', w', by rw [Sem.run_bind, h1]; rfl, h2⟩
theorem QNext.same {aid : Nat} {v v' : Value} {s : Sem Value} (h : s.run P w = .ok v' w) (hv : VR N φ v v') : QNext N φ aid w v none ((do pure (.value (← s)) : Sem Next).run P w) :=
  QNext.of (QPost.value h hv)
theorem QNext.pure {aid : Nat} {v v' : Value} (hv : VR N φ v v') : QNext N φ aid w v none ((Pure.pure (Next.value v') : Sem Next).run P w) := ⟨v', w, rfl, rfl, hv⟩
end
end V
end Go.Proofs.Ytepbdkfkfcckoaa
