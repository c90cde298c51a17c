/- The machine of VA held against the model's: operators, slices, indexes, conversions.
   No condition. -/
import Derived.Test.YtepbdkfkfcckoaaVF
set_option linter.unusedVariables false
set_option linter.unusedSimpArgs false
namespace Go.Proofs.Ytepbdkfkfcckoaa
namespace V

section
variable {P : Program} {ro : Ro} {N : Nat} {φ : Phi} {w0 w : World} {H : Nat → Option Obj} {h : T Obj}
theorem eqCell_flat {k : Nat} {x y : Value} {b : Bool} (h : eqCell k x y = some b) : flat x = true ∧ flat y = true := by
  match k, x, y, h with
  | 0, .bool a, .bool c, _ => exact ⟨rfl, rfl⟩
  | 1, .int k a, .int k' c, _ => exact ⟨rfl, rfl⟩
  | 2, .string a, .string c, _ => exact ⟨rfl, rfl⟩
theorem eqCells_same : ∀ {ks : List Nat} {xs ys xs' ys' : List Value} {b : Bool}, eqCells ks xs ys = some b → LR N φ xs xs' → LR N φ ys ys' → xs' = xs ∧ ys' = ys := by
  intro ks
  induction ks with
  | nil =>
    intro xs ys xs' ys' b h hx hy
    cases xs <;> cases ys <;> simp [eqCells] at h
    cases hx; cases hy; exact ⟨rfl, rfl⟩
  | cons k ks ih =>
    intro xs ys xs' ys' b h hx hy
    cases xs <;> cases ys <;> simp only [eqCells] at h <;> try (cases h; done)
    rename_i x xs y ys
    cases hx with
    | cons hxv hxt => cases hy with
      | cons hyv hyt =>
        cases h1 : eqCell k x y with
        | none => rw [h1] at h; simp at h
        | some c =>
          rw [h1] at h
          cases h2 : eqCells ks xs ys with
          | none => rw [h2] at h; simp at h
          | some d =>
            obtain ⟨rfl, rfl⟩ := ih h2 hxt hyt
            obtain ⟨f1, f2⟩ := eqCell_flat h1
            rw [hxv.of_flat f1, hyv.of_flat f2]; exact ⟨rfl, rfl⟩
theorem VR.isNone {a : Option Addr} {v : Value} (hv : VR N φ (.pointer a) v) : ∃ b, v = .pointer b ∧ b.isNone = a.isNone := by
  cases a with
  | none => exact ⟨none, hv.of_nilPtr, rfl⟩
  | some a => obtain ⟨b, rfl, _⟩ := hv.of_ptr; exact ⟨_, rfl, rfl⟩
theorem VR.isNoneS {a : Option Addr} {l c : Nat} {v : Value} (hv : VR N φ (.slice a l c) v) : ∃ b l' c', v = .slice b l' c' ∧ b.isNone = a.isNone := by
  cases a with
  | none => exact ⟨none, _, _, hv.of_nilSlice, rfl⟩
  | some a => obtain ⟨b, c', rfl, _⟩ := hv.of_slice; exact ⟨_, _, _, rfl, rfl⟩
theorem agg_valOf {t : TypeId} (h : isAgg P t = some true) (xs : Array Value) : valOf P t xs.toList = .agg xs := by unfold valOf; rw [h]
/-- Neither of the kinds that the model's operators look at first. -/
def other : Value → Bool
  | .int _ _ | .string _ | .float _ _ | .complex _ _ _ | .nilIface => false
  | _ => true
theorem nil_sound {t : TypeId} {d : TypeDesc} (hu : und P t = some d) {x y x' y' : Value} {b : Bool} (h : nilEq d x y = some b) (hx : VR N φ x x') (hy : VR N φ y y') :
    (Op.equal t x' y').run P w = .ok b w ∧ (∀ xs, x' ≠ .agg xs) ∧ other x' = true := by
  unfold Op.equal Op.maxDepth Op.equalIn
  rw [Sem.run_bind, run_und hu, Result.andThen_ok]
  cases d <;> cases x <;> cases y <;> simp only [nilEq] at h <;> try (cases h; done)
  case bool.bool.bool =>
    rw [hx.of_bool, hy.of_bool]
    simp at h; simp [h, other]
  case pointer.pointer.pointer e a c =>
    obtain ⟨a', rfl, ha⟩ := hx.isNone
    obtain ⟨c', rfl, hc⟩ := hy.isNone
    refine ⟨?_, by simp, rfl⟩
    cases a <;> cases a' <;> simp at ha <;> cases c <;> cases c' <;> simp at hc <;> simp [nilEq] at h <;> subst h <;> simp
  case slice.slice.slice e a l1 c1 c l2 c2 =>
    obtain ⟨a', _, _, rfl, ha⟩ := hx.isNoneS
    obtain ⟨c', _, _, rfl, hc⟩ := hy.isNoneS
    refine ⟨?_, by simp, rfl⟩
    cases a <;> cases a' <;> simp at ha <;> cases c <;> cases c' <;> simp at hc <;> simp [nilEq] at h <;> subst h <;> simp
theorem agg_sound {t : TypeId} {xs ys xs' ys' : Array Value} {b : Bool} (h : (match isAgg P t with
    | some true => (plainTy P 20 t).bind fun ks => eqCells ks xs.toList ys.toList
    | _ => none) = some b) (hx : LR N φ xs.toList xs'.toList) (hy : LR N φ ys.toList ys'.toList) :
    xs' = xs ∧ ys' = ys ∧ (Op.equal t (.agg xs) (.agg ys)).run P w = .ok b w ∧ P.eqGuardType P.depth t = false := by
  cases hg : isAgg P t with
  | none => rw [hg] at h; cases h
  | some g =>
    cases g with
    | false => rw [hg] at h; cases h
    | true =>
      rw [hg] at h
      cases hp : plainTy P 20 t with
      | none => rw [hp] at h; cases h
      | some ks =>
        rw [hp] at h
        simp only [Option.bind] at h
        obtain ⟨e1, e2⟩ := eqCells_same h hx hy
        have e1' : xs' = xs := Array.ext' e1
        have e2' : ys' = ys := Array.ext' e2
        refine ⟨e1', e2', ?_, plain_guard 20 t ks hp _ (by unfold Program.depth Made.depth; omega)⟩
        have := plain_eq (P := P) (w := w) 20 t ks hp 10000 (by omega) xs.toList ys.toList b h
        rw [agg_valOf hg, agg_valOf hg] at this
        exact this
theorem eql_sound {t : TypeId} {x y x' y' : Value} {b : Bool} (h : eqlV P t x y = some b) (hx : VR N φ x x') (hy : VR N φ y y') :
    (Op.equal t x' y').run P w = .ok b w ∧ (∀ xs ys, x' = .agg xs → y' = .agg ys → P.eqGuardType P.depth t = false) ∧ other x' = true := by
  have gen : ((und P t).bind fun d => nilEq d x y) = some b → (Op.equal t x' y').run P w = .ok b w ∧ (∀ xs ys, x' = .agg xs → y' = .agg ys → P.eqGuardType P.depth t = false) ∧ other x' = true := by
    intro h
    cases hu : und P t with
    | none => rw [hu] at h; cases h
    | some d =>
      rw [hu] at h
      obtain ⟨h1, h2, h3⟩ := nil_sound (w := w) hu h hx hy
      exact ⟨h1, fun xs _ e _ => absurd e (h2 xs), h3⟩
  cases x <;> cases y <;> first
    | exact gen h
    | (rename_i xs ys
       obtain ⟨xs', rfl, hxl⟩ := hx.of_agg
       obtain ⟨ys', rfl, hyl⟩ := hy.of_agg
       obtain ⟨rfl, rfl, h1, h2⟩ := agg_sound (w := w) h hxl hyl
       exact ⟨h1, fun _ _ _ _ => h2, rfl⟩)
theorem bin_other {op : BinOp} {t : TypeId} {x y : Value} (hx : other x = true) : (op = .eql → binOp op t x y = (do pure (.bool (← Op.equal t x y)))) ∧ (op = .neq → binOp op t x y = (do pure (.bool (!(← Op.equal t x y))))) := by
  refine ⟨fun e => ?_, fun e => ?_⟩ <;> subst e <;> cases x <;> simp [other] at hx <;> cases y <;> rfl
theorem bin_sound {op : BinOp} {t : TypeId} {x y x' y' v : Value} {xo yo : Operand} (h : binV P op t x y = some v) (hx : VR N φ x x') (hy : VR N φ y y') :
    (do eqGuard op t xo yo x' y'; binOp op t x' y' : Sem Value).run P w = .ok v w ∧ flat v = true := by
  have gen : eqOpV P op t x y = some v → (do eqGuard op t xo yo x' y'; binOp op t x' y' : Sem Value).run P w = .ok v w ∧ flat v = true := by
    intro h
    unfold eqOpV at h
    cases op <;> simp only at h <;> try (cases h; done)
    case eql =>
      cases hb : eqlV P t x y with
      | none => rw [hb] at h; cases h
      | some b =>
        rw [hb] at h; cases h
        obtain ⟨h1, h2, h3⟩ := eql_sound (w := w) hb hx hy
        refine ⟨?_, rfl⟩
        rw [Sem.run_bind, guard_ok _ _ _ _ _ _ h2 (by intro e; subst e; cases h3), Result.andThen_ok, (bin_other h3).1 rfl]
        simp [h1]
    case neq =>
      cases hb : eqlV P t x y with
      | none => rw [hb] at h; cases h
      | some b =>
        rw [hb] at h; cases h
        obtain ⟨h1, h2, h3⟩ := eql_sound (w := w) hb hx hy
        refine ⟨?_, rfl⟩
        rw [Sem.run_bind, guard_ok _ _ _ _ _ _ h2 (by intro e; subst e; cases h3), Result.andThen_ok, (bin_other h3).2 rfl]
        simp [h1]
  cases x <;> cases y <;> first
    | exact gen h
    | (rename_i k a k' b
       rw [hx.of_int, hy.of_int, Sem.run_bind, guard_ok _ _ _ _ _ _ (by intro _ _ e; cases e) (by simp), Result.andThen_ok]
       have hsh : ∀ {v}, shiftV op k a b = some v → (binOp op t (.int k a) (.int k' b)).run P w = .ok v w ∧ flat v = true := fun h => (shift_run t h).2
       have hint : (op ≠ .shl ∧ op ≠ .shr) → (match decide (k = k') with | true => intV op k a b | false => none) = some v → (binOp op t (.int k a) (.int k' b)).run P w = .ok v w ∧ flat v = true := by
         intro hne h
         by_cases hk : k = k'
         · subst hk; simp at h; exact int_run t h hne
         · simp [hk] at h
       cases op <;> first | exact hsh h | exact hint (by simp) h)
    | (rename_i a b
       rw [hx.of_string, hy.of_string, Sem.run_bind, guard_ok _ _ _ _ _ _ (by intro _ _ e; cases e) (by simp), Result.andThen_ok]
       exact str_run t h)
theorem un_sound {op : UnOp} {x x' v : Value} (h : unV op x = some v) (hx : VR N φ x x') : (Op.unary op x').run P w = .ok v w ∧ flat v = true := by
  cases op <;> cases x <;> simp [unV] at h <;> subst h
  · rw [hx.of_int]; refine ⟨?_, rfl⟩; simp [Op.unary, Op.intArith, wr_eq]
  · rw [hx.of_bool]; refine ⟨?_, rfl⟩; simp [Op.unary]
end
end V
end Go.Proofs.Ytepbdkfkfcckoaa
