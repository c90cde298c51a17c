/- The machine of VA by what stands behind: it tells the truth.
   No condition. -/
import Derived.Test.YtepbdkfkfcckoaaVX
set_option linter.unusedVariables false
set_option linter.unusedSimpArgs false
namespace Go.Proofs.Ytepbdkfkfcckoaa
namespace V
theorem bindP_some {α : Type} {o : Option α} {K : α → Prop} (h : bindP o K) : ∃ a, o = some a ∧ K a := by
  cases o with
  | none => exact h.elim
  | some a => exact ⟨a, rfl, h⟩
def envOf (t : T Value) : Env := fun i => (t.get i).getD undef
section
variable {P : Program} {ro : Ro} {t : T Value} {hp : T Obj}
theorem evl_env (x : Operand) : evl t x = evE (envOf t) x := by cases x <;> rfl
theorem evlL_env : ∀ xs : List Operand, evlL t xs = evsE (envOf t) xs := by
  intro xs
  induction xs with
  | nil => rfl
  | cons x xs ih => simp only [evlL, evsE]; rw [evl_env, ih]
theorem evlO_env (x : Option Operand) : evlO t x = evoE (envOf t) x := by
  cases x with
  | none => rfl
  | some x => simp only [evlO, evoE]; rw [evl_env]
theorem evlP_env : ∀ xs : List (Nat × Operand), evlP t xs = evpE (envOf t) xs := by
  intro xs
  induction xs with
  | nil => rfl
  | cons x xs ih => simp only [evlP, evpE]; rw [evl_env, ih]
theorem envOf_upd (d : Nat) (v : Value) : envOf (t.upd d (some v)) = (envOf t).put d v := by
  funext i
  unfold envOf Env.put
  rw [T.get_upd]
  by_cases e : i = d
  · subst e; simp
  · rw [if_neg e]
    cases hb : Nat.beq i d with
    | true => exact absurd (Nat.eq_of_beq_eq_true hb) e
    | false => rfl
theorem asP_some {v : Value} {a : Addr} (h : asP v = some a) : v = .pointer (some a) := by
  unfold asP at h
  split at h
  · cases h; rfl
  · cases h
theorem asAgg_some {v : Value} {a : Array Value} (h : asAgg v = some a) : v = .agg a := by
  unfold asAgg at h
  split at h
  · cases h; rfl
  · cases h
theorem ptQ_sound {aid : Nat} {op : Op} {K : Value → Option Obj → Prop} (h : ptQ P ro (envOf t) hp aid op K) : ∃ v ob, opQ P ro t hp aid op = some (v, ob) ∧ K v ob := by
  cases op with
  | move x | assign x =>
    obtain ⟨v, h1, h2⟩ := bindP_some h
    exact ⟨v, none, by simp only [opQ]; rw [evl_env, h1]; rfl, h2⟩
  | pick c a b =>
    obtain ⟨c', h1, h⟩ := bindP_some h
    obtain ⟨a', h2, h⟩ := bindP_some h
    obtain ⟨b', h3, h⟩ := bindP_some h
    obtain ⟨v, h4, h⟩ := bindP_some h
    refine ⟨v, none, ?_, h⟩
    simp only [opQ]; rw [evl_env, evl_env, evl_env, h1, h2, h3]
    unfold pickV at h4
    split at h4 <;> cases h4 <;> rfl
  | alloc ty =>
    obtain ⟨z, h1, h⟩ := bindP_some h
    exact ⟨_, _, by simp only [opQ]; rw [h1]; rfl, h⟩
  | box ty x =>
    obtain ⟨v, h1, h⟩ := bindP_some h
    exact ⟨_, _, by simp only [opQ]; rw [evl_env, h1]; rfl, h⟩
  | build ty ps =>
    obtain ⟨vs, h1, h⟩ := bindP_some h
    obtain ⟨v, h2, h⟩ := bindP_some h
    exact ⟨_, _, by simp only [opQ]; rw [evlP_env, h1]; show (buildV P ty vs).bind _ = _; rw [h2]; rfl, h⟩
  | buildSlice ty n ps =>
    obtain ⟨vs, h1, h⟩ := bindP_some h
    obtain ⟨r, h2, h⟩ := bindP_some h
    exact ⟨r.1, r.2, by simp only [opQ]; rw [evlP_env, h1]; exact h2, h⟩
  | load ty x =>
    obtain ⟨v, h1, h⟩ := bindP_some h
    split at h
    · rename_i hagg
      obtain ⟨n, h2, h⟩ := bindP_some h
      obtain ⟨u, h3, h⟩ := bindP_some h
      obtain ⟨a, h4, h5⟩ := bind_some' h3
      refine ⟨u, none, ?_, h⟩
      simp only [opQ]; rw [evl_env, h1, asP_some h4]
      show (loadV P ro hp ty a).bind _ = _
      unfold loadV
      rw [hagg]
      show ((siz P ty).bind _).bind _ = _
      rw [h2]
      show ((cellsAt ro hp a n).bind _).bind _ = _
      rw [h5]; rfl
    · rename_i hagg
      obtain ⟨u, h3, h⟩ := bindP_some h
      obtain ⟨a, h4, h5⟩ := bind_some' h3
      refine ⟨u, none, ?_, h⟩
      simp only [opQ]; rw [evl_env, h1, asP_some h4]
      show (loadV P ro hp ty a).bind _ = _
      have : loadV P ro hp ty a = some u := by unfold loadV; rw [hagg]; exact h5
      rw [this]; rfl
    · exact h.elim
  | nilCheck x =>
    obtain ⟨v, h1, h⟩ := bindP_some h
    obtain ⟨u, h2, h⟩ := bindP_some h
    refine ⟨u, none, ?_, h⟩
    simp only [opQ]; rw [evl_env, h1]
    unfold nilCk at h2
    split at h2 <;> cases h2 <;> rfl
  | binOp op ty x y yt =>
    obtain ⟨a, h1, h⟩ := bindP_some h
    obtain ⟨b, h2, h⟩ := bindP_some h
    have key : ∃ v, binV P op ty a b = some v ∧ K v none := by
      split at h
      · obtain ⟨v, h3, h⟩ := bindP_some h
        refine ⟨v, ?_, h⟩
        unfold intB at h3
        split at h3
        · exact h3
        · cases h3
      · obtain ⟨v, h3, h⟩ := bindP_some h
        refine ⟨v, ?_, h⟩
        unfold strB at h3
        split at h3
        · exact h3
        · cases h3
      · rename_i hu
        obtain ⟨v, h3, h⟩ := bindP_some h
        refine ⟨v, ?_, h⟩
        unfold boolB at h3
        split at h3 <;> cases h3 <;> simp [binV, eqOpV, eqlV, hu, nilEq]
      · rename_i hu
        obtain ⟨v, h3, h⟩ := bindP_some h
        refine ⟨v, ?_, h⟩
        unfold ptrB at h3
        split at h3 <;> cases h3 <;> simp only [binV, eqOpV, eqlV, hu, nilEq, Option.bind] <;> (try rfl) <;> (cases ‹Option Addr› <;> rfl)
      · rename_i hu
        obtain ⟨v, h3, h⟩ := bindP_some h
        refine ⟨v, ?_, h⟩
        unfold slB at h3
        split at h3 <;> cases h3 <;> simp only [binV, eqOpV, eqlV, hu, nilEq, Option.bind] <;> (try rfl) <;> (cases ‹Option Addr› <;> rfl)
      · rename_i hu
        obtain ⟨ks, h3, h⟩ := bindP_some h
        obtain ⟨v, h4, h⟩ := bindP_some h
        refine ⟨v, ?_, h⟩
        have hagg : isAgg P ty = some true := by unfold isAgg; rw [hu]
        unfold aggB at h4
        split at h4
        · split at h4
          · simp only [binV, eqOpV, eqlV, hagg, h3]; exact h4
          · simp only [binV, eqOpV, eqlV, hagg, h3]; exact h4
          · cases h4
        · cases h4
      · rename_i hu
        obtain ⟨ks, h3, h⟩ := bindP_some h
        obtain ⟨v, h4, h⟩ := bindP_some h
        refine ⟨v, ?_, h⟩
        have hagg : isAgg P ty = some true := by unfold isAgg; rw [hu]
        unfold aggB at h4
        split at h4
        · split at h4
          · simp only [binV, eqOpV, eqlV, hagg, h3]; exact h4
          · simp only [binV, eqOpV, eqlV, hagg, h3]; exact h4
          · cases h4
        · cases h4
      · exact h.elim
    obtain ⟨v, h3, h⟩ := key
    exact ⟨v, none, by simp only [opQ]; rw [evl_env, evl_env, h1, h2]; show (binV P op ty a b).bind _ = _; rw [h3]; rfl, h⟩
  | unOp op ty x =>
    obtain ⟨a, h1, h⟩ := bindP_some h
    obtain ⟨v, h2, h⟩ := bindP_some h
    exact ⟨v, none, by simp only [opQ]; rw [evl_env, h1]; show (unV op a).bind _ = _; rw [h2]; rfl, h⟩
  | convert s d x =>
    obtain ⟨a, h1, h⟩ := bindP_some h
    have key : ∃ r, convV P ro hp aid s d a = some r ∧ K r.1 r.2 := by
      split at h
      · rename_i k1 k2 e1 e2
        obtain ⟨v, h2, h⟩ := bindP_some h
        refine ⟨(v, none), ?_, h⟩
        unfold convI at h2
        split at h2
        · cases h2; simp only [convV, e1, e2]
        · cases h2
      · exact bindP_some h
    obtain ⟨r, h2, h⟩ := key
    exact ⟨r.1, r.2, by simp only [opQ]; rw [evl_env, h1]; exact h2, h⟩
  | makeFunc fn a b =>
    cases fn with
    | func f =>
      obtain ⟨a', h1, h⟩ := bindP_some h
      obtain ⟨b', h2, h⟩ := bindP_some h
      exact ⟨_, _, by simp only [opQ]; rw [evlL_env, evlL_env, h1, h2]; rfl, h⟩
    | _ => exact h.elim
  | makeMap mt r =>
    cases r with
    | none => exact ⟨_, _, rfl, h⟩
    | some r => exact h.elim
  | makeSlice ty l c =>
    obtain ⟨l', h1, h⟩ := bindP_some h
    obtain ⟨c', h2, h⟩ := bindP_some h
    obtain ⟨r, h3, h⟩ := bindP_some h
    exact ⟨r.1, r.2, by simp only [opQ]; rw [evl_env, evl_env, h1, h2]; exact h3, h⟩
  | slice ty x lo hi mx =>
    obtain ⟨x', h1, h⟩ := bindP_some h
    obtain ⟨lo', h2, h⟩ := bindP_some h
    obtain ⟨hi', h3, h⟩ := bindP_some h
    obtain ⟨mx', h4, h⟩ := bindP_some h
    obtain ⟨v, h5, h⟩ := bindP_some h
    exact ⟨v, none, by simp only [opQ]; rw [evl_env, evlO_env, evlO_env, evlO_env, h1, h2, h3, h4]; show (sliceV P ty x' lo' hi' mx').bind _ = _; rw [h5]; rfl, h⟩
  | fieldAddr s x f =>
    obtain ⟨v, h1, h⟩ := bindP_some h
    obtain ⟨fd, h2, h⟩ := bindP_some h
    obtain ⟨n, h3, h⟩ := bindP_some h
    split at h
    · exact h.elim
    · obtain ⟨u, h4, h⟩ := bindP_some h
      obtain ⟨a, h5, h6⟩ := bind_some' h4
      cases h6
      refine ⟨_, none, ?_, h⟩
      simp only [opQ]; rw [evl_env, h1, asP_some h5]
      show (fldV P s f).bind _ = _
      rw [h2]
      show (siz P fd.type).bind _ = _
      rw [h3]; rfl
  | field ty x f =>
    obtain ⟨v, h1, h⟩ := bindP_some h
    obtain ⟨fd, h2, h⟩ := bindP_some h
    have key : ∃ cs u, v = .agg cs ∧ partV P fd.type cs fd.offset = some u ∧ K u none := by
      split at h
      · rename_i hagg
        obtain ⟨n, h3, h⟩ := bindP_some h
        obtain ⟨u, h4, h⟩ := bindP_some h
        obtain ⟨cs, h5, h6⟩ := bind_some' h4
        refine ⟨cs, u, asAgg_some h5, ?_, h⟩
        unfold partV; rw [hagg]; show (siz P fd.type).bind _ = _; rw [h3]; exact h6
      · rename_i hagg
        obtain ⟨u, h4, h⟩ := bindP_some h
        obtain ⟨cs, h5, h6⟩ := bind_some' h4
        refine ⟨cs, u, asAgg_some h5, ?_, h⟩
        unfold partV; rw [hagg]; exact h6
      · exact h.elim
    obtain ⟨cs, u, rfl, h3, h⟩ := key
    refine ⟨u, none, ?_, h⟩
    simp only [opQ]; rw [evl_env, h1]
    show (fldV P ty f).bind _ = _
    rw [h2]
    show (partV P fd.type cs fd.offset).bind _ = _
    rw [h3]; rfl
  | indexAddr ty x i =>
    obtain ⟨x', h1, h⟩ := bindP_some h
    obtain ⟨i', h2, h⟩ := bindP_some h
    have key : ∃ v, indexAddrV P ty x' i' = some v ∧ K v none := by
      split at h
      · rename_i hu
        obtain ⟨z, h3, h⟩ := bindP_some h
        obtain ⟨v, h4, h⟩ := bindP_some h
        refine ⟨v, ?_, h⟩
        obtain ⟨j, h5, h6⟩ := bind_some' h4
        obtain ⟨a, h7, h8⟩ := bind_some' h6
        cases asP_some h7
        unfold indexAddrV
        rw [h5]
        show (match und P ty, Value.pointer (some a) with | _, _ => _) = _
        simp only [hu]; rw [h3]; exact h8
      · rename_i hu
        obtain ⟨z, h3, h⟩ := bindP_some h
        obtain ⟨v, h4, h⟩ := bindP_some h
        refine ⟨v, ?_, h⟩
        obtain ⟨j, h5, h6⟩ := bind_some' h4
        unfold indexAddrV
        rw [h5]
        simp only [Option.bind, hu]
        split at h6
        · simp only [h3]; exact h6
        · cases h6
      · exact h.elim
    obtain ⟨v, h3, h⟩ := key
    exact ⟨v, none, by simp only [opQ]; rw [evl_env, evl_env, h1, h2]; show (indexAddrV P ty x' i').bind _ = _; rw [h3]; rfl, h⟩
  | index ty x i =>
    obtain ⟨x', h1, h⟩ := bindP_some h
    obtain ⟨i', h2, h⟩ := bindP_some h
    have key : ∃ v, indexV P ty x' i' = some v ∧ K v none := by
      split at h
      · rename_i el hu
        obtain ⟨z, h3, h⟩ := bindP_some h
        split at h
        · rename_i hagg
          obtain ⟨v, h4, h⟩ := bindP_some h
          refine ⟨v, ?_, h⟩
          obtain ⟨j, h5, h6⟩ := bind_some' h4
          obtain ⟨a, h7, h8⟩ := bind_some' h6
          cases asAgg_some h7
          unfold indexV
          rw [h5]
          simp only [Option.bind, hu, h3]
          split at h8
          · rename_i g1 g2
            rw [g1]; simp only [partV, hagg]; rw [h3]; simp only [Option.bind]; rw [g2]; exact h8
          · cases h8
        · rename_i hagg
          obtain ⟨v, h4, h⟩ := bindP_some h
          refine ⟨v, ?_, h⟩
          obtain ⟨j, h5, h6⟩ := bind_some' h4
          obtain ⟨a, h7, h8⟩ := bind_some' h6
          cases asAgg_some h7
          unfold indexV
          rw [h5]
          simp only [Option.bind, hu, h3]
          split at h8
          · rename_i g1
            rw [g1]; simp only [partV, hagg]; exact h8
          · cases h8
        · exact h.elim
      · rename_i hu
        obtain ⟨v, h4, h⟩ := bindP_some h
        refine ⟨v, ?_, h⟩
        obtain ⟨j, h5, h6⟩ := bind_some' h4
        unfold indexV
        rw [h5]
        simp only [Option.bind, hu]
        split at h6
        · exact h6
        · cases h6
      · exact h.elim
    obtain ⟨v, h3, h⟩ := key
    exact ⟨v, none, by simp only [opQ]; rw [evl_env, evl_env, h1, h2]; show (indexV P ty x' i').bind _ = _; rw [h3]; rfl, h⟩
  | lookup ty x k ok =>
    obtain ⟨x', h1, h⟩ := bindP_some h
    obtain ⟨k', h2, h⟩ := bindP_some h
    obtain ⟨v, h3, h⟩ := bindP_some h
    exact ⟨v, none, by simp only [opQ]; rw [evl_env, evl_env, h1, h2]; show (lookV P hp ty x' k' ok).bind _ = _; rw [h3]; rfl, h⟩
  | extract x i =>
    obtain ⟨v, h1, h⟩ := bindP_some h
    obtain ⟨u, h2, h⟩ := bindP_some h
    refine ⟨u, none, ?_, h⟩
    simp only [opQ]; rw [evl_env, h1]
    unfold nth at h2
    split at h2
    · simp only [Option.bind]; rw [h2]
    · cases h2
  | call c =>
    obtain ⟨callee, args, ts⟩ := c
    cases callee with
    | builtin b =>
      obtain ⟨vs, h1, h⟩ := bindP_some h
      have key : ∃ v, builtinQ P hp b ts vs = some v ∧ K v none := by
        split at h
        · rename_i x ty hty hzz
          have hb : ∀ v, lenV P hp ty x = some v → builtinQ P hp .len ts [x] = some v := by
            intro v hv
            unfold builtinQ
            simp only
            rw [hty]; exact hv
          split at h
          · rename_i hu
            obtain ⟨v, h2, h⟩ := bindP_some h
            refine ⟨v, hb v ?_, h⟩
            unfold lenStr at h2
            split at h2
            · cases h2; simp only [lenV, hu]
            · cases h2
          · rename_i hu
            obtain ⟨v, h2, h⟩ := bindP_some h
            refine ⟨v, hb v ?_, h⟩
            unfold lenSl at h2
            split at h2
            · cases h2; simp only [lenV, hu]
            · cases h2
          · obtain ⟨v, h2, h⟩ := bindP_some h
            exact ⟨v, hb v h2, h⟩
        · exact bindP_some h
      obtain ⟨v, h2, h⟩ := key
      exact ⟨v, none, by simp only [opQ]; rw [evlL_env, h1]; show (builtinQ P hp b ts vs).bind _ = _; rw [h2]; rfl, h⟩
    | _ => exact h.elim
  | _ => exact h.elim
end
end V
end Go.Proofs.Ytepbdkfkfcckoaa
