/- Maps, by what is found in them.
   No condition. -/
import Derived.Test.YtmmdcdjkmakgpaaV3
import Derived.Test.YtmmdcdjkmakgpaaW1
set_option linter.unusedVariables false
set_option linter.unusedSimpArgs false
namespace Go.Proofs.Ytmmdcdjkmakgpaa
namespace V
section
variable {κ : Type} {inj : κ → Value}
def Ents (inj : κ → Value) : List MapEntry → List (κ × Value) → Prop
  | [], [] => True
  | e :: es, p :: ps => e.key = inj p.1 ∧ e.val = p.2 ∧ Ents inj es ps
  | _, _ => False
theorem Ents.snoc {e : MapEntry} {a : κ} {v : Value} (h1 : e.key = inj a) (h2 : e.val = v) : ∀ {es : List MapEntry} {ps : List (κ × Value)}, Ents inj es ps → Ents inj (es ++ [e]) (ps ++ [(a, v)])
  | [], [], _ => ⟨h1, h2, trivial⟩
  | x :: es, p :: ps, ⟨q1, q2, q3⟩ => ⟨q1, q2, Ents.snoc h1 h2 q3⟩
  | [], p :: ps, h => h.elim
  | e :: es, [], h => h.elim
end
section
variable {κ : Type} [DecidableEq κ] {P : Program} {kt : TypeId} {inj : κ → Value}
def getP (a : κ) : List (κ × Value) → Option Value
  | [] => none
  | p :: ps => if p.1 = a then some p.2 else getP a ps
def setP (a : κ) (v : Value) : List (κ × Value) → List (κ × Value)
  | [] => [(a, v)]
  | p :: ps => if p.1 = a then (a, v) :: ps else p :: setP a v ps
def posP (a : κ) : List (κ × Value) → Nat → Option (Nat × Value)
  | [], _ => none
  | p :: ps, i => if p.1 = a then some (i, p.2) else posP a ps (i + 1)
theorem getP_setP (a b : κ) (v : Value) : ∀ ps : List (κ × Value), getP b (setP a v ps) = if b = a then some v else getP b ps
  | [] => by
    unfold setP getP
    by_cases h : b = a
    · subst h; rw [if_pos rfl, if_pos rfl]
    · rw [if_neg h]; show (if a = b then _ else getP b []) = _; rw [if_neg (Ne.symm h)]; rfl
  | p :: ps => by
    have ih := getP_setP a b v ps
    unfold setP
    by_cases hp : p.1 = a
    · rw [if_pos hp]
      unfold getP
      by_cases h : b = a
      · subst h; rw [if_pos rfl, if_pos rfl]
      · rw [if_neg h]; show (if a = b then _ else getP b ps) = _; rw [if_neg (Ne.symm h), if_neg (by rw [hp]; exact Ne.symm h)]
    · rw [if_neg hp]
      show (if p.1 = b then some p.2 else getP b (setP a v ps)) = _
      rw [ih]
      show _ = if b = a then some v else (if p.1 = b then some p.2 else getP b ps)
      by_cases h : b = a
      · subst h; rw [if_pos rfl, if_pos rfl, if_neg hp]
      · rw [if_neg h, if_neg h]
theorem posP_get (a : κ) : ∀ (ps : List (κ × Value)) (i : Nat), (posP a ps i).map (·.2) = getP a ps
  | [], i => rfl
  | p :: ps, i => by
    unfold posP getP
    by_cases h : p.1 = a
    · rw [if_pos h, if_pos h]; rfl
    · rw [if_neg h, if_neg h]; exact posP_get a ps (i + 1)
theorem findV_pos (hk : ∀ a b : κ, keyEq P kt (inj a) (inj b) = some (decide (a = b))) (a : κ) : ∀ {es : List MapEntry} {ps : List (κ × Value)} (i : Nat), Ents inj es ps → findV P kt (inj a) es i = some (posP a ps i)
  | [], [], i, _ => rfl
  | e :: es, p :: ps, i, ⟨h1, h2, h3⟩ => by
    unfold findV posP
    rw [h1, hk, h2]
    by_cases h : p.1 = a
    · rw [if_pos h, decide_eq_true h.symm]
    · rw [if_neg h, decide_eq_false (Ne.symm h)]; exact findV_pos hk a (i + 1) h3
  | [], p :: ps, i, h => h.elim
  | e :: es, [], i, h => h.elim
theorem posP_none {a : κ} {v : Value} : ∀ {ps : List (κ × Value)} {i : Nat}, posP a ps i = none → setP a v ps = ps ++ [(a, v)]
  | [], i, _ => rfl
  | p :: ps, i, h => by
    unfold posP at h
    by_cases hp : p.1 = a
    · rw [if_pos hp] at h; cases h
    · rw [if_neg hp] at h
      unfold setP
      rw [if_neg hp, posP_none h]; rfl
theorem Ents.put {a : κ} {v : Value} {f : MapEntry → MapEntry} (hf : ∀ e, (f e).key = inj a ∧ (f e).val = v) : ∀ {es : List MapEntry} {ps : List (κ × Value)} {i : Nat} {r : Nat × Value}, posP a ps i = some r → Ents inj es ps → i ≤ r.1 ∧ Ents inj (es.modify (r.1 - i) f) (setP a v ps)
  | [], [], i, r, h, _ => by cases h
  | x :: es, p :: ps, i, r, h, ⟨q1, q2, q3⟩ => by
    unfold posP at h
    unfold setP
    by_cases hp : p.1 = a
    · rw [if_pos hp] at h ⊢
      cases h
      refine ⟨Nat.le_refl _, ?_⟩
      rw [Nat.sub_self, List.modify_zero_cons]
      exact ⟨(hf x).1, (hf x).2, q3⟩
    · rw [if_neg hp] at h ⊢
      obtain ⟨g1, g2⟩ := Ents.put hf h q3
      refine ⟨by omega, ?_⟩
      rw [show r.1 - i = (r.1 - (i + 1)) + 1 by omega, List.modify_succ_cons]
      exact ⟨q1, q2, g2⟩
  | [], p :: ps, i, r, h, h2 => h2.elim
  | e :: es, [], i, r, h, h2 => h2.elim
/-- A map of one's own, by what is found in it. -/
def MapG (inj : κ → Value) (h : T Obj) (r : Nat) (f : κ → Option Value) : Prop := ∃ es c ps, h.get r = some (.map es c) ∧ Ents inj es.toList ps ∧ ∀ a, getP a ps = f a
theorem MapG.keep {h h' : T Obj} {r : Nat} {f : κ → Option Value} (hm : MapG inj h r f) (he : h'.get r = h.get r) : MapG inj h' r f := by
  obtain ⟨es, c, ps, h1, h2, h3⟩ := hm
  exact ⟨es, c, ps, by rw [he]; exact h1, h2, h3⟩
theorem MapG.sub {h h' : T Obj} {r : Nat} {f : κ → Option Value} (hs : Sub h h') (hm : MapG inj h r f) : MapG inj h' r f := by
  obtain ⟨es, c, ps, h1, h2, h3⟩ := hm
  exact ⟨es, c, ps, hs _ _ h1, h2, h3⟩
theorem MapG.new {h : T Obj} {r c : Nat} (hg : h.get r = some (.map #[] c)) : MapG inj h r fun _ => none := ⟨#[], c, [], hg, trivial, fun _ => rfl⟩
theorem MapG.obj {h : T Obj} {r : Nat} {f : κ → Option Value} (hm : MapG inj h r f) : ∃ es c, h.get r = some (.map es c) := by
  obtain ⟨es, c, ps, h1, h2, h3⟩ := hm
  exact ⟨es, c, h1⟩
theorem MapG.lookT {t et : TypeId} {z : Value} (hu : und P t = some (.map kt et)) (hok : ∀ a, keyOk P kt (inj a) = true) (hk : ∀ a b : κ, keyEq P kt (inj a) (inj b) = some (decide (a = b))) (hz : zer P et = some z)
    {h : T Obj} {r : Nat} {f : κ → Option Value} (hm : MapG inj h r f) (a : κ) (ok : Bool) : lookV P h t (.map (some r)) (inj a) ok = some (outV ok ((f a).getD z) (f a).isSome) := by
  obtain ⟨es, c, ps, h1, h2, h3⟩ := hm
  unfold lookV lookIn
  simp only [hu, hok, mapAt, entriesAt, h1, Option.bind_some, findV_pos hk a 0 h2]
  have := posP_get a ps 0
  rw [h3] at this
  cases hp : posP a ps 0 with
  | none =>
    rw [hp] at this
    have : f a = none := this.symm
    simp only [gotV, hz, Option.bind_some, this]; rfl
  | some q =>
    rw [hp] at this
    have : f a = some q.2 := this.symm
    simp only [gotV, Option.bind_some, this]; rfl
theorem MapG.putT {t et : TypeId} (hu : und P t = some (.map kt et)) (hok : ∀ a, keyOk P kt (inj a) = true) (hk : ∀ a b : κ, keyEq P kt (inj a) (inj b) = some (decide (a = b)))
    {h : T Obj} {r : Nat} {f : κ → Option Value} (hm : MapG inj h r f) (a : κ) (v : Value) : ∃ es c, mapPutV P h t (.map (some r)) (inj a) v = some (h.upd r (some (.map es c))) ∧ ∀ h' : T Obj, h'.get r = some (.map es c) → MapG inj h' r fun b => if b = a then some v else f b := by
  obtain ⟨es, c, ps, h1, h2, h3⟩ := hm
  unfold mapPutV
  simp only [hu, hok, entriesAt, h1, Option.bind_some, findV_pos hk a 0 h2]
  cases hp : posP a ps 0 with
  | none =>
    refine ⟨_, _, rfl, fun h' hg => ⟨_, _, setP a v ps, hg, ?_, fun b => by rw [getP_setP, h3]⟩⟩
    rw [posP_none hp]
    exact Ents.snoc (inj := inj) (a := a) (v := v) rfl rfl h2
  | some q =>
    refine ⟨_, _, rfl, fun h' hg => ⟨_, _, setP a v ps, hg, ?_, fun b => by rw [getP_setP, h3]⟩⟩
    exact (Ents.put (f := fun e : MapEntry => { e with key := inj a, val := v }) (fun _ => ⟨rfl, rfl⟩) hp h2).2
theorem MapG.clear {h : T Obj} {r : Nat} {f : κ → Option Value} (hm : MapG inj h r f) : ∃ c, clearV h (.map (some r)) = some (h.upd r (some (.map #[] c))) := by
  obtain ⟨es, c, ps, h1, h2, h3⟩ := hm
  exact ⟨c, by unfold clearV entriesAt; simp only [h1, Option.bind_some]⟩
end
/-- Keys that are numbers. -/
def injI (a : Int) : Value := .int .i64 a
/-- Keys that are texts. -/
def injS (a : List UInt8) : Value := .string ⟨a.toArray⟩
theorem keyEq_I {P : Program} {kt : TypeId} (hu : und P kt = some (.int .i64)) (a b : Int) : keyEq P kt (injI a) (injI b) = some (decide (a = b)) := by
  unfold keyEq injI
  simp only [hu, eqCell]; rfl
theorem keyOk_I {P : Program} {kt : TypeId} (hu : und P kt = some (.int .i64)) (a : Int) : keyOk P kt (injI a) = true := by
  unfold keyOk injI
  simp only [hu]
theorem keyEq_S {P : Program} {kt : TypeId} (hu : und P kt = some .string) (a b : List UInt8) : keyEq P kt (injS a) (injS b) = some (decide (a = b)) := by
  unfold keyEq injS
  simp only [hu, eqCell]
  congr 1
  by_cases h : a = b
  · subst h; simp
  · rw [decide_eq_false h]; simpa using h
theorem keyOk_S {P : Program} {kt : TypeId} (hu : und P kt = some .string) (a : List UInt8) : keyOk P kt (injS a) = true := by
  unfold keyOk injS
  simp only [hu]
end V
end Go.Proofs.Ytmmdcdjkmakgpaa
