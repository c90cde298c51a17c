/- The machine of VA held against the model's: a region that draws its order, as a table.
   No condition. -/
import Derived.Test.YtepbdkfkfcckoaaVP
set_option linter.unusedVariables false
set_option linter.unusedSimpArgs false
namespace Go.Proofs.Ytepbdkfkfcckoaa
namespace V
section
variable {P : Program} {ro : Ro} {C : CallR} {n n0 : Nat} {ops : Array Oper}
/-- One row of the table. -/
def opAt (P : Program) (ro : Ro) (C : CallR) (n : Nat) (ops : Array Oper) (n0 i : Nat) (o : Oper) (S S' : St) (v : Value) (ob : Option Obj) : Prop :=
  match wanted ops S.t o with
  | true => match loud o.op with
    | true => ∃ h' nx' t', opL P ro C S.t S.h S.nx o.op v h' nx' ∧ put n S.t o.dst v = some t' ∧ S' = ⟨t', h', nx'⟩ ∧ ob = none
    | false => ∃ t', opQ P ro S.t S.h (n0 + i) o.op = some (v, ob) ∧ put n S.t o.dst v = some t' ∧ S' = ⟨t', addO S.h (n0 + i) ob, S.nx⟩
  | false => ∃ t', v = undef ∧ ob = none ∧ put n S.t o.dst undef = some t' ∧ S' = ⟨t', S.h, S.nx⟩
structure Tab (P : Program) (ro : Ro) (C : CallR) (n : Nat) (ops : Array Oper) (n0 i : Nat) (l : List Oper) (ls : List (Nat × Nat)) (ms : List (Nat × T Obj × T Obj)) (S : Nat → St) (V : Nat → Value) (OB : Nat → Option Obj) : Prop where
  row : ∀ j o, i ≤ j → l[j - i]? = some o → opAt P ro C n ops n0 j o (S j) (S (j + 1)) (V j) (OB j)
  a1 : ∀ q ∈ ls, ∀ j o, i ≤ j → l[j - i]? = some o → wanted ops (S j).t o = true → loud o.op = true → free (bef ops) q.1 j = true → same q.2 (S j).h (S (j + 1)).h
  a2 : ∀ q ∈ ms, ∀ j o a, i ≤ j → l[j - i]? = some o → wanted ops (S j).t o = true → loud o.op = false → rdB P (S j).t o.op = some a → free (bef ops) q.1 j = true → same a q.2.1 q.2.2
  p1 : ∀ j1 j2 o1 o2 a, i ≤ j1 → j1 < j2 → l[j1 - i]? = some o1 → l[j2 - i]? = some o2 → wanted ops (S j1).t o1 = true → wanted ops (S j2).t o2 = true → loud o1.op = false → rdB P (S j1).t o1.op = some a → loud o2.op = true →
    free (bef ops) j1 j2 = true → same a (S j2).h (S (j2 + 1)).h
  p2 : ∀ j1 j2 o1 o2 a, i ≤ j1 → j1 < j2 → l[j1 - i]? = some o1 → l[j2 - i]? = some o2 → wanted ops (S j1).t o1 = true → wanted ops (S j2).t o2 = true → loud o1.op = true → loud o2.op = false → rdB P (S j2).t o2.op = some a →
    free (bef ops) j1 j2 = true → same a (S j1).h (S (j1 + 1)).h
theorem cons_at {o x : Oper} {l : List Oper} {i j : Nat} (hij : i ≤ j) (h : (o :: l)[j - i]? = some x) : (j = i ∧ x = o) ∨ (i + 1 ≤ j ∧ l[j - (i + 1)]? = some x) := by
  rcases Nat.lt_or_eq_of_le hij with hlt | rfl
  · refine .inr ⟨hlt, ?_⟩
    rw [show j - i = (j - (i + 1)) + 1 by omega, List.getElem?_cons_succ] at h
    exact h
  · rw [Nat.sub_self] at h; simp at h; exact .inl ⟨rfl, h.symm⟩
theorem opsD_table : ∀ (l : List Oper) (i : Nat) (ls : List (Nat × Nat)) (ms : List (Nat × T Obj × T Obj)) (s s' : St), opsD P ro C n ops n0 l i ls ms s s' →
    ∃ S V OB, S i = s ∧ S (i + l.length) = s' ∧ Tab P ro C n ops n0 i l ls ms S V OB := by
  intro l
  induction l with
  | nil =>
    intro i ls ms s s' h
    simp only [opsD] at h
    subst h
    refine ⟨fun _ => s', fun _ => undef, fun _ => none, rfl, rfl, ⟨?_, ?_, ?_, ?_, ?_⟩⟩
    · intro j o _ h; simp at h
    · intro q _ j o _ h; simp at h
    · intro q _ j o a _ h; simp at h
    · intro j1 j2 o1 o2 a _ _ h; simp at h
    · intro j1 j2 o1 o2 a _ _ h; simp at h
  | cons o l ih =>
    intro i ls ms s s' h
    -- the rest, and this operation's row
    have main : ∀ (s1 : St) (v : Value) (ob : Option Obj) (ls' : List (Nat × Nat)) (ms' : List (Nat × T Obj × T Obj)), opAt P ro C n ops n0 i o s s1 v ob →
        opsD P ro C n ops n0 l (i + 1) ls' ms' s1 s' →
        (∀ q ∈ ls, q ∈ ls') → (∀ q ∈ ms, q ∈ ms') →
        (wanted ops s.t o = true → loud o.op = true → (∀ q ∈ ls, free (bef ops) q.1 i = true → same q.2 s.h s1.h) ∧ (i, s.h, s1.h) ∈ ms') →
        (∀ a, wanted ops s.t o = true → loud o.op = false → rdB P s.t o.op = some a → (∀ q ∈ ms, free (bef ops) q.1 i = true → same a q.2.1 q.2.2) ∧ (i, a) ∈ ls') →
        ∃ S V OB, S i = s ∧ S (i + (o :: l).length) = s' ∧ Tab P ro C n ops n0 i (o :: l) ls ms S V OB := by
      intro s1 v ob ls' ms' hrow hrest hls hms hloud hload
      obtain ⟨S, V, OB, e1, e2, tb⟩ := ih (i + 1) ls' ms' s1 s' hrest
      have hS : ∀ j, i + 1 ≤ j → (if j = i then s else S j) = S j := fun j hj => if_neg (by omega)
      have hS0 : (if i = i then s else S i) = s := if_pos rfl
      refine ⟨fun j => if j = i then s else S j, fun j => if j = i then v else V j, fun j => if j = i then ob else OB j, hS0, ?_, ⟨?_, ?_, ?_, ?_, ?_⟩⟩
      · show (if i + (o :: l).length = i then s else S (i + (o :: l).length)) = s'
        rw [if_neg (by simp), ← e2]; congr 1; simp; omega
      · intro j x hij hx
        rcases cons_at hij hx with ⟨rfl, rfl⟩ | ⟨hj, hx⟩
        · simp only [if_pos rfl, if_neg (show ¬ j + 1 = j by omega)]
          rw [e1]; exact hrow
        · simp only [if_neg (show ¬ j = i by omega), if_neg (show ¬ j + 1 = i by omega)]
          exact tb.row j x hj hx
      · intro q hq j x hij hx hw hl hf
        rcases cons_at hij hx with ⟨rfl, rfl⟩ | ⟨hj, hx⟩
        · simp only [if_pos rfl] at hw ⊢
          simp only [if_neg (show ¬ j + 1 = j by omega)]
          rw [e1]
          exact (hloud hw hl).1 q hq hf
        · simp only [if_neg (show ¬ j = i by omega), if_neg (show ¬ j + 1 = i by omega)] at hw ⊢
          exact tb.a1 q (hls q hq) j x hj hx hw hl hf
      · intro q hq j x a hij hx hw hl ha hf
        rcases cons_at hij hx with ⟨rfl, rfl⟩ | ⟨hj, hx⟩
        · simp only [if_pos rfl] at hw ha
          exact (hload a hw hl ha).1 q hq hf
        · simp only [if_neg (show ¬ j = i by omega)] at hw ha
          exact tb.a2 q (hms q hq) j x a hj hx hw hl ha hf
      · intro j1 j2 x1 x2 a hij h12 hx1 hx2 hw1 hw2 hl1 ha hl2 hf
        rcases cons_at (by omega) hx2 with ⟨e, _⟩ | ⟨hj2, hx2'⟩
        · omega
        · simp only [if_neg (show ¬ j2 = i by omega), if_neg (show ¬ j2 + 1 = i by omega)] at hw2 ⊢
          rcases cons_at hij hx1 with ⟨rfl, rfl⟩ | ⟨hj1, hx1⟩
          · simp only [if_pos rfl] at hw1 ha
            exact tb.a1 (j1, a) (hload a hw1 hl1 ha).2 j2 x2 hj2 hx2' hw2 hl2 hf
          · simp only [if_neg (show ¬ j1 = i by omega)] at hw1 ha
            exact tb.p1 j1 j2 x1 x2 a hj1 h12 hx1 hx2' hw1 hw2 hl1 ha hl2 hf
      · intro j1 j2 x1 x2 a hij h12 hx1 hx2 hw1 hw2 hl1 hl2 ha hf
        rcases cons_at (by omega) hx2 with ⟨e, _⟩ | ⟨hj2, hx2'⟩
        · omega
        · simp only [if_neg (show ¬ j2 = i by omega)] at hw2 ha
          rcases cons_at hij hx1 with ⟨rfl, rfl⟩ | ⟨hj1, hx1⟩
          · simp only [if_pos rfl] at hw1 ⊢
            simp only [if_neg (show ¬ j1 + 1 = j1 by omega)]
            rw [e1]
            exact tb.a2 (j1, s.h, s1.h) (hloud hw1 hl1).2 j2 x2 a hj2 hx2' hw2 hl2 ha hf
          · simp only [if_neg (show ¬ j1 = i by omega), if_neg (show ¬ j1 + 1 = i by omega)] at hw1 ⊢
            exact tb.p2 j1 j2 x1 x2 a hj1 h12 hx1 hx2' hw1 hw2 hl1 hl2 ha hf
    simp only [opsD] at h
    cases hw : wanted ops s.t o with
    | false =>
      rw [hw] at h
      obtain ⟨t', h1, h2⟩ := h
      exact main ⟨t', s.h, s.nx⟩ undef none ls ms (by unfold opAt; rw [hw]; exact ⟨t', rfl, rfl, h1, rfl⟩) h2 (fun _ h => h) (fun _ h => h) (by rw [hw]; intro h; cases h) (by rw [hw]; intro _ h; cases h)
    | true =>
      rw [hw] at h
      obtain ⟨v, h', nx', t', h1, h2, h3⟩ := h
      unfold opR at h1
      cases hq : loud o.op with
      | true =>
        rw [hq] at h1 h3
        exact main ⟨t', h', nx'⟩ v none ls ((i, s.h, h') :: ms) (by unfold opAt; rw [hw, hq]; exact ⟨h', nx', t', h1, h2, rfl, rfl⟩) h3.2 (fun _ h => h) (fun _ h => List.mem_cons_of_mem _ h)
          (fun _ _ => ⟨h3.1, by simp⟩) (by rw [hq]; intro _ _ h; cases h)
      | false =>
        rw [hq] at h1 h3
        obtain ⟨ob, h1, rfl, rfl⟩ := h1
        have hrow : opAt P ro C n ops n0 i o s ⟨t', addO s.h (n0 + i) ob, s.nx⟩ v ob := by unfold opAt; rw [hw, hq]; exact ⟨t', h1, h2, rfl⟩
        simp only at h3
        cases hla : rdB P s.t o.op with
        | none =>
          rw [hla] at h3
          exact main _ v ob ls ms hrow h3 (fun _ h => h) (fun _ h => h) (by rw [hq]; intro _ h; cases h) (by rw [hla]; intro a _ _ h; cases h)
        | some a =>
          rw [hla] at h3
          exact main _ v ob ((i, a) :: ls) ms hrow h3.2 (fun _ h => List.mem_cons_of_mem _ h) (fun _ h => h) (by rw [hq]; intro _ h; cases h)
            (by rw [hla]; intro a' _ _ e; cases e; exact ⟨h3.1, by simp⟩)
end
end V
end Go.Proofs.Ytepbdkfkfcckoaa
