/- What Codes (both) hands back.
   No condition. -/
import Derived.Test.YtmmdcdjkmakgpaaAA
set_option linter.unusedVariables false
set_option linter.unusedSimpArgs false
namespace Go.Proofs.Ytmmdcdjkmakgpaa
namespace V
attribute [local irreducible] bindP ifP condP newP optP exP beqP
def codesD (m : Int) : Int := if m = 0 then 1 else if m = 1 then 3 else if m = 2 then 9 else if m = 3 then 27 else 0
theorem codes_of {m p : Int} (h : m = 0 ∧ p = 1 ∨ m = 1 ∧ p = 3 ∨ m = 2 ∧ p = 9 ∨ m = 3 ∧ p = 27) : codesD m = p := by
  unfold codesD
  rcases h with ⟨h, rfl⟩ | ⟨h, rfl⟩ | ⟨h, rfl⟩ | ⟨h, rfl⟩ <;> subst h <;> rfl
theorem codes_no {m : Int} (h : m < 0 ∨ 3 < m) : codesD m = 0 := by
  unfold codesD
  rw [if_neg (by omega), if_neg (by omega), if_neg (by omega), if_neg (by omega)]
theorem codes_le (m : Int) : 0 ≤ codesD m ∧ codesD m ≤ 27 := by
  unfold codesD
  repeat' split
  all_goals omega
theorem codes_few {m : Int} (h : codesD m ≠ 0) : 0 ≤ m ∧ m ≤ 3 := by
  rcases Int.lt_or_le m 0 with h1 | h1
  · exact absurd (codes_no (.inl h1)) h
  · rcases Int.lt_or_le 3 m with h2 | h2
    · exact absurd (codes_no (.inr h2)) h
    · exact ⟨h1, h2⟩
set_option maxRecDepth 4000 in
theorem auto_Codes_c {ro : Ro} {m : Int} {h : T Obj} {nx : Nat} {K : KV} (hK : ∀ nx', nx ≤ nx' → K (.int .i64 (codesD m)) h nx') : callP Try.prog ro i_auto_Codes [.int .i64 m] h nx K := by
  apply auto_Codes_of
  unfold auto_Codes
  refine lss_s (fun h1 => ?_) (fun h1 => ?_)
  · (repeat (first | refine bindP_mk (by simp (disch := first | omega | exact Int.natCast_nonneg _ | assumption) only [BB, B2, ↓reduceIte, Nat.reduceLeDiff, Nat.reduceAdd, CC] <;> rfl) ?_ | refine newP_mk ?_ | refine optP_mk ?_ | with_reducible first | refine condP_t ?_ | refine condP_f ?_ | refine ifP_tt' ?_ | refine ifP_ff' ?_ | refine ifP_tf' ?_ | refine ifP_ft' ?_ | refine ifP_u' ?_ | refine optP_mk0 ?_))
    exact ⟨_, Sub.refl _, ki hK (codes_no (.inl h1)) (by omega)⟩
  · (repeat (first | refine bindP_mk (by simp (disch := first | omega | exact Int.natCast_nonneg _ | assumption) only [BB, B2, ↓reduceIte, Nat.reduceLeDiff, Nat.reduceAdd, CC] <;> rfl) ?_ | refine newP_mk ?_ | refine optP_mk ?_ | with_reducible first | refine condP_t ?_ | refine condP_f ?_ | refine ifP_tt' ?_ | refine ifP_ff' ?_ | refine ifP_tf' ?_ | refine ifP_ft' ?_ | refine ifP_u' ?_ | refine optP_mk0 ?_))
    refine gtr_s (fun h2 => ?_) (fun h2 => ?_)
    · (repeat (first | refine bindP_mk (by simp (disch := first | omega | exact Int.natCast_nonneg _ | assumption) only [BB, B2, ↓reduceIte, Nat.reduceLeDiff, Nat.reduceAdd, CC] <;> rfl) ?_ | refine newP_mk ?_ | refine optP_mk ?_ | with_reducible first | refine condP_t ?_ | refine condP_f ?_ | refine ifP_tt' ?_ | refine ifP_ff' ?_ | refine ifP_tf' ?_ | refine ifP_ft' ?_ | refine ifP_u' ?_ | refine optP_mk0 ?_))
      exact ⟨_, Sub.refl _, ki hK (codes_no (.inr h2)) (by omega)⟩
    · (repeat (first | refine bindP_mk (by simp (disch := first | omega | exact Int.natCast_nonneg _ | assumption) only [BB, B2, ↓reduceIte, Nat.reduceLeDiff, Nat.reduceAdd, CC] <;> rfl) ?_ | refine newP_mk ?_ | refine optP_mk ?_ | with_reducible first | refine condP_t ?_ | refine condP_f ?_ | refine ifP_tt' ?_ | refine ifP_ff' ?_ | refine ifP_tf' ?_ | refine ifP_ft' ?_ | refine ifP_u' ?_ | refine optP_mk0 ?_))
      refine loopP_rule (fun j e h' nx' => ∃ (k : Nat) (p : Int), (k : Int) + j = m ∧ nx ≤ nx' ∧ h' = h ∧ e 3 = .int .i64 p ∧ e 10 = .int .i64 m ∧ e 11 = .int .i64 k ∧ (k = 0 ∧ p = 1 ∨ k = 1 ∧ p = 3 ∨ k = 2 ∧ p = 9 ∨ k = 3 ∧ p = 27)) ?_ (n := m.toNat) ⟨0, 1, by omega, by omega, rfl, rfl, rfl, rfl, by omega⟩
      rintro j e h' nx' ⟨k, p, hj, hnx, rfl, e3, e10, e11, hp⟩ Q' hq hx
      unfold auto_Codes_L1
      rw [e3, e10, e11]
      refine lss_s (fun hk => ?_) (fun hk => ?_)
      · (repeat (first | refine bindP_mk (by simp (disch := first | omega | exact Int.natCast_nonneg _ | assumption) only [BB, B2, ↓reduceIte, Nat.reduceLeDiff, Nat.reduceAdd, CC] <;> rfl) ?_ | refine newP_mk ?_ | refine optP_mk ?_ | with_reducible first | refine condP_t ?_ | refine condP_f ?_ | refine ifP_tt' ?_ | refine ifP_ff' ?_ | refine ifP_tf' ?_ | refine ifP_ft' ?_ | refine ifP_u' ?_ | refine optP_mk0 ?_))
        exact hq (j - 1) _ _ _ _ (by omega) ⟨k + 1, p * 3, by omega, by omega, rfl, rfl, e10, rfl, by omega⟩ (Sub.refl _)
      · (repeat (first | refine bindP_mk (by simp (disch := first | omega | exact Int.natCast_nonneg _ | assumption) only [BB, B2, ↓reduceIte, Nat.reduceLeDiff, Nat.reduceAdd, CC] <;> rfl) ?_ | refine newP_mk ?_ | refine optP_mk ?_ | with_reducible first | refine condP_t ?_ | refine condP_f ?_ | refine ifP_tt' ?_ | refine ifP_ff' ?_ | refine ifP_tf' ?_ | refine ifP_ft' ?_ | refine ifP_u' ?_ | refine optP_mk0 ?_))
        refine hx _ _ _ _ (fun e => by cases e) (exP_e (beqP_t ?_))
        unfold auto_Codes_j1
        have f3 : ∀ (e' : Env) n, e' 3 = .int .i64 p → nx ≤ n → ∃ h13, Sub h13 h' ∧ K (e' 3) h13 n := fun e' n h3 hn => by
          rw [h3]
          exact ⟨_, Sub.refl _, ki hK (codes_of (by omega)) hn⟩
        exact f3 _ _ e3 (by omega)
set_option maxRecDepth 4000 in
theorem ref11_Codes_c {ro : Ro} {m : Int} {h : T Obj} {nx : Nat} {K : KV} (hK : ∀ nx', nx ≤ nx' → K (.int .i64 (codesD m)) h nx') : callP Try.prog ro i_ref11_Codes [.int .i64 m] h nx K := by
  apply ref11_Codes_of
  unfold ref11_Codes
  refine lss_s (fun h1 => ?_) (fun h1 => ?_)
  · (repeat (first | refine bindP_mk (by simp (disch := first | omega | exact Int.natCast_nonneg _ | assumption) only [BB, B2, ↓reduceIte, Nat.reduceLeDiff, Nat.reduceAdd, CC] <;> rfl) ?_ | refine newP_mk ?_ | refine optP_mk ?_ | with_reducible first | refine condP_t ?_ | refine condP_f ?_ | refine ifP_tt' ?_ | refine ifP_ff' ?_ | refine ifP_tf' ?_ | refine ifP_ft' ?_ | refine ifP_u' ?_ | refine optP_mk0 ?_))
    exact ⟨_, Sub.refl _, ki hK (codes_no (.inl h1)) (by omega)⟩
  · (repeat (first | refine bindP_mk (by simp (disch := first | omega | exact Int.natCast_nonneg _ | assumption) only [BB, B2, ↓reduceIte, Nat.reduceLeDiff, Nat.reduceAdd, CC] <;> rfl) ?_ | refine newP_mk ?_ | refine optP_mk ?_ | with_reducible first | refine condP_t ?_ | refine condP_f ?_ | refine ifP_tt' ?_ | refine ifP_ff' ?_ | refine ifP_tf' ?_ | refine ifP_ft' ?_ | refine ifP_u' ?_ | refine optP_mk0 ?_))
    refine gtr_s (fun h2 => ?_) (fun h2 => ?_)
    · (repeat (first | refine bindP_mk (by simp (disch := first | omega | exact Int.natCast_nonneg _ | assumption) only [BB, B2, ↓reduceIte, Nat.reduceLeDiff, Nat.reduceAdd, CC] <;> rfl) ?_ | refine newP_mk ?_ | refine optP_mk ?_ | with_reducible first | refine condP_t ?_ | refine condP_f ?_ | refine ifP_tt' ?_ | refine ifP_ff' ?_ | refine ifP_tf' ?_ | refine ifP_ft' ?_ | refine ifP_u' ?_ | refine optP_mk0 ?_))
      exact ⟨_, Sub.refl _, ki hK (codes_no (.inr h2)) (by omega)⟩
    · (repeat (first | refine bindP_mk (by simp (disch := first | omega | exact Int.natCast_nonneg _ | assumption) only [BB, B2, ↓reduceIte, Nat.reduceLeDiff, Nat.reduceAdd, CC] <;> rfl) ?_ | refine newP_mk ?_ | refine optP_mk ?_ | with_reducible first | refine condP_t ?_ | refine condP_f ?_ | refine ifP_tt' ?_ | refine ifP_ff' ?_ | refine ifP_tf' ?_ | refine ifP_ft' ?_ | refine ifP_u' ?_ | refine optP_mk0 ?_))
      refine loopP_rule (fun j e h' nx' => ∃ (k : Nat) (p : Int), (k : Int) + j = m ∧ nx ≤ nx' ∧ h' = h ∧ e 3 = .int .i64 p ∧ e 0 = .int .i64 m ∧ e 4 = .int .i64 k ∧ (k = 0 ∧ p = 1 ∨ k = 1 ∧ p = 3 ∨ k = 2 ∧ p = 9 ∨ k = 3 ∧ p = 27)) ?_ (n := m.toNat) ⟨0, 1, by omega, by omega, rfl, rfl, rfl, rfl, by omega⟩
      rintro j e h' nx' ⟨k, p, hj, hnx, rfl, e3, e10, e11, hp⟩ Q' hq hx
      unfold ref11_Codes_L1
      rw [e3, e10, e11]
      refine lss_s (fun hk => ?_) (fun hk => ?_)
      · (repeat (first | refine bindP_mk (by simp (disch := first | omega | exact Int.natCast_nonneg _ | assumption) only [BB, B2, ↓reduceIte, Nat.reduceLeDiff, Nat.reduceAdd, CC] <;> rfl) ?_ | refine newP_mk ?_ | refine optP_mk ?_ | with_reducible first | refine condP_t ?_ | refine condP_f ?_ | refine ifP_tt' ?_ | refine ifP_ff' ?_ | refine ifP_tf' ?_ | refine ifP_ft' ?_ | refine ifP_u' ?_ | refine optP_mk0 ?_))
        exact hq (j - 1) _ _ _ _ (by omega) ⟨k + 1, p * 3, by omega, by omega, rfl, rfl, e10, rfl, by omega⟩ (Sub.refl _)
      · (repeat (first | refine bindP_mk (by simp (disch := first | omega | exact Int.natCast_nonneg _ | assumption) only [BB, B2, ↓reduceIte, Nat.reduceLeDiff, Nat.reduceAdd, CC] <;> rfl) ?_ | refine newP_mk ?_ | refine optP_mk ?_ | with_reducible first | refine condP_t ?_ | refine condP_f ?_ | refine ifP_tt' ?_ | refine ifP_ff' ?_ | refine ifP_tf' ?_ | refine ifP_ft' ?_ | refine ifP_u' ?_ | refine optP_mk0 ?_))
        refine hx _ _ _ _ (fun e => by cases e) (exP_e (beqP_t ?_))
        unfold ref11_Codes_j1
        have f3 : ∀ (e' : Env) n, e' 3 = .int .i64 p → nx ≤ n → ∃ h13, Sub h13 h' ∧ K (e' 3) h13 n := fun e' n h3 hn => by
          rw [h3]
          exact ⟨_, Sub.refl _, ki hK (codes_of (by omega)) hn⟩
        exact f3 _ _ e3 (by omega)
end V
end Go.Proofs.Ytmmdcdjkmakgpaa
