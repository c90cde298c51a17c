/- Texts laid one behind the other: AC, AD, AE, AF, AG, EI, EL, EA, EB, GB, EC, AS, ED, GW, EM, EN, GP, EG, EH, AH, NC, EO, LOwn.
   No condition. -/
import Derived.KernelRfl
import Derived.Test.YtmmdcdjkmakgpaaQB5
set_option linter.unusedVariables false
set_option linter.unusedSimpArgs false
namespace Go.Proofs.Ytmmdcdjkmakgpaa
namespace V
attribute [local irreducible] bindP ifP condP newP optP exP beqP
set_option maxRecDepth 8000 in
set_option maxHeartbeats 1000000 in
theorem checker_move_c {ro : Ro} {c : List Nat} {n : Int} {cv sv lv rv uv nv ov : Value} {S : List StateD} {R : List Int} {m : MoveD} (hc : c.length = 256) (hSl : S.length ≤ 256) (hR : R.length ≤ 3) (hmo : m.ops.length ≤ maxB) {h : T Obj} {nx : Nat} {K : KV} (hf : Fr h nx)
    (hS : SlR ro h sv 4 (RState ro h) S) (hrv : ZI ro h rv R) (hov : SlR ro h ov 1 RU8 m.ops) (hK : ∀ nx', nx ≤ nx' → K (.bool (moveOk S R m)) h nx') : callP Try.prog ro i_auto_checker_move [.agg (autL c n cv sv).toArray, .agg #[lv, rv, uv, nv], .agg #[.int .i64 m.to, ov]] h nx K := by
  apply auto_checker_move_of
  unfold auto_checker_move
  refine param_mk hf (Nat.le_refl _) fun h1 hs1 hf1 g1 _ => ?_
  refine param_mk hf1 (Nat.le_refl _) fun h2 hs2 hf2 g2 _ => ?_
  refine param_mk hf2 (Nat.le_refl _) fun h3 hs3 hf3 g3 _ => ?_
  have g1 : h3.get nx = some (.cells (autL c n cv sv).toArray y_auto_checker) := hs3 _ _ (hs2 _ _ g1)
  have g2 : h3.get (nx + 1) = some (.cells #[lv, rv, uv, nv] y_api_State) := hs3 _ _ g2
  have g3 : h3.get (nx + 2) = some (.cells #[.int .i64 m.to, ov] y_api_Move) := g3
  have hs := (hs1.trans hs2).trans hs3
  have hS := hS.sub hs (RState.sub hs)
  have hrv := hrv.sub hs
  have hov := hov.sub hs fun _ _ h => h
  have hsg := autL_states (n := n) (cv := cv) (sv := sv) hc
  have hol := hov.len
  have hsl := hS.len
  have hmb : m.ops.length ≤ 9223372036854775807 := hmo
  have hno : ∀ n, moveOk S R m = false → nx ≤ n → ∃ h', Sub h' h3 ∧ K (.bool false) h' n := fun n e hn => ⟨h, hs, kb hK e hn⟩
  (repeat (first | refine bindP_mk (by simp (disch := first | omega | exact Int.natCast_nonneg _ | assumption) only [BB, B2, ↓reduceIte, Nat.reduceLeDiff, Nat.reduceAdd, CC, g3] <;> rfl) ?_ | refine newP_mk ?_ | refine optP_mk ?_ | with_reducible first | refine condP_t ?_ | refine condP_f ?_ | refine ifP_tt' ?_ | refine ifP_ff' ?_ | refine ifP_tf' ?_ | refine ifP_ft' ?_ | refine ifP_u' ?_ | refine optP_mk0 ?_))
  refine eql_s (fun ht => ?_) (fun ht => ?_)
  · (repeat (first | refine bindP_mk (by simp (disch := first | omega | exact Int.natCast_nonneg _ | assumption) only [BB, B2, ↓reduceIte, Nat.reduceLeDiff, Nat.reduceAdd, CC, g3, hol] <;> rfl) ?_ | refine newP_mk ?_ | refine optP_mk ?_ | with_reducible first | refine condP_t ?_ | refine condP_f ?_ | refine ifP_tt' ?_ | refine ifP_ff' ?_ | refine ifP_tf' ?_ | refine ifP_ft' ?_ | refine ifP_u' ?_ | refine optP_mk0 ?_))
    refine bindP_mk (intB_eql _ _ _) ?_
    refine ⟨h, hs, kb hK ?_ (by omega)⟩
    unfold moveOk
    rw [if_pos ht, decide_eq_decide]
    omega
  · unfold moveOk at hno hK
    rw [if_neg ht] at hno hK
    (repeat (first | refine bindP_mk (by simp (disch := first | omega | exact Int.natCast_nonneg _ | assumption) only [BB, B2, ↓reduceIte, Nat.reduceLeDiff, Nat.reduceAdd, CC, g3] <;> rfl) ?_ | refine newP_mk ?_ | refine optP_mk ?_ | with_reducible first | refine condP_t ?_ | refine condP_f ?_ | refine ifP_tt' ?_ | refine ifP_ff' ?_ | refine ifP_tf' ?_ | refine ifP_ft' ?_ | refine ifP_u' ?_ | refine optP_mk0 ?_))
    refine lss_s (fun h1 => ?_) (fun h1 => ?_)
    · (repeat (first | refine bindP_mk (by simp (disch := first | omega | exact Int.natCast_nonneg _ | assumption) only [BB, B2, ↓reduceIte, Nat.reduceLeDiff, Nat.reduceAdd, CC] <;> rfl) ?_ | refine newP_mk ?_ | refine optP_mk ?_ | with_reducible first | refine condP_t ?_ | refine condP_f ?_ | refine ifP_tt' ?_ | refine ifP_ff' ?_ | refine ifP_tf' ?_ | refine ifP_ft' ?_ | refine ifP_u' ?_ | refine optP_mk0 ?_))
      exact hno _ (by rw [decide_eq_false (by omega)]; rfl) (by omega)
    · rw [decide_eq_true h1, Bool.true_and] at hno hK
      (repeat (first | refine bindP_mk (by simp (disch := first | omega | exact Int.natCast_nonneg _ | assumption) only [BB, B2, ↓reduceIte, Nat.reduceLeDiff, Nat.reduceAdd, CC, g1, g3, hsg, hsl] <;> rfl) ?_ | refine newP_mk ?_ | refine optP_mk ?_ | with_reducible first | refine condP_t ?_ | refine condP_f ?_ | refine ifP_tt' ?_ | refine ifP_ff' ?_ | refine ifP_tf' ?_ | refine ifP_ft' ?_ | refine ifP_u' ?_ | refine optP_mk0 ?_))
      refine geq_s (fun h2 => ?_) (fun h2 => ?_)
      · (repeat (first | refine bindP_mk (by simp (disch := first | omega | exact Int.natCast_nonneg _ | assumption) only [BB, B2, ↓reduceIte, Nat.reduceLeDiff, Nat.reduceAdd, CC] <;> rfl) ?_ | refine newP_mk ?_ | refine optP_mk ?_ | with_reducible first | refine condP_t ?_ | refine condP_f ?_ | refine ifP_tt' ?_ | refine ifP_ff' ?_ | refine ifP_tf' ?_ | refine ifP_ft' ?_ | refine ifP_u' ?_ | refine optP_mk0 ?_))
        exact hno _ (by rw [decide_eq_false (by omega)]; rfl) (by omega)
      · rw [decide_eq_true h2, Bool.true_and] at hno hK
        have hti : m.to.toNat < S.length := by omega
        have hgd : S.getD m.to.toNat noS = S[m.to.toNat] := by rw [List.getD_eq_getElem?_getD, List.getElem?_eq_getElem hti]; rfl
        rw [hgd] at hno hK
        have hix := hS.ixI .i64 (i := m.to) (by omega) h2
        obtain ⟨x, ⟨lv', rv', uv', nv', rfl, y1, y2, y3, y4, y5⟩, hx2, hx3, hx4, hx5⟩ := hS.at hti
        have hx1 := hx5 1 rv' rfl
        have hrl := y2.len
        generalize S[m.to.toNat] = s at hno hK y1 y2 y3 y4 y5 hrl
        have y5 : s.r.length ≤ 9223372036854775807 := y5
        (repeat (first | refine bindP_mk (by simp (disch := first | omega | exact Int.natCast_nonneg _ | assumption) only [BB, B2, ↓reduceIte, Nat.reduceLeDiff, Nat.reduceAdd, CC, g1, g3, hsg, hol, hix, hx4, hx1, hrl] <;> rfl) ?_ | refine newP_mk ?_ | refine optP_mk ?_ | with_reducible first | refine condP_t ?_ | refine condP_f ?_ | refine ifP_tt' ?_ | refine ifP_ff' ?_ | refine ifP_tf' ?_ | refine ifP_ft' ?_ | refine ifP_u' ?_ | refine optP_mk0 ?_))
        refine neq_s (fun u9 => ?_) (fun u9 => ?_)
        · (repeat (first | refine bindP_mk (by simp (disch := first | omega | exact Int.natCast_nonneg _ | assumption) only [BB, B2, ↓reduceIte, Nat.reduceLeDiff, Nat.reduceAdd, CC] <;> rfl) ?_ | refine newP_mk ?_ | refine optP_mk ?_ | with_reducible first | refine condP_t ?_ | refine condP_f ?_ | refine ifP_tt' ?_ | refine ifP_ff' ?_ | refine ifP_tf' ?_ | refine ifP_ft' ?_ | refine ifP_u' ?_ | refine optP_mk0 ?_))
          exact hno _ (by rw [decide_eq_false (by omega)]; rfl) (by omega)
        · have u9 : m.ops.length = s.r.length := by omega
          rw [decide_eq_true u9, Bool.true_and] at hno hK
          (repeat (first | refine bindP_mk (by simp (disch := first | omega | exact Int.natCast_nonneg _ | assumption) only [BB, B2, ↓reduceIte, Nat.reduceLeDiff, Nat.reduceAdd, CC, g3, hol] <;> rfl) ?_ | refine newP_mk ?_ | refine optP_mk ?_ | with_reducible first | refine condP_t ?_ | refine condP_f ?_ | refine ifP_tt' ?_ | refine ifP_ff' ?_ | refine ifP_tf' ?_ | refine ifP_ft' ?_ | refine ifP_u' ?_ | refine optP_mk0 ?_))
          generalize hB : opsOk R m.ops s.r = B at hno hK
          refine loopP_rule (fun j e h' nx' => ∃ (k : Nat), k + j = m.ops.length ∧ nx ≤ nx' ∧ h' = h3 ∧ e 3 = ptr nx ∧ e 4 = ptr (nx + 1) ∧ e 5 = ptr (nx + 2) ∧ e 44 = ov ∧ e 45 = .int .i64 m.ops.length ∧ e 46 = .int .i64 k ∧ opsOk R (m.ops.drop k) (s.r.drop k) = B) ?_ (n := m.ops.length) ⟨0, by omega, by omega, rfl, rfl, rfl, rfl, rfl, rfl, rfl, hB⟩
          rintro j e h' nx' ⟨k, hj, hnx, rfl, e3, e4, e5, e44, e45, e46, hr⟩ Q' hq hx
          unfold auto_checker_move_L1
          rw [e3, e4, e5, e44, e45, e46]
          refine lss_s (fun hk => ?_) (fun hk => ?_)
          · have hk : k < m.ops.length := by omega
            have hk2 : k < s.r.length := by omega
            rw [drop_cons hk, drop_cons hk2, opsOk_cons] at hr
            have oix := hov.ix .i64 hk
            obtain ⟨w, ⟨ow, olt⟩, o1⟩ := hov.at1 hk
            simp only [List.cons.injEq, and_true] at ow
            subst ow
            have rix := y2.ix .i64 hk2
            have rld := y2.load hk2
            generalize m.ops[k] = o at hr o1 olt
            generalize s.r[k] = r at hr rld
            have hfin : ∀ (e' : Env) n, e' 6 = .bool false → opOk R o r = false → nx ≤ n → Q' .ret e' h' n := fun e' n h6 hc hn => by
              refine hx _ _ _ _ (fun e => by cases e) (exP_r ?_)
              rw [h6]
              refine ⟨h, hs, kb hK ?_ hn⟩
              rw [← hr, hc]; rfl
            have hok : ∀ (e' : Env) n, e' 3 = ptr nx → e' 4 = ptr (nx + 1) → e' 5 = ptr (nx + 2) → e' 44 = ov → e' 45 = .int .i64 m.ops.length → e' 46 = .int .i64 ((k : Int) + 1) → opOk R o r = true → nx ≤ n → Q' .normal e' h' n := fun e' n f3 f4 f5 f44 f45 f46 hc hn =>
              hq (j - 1) _ _ _ _ (by omega) ⟨k + 1, by omega, hn, rfl, f3, f4, f5, f44, f45, f46, by rw [← hr, hc]; rfl⟩ (Sub.refl _)
            unfold opOk at hfin hok
            (repeat (first | refine bindP_mk (by simp (disch := first | omega | exact Int.natCast_nonneg _ | assumption) only [BB, B2, ↓reduceIte, Nat.reduceLeDiff, Nat.reduceAdd, CC, oix, o1] <;> rfl) ?_ | refine newP_mk ?_ | refine optP_mk ?_ | with_reducible first | refine condP_t ?_ | refine condP_f ?_ | refine ifP_tt' ?_ | refine ifP_ff' ?_ | refine ifP_tf' ?_ | refine ifP_ft' ?_ | refine ifP_u' ?_ | refine optP_mk0 ?_))
            refine lss_s (fun u1 => ?_) (fun u1 => ?_)
            · (repeat (first | refine bindP_mk (by simp (disch := first | omega | exact Int.natCast_nonneg _ | assumption) only [BB, B2, ↓reduceIte, Nat.reduceLeDiff, Nat.reduceAdd, CC] <;> rfl) ?_ | refine newP_mk ?_ | refine optP_mk ?_ | with_reducible first | refine condP_t ?_ | refine condP_f ?_ | refine ifP_tt' ?_ | refine ifP_ff' ?_ | refine ifP_tf' ?_ | refine ifP_ft' ?_ | refine ifP_u' ?_ | refine optP_mk0 ?_))
              exact hfin _ _ rfl (by rw [decide_eq_false (by omega)]; rfl) (by omega)
            · rw [decide_eq_true (by omega), Bool.true_and] at hfin hok
              (repeat (first | refine bindP_mk (by simp (disch := first | omega | exact Int.natCast_nonneg _ | assumption) only [BB, B2, ↓reduceIte, Nat.reduceLeDiff, Nat.reduceAdd, CC] <;> rfl) ?_ | refine newP_mk ?_ | refine optP_mk ?_ | with_reducible first | refine condP_t ?_ | refine condP_f ?_ | refine ifP_tt' ?_ | refine ifP_ff' ?_ | refine ifP_tf' ?_ | refine ifP_ft' ?_ | refine ifP_u' ?_ | refine optP_mk0 ?_))
              refine gtr_s (fun u2 => ?_) (fun u2 => ?_)
              · (repeat (first | refine bindP_mk (by simp (disch := first | omega | exact Int.natCast_nonneg _ | assumption) only [BB, B2, ↓reduceIte, Nat.reduceLeDiff, Nat.reduceAdd, CC] <;> rfl) ?_ | refine newP_mk ?_ | refine optP_mk ?_ | with_reducible first | refine condP_t ?_ | refine condP_f ?_ | refine ifP_tt' ?_ | refine ifP_ff' ?_ | refine ifP_tf' ?_ | refine ifP_ft' ?_ | refine ifP_u' ?_ | refine optP_mk0 ?_))
                exact hfin _ _ rfl (by rw [decide_eq_false (by omega)]; rfl) (by omega)
              · rw [decide_eq_true (by omega), Bool.true_and] at hfin hok
                (repeat (first | refine bindP_mk (by simp (disch := first | omega | exact Int.natCast_nonneg _ | assumption) only [BB, B2, ↓reduceIte, Nat.reduceLeDiff, Nat.reduceAdd, CC] <;> rfl) ?_ | refine newP_mk ?_ | refine optP_mk ?_ | with_reducible first | refine condP_t ?_ | refine condP_f ?_ | refine ifP_tt' ?_ | refine ifP_ff' ?_ | refine ifP_tf' ?_ | refine ifP_ft' ?_ | refine ifP_u' ?_ | refine optP_mk0 ?_))
                refine neq_s (fun u3 => ?_) (fun u3 => ?_)
                · rw [decide_eq_false (by omega), Bool.false_or] at hfin hok
                  (repeat (first | refine bindP_mk (by simp (disch := first | omega | exact Int.natCast_nonneg _ | assumption) only [BB, B2, ↓reduceIte, Nat.reduceLeDiff, Nat.reduceAdd, CC, g1, g2, g3, hsg, hix, hx4, hx1, rix, rld] <;> rfl) ?_ | refine newP_mk ?_ | refine optP_mk ?_ | with_reducible first | refine condP_t ?_ | refine condP_f ?_ | refine ifP_tt' ?_ | refine ifP_ff' ?_ | refine ifP_tf' ?_ | refine ifP_ft' ?_ | refine ifP_u' ?_ | refine optP_mk0 ?_))
                  refine slices_Contains_c (by omega) hrv fun n9 hn9 => ?_
                  cases hcn : R.contains r with
                  | true =>
                    rw [hcn] at hok
                    (repeat (first | refine bindP_mk (by simp (disch := first | omega | exact Int.natCast_nonneg _ | assumption) only [BB, B2, ↓reduceIte, Nat.reduceLeDiff, Nat.reduceAdd, CC] <;> rfl) ?_ | refine newP_mk ?_ | refine optP_mk ?_ | with_reducible first | refine condP_t ?_ | refine condP_f ?_ | refine ifP_tt' ?_ | refine ifP_ff' ?_ | refine ifP_tf' ?_ | refine ifP_ft' ?_ | refine ifP_u' ?_ | refine optP_mk0 ?_))
                    exact hok _ _ e3 e4 e5 e44 e45 rfl rfl (by omega)
                  | false =>
                    rw [hcn] at hfin
                    (repeat (first | refine bindP_mk (by simp (disch := first | omega | exact Int.natCast_nonneg _ | assumption) only [BB, B2, ↓reduceIte, Nat.reduceLeDiff, Nat.reduceAdd, CC] <;> rfl) ?_ | refine newP_mk ?_ | refine optP_mk ?_ | with_reducible first | refine condP_t ?_ | refine condP_f ?_ | refine ifP_tt' ?_ | refine ifP_ff' ?_ | refine ifP_tf' ?_ | refine ifP_ft' ?_ | refine ifP_u' ?_ | refine optP_mk0 ?_))
                    exact hfin _ _ rfl rfl (by omega)
                · rw [decide_eq_true (by omega), Bool.true_or] at hfin hok
                  (repeat (first | refine bindP_mk (by simp (disch := first | omega | exact Int.natCast_nonneg _ | assumption) only [BB, B2, ↓reduceIte, Nat.reduceLeDiff, Nat.reduceAdd, CC] <;> rfl) ?_ | refine newP_mk ?_ | refine optP_mk ?_ | with_reducible first | refine condP_t ?_ | refine condP_f ?_ | refine ifP_tt' ?_ | refine ifP_ff' ?_ | refine ifP_tf' ?_ | refine ifP_ft' ?_ | refine ifP_u' ?_ | refine optP_mk0 ?_))
                  exact hok _ _ e3 e4 e5 e44 e45 rfl rfl (by omega)
          · (repeat (first | refine bindP_mk (by simp (disch := first | omega | exact Int.natCast_nonneg _ | assumption) only [BB, B2, ↓reduceIte, Nat.reduceLeDiff, Nat.reduceAdd, CC] <;> rfl) ?_ | refine newP_mk ?_ | refine optP_mk ?_ | with_reducible first | refine condP_t ?_ | refine condP_f ?_ | refine ifP_tt' ?_ | refine ifP_ff' ?_ | refine ifP_tf' ?_ | refine ifP_ft' ?_ | refine ifP_u' ?_ | refine optP_mk0 ?_))
            refine hx _ _ _ _ (fun e => by cases e) (exP_e (beqP_t ?_))
            unfold auto_checker_move_j1
            rw [drop_all (by omega), opsOk_nil] at hr
            exact ⟨h, hs, kb hK hr.symm (by omega)⟩
end V
end Go.Proofs.Ytmmdcdjkmakgpaa
set_option linter.unusedVariables false
set_option linter.unusedSimpArgs false
namespace Go.Proofs.Ytmmdcdjkmakgpaa
namespace V
attribute [local irreducible] bindP ifP condP newP optP exP beqP
set_option maxRecDepth 8000 in
set_option maxHeartbeats 1000000 in
theorem ref11_move_c {ro : Ro} {c : List Nat} {n : Int} {cv sv lv rv uv nv ov : Value} {S : List StateD} {R : List Int} {m : MoveD} (hc : c.length = 256) (hSl : S.length ≤ 256) (hR : R.length ≤ 3) (hmo : m.ops.length ≤ maxB) {h : T Obj} {nx : Nat} {K : KV} (hf : Fr h nx)
    (hS : SlR ro h sv 4 (RState ro h) S) (hrv : ZI ro h rv R) (hov : SlR ro h ov 1 RU8 m.ops) (hK : ∀ nx', nx ≤ nx' → K (.bool (moveOk S R m)) h nx') : callP Try.prog ro i_ref11_move [.agg (autL c n cv sv).toArray, .agg #[lv, rv, uv, nv], .agg #[.int .i64 m.to, ov]] h nx K := by
  apply ref11_move_of
  unfold ref11_move
  refine param_mk hf (Nat.le_refl _) fun h1 hs1 hf1 g1 _ => ?_
  refine param_mk hf1 (Nat.le_refl _) fun h2 hs2 hf2 g2 _ => ?_
  refine param_mk hf2 (Nat.le_refl _) fun h3 hs3 hf3 g3 _ => ?_
  have g1 : h3.get nx = some (.cells (autL c n cv sv).toArray y_api_Auto) := hs3 _ _ (hs2 _ _ g1)
  have g2 : h3.get (nx + 1) = some (.cells #[lv, rv, uv, nv] y_api_State) := hs3 _ _ g2
  have g3 : h3.get (nx + 2) = some (.cells #[.int .i64 m.to, ov] y_api_Move) := g3
  have hs := (hs1.trans hs2).trans hs3
  have hS := hS.sub hs (RState.sub hs)
  have hrv := hrv.sub hs
  have hov := hov.sub hs fun _ _ h => h
  have hsg := autL_states (n := n) (cv := cv) (sv := sv) hc
  have hol := hov.len
  have hsl := hS.len
  have hmb : m.ops.length ≤ 9223372036854775807 := hmo
  have hno : ∀ n, moveOk S R m = false → nx ≤ n → ∃ h', Sub h' h3 ∧ K (.bool false) h' n := fun n e hn => ⟨h, hs, kb hK e hn⟩
  (repeat (first | refine bindP_mk (by simp (disch := first | omega | exact Int.natCast_nonneg _ | assumption) only [BB, B2, ↓reduceIte, Nat.reduceLeDiff, Nat.reduceAdd, CC, g3] <;> rfl) ?_ | refine newP_mk ?_ | refine optP_mk ?_ | with_reducible first | refine condP_t ?_ | refine condP_f ?_ | refine ifP_tt' ?_ | refine ifP_ff' ?_ | refine ifP_tf' ?_ | refine ifP_ft' ?_ | refine ifP_u' ?_ | refine optP_mk0 ?_))
  refine eql_s (fun ht => ?_) (fun ht => ?_)
  · (repeat (first | refine bindP_mk (by simp (disch := first | omega | exact Int.natCast_nonneg _ | assumption) only [BB, B2, ↓reduceIte, Nat.reduceLeDiff, Nat.reduceAdd, CC, g3, hol] <;> rfl) ?_ | refine newP_mk ?_ | refine optP_mk ?_ | with_reducible first | refine condP_t ?_ | refine condP_f ?_ | refine ifP_tt' ?_ | refine ifP_ff' ?_ | refine ifP_tf' ?_ | refine ifP_ft' ?_ | refine ifP_u' ?_ | refine optP_mk0 ?_))
    refine bindP_mk (intB_eql _ _ _) ?_
    refine ⟨h, hs, kb hK ?_ (by omega)⟩
    unfold moveOk
    rw [if_pos ht, decide_eq_decide]
    omega
  · unfold moveOk at hno hK
    rw [if_neg ht] at hno hK
    (repeat (first | refine bindP_mk (by simp (disch := first | omega | exact Int.natCast_nonneg _ | assumption) only [BB, B2, ↓reduceIte, Nat.reduceLeDiff, Nat.reduceAdd, CC, g3] <;> rfl) ?_ | refine newP_mk ?_ | refine optP_mk ?_ | with_reducible first | refine condP_t ?_ | refine condP_f ?_ | refine ifP_tt' ?_ | refine ifP_ff' ?_ | refine ifP_tf' ?_ | refine ifP_ft' ?_ | refine ifP_u' ?_ | refine optP_mk0 ?_))
    refine lss_s (fun h1 => ?_) (fun h1 => ?_)
    · (repeat (first | refine bindP_mk (by simp (disch := first | omega | exact Int.natCast_nonneg _ | assumption) only [BB, B2, ↓reduceIte, Nat.reduceLeDiff, Nat.reduceAdd, CC] <;> rfl) ?_ | refine newP_mk ?_ | refine optP_mk ?_ | with_reducible first | refine condP_t ?_ | refine condP_f ?_ | refine ifP_tt' ?_ | refine ifP_ff' ?_ | refine ifP_tf' ?_ | refine ifP_ft' ?_ | refine ifP_u' ?_ | refine optP_mk0 ?_))
      exact hno _ (by rw [decide_eq_false (by omega)]; rfl) (by omega)
    · rw [decide_eq_true h1, Bool.true_and] at hno hK
      (repeat (first | refine bindP_mk (by simp (disch := first | omega | exact Int.natCast_nonneg _ | assumption) only [BB, B2, ↓reduceIte, Nat.reduceLeDiff, Nat.reduceAdd, CC, g1, g3, hsg, hsl] <;> rfl) ?_ | refine newP_mk ?_ | refine optP_mk ?_ | with_reducible first | refine condP_t ?_ | refine condP_f ?_ | refine ifP_tt' ?_ | refine ifP_ff' ?_ | refine ifP_tf' ?_ | refine ifP_ft' ?_ | refine ifP_u' ?_ | refine optP_mk0 ?_))
      refine geq_s (fun h2 => ?_) (fun h2 => ?_)
      · (repeat (first | refine bindP_mk (by simp (disch := first | omega | exact Int.natCast_nonneg _ | assumption) only [BB, B2, ↓reduceIte, Nat.reduceLeDiff, Nat.reduceAdd, CC] <;> rfl) ?_ | refine newP_mk ?_ | refine optP_mk ?_ | with_reducible first | refine condP_t ?_ | refine condP_f ?_ | refine ifP_tt' ?_ | refine ifP_ff' ?_ | refine ifP_tf' ?_ | refine ifP_ft' ?_ | refine ifP_u' ?_ | refine optP_mk0 ?_))
        exact hno _ (by rw [decide_eq_false (by omega)]; rfl) (by omega)
      · rw [decide_eq_true h2, Bool.true_and] at hno hK
        have hti : m.to.toNat < S.length := by omega
        have hgd : S.getD m.to.toNat noS = S[m.to.toNat] := by rw [List.getD_eq_getElem?_getD, List.getElem?_eq_getElem hti]; rfl
        rw [hgd] at hno hK
        have hix := hS.ixI .i64 (i := m.to) (by omega) h2
        obtain ⟨x, ⟨lv', rv', uv', nv', rfl, y1, y2, y3, y4, y5⟩, hx2, hx3, hx4, hx5⟩ := hS.at hti
        have hx1 := hx5 1 rv' rfl
        have hrl := y2.len
        generalize S[m.to.toNat] = s at hno hK y1 y2 y3 y4 y5 hrl
        have y5 : s.r.length ≤ 9223372036854775807 := y5
        (repeat (first | refine bindP_mk (by simp (disch := first | omega | exact Int.natCast_nonneg _ | assumption) only [BB, B2, ↓reduceIte, Nat.reduceLeDiff, Nat.reduceAdd, CC, g1, g3, hsg, hol, hix, hx4, hx1, hrl] <;> rfl) ?_ | refine newP_mk ?_ | refine optP_mk ?_ | with_reducible first | refine condP_t ?_ | refine condP_f ?_ | refine ifP_tt' ?_ | refine ifP_ff' ?_ | refine ifP_tf' ?_ | refine ifP_ft' ?_ | refine ifP_u' ?_ | refine optP_mk0 ?_))
        refine neq_s (fun u9 => ?_) (fun u9 => ?_)
        · (repeat (first | refine bindP_mk (by simp (disch := first | omega | exact Int.natCast_nonneg _ | assumption) only [BB, B2, ↓reduceIte, Nat.reduceLeDiff, Nat.reduceAdd, CC] <;> rfl) ?_ | refine newP_mk ?_ | refine optP_mk ?_ | with_reducible first | refine condP_t ?_ | refine condP_f ?_ | refine ifP_tt' ?_ | refine ifP_ff' ?_ | refine ifP_tf' ?_ | refine ifP_ft' ?_ | refine ifP_u' ?_ | refine optP_mk0 ?_))
          exact hno _ (by rw [decide_eq_false (by omega)]; rfl) (by omega)
        · have u9 : m.ops.length = s.r.length := by omega
          rw [decide_eq_true u9, Bool.true_and] at hno hK
          (repeat (first | refine bindP_mk (by simp (disch := first | omega | exact Int.natCast_nonneg _ | assumption) only [BB, B2, ↓reduceIte, Nat.reduceLeDiff, Nat.reduceAdd, CC, g3, hol] <;> rfl) ?_ | refine newP_mk ?_ | refine optP_mk ?_ | with_reducible first | refine condP_t ?_ | refine condP_f ?_ | refine ifP_tt' ?_ | refine ifP_ff' ?_ | refine ifP_tf' ?_ | refine ifP_ft' ?_ | refine ifP_u' ?_ | refine optP_mk0 ?_))
          generalize hB : opsOk R m.ops s.r = B at hno hK
          refine loopP_rule (fun j e h' nx' => ∃ (k : Nat), k + j = m.ops.length ∧ nx ≤ nx' ∧ h' = h3 ∧ e 3 = ptr nx ∧ e 4 = ptr (nx + 1) ∧ e 5 = ptr (nx + 2) ∧ e 7 = .int .i64 k ∧ opsOk R (m.ops.drop k) (s.r.drop k) = B) ?_ (n := m.ops.length) ⟨0, by omega, by omega, rfl, rfl, rfl, rfl, rfl, hB⟩
          rintro j e h' nx' ⟨k, hj, hnx, rfl, e3, e4, e5, e7, hr⟩ Q' hq hx
          unfold ref11_move_L1
          rw [e3, e4, e5, e7]
          (repeat (first | refine bindP_mk (by simp (disch := first | omega | exact Int.natCast_nonneg _ | assumption) only [BB, B2, ↓reduceIte, Nat.reduceLeDiff, Nat.reduceAdd, CC, g3, hol] <;> rfl) ?_ | refine newP_mk ?_ | refine optP_mk ?_ | with_reducible first | refine condP_t ?_ | refine condP_f ?_ | refine ifP_tt' ?_ | refine ifP_ff' ?_ | refine ifP_tf' ?_ | refine ifP_ft' ?_ | refine ifP_u' ?_ | refine optP_mk0 ?_))
          refine lss_s (fun hk => ?_) (fun hk => ?_)
          · have hk : k < m.ops.length := by omega
            have hk2 : k < s.r.length := by omega
            rw [drop_cons hk, drop_cons hk2, opsOk_cons] at hr
            have oix := hov.ix .i64 hk
            obtain ⟨w, ⟨ow, olt⟩, o1⟩ := hov.at1 hk
            simp only [List.cons.injEq, and_true] at ow
            subst ow
            have rix := y2.ix .i64 hk2
            have rld := y2.load hk2
            generalize m.ops[k] = o at hr o1 olt
            generalize s.r[k] = r at hr rld
            have hfin : ∀ (e' : Env) n, e' 6 = .bool false → opOk R o r = false → nx ≤ n → Q' .ret e' h' n := fun e' n h6 hc hn => by
              refine hx _ _ _ _ (fun e => by cases e) (exP_r ?_)
              rw [h6]
              refine ⟨h, hs, kb hK ?_ hn⟩
              rw [← hr, hc]; rfl
            have hok : ∀ (e' : Env) n, e' 3 = ptr nx → e' 4 = ptr (nx + 1) → e' 5 = ptr (nx + 2) → e' 7 = .int .i64 ((k : Int) + 1) → opOk R o r = true → nx ≤ n → Q' .normal e' h' n := fun e' n f3 f4 f5 f7 hc hn =>
              hq (j - 1) _ _ _ _ (by omega) ⟨k + 1, by omega, hn, rfl, f3, f4, f5, f7, by rw [← hr, hc]; rfl⟩ (Sub.refl _)
            unfold opOk at hfin hok
            (repeat (first | refine bindP_mk (by simp (disch := first | omega | exact Int.natCast_nonneg _ | assumption) only [BB, B2, ↓reduceIte, Nat.reduceLeDiff, Nat.reduceAdd, CC, g3, oix, o1] <;> rfl) ?_ | refine newP_mk ?_ | refine optP_mk ?_ | with_reducible first | refine condP_t ?_ | refine condP_f ?_ | refine ifP_tt' ?_ | refine ifP_ff' ?_ | refine ifP_tf' ?_ | refine ifP_ft' ?_ | refine ifP_u' ?_ | refine optP_mk0 ?_))
            refine lss_s (fun u1 => ?_) (fun u1 => ?_)
            · (repeat (first | refine bindP_mk (by simp (disch := first | omega | exact Int.natCast_nonneg _ | assumption) only [BB, B2, ↓reduceIte, Nat.reduceLeDiff, Nat.reduceAdd, CC, g3, oix, o1] <;> rfl) ?_ | refine newP_mk ?_ | refine optP_mk ?_ | with_reducible first | refine condP_t ?_ | refine condP_f ?_ | refine ifP_tt' ?_ | refine ifP_ff' ?_ | refine ifP_tf' ?_ | refine ifP_ft' ?_ | refine ifP_u' ?_ | refine optP_mk0 ?_))
              exact hfin _ _ rfl (by rw [decide_eq_false (by omega)]; rfl) (by omega)
            · rw [decide_eq_true (by omega), Bool.true_and] at hfin hok
              (repeat (first | refine bindP_mk (by simp (disch := first | omega | exact Int.natCast_nonneg _ | assumption) only [BB, B2, ↓reduceIte, Nat.reduceLeDiff, Nat.reduceAdd, CC, g3, oix, o1] <;> rfl) ?_ | refine newP_mk ?_ | refine optP_mk ?_ | with_reducible first | refine condP_t ?_ | refine condP_f ?_ | refine ifP_tt' ?_ | refine ifP_ff' ?_ | refine ifP_tf' ?_ | refine ifP_ft' ?_ | refine ifP_u' ?_ | refine optP_mk0 ?_))
              refine gtr_s (fun u2 => ?_) (fun u2 => ?_)
              · (repeat (first | refine bindP_mk (by simp (disch := first | omega | exact Int.natCast_nonneg _ | assumption) only [BB, B2, ↓reduceIte, Nat.reduceLeDiff, Nat.reduceAdd, CC, g3, oix, o1] <;> rfl) ?_ | refine newP_mk ?_ | refine optP_mk ?_ | with_reducible first | refine condP_t ?_ | refine condP_f ?_ | refine ifP_tt' ?_ | refine ifP_ff' ?_ | refine ifP_tf' ?_ | refine ifP_ft' ?_ | refine ifP_u' ?_ | refine optP_mk0 ?_))
                exact hfin _ _ rfl (by rw [decide_eq_false (by omega)]; rfl) (by omega)
              · rw [decide_eq_true (by omega), Bool.true_and] at hfin hok
                (repeat (first | refine bindP_mk (by simp (disch := first | omega | exact Int.natCast_nonneg _ | assumption) only [BB, B2, ↓reduceIte, Nat.reduceLeDiff, Nat.reduceAdd, CC, g3, oix, o1] <;> rfl) ?_ | refine newP_mk ?_ | refine optP_mk ?_ | with_reducible first | refine condP_t ?_ | refine condP_f ?_ | refine ifP_tt' ?_ | refine ifP_ff' ?_ | refine ifP_tf' ?_ | refine ifP_ft' ?_ | refine ifP_u' ?_ | refine optP_mk0 ?_))
                refine neq_s (fun u3 => ?_) (fun u3 => ?_)
                · rw [decide_eq_false (by omega), Bool.false_or] at hfin hok
                  (repeat (first | refine bindP_mk (by simp (disch := first | omega | exact Int.natCast_nonneg _ | assumption) only [BB, B2, ↓reduceIte, Nat.reduceLeDiff, Nat.reduceAdd, CC, g1, g2, g3, hsg, hix, hx4, hx1, rix, rld] <;> rfl) ?_ | refine newP_mk ?_ | refine optP_mk ?_ | with_reducible first | refine condP_t ?_ | refine condP_f ?_ | refine ifP_tt' ?_ | refine ifP_ff' ?_ | refine ifP_tf' ?_ | refine ifP_ft' ?_ | refine ifP_u' ?_ | refine optP_mk0 ?_))
                  refine ref11_in_c (by omega) hrv fun n9 hn9 => ?_
                  cases hcn : R.contains r with
                  | true =>
                    rw [hcn] at hok
                    (repeat (first | refine bindP_mk (by simp (disch := first | omega | exact Int.natCast_nonneg _ | assumption) only [BB, B2, ↓reduceIte, Nat.reduceLeDiff, Nat.reduceAdd, CC] <;> rfl) ?_ | refine newP_mk ?_ | refine optP_mk ?_ | with_reducible first | refine condP_t ?_ | refine condP_f ?_ | refine ifP_tt' ?_ | refine ifP_ff' ?_ | refine ifP_tf' ?_ | refine ifP_ft' ?_ | refine ifP_u' ?_ | refine optP_mk0 ?_))
                    exact hok _ _ e3 e4 e5 rfl rfl (by omega)
                  | false =>
                    rw [hcn] at hfin
                    (repeat (first | refine bindP_mk (by simp (disch := first | omega | exact Int.natCast_nonneg _ | assumption) only [BB, B2, ↓reduceIte, Nat.reduceLeDiff, Nat.reduceAdd, CC] <;> rfl) ?_ | refine newP_mk ?_ | refine optP_mk ?_ | with_reducible first | refine condP_t ?_ | refine condP_f ?_ | refine ifP_tt' ?_ | refine ifP_ff' ?_ | refine ifP_tf' ?_ | refine ifP_ft' ?_ | refine ifP_u' ?_ | refine optP_mk0 ?_))
                    exact hfin _ _ rfl rfl (by omega)
                · rw [decide_eq_true (by omega), Bool.true_or] at hfin hok
                  (repeat (first | refine bindP_mk (by simp (disch := first | omega | exact Int.natCast_nonneg _ | assumption) only [BB, B2, ↓reduceIte, Nat.reduceLeDiff, Nat.reduceAdd, CC] <;> rfl) ?_ | refine newP_mk ?_ | refine optP_mk ?_ | with_reducible first | refine condP_t ?_ | refine condP_f ?_ | refine ifP_tt' ?_ | refine ifP_ff' ?_ | refine ifP_tf' ?_ | refine ifP_ft' ?_ | refine ifP_u' ?_ | refine optP_mk0 ?_))
                  exact hok _ _ e3 e4 e5 rfl rfl (by omega)
          · (repeat (first | refine bindP_mk (by simp (disch := first | omega | exact Int.natCast_nonneg _ | assumption) only [BB, B2, ↓reduceIte, Nat.reduceLeDiff, Nat.reduceAdd, CC] <;> rfl) ?_ | refine newP_mk ?_ | refine optP_mk ?_ | with_reducible first | refine condP_t ?_ | refine condP_f ?_ | refine ifP_tt' ?_ | refine ifP_ff' ?_ | refine ifP_tf' ?_ | refine ifP_ft' ?_ | refine ifP_u' ?_ | refine optP_mk0 ?_))
            refine hx _ _ _ _ (fun e => by cases e) (exP_e (beqP_t ?_))
            unfold ref11_move_j1
            rw [drop_all (by omega), opsOk_nil] at hr
            exact ⟨h, hs, kb hK hr.symm (by omega)⟩
end V
end Go.Proofs.Ytmmdcdjkmakgpaa
set_option linter.unusedVariables false
set_option linter.unusedSimpArgs false
namespace Go.Proofs.Ytmmdcdjkmakgpaa
namespace V
open PA
attribute [local irreducible] bindP ifP condP newP optP exP beqP
def rowOk (S : List StateD) (R : List Int) (many ru : Int) (row : List MoveD) : Bool := decide (-1 ≤ ru) && (decide (ru < 512) && (decide ((row.length : Int) = many) && row.all (moveOk S R)))
def rowsOk (S : List StateD) (R : List Int) (many : Int) : List Int → List (List MoveD) → Bool
  | ru :: rus, row :: rows => rowOk S R many ru row && rowsOk S R many rus rows
  | _, _ => true
def stateOk (S : List StateD) (many : Int) (cn : Nat) (s : StateD) : Bool := decide (codesD s.r.length ≠ 0) && (decide ((s.rule.length : Int) = codesD s.r.length) && (decide ((s.next.length : Int) = codesD s.r.length) && (rz (-1) 512 s.l && (rz (-1) cn s.r && rowsOk S s.r many s.rule s.next))))
theorem rowsOk_cons (S : List StateD) (R : List Int) (many ru : Int) (row : List MoveD) (rus : List Int) (rows : List (List MoveD)) : rowsOk S R many (ru :: rus) (row :: rows) = (rowOk S R many ru row && rowsOk S R many rus rows) := rfl
theorem rowsOk_nil (S : List StateD) (R : List Int) (many : Int) (l : List Int) : rowsOk S R many l [] = true := by cases l <;> rfl
theorem move_IndexFunc_c {ro : Ro} {v f : Value} {D : Type} {l : List D} {R : List Value → D → Prop} {q : D → Bool} (hlen : l.length ≤ 1000000) {h : T Obj} {nx : Nat} {K : KV} (hv : SlR ro h v 2 R l)
    (hf : ∀ (i : Nat) (hi : i < l.length) x n K', R x l[i] → nx ≤ n → (∀ n', n ≤ n' → K' (.bool (q l[i])) h n') → callF (callP Try.prog ro) f [.agg x.toArray] h n K')
    (hK : ∀ nx', nx ≤ nx' → K (.int .i64 (findI q 0 l)) h nx') : callP Try.prog ro i_slices_IndexFunc_api_Move_api_Move [v, f] h nx K := by
  apply slices_IndexFunc_api_Move_api_Move_of
  unfold slices_IndexFunc_api_Move_api_Move
  generalize hR : findI q 0 l = r at hK
  refine bindP_mk hv.len ?_
  refine loopP_rule (fun j e h' nx' => ∃ (k : Nat), k + j = l.length ∧ nx ≤ nx' ∧ h' = h ∧ e 0 = v ∧ e 1 = f ∧ e 7 = .int .i64 l.length ∧ e 8 = .int .i64 k ∧ findI q k (l.drop k) = r) ?_ (n := l.length) ⟨0, by omega, by omega, rfl, rfl, rfl, rfl, rfl, hR⟩
  rintro j e h' nx' ⟨k, hj, hnx, rfl, e0, e1, e7, e8, hr⟩ Q' hq hx
  unfold slices_IndexFunc_api_Move_api_Move_L1
  rw [e0, e1, e7, e8]
  refine lss_s (fun hk => ?_) (fun hk => ?_)
  · have hk : k < l.length := by omega
    rw [drop_cons hk, findI_cons] at hr
    obtain ⟨x, hx1, hx2, hx3, hx4, hx5⟩ := hv.at hk
    (repeat (first | refine bindP_mk (by simp (disch := first | omega | exact Int.natCast_nonneg _ | assumption) only [BB, B2, ↓reduceIte, Nat.reduceLeDiff, Nat.reduceAdd, CC] <;> rfl) ?_ | refine newP_mk ?_ | refine optP_mk ?_ | with_reducible first | refine condP_t ?_ | refine condP_f ?_ | refine ifP_tt' ?_ | refine ifP_ff' ?_ | refine ifP_tf' ?_ | refine ifP_ft' ?_ | refine ifP_u' ?_ | refine optP_mk0 ?_))
    refine bindP_mk (hv.ix _ hk) (bindP_mk hx3 ?_)
    refine hf k hk x _ _ hx1 (by omega) fun n hn => ?_
    cases hc : q l[k] with
    | true =>
      rw [hc, if_pos rfl] at hr
      (repeat (first | refine bindP_mk (by simp (disch := first | omega | exact Int.natCast_nonneg _ | assumption) only [BB, B2, ↓reduceIte, Nat.reduceLeDiff, Nat.reduceAdd, CC] <;> rfl) ?_ | refine newP_mk ?_ | refine optP_mk ?_ | with_reducible first | refine condP_t ?_ | refine condP_f ?_ | refine ifP_tt' ?_ | refine ifP_ff' ?_ | refine ifP_tf' ?_ | refine ifP_ft' ?_ | refine ifP_u' ?_ | refine optP_mk0 ?_))
      refine hx _ _ _ _ (fun e => by cases e) (exP_r ?_)
      exact ⟨_, Sub.refl _, ki hK hr.symm (by omega)⟩
    | false =>
      rw [hc, if_neg (by decide)] at hr
      (repeat (first | refine bindP_mk (by simp (disch := first | omega | exact Int.natCast_nonneg _ | assumption) only [BB, B2, ↓reduceIte, Nat.reduceLeDiff, Nat.reduceAdd, CC] <;> rfl) ?_ | refine newP_mk ?_ | refine optP_mk ?_ | with_reducible first | refine condP_t ?_ | refine condP_f ?_ | refine ifP_tt' ?_ | refine ifP_ff' ?_ | refine ifP_tf' ?_ | refine ifP_ft' ?_ | refine ifP_u' ?_ | refine optP_mk0 ?_))
      exact hq (j - 1) _ _ _ _ (by omega) ⟨k + 1, by omega, by omega, rfl, e0, e1, e7, rfl, hr⟩ (Sub.refl _)
  · (repeat (first | refine bindP_mk (by simp (disch := first | omega | exact Int.natCast_nonneg _ | assumption) only [BB, B2, ↓reduceIte, Nat.reduceLeDiff, Nat.reduceAdd, CC] <;> rfl) ?_ | refine newP_mk ?_ | refine optP_mk ?_ | with_reducible first | refine condP_t ?_ | refine condP_f ?_ | refine ifP_tt' ?_ | refine ifP_ff' ?_ | refine ifP_tf' ?_ | refine ifP_ft' ?_ | refine ifP_u' ?_ | refine optP_mk0 ?_))
    refine hx _ _ _ _ (fun e => by cases e) (exP_e (beqP_t ?_))
    unfold slices_IndexFunc_api_Move_api_Move_j1
    rw [drop_all (by omega)] at hr
    exact ⟨_, Sub.refl _, ki hK hr.symm (by omega)⟩
theorem move_ContainsFunc_c {ro : Ro} {v f : Value} {D : Type} {l : List D} {R : List Value → D → Prop} {q : D → Bool} (hlen : l.length ≤ 1000000) {h : T Obj} {nx : Nat} {K : KV} (hv : SlR ro h v 2 R l)
    (hf : ∀ (i : Nat) (hi : i < l.length) x n K', R x l[i] → nx ≤ n → (∀ n', n ≤ n' → K' (.bool (q l[i])) h n') → callF (callP Try.prog ro) f [.agg x.toArray] h n K')
    (hK : ∀ nx', nx ≤ nx' → K (.bool (l.any q)) h nx') : callP Try.prog ro i_slices_ContainsFunc_api_Move_api_Move [v, f] h nx K := by
  apply slices_ContainsFunc_api_Move_api_Move_of
  unfold slices_ContainsFunc_api_Move_api_Move
  refine move_IndexFunc_c hlen hv (fun i hi x n K' hx hn hk => hf i hi x n K' hx (by omega) hk) fun n hn => ?_
  rw [← findI_any q l 0 (by omega)] at hK
  (first | refine lss_s (fun hb => ?_) (fun hb => ?_) | refine leq_s (fun hb => ?_) (fun hb => ?_) | refine gtr_s (fun hb => ?_) (fun hb => ?_) | refine geq_s (fun hb => ?_) (fun hb => ?_) | refine eql_s (fun hb => ?_) (fun hb => ?_) | refine neq_s (fun hb => ?_) (fun hb => ?_))
  · exact ⟨_, Sub.refl _, kb hK (decide_eq_true hb) (by omega)⟩
  · exact ⟨_, Sub.refl _, kb hK (decide_eq_false (by omega)) (by omega)⟩
theorem state_IndexFunc_c {ro : Ro} {v f : Value} {D : Type} {l : List D} {R : List Value → D → Prop} {q : D → Bool} (hlen : l.length ≤ 1000000) {h : T Obj} {nx : Nat} {K : KV} (hv : SlR ro h v 4 R l)
    (hf : ∀ (i : Nat) (hi : i < l.length) x n K', R x l[i] → nx ≤ n → (∀ n', n ≤ n' → K' (.bool (q l[i])) h n') → callF (callP Try.prog ro) f [.agg x.toArray] h n K')
    (hK : ∀ nx', nx ≤ nx' → K (.int .i64 (findI q 0 l)) h nx') : callP Try.prog ro i_slices_IndexFunc_api_State_api_State [v, f] h nx K := by
  apply slices_IndexFunc_api_State_api_State_of
  unfold slices_IndexFunc_api_State_api_State
  generalize hR : findI q 0 l = r at hK
  refine bindP_mk hv.len ?_
  refine loopP_rule (fun j e h' nx' => ∃ (k : Nat), k + j = l.length ∧ nx ≤ nx' ∧ h' = h ∧ e 0 = v ∧ e 1 = f ∧ e 7 = .int .i64 l.length ∧ e 8 = .int .i64 k ∧ findI q k (l.drop k) = r) ?_ (n := l.length) ⟨0, by omega, by omega, rfl, rfl, rfl, rfl, rfl, hR⟩
  rintro j e h' nx' ⟨k, hj, hnx, rfl, e0, e1, e7, e8, hr⟩ Q' hq hx
  unfold slices_IndexFunc_api_State_api_State_L1
  rw [e0, e1, e7, e8]
  refine lss_s (fun hk => ?_) (fun hk => ?_)
  · have hk : k < l.length := by omega
    rw [drop_cons hk, findI_cons] at hr
    obtain ⟨x, hx1, hx2, hx3, hx4, hx5⟩ := hv.at hk
    (repeat (first | refine bindP_mk (by simp (disch := first | omega | exact Int.natCast_nonneg _ | assumption) only [BB, B2, ↓reduceIte, Nat.reduceLeDiff, Nat.reduceAdd, CC] <;> rfl) ?_ | refine newP_mk ?_ | refine optP_mk ?_ | with_reducible first | refine condP_t ?_ | refine condP_f ?_ | refine ifP_tt' ?_ | refine ifP_ff' ?_ | refine ifP_tf' ?_ | refine ifP_ft' ?_ | refine ifP_u' ?_ | refine optP_mk0 ?_))
    refine bindP_mk (hv.ix _ hk) (bindP_mk hx3 ?_)
    refine hf k hk x _ _ hx1 (by omega) fun n hn => ?_
    cases hc : q l[k] with
    | true =>
      rw [hc, if_pos rfl] at hr
      (repeat (first | refine bindP_mk (by simp (disch := first | omega | exact Int.natCast_nonneg _ | assumption) only [BB, B2, ↓reduceIte, Nat.reduceLeDiff, Nat.reduceAdd, CC] <;> rfl) ?_ | refine newP_mk ?_ | refine optP_mk ?_ | with_reducible first | refine condP_t ?_ | refine condP_f ?_ | refine ifP_tt' ?_ | refine ifP_ff' ?_ | refine ifP_tf' ?_ | refine ifP_ft' ?_ | refine ifP_u' ?_ | refine optP_mk0 ?_))
      refine hx _ _ _ _ (fun e => by cases e) (exP_r ?_)
      exact ⟨_, Sub.refl _, ki hK hr.symm (by omega)⟩
    | false =>
      rw [hc, if_neg (by decide)] at hr
      (repeat (first | refine bindP_mk (by simp (disch := first | omega | exact Int.natCast_nonneg _ | assumption) only [BB, B2, ↓reduceIte, Nat.reduceLeDiff, Nat.reduceAdd, CC] <;> rfl) ?_ | refine newP_mk ?_ | refine optP_mk ?_ | with_reducible first | refine condP_t ?_ | refine condP_f ?_ | refine ifP_tt' ?_ | refine ifP_ff' ?_ | refine ifP_tf' ?_ | refine ifP_ft' ?_ | refine ifP_u' ?_ | refine optP_mk0 ?_))
      exact hq (j - 1) _ _ _ _ (by omega) ⟨k + 1, by omega, by omega, rfl, e0, e1, e7, rfl, hr⟩ (Sub.refl _)
  · (repeat (first | refine bindP_mk (by simp (disch := first | omega | exact Int.natCast_nonneg _ | assumption) only [BB, B2, ↓reduceIte, Nat.reduceLeDiff, Nat.reduceAdd, CC] <;> rfl) ?_ | refine newP_mk ?_ | refine optP_mk ?_ | with_reducible first | refine condP_t ?_ | refine condP_f ?_ | refine ifP_tt' ?_ | refine ifP_ff' ?_ | refine ifP_tf' ?_ | refine ifP_ft' ?_ | refine ifP_u' ?_ | refine optP_mk0 ?_))
    refine hx _ _ _ _ (fun e => by cases e) (exP_e (beqP_t ?_))
    unfold slices_IndexFunc_api_State_api_State_j1
    rw [drop_all (by omega)] at hr
    exact ⟨_, Sub.refl _, ki hK hr.symm (by omega)⟩
theorem state_ContainsFunc_c {ro : Ro} {v f : Value} {D : Type} {l : List D} {R : List Value → D → Prop} {q : D → Bool} (hlen : l.length ≤ 1000000) {h : T Obj} {nx : Nat} {K : KV} (hv : SlR ro h v 4 R l)
    (hf : ∀ (i : Nat) (hi : i < l.length) x n K', R x l[i] → nx ≤ n → (∀ n', n ≤ n' → K' (.bool (q l[i])) h n') → callF (callP Try.prog ro) f [.agg x.toArray] h n K')
    (hK : ∀ nx', nx ≤ nx' → K (.bool (l.any q)) h nx') : callP Try.prog ro i_slices_ContainsFunc_api_State_api_State [v, f] h nx K := by
  apply slices_ContainsFunc_api_State_api_State_of
  unfold slices_ContainsFunc_api_State_api_State
  refine state_IndexFunc_c hlen hv (fun i hi x n K' hx hn hk => hf i hi x n K' hx (by omega) hk) fun n hn => ?_
  rw [← findI_any q l 0 (by omega)] at hK
  (first | refine lss_s (fun hb => ?_) (fun hb => ?_) | refine leq_s (fun hb => ?_) (fun hb => ?_) | refine gtr_s (fun hb => ?_) (fun hb => ?_) | refine geq_s (fun hb => ?_) (fun hb => ?_) | refine eql_s (fun hb => ?_) (fun hb => ?_) | refine neq_s (fun hb => ?_) (fun hb => ?_))
  · exact ⟨_, Sub.refl _, kb hK (decide_eq_true hb) (by omega)⟩
  · exact ⟨_, Sub.refl _, kb hK (decide_eq_false (by omega)) (by omega)⟩
set_option maxRecDepth 8000 in
theorem checker_state_1_c {ro : Ro} {c : List Nat} {n : Int} {cv sv lv rv uv nv ov : Value} {S : List StateD} {R : List Int} {m : MoveD} {i1 i2 : Nat} (hc : c.length = 256) (hSl : S.length ≤ 256) (hR : R.length ≤ 3) (hmo : m.ops.length ≤ maxB) {h : T Obj} {nx : Nat} {K : KV} (hf : Fr h nx)
    (g1 : h.get i1 = some (.cells (autL c n cv sv).toArray y_auto_checker)) (g2 : h.get i2 = some (.cells #[lv, rv, uv, nv] y_api_State)) (hS : SlR ro h sv 4 (RState ro h) S) (hrv : ZI ro h rv R) (hov : SlR ro h ov 1 RU8 m.ops) (hK : ∀ nx', nx ≤ nx' → K (.bool (!moveOk S R m)) h nx') : callP Try.prog ro i_auto_checker_state_1 [.agg #[.int .i64 m.to, ov], ptr i1, ptr i2] h nx K := by
  apply auto_checker_state_1_of
  unfold auto_checker_state_1
  refine param_mk hf (Nat.le_refl _) fun h1 hs1 hf1 g3 _ => ?_
  have g3 : h1.get nx = some (.cells #[.int .i64 m.to, ov] y_api_Move) := g3
  refine bindP_mk (loadA_all (hs1 _ _ g1) (autL_len hc)) ?_
  refine bindP_mk (loadA_all (l := [lv, rv, uv, nv]) (hs1 _ _ g2) rfl) ?_
  refine bindP_mk (loadA_all (l := [.int .i64 m.to, ov]) g3 rfl) ?_
  refine checker_move_c hc hSl hR hmo (hf1.mono (by omega)) (hS.sub hs1 (RState.sub hs1)) (hrv.sub hs1) (hov.sub hs1 fun _ _ h => h) fun n hn => ?_
  (repeat (first | refine bindP_mk (by simp (disch := first | omega | exact Int.natCast_nonneg _ | assumption) only [BB, B2, ↓reduceIte, Nat.reduceLeDiff, Nat.reduceAdd, CC] <;> rfl) ?_ | refine newP_mk ?_ | refine optP_mk ?_ | with_reducible first | refine condP_t ?_ | refine condP_f ?_ | refine ifP_tt' ?_ | refine ifP_ff' ?_ | refine ifP_tf' ?_ | refine ifP_ft' ?_ | refine ifP_u' ?_ | refine optP_mk0 ?_))
  exact ⟨h, hs1, hK _ (by omega)⟩
set_option maxRecDepth 8000 in
set_option maxHeartbeats 1000000 in
theorem checker_state_c {ro : Ro} {c : List Nat} {n : Int} {cv sv lv rv uv nv : Value} {S : List StateD} {C : List (Int × Int)} {s : StateD} (hc : c.length = 256) (hn : n ≤ 256) (hSl : S.length ≤ 256) (hC : C.length ≤ 512) (hsr : s.r.length ≤ maxB) {h : T Obj} {nx : Nat} {K : KV} (hf : Fr h nx)
    (hcv : SlR ro h cv 2 RCount C) (hS : SlR ro h sv 4 (RState ro h) S) (h1 : ZI ro h lv s.l) (h2 : ZI ro h rv s.r) (h3 : ZI ro h uv s.rule) (h4 : SlR ro h nv 1 (RRow ro h) s.next)
    (hK : ∀ nx', nx ≤ nx' → K (.bool (stateOk S n C.length s)) h nx') : callP Try.prog ro i_auto_checker_state [.agg (autL c n cv sv).toArray, .agg #[lv, rv, uv, nv]] h nx K := by
  apply auto_checker_state_of
  unfold auto_checker_state
  refine param_mk hf (Nat.le_refl _) fun p1 hs1 hf1 g1 _ => ?_
  refine param_mk hf1 (Nat.le_refl _) fun p2 hs2 hf2 g2 _ => ?_
  have g1 : p2.get nx = some (.cells (autL c n cv sv).toArray y_auto_checker) := hs2 _ _ g1
  have g2 : p2.get (nx + 1) = some (.cells #[lv, rv, uv, nv] y_api_State) := g2
  have hs := hs1.trans hs2
  have hS := hS.sub hs (RState.sub hs)
  have hcv := hcv.sub hs fun _ _ h => h
  have h1 := h1.sub hs
  have h2 := h2.sub hs
  have h3 := h3.sub hs
  have h4 := h4.sub hs (RRow.sub hs)
  have hsg := autL_states (n := n) (cv := cv) (sv := sv) hc
  have hcg := autL_counts (n := n) (cv := cv) (sv := sv) hc
  have hmg := autL_many (n := n) (cv := cv) (sv := sv) hc
  have l1 := h1.len
  have l2 := h2.len
  have l3 := h3.len
  have l4 := h4.len
  have lc := hcv.len
  have hno : ∀ n', stateOk S n C.length s = false → nx ≤ n' → ∃ h', Sub h' p2 ∧ K (.bool false) h' n' := fun n' e hn => ⟨h, hs, kb hK e hn⟩
  unfold stateOk at hno hK
  (repeat (first | refine bindP_mk (by simp (disch := first | omega | exact Int.natCast_nonneg _ | assumption) only [BB, B2, ↓reduceIte, Nat.reduceLeDiff, Nat.reduceAdd, CC, g2, l2] <;> rfl) ?_ | refine newP_mk ?_ | refine optP_mk ?_ | with_reducible first | refine condP_t ?_ | refine condP_f ?_ | refine ifP_tt' ?_ | refine ifP_ff' ?_ | refine ifP_tf' ?_ | refine ifP_ft' ?_ | refine ifP_u' ?_ | refine optP_mk0 ?_))
  refine auto_Codes_c fun n1 hn1 => ?_
  have hcl := codes_le s.r.length
  have hcf := codes_few (m := s.r.length)
  generalize codesD s.r.length = cd at hno hK hcl hcf
  refine eql_s (fun u1 => ?_) (fun u1 => ?_)
  · (repeat (first | refine bindP_mk (by simp (disch := first | omega | exact Int.natCast_nonneg _ | assumption) only [BB, B2, ↓reduceIte, Nat.reduceLeDiff, Nat.reduceAdd, CC] <;> rfl) ?_ | refine newP_mk ?_ | refine optP_mk ?_ | with_reducible first | refine condP_t ?_ | refine condP_f ?_ | refine ifP_tt' ?_ | refine ifP_ff' ?_ | refine ifP_tf' ?_ | refine ifP_ft' ?_ | refine ifP_u' ?_ | refine optP_mk0 ?_))
    exact hno _ (by rw [decide_eq_false (by omega)]; rfl) (by omega)
  · rw [decide_eq_true u1, Bool.true_and] at hno hK
    have hcf := hcf u1
    (repeat (first | refine bindP_mk (by simp (disch := first | omega | exact Int.natCast_nonneg _ | assumption) only [BB, B2, ↓reduceIte, Nat.reduceLeDiff, Nat.reduceAdd, CC, g2, l3] <;> rfl) ?_ | refine newP_mk ?_ | refine optP_mk ?_ | with_reducible first | refine condP_t ?_ | refine condP_f ?_ | refine ifP_tt' ?_ | refine ifP_ff' ?_ | refine ifP_tf' ?_ | refine ifP_ft' ?_ | refine ifP_u' ?_ | refine optP_mk0 ?_))
    refine neq_s (fun u2 => ?_) (fun u2 => ?_)
    · (repeat (first | refine bindP_mk (by simp (disch := first | omega | exact Int.natCast_nonneg _ | assumption) only [BB, B2, ↓reduceIte, Nat.reduceLeDiff, Nat.reduceAdd, CC] <;> rfl) ?_ | refine newP_mk ?_ | refine optP_mk ?_ | with_reducible first | refine condP_t ?_ | refine condP_f ?_ | refine ifP_tt' ?_ | refine ifP_ff' ?_ | refine ifP_tf' ?_ | refine ifP_ft' ?_ | refine ifP_u' ?_ | refine optP_mk0 ?_))
      exact hno _ (by rw [decide_eq_false (by omega)]; rfl) (by omega)
    · rw [decide_eq_true u2, Bool.true_and] at hno hK
      (repeat (first | refine bindP_mk (by simp (disch := first | omega | exact Int.natCast_nonneg _ | assumption) only [BB, B2, ↓reduceIte, Nat.reduceLeDiff, Nat.reduceAdd, CC, g2, l4] <;> rfl) ?_ | refine newP_mk ?_ | refine optP_mk ?_ | with_reducible first | refine condP_t ?_ | refine condP_f ?_ | refine ifP_tt' ?_ | refine ifP_ff' ?_ | refine ifP_tf' ?_ | refine ifP_ft' ?_ | refine ifP_u' ?_ | refine optP_mk0 ?_))
      refine neq_s (fun u3 => ?_) (fun u3 => ?_)
      · (repeat (first | refine bindP_mk (by simp (disch := first | omega | exact Int.natCast_nonneg _ | assumption) only [BB, B2, ↓reduceIte, Nat.reduceLeDiff, Nat.reduceAdd, CC] <;> rfl) ?_ | refine newP_mk ?_ | refine optP_mk ?_ | with_reducible first | refine condP_t ?_ | refine condP_f ?_ | refine ifP_tt' ?_ | refine ifP_ff' ?_ | refine ifP_tf' ?_ | refine ifP_ft' ?_ | refine ifP_u' ?_ | refine optP_mk0 ?_))
        exact hno _ (by rw [decide_eq_false (by omega)]; rfl) (by omega)
      · rw [decide_eq_true u3, Bool.true_and] at hno hK
        (repeat (first | refine bindP_mk (by simp (disch := first | omega | exact Int.natCast_nonneg _ | assumption) only [BB, B2, ↓reduceIte, Nat.reduceLeDiff, Nat.reduceAdd, CC, g2] <;> rfl) ?_ | refine newP_mk ?_ | refine optP_mk ?_ | with_reducible first | refine condP_t ?_ | refine condP_f ?_ | refine ifP_tt' ?_ | refine ifP_ff' ?_ | refine ifP_tf' ?_ | refine ifP_ft' ?_ | refine ifP_u' ?_ | refine optP_mk0 ?_))
        refine auto_rises_c (by omega) h1 fun n2 hn2 => ?_
        cases u4 : rz (-1) 512 s.l with
        | false =>
          (repeat (first | refine bindP_mk (by simp (disch := first | omega | exact Int.natCast_nonneg _ | assumption) only [BB, B2, ↓reduceIte, Nat.reduceLeDiff, Nat.reduceAdd, CC] <;> rfl) ?_ | refine newP_mk ?_ | refine optP_mk ?_ | with_reducible first | refine condP_t ?_ | refine condP_f ?_ | refine ifP_tt' ?_ | refine ifP_ff' ?_ | refine ifP_tf' ?_ | refine ifP_ft' ?_ | refine ifP_u' ?_ | refine optP_mk0 ?_))
          exact hno _ (by rw [u4]; rfl) (by omega)
        | true =>
          rw [u4, Bool.true_and] at hno hK
          (repeat (first | refine bindP_mk (by simp (disch := first | omega | exact Int.natCast_nonneg _ | assumption) only [BB, B2, ↓reduceIte, Nat.reduceLeDiff, Nat.reduceAdd, CC, g1, g2, hcg, lc] <;> rfl) ?_ | refine newP_mk ?_ | refine optP_mk ?_ | with_reducible first | refine condP_t ?_ | refine condP_f ?_ | refine ifP_tt' ?_ | refine ifP_ff' ?_ | refine ifP_tf' ?_ | refine ifP_ft' ?_ | refine ifP_u' ?_ | refine optP_mk0 ?_))
          refine auto_rises_c (by omega) h2 fun n3 hn3 => ?_
          cases u5 : rz (-1) C.length s.r with
          | false =>
            (repeat (first | refine bindP_mk (by simp (disch := first | omega | exact Int.natCast_nonneg _ | assumption) only [BB, B2, ↓reduceIte, Nat.reduceLeDiff, Nat.reduceAdd, CC] <;> rfl) ?_ | refine newP_mk ?_ | refine optP_mk ?_ | with_reducible first | refine condP_t ?_ | refine condP_f ?_ | refine ifP_tt' ?_ | refine ifP_ff' ?_ | refine ifP_tf' ?_ | refine ifP_ft' ?_ | refine ifP_u' ?_ | refine optP_mk0 ?_))
            exact hno _ (by rw [u5]; rfl) (by omega)
          | true =>
            rw [u5, Bool.true_and] at hno hK
            (repeat (first | refine bindP_mk (by simp (disch := first | omega | exact Int.natCast_nonneg _ | assumption) only [BB, B2, ↓reduceIte, Nat.reduceLeDiff, Nat.reduceAdd, CC, g2, l4] <;> rfl) ?_ | refine newP_mk ?_ | refine optP_mk ?_ | with_reducible first | refine condP_t ?_ | refine condP_f ?_ | refine ifP_tt' ?_ | refine ifP_ff' ?_ | refine ifP_tf' ?_ | refine ifP_ft' ?_ | refine ifP_u' ?_ | refine optP_mk0 ?_))
            generalize hB : rowsOk S s.r n s.rule s.next = B at hno hK
            refine loopP_rule (fun j e h' nx' => ∃ (k : Nat), k + j = s.next.length ∧ n3 ≤ nx' ∧ h' = p2 ∧ e 2 = ptr nx ∧ e 3 = ptr (nx + 1) ∧ e 45 = nv ∧ e 46 = .int .i64 s.next.length ∧ e 47 = .int .i64 k ∧ rowsOk S s.r n (s.rule.drop k) (s.next.drop k) = B) ?_ (n := s.next.length) ⟨0, by omega, by omega, rfl, rfl, rfl, rfl, rfl, rfl, hB⟩
            rintro j e h' nx' ⟨k, hj, hnx, rfl, e2, e3, e45, e46, e47, hr⟩ Q' hq hx
            unfold auto_checker_state_L1
            rw [e2, e3, e45, e46, e47]
            refine lss_s (fun hk => ?_) (fun hk => ?_)
            · have hk : k < s.next.length := by omega
              have hk2 : k < s.rule.length := by omega
              rw [drop_cons hk, drop_cons hk2, rowsOk_cons] at hr
              have nix := h4.ix .i64 hk
              obtain ⟨w, ⟨w', ow, orow, olen⟩, o1⟩ := h4.at1 hk
              simp only [List.cons.injEq, and_true] at ow
              subst ow
              have uix := h3.ix .i64 hk2
              have uld := h3.load hk2
              generalize s.next[k] = row at hr o1 orow olen
              generalize s.rule[k] = ru at hr uld
              have rl := orow.len
              have hfin : ∀ (e' : Env) n', e' 4 = .bool false → rowOk S s.r n ru row = false → nx ≤ n' → Q' .ret e' h' n' := fun e' n' h6 hc hn => by
                refine hx _ _ _ _ (fun e => by cases e) (exP_r ?_)
                rw [h6]
                refine ⟨h, hs, kb hK ?_ hn⟩
                rw [← hr, hc]; rfl
              have hok : ∀ (e' : Env) n', e' 2 = ptr nx → e' 3 = ptr (nx + 1) → e' 45 = nv → e' 46 = .int .i64 s.next.length → e' 47 = .int .i64 ((k : Int) + 1) → rowOk S s.r n ru row = true → n3 ≤ n' → Q' .normal e' h' n' := fun e' n' f2 f3 f45 f46 f47 hc hn =>
                hq (j - 1) _ _ _ _ (by omega) ⟨k + 1, by omega, hn, rfl, f2, f3, f45, f46, f47, by rw [← hr, hc]; rfl⟩ (Sub.refl _)
              unfold rowOk at hfin hok
              (repeat (first | refine bindP_mk (by simp (disch := first | omega | exact Int.natCast_nonneg _ | assumption) only [BB, B2, ↓reduceIte, Nat.reduceLeDiff, Nat.reduceAdd, CC, g2, nix, o1, uix, uld] <;> rfl) ?_ | refine newP_mk ?_ | refine optP_mk ?_ | with_reducible first | refine condP_t ?_ | refine condP_f ?_ | refine ifP_tt' ?_ | refine ifP_ff' ?_ | refine ifP_tf' ?_ | refine ifP_ft' ?_ | refine ifP_u' ?_ | refine optP_mk0 ?_))
              refine lss_s (fun v1 => ?_) (fun v1 => ?_)
              · (repeat (first | refine bindP_mk (by simp (disch := first | omega | exact Int.natCast_nonneg _ | assumption) only [BB, B2, ↓reduceIte, Nat.reduceLeDiff, Nat.reduceAdd, CC] <;> rfl) ?_ | refine newP_mk ?_ | refine optP_mk ?_ | with_reducible first | refine condP_t ?_ | refine condP_f ?_ | refine ifP_tt' ?_ | refine ifP_ff' ?_ | refine ifP_tf' ?_ | refine ifP_ft' ?_ | refine ifP_u' ?_ | refine optP_mk0 ?_))
                exact hfin _ _ rfl (by rw [decide_eq_false (by omega)]; rfl) (by omega)
              · rw [decide_eq_true v1, Bool.true_and] at hfin hok
                (repeat (first | refine bindP_mk (by simp (disch := first | omega | exact Int.natCast_nonneg _ | assumption) only [BB, B2, ↓reduceIte, Nat.reduceLeDiff, Nat.reduceAdd, CC, g2, uix, uld] <;> rfl) ?_ | refine newP_mk ?_ | refine optP_mk ?_ | with_reducible first | refine condP_t ?_ | refine condP_f ?_ | refine ifP_tt' ?_ | refine ifP_ff' ?_ | refine ifP_tf' ?_ | refine ifP_ft' ?_ | refine ifP_u' ?_ | refine optP_mk0 ?_))
                refine geq_s (fun v2 => ?_) (fun v2 => ?_)
                · (repeat (first | refine bindP_mk (by simp (disch := first | omega | exact Int.natCast_nonneg _ | assumption) only [BB, B2, ↓reduceIte, Nat.reduceLeDiff, Nat.reduceAdd, CC] <;> rfl) ?_ | refine newP_mk ?_ | refine optP_mk ?_ | with_reducible first | refine condP_t ?_ | refine condP_f ?_ | refine ifP_tt' ?_ | refine ifP_ff' ?_ | refine ifP_tf' ?_ | refine ifP_ft' ?_ | refine ifP_u' ?_ | refine optP_mk0 ?_))
                  exact hfin _ _ rfl (by rw [decide_eq_false (by omega)]; rfl) (by omega)
                · rw [decide_eq_true v2, Bool.true_and] at hfin hok
                  (repeat (first | refine bindP_mk (by simp (disch := first | omega | exact Int.natCast_nonneg _ | assumption) only [BB, B2, ↓reduceIte, Nat.reduceLeDiff, Nat.reduceAdd, CC, g1, rl, hmg] <;> rfl) ?_ | refine newP_mk ?_ | refine optP_mk ?_ | with_reducible first | refine condP_t ?_ | refine condP_f ?_ | refine ifP_tt' ?_ | refine ifP_ff' ?_ | refine ifP_tf' ?_ | refine ifP_ft' ?_ | refine ifP_u' ?_ | refine optP_mk0 ?_))
                  refine neq_s (fun v3 => ?_) (fun v3 => ?_)
                  · (repeat (first | refine bindP_mk (by simp (disch := first | omega | exact Int.natCast_nonneg _ | assumption) only [BB, B2, ↓reduceIte, Nat.reduceLeDiff, Nat.reduceAdd, CC] <;> rfl) ?_ | refine newP_mk ?_ | refine optP_mk ?_ | with_reducible first | refine condP_t ?_ | refine condP_f ?_ | refine ifP_tt' ?_ | refine ifP_ff' ?_ | refine ifP_tf' ?_ | refine ifP_ft' ?_ | refine ifP_u' ?_ | refine optP_mk0 ?_))
                    exact hfin _ _ rfl (by rw [decide_eq_false (by omega)]; rfl) (by omega)
                  · rw [decide_eq_true (by omega), Bool.true_and] at hfin hok
                    (repeat (first | refine bindP_mk (by simp (disch := first | omega | exact Int.natCast_nonneg _ | assumption) only [BB, B2, ↓reduceIte, Nat.reduceLeDiff, Nat.reduceAdd, CC] <;> rfl) ?_ | refine newP_mk ?_ | refine optP_mk ?_ | with_reducible first | refine condP_t ?_ | refine condP_f ?_ | refine ifP_tt' ?_ | refine ifP_ff' ?_ | refine ifP_tf' ?_ | refine ifP_ft' ?_ | refine ifP_u' ?_ | refine optP_mk0 ?_))
                    refine move_ContainsFunc_c (q := fun m => !moveOk S s.r m) (by omega) orow (fun i hi x n' K' hx hn' hk' => ?_) fun n' hn' => ?_
                    · obtain ⟨ov, rfl, y1, y2⟩ := hx
                      exact checker_state_1_c hc hSl (by omega) y2 (hf2.mono (by omega)) g1 g2 hS h2 y1 hk'
                    · rw [← all_not] at hfin hok
                      cases hany : row.any fun m => !moveOk S s.r m with
                      | true =>
                        rw [hany] at hfin
                        (repeat (first | refine bindP_mk (by simp (disch := first | omega | exact Int.natCast_nonneg _ | assumption) only [BB, B2, ↓reduceIte, Nat.reduceLeDiff, Nat.reduceAdd, CC] <;> rfl) ?_ | refine newP_mk ?_ | refine optP_mk ?_ | with_reducible first | refine condP_t ?_ | refine condP_f ?_ | refine ifP_tt' ?_ | refine ifP_ff' ?_ | refine ifP_tf' ?_ | refine ifP_ft' ?_ | refine ifP_u' ?_ | refine optP_mk0 ?_))
                        exact hfin _ _ rfl rfl (by omega)
                      | false =>
                        rw [hany] at hok
                        (repeat (first | refine bindP_mk (by simp (disch := first | omega | exact Int.natCast_nonneg _ | assumption) only [BB, B2, ↓reduceIte, Nat.reduceLeDiff, Nat.reduceAdd, CC] <;> rfl) ?_ | refine newP_mk ?_ | refine optP_mk ?_ | with_reducible first | refine condP_t ?_ | refine condP_f ?_ | refine ifP_tt' ?_ | refine ifP_ff' ?_ | refine ifP_tf' ?_ | refine ifP_ft' ?_ | refine ifP_u' ?_ | refine optP_mk0 ?_))
                        exact hok _ _ e2 e3 e45 e46 rfl rfl (by omega)
            · (repeat (first | refine bindP_mk (by simp (disch := first | omega | exact Int.natCast_nonneg _ | assumption) only [BB, B2, ↓reduceIte, Nat.reduceLeDiff, Nat.reduceAdd, CC] <;> rfl) ?_ | refine newP_mk ?_ | refine optP_mk ?_ | with_reducible first | refine condP_t ?_ | refine condP_f ?_ | refine ifP_tt' ?_ | refine ifP_ff' ?_ | refine ifP_tf' ?_ | refine ifP_ft' ?_ | refine ifP_u' ?_ | refine optP_mk0 ?_))
              refine hx _ _ _ _ (fun e => by cases e) (exP_e (beqP_t ?_))
              unfold auto_checker_state_j1
              rw [drop_all (l := s.next) (by omega), rowsOk_nil] at hr
              exact ⟨h, hs, kb hK hr.symm (by omega)⟩
end V
end Go.Proofs.Ytmmdcdjkmakgpaa
set_option linter.unusedVariables false
set_option linter.unusedSimpArgs false
namespace Go.Proofs.Ytmmdcdjkmakgpaa
namespace V
open PA
attribute [local irreducible] bindP ifP condP newP optP exP beqP
set_option maxRecDepth 8000 in
set_option maxHeartbeats 2000000 in
theorem ref11_state_c {ro : Ro} {c : List Nat} {n : Int} {cv sv lv rv uv nv : Value} {S : List StateD} {C : List (Int × Int)} {s : StateD} (hc : c.length = 256) (hn : n ≤ 256) (hSl : S.length ≤ 256) (hC : C.length ≤ 512) (hsr : s.r.length ≤ maxB) {h : T Obj} {nx : Nat} {K : KV} (hf : Fr h nx)
    (hcv : SlR ro h cv 2 RCount C) (hS : SlR ro h sv 4 (RState ro h) S) (h1 : ZI ro h lv s.l) (h2 : ZI ro h rv s.r) (h3 : ZI ro h uv s.rule) (h4 : SlR ro h nv 1 (RRow ro h) s.next)
    (hK : ∀ nx', nx ≤ nx' → K (.bool (stateOk S n C.length s)) h nx') : callP Try.prog ro i_ref11_state [.agg (autL c n cv sv).toArray, .agg #[lv, rv, uv, nv]] h nx K := by
  apply ref11_state_of
  unfold ref11_state
  refine param_mk hf (Nat.le_refl _) fun p1 hs1 hf1 g1 _ => ?_
  refine param_mk hf1 (Nat.le_refl _) fun p2 hs2 hf2 g2 _ => ?_
  have g1 : p2.get nx = some (.cells (autL c n cv sv).toArray y_api_Auto) := hs2 _ _ g1
  have g2 : p2.get (nx + 1) = some (.cells #[lv, rv, uv, nv] y_api_State) := g2
  have hs := hs1.trans hs2
  have hS := hS.sub hs (RState.sub hs)
  have hcv := hcv.sub hs fun _ _ h => h
  have h1 := h1.sub hs
  have h2 := h2.sub hs
  have h3 := h3.sub hs
  have h4 := h4.sub hs (RRow.sub hs)
  have hsg := autL_states (n := n) (cv := cv) (sv := sv) hc
  have hcg := autL_counts (n := n) (cv := cv) (sv := sv) hc
  have hmg := autL_many (n := n) (cv := cv) (sv := sv) hc
  have LA := loadA_all (ro := ro) (z := 0) (n := 259) (l := autL c n cv sv) g1 (autL_len hc)
  have LS := loadA_all (ro := ro) (z := 0) (n := 4) (l := [lv, rv, uv, nv]) g2 rfl
  have l1 := h1.len
  have l2 := h2.len
  have l3 := h3.len
  have l4 := h4.len
  have lc := hcv.len
  have hno : ∀ n', stateOk S n C.length s = false → nx ≤ n' → ∃ h', Sub h' p2 ∧ K (.bool false) h' n' := fun n' e hn => ⟨h, hs, kb hK e hn⟩
  unfold stateOk at hno hK
  (repeat (first | refine bindP_mk (by simp (disch := first | omega | exact Int.natCast_nonneg _ | assumption) only [BB, B2, ↓reduceIte, Nat.reduceLeDiff, Nat.reduceAdd, CC, g2, l2] <;> rfl) ?_ | refine newP_mk ?_ | refine optP_mk ?_ | with_reducible first | refine condP_t ?_ | refine condP_f ?_ | refine ifP_tt' ?_ | refine ifP_ff' ?_ | refine ifP_tf' ?_ | refine ifP_ft' ?_ | refine ifP_u' ?_ | refine optP_mk0 ?_))
  refine ref11_Codes_c fun n1 hn1 => ?_
  have hcl := codes_le s.r.length
  have hcf := codes_few (m := s.r.length)
  generalize codesD s.r.length = cd at hno hK hcl hcf
  refine eql_s (fun u1 => ?_) (fun u1 => ?_)
  · (repeat (first | refine bindP_mk (by simp (disch := first | omega | exact Int.natCast_nonneg _ | assumption) only [BB, B2, ↓reduceIte, Nat.reduceLeDiff, Nat.reduceAdd, CC] <;> rfl) ?_ | refine newP_mk ?_ | refine optP_mk ?_ | with_reducible first | refine condP_t ?_ | refine condP_f ?_ | refine ifP_tt' ?_ | refine ifP_ff' ?_ | refine ifP_tf' ?_ | refine ifP_ft' ?_ | refine ifP_u' ?_ | refine optP_mk0 ?_))
    exact hno _ (by rw [decide_eq_false (by omega)]; rfl) (by omega)
  · rw [decide_eq_true u1, Bool.true_and] at hno hK
    have hcf := hcf u1
    (repeat (first | refine bindP_mk (by simp (disch := first | omega | exact Int.natCast_nonneg _ | assumption) only [BB, B2, ↓reduceIte, Nat.reduceLeDiff, Nat.reduceAdd, CC, g2] <;> rfl) ?_ | refine newP_mk ?_ | refine optP_mk ?_ | with_reducible first | refine condP_t ?_ | refine condP_f ?_ | refine ifP_tt' ?_ | refine ifP_ff' ?_ | refine ifP_tf' ?_ | refine ifP_ft' ?_ | refine ifP_u' ?_ | refine optP_mk0 ?_))
    refine ref11_rises_c (by omega) h1 fun n2 hn2 => ?_
    cases u4 : rz (-1) 512 s.l with
    | false =>
      (repeat (first | refine bindP_mk (by simp (disch := first | omega | exact Int.natCast_nonneg _ | assumption) only [BB, B2, ↓reduceIte, Nat.reduceLeDiff, Nat.reduceAdd, CC] <;> rfl) ?_ | refine newP_mk ?_ | refine optP_mk ?_ | with_reducible first | refine condP_t ?_ | refine condP_f ?_ | refine ifP_tt' ?_ | refine ifP_ff' ?_ | refine ifP_tf' ?_ | refine ifP_ft' ?_ | refine ifP_u' ?_ | refine optP_mk0 ?_))
      exact hno _ (by rw [u4]; simp) (by omega)
    | true =>
      rw [u4, Bool.true_and] at hno hK
      (repeat (first | refine bindP_mk (by simp (disch := first | omega | exact Int.natCast_nonneg _ | assumption) only [BB, B2, ↓reduceIte, Nat.reduceLeDiff, Nat.reduceAdd, CC, g1, g2, hcg, lc] <;> rfl) ?_ | refine newP_mk ?_ | refine optP_mk ?_ | with_reducible first | refine condP_t ?_ | refine condP_f ?_ | refine ifP_tt' ?_ | refine ifP_ff' ?_ | refine ifP_tf' ?_ | refine ifP_ft' ?_ | refine ifP_u' ?_ | refine optP_mk0 ?_))
      refine ref11_rises_c (by omega) h2 fun n3 hn3 => ?_
      cases u5 : rz (-1) C.length s.r with
      | false =>
        (repeat (first | refine bindP_mk (by simp (disch := first | omega | exact Int.natCast_nonneg _ | assumption) only [BB, B2, ↓reduceIte, Nat.reduceLeDiff, Nat.reduceAdd, CC] <;> rfl) ?_ | refine newP_mk ?_ | refine optP_mk ?_ | with_reducible first | refine condP_t ?_ | refine condP_f ?_ | refine ifP_tt' ?_ | refine ifP_ff' ?_ | refine ifP_tf' ?_ | refine ifP_ft' ?_ | refine ifP_u' ?_ | refine optP_mk0 ?_))
        exact hno _ (by rw [u5]; simp) (by omega)
      | true =>
        rw [u5, Bool.true_and] at hno hK
        (repeat (first | refine bindP_mk (by simp (disch := first | omega | exact Int.natCast_nonneg _ | assumption) only [BB, B2, ↓reduceIte, Nat.reduceLeDiff, Nat.reduceAdd, CC, g2, l3] <;> rfl) ?_ | refine newP_mk ?_ | refine optP_mk ?_ | with_reducible first | refine condP_t ?_ | refine condP_f ?_ | refine ifP_tt' ?_ | refine ifP_ff' ?_ | refine ifP_tf' ?_ | refine ifP_ft' ?_ | refine ifP_u' ?_ | refine optP_mk0 ?_))
        refine neq_s (fun u2 => ?_) (fun u2 => ?_)
        · (repeat (first | refine bindP_mk (by simp (disch := first | omega | exact Int.natCast_nonneg _ | assumption) only [BB, B2, ↓reduceIte, Nat.reduceLeDiff, Nat.reduceAdd, CC] <;> rfl) ?_ | refine newP_mk ?_ | refine optP_mk ?_ | with_reducible first | refine condP_t ?_ | refine condP_f ?_ | refine ifP_tt' ?_ | refine ifP_ff' ?_ | refine ifP_tf' ?_ | refine ifP_ft' ?_ | refine ifP_u' ?_ | refine optP_mk0 ?_))
          exact hno _ (by rw [decide_eq_false (by omega)]; rfl) (by omega)
        · rw [decide_eq_true u2, Bool.true_and] at hno hK
          (repeat (first | refine bindP_mk (by simp (disch := first | omega | exact Int.natCast_nonneg _ | assumption) only [BB, B2, ↓reduceIte, Nat.reduceLeDiff, Nat.reduceAdd, CC, g2, l4] <;> rfl) ?_ | refine newP_mk ?_ | refine optP_mk ?_ | with_reducible first | refine condP_t ?_ | refine condP_f ?_ | refine ifP_tt' ?_ | refine ifP_ff' ?_ | refine ifP_tf' ?_ | refine ifP_ft' ?_ | refine ifP_u' ?_ | refine optP_mk0 ?_))
          refine neq_s (fun u3 => ?_) (fun u3 => ?_)
          · (repeat (first | refine bindP_mk (by simp (disch := first | omega | exact Int.natCast_nonneg _ | assumption) only [BB, B2, ↓reduceIte, Nat.reduceLeDiff, Nat.reduceAdd, CC] <;> rfl) ?_ | refine newP_mk ?_ | refine optP_mk ?_ | with_reducible first | refine condP_t ?_ | refine condP_f ?_ | refine ifP_tt' ?_ | refine ifP_ff' ?_ | refine ifP_tf' ?_ | refine ifP_ft' ?_ | refine ifP_u' ?_ | refine optP_mk0 ?_))
            exact hno _ (by rw [decide_eq_false (by omega)]; rfl) (by omega)
          · rw [decide_eq_true u3, Bool.true_and] at hno hK
            (repeat (first | refine bindP_mk (by simp (disch := first | omega | exact Int.natCast_nonneg _ | assumption) only [BB, B2, ↓reduceIte, Nat.reduceLeDiff, Nat.reduceAdd, CC] <;> rfl) ?_ | refine newP_mk ?_ | refine optP_mk ?_ | with_reducible first | refine condP_t ?_ | refine condP_f ?_ | refine ifP_tt' ?_ | refine ifP_ff' ?_ | refine ifP_tf' ?_ | refine ifP_ft' ?_ | refine ifP_u' ?_ | refine optP_mk0 ?_))
            generalize hB : rowsOk S s.r n s.rule s.next = B at hno hK
            refine loopP_rule (fun j e h' nx' => ∃ (k : Nat), k + j = s.next.length ∧ n3 ≤ nx' ∧ h' = p2 ∧ e 2 = ptr nx ∧ e 3 = ptr (nx + 1) ∧ e 5 = .int .i64 cd ∧ e 6 = .int .i64 k ∧ rowsOk S s.r n (s.rule.drop k) (s.next.drop k) = B) ?_ (n := s.next.length) ⟨0, by omega, by omega, rfl, rfl, rfl, rfl, rfl, hB⟩
            rintro j e h' nx' ⟨k, hj, hnx, rfl, e2, e3, e5, e6, hr⟩ Q' hq hx
            unfold ref11_state_L1
            rw [e2, e3, e5, e6]
            refine lss_s (fun hk => ?_) (fun hk => ?_)
            · have hk : k < s.next.length := by omega
              have hk2 : k < s.rule.length := by omega
              rw [drop_cons hk, drop_cons hk2, rowsOk_cons] at hr
              have nix := h4.ix .i64 hk
              obtain ⟨w, ⟨w', ow, orow, olen⟩, o1⟩ := h4.at1 hk
              simp only [List.cons.injEq, and_true] at ow
              subst ow
              have uix := h3.ix .i64 hk2
              have uld := h3.load hk2
              generalize s.next[k] = row at hr o1 orow olen
              generalize s.rule[k] = ru at hr uld
              have rl := orow.len
              have hfin : ∀ (e' : Env) n', e' 4 = .bool false → rowOk S s.r n ru row = false → nx ≤ n' → Q' .ret e' h' n' := fun e' n' h6 hc hn => by
                refine hx _ _ _ _ (fun e => by cases e) (exP_r ?_)
                rw [h6]
                refine ⟨h, hs, kb hK ?_ hn⟩
                rw [← hr, hc]; rfl
              have hok : ∀ (e' : Env) n', e' 2 = ptr nx → e' 3 = ptr (nx + 1) → e' 5 = .int .i64 cd → e' 6 = .int .i64 ((k : Int) + 1) → rowOk S s.r n ru row = true → n3 ≤ n' → Q' .normal e' h' n' := fun e' n' f2 f3 f5 f6 hc hn =>
                hq (j - 1) _ _ _ _ (by omega) ⟨k + 1, by omega, hn, rfl, f2, f3, f5, f6, by rw [← hr, hc]; rfl⟩ (Sub.refl _)
              unfold rowOk at hfin hok
              (repeat (first | refine bindP_mk (by simp (disch := first | omega | exact Int.natCast_nonneg _ | assumption) only [BB, B2, ↓reduceIte, Nat.reduceLeDiff, Nat.reduceAdd, CC, g2, uix, uld] <;> rfl) ?_ | refine newP_mk ?_ | refine optP_mk ?_ | with_reducible first | refine condP_t ?_ | refine condP_f ?_ | refine ifP_tt' ?_ | refine ifP_ff' ?_ | refine ifP_tf' ?_ | refine ifP_ft' ?_ | refine ifP_u' ?_ | refine optP_mk0 ?_))
              refine lss_s (fun v1 => ?_) (fun v1 => ?_)
              · (repeat (first | refine bindP_mk (by simp (disch := first | omega | exact Int.natCast_nonneg _ | assumption) only [BB, B2, ↓reduceIte, Nat.reduceLeDiff, Nat.reduceAdd, CC] <;> rfl) ?_ | refine newP_mk ?_ | refine optP_mk ?_ | with_reducible first | refine condP_t ?_ | refine condP_f ?_ | refine ifP_tt' ?_ | refine ifP_ff' ?_ | refine ifP_tf' ?_ | refine ifP_ft' ?_ | refine ifP_u' ?_ | refine optP_mk0 ?_))
                exact hfin _ _ rfl (by rw [decide_eq_false (by omega)]; rfl) (by omega)
              · rw [decide_eq_true v1, Bool.true_and] at hfin hok
                (repeat (first | refine bindP_mk (by simp (disch := first | omega | exact Int.natCast_nonneg _ | assumption) only [BB, B2, ↓reduceIte, Nat.reduceLeDiff, Nat.reduceAdd, CC, g2, uix, uld] <;> rfl) ?_ | refine newP_mk ?_ | refine optP_mk ?_ | with_reducible first | refine condP_t ?_ | refine condP_f ?_ | refine ifP_tt' ?_ | refine ifP_ff' ?_ | refine ifP_tf' ?_ | refine ifP_ft' ?_ | refine ifP_u' ?_ | refine optP_mk0 ?_))
                refine geq_s (fun v2 => ?_) (fun v2 => ?_)
                · (repeat (first | refine bindP_mk (by simp (disch := first | omega | exact Int.natCast_nonneg _ | assumption) only [BB, B2, ↓reduceIte, Nat.reduceLeDiff, Nat.reduceAdd, CC] <;> rfl) ?_ | refine newP_mk ?_ | refine optP_mk ?_ | with_reducible first | refine condP_t ?_ | refine condP_f ?_ | refine ifP_tt' ?_ | refine ifP_ff' ?_ | refine ifP_tf' ?_ | refine ifP_ft' ?_ | refine ifP_u' ?_ | refine optP_mk0 ?_))
                  exact hfin _ _ rfl (by rw [decide_eq_false (by omega)]; rfl) (by omega)
                · rw [decide_eq_true v2, Bool.true_and] at hfin hok
                  (repeat (first | refine bindP_mk (by simp (disch := first | omega | exact Int.natCast_nonneg _ | assumption) only [BB, B2, ↓reduceIte, Nat.reduceLeDiff, Nat.reduceAdd, CC, g1, g2, nix, o1, rl, hmg] <;> rfl) ?_ | refine newP_mk ?_ | refine optP_mk ?_ | with_reducible first | refine condP_t ?_ | refine condP_f ?_ | refine ifP_tt' ?_ | refine ifP_ff' ?_ | refine ifP_tf' ?_ | refine ifP_ft' ?_ | refine ifP_u' ?_ | refine optP_mk0 ?_))
                  refine neq_s (fun v3 => ?_) (fun v3 => ?_)
                  · (repeat (first | refine bindP_mk (by simp (disch := first | omega | exact Int.natCast_nonneg _ | assumption) only [BB, B2, ↓reduceIte, Nat.reduceLeDiff, Nat.reduceAdd, CC] <;> rfl) ?_ | refine newP_mk ?_ | refine optP_mk ?_ | with_reducible first | refine condP_t ?_ | refine condP_f ?_ | refine ifP_tt' ?_ | refine ifP_ff' ?_ | refine ifP_tf' ?_ | refine ifP_ft' ?_ | refine ifP_u' ?_ | refine optP_mk0 ?_))
                    exact hfin _ _ rfl (by rw [decide_eq_false (by omega)]; rfl) (by omega)
                  · rw [decide_eq_true (by omega), Bool.true_and] at hfin hok
                    (repeat (first | refine bindP_mk (by simp (disch := first | omega | exact Int.natCast_nonneg _ | assumption) only [BB, B2, ↓reduceIte, Nat.reduceLeDiff, Nat.reduceAdd, CC] <;> rfl) ?_ | refine newP_mk ?_ | refine optP_mk ?_ | with_reducible first | refine condP_t ?_ | refine condP_f ?_ | refine ifP_tt' ?_ | refine ifP_ff' ?_ | refine ifP_tf' ?_ | refine ifP_ft' ?_ | refine ifP_u' ?_ | refine optP_mk0 ?_))
                    generalize hA : row.all (moveOk S s.r) = A at hfin hok
                    refine loopP_rule (fun j e h'' nx' => ∃ (q : Nat), q + j = row.length ∧ n3 ≤ nx' ∧ h'' = h' ∧ e 2 = ptr nx ∧ e 3 = ptr (nx + 1) ∧ e 5 = .int .i64 cd ∧ e 6 = .int .i64 k ∧ e 7 = .int .i64 q ∧ (row.drop q).all (moveOk S s.r) = A) ?_ (n := row.length) ⟨0, by omega, by omega, rfl, e2, e3, e5, e6, rfl, hA⟩
                    rintro j2 e' h'' nx2 ⟨q, hj2, hnx2, rfl, f2, f3, f5, f6, f7, hr2⟩ Q2 hq2 hx
                    unfold ref11_state_L2
                    rw [f2, f3, f6, f7]
                    (repeat (first | refine bindP_mk (by simp (disch := first | omega | exact Int.natCast_nonneg _ | assumption) only [BB, B2, ↓reduceIte, Nat.reduceLeDiff, Nat.reduceAdd, CC, g2, nix, o1, rl] <;> rfl) ?_ | refine newP_mk ?_ | refine optP_mk ?_ | with_reducible first | refine condP_t ?_ | refine condP_f ?_ | refine ifP_tt' ?_ | refine ifP_ff' ?_ | refine ifP_tf' ?_ | refine ifP_ft' ?_ | refine ifP_u' ?_ | refine optP_mk0 ?_))
                    refine lss_s (fun hk3 => ?_) (fun hk3 => ?_)
                    · have hk3 : q < row.length := by omega
                      rw [drop_cons hk3, List.all_cons] at hr2
                      have qix := orow.ix .i64 hk3
                      obtain ⟨x, ⟨ov, rfl, y1, y2⟩, hx2, hx3, hx4, hx5⟩ := orow.at hk3
                      generalize row[q] = m at hr2 y1 y2 hx3 hx5
                      (repeat (first | refine bindP_mk (by simp (disch := first | omega | exact Int.natCast_nonneg _ | assumption) only [BB, B2, ↓reduceIte, Nat.reduceLeDiff, Nat.reduceAdd, CC, LA, LS, g2, nix, o1, qix, hx3] <;> rfl) ?_ | refine newP_mk ?_ | refine optP_mk ?_ | with_reducible first | refine condP_t ?_ | refine condP_f ?_ | refine ifP_tt' ?_ | refine ifP_ff' ?_ | refine ifP_tf' ?_ | refine ifP_ft' ?_ | refine ifP_u' ?_ | refine optP_mk0 ?_))
                      refine ref11_move_c hc hSl (by omega) y2 (hf2.mono (by omega)) hS h2 y1 fun n4 hn4 => ?_
                      cases hm : moveOk S s.r m with
                      | true =>
                        rw [hm, Bool.true_and] at hr2
                        have hok2 : ∀ (e' : Env) n', e' 2 = ptr nx → e' 3 = ptr (nx + 1) → e' 5 = .int .i64 cd → e' 6 = .int .i64 k → e' 7 = .int .i64 ((q : Int) + 1) → n3 ≤ n' → Q2 .normal e' h'' n' := fun e' n' z2 z3 z5 z6 z7 hn =>
                          hq2 (j2 - 1) _ _ _ _ (by omega) ⟨q + 1, by omega, hn, rfl, z2, z3, z5, z6, z7, hr2⟩ (Sub.refl _)
                        (repeat (first | refine bindP_mk (by simp (disch := first | omega | exact Int.natCast_nonneg _ | assumption) only [BB, B2, ↓reduceIte, Nat.reduceLeDiff, Nat.reduceAdd, CC] <;> rfl) ?_ | refine newP_mk ?_ | refine optP_mk ?_ | with_reducible first | refine condP_t ?_ | refine condP_f ?_ | refine ifP_tt' ?_ | refine ifP_ff' ?_ | refine ifP_tf' ?_ | refine ifP_ft' ?_ | refine ifP_u' ?_ | refine optP_mk0 ?_))
                        exact hok2 _ _ f2 f3 f5 f6 rfl (by omega)
                      | false =>
                        rw [hm, Bool.false_and] at hr2
                        subst hr2
                        (repeat (first | refine bindP_mk (by simp (disch := first | omega | exact Int.natCast_nonneg _ | assumption) only [BB, B2, ↓reduceIte, Nat.reduceLeDiff, Nat.reduceAdd, CC] <;> rfl) ?_ | refine newP_mk ?_ | refine optP_mk ?_ | with_reducible first | refine condP_t ?_ | refine condP_f ?_ | refine ifP_tt' ?_ | refine ifP_ff' ?_ | refine ifP_tf' ?_ | refine ifP_ft' ?_ | refine ifP_u' ?_ | refine optP_mk0 ?_))
                        refine hx _ _ _ _ (fun e => by cases e) (exP_r ?_)
                        exact hfin _ _ rfl rfl (by omega)
                    · rw [drop_all (by omega)] at hr2
                      have hr2 : true = A := hr2
                      subst hr2
                      (repeat (first | refine bindP_mk (by simp (disch := first | omega | exact Int.natCast_nonneg _ | assumption) only [BB, B2, ↓reduceIte, Nat.reduceLeDiff, Nat.reduceAdd, CC] <;> rfl) ?_ | refine newP_mk ?_ | refine optP_mk ?_ | with_reducible first | refine condP_t ?_ | refine condP_f ?_ | refine ifP_tt' ?_ | refine ifP_ff' ?_ | refine ifP_tf' ?_ | refine ifP_ft' ?_ | refine ifP_u' ?_ | refine optP_mk0 ?_))
                      refine hx _ _ _ _ (fun e => by cases e) (exP_e (beqP_t ?_))
                      have hend : ∀ (e' : Env) n', e' 2 = ptr nx → e' 3 = ptr (nx + 1) → e' 5 = .int .i64 cd → e' 6 = .int .i64 k → n3 ≤ n' → ref11_state_j2 ro Q' e' h'' n' := fun e' n' z2 z3 z5 z6 hn => by
                        unfold ref11_state_j2
                        rw [z6]
                        (repeat (first | refine bindP_mk (by simp (disch := first | omega | exact Int.natCast_nonneg _ | assumption) only [BB, B2, ↓reduceIte, Nat.reduceLeDiff, Nat.reduceAdd, CC] <;> rfl) ?_ | refine newP_mk ?_ | refine optP_mk ?_ | with_reducible first | refine condP_t ?_ | refine condP_f ?_ | refine ifP_tt' ?_ | refine ifP_ff' ?_ | refine ifP_tf' ?_ | refine ifP_ft' ?_ | refine ifP_u' ?_ | refine optP_mk0 ?_))
                        exact hok _ _ z2 z3 z5 rfl rfl (by omega)
                      exact hend _ _ f2 f3 f5 f6 (by omega)
            · (repeat (first | refine bindP_mk (by simp (disch := first | omega | exact Int.natCast_nonneg _ | assumption) only [BB, B2, ↓reduceIte, Nat.reduceLeDiff, Nat.reduceAdd, CC] <;> rfl) ?_ | refine newP_mk ?_ | refine optP_mk ?_ | with_reducible first | refine condP_t ?_ | refine condP_f ?_ | refine ifP_tt' ?_ | refine ifP_ff' ?_ | refine ifP_tf' ?_ | refine ifP_ft' ?_ | refine ifP_u' ?_ | refine optP_mk0 ?_))
              refine hx _ _ _ _ (fun e => by cases e) (exP_e (beqP_t ?_))
              unfold ref11_state_j1
              rw [drop_all (l := s.next) (by omega), rowsOk_nil] at hr
              exact ⟨h, hs, kb hK hr.symm (by omega)⟩
end V
end Go.Proofs.Ytmmdcdjkmakgpaa
set_option linter.unusedVariables false
set_option linter.unusedSimpArgs false
namespace Go.Proofs.Ytmmdcdjkmakgpaa
namespace V
open PA
attribute [local irreducible] bindP ifP condP newP optP exP beqP
theorem SlR.okC {D : Type} {ro : Ro} {h : T Obj} {v : Value} {z : Nat} {R : List Value → D → Prop} {l : List D} (hl : SlR ro h v z R l) : cellOk v = true := by obtain ⟨cs, h9, _⟩ := hl; exact h9.ok
def countOk (p : Int × Int) : Bool := decide (1 ≤ p.1) && (decide (p.1 ≤ p.2) && (decide (2 ≤ p.2) && decide (p.2 ≤ 4096)))
def firstOk (S : List StateD) : Bool := decide ((S.getD 0 noS).l.length = 0) && decide ((S.getD 0 noS).r.length = 0)
def autoOk (d : AutoD) : Bool := rightB d.c d.many && (decide (d.counts.length ≤ 512) && (decide (1 ≤ d.states.length) && (decide (d.states.length ≤ 256) && (firstOk d.states && (d.counts.all countOk && d.states.all (stateOk d.states d.many d.counts.length))))))
theorem right_many {c : List Nat} {n : Int} (h : rightB c n = true) : n ≤ 256 := by
  unfold rightB at h
  split at h
  · rename_i m hm
    have := rt_le hm
    simp only [decide_eq_true_eq] at h
    omega
  · cases h
theorem rz_many : ∀ {l : List Int} {a m : Int}, rz a m l = true → (l.length : Int) ≤ max 0 (m - a - 1)
  | [], a, m, _ => by simp only [List.length_nil]; omega
  | x :: r, a, m, h => by
    rw [rz_cons] at h
    simp only [Bool.and_eq_true, decide_eq_true_eq] at h
    have := rz_many h.2.2
    rw [List.length_cons]
    omega
theorem state_few {S : List StateD} {n : Int} {cn : Nat} {s : StateD} (h : stateOk S n cn s = true) : s.l.length ≤ 512 ∧ s.r.length ≤ 3 := by
  unfold stateOk at h
  simp only [Bool.and_eq_true, decide_eq_true_eq] at h
  have h1 := rz_many h.2.2.2.1
  have h2 := codes_few h.1
  omega
theorem wr_sum {a b : Nat} (h : wr .i64 ((a : Int) + b) ≤ 0) : a + b = 0 ∨ 9223372036854775807 < a + b := by
  rcases Nat.lt_or_ge 9223372036854775807 (a + b) with h1 | h1
  · exact .inr h1
  · rw [wr_i64 (by omega) (by omega)] at h
    exact .inl (by omega)
theorem wr_sum' {a b : Nat} (h : 0 < wr .i64 ((a : Int) + b)) : a ≠ 0 ∨ b ≠ 0 := by
  rcases Nat.eq_zero_or_pos (a + b) with h1 | h1
  · rw [show (a : Int) + b = 0 by omega] at h
    exact absurd h (by decide)
  · omega
theorem build_checker {c : List Nat} {n : Int} {cv sv : Value} (hc : c.length = 256) : buildV Try.prog y_auto_checker [(0, .agg (autL c n cv sv).toArray)] = some (.agg (autL c n cv sv).toArray) := by
  have h1 : ((zer Try.prog y_auto_checker).bind fun z => match z with
    | .agg a => if a.size = 259 then some true else none
    | _ => none) = some true := by kernel_rfl
  have h2 : ((und Try.prog y_auto_checker).bind fun d => match d with
    | .struct fs => placesV Try.prog fs.toList
    | _ => none) = some [(0, 259)] := by kernel_rfl
  obtain ⟨z, h1, h4⟩ := bind_some' h1
  cases z <;> try (cases h4; done)
  rename_i z
  simp only at h4
  split at h4
  · rename_i h5
    obtain ⟨d, h2, h3⟩ := bind_some' h2
    cases d <;> try (cases h3; done)
    rename_i fs
    simp only at h3
    unfold buildV
    rw [h1]
    simp only [Option.bind, h2, h3]
    have hl := autL_len (n := n) (cv := cv) (sv := sv) hc
    have hz : z.toList.length = 259 := by simpa using h5
    have e1 : Nat.beq (autL c n cv sv).toArray.size 259 = true := by simp [hl]
    have e2 : Nat.ble (0 + 259) z.toList.length = true := by rw [hz]; rfl
    simp only [fillV, List.getElem?_cons_zero, Option.bind, Value.cells_agg, e1, e2]
    rw [over_all (by rw [hz]; simpa using hl)]
  · cases h4
theorem zer_checker : ∃ z, zer Try.prog y_auto_checker = some z ∧ z.cells.size = 259 := by
  have h1 : ((zer Try.prog y_auto_checker).bind fun z => if z.cells.size = 259 then some true else none) = some true := by kernel_rfl
  obtain ⟨z, h1, h4⟩ := bind_some' h1
  split at h4
  · exact ⟨z, h1, by assumption⟩
  · cases h4
theorem zer_a2 : zer Try.prog y_a2_int = some (.agg #[.int .i64 0, .int .i64 0]) := by kernel_rfl
set_option maxRecDepth 8000 in
theorem auto_Right_1_c {ro : Ro} {c : List Nat} {n : Int} {cv sv lv rv uv nv : Value} {S : List StateD} {C : List (Int × Int)} {s : StateD} {i1 : Nat} (hc : c.length = 256) (hn : n ≤ 256) (hSl : S.length ≤ 256) (hC : C.length ≤ 512) (hsr : s.r.length ≤ maxB) {h : T Obj} {nx : Nat} {K : KV} (hf : Fr h nx)
    (g1 : h.get i1 = some (.cells (autL c n cv sv).toArray y_auto_checker)) (hcv : SlR ro h cv 2 RCount C) (hS : SlR ro h sv 4 (RState ro h) S) (h1 : ZI ro h lv s.l) (h2 : ZI ro h rv s.r) (h3 : ZI ro h uv s.rule) (h4 : SlR ro h nv 1 (RRow ro h) s.next)
    (hK : ∀ nx', nx ≤ nx' → K (.bool (!stateOk S n C.length s)) h nx') : callP Try.prog ro i_auto_Right_1 [.agg #[lv, rv, uv, nv], ptr i1] h nx K := by
  apply auto_Right_1_of
  unfold auto_Right_1
  refine param_mk hf (Nat.le_refl _) fun p1 hs1 hf1 g3 _ => ?_
  have g3 : p1.get nx = some (.cells #[lv, rv, uv, nv] y_api_State) := g3
  refine bindP_mk (loadA_all (hs1 _ _ g1) (autL_len hc)) ?_
  refine bindP_mk (loadA_all (l := [lv, rv, uv, nv]) g3 rfl) ?_
  refine checker_state_c hc hn hSl hC hsr (hf1.mono (by omega)) (hcv.sub hs1 fun _ _ h => h) (hS.sub hs1 (RState.sub hs1)) (h1.sub hs1) (h2.sub hs1) (h3.sub hs1) (h4.sub hs1 (RRow.sub hs1)) fun n hn => ?_
  (repeat (first | refine bindP_mk (by simp (disch := first | omega | exact Int.natCast_nonneg _ | assumption) only [BB, B2, ↓reduceIte, Nat.reduceLeDiff, Nat.reduceAdd, CC] <;> rfl) ?_ | refine newP_mk ?_ | refine optP_mk ?_ | with_reducible first | refine condP_t ?_ | refine condP_f ?_ | refine ifP_tt' ?_ | refine ifP_ff' ?_ | refine ifP_tf' ?_ | refine ifP_ft' ?_ | refine ifP_u' ?_ | refine optP_mk0 ?_))
  exact ⟨h, hs1, hK _ (by omega)⟩
set_option maxRecDepth 8000 in
set_option maxHeartbeats 2000000 in
theorem auto_Right_c {ro : Ro} {x : List Value} {d : AutoD} {h : T Obj} {nx : Nat} {K : KV} (hf : Fr h nx) (hd : RAuto ro h x d) (hK : ∀ nx', nx ≤ nx' → K (.bool (autoOk d)) h nx') : callP Try.prog ro i_auto_Right [.agg x.toArray] h nx K := by
  obtain ⟨cv, sv, rfl, hc, hcl, hcv, hS, hb1, hb2⟩ := hd
  obtain ⟨c, n, C, S⟩ := d
  simp only at hc hcl hcv hS hb1 hb2
  dsimp only
  apply auto_Right_of
  unfold auto_Right
  refine param_mk hf (Nat.le_refl _) fun p1 hs hf1 g1 _ => ?_
  have g1 : p1.get nx = some (.cells (autL c n cv sv).toArray y_api_Auto) := g1
  have hS := hS.sub hs (RState.sub hs)
  have hcv := hcv.sub hs fun _ _ h => h
  have hsg := autL_states (n := n) (cv := cv) (sv := sv) hc
  have hcg := autL_counts (n := n) (cv := cv) (sv := sv) hc
  have lc := hcv.len
  have ls := hS.len
  have hno : ∀ n', autoOk ⟨c, n, C, S⟩ = false → nx ≤ n' → ∃ h', Sub h' p1 ∧ K (.bool false) h' n' := fun n' e hn => ⟨h, hs, kb hK e hn⟩
  unfold autoOk at hno hK
  dsimp only at hno hK
  (repeat (first | refine bindP_mk (by simp (disch := first | omega | exact Int.natCast_nonneg _ | assumption) only [BB, B2, ↓reduceIte, Nat.reduceLeDiff, Nat.reduceAdd, CC] <;> rfl) ?_ | refine newP_mk ?_ | refine optP_mk ?_ | with_reducible first | refine condP_t ?_ | refine condP_f ?_ | refine ifP_tt' ?_ | refine ifP_ff' ?_ | refine ifP_tf' ?_ | refine ifP_ft' ?_ | refine ifP_u' ?_ | refine optP_mk0 ?_))
  refine bindP_mk (loadS g1 hc) ?_
  refine split_Right_c hc hcl (hf1.mono (by omega)) fun n1 hn1 => ?_
  cases hr : rightB c n with
  | false =>
    (repeat (first | refine bindP_mk (by simp (disch := first | omega | exact Int.natCast_nonneg _ | assumption) only [BB, B2, ↓reduceIte, Nat.reduceLeDiff, Nat.reduceAdd, CC] <;> rfl) ?_ | refine newP_mk ?_ | refine optP_mk ?_ | with_reducible first | refine condP_t ?_ | refine condP_f ?_ | refine ifP_tt' ?_ | refine ifP_ff' ?_ | refine ifP_tf' ?_ | refine ifP_ft' ?_ | refine ifP_u' ?_ | refine optP_mk0 ?_))
    exact hno _ (by rw [hr]; rfl) (by omega)
  | true =>
    have hn := right_many hr
    rw [hr, Bool.true_and] at hno hK
    (repeat (first | refine bindP_mk (by simp (disch := first | omega | exact Int.natCast_nonneg _ | assumption) only [BB, B2, ↓reduceIte, Nat.reduceLeDiff, Nat.reduceAdd, CC, g1, hcg, lc] <;> rfl) ?_ | refine newP_mk ?_ | refine optP_mk ?_ | with_reducible first | refine condP_t ?_ | refine condP_f ?_ | refine ifP_tt' ?_ | refine ifP_ff' ?_ | refine ifP_tf' ?_ | refine ifP_ft' ?_ | refine ifP_u' ?_ | refine optP_mk0 ?_))
    refine gtr_s (fun u1 => ?_) (fun u1 => ?_)
    · (repeat (first | refine bindP_mk (by simp (disch := first | omega | exact Int.natCast_nonneg _ | assumption) only [BB, B2, ↓reduceIte, Nat.reduceLeDiff, Nat.reduceAdd, CC] <;> rfl) ?_ | refine newP_mk ?_ | refine optP_mk ?_ | with_reducible first | refine condP_t ?_ | refine condP_f ?_ | refine ifP_tt' ?_ | refine ifP_ff' ?_ | refine ifP_tf' ?_ | refine ifP_ft' ?_ | refine ifP_u' ?_ | refine optP_mk0 ?_))
      exact hno _ (by rw [decide_eq_false (by omega)]; rfl) (by omega)
    · have u1 : C.length ≤ 512 := by omega
      rw [decide_eq_true u1, Bool.true_and] at hno hK
      (repeat (first | refine bindP_mk (by simp (disch := first | omega | exact Int.natCast_nonneg _ | assumption) only [BB, B2, ↓reduceIte, Nat.reduceLeDiff, Nat.reduceAdd, CC, g1, hsg, ls] <;> rfl) ?_ | refine newP_mk ?_ | refine optP_mk ?_ | with_reducible first | refine condP_t ?_ | refine condP_f ?_ | refine ifP_tt' ?_ | refine ifP_ff' ?_ | refine ifP_tf' ?_ | refine ifP_ft' ?_ | refine ifP_u' ?_ | refine optP_mk0 ?_))
      refine lss_s (fun u2 => ?_) (fun u2 => ?_)
      · (repeat (first | refine bindP_mk (by simp (disch := first | omega | exact Int.natCast_nonneg _ | assumption) only [BB, B2, ↓reduceIte, Nat.reduceLeDiff, Nat.reduceAdd, CC] <;> rfl) ?_ | refine newP_mk ?_ | refine optP_mk ?_ | with_reducible first | refine condP_t ?_ | refine condP_f ?_ | refine ifP_tt' ?_ | refine ifP_ff' ?_ | refine ifP_tf' ?_ | refine ifP_ft' ?_ | refine ifP_u' ?_ | refine optP_mk0 ?_))
        exact hno _ (by rw [decide_eq_false (by omega)]; rfl) (by omega)
      · have u2 : 1 ≤ S.length := by omega
        rw [decide_eq_true u2, Bool.true_and] at hno hK
        (repeat (first | refine bindP_mk (by simp (disch := first | omega | exact Int.natCast_nonneg _ | assumption) only [BB, B2, ↓reduceIte, Nat.reduceLeDiff, Nat.reduceAdd, CC, g1, hsg, ls] <;> rfl) ?_ | refine newP_mk ?_ | refine optP_mk ?_ | with_reducible first | refine condP_t ?_ | refine condP_f ?_ | refine ifP_tt' ?_ | refine ifP_ff' ?_ | refine ifP_tf' ?_ | refine ifP_ft' ?_ | refine ifP_u' ?_ | refine optP_mk0 ?_))
        refine gtr_s (fun u3 => ?_) (fun u3 => ?_)
        · (repeat (first | refine bindP_mk (by simp (disch := first | omega | exact Int.natCast_nonneg _ | assumption) only [BB, B2, ↓reduceIte, Nat.reduceLeDiff, Nat.reduceAdd, CC] <;> rfl) ?_ | refine newP_mk ?_ | refine optP_mk ?_ | with_reducible first | refine condP_t ?_ | refine condP_f ?_ | refine ifP_tt' ?_ | refine ifP_ff' ?_ | refine ifP_tf' ?_ | refine ifP_ft' ?_ | refine ifP_u' ?_ | refine optP_mk0 ?_))
          exact hno _ (by rw [decide_eq_false (by omega)]; rfl) (by omega)
        · have u3 : S.length ≤ 256 := by omega
          rw [decide_eq_true u3, Bool.true_and] at hno hK
          have h0 : 0 < S.length := by omega
          have six : ixSl 4 sv (.int .i64 0) = some (elPtr 4 sv 0) := hS.ix .i64 (i := 0) h0
          obtain ⟨x, ⟨lv, rv, uv, nv, rfl, y1, y2, y3, y4, y5⟩, hx2, hx3, hx4, hx5⟩ := hS.at h0
          have q0 := hx5 0 lv rfl
          have q1 := hx5 1 rv rfl
          have ll := y1.len
          have lr := y2.len
          have hgd : S.getD 0 noS = S[0] := by rw [List.getD_eq_getElem?_getD, List.getElem?_eq_getElem h0]; rfl
          have hfst : firstOk S = (decide (S[0].l.length = 0) && decide (S[0].r.length = 0)) := by unfold firstOk; rw [hgd]
          have hall : S.all (stateOk S n C.length) = true → S[0].l.length ≤ 512 ∧ S[0].r.length ≤ 3 := fun h => state_few (List.all_eq_true.1 h _ (List.getElem_mem h0))
          (repeat (first | refine bindP_mk (by simp (disch := first | omega | exact Int.natCast_nonneg _ | assumption) only [BB, B2, ↓reduceIte, Nat.reduceLeDiff, Nat.reduceAdd, CC, g1, hsg, six, hx4, q0, q1, ll, lr] <;> rfl) ?_ | refine newP_mk ?_ | refine optP_mk ?_ | with_reducible first | refine condP_t ?_ | refine condP_f ?_ | refine ifP_tt' ?_ | refine ifP_ff' ?_ | refine ifP_tf' ?_ | refine ifP_ft' ?_ | refine ifP_u' ?_ | refine optP_mk0 ?_))
          first
          | refine bindP_mk (intB_add _ _ _) ?_
          | skip
          (repeat (first | refine bindP_mk (by simp (disch := first | omega | exact Int.natCast_nonneg _ | assumption) only [BB, B2, ↓reduceIte, Nat.reduceLeDiff, Nat.reduceAdd, CC] <;> rfl) ?_ | refine newP_mk ?_ | refine optP_mk ?_ | with_reducible first | refine condP_t ?_ | refine condP_f ?_ | refine ifP_tt' ?_ | refine ifP_ff' ?_ | refine ifP_tf' ?_ | refine ifP_ft' ?_ | refine ifP_u' ?_ | refine optP_mk0 ?_))
          -- behind the head: the bounds of the counts, the states
          have hrest : (S[0].l.length = 0 ∧ S[0].r.length = 0 ∨ 9223372036854775807 < S[0].l.length + S[0].r.length) → ∀ (e' : Env) n', e' 1 = ptr nx → e' 2 = .bool false → e' 45 = cv → e' 46 = .int .i64 C.length → e' 47 = .int .i64 0 → nx + 1 ≤ n' →
              loopP (auto_Right_L1 ro) e' p1 n' fun x229 e226 h227 n228 => exP x229 (auto_Right_j1 ro K e226 h227 n228) (fun i230 => beqP (Nat.beq i230 0) (auto_Right_j1 ro K e226 h227 n228) (False)) (∃ h231, Sub h231 h227 ∧ K (e226 2) h231 n228) := by
            intro hlen e' n' f1 f2 f45 f46 f47 hn'
            generalize hB : C.all countOk = B at hno hK
            refine loopP_rule (fun j e h' nx' => ∃ (k : Nat), k + j = C.length ∧ nx + 1 ≤ nx' ∧ h' = p1 ∧ e 1 = ptr nx ∧ e 2 = .bool false ∧ e 45 = cv ∧ e 46 = .int .i64 C.length ∧ e 47 = .int .i64 k ∧ (C.drop k).all countOk = B) ?_ (n := C.length) ⟨0, by omega, hn', rfl, f1, f2, f45, f46, f47, hB⟩
            rintro j e h' nx' ⟨k, hj, hnx, rfl, e1, e2, e45, e46, e47, hr2⟩ Q' hq hx
            unfold auto_Right_L1
            rw [e45, e46, e47]
            refine lss_s (fun hk => ?_) (fun hk => ?_)
            · have hk : k < C.length := by omega
              rw [drop_cons hk, List.all_cons] at hr2
              have cix := hcv.ix .i64 hk
              obtain ⟨x, hx1, hx2, hx3, hx4, hx5⟩ := hcv.at hk
              generalize C[k] = p at hr2 hx1
              obtain rfl : x = [.int .i64 p.1, .int .i64 p.2] := hx1
              (repeat (first | refine bindP_mk (by simp (disch := first | omega | exact Int.natCast_nonneg _ | assumption) only [BB, B2, ↓reduceIte, Nat.reduceLeDiff, Nat.reduceAdd, CC, cix, hx3] <;> rfl) ?_ | refine newP_mk ?_ | refine optP_mk ?_ | with_reducible first | refine condP_t ?_ | refine condP_f ?_ | refine ifP_tt' ?_ | refine ifP_ff' ?_ | refine ifP_tf' ?_ | refine ifP_ft' ?_ | refine ifP_u' ?_ | refine optP_mk0 ?_))
              refine local_mk (x := [.int .i64 p.1, .int .i64 p.2]) zer_a2 rfl rfl rfl rfl hf1 (by omega) fun h6 hs6 hf6 g6 _ => ?_
              have hfin : ∀ (e' : Env) n', e' 2 = .bool false → countOk p = false → nx ≤ n' → Q' .ret e' h6 n' := fun e' n' h6 hc hn => by
                refine hx _ _ _ _ (fun e => by cases e) (exP_r ?_)
                rw [h6]
                rw [hc, Bool.false_and] at hr2
                subst hr2
                obtain ⟨h9, z1, z2⟩ := hno n' (by simp) hn
                exact ⟨h9, z1.trans hs6, z2⟩
              have hok : ∀ (e' : Env) n', e' 1 = ptr nx → e' 2 = .bool false → e' 45 = cv → e' 46 = .int .i64 C.length → e' 47 = .int .i64 ((k : Int) + 1) → countOk p = true → nx + 1 ≤ n' → Q' .normal e' h6 n' := fun e' n' f1 f2 f45 f46 f47 hc hn =>
                hq (j - 1) _ h' _ _ (by omega) ⟨k + 1, by omega, hn, rfl, f1, f2, f45, f46, f47, by rw [← hr2, hc]; rfl⟩ hs6
              unfold countOk at hfin hok
              (repeat (first | refine bindP_mk (by simp (disch := first | omega | exact Int.natCast_nonneg _ | assumption) only [BB, B2, ↓reduceIte, Nat.reduceLeDiff, Nat.reduceAdd, CC, g6] <;> rfl) ?_ | refine newP_mk ?_ | refine optP_mk ?_ | with_reducible first | refine condP_t ?_ | refine condP_f ?_ | refine ifP_tt' ?_ | refine ifP_ff' ?_ | refine ifP_tf' ?_ | refine ifP_ft' ?_ | refine ifP_u' ?_ | refine optP_mk0 ?_))
              refine lss_s (fun v1 => ?_) (fun v1 => ?_)
              · (repeat (first | refine bindP_mk (by simp (disch := first | omega | exact Int.natCast_nonneg _ | assumption) only [BB, B2, ↓reduceIte, Nat.reduceLeDiff, Nat.reduceAdd, CC] <;> rfl) ?_ | refine newP_mk ?_ | refine optP_mk ?_ | with_reducible first | refine condP_t ?_ | refine condP_f ?_ | refine ifP_tt' ?_ | refine ifP_ff' ?_ | refine ifP_tf' ?_ | refine ifP_ft' ?_ | refine ifP_u' ?_ | refine optP_mk0 ?_))
                exact hfin _ _ rfl (by rw [decide_eq_false (by omega)]; rfl) (by omega)
              · rw [decide_eq_true v1, Bool.true_and] at hfin hok
                (repeat (first | refine bindP_mk (by simp (disch := first | omega | exact Int.natCast_nonneg _ | assumption) only [BB, B2, ↓reduceIte, Nat.reduceLeDiff, Nat.reduceAdd, CC, g6] <;> rfl) ?_ | refine newP_mk ?_ | refine optP_mk ?_ | with_reducible first | refine condP_t ?_ | refine condP_f ?_ | refine ifP_tt' ?_ | refine ifP_ff' ?_ | refine ifP_tf' ?_ | refine ifP_ft' ?_ | refine ifP_u' ?_ | refine optP_mk0 ?_))
                refine gtr_s (fun v2 => ?_) (fun v2 => ?_)
                · (repeat (first | refine bindP_mk (by simp (disch := first | omega | exact Int.natCast_nonneg _ | assumption) only [BB, B2, ↓reduceIte, Nat.reduceLeDiff, Nat.reduceAdd, CC] <;> rfl) ?_ | refine newP_mk ?_ | refine optP_mk ?_ | with_reducible first | refine condP_t ?_ | refine condP_f ?_ | refine ifP_tt' ?_ | refine ifP_ff' ?_ | refine ifP_tf' ?_ | refine ifP_ft' ?_ | refine ifP_u' ?_ | refine optP_mk0 ?_))
                  exact hfin _ _ rfl (by rw [decide_eq_false (by omega)]; rfl) (by omega)
                · rw [decide_eq_true v2, Bool.true_and] at hfin hok
                  (repeat (first | refine bindP_mk (by simp (disch := first | omega | exact Int.natCast_nonneg _ | assumption) only [BB, B2, ↓reduceIte, Nat.reduceLeDiff, Nat.reduceAdd, CC, g6] <;> rfl) ?_ | refine newP_mk ?_ | refine optP_mk ?_ | with_reducible first | refine condP_t ?_ | refine condP_f ?_ | refine ifP_tt' ?_ | refine ifP_ff' ?_ | refine ifP_tf' ?_ | refine ifP_ft' ?_ | refine ifP_u' ?_ | refine optP_mk0 ?_))
                  refine lss_s (fun v3 => ?_) (fun v3 => ?_)
                  · (repeat (first | refine bindP_mk (by simp (disch := first | omega | exact Int.natCast_nonneg _ | assumption) only [BB, B2, ↓reduceIte, Nat.reduceLeDiff, Nat.reduceAdd, CC] <;> rfl) ?_ | refine newP_mk ?_ | refine optP_mk ?_ | with_reducible first | refine condP_t ?_ | refine condP_f ?_ | refine ifP_tt' ?_ | refine ifP_ff' ?_ | refine ifP_tf' ?_ | refine ifP_ft' ?_ | refine ifP_u' ?_ | refine optP_mk0 ?_))
                    exact hfin _ _ rfl (by rw [decide_eq_false (by omega)]; rfl) (by omega)
                  · rw [decide_eq_true v3, Bool.true_and] at hfin hok
                    (repeat (first | refine bindP_mk (by simp (disch := first | omega | exact Int.natCast_nonneg _ | assumption) only [BB, B2, ↓reduceIte, Nat.reduceLeDiff, Nat.reduceAdd, CC, g6] <;> rfl) ?_ | refine newP_mk ?_ | refine optP_mk ?_ | with_reducible first | refine condP_t ?_ | refine condP_f ?_ | refine ifP_tt' ?_ | refine ifP_ff' ?_ | refine ifP_tf' ?_ | refine ifP_ft' ?_ | refine ifP_u' ?_ | refine optP_mk0 ?_))
                    refine gtr_s (fun v4 => ?_) (fun v4 => ?_)
                    · (repeat (first | refine bindP_mk (by simp (disch := first | omega | exact Int.natCast_nonneg _ | assumption) only [BB, B2, ↓reduceIte, Nat.reduceLeDiff, Nat.reduceAdd, CC] <;> rfl) ?_ | refine newP_mk ?_ | refine optP_mk ?_ | with_reducible first | refine condP_t ?_ | refine condP_f ?_ | refine ifP_tt' ?_ | refine ifP_ff' ?_ | refine ifP_tf' ?_ | refine ifP_ft' ?_ | refine ifP_u' ?_ | refine optP_mk0 ?_))
                      exact hfin _ _ rfl (by rw [decide_eq_false (by omega)]) (by omega)
                    · rw [decide_eq_true v4] at hok
                      (repeat (first | refine bindP_mk (by simp (disch := first | omega | exact Int.natCast_nonneg _ | assumption) only [BB, B2, ↓reduceIte, Nat.reduceLeDiff, Nat.reduceAdd, CC] <;> rfl) ?_ | refine newP_mk ?_ | refine optP_mk ?_ | with_reducible first | refine condP_t ?_ | refine condP_f ?_ | refine ifP_tt' ?_ | refine ifP_ff' ?_ | refine ifP_tf' ?_ | refine ifP_ft' ?_ | refine ifP_u' ?_ | refine optP_mk0 ?_))
                      exact hok _ _ e1 e2 e45 e46 rfl rfl (by omega)
            · rw [drop_all (by omega)] at hr2
              have hr2 : true = B := hr2
              subst hr2
              rw [Bool.true_and] at hno hK
              (repeat (first | refine bindP_mk (by simp (disch := first | omega | exact Int.natCast_nonneg _ | assumption) only [BB, B2, ↓reduceIte, Nat.reduceLeDiff, Nat.reduceAdd, CC] <;> rfl) ?_ | refine newP_mk ?_ | refine optP_mk ?_ | with_reducible first | refine condP_t ?_ | refine condP_f ?_ | refine ifP_tt' ?_ | refine ifP_ff' ?_ | refine ifP_tf' ?_ | refine ifP_ft' ?_ | refine ifP_u' ?_ | refine optP_mk0 ?_))
              refine hx _ _ _ _ (fun e => by cases e) (exP_e (beqP_t ?_))
              have hend : ∀ (e' : Env) n', e' 1 = ptr nx → nx + 1 ≤ n' → auto_Right_j1 ro K e' h' n' := by
                intro e' n' z1 hn'
                unfold auto_Right_j1
                rw [z1]
                refine bindP_mk (loadA_all g1 (autL_len hc)) ?_
                refine bindP_mk (build_checker hc) ?_
                obtain ⟨z, hz, hzs⟩ := zer_checker
                refine local_mk (x := autL c n cv sv) hz hzs rfl (autL_len hc) (autL_ok (SlR.okC hcv) (SlR.okC hS)) hf1 (by omega) fun h6 hs6 hf6 g6 _ => ?_
                have g16 := hs6 _ _ g1
                (repeat (first | refine bindP_mk (by simp (disch := first | omega | exact Int.natCast_nonneg _ | assumption) only [BB, B2, ↓reduceIte, Nat.reduceLeDiff, Nat.reduceAdd, CC, g16, hsg] <;> rfl) ?_ | refine newP_mk ?_ | refine optP_mk ?_ | with_reducible first | refine condP_t ?_ | refine condP_f ?_ | refine ifP_tt' ?_ | refine ifP_ff' ?_ | refine ifP_tf' ?_ | refine ifP_ft' ?_ | refine ifP_u' ?_ | refine optP_mk0 ?_))
                refine state_ContainsFunc_c (q := fun s => !stateOk S n C.length s) (by omega) (hS.sub hs6 (RState.sub hs6)) (fun i hi x n' K' hx hn' hk' => ?_) fun n' hn' => ?_
                · obtain ⟨lv, rv, uv, nv, rfl, w1, w2, w3, w4, w5⟩ := hx
                  exact auto_Right_1_c hc hn u3 u1 w5 (hf6.mono (by omega)) g6 (hcv.sub hs6 fun _ _ h => h) (hS.sub hs6 (RState.sub hs6)) w1 w2 w3 w4 hk'
                · (repeat (first | refine bindP_mk (by simp (disch := first | omega | exact Int.natCast_nonneg _ | assumption) only [BB, B2, ↓reduceIte, Nat.reduceLeDiff, Nat.reduceAdd, CC] <;> rfl) ?_ | refine newP_mk ?_ | refine optP_mk ?_ | with_reducible first | refine condP_t ?_ | refine condP_f ?_ | refine ifP_tt' ?_ | refine ifP_ff' ?_ | refine ifP_tf' ?_ | refine ifP_ft' ?_ | refine ifP_u' ?_ | refine optP_mk0 ?_))
                  refine ⟨h, hs.trans hs6, kb hK ?_ (by omega)⟩
                  rw [all_not]
                  rcases hlen with hlen | hlen
                  · rw [hfst, decide_eq_true hlen.1, decide_eq_true hlen.2]; rfl
                  · cases ha : S.all (stateOk S n C.length) with
                    | false => simp
                    | true => have := hall ha; omega
              exact hend _ _ e1 (by omega)
          refine gtr_s (fun u4 => ?_) (fun u4 => ?_)
          · (repeat (first | refine bindP_mk (by simp (disch := first | omega | exact Int.natCast_nonneg _ | assumption) only [BB, B2, ↓reduceIte, Nat.reduceLeDiff, Nat.reduceAdd, CC] <;> rfl) ?_ | refine newP_mk ?_ | refine optP_mk ?_ | with_reducible first | refine condP_t ?_ | refine condP_f ?_ | refine ifP_tt' ?_ | refine ifP_ff' ?_ | refine ifP_tf' ?_ | refine ifP_ft' ?_ | refine ifP_u' ?_ | refine optP_mk0 ?_))
            have := wr_sum' u4
            refine hno _ ?_ (by omega)
            rw [hfst]
            rcases this with h | h
            · rw [decide_eq_false h]; simp
            · rw [decide_eq_false h]; simp
          · (repeat (first | refine bindP_mk (by simp (disch := first | omega | exact Int.natCast_nonneg _ | assumption) only [BB, B2, ↓reduceIte, Nat.reduceLeDiff, Nat.reduceAdd, CC, g1, hcg, lc] <;> rfl) ?_ | refine newP_mk ?_ | refine optP_mk ?_ | with_reducible first | refine condP_t ?_ | refine condP_f ?_ | refine ifP_tt' ?_ | refine ifP_ff' ?_ | refine ifP_tf' ?_ | refine ifP_ft' ?_ | refine ifP_u' ?_ | refine optP_mk0 ?_))
            exact hrest (by rcases wr_sum u4 with h | h <;> omega) _ _ rfl rfl rfl rfl rfl (by omega)
end V
end Go.Proofs.Ytmmdcdjkmakgpaa
set_option linter.unusedVariables false
set_option linter.unusedSimpArgs false
namespace Go.Proofs.Ytmmdcdjkmakgpaa
namespace V
open PA
theorem rz_upper : ∀ {l : List Int} {a m m' : Int}, m ≤ m' → rz a m l = true → rz a m' l = true
  | [], _, _, _, _, _ => rfl
  | x :: r, a, m, m', hm, h => by
    simp only [rz, Bool.and_eq_true, decide_eq_true_eq] at h ⊢
    exact ⟨h.1, by omega, rz_upper hm h.2.2⟩
theorem digs_mem {g : GlD} : ∀ {l : List Int} {c : Int} {d : Int × Int}, d ∈ digs g l c → d.1 ∈ l ∧ (d.2 ≠ -1 → ctd g d.1 = true)
  | [], c, d, hd => by cases hd
  | p :: r, c, d, hd => by
    rw [digs_cons] at hd
    split at hd
    · rename_i hc
      rcases List.mem_cons.1 hd with rfl | hd
      · exact ⟨by simp, fun _ => hc⟩
      · obtain ⟨h1, h2⟩ := digs_mem hd
        exact ⟨by simp [h1], h2⟩
    · rcases List.mem_cons.1 hd with rfl | hd
      · exact ⟨by simp, fun h => absurd rfl h⟩
      · obtain ⟨h1, h2⟩ := digs_mem hd
        exact ⟨by simp [h1], h2⟩
theorem at_mem {g : GlD} {q : Int} (h0 : 0 ≤ q) (h1 : q < g.p.length) : g.at q ∈ g.p ∧ g.p[q.toNat]? = some (g.at q) := by
  have hl : q.toNat < g.p.length := by omega
  have : g.at q = g.p[q.toNat] := by
    unfold GlD.at
    rw [List.getD_eq_getElem?_getD, List.getElem?_eq_getElem hl]; rfl
  rw [this]
  exact ⟨List.getElem_mem hl, List.getElem?_eq_getElem hl⟩
theorem num_lt {g : GlD} {p q : Int} (hp : 0 ≤ p) (hpq : p < q) (hc : ctd g p = true) (hq : q ≤ g.p.length) : numZ g p < numZ g q := by
  unfold numZ
  have hl : p.toNat < g.p.length := by omega
  have hat := (at_mem (g := g) (q := p) hp (by omega)).2
  have h1 : g.p.take (p.toNat + 1) = g.p.take p.toNat ++ [g.at p] := by
    rw [List.take_succ_eq_append_getElem hl]
    have := List.getElem?_eq_getElem hl
    rw [hat] at this
    rw [Option.some.inj this]
  have h2 : ((g.p.take (p.toNat + 1)).filter ctdP).length = ((g.p.take p.toNat).filter ctdP).length + 1 := by
    rw [h1, List.filter_append, List.length_append, List.filter_cons_of_pos (show ctdP (g.at p) = true from hc)]; rfl
  have h3 : ((g.p.take (p.toNat + 1)).filter ctdP).length ≤ ((g.p.take q.toNat).filter ctdP).length := by
    have e : g.p.take (p.toNat + 1) = (g.p.take q.toNat).take (p.toNat + 1) := by rw [List.take_take, Nat.min_eq_left (by omega)]
    rw [e]
    exact ((List.take_sublist _ _).filter _).length_le
  omega
theorem num_cnts {g : GlD} {q : Int} (h0 : 0 ≤ q) (h1 : q < g.p.length) (hc : ctd g q = true) : numZ g q < ((cntsL g.p).length : Nat) ∧ 0 ≤ numZ g q := by
  have := num_lt h0 (show q < (g.p.length : Int) from h1) hc (Int.le_refl _)
  have e : numZ g (g.p.length : Int) = ((cntsL g.p).length : Nat) := by rw [numZ_cnts, List.take_length]
  refine ⟨by omega, ?_⟩
  unfold numZ; omega
theorem regs_rz {g : GlD} : ∀ {l : List Int} {a b : Int}, rz a g.p.length l = true → -1 ≤ a → (∀ q ∈ l, ctd g q = true → b < numZ g q) → rz b ((cntsL g.p).length : Nat) (regsZ g l) = true
  | [], a, b, _, _, _ => rfl
  | x :: r, a, b, h, ha, hb => by
    simp only [rz, Bool.and_eq_true, decide_eq_true_eq] at h
    unfold regsZ
    cases hc : ctd g x with
    | false =>
      rw [List.filter_cons_of_neg (by simp [hc])]
      exact regs_rz h.2.2 (by omega) fun q hq hcq => hb q (by simp [hq]) hcq
    | true =>
      rw [List.filter_cons_of_pos hc, List.map_cons]
      have h1 := hb x (by simp) hc
      have h2 := num_cnts (by omega) h.2.1 hc
      simp only [rz, Bool.and_eq_true, decide_eq_true_eq]
      refine ⟨h1, h2.1, regs_rz h.2.2 (by omega) fun q hq hcq => ?_⟩
      have := rz_mem h.2.2 q hq
      exact num_lt (by omega) this.1 hc (by omega)
theorem ruleZ_range {g : GlD} : ∀ {D : List (Int × Int)} {b : Int}, (∀ d ∈ D, 0 ≤ (g.at d.1).rule ∧ (g.at d.1).rule < 512) → -1 ≤ b ∧ b < 512 → -1 ≤ ruleZ g b D ∧ ruleZ g b D < 512
  | [], b, _, hb => hb
  | d :: r, b, h, hb => by
    rw [ruleZ_cons]
    refine ruleZ_range (fun d' hd' => h d' (by simp [hd'])) ?_
    have := h d (by simp)
    split <;> omega
theorem opsOk_maps {α : Type} {R : List Int} (f : α → Nat) (k : α → Int) : ∀ {L : List α}, (∀ q ∈ L, opOk R (f q) (k q) = true) → opsOk R (L.map f) (L.map k) = true
  | [], _ => rfl
  | q :: L, h => by
    rw [List.map_cons, List.map_cons, opsOk_cons, h q (by simp), Bool.true_and]
    exact opsOk_maps f k fun x hx => h x (by simp [hx])
theorem rowsOk_of {S : List StateD} {R : List Int} {many : Int} : ∀ {rus : List Int} {rows : List (List MoveD)}, (∀ (q : Nat) ru row, rus[q]? = some ru → rows[q]? = some row → rowOk S R many ru row = true) → rowsOk S R many rus rows = true
  | [], rows, _ => by cases rows <;> rfl
  | ru :: rus, [], _ => rfl
  | ru :: rus, row :: rows, h => by
    rw [rowsOk_cons, h 0 ru row rfl rfl, Bool.true_and]
    exact rowsOk_of fun q r w h1 h2 => h (q + 1) r w (by simpa using h1) (by simpa using h2)
theorem codes_pos {m : Nat} (h : m ≤ 3) : codesD (m : Int) ≠ 0 ∧ 0 ≤ codesD (m : Int) := by
  have : m = 0 ∨ m = 1 ∨ m = 2 ∨ m = 3 := by omega
  rcases this with rfl | rfl | rfl | rfl <;> exact ⟨by decide, by decide⟩
theorem mv_ok {g : GlD} {S : List StateD} (hb : Base g S) {i : Nat} {s : StateD} (hs : S[i]? = some s) {c : Int} {b : Nat} {m : MoveD} (hm : MvOk g (entersZ g i (digs g s.l c)) (staysZ (digs g s.l c)) b S m) : moveOk S s.r m = true := by
  unfold moveOk
  rcases hm with ⟨h1, h2, h3⟩ | ⟨h1, k, t, h2, h3, h4, h5⟩
  · rw [if_pos h2, h3]; rfl
  · rw [if_neg (by omega)]
    have hk0 : k ≠ 0 := by
      rintro rfl
      obtain ⟨z, z1, z2⟩ := hb.zero
      rw [z1] at h3; cases h3
      exact h1 (by rw [← h4]; exact z2)
    have hkl := (List.getElem?_eq_some_iff.1 h3).1
    have hgd : S.getD m.to.toNat noS = t := by rw [h2, Int.toNat_natCast, List.getD_eq_getElem?_getD, h3]; rfl
    obtain ⟨t1, t2, t3⟩ := hb.ok t (List.mem_of_getElem? h3)
    rw [hgd, t2, h4, h5, h2, decide_eq_true (by omega), decide_eq_true (by omega), Bool.true_and, Bool.true_and]
    have hlen : (opsZ g (entersZ g i (digs g s.l c)) (staysZ (digs g s.l c)) (lZ g (entersZ g i (digs g s.l c)) (staysZ (digs g s.l c)) b)).length = (regsZ g (lZ g (entersZ g i (digs g s.l c)) (staysZ (digs g s.l c)) b)).length := by
      unfold opsZ regsZ
      rw [List.length_map, List.length_map]
    rw [decide_eq_true hlen, Bool.true_and]
    unfold opsZ regsZ
    refine opsOk_maps _ _ fun q hq => ?_
    obtain ⟨hq1, hq2⟩ := List.mem_filter.1 hq
    unfold opOk opZ
    cases hst : staysZ (digs g s.l c) q with
    | false => rfl
    | true =>
      have hR : s.r.contains (numZ g q) = true := by
        unfold staysZ at hst
        obtain ⟨d, hd, he⟩ := List.any_eq_true.1 hst
        simp only [Bool.and_eq_true, decide_eq_true_eq] at he
        have hdl := (digs_mem hd).1
        rw [he.1] at hdl
        rw [(hb.ok s (List.mem_of_getElem? hs)).2.1]
        unfold regsZ
        simp only [List.contains_eq_mem, decide_eq_true_eq, List.mem_map, List.mem_filter]
        exact ⟨q, ⟨hdl, hq2⟩, rfl⟩
      rw [hR]
      cases entersZ g i (digs g s.l c) q <;> rfl
theorem right_of {g : GlD} (h0 : (ofZ g).1 = 0) : autoOk (ofZ g).2 = true := by
  obtain ⟨hr, S, hS, hm, _⟩ := ofZ_ok h0
  obtain ⟨hgl, hfr, hmay⟩ := right_parts hr
  rw [hS]
  unfold autoOk ofD
  dsimp only
  obtain ⟨z, z1, z2⟩ := hm.base.zero
  have hz0 := (List.getElem?_eq_some_iff.1 z1).1
  have hcl := cntsL_len g.p
  have hfirst : firstOk S = true := by
    unfold firstOk
    have : S.getD 0 noS = z := by rw [List.getD_eq_getElem?_getD, z1]; rfl
    rw [this, (hm.base.ok z (List.mem_of_getElem? z1)).2.1, z2]; rfl
  have hcnt : (cntsL g.p).all countOk = true := by
    rw [List.all_eq_true]
    intro p hp
    unfold cntsL at hp
    obtain ⟨x, hx, rfl⟩ := List.mem_map.1 hp
    obtain ⟨hx1, hx2⟩ := List.mem_filter.1 hx
    have hx2 : 1 < x.hi := of_decide_eq_true hx2
    obtain ⟨m1, m2, m3, _⟩ := may_parts (hmay x hx1)
    unfold countOk
    simp only [Bool.and_eq_true, decide_eq_true_eq]
    exact ⟨m1, m2, by omega, m3⟩
  have hst : S.all (stateOk S (many (setsL g.p) : Int) (cntsL g.p).length) = true := by
    rw [List.all_eq_true]
    intro s hs
    obtain ⟨i, hi⟩ := List.mem_iff_getElem?.1 hs
    obtain ⟨o1, o2, o3⟩ := hm.base.ok s hs
    obtain ⟨c1, c2⟩ := hm.codes hi
    obtain ⟨p1, p2⟩ := codes_pos o3
    unfold stateOk
    simp only [Bool.and_eq_true, decide_eq_true_eq]
    refine ⟨p1, by omega, by omega, rz_upper (by omega) o1, ?_, rowsOk_of fun q ru row h1 h2 => ?_⟩
    · rw [o2]
      refine regs_rz o1 (Int.le_refl _) fun q hq hc => ?_
      unfold numZ; omega
    · have hru := hm.rule i s q ru hi h1
      obtain ⟨n1, n2⟩ := hm.next i s q row hi h2
      have hrg := ruleZ_range (g := g) (D := digs g s.l q) (b := -1) (fun d hd => by
        have := rz_mem o1 _ (digs_mem hd).1
        obtain ⟨_, _, _, m4, m5, _⟩ := may_parts (hmay _ (at_mem (by omega) this.2).1)
        exact ⟨m4, m5⟩) ⟨by omega, by omega⟩
      unfold rowOk
      simp only [Bool.and_eq_true, decide_eq_true_eq, List.all_eq_true]
      refine ⟨by omega, by omega, by rw [n1, ofB_many], fun m hmr => ?_⟩
      obtain ⟨j, hj⟩ := List.mem_iff_getElem?.1 hmr
      have hjl := (List.getElem?_eq_some_iff.1 hj).1
      exact mv_ok hm.base hi (n2 j _ m (List.getElem?_eq_getElem (by omega)) hj)
  rw [right_cls, decide_eq_true (show (cntsL g.p).length ≤ 512 by omega), decide_eq_true (show 1 ≤ S.length by omega), decide_eq_true hm.base.few, hfirst, hcnt, hst]
  rfl
end V
end Go.Proofs.Ytmmdcdjkmakgpaa
set_option linter.unusedVariables false
set_option linter.unusedSimpArgs false
namespace Go.Proofs.Ytmmdcdjkmakgpaa
namespace V
open PA
def ahead (A : Int) : List MoveD → Option Int
  | [] => some A
  | m :: r => if m.to ≤ A then ahead (max A (m.to + 1)) r else none
theorem ahead_app : ∀ (l r : List MoveD) (A : Int), ahead A (l ++ r) = (ahead A l).bind fun A' => ahead A' r
  | [], r, A => rfl
  | m :: l, r, A => by
    show (if m.to ≤ A then ahead (max A (m.to + 1)) (l ++ r) else none) = (if m.to ≤ A then ahead (max A (m.to + 1)) l else none).bind fun A' => ahead A' r
    by_cases h : m.to ≤ A
    · rw [if_pos h, if_pos h]; exact ahead_app l r _
    · rw [if_neg h, if_neg h]; rfl
def movesOf (S : List StateD) : List MoveD := S.flatMap fun s => s.next.flatten
theorem movesOf_app (a b : List StateD) : movesOf (a ++ b) = movesOf a ++ movesOf b := by unfold movesOf; rw [List.flatMap_append]
theorem movesOf_nil {S : List StateD} (h : ∀ s ∈ S, s.next = []) : movesOf S = [] := by
  unfold movesOf
  rw [List.flatMap_eq_nil_iff]
  intro s hs; rw [h s hs]; rfl
theorem movesOf_split {S : List StateD} {k : Nat} {s : StateD} (hs : S[k]? = some s) (h : ∀ (i : Nat) t, k < i → S[i]? = some t → t.next = []) : movesOf S = movesOf (S.take k) ++ s.next.flatten := by
  obtain ⟨hk, he⟩ := List.getElem?_eq_some_iff.1 hs
  have h1 : S = S.take k ++ (S[k] :: S.drop (k + 1)) := by rw [← drop_cons hk, List.take_append_drop]
  have h2 : movesOf (S.drop (k + 1)) = [] := movesOf_nil fun t ht => by
    obtain ⟨i, hi⟩ := List.mem_iff_getElem?.1 ht
    rw [List.getElem?_drop] at hi
    exact h _ t (by omega) hi
  have h3 : movesOf (S[k] :: S.drop (k + 1)) = s.next.flatten := by
    have : movesOf (S[k] :: S.drop (k + 1)) = S[k].next.flatten ++ movesOf (S.drop (k + 1)) := rfl
    rw [this, h2, List.append_nil, he]
  have h4 : movesOf S = movesOf (S.take k) ++ movesOf (S[k] :: S.drop (k + 1)) := by rw [← movesOf_app, ← h1]
  rw [h4, h3]
theorem goesZ_ahead {g : GlD} {en st : Int → Bool} {b : Nat} {S : List StateD} (h0 : (goesZ g en st b S).2.1 = 0) : (goesZ g en st b S).1.to ≤ S.length ∧ max (S.length : Int) ((goesZ g en st b S).1.to + 1) = (goesZ g en st b S).2.2.length := by
  by_cases hl : lZ g en st b = []
  · rw [goesZ_nil hl]
    dsimp only
    omega
  · rw [goesZ_ne hl] at h0 ⊢
    dsimp only at h0 ⊢
    generalize lZ g en st b = l at h0
    unfold findZ at h0 ⊢
    cases hf : S.findIdx? (isL l) with
    | some k =>
      obtain ⟨hk, _, _⟩ := List.findIdx?_eq_some_iff_getElem.1 hf
      dsimp only
      omega
    | none =>
      rw [hf] at h0
      dsimp only at h0 ⊢
      by_cases h3 : 3 < (regsZ g l).length
      · rw [if_pos h3] at h0; exact absurd h0 (by show ¬ (110 : Int) = 0; decide)
      · rw [if_neg h3] at h0 ⊢
        by_cases h4 : 256 ≤ S.length
        · rw [if_pos h4] at h0; exact absurd h0 (by show ¬ (3 : Int) = 0; decide)
        · rw [if_neg h4]
          simp only [List.length_append, List.length_cons, List.length_nil]
          omega
theorem rowZ_ahead {g : GlD} {en st : Int → Bool} : ∀ {B : List Nat} {S : List StateD}, (rowZ g en st B S).1 = 0 → ahead (S.length : Int) (rowZ g en st B S).2.1 = some ((rowZ g en st B S).2.2.length : Int)
  | [], S, _ => rfl
  | b :: r, S, h0 => by
    rw [rowZ_cons] at h0 ⊢
    by_cases h1 : (goesZ g en st b S).2.1 = 0
    · rw [if_pos h1] at h0 ⊢
      obtain ⟨g1, g2⟩ := goesZ_ahead h1
      show (if (goesZ g en st b S).1.to ≤ (S.length : Int) then ahead (max (S.length : Int) ((goesZ g en st b S).1.to + 1)) _ else none) = _
      rw [if_pos g1, g2]
      exact rowZ_ahead h0
    · rw [if_neg h1] at h0; exact absurd h0 h1
structure AM (S : List StateD) (k : Nat) : Prop where
  all : ahead 1 (movesOf S) = some (S.length : Int)
  at_ : ∀ i, i ≤ k → i < S.length → ∃ A, ahead 1 (movesOf (S.take i)) = some A ∧ (i : Int) < A
theorem take_modify {S : List StateD} {f : StateD → StateD} {i k : Nat} (h : i ≤ k) : (S.modify k f).take i = S.take i := by
  apply List.ext_getElem?
  intro j
  rw [List.getElem?_take, List.getElem?_take]
  split
  · rw [modify_ne (by omega)]
  · rfl
theorem codeZ_AM {g : GlD} {B : List Nat} {S : List StateD} {k c : Nat} (hm : Made g B S k c) (hk : k < S.length) (h0 : (codeZ g B k (c : Int) S).1 = 0) (ha : AM S k) : AM (codeZ g B k (c : Int) S).2 k := by
  obtain ⟨s, hs⟩ : ∃ s, S[k]? = some s := ⟨_, List.getElem?_eq_getElem hk⟩
  have hlater : ∀ (i : Nat) t, k < i → S[i]? = some t → t.next = [] := fun i t hi ht => by
    have := (hm.cnt i t ht).2
    unfold doneZ at this
    rw [if_neg (by omega), if_neg (by omega)] at this
    exact List.eq_nil_iff_length_eq_zero.2 this
  unfold codeZ at h0 ⊢
  dsimp only at h0 ⊢
  by_cases h1 : (rowZ g (entersZ g k (digs g (lAt S k) c)) (staysZ (digs g (lAt S k) c)) B S).1 = 0
  · rw [if_pos h1]
    obtain ⟨_, ⟨T, hT, hT2⟩, _, _⟩ := rowZ_spec hm.base h1
    have hra := rowZ_ahead h1
    generalize rowZ g (entersZ g k (digs g (lAt S k) c)) (staysZ (digs g (lAt S k) c)) B S = Z at hT hra
    dsimp only
    have hZk : Z.2.2[k]? = some s := by rw [hT, List.getElem?_append_left hk]; exact hs
    have h2k : (Z.2.2.modify k (addRow (ruleZ g (-1) (digs g (lAt S k) c)) Z.2.1))[k]? = some (addRow (ruleZ g (-1) (digs g (lAt S k) c)) Z.2.1 s) := by rw [modify_self, hZk]; rfl
    have h2l : ∀ (i : Nat) t, k < i → (Z.2.2.modify k (addRow (ruleZ g (-1) (digs g (lAt S k) c)) Z.2.1))[i]? = some t → t.next = [] := fun i t hi ht => by
      rw [modify_ne (by omega), hT] at ht
      rcases Nat.lt_or_ge i S.length with hil | hil
      · rw [List.getElem?_append_left hil] at ht; exact hlater i t hi ht
      · rw [List.getElem?_append_right hil] at ht
        exact (hT2 t (List.mem_of_getElem? ht)).2
    have htk : ∀ i, i ≤ k → (Z.2.2.modify k (addRow (ruleZ g (-1) (digs g (lAt S k) c)) Z.2.1)).take i = S.take i := fun i hi => by
      rw [take_modify hi, hT, List.take_append_of_le_length (by omega)]
    refine ⟨?_, fun i hi hil => ?_⟩
    · rw [movesOf_split h2k h2l, htk k (Nat.le_refl _), List.length_modify]
      have e1 : (addRow (ruleZ g (-1) (digs g (lAt S k) c)) Z.2.1 s).next.flatten = s.next.flatten ++ Z.2.1 := by
        show (s.next ++ [Z.2.1]).flatten = _
        rw [List.flatten_append]; simp
      rw [e1, ← List.append_assoc, ← movesOf_split hs hlater, ahead_app, ha.all, Option.bind_some, hra]
    · rw [htk i hi]
      exact ha.at_ i hi (by omega)
  · rw [if_neg h1] at h0; exact absurd h0 h1
theorem codesZ_AM {g : GlD} {B : List Nat} {k : Nat} : ∀ {n c : Nat} {S : List StateD}, Made g B S k c → k < S.length → (codesZ g B k n (c : Int) S).1 = 0 → AM S k → AM (codesZ g B k n (c : Int) S).2 k
  | 0, c, S, hm, _, _, ha => ha
  | n + 1, c, S, hm, hk, h0, ha => by
    rw [codesZ_succ] at h0 ⊢
    by_cases h1 : (codeZ g B k (c : Int) S).1 = 0
    · rw [if_pos h1] at h0 ⊢
      obtain ⟨c1, c2⟩ := codeZ_spec hm hk h1
      exact codesZ_AM (n := n) (c := c + 1) c1 (by have := c2.len; omega) h0 (codeZ_AM hm hk h1 ha)
    · rw [if_neg h1] at h0; exact absurd h0 h1
theorem allZ_AM {g : GlD} {B : List Nat} : ∀ {n k : Nat} {S : List StateD}, Made g B S k 0 → k ≤ S.length → (allZ g B n k S).1 = 0 → k + n = 256 → AM S k → AM (allZ g B n k S).2 (allZ g B n k S).2.length
  | 0, k, S, hm, hk, _, hn, ha => by
    have : k = S.length := by have := hm.base.few; omega
    rw [this] at ha; exact ha
  | n + 1, k, S, hm, hk, h0, hn, ha => by
    rw [allZ_succ] at h0 ⊢
    by_cases h1 : k < S.length
    · rw [if_pos h1] at h0 ⊢
      obtain ⟨s, hs⟩ : ∃ s, S[k]? = some s := ⟨_, List.getElem?_eq_getElem h1⟩
      have hgd : S.getD k noS = s := by rw [List.getD_eq_getElem?_getD, hs]; rfl
      rw [hgd] at h0 ⊢
      by_cases h2 : (codesZ g B k (codesD (s.r.length : Int)).toNat 0 S).1 = 0
      · rw [if_pos h2] at h0 ⊢
        obtain ⟨c1, c2⟩ := codesZ_spec (c := 0) hm h1 h2
        have a1 := codesZ_AM (c := 0) hm h1 h2 ha
        have hz : ((0 : Nat) : Int) = 0 := rfl
        rw [hz, Nat.zero_add] at c1
        rw [hz] at c2 a1
        obtain ⟨s', h3, h4⟩ := c2 k s hs
        have hr : s'.r = s.r := by
          rw [(hm.base.ok s (List.mem_of_getElem? hs)).2.1, (c1.base.ok s' (List.mem_of_getElem? h3)).2.1, h4]
        have c3 := Made.next' h3 (by rw [hr]; exact c1)
        have hk3 := (List.getElem?_eq_some_iff.1 h3).1
        refine allZ_AM (n := n) c3 (by omega) h0 (by omega) ⟨a1.all, fun i hi hil => ?_⟩
        rcases Nat.lt_or_ge i (k + 1) with h5 | h5
        · exact a1.at_ i (by omega) hil
        · have hik : i = k + 1 := by omega
          subst hik
          refine ⟨(((codesZ g B k (codesD (s.r.length : Int)).toNat 0 S).2.length : Nat) : Int), ?_, by omega⟩
          have hrest : movesOf (List.drop (k + 1) (codesZ g B k (codesD (s.r.length : Int)).toNat 0 S).2) = [] := movesOf_nil fun t ht => by
            obtain ⟨q, hq⟩ := List.mem_iff_getElem?.1 ht
            rw [List.getElem?_drop] at hq
            have := (c3.cnt _ t hq).2
            unfold doneZ at this
            rw [if_neg (by omega)] at this
            have : t.next.length = 0 := by
              rw [this]; split <;> rfl
            exact List.eq_nil_iff_length_eq_zero.2 this
          have e : movesOf (List.take (k + 1) (codesZ g B k (codesD (s.r.length : Int)).toNat 0 S).2) = movesOf (codesZ g B k (codesD (s.r.length : Int)).toNat 0 S).2 := by
            have := movesOf_app (List.take (k + 1) (codesZ g B k (codesD (s.r.length : Int)).toNat 0 S).2) (List.drop (k + 1) (codesZ g B k (codesD (s.r.length : Int)).toNat 0 S).2)
            rw [List.take_append_drop, hrest, List.append_nil] at this
            exact this.symm
          rw [e]; exact a1.all
      · rw [if_neg h2] at h0; exact absurd h0 h2
    · rw [if_neg h1]
      have : k = S.length := by omega
      rw [this] at ha; exact ha
theorem am0 : AM [noS] 0 := ⟨rfl, fun i hi _ => by
  obtain rfl : i = 0 := by omega
  exact ⟨1, rfl, by omega⟩⟩
theorem all_AM {g : GlD} {B : List Nat} (h0 : (allZ g B 256 0 [noS]).1 = 0) : AM (allZ g B 256 0 [noS]).2 (allZ g B 256 0 [noS]).2.length := allZ_AM (made0 g B) (Nat.zero_le _) h0 rfl am0
end V
end Go.Proofs.Ytmmdcdjkmakgpaa
set_option linter.unusedVariables false
set_option linter.unusedSimpArgs false
namespace Go.Proofs.Ytmmdcdjkmakgpaa
namespace V
open PA
attribute [local irreducible] bindP ifP condP newP optP exP beqP
def fewD (g : GlD) : GlD := if 40 < g.p.length then ⟨[], []⟩ else g
theorem zer_Gl : zer Try.prog y_api_Glush = some (.agg #[nilS, nilS]) := by kernel_rfl
theorem build_Gl0 : buildV Try.prog y_api_Glush [] = some (.agg #[nilS, nilS]) := by kernel_rfl
end V
end Go.Proofs.Ytmmdcdjkmakgpaa
set_option linter.unusedVariables false
set_option linter.unusedSimpArgs false
namespace Go.Proofs.Ytmmdcdjkmakgpaa
namespace V
open PA
attribute [local irreducible] bindP ifP condP newP optP exP beqP
def Small (S : List StateD) : Prop := S.length ≤ 1000000 ∧ ∀ s ∈ S, s.l.length ≤ 1000000 ∧ s.r.length ≤ 1000000 ∧ s.rule.length ≤ 1000000 ∧ s.next.length ≤ 1000000 ∧ ∀ row ∈ s.next, row.length ≤ 1000000
end V
end Go.Proofs.Ytmmdcdjkmakgpaa
set_option linter.unusedVariables false
set_option linter.unusedSimpArgs false
namespace Go.Proofs.Ytmmdcdjkmakgpaa
namespace V
attribute [local irreducible] callPre callP bindP
end V
end Go.Proofs.Ytmmdcdjkmakgpaa
set_option linter.unusedVariables false
set_option linter.unusedSimpArgs false
namespace Go.Proofs.Ytmmdcdjkmakgpaa
namespace V
open PA
structure Alike1 (p q : PosD) : Prop where
  s : p.s = q.s
  rule : p.rule = q.rule
  last : p.last = q.last
  next : p.next = q.next
  ct : ctdP p = ctdP q
structure AlikeG (x y : GlD) : Prop where
  first : x.first = y.first
  len : x.p.length = y.p.length
  each : ∀ (i : Nat) p q, x.p[i]? = some p → y.p[i]? = some q → Alike1 p q
section
variable {x y : GlD}
theorem AlikeG.at (h : AlikeG x y) (q : Int) : Alike1 (x.at q) (y.at q) := by
  unfold GlD.at
  rw [List.getD_eq_getElem?_getD, List.getD_eq_getElem?_getD]
  cases hx : x.p[q.toNat]? with
  | none =>
    have : y.p[q.toNat]? = none := by rw [List.getElem?_eq_none_iff] at hx ⊢; have := h.len; omega
    rw [this]; exact ⟨rfl, rfl, rfl, rfl, rfl⟩
  | some p =>
    have hl := (List.getElem?_eq_some_iff.1 hx).1
    have hy : y.p[q.toNat]? = some (y.p[q.toNat]'(by have := h.len; omega)) := List.getElem?_eq_getElem _
    rw [hy]; exact h.each _ _ _ hx hy
theorem AlikeG.ctd (h : AlikeG x y) : ctd x = ctd y := funext fun q => (h.at q).ct
theorem filter_len : ∀ {a b : List PosD}, a.length = b.length → (∀ (i : Nat) p q, a[i]? = some p → b[i]? = some q → Alike1 p q) → (a.filter ctdP).length = (b.filter ctdP).length
  | [], [], _, _ => rfl
  | p :: a, q :: b, hl, he => by
    have h0 := (he 0 p q rfl rfl).ct
    have ih := filter_len (a := a) (b := b) (by simpa using hl) fun i p q hp hq => he (i + 1) p q (by simpa using hp) (by simpa using hq)
    cases hc : ctdP q with
    | true => rw [List.filter_cons_of_pos (h0.trans hc), List.filter_cons_of_pos hc, List.length_cons, List.length_cons, ih]
    | false => rw [List.filter_cons_of_neg (by rw [h0, hc]; decide), List.filter_cons_of_neg (by rw [hc]; decide), ih]
  | [], q :: b, hl, _ => by simp at hl
  | p :: a, [], hl, _ => by simp at hl
theorem AlikeG.num (h : AlikeG x y) : numZ x = numZ y := funext fun q => by
  unfold numZ
  rw [filter_len (a := x.p.take q.toNat) (b := y.p.take q.toNat) (by rw [List.length_take, List.length_take, h.len]) fun i p r hp hr => by
    rw [List.getElem?_take] at hp hr
    split at hp
    · rename_i hi
      rw [if_pos hi] at hr
      exact h.each i p r hp hr
    · cases hp]
theorem AlikeG.regs (h : AlikeG x y) : regsZ x = regsZ y := funext fun l => by unfold regsZ; rw [h.ctd, h.num]
theorem AlikeG.digs (h : AlikeG x y) : ∀ (l : List Int) (c : Int), digs x l c = digs y l c
  | [], c => rfl
  | p :: r, c => by rw [digs_cons, digs_cons, h.ctd, h.digs r (c / 3), h.digs r c]
theorem AlikeG.enters (h : AlikeG x y) (k : Nat) (D : List (Int × Int)) : entersZ x k D = entersZ y k D := funext fun q => by
  unfold entersZ
  rw [h.first]
  congr 2
  funext d
  rw [(h.at d.1).next]
theorem AlikeG.rule (h : AlikeG x y) : ∀ (D : List (Int × Int)) (b : Int), ruleZ x b D = ruleZ y b D
  | [], b => rfl
  | d :: r, b => by rw [ruleZ_cons, ruleZ_cons, (h.at d.1).last, (h.at d.1).rule, h.rule r]
theorem AlikeG.lz (h : AlikeG x y) (en st : Int → Bool) (b : Nat) : lZ x en st b = lZ y en st b := by
  unfold lZ
  rw [h.len]
  congr 1
  funext q
  unfold takesZ
  rw [(h.at q).s]
theorem AlikeG.ops (h : AlikeG x y) (en st : Int → Bool) (l : List Int) : opsZ x en st l = opsZ y en st l := by unfold opsZ; rw [h.ctd]
theorem AlikeG.find (h : AlikeG x y) (S : List StateD) (l : List Int) : findZ x S l = findZ y S l := by unfold findZ; rw [h.regs]
theorem AlikeG.goes (h : AlikeG x y) (en st : Int → Bool) (b : Nat) (S : List StateD) : goesZ x en st b S = goesZ y en st b S := by
  by_cases hl : lZ y en st b = []
  · rw [goesZ_nil hl, goesZ_nil (by rw [h.lz]; exact hl)]
  · rw [goesZ_ne hl, goesZ_ne (by rw [h.lz]; exact hl), h.lz, h.find, h.ops]
theorem AlikeG.row (h : AlikeG x y) (en st : Int → Bool) : ∀ (B : List Nat) (S : List StateD), rowZ x en st B S = rowZ y en st B S
  | [], S => rfl
  | b :: r, S => by rw [rowZ_cons, rowZ_cons, h.goes, h.row en st r]
theorem AlikeG.code (h : AlikeG x y) (B : List Nat) (k : Nat) (c : Int) (S : List StateD) : codeZ x B k c S = codeZ y B k c S := by
  unfold codeZ
  dsimp only
  rw [h.digs, h.enters, h.row, h.rule]
theorem AlikeG.codes (h : AlikeG x y) (B : List Nat) (k : Nat) : ∀ (n : Nat) (c : Int) (S : List StateD), codesZ x B k n c S = codesZ y B k n c S
  | 0, c, S => rfl
  | n + 1, c, S => by rw [codesZ_succ, codesZ_succ, h.code, h.codes B k n]
theorem AlikeG.all (h : AlikeG x y) (B : List Nat) : ∀ (n k : Nat) (S : List StateD), allZ x B n k S = allZ y B n k S
  | 0, k, S => rfl
  | n + 1, k, S => by rw [allZ_succ, allZ_succ, h.codes, h.all B n]
theorem AlikeG.sets (h : AlikeG x y) : setsL x.p = setsL y.p := by
  unfold setsL
  apply List.ext_getElem?
  intro i
  rw [List.getElem?_map, List.getElem?_map]
  cases hx : x.p[i]? with
  | none =>
    have : y.p[i]? = none := by rw [List.getElem?_eq_none_iff] at hx ⊢; have := h.len; omega
    rw [this]
  | some p =>
    have hl := (List.getElem?_eq_some_iff.1 hx).1
    have hy : y.p[i]? = some (y.p[i]'(by have := h.len; omega)) := List.getElem?_eq_getElem _
    rw [hy]
    show some p.s = some _
    rw [(h.each _ _ _ hx hy).s]
theorem AlikeG.cnts (h : AlikeG x y) : (cntsL x.p).length = (cntsL y.p).length := by
  unfold cntsL
  rw [List.length_map, List.length_map]
  exact filter_len h.len h.each
theorem AlikeG.of (h : AlikeG x y) (hx : rightD x = true) (hy : rightD y = true) : (ofZ x).1 = (ofZ y).1 ∧ (ofZ x).2.c = (ofZ y).2.c ∧ (ofZ x).2.many = (ofZ y).2.many ∧ (ofZ x).2.states = (ofZ y).2.states ∧ (ofZ x).2.counts.length = (ofZ y).2.counts.length ∧ ((ofZ y).1 = 0 → (ofZ y).2.counts = cntsL y.p) ∧ ((ofZ y).1 ≠ 0 → (ofZ y).2.counts = []) := by
  have hB : ofB x = ofB y := by unfold ofB; rw [h.sets]
  unfold ofZ
  rw [if_pos hx, if_pos hy, hB, h.all]
  by_cases h0 : (allZ y (ofB y) 256 0 [noS]).1 = 0
  · rw [if_pos h0, if_pos h0]
    refine ⟨rfl, ?_, ?_, rfl, h.cnts, fun _ => rfl, fun h => absurd rfl h⟩
    · show cls (setsL x.p) = cls (setsL y.p); rw [h.sets]
    · show (many (setsL x.p) : Int) = many (setsL y.p); rw [h.sets]
  · rw [if_neg h0, if_neg h0]
    exact ⟨rfl, rfl, rfl, rfl, rfl, fun h => absurd h h0, fun _ => rfl⟩
end
end V
end Go.Proofs.Ytmmdcdjkmakgpaa
set_option linter.unusedVariables false
set_option linter.unusedSimpArgs false
namespace Go.Proofs.Ytmmdcdjkmakgpaa
namespace V
theorem okZ : zerosOk Try.prog = true := by kernel_rfl
theorem okN : namesOk Try.prog = true := by kernel_rfl
theorem okM : Try.prog.follows .mixedOrders = true := by kernel_rfl
set_option maxRecDepth 1000000 in
theorem shown_orc : Orc Try.prog i_law11_shown (.bool true) := orc_ev okZ okN okM (k := 200) rfl (by kernel_rfl) fun ro => by kernel_rfl
theorem shown_c {ro : Ro} {h : T Obj} {nx : Nat} {K : KV} (hK : K (.bool true) h nx) : callP Try.prog ro i_law11_shown [] h nx K := callP_orc shown_orc hK
end V
end Go.Proofs.Ytmmdcdjkmakgpaa
set_option linter.unusedVariables false
set_option linter.unusedSimpArgs false
namespace Go.Proofs.Ytmmdcdjkmakgpaa
namespace V
open PA
attribute [local irreducible] bindP ifP condP newP optP exP beqP
theorem ofB_len (g : GlD) : (ofB g).length ≤ 256 := first_len
theorem ofZ_small (g : GlD) : Small (ofZ g).2.states ∧ (ofZ g).2.counts.length ≤ 1000000 := by
  have h0 : Small autD0.states ∧ autD0.counts.length ≤ 1000000 := ⟨⟨Nat.zero_le _, fun s hs => (by cases hs)⟩, Nat.zero_le _⟩
  unfold ofZ
  split
  · rename_i hr
    split
    · rename_i hz
      have hm := all_made hz
      obtain ⟨hgl, _, _⟩ := right_parts hr
      refine ⟨⟨by have := hm.base.few; show (allZ g (ofB g) 256 0 [noS]).2.length ≤ 1000000; omega, fun s hs => ?_⟩, by have := cntsL_len g.p; show (cntsL g.p).length ≤ 1000000; omega⟩
      obtain ⟨i, hi⟩ := List.mem_iff_getElem?.1 hs
      obtain ⟨o1, o2, o3⟩ := hm.base.ok s hs
      obtain ⟨c1, c2⟩ := hm.codes hi
      have hcl := codes_le (s.r.length : Int)
      have hl := rz_lenN o1 (by omega)
      refine ⟨by omega, by omega, by omega, by omega, fun row hrow => ?_⟩
      obtain ⟨q, hq⟩ := List.mem_iff_getElem?.1 hrow
      have := (hm.next i s q row hi hq).1
      have := ofB_len g
      omega
    · exact h0
  · exact h0
section
variable {ro : Ro} {x : GlD} {l : List (Nat × Nat)} {av bv w : Value}
end
end V
end Go.Proofs.Ytmmdcdjkmakgpaa
set_option linter.unusedVariables false
set_option linter.unusedSimpArgs false
namespace Go.Proofs.Ytmmdcdjkmakgpaa
namespace V
attribute [local irreducible] callPre callP bindP
@[irreducible] def law11_AutoOwn_j2 (ro : Ro) (K : KV) : Env → T Obj → Nat → Prop := fun e h nx => ∃ h107, Sub h107 h ∧ K (e 3) h107 (nx + 2)
@[irreducible] def law11_AutoOwn_j3 (ro : Ro) (Q : KE) : Env → T Obj → Nat → Prop := fun e h nx => bindP (intB .add (e 93) (Value.int IntKind.i64 1)) fun t141_112 => Q .normal (puts e [(141, t141_112), (93, t141_112)]) h (nx + 2)
@[irreducible] def law11_AutoOwn_j4 (ro : Ro) (Q : KE) : Env → T Obj → Nat → Prop := fun e h nx => bindP (intB .add (e 99) (Value.int IntKind.i64 1)) fun t140_119 => Q .normal (puts e [(140, t140_119), (99, t140_119)]) h (nx + 2)
@[irreducible] def law11_AutoOwn_j5 (ro : Ro) (Q : KE) : Env → T Obj → Nat → Prop := fun e h nx => condP (e 16) (Q .ret (puts e [(139, (e 16)), (2, (Value.bool false))]) h (nx + 2)) (law11_AutoOwn_j4 ro Q (puts e [(139, (e 16))]) h (nx + 1))
@[irreducible] def law11_AutoOwn_L3 (ro : Ro) : PT := fun e h nx Q => bindP (intB .lss (e 121) (e 120)) fun t122_141 => condP t122_141 (ifP (e 16) true h (nx + 18) (fun k142 => bindP (fwdP 0 (e 13)) fun t126_146 => k142 t126_146 h (nx + 18)) fun t126_143 h144 n145 => ifP (e 16) true h144 n145 (fun k147 => bindP (load1 ro h144 t126_143) fun t127_151 => k147 t127_151 h144 n145) fun t127_148 h149 n150 => ifP (e 16) true h149 n150 (fun k152 => k152 (e 121) h149 n150) fun t128_153 h154 n155 => ifP (e 16) true h154 n155 (fun k156 => bindP (ixSl 1 t127_148 t128_153) fun t129_160 => k156 t129_160 h154 n155) fun t129_157 h158 n159 => ifP (e 16) true h158 n159 (fun k161 => bindP (load1 ro h158 t129_157) fun t130_165 => k161 t130_165 h158 n159) fun t130_162 h163 n164 => ifP (e 16) true h163 n164 (fun k166 => bindP (fwdP 0 (e 15)) fun t131_170 => k166 t131_170 h163 n164) fun t131_167 h168 n169 => ifP (e 16) true h168 n169 (fun k171 => bindP (load1 ro h168 t131_167) fun t132_175 => k171 t132_175 h168 n169) fun t132_172 h173 n174 => ifP (e 16) true h173 n174 (fun k176 => k176 (e 121) h173 n174) fun t133_177 h178 n179 => ifP (e 16) true h178 n179 (fun k180 => bindP (ixSl 1 t132_172 t133_177) fun t134_184 => k180 t134_184 h178 n179) fun t134_181 h182 n183 => ifP (e 16) true h182 n183 (fun k185 => bindP (load1 ro h182 t134_181) fun t135_189 => k185 t135_189 h182 n183) fun t135_186 h187 n188 => ifP (e 16) true h187 n188 (fun k190 => bindP (intB .eql t130_162 t135_186) fun t136_194 => k190 t136_194 h187 n188) fun t136_191 h192 n193 => bindP (pickV (e 16) t136_191 (Value.bool false)) fun t137_195 => bindP (intB .add (e 121) (Value.int IntKind.i64 1)) fun t138_196 => Q .normal (puts e [(122, t122_141), (123, (e 121)), (17, (e 121)), (124, (e 16)), (125, (e 16)), (126, t126_143), (127, t127_148), (128, t128_153), (129, t129_157), (130, t130_162), (131, t131_167), (132, t132_172), (133, t133_177), (134, t134_181), (135, t135_186), (136, t136_191), (137, t137_195), (16, t137_195), (138, t138_196), (121, t138_196)]) h192 (n193 + 2)) (Q (.exit 10) (puts e [(122, t122_141)]) h (nx + 1))
@[irreducible] def law11_AutoOwn_L2 (ro : Ro) : PT := fun e h nx Q => bindP (intB .lss (e 99) (e 98)) fun t100_118 => condP t100_118 (bindP (fwdP 258 (e 4)) fun t102_120 => bindP (load1 ro h t102_120) fun t103_121 => bindP (ixSl 4 t103_121 (e 99)) fun t105_122 => bindP (loadA ro h 4 t105_122) fun t106_123 => bindP (zer Try.prog y_api_State) fun z124 => newP h (nx + 8) (.cells z124.cells y_api_State) fun h125 => bindP (storeN 4 h125 (ptr (nx + 8)) t106_123) fun h126 => bindP (fwdP 0 (e 13)) fun t107_127 => bindP (load1 ro h126 t107_127) fun t108_128 => bindP (lenSl t108_128) fun t109_129 => bindP (fwdP 0 (ptr (nx + 8))) fun t110_130 => bindP (load1 ro h126 t110_130) fun t111_131 => bindP (lenSl t111_131) fun t112_132 => bindP (intB .eql t109_129 t112_132) fun t113_133 => bindP (fwdP 0 (e 13)) fun t114_134 => bindP (load1 ro h126 t114_134) fun t115_135 => bindP (lenSl t115_135) fun t116_136 => bindP (fwdP 0 (ptr (nx + 8))) fun t117_137 => bindP (load1 ro h126 t117_137) fun t118_138 => bindP (lenSl t118_138) fun t119_139 => bindP (builtinQ Try.prog h126 .min #[y_int, y_int] [t116_136, t119_139]) fun t120_140 => loopP (law11_AutoOwn_L3 ro) (puts e [(100, t100_118), (101, (e 99)), (14, (e 99)), (102, t102_120), (103, t103_121), (104, (e 99)), (105, t105_122), (106, t106_123), (15, (ptr (nx + 8))), (107, t107_127), (108, t108_128), (109, t109_129), (110, t110_130), (111, t111_131), (112, t112_132), (113, t113_133), (16, t113_133), (114, t114_134), (115, t115_135), (116, t116_136), (117, t117_137), (118, t118_138), (119, t119_139), (120, t120_140), (121, (Value.int IntKind.i64 0))]) h126 (nx + 26) fun x200 e197 h198 n199 => exP x200 (law11_AutoOwn_j5 ro Q e197 h198 n199) (fun i201 => beqP (Nat.beq i201 10) (law11_AutoOwn_j5 ro Q e197 h198 n199) (beqP (Nat.beq i201 9) (law11_AutoOwn_j4 ro Q e197 h198 n199) (Q (.exit i201) e197 h198 n199))) (Q .ret e197 h198 n199)) (Q (.exit 8) (puts e [(100, t100_118)]) h (nx + 1))
@[irreducible] def law11_AutoOwn_L1 (ro : Ro) : PT := fun e h nx Q => bindP (intB .lss (e 93) (e 92)) fun t94_111 => condP t94_111 (bindP (ixSl 4 (e 91) (e 93)) fun t96_113 => bindP (loadA ro h 4 t96_113) fun t97_114 => bindP (zer Try.prog y_api_State) fun z115 => newP h (nx + 4) (.cells z115.cells y_api_State) fun h116 => bindP (storeN 4 h116 (ptr (nx + 4)) t97_114) fun h117 => loopP (law11_AutoOwn_L2 ro) (puts e [(94, t94_111), (95, (e 93)), (96, t96_113), (97, t97_114), (13, (ptr (nx + 4))), (12, (e 93)), (98, (e 93)), (99, (Value.int IntKind.i64 0))]) h117 (nx + 9) fun x205 e202 h203 n204 => exP x205 (law11_AutoOwn_j3 ro Q e202 h203 n204) (fun i206 => beqP (Nat.beq i206 8) (law11_AutoOwn_j3 ro Q e202 h203 n204) (beqP (Nat.beq i206 7) (law11_AutoOwn_j3 ro Q e202 h203 n204) (Q (.exit i206) e202 h203 n204))) (Q .ret e202 h203 n204)) (Q (.exit 6) (puts e [(94, t94_111)]) h (nx + 1))
@[irreducible] def law11_AutoOwn_j1 (ro : Ro) (K : KV) : Env → T Obj → Nat → Prop := fun e h nx => bindP (fwdP 258 (e 4)) fun t90_108 => bindP (load1 ro h t90_108) fun t91_109 => bindP (lenSl t91_109) fun t92_110 => loopP (law11_AutoOwn_L1 ro) (puts e [(90, t90_108), (91, t91_109), (92, t92_110), (93, (Value.int IntKind.i64 0))]) h (nx + 4) fun x210 e207 h208 n209 => exP x210 (law11_AutoOwn_j2 ro K e207 h208 n209) (fun i211 => beqP (Nat.beq i211 6) (law11_AutoOwn_j2 ro K e207 h208 n209) (False)) (∃ h212, Sub h212 h208 ∧ K (e207 2) h212 n209)
@[irreducible] def law11_AutoOwn_j6 (ro : Ro) (Q : KE) : Env → T Obj → Nat → Prop := fun e h nx => bindP (intB .add (e 55) (Value.int IntKind.i64 1)) fun t89_217 => Q .normal (puts e [(89, t89_217), (55, t89_217)]) h (nx + 2)
@[irreducible] def law11_AutoOwn_j7 (ro : Ro) (Q : KE) : Env → T Obj → Nat → Prop := fun e h nx => bindP (intB .add (e 68) (Value.int IntKind.i64 1)) fun t88_226 => Q .normal (puts e [(88, t88_226), (68, t88_226)]) h (nx + 2)
@[irreducible] def law11_AutoOwn_L6 (ro : Ro) : PT := fun e h nx Q => bindP (intB .lss (e 74) (e 73)) fun t75_230 => condP t75_230 (bindP (ixSl 2 (e 72) (e 74)) fun t76_231 => bindP (loadA ro h 2 t76_231) fun t77_232 => bindP (zer Try.prog y_api_Move) fun z233 => newP h (nx + 3) (.cells z233.cells y_api_Move) fun h234 => bindP (storeN 2 h234 (ptr (nx + 3)) t77_232) fun h235 => bindP (fwdP 0 (ptr (nx + 3))) fun t78_236 => bindP (load1 ro h235 t78_236) fun t79_237 => bindP (intB .gtr t79_237 (e 6)) fun t81_238 => condP t81_238 (Q .ret (puts e [(75, t75_230), (76, t76_231), (77, t77_232), (11, (ptr (nx + 3))), (78, t78_236), (79, t79_237), (80, (e 6)), (81, t81_238), (2, (Value.bool false))]) h235 (nx + 10)) (bindP (fwdP 0 (ptr (nx + 3))) fun t83_239 => bindP (load1 ro h235 t83_239) fun t84_240 => bindP (intB .add t84_240 (Value.int IntKind.i64 1)) fun t85_241 => bindP (builtinQ Try.prog h235 .max #[y_int, y_int] [(e 6), t85_241]) fun t86_242 => bindP (intB .add (e 74) (Value.int IntKind.i64 1)) fun t87_243 => Q .normal (puts e [(75, t75_230), (76, t76_231), (77, t77_232), (11, (ptr (nx + 3))), (78, t78_236), (79, t79_237), (80, (e 6)), (81, t81_238), (82, (e 6)), (83, t83_239), (84, t84_240), (85, t85_241), (86, t86_242), (6, t86_242), (87, t87_243), (74, t87_243)]) h235 (nx + 17))) (Q (.exit 4) (puts e [(75, t75_230)]) h (nx + 1))
@[irreducible] def law11_AutoOwn_L5 (ro : Ro) : PT := fun e h nx Q => bindP (intB .lss (e 68) (e 67)) fun t69_225 => condP t69_225 (bindP (ixSl 1 (e 66) (e 68)) fun t70_227 => bindP (load1 ro h t70_227) fun t71_228 => bindP (lenSl t71_228) fun t73_229 => loopP (law11_AutoOwn_L6 ro) (puts e [(69, t69_225), (70, t70_227), (71, t71_228), (9, t71_228), (72, t71_228), (73, t73_229), (74, (Value.int IntKind.i64 0))]) h (nx + 7) fun x247 e244 h245 n246 => exP x247 (law11_AutoOwn_j7 ro Q e244 h245 n246) (fun i248 => beqP (Nat.beq i248 4) (law11_AutoOwn_j7 ro Q e244 h245 n246) (beqP (Nat.beq i248 3) (law11_AutoOwn_j7 ro Q e244 h245 n246) (Q (.exit i248) e244 h245 n246))) (Q .ret e244 h245 n246)) (Q (.exit 2) (puts e [(69, t69_225)]) h (nx + 1))
@[irreducible] def law11_AutoOwn_L4 (ro : Ro) : PT := fun e h nx Q => bindP (intB .lss (e 55) (e 54)) fun t56_216 => condP t56_216 (bindP (intB .geq (e 55) (e 6)) fun t60_218 => condP t60_218 (Q .ret (puts e [(56, t56_216), (57, (e 55)), (7, (e 55)), (58, (e 55)), (59, (e 6)), (60, t60_218), (2, (Value.bool false))]) h (nx + 7)) (bindP (fwdP 258 (e 4)) fun t61_219 => bindP (load1 ro h t61_219) fun t62_220 => bindP (ixSl 4 t62_220 (e 55)) fun t64_221 => bindP (fwdP 3 t64_221) fun t65_222 => bindP (load1 ro h t65_222) fun t66_223 => bindP (lenSl t66_223) fun t67_224 => loopP (law11_AutoOwn_L5 ro) (puts e [(56, t56_216), (57, (e 55)), (7, (e 55)), (58, (e 55)), (59, (e 6)), (60, t60_218), (61, t61_219), (62, t62_220), (63, (e 55)), (64, t64_221), (65, t65_222), (66, t66_223), (67, t67_224), (68, (Value.int IntKind.i64 0))]) h (nx + 14) fun x252 e249 h250 n251 => exP x252 (law11_AutoOwn_j6 ro Q e249 h250 n251) (fun i253 => beqP (Nat.beq i253 2) (law11_AutoOwn_j6 ro Q e249 h250 n251) (beqP (Nat.beq i253 1) (law11_AutoOwn_j6 ro Q e249 h250 n251) (Q (.exit i253) e249 h250 n251))) (Q .ret e249 h250 n251))) (Q (.exit 0) (puts e [(56, t56_216)]) h (nx + 1))
@[irreducible] def law11_AutoOwn (ro : Ro) (v0 : Value) (h : T Obj) (nx : Nat) (K : KV) : Prop := newP h nx (.cells (Value.cells v0) y_api_Glush) fun h1 => callP Try.prog ro i_law11_shown [] h1 (nx + 3) fun t18_2 h3 n4 => bindP (loadA ro h3 2 (ptr nx)) fun t20_5 => callP Try.prog ro i_law11_few [t20_5] h3 (n4 + 3) fun t21_6 h7 n8 => callP Try.prog ro i_auto_Of [t21_6] h7 (n8 + 1) fun t22_9 h10 n11 => bindP (nth 0 t22_9) fun t23_12 => bindP (nth 1 t22_9) fun t24_13 => bindP (zer Try.prog y_api_Auto) fun z14 => newP h10 (n11 + 3) (.cells z14.cells y_api_Auto) fun h15 => bindP (storeN 259 h15 (ptr (n11 + 3)) t23_12) fun h16 => bindP (intB .neq t24_13 (Value.int IntKind.i64 0)) fun t26_17 => condP t26_17 (ifP t18_2 true h16 (n11 + 10) (fun k18 => bindP (fwdP 258 (ptr (n11 + 3))) fun t29_22 => k18 t29_22 h16 (n11 + 11)) fun t29_19 h20 n21 => ifP t18_2 true h20 n21 (fun k23 => bindP (load1 ro h20 t29_19) fun t30_27 => k23 t30_27 h20 (n21 + 1)) fun t30_24 h25 n26 => ifP t18_2 true h25 n26 (fun k28 => bindP (lenSl t30_24) fun t31_32 => k28 t31_32 h25 (n26 + 1)) fun t31_29 h30 n31 => ifP t18_2 true h30 n31 (fun k33 => bindP (intB .eql t31_29 (Value.int IntKind.i64 0)) fun t32_37 => k33 t32_37 h30 (n31 + 1)) fun t32_34 h35 n36 => bindP (pickV t18_2 t32_34 (Value.bool false)) fun t33_38 => ifP t33_38 true h35 (n36 + 2) (fun k39 => k39 t24_13 h35 (n36 + 3)) fun t35_40 h41 n42 => ifP t33_38 true h41 n42 (fun k43 => bindP (intB .neq t35_40 (Value.int IntKind.i64 1)) fun t36_47 => k43 t36_47 h41 (n42 + 1)) fun t36_44 h45 n46 => ifP t33_38 true h45 n46 (fun k48 => k48 t36_44 h45 (n46 + 1)) fun t37_49 h50 n51 => ifP t37_49 false h50 n51 (fun k52 => bindP (loadA ro h50 2 (ptr nx)) fun t38_56 => k52 t38_56 h50 (n51 + 1)) fun t38_53 h54 n55 => ifP t37_49 false h54 n55 (fun k57 => callP Try.prog ro i_law11_few [t38_53] h54 (n55 + 1) fun t39_61 h62 n63 => k57 t39_61 h62 n63) fun t39_58 h59 n60 => ifP t37_49 false h59 n60 (fun k64 => callP Try.prog ro i_ref09_Right [t39_58] h59 (n60 + 1) fun t40_68 h69 n70 => k64 t40_68 h69 n70) fun t40_65 h66 n67 => ifP t37_49 false h66 n67 (fun k71 => bindP (unV .not t40_65) fun t41_75 => k71 t41_75 h66 (n67 + 1)) fun t41_72 h73 n74 => ifP t33_38 true h73 n74 (fun k76 => bindP (pickV t37_49 (Value.bool true) t41_72) fun t42_80 => k76 t42_80 h73 (n74 + 1)) fun t42_77 h78 n79 => bindP (pickV t33_38 t42_77 (Value.bool false)) fun t43_81 => ∃ h82, Sub h82 h78 ∧ K t43_81 h82 (n79 + 2)) (bindP (loadA ro h16 259 (ptr (n11 + 3))) fun t44_83 => callP Try.prog ro i_auto_Right [t44_83] h16 (n11 + 10) fun t45_84 h85 n86 => bindP (unV .not t45_84) fun t46_87 => ifP t46_87 false h85 (n86 + 2) (fun k88 => bindP (loadA ro h85 259 (ptr (n11 + 3))) fun t48_92 => k88 t48_92 h85 (n86 + 3)) fun t48_89 h90 n91 => ifP t46_87 false h90 n91 (fun k93 => callP Try.prog ro i_ref11_Right [t48_89] h90 (n91 + 1) fun t49_97 h98 n99 => k93 t49_97 h98 n99) fun t49_94 h95 n96 => ifP t46_87 false h95 n96 (fun k100 => bindP (unV .not t49_94) fun t50_104 => k100 t50_104 h95 (n96 + 1)) fun t50_101 h102 n103 => bindP (pickV t46_87 (Value.bool true) t50_101) fun t51_105 => condP t51_105 (∃ h106, Sub h106 h102 ∧ K (Value.bool false) h106 (n103 + 2)) (bindP (fwdP 258 (ptr (n11 + 3))) fun t52_213 => bindP (load1 ro h102 t52_213) fun t53_214 => bindP (lenSl t53_214) fun t54_215 => loopP (law11_AutoOwn_L4 ro) (puts (entE [v0]) [(1, (ptr nx)), (2, (Value.bool false)), (18, t18_2), (3, t18_2), (20, t20_5), (21, t21_6), (22, t22_9), (19, t22_9), (23, t23_12), (24, t24_13), (4, (ptr (n11 + 3))), (5, t24_13), (25, t24_13), (26, t26_17), (44, t44_83), (45, t45_84), (46, t46_87), (47, t46_87), (48, t48_89), (49, t49_94), (50, t50_101), (51, t51_105), (6, (Value.int IntKind.i64 1)), (52, t52_213), (53, t53_214), (54, t54_215), (55, (Value.int IntKind.i64 0))]) h102 (n103 + 6) fun x257 e254 h255 n256 => exP x257 (law11_AutoOwn_j1 ro K e254 h255 n256) (fun i258 => beqP (Nat.beq i258 0) (law11_AutoOwn_j1 ro K e254 h255 n256) (False)) (∃ h259, Sub h259 h255 ∧ K (e254 2) h259 n256)))
theorem law11_AutoOwn_eq (ro : Ro) (v0 : Value) (h : T Obj) (nx : Nat) (K : KV) : callPre Try.prog ro (callP Try.prog ro) Try.f8 [v0] h nx K = law11_AutoOwn ro v0 h nx K := by kernel_rfl
theorem law11_AutoOwn_of {ro : Ro} {v0 : Value} {h : T Obj} {nx : Nat} {K : KV} (hw : law11_AutoOwn ro v0 h nx K) : callP Try.prog ro i_law11_AutoOwn [v0] h nx K := callP_by (P := Try.prog) (fn := Try.f8) (by kernel_rfl) (by kernel_rfl) (by kernel_rfl) (Eq.mpr (law11_AutoOwn_eq ro v0 h nx K) hw)
end V
end Go.Proofs.Ytmmdcdjkmakgpaa
set_option linter.unusedVariables false
set_option linter.unusedSimpArgs false
namespace Go.Proofs.Ytmmdcdjkmakgpaa
namespace V
open PA
attribute [local irreducible] bindP ifP condP newP optP exP beqP
theorem min_own (h : T Obj) (t : Array TypeId) (a b : Int) : builtinQ Try.prog h .min t [.int .i64 a, .int .i64 b] = some (.int .i64 (min a b)) := by
  unfold builtinQ
  simp only [minL_eq, minL, minB]
  by_cases e : b < a
  · simp only [e, decide_true]; congr 2; omega
  · simp only [e, decide_false]; congr 2; omega
theorem max_own (h : T Obj) (t : Array TypeId) (a b : Int) : builtinQ Try.prog h .max t [.int .i64 a, .int .i64 b] = some (.int .i64 (max a b)) := by
  unfold builtinQ
  simp only [minL_eq, minL, minB]
  by_cases e : a < b
  · simp only [e, decide_true]; congr 2; omega
  · simp only [e, decide_false]; congr 2; omega
theorem ahead_le : ∀ {l : List MoveD} {A B : Int}, ahead A l = some B → A ≤ B
  | [], A, B, h => by cases h; omega
  | m :: r, A, B, h => by
    unfold ahead at h
    split at h
    · have := ahead_le h
      omega
    · cases h
theorem ahead_cons {m : MoveD} {r : List MoveD} {A B : Int} (h : ahead A (m :: r) = some B) : m.to ≤ A ∧ ahead (max A (m.to + 1)) r = some B := by
  unfold ahead at h
  split at h
  · exact ⟨by assumption, h⟩
  · cases h
def KpA (e' e : Env) : Prop := e' 3 = e 3 ∧ e' 4 = e 4 ∧ e' 54 = e 54 ∧ e' 55 = e 55 ∧ e' 66 = e 66 ∧ e' 67 = e 67 ∧ e' 68 = e 68
def KpB (e' e : Env) : Prop := e' 3 = e 3 ∧ e' 4 = e 4 ∧ e' 54 = e 54 ∧ e' 55 = e 55
def KpC (e' e : Env) : Prop := e' 3 = e 3 ∧ e' 4 = e 4 ∧ e' 13 = e 13 ∧ e' 91 = e 91 ∧ e' 92 = e 92 ∧ e' 93 = e 93 ∧ e' 98 = e 98 ∧ e' 99 = e 99
def KpD (e' e : Env) : Prop := e' 3 = e 3 ∧ e' 4 = e 4 ∧ e' 91 = e 91 ∧ e' 92 = e 92 ∧ e' 93 = e 93
section
variable {ro : Ro}
set_option maxRecDepth 4000 in
set_option maxHeartbeats 1000000 in
theorem own_L6_c {e0 : Env} {row : List MoveD} {A A' : Int} {w : Value} {h : T Obj} {nx : Nat} {Q : KE} (hf : Fr h nx) (hr : SlR ro h w 2 (RMove ro h) row) (hb : row.length ≤ 1000000) (hto : ∀ m ∈ row, -1 ≤ m.to) (h0 : 1 ≤ A) (h1 : A' ≤ 256) (ha : ahead A row = some A')
    (e6 : e0 6 = .int .i64 A) (e72 : e0 72 = w) (e73 : e0 73 = .int .i64 row.length) (e74 : e0 74 = .int .i64 0) (hQ : ∀ e' n', nx ≤ n' → e' 6 = .int .i64 A' → KpA e' e0 → Q (.exit 4) e' h n') : loopP (law11_AutoOwn_L6 ro) e0 h nx Q := by
  refine loopP_rule (fun j e h' nx' => ∃ (k : Nat) (B : Int), k + j = row.length ∧ nx ≤ nx' ∧ h' = h ∧ 1 ≤ B ∧ ahead B (row.drop k) = some A' ∧ e 6 = .int .i64 B ∧ e 72 = w ∧ e 73 = .int .i64 row.length ∧ e 74 = .int .i64 k ∧ KpA e e0) ?_ (n := row.length)
    ⟨0, A, by omega, by omega, rfl, h0, ha, e6, e72, e73, e74, rfl, rfl, rfl, rfl, rfl, rfl, rfl⟩
  rintro j e h' nx' ⟨k, B, hj, hnx, rfl, hB, hak, e6, e72, e73, e74, hk⟩ Q' hq hx
  unfold law11_AutoOwn_L6
  rw [e6, e72, e73, e74]
  refine lss_s (fun hkl => ?_) (fun hkl => ?_)
  · have hkl : k < row.length := by omega
    obtain ⟨y, ⟨ov, rfl, o1, o2⟩, y2, y3, y4, y5⟩ := hr.at hkl
    rw [drop_cons hkl] at hak
    obtain ⟨a1, a2⟩ := ahead_cons hak
    have a3 := ahead_le a2
    have a4 := hto _ (List.getElem_mem hkl)
    have hov := o1.okC
    generalize row[k] = m at o1 o2 a1 a2 a3 a4 y3
    refine condP_t (bindP_mk (hr.ix _ hkl) (bindP_mk y3 ?_))
    refine local_mk zer_Move rfl (x := [.int .i64 m.to, ov]) rfl rfl (by simp only [List.all_cons, List.all_nil, hov]; rfl) hf (show nx ≤ nx' + 3 by omega) fun h3 hs3 hf3 g3 _ => ?_
    (repeat (first | refine bindP_mk (by simp (disch := first | omega | exact Int.natCast_nonneg _ | assumption) only [BB, B2, ↓reduceIte, Nat.reduceLeDiff, Nat.reduceAdd, CC, g3] <;> rfl) ?_ | refine newP_mk ?_ | refine optP_mk ?_ | with_reducible first | refine condP_t ?_ | refine condP_f ?_ | refine ifP_tt' ?_ | refine ifP_ff' ?_ | refine ifP_tf' ?_ | refine ifP_ft' ?_ | refine ifP_u' ?_ | refine optP_mk0 ?_))
    refine bindP_mk (max_own _ _ _ _) ?_
    (repeat (first | refine bindP_mk (by simp (disch := first | omega | exact Int.natCast_nonneg _ | assumption) only [BB, B2, ↓reduceIte, Nat.reduceLeDiff, Nat.reduceAdd, CC] <;> rfl) ?_ | refine newP_mk ?_ | refine optP_mk ?_ | with_reducible first | refine condP_t ?_ | refine condP_f ?_ | refine ifP_tt' ?_ | refine ifP_ff' ?_ | refine ifP_tf' ?_ | refine ifP_ft' ?_ | refine ifP_u' ?_ | refine optP_mk0 ?_))
    exact hq (j - 1) _ h' _ _ (by omega) ⟨k + 1, _, by omega, by omega, rfl, by omega, a2, rfl, e72, e73, rfl, hk⟩ hs3
  · rw [List.drop_eq_nil_of_le (by omega)] at hak
    have hak : B = A' := Option.some.inj hak
    subst hak
    exact condP_f (hx _ _ _ _ (fun e => by cases e) (hQ _ _ (by omega) e6 hk))
set_option maxRecDepth 4000 in
set_option maxHeartbeats 1000000 in
theorem own_L5_c {e0 : Env} {rows : List (List MoveD)} {A A' : Int} {w : Value} {h : T Obj} {nx : Nat} {Q : KE} (hf : Fr h nx) (hr : SlR ro h w 1 (RRow ro h) rows) (hb : rows.length ≤ 1000000) (hbr : ∀ row ∈ rows, row.length ≤ 1000000) (hto : ∀ row ∈ rows, ∀ m ∈ row, -1 ≤ m.to) (h0 : 1 ≤ A) (h1 : A' ≤ 256) (ha : ahead A rows.flatten = some A')
    (e6 : e0 6 = .int .i64 A) (e66 : e0 66 = w) (e67 : e0 67 = .int .i64 rows.length) (e68 : e0 68 = .int .i64 0) (hQ : ∀ e' n', nx ≤ n' → e' 6 = .int .i64 A' → KpB e' e0 → Q (.exit 2) e' h n') : loopP (law11_AutoOwn_L5 ro) e0 h nx Q := by
  refine loopP_rule (fun j e h' nx' => ∃ (k : Nat) (B : Int), k + j = rows.length ∧ nx ≤ nx' ∧ h' = h ∧ 1 ≤ B ∧ ahead B (rows.drop k).flatten = some A' ∧ e 6 = .int .i64 B ∧ e 66 = w ∧ e 67 = .int .i64 rows.length ∧ e 68 = .int .i64 k ∧ KpB e e0) ?_ (n := rows.length)
    ⟨0, A, by omega, by omega, rfl, h0, ha, e6, e66, e67, e68, rfl, rfl, rfl, rfl⟩
  rintro j e h' nx' ⟨k, B, hj, hnx, rfl, hB, hak, e6, e66, e67, e68, hk⟩ Q' hq hx
  unfold law11_AutoOwn_L5
  rw [e66, e67, e68]
  refine lss_s (fun hkl => ?_) (fun hkl => ?_)
  · have hkl : k < rows.length := by omega
    obtain ⟨v, ⟨v', r1, r2, r3⟩, r4⟩ := hr.at1 hkl
    simp only [List.cons.injEq, and_true] at r1
    subst r1
    rw [drop_cons hkl, List.flatten_cons, ahead_app] at hak
    have hmem := List.getElem_mem hkl
    have q1 := hbr _ hmem
    have q2 := hto _ hmem
    cases hrow : ahead B rows[k] with
    | none => rw [hrow] at hak; cases hak
    | some C =>
      rw [hrow, Option.bind_some] at hak
      have c1 := ahead_le hrow
      have c2 := ahead_le hak
      refine condP_t (bindP_mk (hr.ix _ hkl) (bindP_mk r4 (bindP_mk r2.len ?_)))
      refine own_L6_c (hf.mono (show nx ≤ nx' + 7 by omega)) r2 q1 q2 hB (by omega) hrow ?_ ?_ ?_ ?_ fun e' n' hn' z6 hz => ?_
      · exact e6
      · rfl
      · rfl
      · rfl
      obtain ⟨z3, z4, z54, z55, z66, z67, z68⟩ := hz
      refine exP_e (beqP_t ?_)
      unfold law11_AutoOwn_j7
      have z66 : e' 66 = w := z66.trans e66
      have z67 : e' 67 = .int .i64 rows.length := z67.trans e67
      have z68 : e' 68 = .int .i64 k := z68.trans e68
      rw [z68]
      (repeat (first | refine bindP_mk (by simp (disch := first | omega | exact Int.natCast_nonneg _ | assumption) only [BB, B2, ↓reduceIte, Nat.reduceLeDiff, Nat.reduceAdd, CC] <;> rfl) ?_ | refine newP_mk ?_ | refine optP_mk ?_ | with_reducible first | refine condP_t ?_ | refine condP_f ?_ | refine ifP_tt' ?_ | refine ifP_ff' ?_ | refine ifP_tf' ?_ | refine ifP_ft' ?_ | refine ifP_u' ?_ | refine optP_mk0 ?_))
      obtain ⟨k3, k4, k54, k55⟩ := hk
      exact hq (j - 1) _ h' _ _ (by omega) ⟨k + 1, C, by omega, by omega, rfl, by omega, hak, z6, z66, z67, rfl, z3.trans k3, z4.trans k4, z54.trans k54, z55.trans k55⟩ (Sub.refl _)
  · rw [List.drop_eq_nil_of_le (by omega)] at hak
    have hak : B = A' := Option.some.inj hak
    subst hak
    exact condP_f (hx _ _ _ _ (fun e => by cases e) (hQ _ _ (by omega) e6 hk))
theorem movesOf_take {S : List StateD} {k : Nat} (hk : k < S.length) : movesOf (S.take (k + 1)) = movesOf (S.take k) ++ S[k].next.flatten := by
  rw [List.take_succ_eq_append_getElem hk, movesOf_app]
  unfold movesOf
  simp
set_option maxRecDepth 4000 in
set_option maxHeartbeats 1000000 in
theorem own_L4_c {e0 : Env} {S : List StateD} {c : List Nat} {n : Int} {cv sv : Value} {aid : Nat} {h : T Obj} {nx : Nat} {Q : KE} (hc : c.length = 256) (hf : Fr h nx) (ga : h.get aid = some (.cells (autL c n cv sv).toArray y_api_Auto)) (hS : SlR ro h sv 4 (RState ro h) S) (hsm : Small S) (hto : ∀ s ∈ S, ∀ row ∈ s.next, ∀ m ∈ row, -1 ≤ m.to) (hfew : S.length ≤ 256) (hA : AM S S.length)
    (e4 : e0 4 = ptr aid) (e6 : e0 6 = .int .i64 1) (e54 : e0 54 = .int .i64 S.length) (e55 : e0 55 = .int .i64 0) (hQ : ∀ e' n', nx ≤ n' → e' 3 = e0 3 → e' 4 = ptr aid → Q (.exit 0) e' h n') : loopP (law11_AutoOwn_L4 ro) e0 h nx Q := by
  have hsg := autL_states (n := n) (cv := cv) (sv := sv) hc
  refine loopP_rule (fun j e h' nx' => ∃ (k : Nat) (B : Int), k + j = S.length ∧ nx ≤ nx' ∧ h' = h ∧ ahead 1 (movesOf (S.take k)) = some B ∧ e 4 = ptr aid ∧ e 6 = .int .i64 B ∧ e 54 = .int .i64 S.length ∧ e 55 = .int .i64 k ∧ e 3 = e0 3) ?_ (n := S.length)
    ⟨0, 1, by omega, by omega, rfl, rfl, e4, e6, e54, e55, rfl⟩
  rintro j e h' nx' ⟨k, B, hj, hnx, rfl, hak, e4, e6, e54, e55, e3⟩ Q' hq hx
  unfold law11_AutoOwn_L4
  rw [e4, e6, e54, e55]
  refine lss_s (fun hkl => ?_) (fun hkl => ?_)
  · have hkl : k < S.length := by omega
    obtain ⟨B', b1, b2⟩ := hA.at_ k (by omega) hkl
    rw [hak] at b1
    have b1 : B = B' := Option.some.inj b1
    subst b1
    have b0 := ahead_le hak
    have hall := hA.all
    have hsp : movesOf S = movesOf (S.take k) ++ (S[k].next.flatten ++ movesOf (S.drop (k + 1))) := by
      rw [← List.append_assoc, ← movesOf_take hkl, ← movesOf_app, List.take_append_drop]
    rw [hsp, ahead_app, hak, Option.bind_some, ahead_app] at hall
    obtain ⟨y, ⟨lv, rv, uv, nv, rfl, y1, y2, y3, y4, y5⟩, z2, z3, z4, z5⟩ := hS.at hkl
    have hmem := List.getElem_mem hkl
    obtain ⟨m1, m2, m3, m4, m5⟩ := hsm.2 _ hmem
    have t1 := hto _ hmem
    cases hrow : ahead B S[k].next.flatten with
    | none => rw [hrow] at hall; cases hall
    | some C =>
      rw [hrow, Option.bind_some] at hall
      have c1 := ahead_le hrow
      have c2 := ahead_le hall
      have hnext : ahead 1 (movesOf (S.take (k + 1))) = some C := by rw [movesOf_take hkl, ahead_app, hak]; exact hrow
      have f3 := z4 3
      have l3 := z5 3 nv rfl
      have n3 := y4.len
      have six := hS.ix .i64 hkl
      refine condP_t ?_
      (repeat (first | refine bindP_mk (by simp (disch := first | omega | exact Int.natCast_nonneg _ | assumption) only [BB, B2, ↓reduceIte, Nat.reduceLeDiff, Nat.reduceAdd, CC, ga, hsg, six, f3, l3, n3] <;> rfl) ?_ | refine newP_mk ?_ | refine optP_mk ?_ | with_reducible first | refine condP_t ?_ | refine condP_f ?_ | refine ifP_tt' ?_ | refine ifP_ff' ?_ | refine ifP_tf' ?_ | refine ifP_ft' ?_ | refine ifP_u' ?_ | refine optP_mk0 ?_))
      refine own_L5_c (hf.mono (show nx ≤ nx' + 14 by omega)) y4 m4 m5 t1 (by omega) (by omega) hrow ?_ ?_ ?_ ?_ fun e' n' hn' z6 hz => ?_
      · exact e6
      · rfl
      · rfl
      · rfl
      obtain ⟨x3, x4, x54, x55⟩ := hz
      refine exP_e (beqP_t ?_)
      unfold law11_AutoOwn_j6
      have x4 : e' 4 = ptr aid := x4.trans e4
      have x54 : e' 54 = .int .i64 S.length := x54.trans e54
      have x55 : e' 55 = .int .i64 k := x55.trans e55
      rw [x55]
      (repeat (first | refine bindP_mk (by simp (disch := first | omega | exact Int.natCast_nonneg _ | assumption) only [BB, B2, ↓reduceIte, Nat.reduceLeDiff, Nat.reduceAdd, CC] <;> rfl) ?_ | refine newP_mk ?_ | refine optP_mk ?_ | with_reducible first | refine condP_t ?_ | refine condP_f ?_ | refine ifP_tt' ?_ | refine ifP_ff' ?_ | refine ifP_tf' ?_ | refine ifP_ft' ?_ | refine ifP_u' ?_ | refine optP_mk0 ?_))
      exact hq (j - 1) _ h' _ _ (by omega) ⟨k + 1, C, by omega, by omega, rfl, hnext, x4, z6, x54, rfl, x3.trans e3⟩ (Sub.refl _)
  · exact condP_f (hx _ _ _ _ (fun e => by cases e) (hQ _ _ (by omega) e3 e4))
end
end V
end Go.Proofs.Ytmmdcdjkmakgpaa
set_option linter.unusedVariables false
set_option linter.unusedSimpArgs false
namespace Go.Proofs.Ytmmdcdjkmakgpaa
namespace V
open PA
attribute [local irreducible] bindP ifP condP newP optP exP beqP
section
variable {ro : Ro}
set_option maxRecDepth 8000 in
set_option maxHeartbeats 1000000 in
theorem own_L3_c {e0 : Env} {s t : List Int} {lv lw a1 a2 a3 b1 b2 b3 : Value} {sid tid : Nat} {h : T Obj} {nx : Nat} {Q : KE} (gs : h.get sid = some (.cells [lv, a1, a2, a3].toArray y_api_State)) (gt : h.get tid = some (.cells [lw, b1, b2, b3].toArray y_api_State)) (hl : ZI ro h lv s) (hm : ZI ro h lw t) (hne : s ≠ t) (hb : s.length ≤ 1000000)
    (e13 : e0 13 = ptr sid) (e15 : e0 15 = ptr tid) (e16 : e0 16 = .bool (decide ((s.length : Int) = t.length))) (e120 : e0 120 = .int .i64 (min (s.length : Int) t.length)) (e121 : e0 121 = .int .i64 0)
    (hQ : ∀ e' n', nx ≤ n' → e' 16 = .bool false → KpC e' e0 → Q (.exit 10) e' h n') : loopP (law11_AutoOwn_L3 ro) e0 h nx Q := by
  refine loopP_rule (fun j e h' nx' => ∃ (k : Nat) (B : Bool), k + j = min s.length t.length ∧ nx ≤ nx' ∧ h' = h ∧ (B = true → s.length = t.length ∧ s.take k = t.take k) ∧ e 13 = ptr sid ∧ e 15 = ptr tid ∧ e 16 = .bool B ∧ e 120 = .int .i64 (min (s.length : Int) t.length) ∧ e 121 = .int .i64 k ∧ KpC e e0) ?_ (n := min s.length t.length)
    ⟨0, _, by omega, by omega, rfl, fun hd => ⟨by have := of_decide_eq_true hd; omega, by rw [List.take_zero, List.take_zero]⟩, e13, e15, e16, e120, e121, rfl, rfl, rfl, rfl, rfl, rfl, rfl, rfl⟩
  rintro j e h' nx' ⟨k, B, hj, hnx, rfl, hB, e13, e15, e16, e120, e121, hk⟩ Q' hq hx
  unfold law11_AutoOwn_L3
  rw [e13, e15, e16, e120, e121]
  refine lss_s (fun hkl => ?_) (fun hkl => ?_)
  · have k1 : k < s.length := by omega
    have k2 : k < t.length := by omega
    have x1 := hl.ix .i64 k1
    have x2 := hm.ix .i64 k2
    have x3 := hl.load k1
    have x4 := hm.load k2
    have c1 : ([lv, a1, a2, a3] : List Value)[0]? = some lv := rfl
    have c2 : ([lw, b1, b2, b3] : List Value)[0]? = some lw := rfl
    cases B with
    | false =>
      (repeat (first | refine bindP_mk (by simp (disch := first | omega | exact Int.natCast_nonneg _ | assumption) only [BB, B2, ↓reduceIte, Nat.reduceLeDiff, Nat.reduceAdd, CC] <;> rfl) ?_ | refine newP_mk ?_ | refine optP_mk ?_ | with_reducible first | refine condP_t ?_ | refine condP_f ?_ | refine ifP_tt' ?_ | refine ifP_ff' ?_ | refine ifP_tf' ?_ | refine ifP_ft' ?_ | refine ifP_u' ?_ | refine optP_mk0 ?_))
      exact hq (j - 1) _ h' _ _ (by omega) ⟨k + 1, false, by omega, by omega, rfl, (fun hd => by cases hd), e13, e15, rfl, e120, rfl, hk⟩ (Sub.refl _)
    | true =>
      obtain ⟨l1, l2⟩ := hB rfl
      (repeat (first | refine bindP_mk (by simp (disch := first | omega | exact Int.natCast_nonneg _ | assumption) only [BB, B2, ↓reduceIte, Nat.reduceLeDiff, Nat.reduceAdd, CC, gs, gt, c1, c2, x1, x2, x3, x4] <;> rfl) ?_ | refine newP_mk ?_ | refine optP_mk ?_ | with_reducible first | refine condP_t ?_ | refine condP_f ?_ | refine ifP_tt' ?_ | refine ifP_ff' ?_ | refine ifP_tf' ?_ | refine ifP_ft' ?_ | refine ifP_u' ?_ | refine optP_mk0 ?_))
      refine bindP_mk (intB_eql _ _ _) ?_
      (repeat (first | refine bindP_mk (by simp (disch := first | omega | exact Int.natCast_nonneg _ | assumption) only [BB, B2, ↓reduceIte, Nat.reduceLeDiff, Nat.reduceAdd, CC] <;> rfl) ?_ | refine newP_mk ?_ | refine optP_mk ?_ | with_reducible first | refine condP_t ?_ | refine condP_f ?_ | refine ifP_tt' ?_ | refine ifP_ff' ?_ | refine ifP_tf' ?_ | refine ifP_ft' ?_ | refine ifP_u' ?_ | refine optP_mk0 ?_))
      refine hq (j - 1) _ h' _ _ (by omega) ⟨k + 1, decide (s[k] = t[k]), by omega, by omega, rfl, (fun hd => ⟨l1, ?_⟩), e13, e15, rfl, e120, rfl, hk⟩ (Sub.refl _)
      have hd := of_decide_eq_true hd
      rw [List.take_succ_eq_append_getElem k1, List.take_succ_eq_append_getElem k2, l2, hd]
  · have hBf : B = false := by
      cases B with
      | false => rfl
      | true =>
        obtain ⟨l1, l2⟩ := hB rfl
        rw [List.take_of_length_le (by omega), List.take_of_length_le (by omega)] at l2
        exact absurd l2 hne
    subst hBf
    exact condP_f (hx _ _ _ _ (fun e => by cases e) (hQ _ _ (by omega) e16 hk))
theorem zer_State1 : zer Try.prog y_api_State = some (.agg #[nilS, nilS, nilS, nilS]) := by kernel_rfl
theorem st_ok {h : T Obj} {lv rv uv nv : Value} {s : StateD} (y1 : ZI ro h lv s.l) (y2 : ZI ro h rv s.r) (y3 : ZI ro h uv s.rule) (y4 : SlR ro h nv 1 (RRow ro h) s.next) : [lv, rv, uv, nv].all cellOk = true := by
  simp only [List.all_cons, List.all_nil, y1.ok, y2.ok, y3.ok, y4.okC]; rfl
section
variable {S : List StateD} {c : List Nat} {n : Int} {cv sv : Value} {aid : Nat}
set_option maxRecDepth 8000 in
set_option maxHeartbeats 1000000 in
theorem own_L2_c {e0 : Env} (hc : c.length = 256) (hsm : Small S) (hd : ∀ (i j : Nat) s t, S[i]? = some s → S[j]? = some t → s.l = t.l → i = j) {i sid : Nat} {s : StateD} {lv a1 a2 a3 : Value} (hi : S[i]? = some s) {h : T Obj} {nx : Nat} {Q : KE} (hf : Fr h nx) (ga : h.get aid = some (.cells (autL c n cv sv).toArray y_api_Auto)) (hS : SlR ro h sv 4 (RState ro h) S)
    (gs : h.get sid = some (.cells [lv, a1, a2, a3].toArray y_api_State)) (hl : ZI ro h lv s.l)
    (e4 : e0 4 = ptr aid) (e13 : e0 13 = ptr sid) (e98 : e0 98 = .int .i64 i) (e99 : e0 99 = .int .i64 0)
    (hQ : ∀ e' n', nx ≤ n' → KpD e' e0 → Q (.exit 8) e' h n') : loopP (law11_AutoOwn_L2 ro) e0 h nx Q := by
  have hsg := autL_states (n := n) (cv := cv) (sv := sv) hc
  have hil := (List.getElem?_eq_some_iff.1 hi).1
  have hsl := hsm.1
  have hsb := (hsm.2 _ (List.mem_of_getElem? hi)).1
  refine loopP_rule (fun j e h' nx' => ∃ (k : Nat), k + j = i ∧ nx ≤ nx' ∧ h' = h ∧ e 4 = ptr aid ∧ e 13 = ptr sid ∧ e 98 = .int .i64 i ∧ e 99 = .int .i64 k ∧ KpD e e0) ?_ (n := i)
    ⟨0, by omega, by omega, rfl, e4, e13, e98, e99, rfl, rfl, rfl, rfl, rfl⟩
  rintro j e h' nx' ⟨k, hj, hnx, rfl, e4, e13, e98, e99, hk⟩ Q' hq hx
  unfold law11_AutoOwn_L2
  rw [e4, e13, e98, e99]
  refine lss_s (fun hkl => ?_) (fun hkl => ?_)
  · have k1 : k < S.length := by omega
    obtain ⟨y, ⟨lw, rv, uv, nv, rfl, y1, y2, y3, y4, y5⟩, z2, z3, z4, z5⟩ := hS.at k1
    have hne : s.l ≠ S[k].l := fun he => by
      have := hd i k s S[k] hi (List.getElem?_eq_getElem k1) he
      omega
    have six := hS.ix .i64 k1
    generalize S[k] = t at y1 y2 y3 y4 y5 hne
    refine condP_t ?_
    (repeat (first | refine bindP_mk (by simp (disch := first | omega | exact Int.natCast_nonneg _ | assumption) only [BB, B2, ↓reduceIte, Nat.reduceLeDiff, Nat.reduceAdd, CC, ga, hsg, six, z3] <;> rfl) ?_ | refine newP_mk ?_ | refine optP_mk ?_ | with_reducible first | refine condP_t ?_ | refine condP_f ?_ | refine ifP_tt' ?_ | refine ifP_ff' ?_ | refine ifP_tf' ?_ | refine ifP_ft' ?_ | refine ifP_u' ?_ | refine optP_mk0 ?_))
    refine local_mk zer_State1 rfl (x := [lw, rv, uv, nv]) rfl rfl (st_ok y1 y2 y3 y4) hf (show nx ≤ nx' + 8 by omega) fun h3 hs3 hf3 g3 _ => ?_
    have gs3 := hs3 _ _ gs
    have hl3 := hl.sub hs3
    have y13 := y1.sub hs3
    have w1 := hl3.len
    have w2 := y13.len
    have c1 : ([lv, a1, a2, a3] : List Value)[0]? = some lv := rfl
    have c2 : ([lw, rv, uv, nv] : List Value)[0]? = some lw := rfl
    (repeat (first | refine bindP_mk (by simp (disch := first | omega | exact Int.natCast_nonneg _ | assumption) only [BB, B2, ↓reduceIte, Nat.reduceLeDiff, Nat.reduceAdd, CC, gs3, c1, w1, g3, c2, w2] <;> rfl) ?_ | refine newP_mk ?_ | refine optP_mk ?_ | with_reducible first | refine condP_t ?_ | refine condP_f ?_ | refine ifP_tt' ?_ | refine ifP_ff' ?_ | refine ifP_tf' ?_ | refine ifP_ft' ?_ | refine ifP_u' ?_ | refine optP_mk0 ?_))
    refine bindP_mk (intB_eql _ _ _) ?_
    (repeat (first | refine bindP_mk (by simp (disch := first | omega | exact Int.natCast_nonneg _ | assumption) only [BB, B2, ↓reduceIte, Nat.reduceLeDiff, Nat.reduceAdd, CC, gs3, c1, w1, g3, c2, w2] <;> rfl) ?_ | refine newP_mk ?_ | refine optP_mk ?_ | with_reducible first | refine condP_t ?_ | refine condP_f ?_ | refine ifP_tt' ?_ | refine ifP_ff' ?_ | refine ifP_tf' ?_ | refine ifP_ft' ?_ | refine ifP_u' ?_ | refine optP_mk0 ?_))
    refine bindP_mk (min_own _ _ _ _) ?_
    refine own_L3_c gs3 g3 hl3 y13 hne hsb ?_ ?_ ?_ ?_ ?_ fun e' n' hn' f16 hz => ?_
    · exact e13
    · rfl
    · rfl
    · rfl
    · rfl
    obtain ⟨x3, x4, x13, x91, x92, x93, x98, x99⟩ := hz
    refine exP_e (beqP_t ?_)
    unfold law11_AutoOwn_j5
    rw [f16]
    refine condP_f ?_
    unfold law11_AutoOwn_j4
    have x4 : e' 4 = ptr aid := x4.trans e4
    have x13 : e' 13 = ptr sid := x13.trans e13
    have x98 : e' 98 = .int .i64 i := x98.trans e98
    have x99 : e' 99 = .int .i64 k := x99.trans e99
    have x99' : (puts e' [(139, Value.bool false)]) 99 = .int .i64 k := x99
    rw [x99']
    (repeat (first | refine bindP_mk (by simp (disch := first | omega | exact Int.natCast_nonneg _ | assumption) only [BB, B2, ↓reduceIte, Nat.reduceLeDiff, Nat.reduceAdd, CC] <;> rfl) ?_ | refine newP_mk ?_ | refine optP_mk ?_ | with_reducible first | refine condP_t ?_ | refine condP_f ?_ | refine ifP_tt' ?_ | refine ifP_ff' ?_ | refine ifP_tf' ?_ | refine ifP_ft' ?_ | refine ifP_u' ?_ | refine optP_mk0 ?_))
    obtain ⟨k3, k4, k91, k92, k93⟩ := hk
    exact hq (j - 1) _ h' _ _ (by omega) ⟨k + 1, by omega, by omega, rfl, x4, x13, x98, rfl, x3.trans k3, x4.trans (e4.symm.trans k4), x91.trans k91, x92.trans k92, x93.trans k93⟩ hs3
  · exact condP_f (hx _ _ _ _ (fun e => by cases e) (hQ _ _ (by omega) hk))
set_option maxRecDepth 8000 in
set_option maxHeartbeats 1000000 in
theorem own_L1_c {e0 : Env} (hc : c.length = 256) (hsm : Small S) (hd : ∀ (i j : Nat) s t, S[i]? = some s → S[j]? = some t → s.l = t.l → i = j) {h : T Obj} {nx : Nat} {Q : KE} (hf : Fr h nx) (ga : h.get aid = some (.cells (autL c n cv sv).toArray y_api_Auto)) (hS : SlR ro h sv 4 (RState ro h) S)
    (e4 : e0 4 = ptr aid) (e91 : e0 91 = sv) (e92 : e0 92 = .int .i64 S.length) (e93 : e0 93 = .int .i64 0)
    (hQ : ∀ e' n', nx ≤ n' → e' 3 = e0 3 → Q (.exit 6) e' h n') : loopP (law11_AutoOwn_L1 ro) e0 h nx Q := by
  have hsl := hsm.1
  refine loopP_rule (fun j e h' nx' => ∃ (k : Nat), k + j = S.length ∧ nx ≤ nx' ∧ h' = h ∧ e 4 = ptr aid ∧ e 91 = sv ∧ e 92 = .int .i64 S.length ∧ e 93 = .int .i64 k ∧ e 3 = e0 3) ?_ (n := S.length)
    ⟨0, by omega, by omega, rfl, e4, e91, e92, e93, rfl⟩
  rintro j e h' nx' ⟨k, hj, hnx, rfl, e4, e91, e92, e93, e3⟩ Q' hq hx
  unfold law11_AutoOwn_L1
  rw [e91, e92, e93]
  refine lss_s (fun hkl => ?_) (fun hkl => ?_)
  · have k1 : k < S.length := by omega
    obtain ⟨y, ⟨lv, rv, uv, nv, rfl, y1, y2, y3, y4, y5⟩, z2, z3, z4, z5⟩ := hS.at k1
    have six := hS.ix .i64 k1
    have hi := List.getElem?_eq_getElem k1
    generalize S[k] = s at y1 y2 y3 y4 y5 hi
    refine condP_t ?_
    (repeat (first | refine bindP_mk (by simp (disch := first | omega | exact Int.natCast_nonneg _ | assumption) only [BB, B2, ↓reduceIte, Nat.reduceLeDiff, Nat.reduceAdd, CC, six, z3] <;> rfl) ?_ | refine newP_mk ?_ | refine optP_mk ?_ | with_reducible first | refine condP_t ?_ | refine condP_f ?_ | refine ifP_tt' ?_ | refine ifP_ff' ?_ | refine ifP_tf' ?_ | refine ifP_ft' ?_ | refine ifP_u' ?_ | refine optP_mk0 ?_))
    refine local_mk zer_State1 rfl (x := [lv, rv, uv, nv]) rfl rfl (st_ok y1 y2 y3 y4) hf (show nx ≤ nx' + 4 by omega) fun h3 hs3 hf3 g3 _ => ?_
    refine own_L2_c (s := s) hc hsm hd hi (hf3.mono (show nx' + 4 + 1 ≤ nx' + 9 by omega)) (hs3 _ _ ga) (hS.sub hs3 (RState.sub hs3)) g3 (y1.sub hs3) ?_ ?_ ?_ ?_ fun e' n' hn' hz => ?_
    · exact e4
    · rfl
    · rfl
    · rfl
    obtain ⟨x3, x4, x91, x92, x93⟩ := hz
    refine exP_e (beqP_t ?_)
    unfold law11_AutoOwn_j3
    have x4 : e' 4 = ptr aid := x4.trans e4
    have x91 : e' 91 = sv := x91.trans e91
    have x92 : e' 92 = .int .i64 S.length := x92.trans e92
    have x93 : e' 93 = .int .i64 k := x93.trans e93
    rw [x93]
    (repeat (first | refine bindP_mk (by simp (disch := first | omega | exact Int.natCast_nonneg _ | assumption) only [BB, B2, ↓reduceIte, Nat.reduceLeDiff, Nat.reduceAdd, CC] <;> rfl) ?_ | refine newP_mk ?_ | refine optP_mk ?_ | with_reducible first | refine condP_t ?_ | refine condP_f ?_ | refine ifP_tt' ?_ | refine ifP_ff' ?_ | refine ifP_tf' ?_ | refine ifP_ft' ?_ | refine ifP_u' ?_ | refine optP_mk0 ?_))
    exact hq (j - 1) _ h' _ _ (by omega) ⟨k + 1, by omega, by omega, rfl, x4, x91, x92, rfl, x3.trans e3⟩ hs3
  · exact condP_f (hx _ _ _ _ (fun e => by cases e) (hQ _ _ (by omega) e3))
end
end
end V
end Go.Proofs.Ytmmdcdjkmakgpaa
set_option linter.unusedVariables false
set_option linter.unusedSimpArgs false
namespace Go.Proofs.Ytmmdcdjkmakgpaa
namespace V
attribute [local irreducible] callPre callP bindP
end V
end Go.Proofs.Ytmmdcdjkmakgpaa
set_option linter.unusedVariables false
set_option linter.unusedSimpArgs false
namespace Go.Proofs.Ytmmdcdjkmakgpaa
namespace V
open PA
attribute [local irreducible] bindP ifP condP newP optP exP beqP
theorem SlR.slice {D : Type} {ro : Ro} {h : T Obj} {v : Value} {z : Nat} {R : List Value → D → Prop} {l : List D} (hv : SlR ro h v z R l) (hl : 0 < l.length) : ∃ a n c, v = .slice (some a) n c := by
  obtain ⟨cs, h1, h2, h3⟩ := hv
  rcases h1 with ⟨rfl, rfl⟩ | ⟨a, cap, rfl, _⟩
  · simp at h2; omega
  · exact ⟨_, _, _, rfl⟩
section
variable {ro : Ro} {x : GlD} {av bv w : Value}
end
end V
end Go.Proofs.Ytmmdcdjkmakgpaa
set_option linter.unusedVariables false
set_option linter.unusedSimpArgs false
namespace Go.Proofs.Ytmmdcdjkmakgpaa
namespace V
open PA
attribute [local irreducible] bindP ifP condP newP optP exP beqP
def fewV (v : Value) (g : GlD) : Value := if 40 < g.p.length then .agg #[nilS, nilS] else v
theorem fewV_R {ro : Ro} {h : T Obj} {v : Value} {g : GlD} (hg : RG ro h v g) : RG ro h (fewV v g) (fewD g) := by
  unfold fewV fewD
  split
  · exact ⟨nilS, nilS, rfl, Sl.nil, SlR.nil⟩
  · exact hg
set_option maxRecDepth 4000 in
theorem law11_few_c2 {ro : Ro} {v : Value} {g : GlD} {h : T Obj} {nx : Nat} {K : KV} (hf : Fr h nx) (hg : RG ro h v g) (hK : ∀ nx', nx ≤ nx' → K (fewV v g) h nx') : callP Try.prog ro i_law11_few [v] h nx K := by
  obtain ⟨a, b, rfl, ha, hb⟩ := hg
  apply law11_few_of
  unfold law11_few
  refine param_mk hf (Nat.le_refl _) fun h1 hs1 hf1 g1 _ => ?_
  have g1 : h1.get nx = some (.cells [a, b].toArray y_api_Glush) := g1
  refine bindP_mk zer_Gl (obj_mk hf1 (Nat.le_refl _) fun h2 hs2 hf2 g2 _ => ?_)
  have g2 : h2.get (nx + 1) = some (.cells [nilS, nilS].toArray y_api_Glush) := g2
  have g1 := hs2 _ _ g1
  have hs := hs1.trans hs2
  have hbl := (hb.sub hs (RPos.sub hs)).len
  have e1 : ([a, b] : List Value)[1]? = some b := rfl
  have hak := ha.ok
  have hbk : cellOk b = true := by obtain ⟨cs, h1, _⟩ := hb; exact h1.ok
  (repeat (first | refine bindP_mk (by simp (disch := first | omega | exact Int.natCast_nonneg _ | assumption) only [BB, B2, ↓reduceIte, Nat.reduceLeDiff, Nat.reduceAdd, CC, g1, e1, hbl] <;> rfl) ?_ | refine newP_mk ?_ | refine optP_mk ?_ | with_reducible first | refine condP_t ?_ | refine condP_f ?_ | refine ifP_tt' ?_ | refine ifP_ff' ?_ | refine ifP_tf' ?_ | refine ifP_ft' ?_ | refine ifP_u' ?_ | refine optP_mk0 ?_))
  refine gtr_s (fun u => ?_) (fun u => ?_)
  · refine condP_t (bindP_mk build_Gl0 ?_)
    refine bindP_mk (storeA_own (l := [nilS, nilS]) (vs := [nilS, nilS]) g2 rfl rfl rfl rfl) ?_
    refine bindP_mk (loadA_all (l := [nilS, nilS]) (by rw [T.get_upd_same]) rfl) ?_
    refine ⟨h, hs.new hf (by omega), ?_⟩
    have := hK (nx + 8) (by omega)
    unfold fewV at this
    rw [if_pos (by omega)] at this
    exact this
  · refine condP_f (bindP_mk (loadA_all (l := [a, b]) g1 rfl) ?_)
    refine bindP_mk (storeA_own (l := [nilS, nilS]) (vs := [a, b]) g2 rfl rfl rfl (by simp [hak, hbk])) ?_
    refine bindP_mk (loadA_all (l := [a, b]) (by rw [T.get_upd_same]) rfl) ?_
    refine ⟨h, hs.new hf (by omega), ?_⟩
    have := hK (nx + 8) (by omega)
    unfold fewV at this
    rw [if_neg (by omega)] at this
    exact this
section
variable {ro : Ro}
end
end V
end Go.Proofs.Ytmmdcdjkmakgpaa
set_option linter.unusedVariables false
set_option linter.unusedSimpArgs false
namespace Go.Proofs.Ytmmdcdjkmakgpaa
namespace V
open PA
attribute [local irreducible] bindP ifP condP newP optP exP beqP
set_option maxRecDepth 8000 in
set_option maxHeartbeats 2000000 in
theorem ref11_Right_c {ro : Ro} {x : List Value} {d : AutoD} {h : T Obj} {nx : Nat} {K : KV} (hf : Fr h nx) (hd : RAuto ro h x d) (hK : ∀ nx', nx ≤ nx' → K (.bool (autoOk d)) h nx') : callP Try.prog ro i_ref11_Right [.agg x.toArray] h nx K := by
  obtain ⟨cv, sv, rfl, hc, hcl, hcv, hS, hb1, hb2⟩ := hd
  obtain ⟨c, n, C, S⟩ := d
  simp only at hc hcl hcv hS hb1 hb2
  dsimp only
  apply ref11_Right_of
  unfold ref11_Right
  refine param_mk hf (Nat.le_refl _) fun p1 hs hf1 g1 _ => ?_
  have g1 : p1.get nx = some (.cells (autL c n cv sv).toArray y_api_Auto) := g1
  have hS := hS.sub hs (RState.sub hs)
  have hcv := hcv.sub hs fun _ _ h => h
  have hsg := autL_states (n := n) (cv := cv) (sv := sv) hc
  have hcg := autL_counts (n := n) (cv := cv) (sv := sv) hc
  have lc := hcv.len
  have ls := hS.len
  have hno : ∀ n', autoOk ⟨c, n, C, S⟩ = false → nx ≤ n' → ∃ h', Sub h' p1 ∧ K (.bool false) h' n' := fun n' e hn => ⟨h, hs, kb hK e hn⟩
  unfold autoOk at hno hK
  dsimp only at hno hK
  (repeat (first | refine bindP_mk (by simp (disch := first | omega | exact Int.natCast_nonneg _ | assumption) only [BB, B2, ↓reduceIte, Nat.reduceLeDiff, Nat.reduceAdd, CC] <;> rfl) ?_ | refine newP_mk ?_ | refine optP_mk ?_ | with_reducible first | refine condP_t ?_ | refine condP_f ?_ | refine ifP_tt' ?_ | refine ifP_ff' ?_ | refine ifP_tf' ?_ | refine ifP_ft' ?_ | refine ifP_u' ?_ | refine optP_mk0 ?_))
  refine bindP_mk (loadS g1 hc) ?_
  refine ref02_Right_c hc hcl (hf1.mono (by omega)) fun n1 hn1 => ?_
  cases hr : rightB c n with
  | false =>
    (repeat (first | refine bindP_mk (by simp (disch := first | omega | exact Int.natCast_nonneg _ | assumption) only [BB, B2, ↓reduceIte, Nat.reduceLeDiff, Nat.reduceAdd, CC] <;> rfl) ?_ | refine newP_mk ?_ | refine optP_mk ?_ | with_reducible first | refine condP_t ?_ | refine condP_f ?_ | refine ifP_tt' ?_ | refine ifP_ff' ?_ | refine ifP_tf' ?_ | refine ifP_ft' ?_ | refine ifP_u' ?_ | refine optP_mk0 ?_))
    exact hno _ (by rw [hr]; rfl) (by omega)
  | true =>
    have hn := right_many hr
    rw [hr, Bool.true_and] at hno hK
    (repeat (first | refine bindP_mk (by simp (disch := first | omega | exact Int.natCast_nonneg _ | assumption) only [BB, B2, ↓reduceIte, Nat.reduceLeDiff, Nat.reduceAdd, CC, g1, hcg, lc] <;> rfl) ?_ | refine newP_mk ?_ | refine optP_mk ?_ | with_reducible first | refine condP_t ?_ | refine condP_f ?_ | refine ifP_tt' ?_ | refine ifP_ff' ?_ | refine ifP_tf' ?_ | refine ifP_ft' ?_ | refine ifP_u' ?_ | refine optP_mk0 ?_))
    refine gtr_s (fun u1 => ?_) (fun u1 => ?_)
    · (repeat (first | refine bindP_mk (by simp (disch := first | omega | exact Int.natCast_nonneg _ | assumption) only [BB, B2, ↓reduceIte, Nat.reduceLeDiff, Nat.reduceAdd, CC] <;> rfl) ?_ | refine newP_mk ?_ | refine optP_mk ?_ | with_reducible first | refine condP_t ?_ | refine condP_f ?_ | refine ifP_tt' ?_ | refine ifP_ff' ?_ | refine ifP_tf' ?_ | refine ifP_ft' ?_ | refine ifP_u' ?_ | refine optP_mk0 ?_))
      exact hno _ (by rw [decide_eq_false (by omega)]; rfl) (by omega)
    · have u1 : C.length ≤ 512 := by omega
      rw [decide_eq_true u1, Bool.true_and] at hno hK
      (repeat (first | refine bindP_mk (by simp (disch := first | omega | exact Int.natCast_nonneg _ | assumption) only [BB, B2, ↓reduceIte, Nat.reduceLeDiff, Nat.reduceAdd, CC, g1, hsg, ls] <;> rfl) ?_ | refine newP_mk ?_ | refine optP_mk ?_ | with_reducible first | refine condP_t ?_ | refine condP_f ?_ | refine ifP_tt' ?_ | refine ifP_ff' ?_ | refine ifP_tf' ?_ | refine ifP_ft' ?_ | refine ifP_u' ?_ | refine optP_mk0 ?_))
      refine lss_s (fun u2 => ?_) (fun u2 => ?_)
      · (repeat (first | refine bindP_mk (by simp (disch := first | omega | exact Int.natCast_nonneg _ | assumption) only [BB, B2, ↓reduceIte, Nat.reduceLeDiff, Nat.reduceAdd, CC] <;> rfl) ?_ | refine newP_mk ?_ | refine optP_mk ?_ | with_reducible first | refine condP_t ?_ | refine condP_f ?_ | refine ifP_tt' ?_ | refine ifP_ff' ?_ | refine ifP_tf' ?_ | refine ifP_ft' ?_ | refine ifP_u' ?_ | refine optP_mk0 ?_))
        exact hno _ (by rw [decide_eq_false (by omega)]; rfl) (by omega)
      · have u2 : 1 ≤ S.length := by omega
        rw [decide_eq_true u2, Bool.true_and] at hno hK
        (repeat (first | refine bindP_mk (by simp (disch := first | omega | exact Int.natCast_nonneg _ | assumption) only [BB, B2, ↓reduceIte, Nat.reduceLeDiff, Nat.reduceAdd, CC, g1, hsg, ls] <;> rfl) ?_ | refine newP_mk ?_ | refine optP_mk ?_ | with_reducible first | refine condP_t ?_ | refine condP_f ?_ | refine ifP_tt' ?_ | refine ifP_ff' ?_ | refine ifP_tf' ?_ | refine ifP_ft' ?_ | refine ifP_u' ?_ | refine optP_mk0 ?_))
        refine gtr_s (fun u3 => ?_) (fun u3 => ?_)
        · (repeat (first | refine bindP_mk (by simp (disch := first | omega | exact Int.natCast_nonneg _ | assumption) only [BB, B2, ↓reduceIte, Nat.reduceLeDiff, Nat.reduceAdd, CC] <;> rfl) ?_ | refine newP_mk ?_ | refine optP_mk ?_ | with_reducible first | refine condP_t ?_ | refine condP_f ?_ | refine ifP_tt' ?_ | refine ifP_ff' ?_ | refine ifP_tf' ?_ | refine ifP_ft' ?_ | refine ifP_u' ?_ | refine optP_mk0 ?_))
          exact hno _ (by rw [decide_eq_false (by omega)]; rfl) (by omega)
        · have u3 : S.length ≤ 256 := by omega
          rw [decide_eq_true u3, Bool.true_and] at hno hK
          have h0 : 0 < S.length := by omega
          have six : ixSl 4 sv (.int .i64 0) = some (elPtr 4 sv 0) := hS.ix .i64 (i := 0) h0
          obtain ⟨x, ⟨lv, rv, uv, nv, rfl, y1, y2, y3, y4, y5⟩, hx2, hx3, hx4, hx5⟩ := hS.at h0
          have q0 := hx5 0 lv rfl
          have q1 := hx5 1 rv rfl
          have ll := y1.len
          have lr := y2.len
          have hgd : S.getD 0 noS = S[0] := by rw [List.getD_eq_getElem?_getD, List.getElem?_eq_getElem h0]; rfl
          have hfst : firstOk S = (decide (S[0].l.length = 0) && decide (S[0].r.length = 0)) := by unfold firstOk; rw [hgd]
          rw [hfst] at hno hK
          (repeat (first | refine bindP_mk (by simp (disch := first | omega | exact Int.natCast_nonneg _ | assumption) only [BB, B2, ↓reduceIte, Nat.reduceLeDiff, Nat.reduceAdd, CC, g1, hsg, six, hx4, q0, ll] <;> rfl) ?_ | refine newP_mk ?_ | refine optP_mk ?_ | with_reducible first | refine condP_t ?_ | refine condP_f ?_ | refine ifP_tt' ?_ | refine ifP_ff' ?_ | refine ifP_tf' ?_ | refine ifP_ft' ?_ | refine ifP_u' ?_ | refine optP_mk0 ?_))
          refine gtr_s (fun u4 => ?_) (fun u4 => ?_)
          · (repeat (first | refine bindP_mk (by simp (disch := first | omega | exact Int.natCast_nonneg _ | assumption) only [BB, B2, ↓reduceIte, Nat.reduceLeDiff, Nat.reduceAdd, CC] <;> rfl) ?_ | refine newP_mk ?_ | refine optP_mk ?_ | with_reducible first | refine condP_t ?_ | refine condP_f ?_ | refine ifP_tt' ?_ | refine ifP_ff' ?_ | refine ifP_tf' ?_ | refine ifP_ft' ?_ | refine ifP_u' ?_ | refine optP_mk0 ?_))
            exact hno _ (by rw [decide_eq_false (by omega)]; rfl) (by omega)
          · rw [decide_eq_true (show S[0].l.length = 0 by omega), Bool.true_and] at hno hK
            (repeat (first | refine bindP_mk (by simp (disch := first | omega | exact Int.natCast_nonneg _ | assumption) only [BB, B2, ↓reduceIte, Nat.reduceLeDiff, Nat.reduceAdd, CC, g1, hsg, six, hx4, q1, lr] <;> rfl) ?_ | refine newP_mk ?_ | refine optP_mk ?_ | with_reducible first | refine condP_t ?_ | refine condP_f ?_ | refine ifP_tt' ?_ | refine ifP_ff' ?_ | refine ifP_tf' ?_ | refine ifP_ft' ?_ | refine ifP_u' ?_ | refine optP_mk0 ?_))
            refine gtr_s (fun u5 => ?_) (fun u5 => ?_)
            · (repeat (first | refine bindP_mk (by simp (disch := first | omega | exact Int.natCast_nonneg _ | assumption) only [BB, B2, ↓reduceIte, Nat.reduceLeDiff, Nat.reduceAdd, CC] <;> rfl) ?_ | refine newP_mk ?_ | refine optP_mk ?_ | with_reducible first | refine condP_t ?_ | refine condP_f ?_ | refine ifP_tt' ?_ | refine ifP_ff' ?_ | refine ifP_tf' ?_ | refine ifP_ft' ?_ | refine ifP_u' ?_ | refine optP_mk0 ?_))
              exact hno _ (by rw [decide_eq_false (by omega)]; rfl) (by omega)
            · rw [decide_eq_true (show S[0].r.length = 0 by omega), Bool.true_and] at hno hK
              (repeat (first | refine bindP_mk (by simp (disch := first | omega | exact Int.natCast_nonneg _ | assumption) only [BB, B2, ↓reduceIte, Nat.reduceLeDiff, Nat.reduceAdd, CC] <;> rfl) ?_ | refine newP_mk ?_ | refine optP_mk ?_ | with_reducible first | refine condP_t ?_ | refine condP_f ?_ | refine ifP_tt' ?_ | refine ifP_ff' ?_ | refine ifP_tf' ?_ | refine ifP_ft' ?_ | refine ifP_u' ?_ | refine optP_mk0 ?_))
              generalize hB : C.all countOk = B at hno hK
              refine loopP_rule (fun j e h' nx' => ∃ (k : Nat), k + j = C.length ∧ nx + 1 ≤ nx' ∧ h' = p1 ∧ e 1 = ptr nx ∧ e 3 = .int .i64 k ∧ (C.drop k).all countOk = B) ?_ (n := C.length) ⟨0, by omega, by omega, rfl, rfl, rfl, hB⟩
              rintro j e h' nx' ⟨k, hj, hnx, rfl, e1, e3, hr2⟩ Q' hq hx
              unfold ref11_Right_L2
              rw [e1, e3]
              (repeat (first | refine bindP_mk (by simp (disch := first | omega | exact Int.natCast_nonneg _ | assumption) only [BB, B2, ↓reduceIte, Nat.reduceLeDiff, Nat.reduceAdd, CC, g1, hcg, lc] <;> rfl) ?_ | refine newP_mk ?_ | refine optP_mk ?_ | with_reducible first | refine condP_t ?_ | refine condP_f ?_ | refine ifP_tt' ?_ | refine ifP_ff' ?_ | refine ifP_tf' ?_ | refine ifP_ft' ?_ | refine ifP_u' ?_ | refine optP_mk0 ?_))
              refine lss_s (fun hk => ?_) (fun hk => ?_)
              · have hk : k < C.length := by omega
                rw [drop_cons hk, List.all_cons] at hr2
                have cix := hcv.ix .i64 hk
                obtain ⟨x, hx1, hx2, hx3, hx4, hx5⟩ := hcv.at hk
                generalize C[k] = p at hr2 hx1
                obtain rfl : x = [.int .i64 p.1, .int .i64 p.2] := hx1
                (repeat (first | refine bindP_mk (by simp (disch := first | omega | exact Int.natCast_nonneg _ | assumption) only [BB, B2, ↓reduceIte, Nat.reduceLeDiff, Nat.reduceAdd, CC, g1, hcg, cix, hx3] <;> rfl) ?_ | refine newP_mk ?_ | refine optP_mk ?_ | with_reducible first | refine condP_t ?_ | refine condP_f ?_ | refine ifP_tt' ?_ | refine ifP_ff' ?_ | refine ifP_tf' ?_ | refine ifP_ft' ?_ | refine ifP_u' ?_ | refine optP_mk0 ?_))
                refine local_mk (x := [.int .i64 p.1, .int .i64 p.2]) zer_a2 rfl rfl rfl rfl hf1 (by omega) fun h6 hs6 hf6 g6 _ => ?_
                have hfin : ∀ (e' : Env) n', e' 2 = .bool false → countOk p = false → nx ≤ n' → Q' .ret e' h6 n' := fun e' n' h6 hc hn => by
                  refine hx _ _ _ _ (fun e => by cases e) (exP_r ?_)
                  rw [h6]
                  rw [hc, Bool.false_and] at hr2
                  subst hr2
                  obtain ⟨h9, z1, z2⟩ := hno n' (by simp) hn
                  exact ⟨h9, z1.trans hs6, z2⟩
                have hok : ∀ (e' : Env) n', e' 1 = ptr nx → e' 3 = .int .i64 ((k : Int) + 1) → countOk p = true → nx + 1 ≤ n' → Q' .normal e' h6 n' := fun e' n' f1 f3 hc hn =>
                  hq (j - 1) _ h' _ _ (by omega) ⟨k + 1, by omega, hn, rfl, f1, f3, by rw [← hr2, hc]; rfl⟩ hs6
                unfold countOk at hfin hok
                (repeat (first | refine bindP_mk (by simp (disch := first | omega | exact Int.natCast_nonneg _ | assumption) only [BB, B2, ↓reduceIte, Nat.reduceLeDiff, Nat.reduceAdd, CC, g6] <;> rfl) ?_ | refine newP_mk ?_ | refine optP_mk ?_ | with_reducible first | refine condP_t ?_ | refine condP_f ?_ | refine ifP_tt' ?_ | refine ifP_ff' ?_ | refine ifP_tf' ?_ | refine ifP_ft' ?_ | refine ifP_u' ?_ | refine optP_mk0 ?_))
                refine lss_s (fun v1 => ?_) (fun v1 => ?_)
                · (repeat (first | refine bindP_mk (by simp (disch := first | omega | exact Int.natCast_nonneg _ | assumption) only [BB, B2, ↓reduceIte, Nat.reduceLeDiff, Nat.reduceAdd, CC] <;> rfl) ?_ | refine newP_mk ?_ | refine optP_mk ?_ | with_reducible first | refine condP_t ?_ | refine condP_f ?_ | refine ifP_tt' ?_ | refine ifP_ff' ?_ | refine ifP_tf' ?_ | refine ifP_ft' ?_ | refine ifP_u' ?_ | refine optP_mk0 ?_))
                  exact hfin _ _ rfl (by rw [decide_eq_false (by omega)]; rfl) (by omega)
                · rw [decide_eq_true v1, Bool.true_and] at hfin hok
                  (repeat (first | refine bindP_mk (by simp (disch := first | omega | exact Int.natCast_nonneg _ | assumption) only [BB, B2, ↓reduceIte, Nat.reduceLeDiff, Nat.reduceAdd, CC, g6] <;> rfl) ?_ | refine newP_mk ?_ | refine optP_mk ?_ | with_reducible first | refine condP_t ?_ | refine condP_f ?_ | refine ifP_tt' ?_ | refine ifP_ff' ?_ | refine ifP_tf' ?_ | refine ifP_ft' ?_ | refine ifP_u' ?_ | refine optP_mk0 ?_))
                  refine gtr_s (fun v2 => ?_) (fun v2 => ?_)
                  · (repeat (first | refine bindP_mk (by simp (disch := first | omega | exact Int.natCast_nonneg _ | assumption) only [BB, B2, ↓reduceIte, Nat.reduceLeDiff, Nat.reduceAdd, CC] <;> rfl) ?_ | refine newP_mk ?_ | refine optP_mk ?_ | with_reducible first | refine condP_t ?_ | refine condP_f ?_ | refine ifP_tt' ?_ | refine ifP_ff' ?_ | refine ifP_tf' ?_ | refine ifP_ft' ?_ | refine ifP_u' ?_ | refine optP_mk0 ?_))
                    exact hfin _ _ rfl (by rw [decide_eq_false (by omega)]; rfl) (by omega)
                  · rw [decide_eq_true v2, Bool.true_and] at hfin hok
                    (repeat (first | refine bindP_mk (by simp (disch := first | omega | exact Int.natCast_nonneg _ | assumption) only [BB, B2, ↓reduceIte, Nat.reduceLeDiff, Nat.reduceAdd, CC, g6] <;> rfl) ?_ | refine newP_mk ?_ | refine optP_mk ?_ | with_reducible first | refine condP_t ?_ | refine condP_f ?_ | refine ifP_tt' ?_ | refine ifP_ff' ?_ | refine ifP_tf' ?_ | refine ifP_ft' ?_ | refine ifP_u' ?_ | refine optP_mk0 ?_))
                    refine lss_s (fun v3 => ?_) (fun v3 => ?_)
                    · (repeat (first | refine bindP_mk (by simp (disch := first | omega | exact Int.natCast_nonneg _ | assumption) only [BB, B2, ↓reduceIte, Nat.reduceLeDiff, Nat.reduceAdd, CC] <;> rfl) ?_ | refine newP_mk ?_ | refine optP_mk ?_ | with_reducible first | refine condP_t ?_ | refine condP_f ?_ | refine ifP_tt' ?_ | refine ifP_ff' ?_ | refine ifP_tf' ?_ | refine ifP_ft' ?_ | refine ifP_u' ?_ | refine optP_mk0 ?_))
                      exact hfin _ _ rfl (by rw [decide_eq_false (by omega)]; rfl) (by omega)
                    · rw [decide_eq_true v3, Bool.true_and] at hfin hok
                      (repeat (first | refine bindP_mk (by simp (disch := first | omega | exact Int.natCast_nonneg _ | assumption) only [BB, B2, ↓reduceIte, Nat.reduceLeDiff, Nat.reduceAdd, CC, g6] <;> rfl) ?_ | refine newP_mk ?_ | refine optP_mk ?_ | with_reducible first | refine condP_t ?_ | refine condP_f ?_ | refine ifP_tt' ?_ | refine ifP_ff' ?_ | refine ifP_tf' ?_ | refine ifP_ft' ?_ | refine ifP_u' ?_ | refine optP_mk0 ?_))
                      refine gtr_s (fun v4 => ?_) (fun v4 => ?_)
                      · (repeat (first | refine bindP_mk (by simp (disch := first | omega | exact Int.natCast_nonneg _ | assumption) only [BB, B2, ↓reduceIte, Nat.reduceLeDiff, Nat.reduceAdd, CC] <;> rfl) ?_ | refine newP_mk ?_ | refine optP_mk ?_ | with_reducible first | refine condP_t ?_ | refine condP_f ?_ | refine ifP_tt' ?_ | refine ifP_ff' ?_ | refine ifP_tf' ?_ | refine ifP_ft' ?_ | refine ifP_u' ?_ | refine optP_mk0 ?_))
                        exact hfin _ _ rfl (by rw [decide_eq_false (by omega)]) (by omega)
                      · rw [decide_eq_true v4] at hok
                        (repeat (first | refine bindP_mk (by simp (disch := first | omega | exact Int.natCast_nonneg _ | assumption) only [BB, B2, ↓reduceIte, Nat.reduceLeDiff, Nat.reduceAdd, CC] <;> rfl) ?_ | refine newP_mk ?_ | refine optP_mk ?_ | with_reducible first | refine condP_t ?_ | refine condP_f ?_ | refine ifP_tt' ?_ | refine ifP_ff' ?_ | refine ifP_tf' ?_ | refine ifP_ft' ?_ | refine ifP_u' ?_ | refine optP_mk0 ?_))
                        exact hok _ _ e1 rfl rfl (by omega)
              · rw [drop_all (by omega)] at hr2
                have hr2 : true = B := hr2
                subst hr2
                rw [Bool.true_and] at hno hK
                (repeat (first | refine bindP_mk (by simp (disch := first | omega | exact Int.natCast_nonneg _ | assumption) only [BB, B2, ↓reduceIte, Nat.reduceLeDiff, Nat.reduceAdd, CC] <;> rfl) ?_ | refine newP_mk ?_ | refine optP_mk ?_ | with_reducible first | refine condP_t ?_ | refine condP_f ?_ | refine ifP_tt' ?_ | refine ifP_ff' ?_ | refine ifP_tf' ?_ | refine ifP_ft' ?_ | refine ifP_u' ?_ | refine optP_mk0 ?_))
                refine hx _ _ _ _ (fun e => by cases e) (exP_e (beqP_t ?_))
                have LA := loadA_all (ro := ro) (z := 0) (n := 259) (l := autL c n cv sv) g1 (autL_len hc)
                have hend : ∀ (e' : Env) n', e' 1 = ptr nx → nx + 1 ≤ n' → ref11_Right_j1 ro K e' h' n' := by
                  intro e' n' z1 hn'
                  unfold ref11_Right_j1
                  generalize hA : S.all (stateOk S n C.length) = A at hno hK
                  refine loopP_rule (fun j e h'' nx' => ∃ (k : Nat), k + j = S.length ∧ nx + 1 ≤ nx' ∧ h'' = h' ∧ e 1 = ptr nx ∧ e 5 = .int .i64 k ∧ (S.drop k).all (stateOk S n C.length) = A) ?_ (n := S.length) ⟨0, by omega, by omega, rfl, z1, rfl, hA⟩
                  rintro j e h'' nx' ⟨k, hj, hnx, rfl, e1, e5, hr2⟩ Q2 hq hx
                  unfold ref11_Right_L1
                  rw [e1, e5]
                  (repeat (first | refine bindP_mk (by simp (disch := first | omega | exact Int.natCast_nonneg _ | assumption) only [BB, B2, ↓reduceIte, Nat.reduceLeDiff, Nat.reduceAdd, CC, g1, hsg, ls] <;> rfl) ?_ | refine newP_mk ?_ | refine optP_mk ?_ | with_reducible first | refine condP_t ?_ | refine condP_f ?_ | refine ifP_tt' ?_ | refine ifP_ff' ?_ | refine ifP_tf' ?_ | refine ifP_ft' ?_ | refine ifP_u' ?_ | refine optP_mk0 ?_))
                  refine lss_s (fun hk => ?_) (fun hk => ?_)
                  · have hk : k < S.length := by omega
                    rw [drop_cons hk, List.all_cons] at hr2
                    have kix := hS.ix .i64 hk
                    obtain ⟨x, ⟨lv, rv, uv, nv, rfl, w1, w2, w3, w4, w5⟩, hx2, hx3, hx4, hx5⟩ := hS.at hk
                    generalize S[k] = s at hr2 w1 w2 w3 w4 w5
                    (repeat (first | refine bindP_mk (by simp (disch := first | omega | exact Int.natCast_nonneg _ | assumption) only [BB, B2, ↓reduceIte, Nat.reduceLeDiff, Nat.reduceAdd, CC, LA, g1, hsg, kix, hx3] <;> rfl) ?_ | refine newP_mk ?_ | refine optP_mk ?_ | with_reducible first | refine condP_t ?_ | refine condP_f ?_ | refine ifP_tt' ?_ | refine ifP_ff' ?_ | refine ifP_tf' ?_ | refine ifP_ft' ?_ | refine ifP_u' ?_ | refine optP_mk0 ?_))
                    refine ref11_state_c hc hn u3 u1 w5 (hf1.mono (by omega)) hcv hS w1 w2 w3 w4 fun n4 hn4 => ?_
                    cases hm : stateOk S n C.length s with
                    | true =>
                      rw [hm, Bool.true_and] at hr2
                      have hok2 : ∀ (e' : Env) n', e' 1 = ptr nx → e' 5 = .int .i64 ((k : Int) + 1) → nx + 1 ≤ n' → Q2 .normal e' h'' n' := fun e' n' z1 z5 hn =>
                        hq (j - 1) _ _ _ _ (by omega) ⟨k + 1, by omega, hn, rfl, z1, z5, hr2⟩ (Sub.refl _)
                      (repeat (first | refine bindP_mk (by simp (disch := first | omega | exact Int.natCast_nonneg _ | assumption) only [BB, B2, ↓reduceIte, Nat.reduceLeDiff, Nat.reduceAdd, CC] <;> rfl) ?_ | refine newP_mk ?_ | refine optP_mk ?_ | with_reducible first | refine condP_t ?_ | refine condP_f ?_ | refine ifP_tt' ?_ | refine ifP_ff' ?_ | refine ifP_tf' ?_ | refine ifP_ft' ?_ | refine ifP_u' ?_ | refine optP_mk0 ?_))
                      exact hok2 _ _ e1 rfl (by omega)
                    | false =>
                      rw [hm, Bool.false_and] at hr2
                      subst hr2
                      (repeat (first | refine bindP_mk (by simp (disch := first | omega | exact Int.natCast_nonneg _ | assumption) only [BB, B2, ↓reduceIte, Nat.reduceLeDiff, Nat.reduceAdd, CC] <;> rfl) ?_ | refine newP_mk ?_ | refine optP_mk ?_ | with_reducible first | refine condP_t ?_ | refine condP_f ?_ | refine ifP_tt' ?_ | refine ifP_ff' ?_ | refine ifP_tf' ?_ | refine ifP_ft' ?_ | refine ifP_u' ?_ | refine optP_mk0 ?_))
                      refine hx _ _ _ _ (fun e => by cases e) (exP_r ?_)
                      exact hno _ rfl (by omega)
                  · rw [drop_all (by omega)] at hr2
                    have hr2 : true = A := hr2
                    subst hr2
                    (repeat (first | refine bindP_mk (by simp (disch := first | omega | exact Int.natCast_nonneg _ | assumption) only [BB, B2, ↓reduceIte, Nat.reduceLeDiff, Nat.reduceAdd, CC] <;> rfl) ?_ | refine newP_mk ?_ | refine optP_mk ?_ | with_reducible first | refine condP_t ?_ | refine condP_f ?_ | refine ifP_tt' ?_ | refine ifP_ff' ?_ | refine ifP_tf' ?_ | refine ifP_ft' ?_ | refine ifP_u' ?_ | refine optP_mk0 ?_))
                    refine hx _ _ _ _ (fun e => by cases e) (exP_e (beqP_t ?_))
                    unfold ref11_Right_j2
                    exact ⟨h, hs, hK _ (by omega)⟩
                exact hend _ _ e1 (by omega)
end V
end Go.Proofs.Ytmmdcdjkmakgpaa
set_option linter.unusedVariables false
set_option linter.unusedSimpArgs false
namespace Go.Proofs.Ytmmdcdjkmakgpaa
namespace V
open PA
attribute [local irreducible] bindP ifP condP newP optP exP beqP
set_option maxRecDepth 4000 in
theorem ref09_rises_c {ro : Ro} {v : Value} {l : List Int} {many : Int} (hm : many ≤ 1000000) {h : T Obj} {nx : Nat} {K : KV} (hv : ZI ro h v l) (hK : ∀ nx', nx ≤ nx' → K (.bool (rz (-1) many l)) h nx') : callP Try.prog ro i_ref09_rises [v, .int .i64 many] h nx K := by
  apply ref09_rises_of
  unfold ref09_rises
  generalize hR : rz (-1) many l = R at hK
  refine loopP_rule (fun j e h' nx' => ∃ (k : Nat) (last : Int), k + j = l.length ∧ nx ≤ nx' ∧ h' = h ∧ e 0 = v ∧ e 1 = .int .i64 many ∧ e 5 = .int .i64 k ∧ (k : Int) ≤ last + 1 ∧ last ≤ 1000000 ∧ (k = 0 → last = -1) ∧ (∀ q, q + 1 = k → l[q]? = some last) ∧ rz last many (l.drop k) = R) ?_ (n := l.length) ⟨0, -1, by omega, by omega, rfl, rfl, rfl, rfl, by omega, by omega, fun _ => rfl, fun q hq => by omega, hR⟩
  rintro j e h' nx' ⟨k, last, hj, hnx, rfl, e0, e1, e5, hk1, hk2, hk0, hkp, hr⟩ Q' hq hx
  unfold ref09_rises_L1
  rw [e0, e1, e5]
  refine bindP_mk hv.len ?_
  refine lss_s (fun hk => ?_) (fun hk => ?_)
  · have hk : k < l.length := by omega
    have hxk : l[k]? = some l[k] := List.getElem?_eq_getElem hk
    rw [drop_cons hk, rz_cons] at hr
    (repeat (first | refine bindP_mk (by simp (disch := first | omega | exact Int.natCast_nonneg _ | assumption) only [BB, B2, ↓reduceIte, Nat.reduceLeDiff, Nat.reduceAdd, CC] <;> rfl) ?_ | refine newP_mk ?_ | refine optP_mk ?_ | with_reducible first | refine condP_t ?_ | refine condP_f ?_ | refine ifP_tt' ?_ | refine ifP_ff' ?_ | refine ifP_tf' ?_ | refine ifP_ft' ?_ | refine ifP_u' ?_ | refine optP_mk0 ?_))
    refine bindP_mk (hv.ix _ hk) (bindP_mk (hv.load hk) ?_)
    generalize l[k] = x at hr hxk
    have hfin : ∀ (e' : Env) n, e' 4 = .bool false → (¬ last < x ∨ ¬ x < many) → nx ≤ n → Q' .ret e' h' n := fun e' n h4 hc hn => by
      refine hx _ _ _ _ (fun e => by cases e) (exP_r ?_)
      rw [h4]
      refine ⟨_, Sub.refl _, kb hK ?_ hn⟩
      rw [← hr]
      rcases hc with hc | hc
      · rw [decide_eq_false hc]; rfl
      · rw [decide_eq_false hc]; simp
    have hok : ∀ (e' : Env) n, e' 0 = v → e' 1 = .int .i64 many → e' 5 = .int .i64 ((k : Int) + 1) → last < x → x < many → nx ≤ n → Q' .normal e' h' n := fun e' n g0 g1 g5 hc1 hc2 hn => by
      refine hq (j - 1) _ _ _ _ (by omega) ⟨k + 1, x, by omega, hn, rfl, g0, g1, g5, by omega, by omega, fun h => by omega, fun q hq => ?_, ?_⟩ (Sub.refl _)
      · have : q = k := by omega
        subst this; exact hxk
      · rw [← hr, decide_eq_true hc1, decide_eq_true hc2]; rfl
    (first | refine lss_s (fun hb => ?_) (fun hb => ?_) | refine leq_s (fun hb => ?_) (fun hb => ?_) | refine gtr_s (fun hb => ?_) (fun hb => ?_) | refine geq_s (fun hb => ?_) (fun hb => ?_) | refine eql_s (fun hb => ?_) (fun hb => ?_) | refine neq_s (fun hb => ?_) (fun hb => ?_))
    · (repeat (first | refine bindP_mk (by simp (disch := first | omega | exact Int.natCast_nonneg _ | assumption) only [BB, B2, ↓reduceIte, Nat.reduceLeDiff, Nat.reduceAdd, CC] <;> rfl) ?_ | refine newP_mk ?_ | refine optP_mk ?_ | with_reducible first | refine condP_t ?_ | refine condP_f ?_ | refine ifP_tt' ?_ | refine ifP_ff' ?_ | refine ifP_tf' ?_ | refine ifP_ft' ?_ | refine ifP_u' ?_ | refine optP_mk0 ?_))
      exact hfin _ _ rfl (.inl (by omega)) (by omega)
    · (repeat (first | refine bindP_mk (by simp (disch := first | omega | exact Int.natCast_nonneg _ | assumption) only [BB, B2, ↓reduceIte, Nat.reduceLeDiff, Nat.reduceAdd, CC] <;> rfl) ?_ | refine newP_mk ?_ | refine optP_mk ?_ | with_reducible first | refine condP_t ?_ | refine condP_f ?_ | refine ifP_tt' ?_ | refine ifP_ff' ?_ | refine ifP_tf' ?_ | refine ifP_ft' ?_ | refine ifP_u' ?_ | refine optP_mk0 ?_))
      refine bindP_mk (hv.ix _ hk) ?_
      (repeat (first | refine bindP_mk (by simp (disch := first | omega | exact Int.natCast_nonneg _ | assumption) only [BB, B2, ↓reduceIte, Nat.reduceLeDiff, Nat.reduceAdd, CC] <;> rfl) ?_ | refine newP_mk ?_ | refine optP_mk ?_ | with_reducible first | refine condP_t ?_ | refine condP_f ?_ | refine ifP_tt' ?_ | refine ifP_ff' ?_ | refine ifP_tf' ?_ | refine ifP_ft' ?_ | refine ifP_u' ?_ | refine optP_mk0 ?_))
      refine bindP_mk (hv.load' hxk) ?_
      (repeat (first | refine bindP_mk (by simp (disch := first | omega | exact Int.natCast_nonneg _ | assumption) only [BB, B2, ↓reduceIte, Nat.reduceLeDiff, Nat.reduceAdd, CC] <;> rfl) ?_ | refine newP_mk ?_ | refine optP_mk ?_ | with_reducible first | refine condP_t ?_ | refine condP_f ?_ | refine ifP_tt' ?_ | refine ifP_ff' ?_ | refine ifP_tf' ?_ | refine ifP_ft' ?_ | refine ifP_u' ?_ | refine optP_mk0 ?_))
      (first | refine lss_s (fun hb => ?_) (fun hb => ?_) | refine leq_s (fun hb => ?_) (fun hb => ?_) | refine gtr_s (fun hb => ?_) (fun hb => ?_) | refine geq_s (fun hb => ?_) (fun hb => ?_) | refine eql_s (fun hb => ?_) (fun hb => ?_) | refine neq_s (fun hb => ?_) (fun hb => ?_))
      · (repeat (first | refine bindP_mk (by simp (disch := first | omega | exact Int.natCast_nonneg _ | assumption) only [BB, B2, ↓reduceIte, Nat.reduceLeDiff, Nat.reduceAdd, CC] <;> rfl) ?_ | refine newP_mk ?_ | refine optP_mk ?_ | with_reducible first | refine condP_t ?_ | refine condP_f ?_ | refine ifP_tt' ?_ | refine ifP_ff' ?_ | refine ifP_tf' ?_ | refine ifP_ft' ?_ | refine ifP_u' ?_ | refine optP_mk0 ?_))
        exact hfin _ _ rfl (.inr (by omega)) (by omega)
      · (repeat (first | refine bindP_mk (by simp (disch := first | omega | exact Int.natCast_nonneg _ | assumption) only [BB, B2, ↓reduceIte, Nat.reduceLeDiff, Nat.reduceAdd, CC] <;> rfl) ?_ | refine newP_mk ?_ | refine optP_mk ?_ | with_reducible first | refine condP_t ?_ | refine condP_f ?_ | refine ifP_tt' ?_ | refine ifP_ff' ?_ | refine ifP_tf' ?_ | refine ifP_ft' ?_ | refine ifP_u' ?_ | refine optP_mk0 ?_))
        (first | refine lss_s (fun hb => ?_) (fun hb => ?_) | refine leq_s (fun hb => ?_) (fun hb => ?_) | refine gtr_s (fun hb => ?_) (fun hb => ?_) | refine geq_s (fun hb => ?_) (fun hb => ?_) | refine eql_s (fun hb => ?_) (fun hb => ?_) | refine neq_s (fun hb => ?_) (fun hb => ?_))
        · have h2 := hkp (k - 1) (by omega)
          have h3 := (List.getElem?_eq_some_iff.1 h2).1
          have h4 : ((k : Int) - 1).toNat = k - 1 := by omega
          (repeat (first | refine bindP_mk (by simp (disch := first | omega | exact Int.natCast_nonneg _ | assumption) only [BB, B2, ↓reduceIte, Nat.reduceLeDiff, Nat.reduceAdd, CC] <;> rfl) ?_ | refine newP_mk ?_ | refine optP_mk ?_ | with_reducible first | refine condP_t ?_ | refine condP_f ?_ | refine ifP_tt' ?_ | refine ifP_ff' ?_ | refine ifP_tf' ?_ | refine ifP_ft' ?_ | refine ifP_u' ?_ | refine optP_mk0 ?_))
          refine bindP_mk (hv.ixI _ (by omega) (by omega)) ?_
          rw [h4]
          (repeat (first | refine bindP_mk (by simp (disch := first | omega | exact Int.natCast_nonneg _ | assumption) only [BB, B2, ↓reduceIte, Nat.reduceLeDiff, Nat.reduceAdd, CC] <;> rfl) ?_ | refine newP_mk ?_ | refine optP_mk ?_ | with_reducible first | refine condP_t ?_ | refine condP_f ?_ | refine ifP_tt' ?_ | refine ifP_ff' ?_ | refine ifP_tf' ?_ | refine ifP_ft' ?_ | refine ifP_u' ?_ | refine optP_mk0 ?_))
          refine bindP_mk (hv.load' h2) ?_
          (repeat (first | refine bindP_mk (by simp (disch := first | omega | exact Int.natCast_nonneg _ | assumption) only [BB, B2, ↓reduceIte, Nat.reduceLeDiff, Nat.reduceAdd, CC] <;> rfl) ?_ | refine newP_mk ?_ | refine optP_mk ?_ | with_reducible first | refine condP_t ?_ | refine condP_f ?_ | refine ifP_tt' ?_ | refine ifP_ff' ?_ | refine ifP_tf' ?_ | refine ifP_ft' ?_ | refine ifP_u' ?_ | refine optP_mk0 ?_))
          refine bindP_mk (hv.ix _ hk) ?_
          (repeat (first | refine bindP_mk (by simp (disch := first | omega | exact Int.natCast_nonneg _ | assumption) only [BB, B2, ↓reduceIte, Nat.reduceLeDiff, Nat.reduceAdd, CC] <;> rfl) ?_ | refine newP_mk ?_ | refine optP_mk ?_ | with_reducible first | refine condP_t ?_ | refine condP_f ?_ | refine ifP_tt' ?_ | refine ifP_ff' ?_ | refine ifP_tf' ?_ | refine ifP_ft' ?_ | refine ifP_u' ?_ | refine optP_mk0 ?_))
          refine bindP_mk (hv.load' hxk) ?_
          (repeat (first | refine bindP_mk (by simp (disch := first | omega | exact Int.natCast_nonneg _ | assumption) only [BB, B2, ↓reduceIte, Nat.reduceLeDiff, Nat.reduceAdd, CC] <;> rfl) ?_ | refine newP_mk ?_ | refine optP_mk ?_ | with_reducible first | refine condP_t ?_ | refine condP_f ?_ | refine ifP_tt' ?_ | refine ifP_ff' ?_ | refine ifP_tf' ?_ | refine ifP_ft' ?_ | refine ifP_u' ?_ | refine optP_mk0 ?_))
          (first | refine lss_s (fun hb => ?_) (fun hb => ?_) | refine leq_s (fun hb => ?_) (fun hb => ?_) | refine gtr_s (fun hb => ?_) (fun hb => ?_) | refine geq_s (fun hb => ?_) (fun hb => ?_) | refine eql_s (fun hb => ?_) (fun hb => ?_) | refine neq_s (fun hb => ?_) (fun hb => ?_))
          · (repeat (first | refine bindP_mk (by simp (disch := first | omega | exact Int.natCast_nonneg _ | assumption) only [BB, B2, ↓reduceIte, Nat.reduceLeDiff, Nat.reduceAdd, CC] <;> rfl) ?_ | refine newP_mk ?_ | refine optP_mk ?_ | with_reducible first | refine condP_t ?_ | refine condP_f ?_ | refine ifP_tt' ?_ | refine ifP_ff' ?_ | refine ifP_tf' ?_ | refine ifP_ft' ?_ | refine ifP_u' ?_ | refine optP_mk0 ?_))
            exact hfin _ _ rfl (.inl (by omega)) (by omega)
          · (repeat (first | refine bindP_mk (by simp (disch := first | omega | exact Int.natCast_nonneg _ | assumption) only [BB, B2, ↓reduceIte, Nat.reduceLeDiff, Nat.reduceAdd, CC] <;> rfl) ?_ | refine newP_mk ?_ | refine optP_mk ?_ | with_reducible first | refine condP_t ?_ | refine condP_f ?_ | refine ifP_tt' ?_ | refine ifP_ff' ?_ | refine ifP_tf' ?_ | refine ifP_ft' ?_ | refine ifP_u' ?_ | refine optP_mk0 ?_))
            exact hok _ _ e0 e1 rfl (by omega) (by omega) (by omega)
        · (repeat (first | refine bindP_mk (by simp (disch := first | omega | exact Int.natCast_nonneg _ | assumption) only [BB, B2, ↓reduceIte, Nat.reduceLeDiff, Nat.reduceAdd, CC] <;> rfl) ?_ | refine newP_mk ?_ | refine optP_mk ?_ | with_reducible first | refine condP_t ?_ | refine condP_f ?_ | refine ifP_tt' ?_ | refine ifP_ff' ?_ | refine ifP_tf' ?_ | refine ifP_ft' ?_ | refine ifP_u' ?_ | refine optP_mk0 ?_))
          exact hok _ _ e0 e1 rfl (by omega) (by omega) (by omega)
  · (repeat (first | refine bindP_mk (by simp (disch := first | omega | exact Int.natCast_nonneg _ | assumption) only [BB, B2, ↓reduceIte, Nat.reduceLeDiff, Nat.reduceAdd, CC] <;> rfl) ?_ | refine newP_mk ?_ | refine optP_mk ?_ | with_reducible first | refine condP_t ?_ | refine condP_f ?_ | refine ifP_tt' ?_ | refine ifP_ff' ?_ | refine ifP_tf' ?_ | refine ifP_ft' ?_ | refine ifP_u' ?_ | refine optP_mk0 ?_))
    refine hx _ _ _ _ (fun e => by cases e) (exP_e (beqP_t ?_))
    unfold ref09_rises_j1
    rw [drop_all (by omega)] at hr
    exact ⟨_, Sub.refl _, kb hK hr.symm (by omega)⟩
theorem zer_Pos : zer Try.prog y_api_Pos = some (.agg (posL dummy (.slice none 0 0)).toArray) := by kernel_rfl
set_option maxRecDepth 4000 in
theorem ref09_Right_c {ro : Ro} {v : Value} {g : GlD} {h : T Obj} {nx : Nat} {K : KV} (hf : Fr h nx) (hg : RG ro h v g) (hK : ∀ nx', nx ≤ nx' → K (.bool (rightD g)) h nx') : callP Try.prog ro i_ref09_Right [v] h nx K := by
  obtain ⟨a, b, rfl, ha, hb⟩ := hg
  apply ref09_Right_of
  unfold ref09_Right
  refine newP_mk ?_
  have hs1 : Sub h (h.upd nx (some (.cells (Value.cells (.agg #[a, b])) y_api_Glush))) := (Sub.refl h).new hf (Nat.le_refl _)
  have hf1 : Fr (h.upd nx (some (.cells (Value.cells (.agg #[a, b])) y_api_Glush))) (nx + 1) := hf.upd (by omega) (by omega)
  have g1 : (h.upd nx (some (.cells (Value.cells (.agg #[a, b])) y_api_Glush))).get nx = some (.cells #[a, b] y_api_Glush) := by rw [T.get_upd_same]; rfl
  generalize h.upd nx (some (.cells (Value.cells (.agg #[a, b])) y_api_Glush)) = h1 at hs1 hf1 g1
  have hK' : ∀ (c : Bool) n, rightD g = c → nx ≤ n → ∃ h', Sub h' h1 ∧ K (.bool c) h' n := fun c n e hn => ⟨h, hs1, kb hK e hn⟩
  unfold rightD at hK'
  have hl := hb.len
  have hb1 := hb.sub hs1 (RPos.sub hs1)
  (repeat (first | refine bindP_mk (by simp (disch := first | omega | exact Int.natCast_nonneg _ | assumption) only [BB, B2, ↓reduceIte, Nat.reduceLeDiff, Nat.reduceAdd, CC, g1, hl] <;> rfl) ?_ | refine newP_mk ?_ | refine optP_mk ?_ | with_reducible first | refine condP_t ?_ | refine condP_f ?_ | refine ifP_tt' ?_ | refine ifP_ff' ?_ | refine ifP_tf' ?_ | refine ifP_ft' ?_ | refine ifP_u' ?_ | refine optP_mk0 ?_))
  (first | refine lss_s (fun hb => ?_) (fun hb => ?_) | refine leq_s (fun hb => ?_) (fun hb => ?_) | refine gtr_s (fun hb => ?_) (fun hb => ?_) | refine geq_s (fun hb => ?_) (fun hb => ?_) | refine eql_s (fun hb => ?_) (fun hb => ?_) | refine neq_s (fun hb => ?_) (fun hb => ?_))
  · (repeat (first | refine bindP_mk (by simp (disch := first | omega | exact Int.natCast_nonneg _ | assumption) only [BB, B2, ↓reduceIte, Nat.reduceLeDiff, Nat.reduceAdd, CC, g1, hl] <;> rfl) ?_ | refine newP_mk ?_ | refine optP_mk ?_ | with_reducible first | refine condP_t ?_ | refine condP_f ?_ | refine ifP_tt' ?_ | refine ifP_ff' ?_ | refine ifP_tf' ?_ | refine ifP_ft' ?_ | refine ifP_u' ?_ | refine optP_mk0 ?_))
    exact hK' _ _ (by rw [decide_eq_false (by omega)]; rfl) (by omega)
  · (repeat (first | refine bindP_mk (by simp (disch := first | omega | exact Int.natCast_nonneg _ | assumption) only [BB, B2, ↓reduceIte, Nat.reduceLeDiff, Nat.reduceAdd, CC, g1, hl] <;> rfl) ?_ | refine newP_mk ?_ | refine optP_mk ?_ | with_reducible first | refine condP_t ?_ | refine condP_f ?_ | refine ifP_tt' ?_ | refine ifP_ff' ?_ | refine ifP_tf' ?_ | refine ifP_ft' ?_ | refine ifP_u' ?_ | refine optP_mk0 ?_))
    refine ref09_rises_c (by omega) (ha.sub hs1) fun n hn => ?_
    cases hr : rz (-1) g.p.length g.first with
    | false =>
      (repeat (first | refine bindP_mk (by simp (disch := first | omega | exact Int.natCast_nonneg _ | assumption) only [BB, B2, ↓reduceIte, Nat.reduceLeDiff, Nat.reduceAdd, CC, g1, hl] <;> rfl) ?_ | refine newP_mk ?_ | refine optP_mk ?_ | with_reducible first | refine condP_t ?_ | refine condP_f ?_ | refine ifP_tt' ?_ | refine ifP_ff' ?_ | refine ifP_tf' ?_ | refine ifP_ft' ?_ | refine ifP_u' ?_ | refine optP_mk0 ?_))
      exact hK' _ _ (by rw [hr]; simp) (by omega)
    | true =>
      (repeat (first | refine bindP_mk (by simp (disch := first | omega | exact Int.natCast_nonneg _ | assumption) only [BB, B2, ↓reduceIte, Nat.reduceLeDiff, Nat.reduceAdd, CC, g1, hl] <;> rfl) ?_ | refine newP_mk ?_ | refine optP_mk ?_ | with_reducible first | refine condP_t ?_ | refine condP_f ?_ | refine ifP_tt' ?_ | refine ifP_ff' ?_ | refine ifP_tf' ?_ | refine ifP_ft' ?_ | refine ifP_u' ?_ | refine optP_mk0 ?_))
      rw [hr, decide_eq_true (by omega)] at hK'
      simp only [Bool.true_and] at hK'
      generalize hR : g.p.all (mayD g.p.length) = R at hK'
      refine loopP_rule (fun j e h' nx' => ∃ (k : Nat), k + j = g.p.length ∧ nx + 1 ≤ nx' ∧ h' = h1 ∧ e 1 = ptr nx ∧ e 3 = .int .i64 k ∧ (g.p.drop k).all (mayD g.p.length) = R) ?_ (n := g.p.length) ⟨0, by omega, by omega, rfl, rfl, rfl, hR⟩
      rintro j e h' nx' ⟨k, hj, hnx, rfl, e1, e3, hr2⟩ Q' hq hx
      unfold ref09_Right_L1
      rw [e1, e3]
      (repeat (first | refine bindP_mk (by simp (disch := first | omega | exact Int.natCast_nonneg _ | assumption) only [BB, B2, ↓reduceIte, Nat.reduceLeDiff, Nat.reduceAdd, CC, g1, hl] <;> rfl) ?_ | refine newP_mk ?_ | refine optP_mk ?_ | with_reducible first | refine condP_t ?_ | refine condP_f ?_ | refine ifP_tt' ?_ | refine ifP_ff' ?_ | refine ifP_tf' ?_ | refine ifP_ft' ?_ | refine ifP_u' ?_ | refine optP_mk0 ?_))
      refine lss_s (fun hk => ?_) (fun hk => ?_)
      · have hk : k < g.p.length := by omega
        rw [drop_cons hk, List.all_cons] at hr2
        obtain ⟨x, ⟨nv, rfl, hn1, hn2⟩, hx2, hx3, hx4, hx5⟩ := hb1.at hk
        generalize g.p[k] = p at hr2 hx2 hx3 hx5 hn1 hn2
        (repeat (first | refine bindP_mk (by simp (disch := first | omega | exact Int.natCast_nonneg _ | assumption) only [BB, B2, ↓reduceIte, Nat.reduceLeDiff, Nat.reduceAdd, CC, g1, hl] <;> rfl) ?_ | refine newP_mk ?_ | refine optP_mk ?_ | with_reducible first | refine condP_t ?_ | refine condP_f ?_ | refine ifP_tt' ?_ | refine ifP_ff' ?_ | refine ifP_tf' ?_ | refine ifP_ft' ?_ | refine ifP_u' ?_ | refine optP_mk0 ?_))
        refine bindP_mk (hb1.ix _ hk) (bindP_mk hx3 (bindP_mk zer_Pos (newP_mk ?_)))
        refine bindP_mk (storeA_own (l := posL dummy (.slice none 0 0)) (vs := posL p nv) (e := y_api_Pos) (f := (0, 0)) (by rw [T.get_upd_same]; rfl) rfl rfl rfl (posL_ok hn1.ok)) ?_
        have hs2 : Sub h' ((h'.upd (nx' + 10) (some (.cells (Value.cells (.agg (posL dummy (.slice none 0 0)).toArray)) y_api_Pos))).upd (nx' + 10) (some (.cells (posL p nv).toArray y_api_Pos))) := ((Sub.refl h').new hf1 (by omega)).new hf1 (by omega)
        have hf2 : Fr ((h'.upd (nx' + 10) (some (.cells (Value.cells (.agg (posL dummy (.slice none 0 0)).toArray)) y_api_Pos))).upd (nx' + 10) (some (.cells (posL p nv).toArray y_api_Pos))) (nx' + 11) := ((hf1.mono (show nx + 1 ≤ nx' + 11 by omega)).upd (Nat.le_refl _) (by omega)).upd (Nat.le_refl _) (by omega)
        have g2 : ((h'.upd (nx' + 10) (some (.cells (Value.cells (.agg (posL dummy (.slice none 0 0)).toArray)) y_api_Pos))).upd (nx' + 10) (some (.cells (posL p nv).toArray y_api_Pos))).get (nx' + 10) = some (.cells (posL p nv).toArray y_api_Pos) := by rw [T.get_upd_same]
        have g3 := hs2 _ _ g1
        generalize (h'.upd (nx' + 10) (some (.cells (Value.cells (.agg (posL dummy (.slice none 0 0)).toArray)) y_api_Pos))).upd (nx' + 10) (some (.cells (posL p nv).toArray y_api_Pos)) = h2 at hs2 hf2 g2 g3
        have hfin : ∀ (e' : Env) n, e' 2 = .bool false → mayD g.p.length p = false → nx ≤ n → Q' .ret e' h2 n := fun e' n h4 hc hn => by
          refine hx _ _ _ _ (fun e => by cases e) (exP_r ?_)
          rw [h4]
          obtain ⟨h9, q1, q2⟩ := hK' false n (by rw [← hr2, hc]; rfl) hn
          exact ⟨h9, q1.trans hs2, q2⟩
        have hok : ∀ (e' : Env) n, e' 1 = ptr nx → e' 3 = .int .i64 ((k : Int) + 1) → mayD g.p.length p = true → nx + 1 ≤ n → Q' .normal e' h2 n := fun e' n q1 q3 hc hn => by
          refine hq (j - 1) _ h' _ _ (by omega) ⟨k + 1, by omega, hn, rfl, q1, q3, ?_⟩ hs2
          rw [← hr2, hc, Bool.true_and]
        unfold mayD at hfin hok
        (repeat (first | refine bindP_mk (by simp (disch := first | omega | exact Int.natCast_nonneg _ | assumption) only [BB, B2, ↓reduceIte, Nat.reduceLeDiff, Nat.reduceAdd, CC, g2, g3, posL_take] <;> rfl) ?_ | refine newP_mk ?_ | refine optP_mk ?_ | with_reducible first | refine condP_t ?_ | refine condP_f ?_ | refine ifP_tt' ?_ | refine ifP_ff' ?_ | refine ifP_tf' ?_ | refine ifP_ft' ?_ | refine ifP_u' ?_ | refine optP_mk0 ?_))
        refine bindP_mk build_Set0 (bindP_mk plain_Set (eql_set0_s hn2 (fun h0 => ?_) (fun h0 => ?_)))
        · (repeat (first | refine bindP_mk (by simp (disch := first | omega | exact Int.natCast_nonneg _ | assumption) only [BB, B2, ↓reduceIte, Nat.reduceLeDiff, Nat.reduceAdd, CC, g2, g3] <;> rfl) ?_ | refine newP_mk ?_ | refine optP_mk ?_ | with_reducible first | refine condP_t ?_ | refine condP_f ?_ | refine ifP_tt' ?_ | refine ifP_ff' ?_ | refine ifP_tf' ?_ | refine ifP_ft' ?_ | refine ifP_u' ?_ | refine optP_mk0 ?_))
          exact hfin _ _ rfl (by simp [h0]) (by omega)
        · (repeat (first | refine bindP_mk (by simp (disch := first | omega | exact Int.natCast_nonneg _ | assumption) only [BB, B2, ↓reduceIte, Nat.reduceLeDiff, Nat.reduceAdd, CC, g2, g3] <;> rfl) ?_ | refine newP_mk ?_ | refine optP_mk ?_ | with_reducible first | refine condP_t ?_ | refine condP_f ?_ | refine ifP_tt' ?_ | refine ifP_ff' ?_ | refine ifP_tf' ?_ | refine ifP_ft' ?_ | refine ifP_u' ?_ | refine optP_mk0 ?_))
          iterate 5 ((first | refine lss_s (fun hb => ?_) (fun hb => ?_) | refine leq_s (fun hb => ?_) (fun hb => ?_) | refine gtr_s (fun hb => ?_) (fun hb => ?_) | refine geq_s (fun hb => ?_) (fun hb => ?_) | refine eql_s (fun hb => ?_) (fun hb => ?_) | refine neq_s (fun hb => ?_) (fun hb => ?_)); (focus ((repeat (first | refine bindP_mk (by simp (disch := first | omega | exact Int.natCast_nonneg _ | assumption) only [BB, B2, ↓reduceIte, Nat.reduceLeDiff, Nat.reduceAdd, CC, g2, g3] <;> rfl) ?_ | refine newP_mk ?_ | refine optP_mk ?_ | with_reducible first | refine condP_t ?_ | refine condP_f ?_ | refine ifP_tt' ?_ | refine ifP_ff' ?_ | refine ifP_tf' ?_ | refine ifP_ft' ?_ | refine ifP_u' ?_ | refine optP_mk0 ?_)); refine hfin _ _ rfl ?_ (by omega); simp only [Bool.and_eq_false_iff, decide_eq_false_iff_not]; omega)); (repeat (first | refine bindP_mk (by simp (disch := first | omega | exact Int.natCast_nonneg _ | assumption) only [BB, B2, ↓reduceIte, Nat.reduceLeDiff, Nat.reduceAdd, CC, g2, g3, hl] <;> rfl) ?_ | refine newP_mk ?_ | refine optP_mk ?_ | with_reducible first | refine condP_t ?_ | refine condP_f ?_ | refine ifP_tt' ?_ | refine ifP_ff' ?_ | refine ifP_tf' ?_ | refine ifP_ft' ?_ | refine ifP_u' ?_ | refine optP_mk0 ?_)))
          (repeat (first | refine bindP_mk (by simp (disch := first | omega | exact Int.natCast_nonneg _ | assumption) only [BB, B2, ↓reduceIte, Nat.reduceLeDiff, Nat.reduceAdd, CC, g2, g3, hl] <;> rfl) ?_ | refine newP_mk ?_ | refine optP_mk ?_ | with_reducible first | refine condP_t ?_ | refine condP_f ?_ | refine ifP_tt' ?_ | refine ifP_ff' ?_ | refine ifP_tf' ?_ | refine ifP_ft' ?_ | refine ifP_u' ?_ | refine optP_mk0 ?_))
          refine ref09_rises_c (by omega) (hn1.sub hs2) fun n hn => ?_
          cases hr3 : rz (-1) g.p.length p.next with
          | false =>
            (repeat (first | refine bindP_mk (by simp (disch := first | omega | exact Int.natCast_nonneg _ | assumption) only [BB, B2, ↓reduceIte, Nat.reduceLeDiff, Nat.reduceAdd, CC] <;> rfl) ?_ | refine newP_mk ?_ | refine optP_mk ?_ | with_reducible first | refine condP_t ?_ | refine condP_f ?_ | refine ifP_tt' ?_ | refine ifP_ff' ?_ | refine ifP_tf' ?_ | refine ifP_ft' ?_ | refine ifP_u' ?_ | refine optP_mk0 ?_))
            exact hfin _ _ rfl (by rw [hr3]; simp) (by omega)
          | true =>
            (repeat (first | refine bindP_mk (by simp (disch := first | omega | exact Int.natCast_nonneg _ | assumption) only [BB, B2, ↓reduceIte, Nat.reduceLeDiff, Nat.reduceAdd, CC] <;> rfl) ?_ | refine newP_mk ?_ | refine optP_mk ?_ | with_reducible first | refine condP_t ?_ | refine condP_f ?_ | refine ifP_tt' ?_ | refine ifP_ff' ?_ | refine ifP_tf' ?_ | refine ifP_ft' ?_ | refine ifP_u' ?_ | refine optP_mk0 ?_))
            refine hok _ _ e1 rfl ?_ (by omega)
            rw [hr3, decide_eq_true h0]
            repeat rw [decide_eq_true (by omega), Bool.true_and]
            rfl
      · (repeat (first | refine bindP_mk (by simp (disch := first | omega | exact Int.natCast_nonneg _ | assumption) only [BB, B2, ↓reduceIte, Nat.reduceLeDiff, Nat.reduceAdd, CC] <;> rfl) ?_ | refine newP_mk ?_ | refine optP_mk ?_ | with_reducible first | refine condP_t ?_ | refine condP_f ?_ | refine ifP_tt' ?_ | refine ifP_ff' ?_ | refine ifP_tf' ?_ | refine ifP_ft' ?_ | refine ifP_u' ?_ | refine optP_mk0 ?_))
        refine hx _ _ _ _ (fun e => by cases e) (exP_e (beqP_t ?_))
        unfold ref09_Right_j1
        rw [drop_all (by omega)] at hr2
        exact hK' _ _ (by exact hr2.symm) (by omega)
end V
end Go.Proofs.Ytmmdcdjkmakgpaa
set_option linter.unusedVariables false
set_option linter.unusedSimpArgs false
namespace Go.Proofs.Ytmmdcdjkmakgpaa
namespace V
open PA
attribute [local irreducible] bindP ifP condP newP optP exP beqP
theorem goesZ_err {g : GlD} {en st : Int → Bool} {b : Nat} {S : List StateD} : (goesZ g en st b S).2.1 ≠ 1 := by
  by_cases h : lZ g en st b = []
  · rw [goesZ_nil h]; exact Int.zero_ne_one
  · rw [goesZ_ne h]
    dsimp only
    unfold findZ
    split
    · exact Int.zero_ne_one
    · split
      · exact (by decide : (110 : Int) ≠ 1)
      · split
        · exact (by decide : (3 : Int) ≠ 1)
        · exact Int.zero_ne_one
theorem rowZ_err {g : GlD} {en st : Int → Bool} : ∀ {B : List Nat} {S : List StateD}, (rowZ g en st B S).1 ≠ 1
  | [], S => Int.zero_ne_one
  | b :: r, S => by
    rw [rowZ_cons]
    split
    · exact rowZ_err
    · exact goesZ_err
theorem codeZ_err {g : GlD} {B : List Nat} {k : Nat} {c : Int} {S : List StateD} : (codeZ g B k c S).1 ≠ 1 := by
  unfold codeZ
  dsimp only
  split
  · exact Int.zero_ne_one
  · exact rowZ_err
theorem codesZ_err {g : GlD} {B : List Nat} {k : Nat} : ∀ {n : Nat} {c : Int} {S : List StateD}, (codesZ g B k n c S).1 ≠ 1
  | 0, c, S => Int.zero_ne_one
  | n + 1, c, S => by
    rw [codesZ_succ]
    split
    · exact codesZ_err
    · exact codeZ_err
theorem allZ_err {g : GlD} {B : List Nat} : ∀ {n k : Nat} {S : List StateD}, (allZ g B n k S).1 ≠ 1
  | 0, k, S => Int.zero_ne_one
  | n + 1, k, S => by
    rw [allZ_succ]
    split
    · split
      · exact allZ_err
      · exact codesZ_err
    · exact Int.zero_ne_one
theorem ofZ_bad {g : GlD} (h : (ofZ g).1 ≠ 0) : (ofZ g).2 = autD0 ∧ ((ofZ g).1 = 1 → rightD g = false) := by
  unfold ofZ at h ⊢
  split
  · rename_i h1
    rw [if_pos h1] at h
    split
    · rename_i h2
      rw [if_pos h2] at h
      exact absurd rfl h
    · exact ⟨rfl, fun e => absurd e allZ_err⟩
  · rename_i h1
    exact ⟨rfl, fun _ => by cases hq : rightD g with | true => exact absurd hq h1 | false => rfl⟩
theorem made_to {g : GlD} {S : List StateD} (hm : Made g (ofB g) S S.length 0) : ∀ s ∈ S, ∀ row ∈ s.next, ∀ m ∈ row, -1 ≤ m.to := by
  intro s hs row hrow m hmr
  obtain ⟨i, hi⟩ := List.mem_iff_getElem?.1 hs
  obtain ⟨q, hq⟩ := List.mem_iff_getElem?.1 hrow
  obtain ⟨j, hj⟩ := List.mem_iff_getElem?.1 hmr
  obtain ⟨n1, n2⟩ := hm.next i s q row hi hq
  have hjl := (List.getElem?_eq_some_iff.1 hj).1
  rcases n2 j _ m (List.getElem?_eq_getElem (by omega)) hj with ⟨_, h2, _⟩ | ⟨_, k, t, h2, _⟩
  · omega
  · omega
section
variable {ro : Ro}
set_option maxRecDepth 8000 in
set_option maxHeartbeats 2000000 in
theorem law11_AutoOwn_c {v : Value} {g : GlD} {h : T Obj} {nx : Nat} {K : KV} (hf : Fr h nx) (hg : RG ro h v g) (hK : ∀ h' nx', K (.bool true) h' nx') : callP Try.prog ro i_law11_AutoOwn [v] h nx K := by
  have hg0 := hg
  obtain ⟨a, b, rfl, ha, hb⟩ := hg
  apply law11_AutoOwn_of
  unfold law11_AutoOwn
  refine param_mk hf (Nat.le_refl _) fun h1 hs1 hf1 g1 _ => ?_
  have g1 : h1.get nx = some (.cells [a, b].toArray y_api_Glush) := g1
  refine shown_c ?_
  refine bindP_mk (loadA_all (l := [a, b]) g1 rfl) ?_
  refine law11_few_c2 (hf1.mono (show nx + 1 ≤ _ by omega)) (hg0.sub hs1) fun n8 hn8 => ?_
  have hx := fewV_R (hg0.sub hs1)
  refine auto_Of_c (hf1.mono (show nx + 1 ≤ n8 + 1 by omega)) hx fun h5 n5 xs hn5 hs5 hf5 hR => ?_
  have hR0 := hR
  (repeat (first | refine bindP_mk (by simp (disch := first | omega | exact Int.natCast_nonneg _ | assumption) only [BB, B2, ↓reduceIte, Nat.reduceLeDiff, Nat.reduceAdd, CC, nth0, nth1] <;> rfl) ?_ | refine newP_mk ?_ | refine optP_mk ?_ | with_reducible first | refine condP_t ?_ | refine condP_f ?_ | refine ifP_tt' ?_ | refine ifP_ff' ?_ | refine ifP_tf' ?_ | refine ifP_ft' ?_ | refine ifP_u' ?_ | refine optP_mk0 ?_))
  obtain ⟨cv, sv, rfl, hc, hcb, hcv, hsv, hc1, hc2⟩ := hR
  have hcvk : cellOk cv = true := by obtain ⟨cs, h1, _⟩ := hcv; exact h1.ok
  have hsvk : cellOk sv = true := by obtain ⟨cs, h1, _⟩ := hsv; exact h1.ok
  refine local_mk zer_Auto (by rw [Value.cells_agg, ts]; exact autZ_len) (x := autL (ofZ (fewD g)).2.c (ofZ (fewD g)).2.many cv sv) rfl (autL_len hc) (autL_ok hcvk hsvk) hf5 (show n5 ≤ n5 + 3 by omega) fun h6 hs6 hf6 g6 _ => ?_
  have hs16 := hs5.trans hs6
  have g16 := hs16 _ _ g1
  have hsv6 := hsv.sub hs6 (RState.sub hs6)
  have hcv6 := hcv.sub hs6 fun _ _ h => h
  have ln6 := hsv6.len
  have as6 := autL_states (n := (ofZ (fewD g)).2.many) (cv := cv) (sv := sv) hc
  refine neq_s (fun u => ?_) (fun u => ?_)
  · refine condP_t ?_
    obtain ⟨u1, u2⟩ := ofZ_bad u
    have ln0 : lenSl sv = some (.int .i64 0) := by rw [ln6, u1]; rfl
    (repeat (first | refine bindP_mk (by simp (disch := first | omega | exact Int.natCast_nonneg _ | assumption) only [BB, B2, ↓reduceIte, Nat.reduceLeDiff, Nat.reduceAdd, CC, g6, as6, ln0] <;> rfl) ?_ | refine newP_mk ?_ | refine optP_mk ?_ | with_reducible first | refine condP_t ?_ | refine condP_f ?_ | refine ifP_tt' ?_ | refine ifP_ff' ?_ | refine ifP_tf' ?_ | refine ifP_ft' ?_ | refine ifP_u' ?_ | refine optP_mk0 ?_))
    refine neq_s (fun w => ?_) (fun w => ?_)
    · (repeat (first | refine bindP_mk (by simp (disch := first | omega | exact Int.natCast_nonneg _ | assumption) only [BB, B2, ↓reduceIte, Nat.reduceLeDiff, Nat.reduceAdd, CC] <;> rfl) ?_ | refine newP_mk ?_ | refine optP_mk ?_ | with_reducible first | refine condP_t ?_ | refine condP_f ?_ | refine ifP_tt' ?_ | refine ifP_ff' ?_ | refine ifP_tf' ?_ | refine ifP_ft' ?_ | refine ifP_u' ?_ | refine optP_mk0 ?_))
      exact ⟨_, Sub.refl _, hK _ _⟩
    · have hno := u2 (by omega)
      (repeat (first | refine bindP_mk (by simp (disch := first | omega | exact Int.natCast_nonneg _ | assumption) only [BB, B2, ↓reduceIte, Nat.reduceLeDiff, Nat.reduceAdd, CC] <;> rfl) ?_ | refine newP_mk ?_ | refine optP_mk ?_ | with_reducible first | refine condP_t ?_ | refine condP_f ?_ | refine ifP_tt' ?_ | refine ifP_ff' ?_ | refine ifP_tf' ?_ | refine ifP_ft' ?_ | refine ifP_u' ?_ | refine optP_mk0 ?_))
      refine bindP_mk (loadA_all (l := [a, b]) g16 rfl) ?_
      (repeat (first | refine bindP_mk (by simp (disch := first | omega | exact Int.natCast_nonneg _ | assumption) only [BB, B2, ↓reduceIte, Nat.reduceLeDiff, Nat.reduceAdd, CC] <;> rfl) ?_ | refine newP_mk ?_ | refine optP_mk ?_ | with_reducible first | refine condP_t ?_ | refine condP_f ?_ | refine ifP_tt' ?_ | refine ifP_ff' ?_ | refine ifP_tf' ?_ | refine ifP_ft' ?_ | refine ifP_u' ?_ | refine optP_mk0 ?_))
      refine law11_few_c2 (hf6.mono (show n5 + 3 + 1 ≤ _ by omega)) (hg0.sub (hs1.trans hs16)) fun n9 hn9 => ?_
      have hx9 := fewV_R (hg0.sub (hs1.trans hs16))
      (repeat (first | refine bindP_mk (by simp (disch := first | omega | exact Int.natCast_nonneg _ | assumption) only [BB, B2, ↓reduceIte, Nat.reduceLeDiff, Nat.reduceAdd, CC] <;> rfl) ?_ | refine newP_mk ?_ | refine optP_mk ?_ | with_reducible first | refine condP_t ?_ | refine condP_f ?_ | refine ifP_tt' ?_ | refine ifP_ff' ?_ | refine ifP_tf' ?_ | refine ifP_ft' ?_ | refine ifP_u' ?_ | refine optP_mk0 ?_))
      refine ref09_Right_c (hf6.mono (show n5 + 3 + 1 ≤ _ by omega)) hx9 fun n10 hn10 => ?_
      rw [hno]
      (repeat (first | refine bindP_mk (by simp (disch := first | omega | exact Int.natCast_nonneg _ | assumption) only [BB, B2, ↓reduceIte, Nat.reduceLeDiff, Nat.reduceAdd, CC] <;> rfl) ?_ | refine newP_mk ?_ | refine optP_mk ?_ | with_reducible first | refine condP_t ?_ | refine condP_f ?_ | refine ifP_tt' ?_ | refine ifP_ff' ?_ | refine ifP_tf' ?_ | refine ifP_ft' ?_ | refine ifP_u' ?_ | refine optP_mk0 ?_))
      exact ⟨_, Sub.refl _, hK _ _⟩
  · refine condP_f ?_
    obtain ⟨hr, S, hS, hm, hall⟩ := ofZ_ok u
    have hri := right_of u
    have hRA : RAuto ro h6 (autL (ofZ (fewD g)).2.c (ofZ (fewD g)).2.many cv sv) (ofZ (fewD g)).2 := ⟨cv, sv, rfl, hc, hcb, hcv6, hsv6, hc1, hc2⟩
    have hlo := loadA_all (ro := ro) (z := 0) (n := 259) (l := autL (ofZ (fewD g)).2.c (ofZ (fewD g)).2.many cv sv) g6 (autL_len hc)
    refine bindP_mk hlo ?_
    refine auto_Right_c (hf6.mono (show n5 + 3 + 1 ≤ _ by omega)) hRA fun n7 hn7 => ?_
    rw [hri]
    (repeat (first | refine bindP_mk (by simp (disch := first | omega | exact Int.natCast_nonneg _ | assumption) only [BB, B2, ↓reduceIte, Nat.reduceLeDiff, Nat.reduceAdd, CC] <;> rfl) ?_ | refine newP_mk ?_ | refine optP_mk ?_ | with_reducible first | refine condP_t ?_ | refine condP_f ?_ | refine ifP_tt' ?_ | refine ifP_ff' ?_ | refine ifP_tf' ?_ | refine ifP_ft' ?_ | refine ifP_u' ?_ | refine optP_mk0 ?_))
    refine bindP_mk hlo ?_
    (repeat (first | refine bindP_mk (by simp (disch := first | omega | exact Int.natCast_nonneg _ | assumption) only [BB, B2, ↓reduceIte, Nat.reduceLeDiff, Nat.reduceAdd, CC] <;> rfl) ?_ | refine newP_mk ?_ | refine optP_mk ?_ | with_reducible first | refine condP_t ?_ | refine condP_f ?_ | refine ifP_tt' ?_ | refine ifP_ff' ?_ | refine ifP_tf' ?_ | refine ifP_ft' ?_ | refine ifP_u' ?_ | refine optP_mk0 ?_))
    refine ref11_Right_c (hf6.mono (show n5 + 3 + 1 ≤ _ by omega)) hRA fun n9 hn9 => ?_
    rw [hri]
    have hsm := (ofZ_small (fewD g)).1
    (repeat (first | refine bindP_mk (by simp (disch := first | omega | exact Int.natCast_nonneg _ | assumption) only [BB, B2, ↓reduceIte, Nat.reduceLeDiff, Nat.reduceAdd, CC, g6, as6, ln6] <;> rfl) ?_ | refine newP_mk ?_ | refine optP_mk ?_ | with_reducible first | refine condP_t ?_ | refine condP_f ?_ | refine ifP_tt' ?_ | refine ifP_ff' ?_ | refine ifP_tf' ?_ | refine ifP_ft' ?_ | refine ifP_u' ?_ | refine optP_mk0 ?_))
    rw [hS] at hc hcb hcv6 hsv6 hsm g6 ln6 as6
    have hA := all_AM (g := fewD g) (B := ofB (fewD g)) (by rw [hall])
    rw [hall] at hA
    refine own_L4_c (S := S) (c := (ofD (fewD g) S).c) (n := (ofD (fewD g) S).many) (cv := cv) (sv := sv) (aid := n5 + 3) hc (hf6.mono (show n5 + 3 + 1 ≤ _ by omega)) g6 hsv6 hsm (made_to hm) hm.base.few hA ?_ ?_ ?_ ?_ fun e' n' hn' z3 z4 => ?_
    · rfl
    · rfl
    · rw [hS]; rfl
    · rfl
    refine exP_e (beqP_t ?_)
    unfold law11_AutoOwn_j1
    rw [z4]
    (repeat (first | refine bindP_mk (by simp (disch := first | omega | exact Int.natCast_nonneg _ | assumption) only [BB, B2, ↓reduceIte, Nat.reduceLeDiff, Nat.reduceAdd, CC, g6, as6, ln6] <;> rfl) ?_ | refine newP_mk ?_ | refine optP_mk ?_ | with_reducible first | refine condP_t ?_ | refine condP_f ?_ | refine ifP_tt' ?_ | refine ifP_ff' ?_ | refine ifP_tf' ?_ | refine ifP_ft' ?_ | refine ifP_u' ?_ | refine optP_mk0 ?_))
    refine own_L1_c (S := S) (c := (ofD (fewD g) S).c) (n := (ofD (fewD g) S).many) (cv := cv) (sv := sv) (aid := n5 + 3) hc hsm hm.base.dist (hf6.mono (show n5 + 3 + 1 ≤ _ by omega)) g6 hsv6 ?_ ?_ ?_ ?_ fun e9 n10 hn10 x3 => ?_
    · exact z4
    · rfl
    · rfl
    · rfl
    refine exP_e (beqP_t ?_)
    unfold law11_AutoOwn_j2
    have x3 : e9 3 = .bool true := x3.trans z3
    rw [x3]
    exact ⟨_, Sub.refl _, hK _ _⟩
end
end V
end Go.Proofs.Ytmmdcdjkmakgpaa
set_option linter.unusedVariables false
set_option linter.unusedSimpArgs false
set_option maxRecDepth 16000
namespace Go.Proofs.Ytmmdcdjkmakgpaa
namespace V
open Go.ChangeShapes Go.WideShapes Go.ChangeAt Go.RowKit
theorem autoOwn_lifted (os : Os) (started : os.Started) (H : Type) (enc : TypeId × Value → H) :
    ReturnsInHanded {} Try.checked os 8 .any (Rows.autoOwnSpec.pre6 enc Try.prog Try.f8 Rows.autoOwnRow.domain false) (Rows.autoOwnSpec.post enc Try.prog Try.f8 false true false false) := by
  refine returnsInHanded_of_change_sized (C := Try.checked) okOwn started (by kernel_rfl) (by kernel_rfl)
    (ChangeSpec.witness6 (enc := enc) (C := Try.checked) false ⟨#[], #[.agg #[.slice none 0 0, .slice none 0 0]], []⟩ 8 (by kernel_rfl) (by kernel_rfl) (by kernel_rfl) (by kernel_rfl)) ?_
  intro W base args ds gs before hval hW _ _ _
  have hW' := hW
  obtain ⟨p, q, hA0, hV, rfl, hfz, hnd⟩ := hW
  have hA : DataW.TrodAll enc Try.prog W 0 (fun _ => true) true [y_api_Glush] args.toList ds p := hA0
  obtain ⟨v0, d0, rfl, rfl, h0⟩ := trodAll_one hA
  obtain ⟨rfl, rfl⟩ := trodVars_none hV
  obtain ⟨w0, g0, a0, hg0⟩ := open_glush h0 (hval 0 y_api_Glush v0 rfl rfl)
  have hsay : Says Try.prog W 8 [w0] := law11_AutoOwn_c Fr.e hg0 fun _ _ => rfl
  refine (says_calls okZ okN okM (args := #[v0]) (.cons a0 .nil) hsay).mono fun e W' ⟨he, hb⟩ => ?_
  subst he
  exact ⟨_, rfl, law_post (tb := y_bool) okLaid (by kernel_rfl) (by kernel_rfl) (by kernel_rfl) rfl hW' hb rfl⟩
end V
theorem autoOwn_holds : Rows.AutoOwnSaid :=
  OpenClaim.holds_of_wide 8 Try.f8 rfl rfl rfl rfl rfl rfl rfl ⟨rfl, rfl, rfl, rfl, rfl⟩ rfl rfl rfl rfl rfl (by kernel_rfl) (by kernel_rfl) (by kernel_rfl)
    (of_decide_eq_true (by kernel_rfl)) (by unfold Func.isWrapper; rw [if_neg (of_decide_eq_false (by kernel_rfl))]; exact ⟨rfl, rfl⟩)
    (fun os started H enc _ => V.autoOwn_lifted os started H enc)
end Go.Proofs.Ytmmdcdjkmakgpaa