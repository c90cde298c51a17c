/- Texts laid one behind the other: NL, NM, NN, NP.
   No condition. -/
import Derived.Test.YtepbdkfkfcckoaaN2
/- What the reference's in, enters, stays hand back.
   No condition. -/
set_option linter.unusedVariables false
set_option linter.unusedSimpArgs false
namespace Go.Proofs.Ytepbdkfkfcckoaa
namespace V
open PA
attribute [local irreducible] bindP ifP condP newP optP exP beqP
theorem ref10_in_c {ro : Ro} {v : Value} {l : List Int} {p : Int} (hlen : l.length ≤ 1000000) {h : T Obj} {nx : Nat} {K : KV} (hv : ZI ro h v l) (hK : ∀ nx', nx ≤ nx' → K (.bool (l.contains p)) h nx') : callP Try.prog ro i_ref10_in [v, .int .i64 p] h nx K := by
  apply ref10_in_of
  unfold ref10_in
  generalize hR : l.contains p = R at hK
  refine loopP_rule (fun j e h' nx' => ∃ (k : Nat), k + j = l.length ∧ nx ≤ nx' ∧ h' = h ∧ e 0 = v ∧ e 1 = .int .i64 p ∧ e 5 = .int .i64 k ∧ (l.drop k).contains p = R) ?_ (n := l.length) ⟨0, by omega, by omega, rfl, rfl, rfl, rfl, hR⟩
  rintro j e h' nx' ⟨k, hj, hnx, rfl, e0, e1, e5, hr⟩ Q' hq hx
  unfold ref10_in_L1
  rw [e0, e1, e5]
  refine bindP_mk hv.len ?_
  refine lss_s (fun hk => ?_) (fun hk => ?_)
  · have hk : k < l.length := by omega
    rw [drop_cons hk] at hr
    (repeat (first | refine lss_t (by omega) ?_ | refine lss_f (by omega) ?_ | refine leq_t (by omega) ?_ | refine leq_f (by omega) ?_ | refine gtr_t (by omega) ?_ | refine gtr_f (by omega) ?_ | refine geq_t (by omega) ?_ | refine geq_f (by omega) ?_ | refine eql_t (by omega) ?_ | refine eql_f (by omega) ?_ | refine neq_t (by omega) ?_ | refine neq_f (by omega) ?_ | refine bindP_mk (by simp (disch := first | omega | exact Int.natCast_nonneg _ | assumption) only [BB, decide_true, decide_false, Bool.not_true, Bool.not_false, Option.bind_some, T.get_upd_same, T.get_upd_ne, if_pos, Nat.zero_add, Nat.mul_one, Nat.add_zero, Int.toNat_natCast, ↓reduceIte, Nat.reduceLeDiff, Nat.reduceAdd, Nat.le_refl] <;> rfl) ?_ | refine newP_mk ?_ | refine optP_mk ?_ | with_reducible refine condP_t ?_ | with_reducible refine condP_f ?_ | with_reducible refine ifP_tt' ?_ | with_reducible refine ifP_ff' ?_ | with_reducible refine ifP_tf' ?_ | with_reducible refine ifP_ft' ?_ | with_reducible refine ifP_u' ?_ | refine optP_mk0 ?_))
    refine bindP_mk (hv.ix _ hk) (bindP_mk (hv.load hk) ?_)
    generalize l[k] = x at hr
    refine eql_s (fun he => ?_) (fun he => ?_)
    · (repeat (first | refine lss_t (by omega) ?_ | refine lss_f (by omega) ?_ | refine leq_t (by omega) ?_ | refine leq_f (by omega) ?_ | refine gtr_t (by omega) ?_ | refine gtr_f (by omega) ?_ | refine geq_t (by omega) ?_ | refine geq_f (by omega) ?_ | refine eql_t (by omega) ?_ | refine eql_f (by omega) ?_ | refine neq_t (by omega) ?_ | refine neq_f (by omega) ?_ | refine bindP_mk (by simp (disch := first | omega | exact Int.natCast_nonneg _ | assumption) only [BB, decide_true, decide_false, Bool.not_true, Bool.not_false, Option.bind_some, T.get_upd_same, T.get_upd_ne, if_pos, Nat.zero_add, Nat.mul_one, Nat.add_zero, Int.toNat_natCast, ↓reduceIte, Nat.reduceLeDiff, Nat.reduceAdd, Nat.le_refl] <;> rfl) ?_ | refine newP_mk ?_ | refine optP_mk ?_ | with_reducible refine condP_t ?_ | with_reducible refine condP_f ?_ | with_reducible refine ifP_tt' ?_ | with_reducible refine ifP_ff' ?_ | with_reducible refine ifP_tf' ?_ | with_reducible refine ifP_ft' ?_ | with_reducible refine ifP_u' ?_ | refine optP_mk0 ?_))
      refine hx _ _ _ _ (fun e => by cases e) (exP_r ?_)
      exact ⟨_, Sub.refl _, kb hK (by rw [← hr, he]; simp) (by omega)⟩
    · (repeat (first | refine lss_t (by omega) ?_ | refine lss_f (by omega) ?_ | refine leq_t (by omega) ?_ | refine leq_f (by omega) ?_ | refine gtr_t (by omega) ?_ | refine gtr_f (by omega) ?_ | refine geq_t (by omega) ?_ | refine geq_f (by omega) ?_ | refine eql_t (by omega) ?_ | refine eql_f (by omega) ?_ | refine neq_t (by omega) ?_ | refine neq_f (by omega) ?_ | refine bindP_mk (by simp (disch := first | omega | exact Int.natCast_nonneg _ | assumption) only [BB, decide_true, decide_false, Bool.not_true, Bool.not_false, Option.bind_some, T.get_upd_same, T.get_upd_ne, if_pos, Nat.zero_add, Nat.mul_one, Nat.add_zero, Int.toNat_natCast, ↓reduceIte, Nat.reduceLeDiff, Nat.reduceAdd, Nat.le_refl] <;> rfl) ?_ | refine newP_mk ?_ | refine optP_mk ?_ | with_reducible refine condP_t ?_ | with_reducible refine condP_f ?_ | with_reducible refine ifP_tt' ?_ | with_reducible refine ifP_ff' ?_ | with_reducible refine ifP_tf' ?_ | with_reducible refine ifP_ft' ?_ | with_reducible refine ifP_u' ?_ | refine optP_mk0 ?_))
      refine hq (j - 1) _ _ _ _ (by omega) ⟨k + 1, by omega, by omega, rfl, e0, e1, rfl, ?_⟩ (Sub.refl _)
      rw [← hr, List.contains_cons, beq_eq_false_iff_ne.2 (Ne.symm he), Bool.false_or]
  · (repeat (first | refine lss_t (by omega) ?_ | refine lss_f (by omega) ?_ | refine leq_t (by omega) ?_ | refine leq_f (by omega) ?_ | refine gtr_t (by omega) ?_ | refine gtr_f (by omega) ?_ | refine geq_t (by omega) ?_ | refine geq_f (by omega) ?_ | refine eql_t (by omega) ?_ | refine eql_f (by omega) ?_ | refine neq_t (by omega) ?_ | refine neq_f (by omega) ?_ | refine bindP_mk (by simp (disch := first | omega | exact Int.natCast_nonneg _ | assumption) only [BB, decide_true, decide_false, Bool.not_true, Bool.not_false, Option.bind_some, T.get_upd_same, T.get_upd_ne, if_pos, Nat.zero_add, Nat.mul_one, Nat.add_zero, Int.toNat_natCast, ↓reduceIte, Nat.reduceLeDiff, Nat.reduceAdd, Nat.le_refl] <;> rfl) ?_ | refine newP_mk ?_ | refine optP_mk ?_ | with_reducible refine condP_t ?_ | with_reducible refine condP_f ?_ | with_reducible refine ifP_tt' ?_ | with_reducible refine ifP_ff' ?_ | with_reducible refine ifP_tf' ?_ | with_reducible refine ifP_ft' ?_ | with_reducible refine ifP_u' ?_ | refine optP_mk0 ?_))
    refine hx _ _ _ _ (fun e => by cases e) (exP_e (beqP_t ?_))
    unfold ref10_in_j1
    rw [drop_all (by omega)] at hr
    exact ⟨_, Sub.refl _, kb hK hr.symm (by omega)⟩
theorem next_len {g : GlD} (hr : rightD g = true) {i : Int} (h0 : 0 ≤ i) (h1 : i < g.p.length) : (g.at i).next.length ≤ 512 := by
  have h2 := may_spec (right_at hr h0 h1)
  have h3 := rz_len h2.2.2.2.2.2.2 (by omega)
  have := right_len hr
  omega
theorem first_rz {g : GlD} (hr : rightD g = true) : rz (-1) g.p.length g.first = true := by
  unfold rightD at hr
  simp only [Bool.and_eq_true] at hr
  exact hr.2.1
theorem first_len {g : GlD} (hr : rightD g = true) : g.first.length ≤ 512 := by
  have h3 := rz_len (first_rz hr) (by omega)
  have := right_len hr
  omega
set_option maxRecDepth 4000 in
theorem ref10_enters_c {ro : Ro} {v w : Value} {g : GlD} {c : CfgD} {q : Int} (hr : rightD g = true) (hft : fitsD g c = true) {h : T Obj} {nx : Nat} {K : KV} (hf : Fr h nx) (hg : RG ro h v g) (hc : RCfg ro h w c) (hK : ∀ nx', nx ≤ nx' → K (.bool (entersD g c q)) h nx') : callP Try.prog ro i_ref10_enters [v, w, .int .i64 q] h nx K := by
  obtain ⟨a, b, rfl, ha, hP⟩ := hg
  obtain ⟨a2, rfl, hl⟩ := hc
  apply ref10_enters_of
  unfold ref10_enters
  refine param_mk hf (Nat.le_refl _) fun h1 hs1 hf1 g1 _ => ?_
  refine param_mk hf1 (Nat.le_refl _) fun h2 hs2 hf2 g2 _ => ?_
  have g1 := hs2 _ _ g1
  have hs := hs1.trans hs2
  have hP := hP.sub hs (RPos.sub hs)
  have ha := ha.sub hs
  have hl := hl.sub hs (RHeld.sub hs)
  have hll := hl.len
  have hlen := right_len hr
  have hlen2 := fits_len hft
  have hG : RG ro h2 (.agg #[a, b]) g := ⟨a, b, rfl, ha, hP⟩
  unfold entersD at hK
  (repeat (first | refine lss_t (by omega) ?_ | refine lss_f (by omega) ?_ | refine leq_t (by omega) ?_ | refine leq_f (by omega) ?_ | refine gtr_t (by omega) ?_ | refine gtr_f (by omega) ?_ | refine geq_t (by omega) ?_ | refine geq_f (by omega) ?_ | refine eql_t (by omega) ?_ | refine eql_f (by omega) ?_ | refine neq_t (by omega) ?_ | refine neq_f (by omega) ?_ | refine bindP_mk (by simp (disch := first | omega | exact Int.natCast_nonneg _ | assumption) only [BB, decide_true, decide_false, Bool.not_true, Bool.not_false, Option.bind_some, T.get_upd_same, T.get_upd_ne, if_pos, Nat.zero_add, Nat.mul_one, Nat.add_zero, Int.toNat_natCast, ↓reduceIte, Nat.reduceLeDiff, Nat.reduceAdd, Nat.le_refl, g1, g2] <;> rfl) ?_ | refine newP_mk ?_ | refine optP_mk ?_ | with_reducible refine condP_t ?_ | with_reducible refine condP_f ?_ | with_reducible refine ifP_tt' ?_ | with_reducible refine ifP_ff' ?_ | with_reducible refine ifP_tf' ?_ | with_reducible refine ifP_ft' ?_ | with_reducible refine ifP_u' ?_ | refine optP_mk0 ?_))
  cases hcb : c.b with
  | true =>
    rw [hcb, if_pos rfl] at hK
    (repeat (first | refine lss_t (by omega) ?_ | refine lss_f (by omega) ?_ | refine leq_t (by omega) ?_ | refine leq_f (by omega) ?_ | refine gtr_t (by omega) ?_ | refine gtr_f (by omega) ?_ | refine geq_t (by omega) ?_ | refine geq_f (by omega) ?_ | refine eql_t (by omega) ?_ | refine eql_f (by omega) ?_ | refine neq_t (by omega) ?_ | refine neq_f (by omega) ?_ | refine bindP_mk (by simp (disch := first | omega | exact Int.natCast_nonneg _ | assumption) only [BB, decide_true, decide_false, Bool.not_true, Bool.not_false, Option.bind_some, T.get_upd_same, T.get_upd_ne, if_pos, Nat.zero_add, Nat.mul_one, Nat.add_zero, Int.toNat_natCast, ↓reduceIte, Nat.reduceLeDiff, Nat.reduceAdd, Nat.le_refl, g1] <;> rfl) ?_ | refine newP_mk ?_ | refine optP_mk ?_ | with_reducible refine condP_t ?_ | with_reducible refine condP_f ?_ | with_reducible refine ifP_tt' ?_ | with_reducible refine ifP_ff' ?_ | with_reducible refine ifP_tf' ?_ | with_reducible refine ifP_ft' ?_ | with_reducible refine ifP_u' ?_ | refine optP_mk0 ?_))
    have := first_len hr
    exact ref10_in_c (by omega) ha fun n hn => ⟨h, hs, hK _ (by omega)⟩
  | false =>
    rw [hcb, if_neg (by decide)] at hK
    (repeat (first | refine lss_t (by omega) ?_ | refine lss_f (by omega) ?_ | refine leq_t (by omega) ?_ | refine leq_f (by omega) ?_ | refine gtr_t (by omega) ?_ | refine gtr_f (by omega) ?_ | refine geq_t (by omega) ?_ | refine geq_f (by omega) ?_ | refine eql_t (by omega) ?_ | refine eql_f (by omega) ?_ | refine neq_t (by omega) ?_ | refine neq_f (by omega) ?_ | refine bindP_mk (by simp (disch := first | omega | exact Int.natCast_nonneg _ | assumption) only [BB, decide_true, decide_false, Bool.not_true, Bool.not_false, Option.bind_some, T.get_upd_same, T.get_upd_ne, if_pos, Nat.zero_add, Nat.mul_one, Nat.add_zero, Int.toNat_natCast, ↓reduceIte, Nat.reduceLeDiff, Nat.reduceAdd, Nat.le_refl] <;> rfl) ?_ | refine newP_mk ?_ | refine optP_mk ?_ | with_reducible refine condP_t ?_ | with_reducible refine condP_f ?_ | with_reducible refine ifP_tt' ?_ | with_reducible refine ifP_ff' ?_ | with_reducible refine ifP_tf' ?_ | with_reducible refine ifP_ft' ?_ | with_reducible refine ifP_u' ?_ | refine optP_mk0 ?_))
    generalize hR : (c.l.any fun h => ripeD g h && (g.at h.p).next.contains q) = R at hK
    refine loopP_rule (fun j e h' nx' => ∃ (k : Nat), k + j = c.l.length ∧ nx + 2 ≤ nx' ∧ h' = h2 ∧ e 2 = .int .i64 q ∧ e 3 = ptr nx ∧ e 4 = ptr (nx + 1) ∧ e 7 = .int .i64 k ∧ ((c.l.drop k).any fun h => ripeD g h && (g.at h.p).next.contains q) = R) ?_ (n := c.l.length) ⟨0, by omega, by omega, rfl, rfl, rfl, rfl, rfl, hR⟩
    rintro j e h' nx' ⟨k, hj, hnx, rfl, e2, e3, e4, e7, hr2⟩ Q' hq hx
    unfold ref10_enters_L1
    rw [e2, e3, e4, e7]
    (repeat (first | refine lss_t (by omega) ?_ | refine lss_f (by omega) ?_ | refine leq_t (by omega) ?_ | refine leq_f (by omega) ?_ | refine gtr_t (by omega) ?_ | refine gtr_f (by omega) ?_ | refine geq_t (by omega) ?_ | refine geq_f (by omega) ?_ | refine eql_t (by omega) ?_ | refine eql_f (by omega) ?_ | refine neq_t (by omega) ?_ | refine neq_f (by omega) ?_ | refine bindP_mk (by simp (disch := first | omega | exact Int.natCast_nonneg _ | assumption) only [BB, decide_true, decide_false, Bool.not_true, Bool.not_false, Option.bind_some, T.get_upd_same, T.get_upd_ne, if_pos, Nat.zero_add, Nat.mul_one, Nat.add_zero, Int.toNat_natCast, ↓reduceIte, Nat.reduceLeDiff, Nat.reduceAdd, Nat.le_refl, g2, hll] <;> rfl) ?_ | refine newP_mk ?_ | refine optP_mk ?_ | with_reducible refine condP_t ?_ | with_reducible refine condP_f ?_ | with_reducible refine ifP_tt' ?_ | with_reducible refine ifP_ff' ?_ | with_reducible refine ifP_tf' ?_ | with_reducible refine ifP_ft' ?_ | with_reducible refine ifP_u' ?_ | refine optP_mk0 ?_))
    refine lss_s (fun hk => ?_) (fun hk => ?_)
    · have hk : k < c.l.length := by omega
      have hin := fits_at hft hk
      have hdl := held_len hr hft hk
      rw [drop_cons hk, List.any_cons] at hr2
      obtain ⟨x, ⟨nv, rfl, hn1⟩, hx2, hx3, hx4, hx5⟩ := hl.at hk
      generalize c.l[k] = d at hr2 hx2 hx3 hx5 hn1 hin hdl
      obtain ⟨i1, i2, i3, i4⟩ := hin
      have hix := hl.ix .i64 hk
      have hp0 := hx5 0 _ rfl
      have hnl := next_len hr i1 i2
      obtain ⟨pv, q1, q2, p3, p4, p5, p6⟩ := P_at hP (i := d.p) i1 i2
      have p7 := p6 8 _ rfl
      (repeat (first | refine lss_t (by omega) ?_ | refine lss_f (by omega) ?_ | refine leq_t (by omega) ?_ | refine leq_f (by omega) ?_ | refine gtr_t (by omega) ?_ | refine gtr_f (by omega) ?_ | refine geq_t (by omega) ?_ | refine geq_f (by omega) ?_ | refine eql_t (by omega) ?_ | refine eql_f (by omega) ?_ | refine neq_t (by omega) ?_ | refine neq_f (by omega) ?_ | refine bindP_mk (by simp (disch := first | omega | exact Int.natCast_nonneg _ | assumption) only [BB, decide_true, decide_false, Bool.not_true, Bool.not_false, Option.bind_some, T.get_upd_same, T.get_upd_ne, if_pos, Nat.zero_add, Nat.mul_one, Nat.add_zero, Int.toNat_natCast, ↓reduceIte, Nat.reduceLeDiff, Nat.reduceAdd, Nat.le_refl] <;> rfl) ?_ | refine newP_mk ?_ | refine optP_mk ?_ | with_reducible refine condP_t ?_ | with_reducible refine condP_f ?_ | with_reducible refine ifP_tt' ?_ | with_reducible refine ifP_ff' ?_ | with_reducible refine ifP_tf' ?_ | with_reducible refine ifP_ft' ?_ | with_reducible refine ifP_u' ?_ | refine optP_mk0 ?_))
      refine bindP_mk (loadA_all (l := [a, b]) g1 rfl) ?_
      (repeat (first | refine lss_t (by omega) ?_ | refine lss_f (by omega) ?_ | refine leq_t (by omega) ?_ | refine leq_f (by omega) ?_ | refine gtr_t (by omega) ?_ | refine gtr_f (by omega) ?_ | refine geq_t (by omega) ?_ | refine geq_f (by omega) ?_ | refine eql_t (by omega) ?_ | refine eql_f (by omega) ?_ | refine neq_t (by omega) ?_ | refine neq_f (by omega) ?_ | refine bindP_mk (by simp (disch := first | omega | exact Int.natCast_nonneg _ | assumption) only [BB, decide_true, decide_false, Bool.not_true, Bool.not_false, Option.bind_some, T.get_upd_same, T.get_upd_ne, if_pos, Nat.zero_add, Nat.mul_one, Nat.add_zero, Int.toNat_natCast, ↓reduceIte, Nat.reduceLeDiff, Nat.reduceAdd, Nat.le_refl, g2, hix, hx3] <;> rfl) ?_ | refine newP_mk ?_ | refine optP_mk ?_ | with_reducible refine condP_t ?_ | with_reducible refine condP_f ?_ | with_reducible refine ifP_tt' ?_ | with_reducible refine ifP_ff' ?_ | with_reducible refine ifP_tf' ?_ | with_reducible refine ifP_ft' ?_ | with_reducible refine ifP_u' ?_ | refine optP_mk0 ?_))
      refine ref10_ripe_c i1 i2 i3 (by omega) (hf2.mono (by omega)) hG hn1 fun n hn => ?_
      have hno : ∀ (e' : Env) n, e' 2 = .int .i64 q → e' 3 = ptr nx → e' 4 = ptr (nx + 1) → e' 7 = .int .i64 ((k : Int) + 1) → (ripeD g d && (g.at d.p).next.contains q) = false → nx + 2 ≤ n → Q' .normal e' h' n := fun e' n f2 f3 f4 f7 hc hn => by
        rw [hc, Bool.false_or] at hr2
        exact hq (j - 1) _ _ _ _ (by omega) ⟨k + 1, by omega, hn, rfl, f2, f3, f4, f7, hr2⟩ (Sub.refl _)
      cases hri : ripeD g d with
      | false =>
        (repeat (first | refine lss_t (by omega) ?_ | refine lss_f (by omega) ?_ | refine leq_t (by omega) ?_ | refine leq_f (by omega) ?_ | refine gtr_t (by omega) ?_ | refine gtr_f (by omega) ?_ | refine geq_t (by omega) ?_ | refine geq_f (by omega) ?_ | refine eql_t (by omega) ?_ | refine eql_f (by omega) ?_ | refine neq_t (by omega) ?_ | refine neq_f (by omega) ?_ | refine bindP_mk (by simp (disch := first | omega | exact Int.natCast_nonneg _ | assumption) only [BB, decide_true, decide_false, Bool.not_true, Bool.not_false, Option.bind_some, T.get_upd_same, T.get_upd_ne, if_pos, Nat.zero_add, Nat.mul_one, Nat.add_zero, Int.toNat_natCast, ↓reduceIte, Nat.reduceLeDiff, Nat.reduceAdd, Nat.le_refl] <;> rfl) ?_ | refine newP_mk ?_ | refine optP_mk ?_ | with_reducible refine condP_t ?_ | with_reducible refine condP_f ?_ | with_reducible refine ifP_tt' ?_ | with_reducible refine ifP_ff' ?_ | with_reducible refine ifP_tf' ?_ | with_reducible refine ifP_ft' ?_ | with_reducible refine ifP_u' ?_ | refine optP_mk0 ?_))
        exact hno _ _ e2 e3 e4 rfl (by rw [hri]; rfl) (by omega)
      | true =>
        (repeat (first | refine lss_t (by omega) ?_ | refine lss_f (by omega) ?_ | refine leq_t (by omega) ?_ | refine leq_f (by omega) ?_ | refine gtr_t (by omega) ?_ | refine gtr_f (by omega) ?_ | refine geq_t (by omega) ?_ | refine geq_f (by omega) ?_ | refine eql_t (by omega) ?_ | refine eql_f (by omega) ?_ | refine neq_t (by omega) ?_ | refine neq_f (by omega) ?_ | refine bindP_mk (by simp (disch := first | omega | exact Int.natCast_nonneg _ | assumption) only [BB, decide_true, decide_false, Bool.not_true, Bool.not_false, Option.bind_some, T.get_upd_same, T.get_upd_ne, if_pos, Nat.zero_add, Nat.mul_one, Nat.add_zero, Int.toNat_natCast, ↓reduceIte, Nat.reduceLeDiff, Nat.reduceAdd, Nat.le_refl, g1, g2, hix, hx4, hp0, p3, p5, p7] <;> rfl) ?_ | refine newP_mk ?_ | refine optP_mk ?_ | with_reducible refine condP_t ?_ | with_reducible refine condP_f ?_ | with_reducible refine ifP_tt' ?_ | with_reducible refine ifP_ff' ?_ | with_reducible refine ifP_tf' ?_ | with_reducible refine ifP_ft' ?_ | with_reducible refine ifP_u' ?_ | refine optP_mk0 ?_))
        refine ref10_in_c (by omega) q1 fun n2 hn2 => ?_
        cases hct : (g.at d.p).next.contains q with
        | true =>
          (repeat (first | refine lss_t (by omega) ?_ | refine lss_f (by omega) ?_ | refine leq_t (by omega) ?_ | refine leq_f (by omega) ?_ | refine gtr_t (by omega) ?_ | refine gtr_f (by omega) ?_ | refine geq_t (by omega) ?_ | refine geq_f (by omega) ?_ | refine eql_t (by omega) ?_ | refine eql_f (by omega) ?_ | refine neq_t (by omega) ?_ | refine neq_f (by omega) ?_ | refine bindP_mk (by simp (disch := first | omega | exact Int.natCast_nonneg _ | assumption) only [BB, decide_true, decide_false, Bool.not_true, Bool.not_false, Option.bind_some, T.get_upd_same, T.get_upd_ne, if_pos, Nat.zero_add, Nat.mul_one, Nat.add_zero, Int.toNat_natCast, ↓reduceIte, Nat.reduceLeDiff, Nat.reduceAdd, Nat.le_refl] <;> rfl) ?_ | refine newP_mk ?_ | refine optP_mk ?_ | with_reducible refine condP_t ?_ | with_reducible refine condP_f ?_ | with_reducible refine ifP_tt' ?_ | with_reducible refine ifP_ff' ?_ | with_reducible refine ifP_tf' ?_ | with_reducible refine ifP_ft' ?_ | with_reducible refine ifP_u' ?_ | refine optP_mk0 ?_))
          refine hx _ _ _ _ (fun e => by cases e) (exP_r ?_)
          exact ⟨h, hs, kb hK (by rw [← hr2, hri, hct]; rfl) (by omega)⟩
        | false =>
          (repeat (first | refine lss_t (by omega) ?_ | refine lss_f (by omega) ?_ | refine leq_t (by omega) ?_ | refine leq_f (by omega) ?_ | refine gtr_t (by omega) ?_ | refine gtr_f (by omega) ?_ | refine geq_t (by omega) ?_ | refine geq_f (by omega) ?_ | refine eql_t (by omega) ?_ | refine eql_f (by omega) ?_ | refine neq_t (by omega) ?_ | refine neq_f (by omega) ?_ | refine bindP_mk (by simp (disch := first | omega | exact Int.natCast_nonneg _ | assumption) only [BB, decide_true, decide_false, Bool.not_true, Bool.not_false, Option.bind_some, T.get_upd_same, T.get_upd_ne, if_pos, Nat.zero_add, Nat.mul_one, Nat.add_zero, Int.toNat_natCast, ↓reduceIte, Nat.reduceLeDiff, Nat.reduceAdd, Nat.le_refl] <;> rfl) ?_ | refine newP_mk ?_ | refine optP_mk ?_ | with_reducible refine condP_t ?_ | with_reducible refine condP_f ?_ | with_reducible refine ifP_tt' ?_ | with_reducible refine ifP_ff' ?_ | with_reducible refine ifP_tf' ?_ | with_reducible refine ifP_ft' ?_ | with_reducible refine ifP_u' ?_ | refine optP_mk0 ?_))
          exact hno _ _ e2 e3 e4 rfl (by rw [hri, hct]; rfl) (by omega)
    · (repeat (first | refine lss_t (by omega) ?_ | refine lss_f (by omega) ?_ | refine leq_t (by omega) ?_ | refine leq_f (by omega) ?_ | refine gtr_t (by omega) ?_ | refine gtr_f (by omega) ?_ | refine geq_t (by omega) ?_ | refine geq_f (by omega) ?_ | refine eql_t (by omega) ?_ | refine eql_f (by omega) ?_ | refine neq_t (by omega) ?_ | refine neq_f (by omega) ?_ | refine bindP_mk (by simp (disch := first | omega | exact Int.natCast_nonneg _ | assumption) only [BB, decide_true, decide_false, Bool.not_true, Bool.not_false, Option.bind_some, T.get_upd_same, T.get_upd_ne, if_pos, Nat.zero_add, Nat.mul_one, Nat.add_zero, Int.toNat_natCast, ↓reduceIte, Nat.reduceLeDiff, Nat.reduceAdd, Nat.le_refl] <;> rfl) ?_ | refine newP_mk ?_ | refine optP_mk ?_ | with_reducible refine condP_t ?_ | with_reducible refine condP_f ?_ | with_reducible refine ifP_tt' ?_ | with_reducible refine ifP_ff' ?_ | with_reducible refine ifP_tf' ?_ | with_reducible refine ifP_ft' ?_ | with_reducible refine ifP_u' ?_ | refine optP_mk0 ?_))
      refine hx _ _ _ _ (fun e => by cases e) (exP_e (beqP_t ?_))
      unfold ref10_enters_j1
      rw [drop_all (by omega)] at hr2
      exact ⟨h, hs, kb hK hr2.symm (by omega)⟩
set_option maxRecDepth 4000 in
theorem ref10_stays_c {ro : Ro} {v w : Value} {g : GlD} {c : CfgD} {q : Int} (hr : rightD g = true) (hft : fitsD g c = true) (hq0 : 0 ≤ q) (hq1 : q < g.p.length) {h : T Obj} {nx : Nat} {K : KV} (hf : Fr h nx) (hg : RG ro h v g) (hc : RCfg ro h w c)
    (hK : ∀ r h' nx', nx ≤ nx' → Sub h h' → Fr h' nx' → OwnT h' r 1 y_int (intsZ (staysL g q c.l)) nx → K r h' nx') : callP Try.prog ro i_ref10_stays [v, w, .int .i64 q] h nx K := by
  obtain ⟨a, b, rfl, ha, hP0⟩ := hg
  obtain ⟨a2, rfl, hl0⟩ := hc
  apply ref10_stays_of
  unfold ref10_stays
  refine param_mk hf (Nat.le_refl _) fun h1 hs1 hf1 g1 _ => ?_
  refine param_mk hf1 (Nat.le_refl _) fun h2 hs2 hf2 g2 _ => ?_
  have g1 := hs2 _ _ g1
  have hs := hs1.trans hs2
  have hP0 := hP0.sub hs (RPos.sub hs)
  have hl0 := hl0.sub hs (RHeld.sub hs)
  have hlen := right_len hr
  have hlen2 := fits_len hft
  have hmay := may_spec (right_at hr hq0 hq1)
  have hbound : ∀ k, (staysL g q (c.l.take k)).length ≤ 2500000 := fun k => by
    have h1 := stays_len (g := g) (q := q) (l := c.l.take k) fun x hx => held_all hr hft x (List.mem_of_mem_take hx)
    have h2 : (c.l.take k).length ≤ 512 := by rw [List.length_take]; omega
    have h3 : (c.l.take k).length * 4096 ≤ 512 * 4096 := Nat.mul_le_mul_right _ h2
    omega
  refine loopP_rule (fun j e h' nx' => ∃ (k : Nat) (ov : Value), k + j = c.l.length ∧ nx + 2 ≤ nx' ∧ Sub h2 h' ∧ Fr h' nx' ∧ OwnT h' ov 1 y_int (intsZ (staysL g q (c.l.take k))) (nx + 2) ∧ e 2 = .int .i64 q ∧ e 3 = ptr nx ∧ e 4 = ptr (nx + 1) ∧ e 7 = ov ∧ e 8 = .int .i64 k) ?_ (n := c.l.length) ⟨0, _, by omega, by omega, Sub.refl _, hf2.mono (by omega), OwnT.nil, rfl, rfl, rfl, rfl, rfl⟩
  rintro j e h' nx' ⟨k, ov, hj, hnx, hsb, hf', hO, e2, e3, e4, e7, e8⟩ Q' hq hx
  unfold ref10_stays_L1
  rw [e2, e4, e8]
  have hP := hP0.sub hsb (RPos.sub hsb)
  have hl := hl0.sub hsb (RHeld.sub hsb)
  have hll := hl.len
  have k1 := hsb _ _ g1
  have k2 := hsb _ _ g2
  (repeat (first | refine lss_t (by omega) ?_ | refine lss_f (by omega) ?_ | refine leq_t (by omega) ?_ | refine leq_f (by omega) ?_ | refine gtr_t (by omega) ?_ | refine gtr_f (by omega) ?_ | refine geq_t (by omega) ?_ | refine geq_f (by omega) ?_ | refine eql_t (by omega) ?_ | refine eql_f (by omega) ?_ | refine neq_t (by omega) ?_ | refine neq_f (by omega) ?_ | refine bindP_mk (by simp (disch := first | omega | exact Int.natCast_nonneg _ | assumption) only [BB, decide_true, decide_false, Bool.not_true, Bool.not_false, Option.bind_some, T.get_upd_same, T.get_upd_ne, if_pos, Nat.zero_add, Nat.mul_one, Nat.add_zero, Int.toNat_natCast, ↓reduceIte, Nat.reduceLeDiff, Nat.reduceAdd, Nat.le_refl, k2, hll] <;> rfl) ?_ | refine newP_mk ?_ | refine optP_mk ?_ | with_reducible refine condP_t ?_ | with_reducible refine condP_f ?_ | with_reducible refine ifP_tt' ?_ | with_reducible refine ifP_ff' ?_ | with_reducible refine ifP_tf' ?_ | with_reducible refine ifP_ft' ?_ | with_reducible refine ifP_u' ?_ | refine optP_mk0 ?_))
  refine lss_s (fun hk => ?_) (fun hk => ?_)
  · have hk : k < c.l.length := by omega
    have hin := fits_at hft hk
    have hdl := held_len hr hft hk
    have htk : c.l.take (k + 1) = c.l.take k ++ [c.l[k]] := List.take_succ_eq_append_getElem hk
    obtain ⟨x, ⟨nv, rfl, hn1⟩, hx2, hx3, hx4, hx5⟩ := hl0.at hk
    generalize c.l[k] = d at hx2 hx3 hx5 hn1 hin hdl htk
    obtain ⟨i1, i2, i3, i4⟩ := hin
    have hix := hl.ix .i64 hk
    have hp0 := load1_sub hsb (hx5 0 _ rfl)
    have hb0 := hbound k
    have hok : ∀ (e' : Env) h4 n ov', Sub h2 h4 → Fr h4 n → OwnT h4 ov' 1 y_int (intsZ (staysL g q (c.l.take (k + 1)))) (nx + 2) → e' 2 = .int .i64 q → e' 3 = ptr nx → e' 4 = ptr (nx + 1) → e' 7 = ov' → e' 8 = .int .i64 k → nx + 2 ≤ n → ref10_stays_j2 ro Q' e' h4 n := by
      intro e' h4 n ov' s1 s2 s3 f2 f3 f4 f7 f8 hn
      unfold ref10_stays_j2
      rw [f8]
      (repeat (first | refine lss_t (by omega) ?_ | refine lss_f (by omega) ?_ | refine leq_t (by omega) ?_ | refine leq_f (by omega) ?_ | refine gtr_t (by omega) ?_ | refine gtr_f (by omega) ?_ | refine geq_t (by omega) ?_ | refine geq_f (by omega) ?_ | refine eql_t (by omega) ?_ | refine eql_f (by omega) ?_ | refine neq_t (by omega) ?_ | refine neq_f (by omega) ?_ | refine bindP_mk (by simp (disch := first | omega | exact Int.natCast_nonneg _ | assumption) only [BB, decide_true, decide_false, Bool.not_true, Bool.not_false, Option.bind_some, T.get_upd_same, T.get_upd_ne, if_pos, Nat.zero_add, Nat.mul_one, Nat.add_zero, Int.toNat_natCast, ↓reduceIte, Nat.reduceLeDiff, Nat.reduceAdd, Nat.le_refl] <;> rfl) ?_ | refine newP_mk ?_ | refine optP_mk ?_ | with_reducible refine condP_t ?_ | with_reducible refine condP_f ?_ | with_reducible refine ifP_tt' ?_ | with_reducible refine ifP_ff' ?_ | with_reducible refine ifP_tf' ?_ | with_reducible refine ifP_ft' ?_ | with_reducible refine ifP_u' ?_ | refine optP_mk0 ?_))
      exact hq (j - 1) _ _ _ _ (by omega) ⟨k + 1, ov', by omega, by omega, s1, s2.mono (by omega), s3, f2, f3, f4, f7, rfl⟩ (Sub.refl _)
    rw [htk, stays_snoc] at hok
    (repeat (first | refine lss_t (by omega) ?_ | refine lss_f (by omega) ?_ | refine leq_t (by omega) ?_ | refine leq_f (by omega) ?_ | refine gtr_t (by omega) ?_ | refine gtr_f (by omega) ?_ | refine geq_t (by omega) ?_ | refine geq_f (by omega) ?_ | refine eql_t (by omega) ?_ | refine eql_f (by omega) ?_ | refine neq_t (by omega) ?_ | refine neq_f (by omega) ?_ | refine bindP_mk (by simp (disch := first | omega | exact Int.natCast_nonneg _ | assumption) only [BB, decide_true, decide_false, Bool.not_true, Bool.not_false, Option.bind_some, T.get_upd_same, T.get_upd_ne, if_pos, Nat.zero_add, Nat.mul_one, Nat.add_zero, Int.toNat_natCast, ↓reduceIte, Nat.reduceLeDiff, Nat.reduceAdd, Nat.le_refl, k2, hix, hx4, hp0] <;> rfl) ?_ | refine newP_mk ?_ | refine optP_mk ?_ | with_reducible refine condP_t ?_ | with_reducible refine condP_f ?_ | with_reducible refine ifP_tt' ?_ | with_reducible refine ifP_ff' ?_ | with_reducible refine ifP_tf' ?_ | with_reducible refine ifP_ft' ?_ | with_reducible refine ifP_u' ?_ | refine optP_mk0 ?_))
    refine neq_s (fun he => ?_) (fun he => ?_)
    · (repeat (first | refine lss_t (by omega) ?_ | refine lss_f (by omega) ?_ | refine leq_t (by omega) ?_ | refine leq_f (by omega) ?_ | refine gtr_t (by omega) ?_ | refine gtr_f (by omega) ?_ | refine geq_t (by omega) ?_ | refine geq_f (by omega) ?_ | refine eql_t (by omega) ?_ | refine eql_f (by omega) ?_ | refine neq_t (by omega) ?_ | refine neq_f (by omega) ?_ | refine bindP_mk (by simp (disch := first | omega | exact Int.natCast_nonneg _ | assumption) only [BB, decide_true, decide_false, Bool.not_true, Bool.not_false, Option.bind_some, T.get_upd_same, T.get_upd_ne, if_pos, Nat.zero_add, Nat.mul_one, Nat.add_zero, Int.toNat_natCast, ↓reduceIte, Nat.reduceLeDiff, Nat.reduceAdd, Nat.le_refl] <;> rfl) ?_ | refine newP_mk ?_ | refine optP_mk ?_ | with_reducible refine condP_t ?_ | with_reducible refine condP_f ?_ | with_reducible refine ifP_tt' ?_ | with_reducible refine ifP_ff' ?_ | with_reducible refine ifP_tf' ?_ | with_reducible refine ifP_ft' ?_ | with_reducible refine ifP_u' ?_ | refine optP_mk0 ?_))
      exact hok _ _ _ ov hsb (hf'.mono (by omega)) (by rw [if_neg he, List.append_nil]; exact hO) e2 e3 e4 e7 e8 (by omega)
    · rw [if_pos he] at hok
      (repeat (first | refine lss_t (by omega) ?_ | refine lss_f (by omega) ?_ | refine leq_t (by omega) ?_ | refine leq_f (by omega) ?_ | refine gtr_t (by omega) ?_ | refine gtr_f (by omega) ?_ | refine geq_t (by omega) ?_ | refine geq_f (by omega) ?_ | refine eql_t (by omega) ?_ | refine eql_f (by omega) ?_ | refine neq_t (by omega) ?_ | refine neq_f (by omega) ?_ | refine bindP_mk (by simp (disch := first | omega | exact Int.natCast_nonneg _ | assumption) only [BB, decide_true, decide_false, Bool.not_true, Bool.not_false, Option.bind_some, T.get_upd_same, T.get_upd_ne, if_pos, Nat.zero_add, Nat.mul_one, Nat.add_zero, Int.toNat_natCast, ↓reduceIte, Nat.reduceLeDiff, Nat.reduceAdd, Nat.le_refl] <;> rfl) ?_ | refine newP_mk ?_ | refine optP_mk ?_ | with_reducible refine condP_t ?_ | with_reducible refine condP_f ?_ | with_reducible refine ifP_tt' ?_ | with_reducible refine ifP_ff' ?_ | with_reducible refine ifP_tf' ?_ | with_reducible refine ifP_ft' ?_ | with_reducible refine ifP_u' ?_ | refine optP_mk0 ?_))
      refine loopP_rule (fun j2 e' h4 n4 => ∃ (k2 : Nat) (ov2 : Value), k2 + j2 = d.n.length ∧ nx + 2 ≤ n4 ∧ Sub h2 h4 ∧ Fr h4 n4 ∧ OwnT h4 ov2 1 y_int (intsZ (staysL g q (c.l.take k) ++ upD (g.at q).hi (d.n.take k2))) (nx + 2) ∧ e' 2 = .int .i64 q ∧ e' 3 = ptr nx ∧ e' 4 = ptr (nx + 1) ∧ e' 7 = ov2 ∧ e' 8 = .int .i64 k ∧ e' 9 = .int .i64 k2) ?_ (n := d.n.length) ⟨0, ov, by omega, by omega, hsb, hf'.mono (by omega), by simpa [upD] using hO, e2, e3, e4, e7, e8, rfl⟩
      rintro j2 e' h4 n4 ⟨k3, ov2, hj2, hn4, hsb4, hf4, hO4, f2, f3, f4, f7, f8, f9⟩ Q2 hq2 hx2'
      unfold ref10_stays_L2
      rw [f2, f3, f4, f7, f8, f9]
      have hp1 := load1_sub hsb4 (hx5 1 _ rfl)
      have hn4' := hn1.sub hsb4
      have hnl := hn4'.len
      have j1 := hsb4 _ _ g1
      have j2' := hsb4 _ _ g2
      obtain ⟨pv, q1, q2, p3, p4, p5, p6⟩ := P_at (hP0.sub hsb4 (RPos.sub hsb4)) (i := q) hq0 hq1
      have p7 := p6 5 _ rfl
      (repeat (first | refine lss_t (by omega) ?_ | refine lss_f (by omega) ?_ | refine leq_t (by omega) ?_ | refine leq_f (by omega) ?_ | refine gtr_t (by omega) ?_ | refine gtr_f (by omega) ?_ | refine geq_t (by omega) ?_ | refine geq_f (by omega) ?_ | refine eql_t (by omega) ?_ | refine eql_f (by omega) ?_ | refine neq_t (by omega) ?_ | refine neq_f (by omega) ?_ | refine bindP_mk (by simp (disch := first | omega | exact Int.natCast_nonneg _ | assumption) only [BB, decide_true, decide_false, Bool.not_true, Bool.not_false, Option.bind_some, T.get_upd_same, T.get_upd_ne, if_pos, Nat.zero_add, Nat.mul_one, Nat.add_zero, Int.toNat_natCast, ↓reduceIte, Nat.reduceLeDiff, Nat.reduceAdd, Nat.le_refl, j2', hix, hx4, hp1, hnl] <;> rfl) ?_ | refine newP_mk ?_ | refine optP_mk ?_ | with_reducible refine condP_t ?_ | with_reducible refine condP_f ?_ | with_reducible refine ifP_tt' ?_ | with_reducible refine ifP_ff' ?_ | with_reducible refine ifP_tf' ?_ | with_reducible refine ifP_ft' ?_ | with_reducible refine ifP_u' ?_ | refine optP_mk0 ?_))
      refine lss_s (fun hk3 => ?_) (fun hk3 => ?_)
      · have hk3 : k3 < d.n.length := by omega
        have hym := rz_mem i4 _ (List.getElem_mem hk3)
        have hyx := hn4'.ix .i64 hk3
        have hy1 := hn4'.load hk3
        have htk2 : d.n.take (k3 + 1) = d.n.take k3 ++ [d.n[k3]] := List.take_succ_eq_append_getElem hk3
        generalize d.n[k3] = y at hym hy1 htk2
        have hok2 : ∀ (e5 : Env) h5 n5 ov5, Sub h2 h5 → Fr h5 n5 → OwnT h5 ov5 1 y_int (intsZ (staysL g q (c.l.take k) ++ upD (g.at q).hi (d.n.take (k3 + 1)))) (nx + 2) → e5 2 = .int .i64 q → e5 3 = ptr nx → e5 4 = ptr (nx + 1) → e5 7 = ov5 → e5 8 = .int .i64 k → e5 9 = .int .i64 k3 → nx + 2 ≤ n5 → ref10_stays_j3 ro Q2 e5 h5 n5 := by
          intro e5 h5 n5 ov5 s1 s2 s3 t2 t3 t4 t7 t8 t9 hn
          unfold ref10_stays_j3
          rw [t9]
          (repeat (first | refine lss_t (by omega) ?_ | refine lss_f (by omega) ?_ | refine leq_t (by omega) ?_ | refine leq_f (by omega) ?_ | refine gtr_t (by omega) ?_ | refine gtr_f (by omega) ?_ | refine geq_t (by omega) ?_ | refine geq_f (by omega) ?_ | refine eql_t (by omega) ?_ | refine eql_f (by omega) ?_ | refine neq_t (by omega) ?_ | refine neq_f (by omega) ?_ | refine bindP_mk (by simp (disch := first | omega | exact Int.natCast_nonneg _ | assumption) only [BB, decide_true, decide_false, Bool.not_true, Bool.not_false, Option.bind_some, T.get_upd_same, T.get_upd_ne, if_pos, Nat.zero_add, Nat.mul_one, Nat.add_zero, Int.toNat_natCast, ↓reduceIte, Nat.reduceLeDiff, Nat.reduceAdd, Nat.le_refl] <;> rfl) ?_ | refine newP_mk ?_ | refine optP_mk ?_ | with_reducible refine condP_t ?_ | with_reducible refine condP_f ?_ | with_reducible refine ifP_tt' ?_ | with_reducible refine ifP_ff' ?_ | with_reducible refine ifP_tf' ?_ | with_reducible refine ifP_ft' ?_ | with_reducible refine ifP_u' ?_ | refine optP_mk0 ?_))
          exact hq2 (j2 - 1) _ _ _ _ (by omega) ⟨k3 + 1, ov5, by omega, by omega, s1, s2.mono (by omega), s3, t2, t3, t4, t7, t8, rfl⟩ (Sub.refl _)
        rw [htk2, upD_snoc] at hok2
        (repeat (first | refine lss_t (by omega) ?_ | refine lss_f (by omega) ?_ | refine leq_t (by omega) ?_ | refine leq_f (by omega) ?_ | refine gtr_t (by omega) ?_ | refine gtr_f (by omega) ?_ | refine geq_t (by omega) ?_ | refine geq_f (by omega) ?_ | refine eql_t (by omega) ?_ | refine eql_f (by omega) ?_ | refine neq_t (by omega) ?_ | refine neq_f (by omega) ?_ | refine bindP_mk (by simp (disch := first | omega | exact Int.natCast_nonneg _ | assumption) only [BB, decide_true, decide_false, Bool.not_true, Bool.not_false, Option.bind_some, T.get_upd_same, T.get_upd_ne, if_pos, Nat.zero_add, Nat.mul_one, Nat.add_zero, Int.toNat_natCast, ↓reduceIte, Nat.reduceLeDiff, Nat.reduceAdd, Nat.le_refl, j2', hix, hx4, hp1, hyx, hy1, j1, p3, p5, p7] <;> rfl) ?_ | refine newP_mk ?_ | refine optP_mk ?_ | with_reducible refine condP_t ?_ | with_reducible refine condP_f ?_ | with_reducible refine ifP_tt' ?_ | with_reducible refine ifP_ff' ?_ | with_reducible refine ifP_tf' ?_ | with_reducible refine ifP_ft' ?_ | with_reducible refine ifP_u' ?_ | refine optP_mk0 ?_))
        rw [he] at hym
        refine lss_s (fun hlt => ?_) (fun hlt => ?_)
        · obtain ⟨i, z1, z2, z3⟩ := tin_int
          rw [if_pos hlt, ← List.append_assoc] at hok2
          (repeat (first | refine lss_t (by omega) ?_ | refine lss_f (by omega) ?_ | refine leq_t (by omega) ?_ | refine leq_f (by omega) ?_ | refine gtr_t (by omega) ?_ | refine gtr_f (by omega) ?_ | refine geq_t (by omega) ?_ | refine geq_f (by omega) ?_ | refine eql_t (by omega) ?_ | refine eql_f (by omega) ?_ | refine neq_t (by omega) ?_ | refine neq_f (by omega) ?_ | refine bindP_mk (by simp (disch := first | omega | exact Int.natCast_nonneg _ | assumption) only [BB, decide_true, decide_false, Bool.not_true, Bool.not_false, Option.bind_some, T.get_upd_same, T.get_upd_ne, if_pos, Nat.zero_add, Nat.mul_one, Nat.add_zero, Int.toNat_natCast, ↓reduceIte, Nat.reduceLeDiff, Nat.reduceAdd, Nat.le_refl, j2', hix, hx4, hp1, hyx, hy1] <;> rfl) ?_ | refine newP_mk ?_ | refine optP_mk ?_ | with_reducible refine condP_t ?_ | with_reducible refine condP_f ?_ | with_reducible refine ifP_tt' ?_ | with_reducible refine ifP_ff' ?_ | with_reducible refine ifP_tf' ?_ | with_reducible refine ifP_ft' ?_ | with_reducible refine ifP_u' ?_ | refine optP_mk0 ?_))
          have hul := upD_len (g.at q).hi (d.n.take k3)
          have hul2 : (d.n.take k3).length ≤ d.n.length := by rw [List.length_take]; omega
          have hlw : (intsZ (staysL g q (c.l.take k) ++ upD (g.at q).hi (d.n.take k3))).length ≤ 3100000 := by rw [intsZ_len, List.length_append]; omega
          refine append_lit (P := Try.prog) (z := 1) (e := y_int) (i := i) (nx := n4) (n1 := n4 + 36) (n2 := n4 + 38) (lo := nx + 2) (lit_i64' _ _) rfl hO4 und_ints z1 z2 (by omega) zer_int rfl rfl (by rw [z3]; unfold big; omega) (by unfold big; omega) hf4 (by omega) (by omega) (by omega) fun h5 q1 q2 q3 => ?_
          dsimp only
          have hcat : intsZ (staysL g q (c.l.take k) ++ upD (g.at q).hi (d.n.take k3)) ++ [[Value.int .i64 (y + 1)]] = intsZ (staysL g q (c.l.take k) ++ upD (g.at q).hi (d.n.take k3) ++ [y + 1]) := by simp [intsZ]
          rw [hcat] at q1 ⊢
          exact hok2 _ _ _ _ (hO4.sub q2 hf2 (Nat.le_refl _) hsb4) (q3.mono (by omega)) q1 f2 f3 f4 rfl f8 f9 (by omega)
        · (repeat (first | refine lss_t (by omega) ?_ | refine lss_f (by omega) ?_ | refine leq_t (by omega) ?_ | refine leq_f (by omega) ?_ | refine gtr_t (by omega) ?_ | refine gtr_f (by omega) ?_ | refine geq_t (by omega) ?_ | refine geq_f (by omega) ?_ | refine eql_t (by omega) ?_ | refine eql_f (by omega) ?_ | refine neq_t (by omega) ?_ | refine neq_f (by omega) ?_ | refine bindP_mk (by simp (disch := first | omega | exact Int.natCast_nonneg _ | assumption) only [BB, decide_true, decide_false, Bool.not_true, Bool.not_false, Option.bind_some, T.get_upd_same, T.get_upd_ne, if_pos, Nat.zero_add, Nat.mul_one, Nat.add_zero, Int.toNat_natCast, ↓reduceIte, Nat.reduceLeDiff, Nat.reduceAdd, Nat.le_refl] <;> rfl) ?_ | refine newP_mk ?_ | refine optP_mk ?_ | with_reducible refine condP_t ?_ | with_reducible refine condP_f ?_ | with_reducible refine ifP_tt' ?_ | with_reducible refine ifP_ff' ?_ | with_reducible refine ifP_tf' ?_ | with_reducible refine ifP_ft' ?_ | with_reducible refine ifP_u' ?_ | refine optP_mk0 ?_))
          exact hok2 _ _ _ ov2 hsb4 (hf4.mono (by omega)) (by rw [if_neg (by omega), List.append_nil]; exact hO4) f2 f3 f4 f7 f8 f9 (by omega)
      · (repeat (first | refine lss_t (by omega) ?_ | refine lss_f (by omega) ?_ | refine leq_t (by omega) ?_ | refine leq_f (by omega) ?_ | refine gtr_t (by omega) ?_ | refine gtr_f (by omega) ?_ | refine geq_t (by omega) ?_ | refine geq_f (by omega) ?_ | refine eql_t (by omega) ?_ | refine eql_f (by omega) ?_ | refine neq_t (by omega) ?_ | refine neq_f (by omega) ?_ | refine bindP_mk (by simp (disch := first | omega | exact Int.natCast_nonneg _ | assumption) only [BB, decide_true, decide_false, Bool.not_true, Bool.not_false, Option.bind_some, T.get_upd_same, T.get_upd_ne, if_pos, Nat.zero_add, Nat.mul_one, Nat.add_zero, Int.toNat_natCast, ↓reduceIte, Nat.reduceLeDiff, Nat.reduceAdd, Nat.le_refl] <;> rfl) ?_ | refine newP_mk ?_ | refine optP_mk ?_ | with_reducible refine condP_t ?_ | with_reducible refine condP_f ?_ | with_reducible refine ifP_tt' ?_ | with_reducible refine ifP_ff' ?_ | with_reducible refine ifP_tf' ?_ | with_reducible refine ifP_ft' ?_ | with_reducible refine ifP_u' ?_ | refine optP_mk0 ?_))
        refine hx2' _ _ _ _ (fun e => by cases e) (exP_e (beqP_t ?_))
        rw [List.take_of_length_le (show d.n.length ≤ k3 by omega)] at hO4
        exact hok _ _ _ ov2 hsb4 (hf4.mono (by omega)) (by rw [he] at *; exact hO4) f2 f3 f4 f7 f8 (by omega)
  · (repeat (first | refine lss_t (by omega) ?_ | refine lss_f (by omega) ?_ | refine leq_t (by omega) ?_ | refine leq_f (by omega) ?_ | refine gtr_t (by omega) ?_ | refine gtr_f (by omega) ?_ | refine geq_t (by omega) ?_ | refine geq_f (by omega) ?_ | refine eql_t (by omega) ?_ | refine eql_f (by omega) ?_ | refine neq_t (by omega) ?_ | refine neq_f (by omega) ?_ | refine bindP_mk (by simp (disch := first | omega | exact Int.natCast_nonneg _ | assumption) only [BB, decide_true, decide_false, Bool.not_true, Bool.not_false, Option.bind_some, T.get_upd_same, T.get_upd_ne, if_pos, Nat.zero_add, Nat.mul_one, Nat.add_zero, Int.toNat_natCast, ↓reduceIte, Nat.reduceLeDiff, Nat.reduceAdd, Nat.le_refl] <;> rfl) ?_ | refine newP_mk ?_ | refine optP_mk ?_ | with_reducible refine condP_t ?_ | with_reducible refine condP_f ?_ | with_reducible refine ifP_tt' ?_ | with_reducible refine ifP_ff' ?_ | with_reducible refine ifP_tf' ?_ | with_reducible refine ifP_ft' ?_ | with_reducible refine ifP_u' ?_ | refine optP_mk0 ?_))
    refine hx _ _ _ _ (fun e => by cases e) (exP_e (beqP_t ?_))
    unfold ref10_stays_j1
    rw [List.take_of_length_le (by omega)] at hO
    refine ⟨h', Sub.refl _, ?_⟩
    show K (e 7) h' _
    rw [e7]
    exact hK _ _ _ (by omega) (hs.trans hsb) (hf'.mono (by omega)) (hO.mono (by omega))
end V
end Go.Proofs.Ytepbdkfkfcckoaa

/- What the reference's step, Step hand back.
   No condition. -/
set_option linter.unusedVariables false
set_option linter.unusedSimpArgs false
namespace Go.Proofs.Ytepbdkfkfcckoaa
namespace V
open PA
attribute [local irreducible] bindP ifP condP newP optP exP beqP
def stepK (g : GlD) (c : CfgD) (b k : Nat) : List HeldD := (List.range k).flatMap fun q : Nat => heldOf q (cntD g c b q)
theorem stepK_succ (g : GlD) (c : CfgD) (b k : Nat) : stepK g c b (k + 1) = stepK g c b k ++ heldOf k (cntD g c b k) := by simp [stepK, List.range_succ]
theorem stepK_len (g : GlD) (c : CfgD) (b : Nat) : ∀ k, (stepK g c b k).length ≤ k
  | 0 => by simp [stepK]
  | k + 1 => by
    rw [stepK_succ, List.length_append]
    have := stepK_len g c b k
    unfold heldOf
    split <;> simp <;> omega
theorem flat_ints_ok (l : List Int) : (intsZ l).flatten.all cellOk = true := by
  induction l with
  | nil => rfl
  | cons x r ih => simp [intsZ, cellOk]
/-- Memory while the reference's step is done. -/
structure RS (h0 : T Obj) (n0 : Nat) (a b a2 : Value) (cb : Bool) (h : T Obj) (Lv : Value) (ys : List (List Value)) (Ds : List HeldD) : Prop where
  base : Sub h0 h
  places : h.get n0 = some (.cells #[a, b] y_api_Glush)
  cfg : h.get (n0 + 1) = some (.cells #[.bool cb, a2] y_api_Config)
  res : h.get (n0 + 2) = some (.cells #[.bool false, .slice none 0 0] y_api_Config)
  out : h.get (n0 + 4) = some (.cells #[.bool false, Lv] y_api_Config)
  own : OwnT h Lv 2 y_api_Held ys (n0 + 5)
  els : EL h ys Ds (n0 + 5)
theorem RS.sub {h0 h h' : T Obj} {n0 : Nat} {a b a2 Lv : Value} {cb : Bool} {ys : List (List Value)} {Ds : List HeldD} (hS : RS h0 n0 a b a2 cb h Lv ys Ds) (hs : Sub h h') : RS h0 n0 a b a2 cb h' Lv ys Ds :=
  ⟨hS.base.trans hs, hs _ _ hS.places, hs _ _ hS.cfg, hs _ _ hS.res, hs _ _ hS.out, hS.own.keepS hs, hS.els.imp fun w l ho => ho.keepS hs⟩
theorem ref10_step_end {ro : Ro} {h0 h : T Obj} {n0 nx : Nat} {a b a2 Lv : Value} {cb : Bool} {ys : List (List Value)} {Ds : List HeldD} {e : Env} {K : KV} (hf0 : Fr h0 n0) (hf : Fr h nx) (hn : n0 + 5 ≤ nx) (hS : RS h0 n0 a b a2 cb h Lv ys Ds) (e6 : e 6 = ptr (n0 + 2)) (e7 : e 7 = ptr (n0 + 4))
    (hK : ∀ r h' nx', nx ≤ nx' → Sub h0 h' → Fr h' nx' → RCfgS ro h' r ⟨false, Ds⟩ (n0 + 5) → K r h' nx') : ref10_step_j1 ro K e h nx := by
  unfold ref10_step_j1
  rw [e6, e7]
  refine bindP_mk (loadA_all (l := [.bool false, Lv]) hS.out rfl) ?_
  refine bindP_mk (storeA_own (l := [.bool false, .slice none 0 0]) (vs := [.bool false, Lv]) hS.res rfl rfl rfl (two_ok hS.own.one.2)) ?_
  refine bindP_mk (loadA_all (l := [.bool false, Lv]) (by rw [T.get_upd_same]) rfl) ?_
  have hoff : ∀ i, i ≠ n0 + 2 → (h.upd (n0 + 2) (some (.cells [Value.bool false, Lv].toArray y_api_Config))).get i = h.get i := fun i hi => T.get_upd_ne _ _ hi
  refine ⟨_, Sub.refl _, hK _ _ _ (by omega) (fun i o hi => ?_) ((hf.mono (by omega)).upd (Nat.le_refl _) (by omega)) fun h5 h5k => ⟨Lv, rfl, ?_⟩⟩
  · have := hf0.lt' hi
    rw [hoff i (by omega)]
    exact hS.base i o hi
  · have hh : ∀ k, n0 + 5 ≤ k → h5.get k = h.get k := fun k hk => by rw [h5k k hk, hoff k (by omega)]
    exact (hS.els.imp fun w l ho => ho.hi hh).slr (hS.own.hi hh).sl
set_option maxRecDepth 4000 in
set_option maxHeartbeats 1000000 in
theorem ref10_step_c {ro : Ro} {v w : Value} {g : GlD} {c : CfgD} {by_ : Nat} (hr : rightD g = true) (hft : fitsD g c = true) (hby : by_ < 256) {h : T Obj} {nx : Nat} {K : KV} (hf : Fr h nx) (hg : RG ro h v g) (hc : RCfg ro h w c)
    (hK : ∀ r h' nx', nx ≤ nx' → Sub h h' → Fr h' nx' → RCfgS ro h' r (stepD g c by_) nx → K r h' nx') : callP Try.prog ro i_ref10_step [v, w, .int .u8 (by_ : Int)] h nx K := by
  obtain ⟨a, b, rfl, ha, hP⟩ := hg
  obtain ⟨a2, rfl, hl⟩ := hc
  apply ref10_step_of
  unfold ref10_step
  have hlen := right_len hr
  have hlen2 := fits_len hft
  refine param_mk hf (Nat.le_refl _) fun h1 hs1 hf1 g1 _ => ?_
  refine param_mk hf1 (Nat.le_refl _) fun h2 hs2 hf2 g2 _ => ?_
  refine bindP_mk zer_Config ?_
  refine obj_mk hf2 (Nat.le_refl _) fun h3 hs3 hf3 g3 _ => ?_
  refine bindP_mk build_Config0 ?_
  refine local_mk (x := [.bool false, .slice none 0 0]) zer_Config rfl rfl rfl rfl hf3 (by omega) fun h4 hs4 hf4 g4 _ => ?_
  have hS0 : RS h nx a b a2 c.b h4 (.slice none 0 0) [] [] := ⟨((hs1.trans hs2).trans hs3).trans hs4, hs4 _ _ (hs3 _ _ (hs2 _ _ g1)), hs4 _ _ (hs3 _ _ g2), hs4 _ _ g3, g4, OwnT.nil, ⟨rfl, fun i y d hy => by simp at hy⟩⟩
  refine loopP_rule (fun j e h' nx' => ∃ (k : Nat) (Lv : Value) (ys : List (List Value)), k + j = g.p.length ∧ nx + 5 ≤ nx' ∧ Fr h' nx' ∧ RS h nx a b a2 c.b h' Lv ys (stepK g c by_ k) ∧ e 2 = .int .u8 (by_ : Int) ∧ e 3 = ptr nx ∧ e 4 = ptr (nx + 1) ∧ e 6 = ptr (nx + 2) ∧ e 7 = ptr (nx + 4) ∧ e 8 = .int .i64 k) ?_ (n := g.p.length)
    ⟨0, _, [], by omega, by omega, hf4.mono (by omega), hS0, rfl, rfl, rfl, rfl, rfl, rfl⟩
  rintro j e h' nx' ⟨k, Lv, ys, hj, hnx, hf', hS, e2, e3, e4, e6, e7, e8⟩ Q' hq hx
  unfold ref10_step_L1
  rw [e2, e3, e4, e8]
  have gp := hS.places
  have hPp := hP.sub hS.base (RPos.sub hS.base)
  have hpl := hPp.len
  (repeat (first | refine lss_t (by omega) ?_ | refine lss_f (by omega) ?_ | refine leq_t (by omega) ?_ | refine leq_f (by omega) ?_ | refine gtr_t (by omega) ?_ | refine gtr_f (by omega) ?_ | refine geq_t (by omega) ?_ | refine geq_f (by omega) ?_ | refine eql_t (by omega) ?_ | refine eql_f (by omega) ?_ | refine neq_t (by omega) ?_ | refine neq_f (by omega) ?_ | refine bindP_mk (by simp (disch := first | omega | exact Int.natCast_nonneg _ | assumption) only [BB, decide_true, decide_false, Bool.not_true, Bool.not_false, Option.bind_some, T.get_upd_same, T.get_upd_ne, if_pos, Nat.zero_add, Nat.mul_one, Nat.add_zero, Int.toNat_natCast, ↓reduceIte, Nat.reduceLeDiff, Nat.reduceAdd, Nat.le_refl, gp, hpl] <;> rfl) ?_ | refine newP_mk ?_ | refine optP_mk ?_ | with_reducible refine condP_t ?_ | with_reducible refine condP_f ?_ | with_reducible refine ifP_tt' ?_ | with_reducible refine ifP_ff' ?_ | with_reducible refine ifP_tf' ?_ | with_reducible refine ifP_ft' ?_ | with_reducible refine ifP_u' ?_ | refine optP_mk0 ?_))
  refine lss_s (fun hk => ?_) (fun hk => ?_)
  · have hk : k < g.p.length := by omega
    have hix := hPp.ixI .i64 (i := (k : Int)) (by omega) (by omega)
    obtain ⟨pv, -, -, p3, -, p5, p6⟩ := P_at hPp (i := (k : Int)) (by omega) (by omega)
    have p7 := P_set hPp (i := (k : Int)) (by omega) (by omega)
    simp only [Int.toNat_natCast] at hix p3 p5 p7
    have hok : ∀ (e' : Env) h5 n Lv' ys', RS h nx a b a2 c.b h5 Lv' ys' (stepK g c by_ (k + 1)) → Fr h5 n → e' 2 = .int .u8 (by_ : Int) → e' 3 = ptr nx → e' 4 = ptr (nx + 1) → e' 6 = ptr (nx + 2) → e' 7 = ptr (nx + 4) → e' 8 = .int .i64 k → nx + 5 ≤ n → ref10_step_j2 ro Q' e' h5 n := by
      intro e' h5 n Lv' ys' s1 s2 f2 f3 f4 f6 f7 f8 hn
      unfold ref10_step_j2
      rw [f8]
      (repeat (first | refine lss_t (by omega) ?_ | refine lss_f (by omega) ?_ | refine leq_t (by omega) ?_ | refine leq_f (by omega) ?_ | refine gtr_t (by omega) ?_ | refine gtr_f (by omega) ?_ | refine geq_t (by omega) ?_ | refine geq_f (by omega) ?_ | refine eql_t (by omega) ?_ | refine eql_f (by omega) ?_ | refine neq_t (by omega) ?_ | refine neq_f (by omega) ?_ | refine bindP_mk (by simp (disch := first | omega | exact Int.natCast_nonneg _ | assumption) only [BB, decide_true, decide_false, Bool.not_true, Bool.not_false, Option.bind_some, T.get_upd_same, T.get_upd_ne, if_pos, Nat.zero_add, Nat.mul_one, Nat.add_zero, Int.toNat_natCast, ↓reduceIte, Nat.reduceLeDiff, Nat.reduceAdd, Nat.le_refl] <;> rfl) ?_ | refine newP_mk ?_ | refine optP_mk ?_ | with_reducible refine condP_t ?_ | with_reducible refine condP_f ?_ | with_reducible refine ifP_tt' ?_ | with_reducible refine ifP_ff' ?_ | with_reducible refine ifP_tf' ?_ | with_reducible refine ifP_ft' ?_ | with_reducible refine ifP_u' ?_ | refine optP_mk0 ?_))
      exact hq (j - 1) _ _ _ _ (by omega) ⟨k + 1, Lv', ys', by omega, by omega, s2.mono (by omega), s1, f2, f3, f4, f6, f7, rfl⟩ (Sub.refl _)
    rw [stepK_succ] at hok
    (repeat (first | refine lss_t (by omega) ?_ | refine lss_f (by omega) ?_ | refine leq_t (by omega) ?_ | refine leq_f (by omega) ?_ | refine gtr_t (by omega) ?_ | refine gtr_f (by omega) ?_ | refine geq_t (by omega) ?_ | refine geq_f (by omega) ?_ | refine eql_t (by omega) ?_ | refine eql_f (by omega) ?_ | refine neq_t (by omega) ?_ | refine neq_f (by omega) ?_ | refine bindP_mk (by simp (disch := first | omega | exact Int.natCast_nonneg _ | assumption) only [BB, decide_true, decide_false, Bool.not_true, Bool.not_false, Option.bind_some, T.get_upd_same, T.get_upd_ne, if_pos, Nat.zero_add, Nat.mul_one, Nat.add_zero, Int.toNat_natCast, ↓reduceIte, Nat.reduceLeDiff, Nat.reduceAdd, Nat.le_refl, gp, hix, p3, p5, p7] <;> rfl) ?_ | refine newP_mk ?_ | refine optP_mk ?_ | with_reducible refine condP_t ?_ | with_reducible refine condP_f ?_ | with_reducible refine ifP_tt' ?_ | with_reducible refine ifP_ff' ?_ | with_reducible refine ifP_tf' ?_ | with_reducible refine ifP_ft' ?_ | with_reducible refine ifP_u' ?_ | refine optP_mk0 ?_))
    refine ref01_Has_c hby (hf'.mono (by omega)) fun n hn => ?_
    cases hb : (g.at (k : Int)).s.testBit by_ with
    | false =>
      (repeat (first | refine lss_t (by omega) ?_ | refine lss_f (by omega) ?_ | refine leq_t (by omega) ?_ | refine leq_f (by omega) ?_ | refine gtr_t (by omega) ?_ | refine gtr_f (by omega) ?_ | refine geq_t (by omega) ?_ | refine geq_f (by omega) ?_ | refine eql_t (by omega) ?_ | refine eql_f (by omega) ?_ | refine neq_t (by omega) ?_ | refine neq_f (by omega) ?_ | refine bindP_mk (by simp (disch := first | omega | exact Int.natCast_nonneg _ | assumption) only [BB, decide_true, decide_false, Bool.not_true, Bool.not_false, Option.bind_some, T.get_upd_same, T.get_upd_ne, if_pos, Nat.zero_add, Nat.mul_one, Nat.add_zero, Int.toNat_natCast, ↓reduceIte, Nat.reduceLeDiff, Nat.reduceAdd, Nat.le_refl] <;> rfl) ?_ | refine newP_mk ?_ | refine optP_mk ?_ | with_reducible refine condP_t ?_ | with_reducible refine condP_f ?_ | with_reducible refine ifP_tt' ?_ | with_reducible refine ifP_ff' ?_ | with_reducible refine ifP_tf' ?_ | with_reducible refine ifP_ft' ?_ | with_reducible refine ifP_u' ?_ | refine optP_mk0 ?_))
      refine hok _ _ _ Lv ys ?_ (hf'.mono (by omega)) e2 e3 e4 e6 e7 e8 (by omega)
      have : cntD g c by_ k = [] := by unfold cntD hasD; rw [hb]; rfl
      rw [this]
      unfold heldOf
      rw [if_pos rfl, List.append_nil]; exact hS
    | true =>
      have hcnt : cntD g c by_ k = (if entersD g c k then [1] else []) ++ staysL g k c.l := by unfold cntD hasD; rw [hb]; rfl
      have gc := hS.cfg
      have hG : RG ro h' (.agg #[a, b]) g := ⟨a, b, rfl, ha.sub hS.base, hPp⟩
      have hC : RCfg ro h' (.agg #[.bool c.b, a2]) c := ⟨a2, rfl, hl.sub hS.base (RHeld.sub hS.base)⟩
      (repeat (first | refine lss_t (by omega) ?_ | refine lss_f (by omega) ?_ | refine leq_t (by omega) ?_ | refine leq_f (by omega) ?_ | refine gtr_t (by omega) ?_ | refine gtr_f (by omega) ?_ | refine geq_t (by omega) ?_ | refine geq_f (by omega) ?_ | refine eql_t (by omega) ?_ | refine eql_f (by omega) ?_ | refine neq_t (by omega) ?_ | refine neq_f (by omega) ?_ | refine bindP_mk (by simp (disch := first | omega | exact Int.natCast_nonneg _ | assumption) only [BB, decide_true, decide_false, Bool.not_true, Bool.not_false, Option.bind_some, T.get_upd_same, T.get_upd_ne, if_pos, Nat.zero_add, Nat.mul_one, Nat.add_zero, Int.toNat_natCast, ↓reduceIte, Nat.reduceLeDiff, Nat.reduceAdd, Nat.le_refl] <;> rfl) ?_ | refine newP_mk ?_ | refine optP_mk ?_ | with_reducible refine condP_t ?_ | with_reducible refine condP_f ?_ | with_reducible refine ifP_tt' ?_ | with_reducible refine ifP_ff' ?_ | with_reducible refine ifP_tf' ?_ | with_reducible refine ifP_ft' ?_ | with_reducible refine ifP_u' ?_ | refine optP_mk0 ?_))
      refine bindP_mk (loadA_all (l := [a, b]) gp rfl) ?_
      refine bindP_mk (loadA_all (l := [.bool c.b, a2]) gc rfl) ?_
      refine ref10_enters_c hr hft (hf'.mono (by omega)) hG hC fun n2 hn2 => ?_
      obtain ⟨i, z1, z2, z3⟩ := tin_int
      obtain ⟨i2, t1, t2, t3⟩ := tin_held
      have hyl : ys.length ≤ g.p.length := by rw [hS.els.1]; have := stepK_len g c by_ k; omega
      -- what stands behind the first count
      have hj3 : ∀ (e' : Env) h5 n5 (ev : Value) (E : List Int), Sub h' h5 → Fr h5 n5 → OwnT h5 ev 1 y_int (intsZ E) (nx + 5) → (∀ id, sblk ev = some id → h'.get id = none) → E.length ≤ 1 → E ++ staysL g k c.l = cntD g c by_ k → e' 2 = .int .u8 (by_ : Int) → e' 3 = ptr nx → e' 4 = ptr (nx + 1) → e' 6 = ptr (nx + 2) → e' 7 = ptr (nx + 4) → e' 8 = .int .i64 k → e' 9 = ev → nx' ≤ n5 → ref10_step_j3 ro Q' e' h5 n5 := by
        intro e' h5 n5 ev E s1 s2 s3 s4 s5 s6 f2 f3 f4 f6 f7 f8 f9 hn5
        unfold ref10_step_j3
        rw [f3, f4, f7, f8, f9]
        refine bindP_mk (loadA_all (l := [a, b]) (s1 _ _ gp) rfl) ?_
        refine bindP_mk (loadA_all (l := [.bool c.b, a2]) (s1 _ _ gc) rfl) ?_
        refine ref10_stays_c hr hft (by omega) (by omega) (s2.mono (by omega)) (hG.sub s1) (hC.sub s1) fun r6 h6 n6 hn6 q1 q2 q3 => ?_
        have hsl : (staysL g (k : Int) c.l).length ≤ 2500000 := by
          have h1 := stays_len (g := g) (q := (k : Int)) (l := c.l) fun x hx => held_all hr hft x hx
          have h3 : c.l.length * 4096 ≤ 512 * 4096 := Nat.mul_le_mul_right _ (by omega)
          omega
        obtain ⟨r7, h7, n7, y1, y2, y3, y4, y5, y6⟩ := append_any (P := Try.prog) (t := y_s_int) (nx := n6 + 1) (lo := nx + 5) (s3.keepS q1) (q3.sl (ro := ro)) und_ints z1 z2 (by omega) zer_int rfl (flat_ints_ok _) (by rw [intsZ_len, intsZ_len, z3]; unfold big; omega) (by rw [intsZ_len, intsZ_len]; unfold big; omega) (by omega) (q2.mono (by omega))
        have hcat : intsZ E ++ intsZ (staysL g k c.l) = intsZ (cntD g c by_ k) := by rw [← s6]; simp [intsZ]
        rw [hcat] at y2
        refine bindP_mk y1 ?_
        dsimp only
        have s67 : Sub h' h7 := fun i o hi => y3 i o (q1 _ _ (s1 _ _ hi)) fun hv => by rw [s4 _ hv] at hi; cases hi
        have hS7 := hS.sub s67
        have gO := hS7.out
        have hlr := (y2.sl (ro := ro)).len
        rw [intsZ_len] at hlr
        refine bindP_mk hlr ?_
        refine gtr_s (fun hgt => ?_) (fun hgt => ?_)
        · have hne : cntD g c by_ k ≠ [] := fun h => by rw [h] at hgt; simp at hgt
          (repeat (first | refine lss_t (by omega) ?_ | refine lss_f (by omega) ?_ | refine leq_t (by omega) ?_ | refine leq_f (by omega) ?_ | refine gtr_t (by omega) ?_ | refine gtr_f (by omega) ?_ | refine geq_t (by omega) ?_ | refine geq_f (by omega) ?_ | refine eql_t (by omega) ?_ | refine eql_f (by omega) ?_ | refine neq_t (by omega) ?_ | refine neq_f (by omega) ?_ | refine bindP_mk (by simp (disch := first | omega | exact Int.natCast_nonneg _ | assumption) only [BB, decide_true, decide_false, Bool.not_true, Bool.not_false, Option.bind_some, T.get_upd_same, T.get_upd_ne, if_pos, Nat.zero_add, Nat.mul_one, Nat.add_zero, Int.toNat_natCast, ↓reduceIte, Nat.reduceLeDiff, Nat.reduceAdd, Nat.le_refl, gO] <;> rfl) ?_ | refine newP_mk ?_ | refine optP_mk ?_ | with_reducible refine condP_t ?_ | with_reducible refine condP_f ?_ | with_reducible refine ifP_tt' ?_ | with_reducible refine ifP_ff' ?_ | with_reducible refine ifP_tf' ?_ | with_reducible refine ifP_ft' ?_ | with_reducible refine ifP_u' ?_ | refine optP_mk0 ?_))
          refine bindP_mk (build_held _ _ y2.one.1 rfl) ?_
          refine append_lit (P := Try.prog) (z := 2) (e := y_api_Held) (i := i2) (l := ys) (nx := n7) (n1 := n7 + 9) (n2 := n7 + 11) (lo := nx + 5) (lit_held _ _ _) rfl hS7.own und_helds t1 t2 (by omega) zer_Held rfl (held_ok y2.one.2) (by rw [t3]; unfold big; omega) (by unfold big; omega) y5 (by omega) (by omega) (by omega) fun h8 u1 u2 u3 => ?_
          dsimp only
          have hlo : ∀ i o, h7.get i = some o → i < nx + 5 → h8.get i = some o := fun i o hi hlt => u2 i o hi (hS7.own.lt hlt)
          have gO8 := hlo _ _ gO (by omega)
          have hkeep : ∀ w l, OwnT h7 w 1 y_int l (nx + 5) → OwnT h8 w 1 y_int l (nx + 5) := fun w l ho => ho.keep u2 fun id hid hL' => by
            rcases ho with ⟨rfl, _⟩ | ⟨id', _, rfl, _, g5⟩
            · cases hid
            · have : id' = id := Option.some.inj hid
              subst this
              exact hS7.own.ne g5 tyne.1 hL'
          (repeat (first | refine lss_t (by omega) ?_ | refine lss_f (by omega) ?_ | refine leq_t (by omega) ?_ | refine leq_f (by omega) ?_ | refine gtr_t (by omega) ?_ | refine gtr_f (by omega) ?_ | refine geq_t (by omega) ?_ | refine geq_f (by omega) ?_ | refine eql_t (by omega) ?_ | refine eql_f (by omega) ?_ | refine neq_t (by omega) ?_ | refine neq_f (by omega) ?_ | refine bindP_mk (by simp (disch := first | omega | exact Int.natCast_nonneg _ | assumption) only [BB, decide_true, decide_false, Bool.not_true, Bool.not_false, Option.bind_some, T.get_upd_same, T.get_upd_ne, if_pos, Nat.zero_add, Nat.mul_one, Nat.add_zero, Int.toNat_natCast, ↓reduceIte, Nat.reduceLeDiff, Nat.reduceAdd, Nat.le_refl] <;> rfl) ?_ | refine newP_mk ?_ | refine optP_mk ?_ | with_reducible refine condP_t ?_ | with_reducible refine condP_f ?_ | with_reducible refine ifP_tt' ?_ | with_reducible refine ifP_ff' ?_ | with_reducible refine ifP_tf' ?_ | with_reducible refine ifP_ft' ?_ | with_reducible refine ifP_u' ?_ | refine optP_mk0 ?_))
          refine bindP_mk (store1_own (l := [.bool false, Lv]) gO8 (by simp) rfl rfl) ?_
          have hoff : ∀ i, i ≠ nx + 4 → (h8.upd (nx + 4) (some (.cells ([Value.bool false, Lv].set (0 + 1) (.slice (some (V.own (n7 + 11) 2)) (ys ++ [[.int .i64 (k : Int), r7]]).length (ys ++ [[.int .i64 (k : Int), r7]]).length)).toArray y_api_Config))).get i = h8.get i := fun i hi => T.get_upd_ne _ _ hi
          refine hok _ _ _ _ _ ⟨fun i o hi => ?_, ?_, ?_, ?_, by rw [T.get_upd_same]; rfl, u1.off hoff gO8 tyne.2.2.1, ?_⟩ ((u3.mono (by omega)).upd (Nat.le_refl _) (by omega)) f2 f3 f4 f6 f7 f8 (by omega)
          · have := hf.lt' hi
            rw [hoff i (by omega)]
            exact hlo _ _ (hS7.base _ _ hi) (by omega)
          · rw [hoff _ (by omega)]; exact hlo _ _ hS7.places (by omega)
          · rw [hoff _ (by omega)]; exact hlo _ _ hS7.cfg (by omega)
          · rw [hoff _ (by omega)]; exact hlo _ _ hS7.res (by omega)
          · unfold heldOf
            rw [if_neg hne]
            exact ((hS7.els.imp hkeep).snoc (d := ⟨k, cntD g c by_ k⟩) (hkeep _ _ y2)).imp fun w l ho => ho.off hoff gO8 tyne.2.2.2.1
        · have hem : cntD g c by_ k = [] := eq_len (by omega)
          (repeat (first | refine lss_t (by omega) ?_ | refine lss_f (by omega) ?_ | refine leq_t (by omega) ?_ | refine leq_f (by omega) ?_ | refine gtr_t (by omega) ?_ | refine gtr_f (by omega) ?_ | refine geq_t (by omega) ?_ | refine geq_f (by omega) ?_ | refine eql_t (by omega) ?_ | refine eql_f (by omega) ?_ | refine neq_t (by omega) ?_ | refine neq_f (by omega) ?_ | refine bindP_mk (by simp (disch := first | omega | exact Int.natCast_nonneg _ | assumption) only [BB, decide_true, decide_false, Bool.not_true, Bool.not_false, Option.bind_some, T.get_upd_same, T.get_upd_ne, if_pos, Nat.zero_add, Nat.mul_one, Nat.add_zero, Int.toNat_natCast, ↓reduceIte, Nat.reduceLeDiff, Nat.reduceAdd, Nat.le_refl] <;> rfl) ?_ | refine newP_mk ?_ | refine optP_mk ?_ | with_reducible refine condP_t ?_ | with_reducible refine condP_f ?_ | with_reducible refine ifP_tt' ?_ | with_reducible refine ifP_ff' ?_ | with_reducible refine ifP_tf' ?_ | with_reducible refine ifP_ft' ?_ | with_reducible refine ifP_u' ?_ | refine optP_mk0 ?_))
          refine hok _ _ _ Lv ys ?_ (y5.mono (by omega)) f2 f3 f4 f6 f7 f8 (by omega)
          unfold heldOf
          rw [if_pos hem, List.append_nil]; exact hS7
      cases hen : entersD g c (k : Int) with
      | true =>
        (repeat (first | refine lss_t (by omega) ?_ | refine lss_f (by omega) ?_ | refine leq_t (by omega) ?_ | refine leq_f (by omega) ?_ | refine gtr_t (by omega) ?_ | refine gtr_f (by omega) ?_ | refine geq_t (by omega) ?_ | refine geq_f (by omega) ?_ | refine eql_t (by omega) ?_ | refine eql_f (by omega) ?_ | refine neq_t (by omega) ?_ | refine neq_f (by omega) ?_ | refine bindP_mk (by simp (disch := first | omega | exact Int.natCast_nonneg _ | assumption) only [BB, decide_true, decide_false, Bool.not_true, Bool.not_false, Option.bind_some, T.get_upd_same, T.get_upd_ne, if_pos, Nat.zero_add, Nat.mul_one, Nat.add_zero, Int.toNat_natCast, ↓reduceIte, Nat.reduceLeDiff, Nat.reduceAdd, Nat.le_refl] <;> rfl) ?_ | refine newP_mk ?_ | refine optP_mk ?_ | with_reducible refine condP_t ?_ | with_reducible refine condP_f ?_ | with_reducible refine ifP_tt' ?_ | with_reducible refine ifP_ff' ?_ | with_reducible refine ifP_tf' ?_ | with_reducible refine ifP_ft' ?_ | with_reducible refine ifP_u' ?_ | refine optP_mk0 ?_))
        refine append_lit (P := Try.prog) (z := 1) (e := y_int) (i := i) (l := []) (nx := nx') (n1 := n2 + 1) (n2 := n2 + 3) (lo := nx + 5) (lit_i64' _ _) rfl OwnT.nil und_ints z1 z2 (by omega) zer_int rfl rfl (by rw [z3]; decide) (by decide) hf' (by omega) (by omega) (by omega) fun h5 u1 u2 u3 => ?_
        dsimp only
        refine hj3 _ _ _ (.slice (some (V.own (n2 + 3) 1)) 1 1) [1] (fun i o hi => u2 i o hi (by intro h; cases h)) (u3.mono (by omega)) (by simpa [intsZ] using u1) (fun id hid => ?_) (by simp) (by rw [hcnt, hen]; rfl) e2 e3 e4 e6 e7 e8 rfl (by omega)
        have : n2 + 3 = id := Option.some.inj hid
        subst this
        exact hf' _ (by omega)
      | false =>
        (repeat (first | refine lss_t (by omega) ?_ | refine lss_f (by omega) ?_ | refine leq_t (by omega) ?_ | refine leq_f (by omega) ?_ | refine gtr_t (by omega) ?_ | refine gtr_f (by omega) ?_ | refine geq_t (by omega) ?_ | refine geq_f (by omega) ?_ | refine eql_t (by omega) ?_ | refine eql_f (by omega) ?_ | refine neq_t (by omega) ?_ | refine neq_f (by omega) ?_ | refine bindP_mk (by simp (disch := first | omega | exact Int.natCast_nonneg _ | assumption) only [BB, decide_true, decide_false, Bool.not_true, Bool.not_false, Option.bind_some, T.get_upd_same, T.get_upd_ne, if_pos, Nat.zero_add, Nat.mul_one, Nat.add_zero, Int.toNat_natCast, ↓reduceIte, Nat.reduceLeDiff, Nat.reduceAdd, Nat.le_refl] <;> rfl) ?_ | refine newP_mk ?_ | refine optP_mk ?_ | with_reducible refine condP_t ?_ | with_reducible refine condP_f ?_ | with_reducible refine ifP_tt' ?_ | with_reducible refine ifP_ff' ?_ | with_reducible refine ifP_tf' ?_ | with_reducible refine ifP_ft' ?_ | with_reducible refine ifP_u' ?_ | refine optP_mk0 ?_))
        exact hj3 _ _ _ (.slice none 0 0) [] (Sub.refl _) (hf'.mono (by omega)) OwnT.nil (fun id hid => by cases hid) (by simp) (by rw [hcnt, hen]; rfl) e2 e3 e4 e6 e7 e8 rfl (by omega)
  · (repeat (first | refine lss_t (by omega) ?_ | refine lss_f (by omega) ?_ | refine leq_t (by omega) ?_ | refine leq_f (by omega) ?_ | refine gtr_t (by omega) ?_ | refine gtr_f (by omega) ?_ | refine geq_t (by omega) ?_ | refine geq_f (by omega) ?_ | refine eql_t (by omega) ?_ | refine eql_f (by omega) ?_ | refine neq_t (by omega) ?_ | refine neq_f (by omega) ?_ | refine bindP_mk (by simp (disch := first | omega | exact Int.natCast_nonneg _ | assumption) only [BB, decide_true, decide_false, Bool.not_true, Bool.not_false, Option.bind_some, T.get_upd_same, T.get_upd_ne, if_pos, Nat.zero_add, Nat.mul_one, Nat.add_zero, Int.toNat_natCast, ↓reduceIte, Nat.reduceLeDiff, Nat.reduceAdd, Nat.le_refl] <;> rfl) ?_ | refine newP_mk ?_ | refine optP_mk ?_ | with_reducible refine condP_t ?_ | with_reducible refine condP_f ?_ | with_reducible refine ifP_tt' ?_ | with_reducible refine ifP_ff' ?_ | with_reducible refine ifP_tf' ?_ | with_reducible refine ifP_ft' ?_ | with_reducible refine ifP_u' ?_ | refine optP_mk0 ?_))
    refine hx _ _ _ _ (fun e => by cases e) (exP_e (beqP_t ?_))
    have hkm : k = g.p.length := by omega
    subst hkm
    exact ref10_step_end hf (hf'.mono (by omega)) (by omega) hS e6 e7 fun r h5 n5 hn5 q1 q2 q3 => hK r h5 n5 (by omega) q1 q2 fun h6 h6k => by
      have := q3 h6 fun k hk => h6k k (by omega)
      unfold stepD
      exact this
end V
end Go.Proofs.Ytepbdkfkfcckoaa

/- What the reference's Right (where one may be) hands back; Step, Rule of both.
   No condition. -/
set_option linter.unusedVariables false
set_option linter.unusedSimpArgs false
namespace Go.Proofs.Ytepbdkfkfcckoaa
namespace V
open PA
attribute [local irreducible] bindP ifP condP newP optP exP beqP
set_option maxRecDepth 4000 in
set_option maxHeartbeats 2000000 in
theorem ref10_Right_c {ro : Ro} {v w : Value} {g : GlD} {c : CfgD} {h : T Obj} {nx : Nat} {K : KV} (hf : Fr h nx) (hg : RG ro h v g) (hc : RCfg ro h w c) (hK : ∀ nx', nx ≤ nx' → K (.bool (rightC g c)) h nx') : callP Try.prog ro i_ref10_Right [v, w] h nx K := by
  obtain ⟨a, b, rfl, ha, hP⟩ := hg
  obtain ⟨a2, rfl, hl⟩ := hc
  apply ref10_Right_of
  unfold ref10_Right
  refine param_mk hf (Nat.le_refl _) fun h1 hs1 hf1 g1 _ => ?_
  refine param_mk hf1 (Nat.le_refl _) fun h2 hs2 hf2 g2 _ => ?_
  have g1 := hs2 _ _ g1
  have hs := hs1.trans hs2
  have hG : RG ro h2 (.agg #[a, b]) g := ⟨a, b, rfl, ha.sub hs, hP.sub hs (RPos.sub hs)⟩
  have hP := hP.sub hs (RPos.sub hs)
  have hl := hl.sub hs (RHeld.sub hs)
  have hll := hl.len
  unfold rightC at hK
  refine bindP_mk (loadA_all (l := [a, b]) g1 rfl) ?_
  refine ref09_Right_c (hf2.mono (by omega)) hG fun n hn => ?_
  cases hr : rightD g with
  | false =>
    (repeat (first | refine lss_t (by omega) ?_ | refine lss_f (by omega) ?_ | refine leq_t (by omega) ?_ | refine leq_f (by omega) ?_ | refine gtr_t (by omega) ?_ | refine gtr_f (by omega) ?_ | refine geq_t (by omega) ?_ | refine geq_f (by omega) ?_ | refine eql_t (by omega) ?_ | refine eql_f (by omega) ?_ | refine neq_t (by omega) ?_ | refine neq_f (by omega) ?_ | refine bindP_mk (by simp (disch := first | omega | exact Int.natCast_nonneg _ | assumption) only [BB, decide_true, decide_false, Bool.not_true, Bool.not_false, Option.bind_some, T.get_upd_same, T.get_upd_ne, if_pos, Nat.zero_add, Nat.mul_one, Nat.add_zero, Int.toNat_natCast, ↓reduceIte, Nat.reduceLeDiff, Nat.reduceAdd, Nat.le_refl] <;> rfl) ?_ | refine newP_mk ?_ | refine optP_mk ?_ | with_reducible refine condP_t ?_ | with_reducible refine condP_f ?_ | with_reducible refine ifP_tt' ?_ | with_reducible refine ifP_ff' ?_ | with_reducible refine ifP_tf' ?_ | with_reducible refine ifP_ft' ?_ | with_reducible refine ifP_u' ?_ | refine optP_mk0 ?_))
    exact ⟨h, hs, kb hK (by rw [hr]; rfl) (by omega)⟩
  | true =>
    rw [hr] at hK
    simp only [Bool.true_and] at hK
    have hlen := right_len hr
    have hbl := hP.len
    have hK' : ∀ (c' : Bool) n, fitsD g c = c' → nx ≤ n → ∃ h', Sub h' h2 ∧ K (.bool c') h' n := fun c' n e hn => ⟨h, hs, kb hK e hn⟩
    -- the loop
    have hloop : (c.b = true → c.l = []) → ∀ (e0 : Env) n0, e0 2 = ptr nx → e0 3 = ptr (nx + 1) → e0 5 = .int .i64 0 → nx + 2 ≤ n0 → loopP (ref10_Right_L1 ro) e0 h2 n0 fun x345 e342 h343 n344 => exP x345 (ref10_Right_j1 ro K e342 h343 n344) (fun i346 => beqP (Nat.beq i346 0) (ref10_Right_j1 ro K e342 h343 n344) (False)) (∃ h347, Sub h347 h343 ∧ K (e342 4) h347 n344) := by
      intro hcb e0 n0 u2 u3 u5 hn0
      have hfit : fitsD g c = fitsL g (-1) c.l := by
        unfold fitsD
        by_cases hb : c.b = true
        · rw [if_pos hb, hcb hb]; rfl
        · rw [if_neg hb]
      rw [hfit] at hK'
      generalize hR : fitsL g (-1) c.l = R at hK'
      refine loopP_rule (fun j e h' nx' => ∃ (k : Nat) (last : Int), k + j = c.l.length ∧ nx + 2 ≤ nx' ∧ h' = h2 ∧ e 2 = ptr nx ∧ e 3 = ptr (nx + 1) ∧ e 5 = .int .i64 k ∧ (k : Int) ≤ last + 1 ∧ last ≤ 1000000 ∧ (k = 0 → last = -1) ∧ (∀ q, q + 1 = k → ∃ hq : q < c.l.length, (c.l[q]).p = last) ∧ fitsL g last (c.l.drop k) = R) ?_ (n := c.l.length) ⟨0, -1, by omega, hn0, rfl, u2, u3, u5, by omega, by omega, fun _ => rfl, fun q hq => by omega, hR⟩
      rintro j e h' nx' ⟨k, last, hj, hnx, rfl, e2, e3, e5, hk1, hk2, hk0, hkp, hr2⟩ Q' hq hx
      unfold ref10_Right_L1
      rw [e2, e3, e5]
      (repeat (first | refine lss_t (by omega) ?_ | refine lss_f (by omega) ?_ | refine leq_t (by omega) ?_ | refine leq_f (by omega) ?_ | refine gtr_t (by omega) ?_ | refine gtr_f (by omega) ?_ | refine geq_t (by omega) ?_ | refine geq_f (by omega) ?_ | refine eql_t (by omega) ?_ | refine eql_f (by omega) ?_ | refine neq_t (by omega) ?_ | refine neq_f (by omega) ?_ | refine bindP_mk (by simp (disch := first | omega | exact Int.natCast_nonneg _ | assumption) only [BB, decide_true, decide_false, Bool.not_true, Bool.not_false, Option.bind_some, T.get_upd_same, T.get_upd_ne, if_pos, Nat.zero_add, Nat.mul_one, Nat.add_zero, Int.toNat_natCast, ↓reduceIte, Nat.reduceLeDiff, Nat.reduceAdd, Nat.le_refl, g2, hll] <;> rfl) ?_ | refine newP_mk ?_ | refine optP_mk ?_ | with_reducible refine condP_t ?_ | with_reducible refine condP_f ?_ | with_reducible refine ifP_tt' ?_ | with_reducible refine ifP_ff' ?_ | with_reducible refine ifP_tf' ?_ | with_reducible refine ifP_ft' ?_ | with_reducible refine ifP_u' ?_ | refine optP_mk0 ?_))
      refine lss_s (fun hk => ?_) (fun hk => ?_)
      · have hk : k < c.l.length := by omega
        rw [drop_cons hk, fitsL_cons] at hr2
        obtain ⟨x, ⟨nv, rfl, hn1⟩, hx2, hx3, hx4, hx5⟩ := hl.at hk
        have hix := hl.ix .i64 hk
        have hkk : ∀ q, q + 1 = k + 1 → ∃ hq : q < c.l.length, (c.l[q]).p = (c.l[k]).p := fun q hq => by
          have : q = k := by omega
          subst this; exact ⟨hk, rfl⟩
        generalize c.l[k] = d at hr2 hx2 hx3 hx5 hn1 hkk
        (repeat (first | refine lss_t (by omega) ?_ | refine lss_f (by omega) ?_ | refine leq_t (by omega) ?_ | refine leq_f (by omega) ?_ | refine gtr_t (by omega) ?_ | refine gtr_f (by omega) ?_ | refine geq_t (by omega) ?_ | refine geq_f (by omega) ?_ | refine eql_t (by omega) ?_ | refine eql_f (by omega) ?_ | refine neq_t (by omega) ?_ | refine neq_f (by omega) ?_ | refine bindP_mk (by simp (disch := first | omega | exact Int.natCast_nonneg _ | assumption) only [BB, decide_true, decide_false, Bool.not_true, Bool.not_false, Option.bind_some, T.get_upd_same, T.get_upd_ne, if_pos, Nat.zero_add, Nat.mul_one, Nat.add_zero, Int.toNat_natCast, ↓reduceIte, Nat.reduceLeDiff, Nat.reduceAdd, Nat.le_refl, g2, hix, hx3] <;> rfl) ?_ | refine newP_mk ?_ | refine optP_mk ?_ | with_reducible refine condP_t ?_ | with_reducible refine condP_f ?_ | with_reducible refine ifP_tt' ?_ | with_reducible refine ifP_ff' ?_ | with_reducible refine ifP_tf' ?_ | with_reducible refine ifP_ft' ?_ | with_reducible refine ifP_u' ?_ | refine optP_mk0 ?_))
        refine local_mk zer_Held rfl rfl rfl (held_ok hn1.ok) hf2 (by omega) fun h3 hs3 hf3 g3 _ => ?_
        have g13 := hs3 _ _ g1
        have g23 := hs3 _ _ g2
        have hP3 := hP.sub hs3 (RPos.sub hs3)
        have hl3 := hl.sub hs3 (RHeld.sub hs3)
        have hn1 := hn1.sub hs3
        have hnl := hn1.len
        have hfin : ∀ (e' : Env) n, e' 4 = .bool false → R = false → nx ≤ n → Q' .ret e' h3 n := fun e' n h4 hc hn => by
          refine hx _ _ _ _ (fun e => by cases e) (exP_r ?_)
          rw [h4]
          obtain ⟨h9, q1, q2⟩ := hK' false n hc hn
          exact ⟨h9, q1.trans hs3, q2⟩
        -- behind the first checks
        have hrest : 0 ≤ d.p → last < d.p → d.p < g.p.length → d.n ≠ [] → ∀ (e0 : Env) n0, e0 2 = ptr nx → e0 3 = ptr (nx + 1) → e0 5 = .int .i64 k → e0 6 = ptr (nx' + 10) → e0 7 = .int .i64 0 → nx + 2 ≤ n0 → loopP (ref10_Right_L2 ro) e0 h3 n0 fun x340 e337 h338 n339 => exP x340 (ref10_Right_j2 ro Q' e337 h338 n339) (fun i341 => beqP (Nat.beq i341 2) (ref10_Right_j2 ro Q' e337 h338 n339) (beqP (Nat.beq i341 1) (ref10_Right_j2 ro Q' e337 h338 n339) (Q' (.exit i341) e337 h338 n339))) (Q' .ret e337 h338 n339) := by
          intro c0 c1 c2 c3 e0 n0 u2 u3 u5 u6 u7 hn0
          rw [decide_eq_true c1, decide_eq_true c2, ne_len (by intro h; exact c3 (eq_len h))] at hr2
          simp only [Bool.true_and, Bool.not_false] at hr2
          have hmay := may_spec (right_at hr c0 c2)
          obtain ⟨pv, -, -, p3, -, p5, p6⟩ := P_at hP3 (i := d.p) c0 c2
          have p7 := p6 5 _ rfl
          generalize hR3 : rz 0 ((g.at d.p).hi + 1) d.n = R3 at hr2
          refine loopP_rule (fun j2 e' h'' n'' => ∃ (k2 : Nat) (cnt : Int), k2 + j2 = d.n.length ∧ nx + 2 ≤ n'' ∧ h'' = h3 ∧ e' 2 = ptr nx ∧ e' 3 = ptr (nx + 1) ∧ e' 5 = .int .i64 k ∧ e' 6 = ptr (nx' + 10) ∧ e' 7 = .int .i64 k2 ∧ (k2 : Int) ≤ cnt ∧ cnt ≤ 1000000 ∧ (k2 = 0 → cnt = 0) ∧ (∀ q, q + 1 = k2 → d.n[q]? = some cnt) ∧ rz cnt ((g.at d.p).hi + 1) (d.n.drop k2) = R3) ?_ (n := d.n.length) ⟨0, 0, by omega, hn0, rfl, u2, u3, u5, u6, u7, by omega, by omega, fun _ => rfl, fun q hq => by omega, hR3⟩
          rintro j2 e' h'' n'' ⟨k2, cnt, hj2, hn'', rfl, f2, f3, f5, f6, f7, hc1, hc2, hc0, hcp, hr4⟩ Q2 hq2 hx2
          unfold ref10_Right_L2
          rw [f2, f6, f7]
          (repeat (first | refine lss_t (by omega) ?_ | refine lss_f (by omega) ?_ | refine leq_t (by omega) ?_ | refine leq_f (by omega) ?_ | refine gtr_t (by omega) ?_ | refine gtr_f (by omega) ?_ | refine geq_t (by omega) ?_ | refine geq_f (by omega) ?_ | refine eql_t (by omega) ?_ | refine eql_f (by omega) ?_ | refine neq_t (by omega) ?_ | refine neq_f (by omega) ?_ | refine bindP_mk (by simp (disch := first | omega | exact Int.natCast_nonneg _ | assumption) only [BB, decide_true, decide_false, Bool.not_true, Bool.not_false, Option.bind_some, T.get_upd_same, T.get_upd_ne, if_pos, Nat.zero_add, Nat.mul_one, Nat.add_zero, Int.toNat_natCast, ↓reduceIte, Nat.reduceLeDiff, Nat.reduceAdd, Nat.le_refl, g3, hnl] <;> rfl) ?_ | refine newP_mk ?_ | refine optP_mk ?_ | with_reducible refine condP_t ?_ | with_reducible refine condP_f ?_ | with_reducible refine ifP_tt' ?_ | with_reducible refine ifP_ff' ?_ | with_reducible refine ifP_tf' ?_ | with_reducible refine ifP_ft' ?_ | with_reducible refine ifP_u' ?_ | refine optP_mk0 ?_))
          refine lss_s (fun hk3 => ?_) (fun hk3 => ?_)
          · have hk3 : k2 < d.n.length := by omega
            rw [drop_cons hk3, rz_cons] at hr4
            have hyx := hn1.ix .i64 hk3
            have hy1 := hn1.load hk3
            have hyk : d.n[k2]? = some d.n[k2] := List.getElem?_eq_getElem hk3
            generalize d.n[k2] = y at hr4 hy1 hyk
            have hfin2 : ∀ (e' : Env) n, e' 4 = .bool false → (¬ cnt < y ∨ ¬ y < (g.at d.p).hi + 1) → nx ≤ n → Q2 .ret e' h'' n := fun e' n h4 hc hn => by
              refine hx2 _ _ _ _ (fun e => by cases e) (exP_r ?_)
              refine hfin _ _ h4 ?_ hn
              have : R3 = false := by
                rw [← hr4]
                rcases hc with hc | hc
                · rw [decide_eq_false hc]; rfl
                · rw [decide_eq_false hc]; simp
              rw [← hr2, this]; rfl
            have hok2 : ∀ (e' : Env) n, e' 2 = ptr nx → e' 3 = ptr (nx + 1) → e' 5 = .int .i64 k → e' 6 = ptr (nx' + 10) → e' 7 = .int .i64 ((k2 : Int) + 1) → cnt < y → y < (g.at d.p).hi + 1 → nx + 2 ≤ n → Q2 .normal e' h'' n := fun e' n t2 t3 t5 t6 t7 c1 c2 hn => by
              refine hq2 (j2 - 1) _ _ _ _ (by omega) ⟨k2 + 1, y, by omega, hn, rfl, t2, t3, t5, t6, t7, by omega, by omega, fun h => by omega, fun q hq => ?_, ?_⟩ (Sub.refl _)
              · have : q = k2 := by omega
                subst this; exact hyk
              · rw [← hr4, decide_eq_true c1, decide_eq_true c2]; rfl
            (repeat (first | refine lss_t (by omega) ?_ | refine lss_f (by omega) ?_ | refine leq_t (by omega) ?_ | refine leq_f (by omega) ?_ | refine gtr_t (by omega) ?_ | refine gtr_f (by omega) ?_ | refine geq_t (by omega) ?_ | refine geq_f (by omega) ?_ | refine eql_t (by omega) ?_ | refine eql_f (by omega) ?_ | refine neq_t (by omega) ?_ | refine neq_f (by omega) ?_ | refine bindP_mk (by simp (disch := first | omega | exact Int.natCast_nonneg _ | assumption) only [BB, decide_true, decide_false, Bool.not_true, Bool.not_false, Option.bind_some, T.get_upd_same, T.get_upd_ne, if_pos, Nat.zero_add, Nat.mul_one, Nat.add_zero, Int.toNat_natCast, ↓reduceIte, Nat.reduceLeDiff, Nat.reduceAdd, Nat.le_refl, g3, hyx, hy1] <;> rfl) ?_ | refine newP_mk ?_ | refine optP_mk ?_ | with_reducible refine condP_t ?_ | with_reducible refine condP_f ?_ | with_reducible refine ifP_tt' ?_ | with_reducible refine ifP_ff' ?_ | with_reducible refine ifP_tf' ?_ | with_reducible refine ifP_ft' ?_ | with_reducible refine ifP_u' ?_ | refine optP_mk0 ?_))
            refine lss_s (fun hlt => ?_) (fun hlt => ?_)
            · (repeat (first | refine lss_t (by omega) ?_ | refine lss_f (by omega) ?_ | refine leq_t (by omega) ?_ | refine leq_f (by omega) ?_ | refine gtr_t (by omega) ?_ | refine gtr_f (by omega) ?_ | refine geq_t (by omega) ?_ | refine geq_f (by omega) ?_ | refine eql_t (by omega) ?_ | refine eql_f (by omega) ?_ | refine neq_t (by omega) ?_ | refine neq_f (by omega) ?_ | refine bindP_mk (by simp (disch := first | omega | exact Int.natCast_nonneg _ | assumption) only [BB, decide_true, decide_false, Bool.not_true, Bool.not_false, Option.bind_some, T.get_upd_same, T.get_upd_ne, if_pos, Nat.zero_add, Nat.mul_one, Nat.add_zero, Int.toNat_natCast, ↓reduceIte, Nat.reduceLeDiff, Nat.reduceAdd, Nat.le_refl] <;> rfl) ?_ | refine newP_mk ?_ | refine optP_mk ?_ | with_reducible refine condP_t ?_ | with_reducible refine condP_f ?_ | with_reducible refine ifP_tt' ?_ | with_reducible refine ifP_ff' ?_ | with_reducible refine ifP_tf' ?_ | with_reducible refine ifP_ft' ?_ | with_reducible refine ifP_u' ?_ | refine optP_mk0 ?_))
              exact hfin2 _ _ rfl (.inl (by omega)) (by omega)
            · (repeat (first | refine lss_t (by omega) ?_ | refine lss_f (by omega) ?_ | refine leq_t (by omega) ?_ | refine leq_f (by omega) ?_ | refine gtr_t (by omega) ?_ | refine gtr_f (by omega) ?_ | refine geq_t (by omega) ?_ | refine geq_f (by omega) ?_ | refine eql_t (by omega) ?_ | refine eql_f (by omega) ?_ | refine neq_t (by omega) ?_ | refine neq_f (by omega) ?_ | refine bindP_mk (by simp (disch := first | omega | exact Int.natCast_nonneg _ | assumption) only [BB, decide_true, decide_false, Bool.not_true, Bool.not_false, Option.bind_some, T.get_upd_same, T.get_upd_ne, if_pos, Nat.zero_add, Nat.mul_one, Nat.add_zero, Int.toNat_natCast, ↓reduceIte, Nat.reduceLeDiff, Nat.reduceAdd, Nat.le_refl, g13, g3, hyx, hy1, p3, p5, p7] <;> rfl) ?_ | refine newP_mk ?_ | refine optP_mk ?_ | with_reducible refine condP_t ?_ | with_reducible refine condP_f ?_ | with_reducible refine ifP_tt' ?_ | with_reducible refine ifP_ff' ?_ | with_reducible refine ifP_tf' ?_ | with_reducible refine ifP_ft' ?_ | with_reducible refine ifP_u' ?_ | refine optP_mk0 ?_))
              refine gtr_s (fun hgt => ?_) (fun hgt => ?_)
              · (repeat (first | refine lss_t (by omega) ?_ | refine lss_f (by omega) ?_ | refine leq_t (by omega) ?_ | refine leq_f (by omega) ?_ | refine gtr_t (by omega) ?_ | refine gtr_f (by omega) ?_ | refine geq_t (by omega) ?_ | refine geq_f (by omega) ?_ | refine eql_t (by omega) ?_ | refine eql_f (by omega) ?_ | refine neq_t (by omega) ?_ | refine neq_f (by omega) ?_ | refine bindP_mk (by simp (disch := first | omega | exact Int.natCast_nonneg _ | assumption) only [BB, decide_true, decide_false, Bool.not_true, Bool.not_false, Option.bind_some, T.get_upd_same, T.get_upd_ne, if_pos, Nat.zero_add, Nat.mul_one, Nat.add_zero, Int.toNat_natCast, ↓reduceIte, Nat.reduceLeDiff, Nat.reduceAdd, Nat.le_refl] <;> rfl) ?_ | refine newP_mk ?_ | refine optP_mk ?_ | with_reducible refine condP_t ?_ | with_reducible refine condP_f ?_ | with_reducible refine ifP_tt' ?_ | with_reducible refine ifP_ff' ?_ | with_reducible refine ifP_tf' ?_ | with_reducible refine ifP_ft' ?_ | with_reducible refine ifP_u' ?_ | refine optP_mk0 ?_))
                exact hfin2 _ _ rfl (.inr (by omega)) (by omega)
              · (repeat (first | refine lss_t (by omega) ?_ | refine lss_f (by omega) ?_ | refine leq_t (by omega) ?_ | refine leq_f (by omega) ?_ | refine gtr_t (by omega) ?_ | refine gtr_f (by omega) ?_ | refine geq_t (by omega) ?_ | refine geq_f (by omega) ?_ | refine eql_t (by omega) ?_ | refine eql_f (by omega) ?_ | refine neq_t (by omega) ?_ | refine neq_f (by omega) ?_ | refine bindP_mk (by simp (disch := first | omega | exact Int.natCast_nonneg _ | assumption) only [BB, decide_true, decide_false, Bool.not_true, Bool.not_false, Option.bind_some, T.get_upd_same, T.get_upd_ne, if_pos, Nat.zero_add, Nat.mul_one, Nat.add_zero, Int.toNat_natCast, ↓reduceIte, Nat.reduceLeDiff, Nat.reduceAdd, Nat.le_refl] <;> rfl) ?_ | refine newP_mk ?_ | refine optP_mk ?_ | with_reducible refine condP_t ?_ | with_reducible refine condP_f ?_ | with_reducible refine ifP_tt' ?_ | with_reducible refine ifP_ff' ?_ | with_reducible refine ifP_tf' ?_ | with_reducible refine ifP_ft' ?_ | with_reducible refine ifP_u' ?_ | refine optP_mk0 ?_))
                refine gtr_s (fun hk4 => ?_) (fun hk4 => ?_)
                · have h2 := hcp (k2 - 1) (by omega)
                  have h3' := (List.getElem?_eq_some_iff.1 h2).1
                  have h4 : ((k2 : Int) - 1).toNat = k2 - 1 := by omega
                  have hpx := hn1.ixI .i64 (i := (k2 : Int) - 1) (by omega) (by omega)
                  have hp1 := hn1.load' h2
                  rw [h4] at hpx
                  (repeat (first | refine lss_t (by omega) ?_ | refine lss_f (by omega) ?_ | refine leq_t (by omega) ?_ | refine leq_f (by omega) ?_ | refine gtr_t (by omega) ?_ | refine gtr_f (by omega) ?_ | refine geq_t (by omega) ?_ | refine geq_f (by omega) ?_ | refine eql_t (by omega) ?_ | refine eql_f (by omega) ?_ | refine neq_t (by omega) ?_ | refine neq_f (by omega) ?_ | refine bindP_mk (by simp (disch := first | omega | exact Int.natCast_nonneg _ | assumption) only [BB, decide_true, decide_false, Bool.not_true, Bool.not_false, Option.bind_some, T.get_upd_same, T.get_upd_ne, if_pos, Nat.zero_add, Nat.mul_one, Nat.add_zero, Int.toNat_natCast, ↓reduceIte, Nat.reduceLeDiff, Nat.reduceAdd, Nat.le_refl, g3, hpx, hp1, hyx, hy1] <;> rfl) ?_ | refine newP_mk ?_ | refine optP_mk ?_ | with_reducible refine condP_t ?_ | with_reducible refine condP_f ?_ | with_reducible refine ifP_tt' ?_ | with_reducible refine ifP_ff' ?_ | with_reducible refine ifP_tf' ?_ | with_reducible refine ifP_ft' ?_ | with_reducible refine ifP_u' ?_ | refine optP_mk0 ?_))
                  refine geq_s (fun hge => ?_) (fun hge => ?_)
                  · (repeat (first | refine lss_t (by omega) ?_ | refine lss_f (by omega) ?_ | refine leq_t (by omega) ?_ | refine leq_f (by omega) ?_ | refine gtr_t (by omega) ?_ | refine gtr_f (by omega) ?_ | refine geq_t (by omega) ?_ | refine geq_f (by omega) ?_ | refine eql_t (by omega) ?_ | refine eql_f (by omega) ?_ | refine neq_t (by omega) ?_ | refine neq_f (by omega) ?_ | refine bindP_mk (by simp (disch := first | omega | exact Int.natCast_nonneg _ | assumption) only [BB, decide_true, decide_false, Bool.not_true, Bool.not_false, Option.bind_some, T.get_upd_same, T.get_upd_ne, if_pos, Nat.zero_add, Nat.mul_one, Nat.add_zero, Int.toNat_natCast, ↓reduceIte, Nat.reduceLeDiff, Nat.reduceAdd, Nat.le_refl] <;> rfl) ?_ | refine newP_mk ?_ | refine optP_mk ?_ | with_reducible refine condP_t ?_ | with_reducible refine condP_f ?_ | with_reducible refine ifP_tt' ?_ | with_reducible refine ifP_ff' ?_ | with_reducible refine ifP_tf' ?_ | with_reducible refine ifP_ft' ?_ | with_reducible refine ifP_u' ?_ | refine optP_mk0 ?_))
                    exact hfin2 _ _ rfl (.inl (by omega)) (by omega)
                  · (repeat (first | refine lss_t (by omega) ?_ | refine lss_f (by omega) ?_ | refine leq_t (by omega) ?_ | refine leq_f (by omega) ?_ | refine gtr_t (by omega) ?_ | refine gtr_f (by omega) ?_ | refine geq_t (by omega) ?_ | refine geq_f (by omega) ?_ | refine eql_t (by omega) ?_ | refine eql_f (by omega) ?_ | refine neq_t (by omega) ?_ | refine neq_f (by omega) ?_ | refine bindP_mk (by simp (disch := first | omega | exact Int.natCast_nonneg _ | assumption) only [BB, decide_true, decide_false, Bool.not_true, Bool.not_false, Option.bind_some, T.get_upd_same, T.get_upd_ne, if_pos, Nat.zero_add, Nat.mul_one, Nat.add_zero, Int.toNat_natCast, ↓reduceIte, Nat.reduceLeDiff, Nat.reduceAdd, Nat.le_refl] <;> rfl) ?_ | refine newP_mk ?_ | refine optP_mk ?_ | with_reducible refine condP_t ?_ | with_reducible refine condP_f ?_ | with_reducible refine ifP_tt' ?_ | with_reducible refine ifP_ff' ?_ | with_reducible refine ifP_tf' ?_ | with_reducible refine ifP_ft' ?_ | with_reducible refine ifP_u' ?_ | refine optP_mk0 ?_))
                    exact hok2 _ _ f2 f3 f5 f6 rfl (by omega) (by omega) (by omega)
                · (repeat (first | refine lss_t (by omega) ?_ | refine lss_f (by omega) ?_ | refine leq_t (by omega) ?_ | refine leq_f (by omega) ?_ | refine gtr_t (by omega) ?_ | refine gtr_f (by omega) ?_ | refine geq_t (by omega) ?_ | refine geq_f (by omega) ?_ | refine eql_t (by omega) ?_ | refine eql_f (by omega) ?_ | refine neq_t (by omega) ?_ | refine neq_f (by omega) ?_ | refine bindP_mk (by simp (disch := first | omega | exact Int.natCast_nonneg _ | assumption) only [BB, decide_true, decide_false, Bool.not_true, Bool.not_false, Option.bind_some, T.get_upd_same, T.get_upd_ne, if_pos, Nat.zero_add, Nat.mul_one, Nat.add_zero, Int.toNat_natCast, ↓reduceIte, Nat.reduceLeDiff, Nat.reduceAdd, Nat.le_refl] <;> rfl) ?_ | refine newP_mk ?_ | refine optP_mk ?_ | with_reducible refine condP_t ?_ | with_reducible refine condP_f ?_ | with_reducible refine ifP_tt' ?_ | with_reducible refine ifP_ff' ?_ | with_reducible refine ifP_tf' ?_ | with_reducible refine ifP_ft' ?_ | with_reducible refine ifP_u' ?_ | refine optP_mk0 ?_))
                  have := hc0 (by omega)
                  exact hok2 _ _ f2 f3 f5 f6 rfl (by omega) (by omega) (by omega)
          · (repeat (first | refine lss_t (by omega) ?_ | refine lss_f (by omega) ?_ | refine leq_t (by omega) ?_ | refine leq_f (by omega) ?_ | refine gtr_t (by omega) ?_ | refine gtr_f (by omega) ?_ | refine geq_t (by omega) ?_ | refine geq_f (by omega) ?_ | refine eql_t (by omega) ?_ | refine eql_f (by omega) ?_ | refine neq_t (by omega) ?_ | refine neq_f (by omega) ?_ | refine bindP_mk (by simp (disch := first | omega | exact Int.natCast_nonneg _ | assumption) only [BB, decide_true, decide_false, Bool.not_true, Bool.not_false, Option.bind_some, T.get_upd_same, T.get_upd_ne, if_pos, Nat.zero_add, Nat.mul_one, Nat.add_zero, Int.toNat_natCast, ↓reduceIte, Nat.reduceLeDiff, Nat.reduceAdd, Nat.le_refl] <;> rfl) ?_ | refine newP_mk ?_ | refine optP_mk ?_ | with_reducible refine condP_t ?_ | with_reducible refine condP_f ?_ | with_reducible refine ifP_tt' ?_ | with_reducible refine ifP_ff' ?_ | with_reducible refine ifP_tf' ?_ | with_reducible refine ifP_ft' ?_ | with_reducible refine ifP_u' ?_ | refine optP_mk0 ?_))
            refine hx2 _ _ _ _ (fun e => by cases e) (exP_e (beqP_t ?_))
            rw [drop_all (by omega)] at hr4
            have hr4 : R3 = true := hr4.symm
            rw [hr4, Bool.true_and] at hr2
            have hj2 : ∀ (e' : Env) n, e' 2 = ptr nx → e' 3 = ptr (nx + 1) → e' 5 = .int .i64 k → nx + 2 ≤ n → ref10_Right_j2 ro Q' e' h'' n := fun e' n t2 t3 t5 hn => by
              unfold ref10_Right_j2
              rw [t5]
              (repeat (first | refine lss_t (by omega) ?_ | refine lss_f (by omega) ?_ | refine leq_t (by omega) ?_ | refine leq_f (by omega) ?_ | refine gtr_t (by omega) ?_ | refine gtr_f (by omega) ?_ | refine geq_t (by omega) ?_ | refine geq_f (by omega) ?_ | refine eql_t (by omega) ?_ | refine eql_f (by omega) ?_ | refine neq_t (by omega) ?_ | refine neq_f (by omega) ?_ | refine bindP_mk (by simp (disch := first | omega | exact Int.natCast_nonneg _ | assumption) only [BB, decide_true, decide_false, Bool.not_true, Bool.not_false, Option.bind_some, T.get_upd_same, T.get_upd_ne, if_pos, Nat.zero_add, Nat.mul_one, Nat.add_zero, Int.toNat_natCast, ↓reduceIte, Nat.reduceLeDiff, Nat.reduceAdd, Nat.le_refl] <;> rfl) ?_ | refine newP_mk ?_ | refine optP_mk ?_ | with_reducible refine condP_t ?_ | with_reducible refine condP_f ?_ | with_reducible refine ifP_tt' ?_ | with_reducible refine ifP_ff' ?_ | with_reducible refine ifP_tf' ?_ | with_reducible refine ifP_ft' ?_ | with_reducible refine ifP_u' ?_ | refine optP_mk0 ?_))
              exact hq (j - 1) _ h' _ _ (by omega) ⟨k + 1, d.p, by omega, by omega, rfl, t2, t3, rfl, by omega, by omega, fun h => by omega, hkk, hr2⟩ hs3
            exact hj2 _ _ f2 f3 f5 (by omega)
        (repeat (first | refine lss_t (by omega) ?_ | refine lss_f (by omega) ?_ | refine leq_t (by omega) ?_ | refine leq_f (by omega) ?_ | refine gtr_t (by omega) ?_ | refine gtr_f (by omega) ?_ | refine geq_t (by omega) ?_ | refine geq_f (by omega) ?_ | refine eql_t (by omega) ?_ | refine eql_f (by omega) ?_ | refine neq_t (by omega) ?_ | refine neq_f (by omega) ?_ | refine bindP_mk (by simp (disch := first | omega | exact Int.natCast_nonneg _ | assumption) only [BB, decide_true, decide_false, Bool.not_true, Bool.not_false, Option.bind_some, T.get_upd_same, T.get_upd_ne, if_pos, Nat.zero_add, Nat.mul_one, Nat.add_zero, Int.toNat_natCast, ↓reduceIte, Nat.reduceLeDiff, Nat.reduceAdd, Nat.le_refl, g3] <;> rfl) ?_ | refine newP_mk ?_ | refine optP_mk ?_ | with_reducible refine condP_t ?_ | with_reducible refine condP_f ?_ | with_reducible refine ifP_tt' ?_ | with_reducible refine ifP_ff' ?_ | with_reducible refine ifP_tf' ?_ | with_reducible refine ifP_ft' ?_ | with_reducible refine ifP_u' ?_ | refine optP_mk0 ?_))
        refine lss_s (fun hlt => ?_) (fun hlt => ?_)
        · (repeat (first | refine lss_t (by omega) ?_ | refine lss_f (by omega) ?_ | refine leq_t (by omega) ?_ | refine leq_f (by omega) ?_ | refine gtr_t (by omega) ?_ | refine gtr_f (by omega) ?_ | refine geq_t (by omega) ?_ | refine geq_f (by omega) ?_ | refine eql_t (by omega) ?_ | refine eql_f (by omega) ?_ | refine neq_t (by omega) ?_ | refine neq_f (by omega) ?_ | refine bindP_mk (by simp (disch := first | omega | exact Int.natCast_nonneg _ | assumption) only [BB, decide_true, decide_false, Bool.not_true, Bool.not_false, Option.bind_some, T.get_upd_same, T.get_upd_ne, if_pos, Nat.zero_add, Nat.mul_one, Nat.add_zero, Int.toNat_natCast, ↓reduceIte, Nat.reduceLeDiff, Nat.reduceAdd, Nat.le_refl, g13, g23, g3, hbl, hnl] <;> rfl) ?_ | refine newP_mk ?_ | refine optP_mk ?_ | with_reducible refine condP_t ?_ | with_reducible refine condP_f ?_ | with_reducible refine ifP_tt' ?_ | with_reducible refine ifP_ff' ?_ | with_reducible refine ifP_tf' ?_ | with_reducible refine ifP_ft' ?_ | with_reducible refine ifP_u' ?_ | refine optP_mk0 ?_))
          exact hfin _ _ rfl (by rw [← hr2, decide_eq_false (by omega)]; rfl) (by omega)
        · (repeat (first | refine lss_t (by omega) ?_ | refine lss_f (by omega) ?_ | refine leq_t (by omega) ?_ | refine leq_f (by omega) ?_ | refine gtr_t (by omega) ?_ | refine gtr_f (by omega) ?_ | refine geq_t (by omega) ?_ | refine geq_f (by omega) ?_ | refine eql_t (by omega) ?_ | refine eql_f (by omega) ?_ | refine neq_t (by omega) ?_ | refine neq_f (by omega) ?_ | refine bindP_mk (by simp (disch := first | omega | exact Int.natCast_nonneg _ | assumption) only [BB, decide_true, decide_false, Bool.not_true, Bool.not_false, Option.bind_some, T.get_upd_same, T.get_upd_ne, if_pos, Nat.zero_add, Nat.mul_one, Nat.add_zero, Int.toNat_natCast, ↓reduceIte, Nat.reduceLeDiff, Nat.reduceAdd, Nat.le_refl, g13, g23, g3, hbl, hnl] <;> rfl) ?_ | refine newP_mk ?_ | refine optP_mk ?_ | with_reducible refine condP_t ?_ | with_reducible refine condP_f ?_ | with_reducible refine ifP_tt' ?_ | with_reducible refine ifP_ff' ?_ | with_reducible refine ifP_tf' ?_ | with_reducible refine ifP_ft' ?_ | with_reducible refine ifP_u' ?_ | refine optP_mk0 ?_))
          refine geq_s (fun hge => ?_) (fun hge => ?_)
          · (repeat (first | refine lss_t (by omega) ?_ | refine lss_f (by omega) ?_ | refine leq_t (by omega) ?_ | refine leq_f (by omega) ?_ | refine gtr_t (by omega) ?_ | refine gtr_f (by omega) ?_ | refine geq_t (by omega) ?_ | refine geq_f (by omega) ?_ | refine eql_t (by omega) ?_ | refine eql_f (by omega) ?_ | refine neq_t (by omega) ?_ | refine neq_f (by omega) ?_ | refine bindP_mk (by simp (disch := first | omega | exact Int.natCast_nonneg _ | assumption) only [BB, decide_true, decide_false, Bool.not_true, Bool.not_false, Option.bind_some, T.get_upd_same, T.get_upd_ne, if_pos, Nat.zero_add, Nat.mul_one, Nat.add_zero, Int.toNat_natCast, ↓reduceIte, Nat.reduceLeDiff, Nat.reduceAdd, Nat.le_refl, g13, g23, g3, hbl, hnl] <;> rfl) ?_ | refine newP_mk ?_ | refine optP_mk ?_ | with_reducible refine condP_t ?_ | with_reducible refine condP_f ?_ | with_reducible refine ifP_tt' ?_ | with_reducible refine ifP_ff' ?_ | with_reducible refine ifP_tf' ?_ | with_reducible refine ifP_ft' ?_ | with_reducible refine ifP_u' ?_ | refine optP_mk0 ?_))
            exact hfin _ _ rfl (by rw [← hr2, decide_eq_false (show ¬ d.p < (g.p.length : Int) by omega)]; simp) (by omega)
          · (repeat (first | refine lss_t (by omega) ?_ | refine lss_f (by omega) ?_ | refine leq_t (by omega) ?_ | refine leq_f (by omega) ?_ | refine gtr_t (by omega) ?_ | refine gtr_f (by omega) ?_ | refine geq_t (by omega) ?_ | refine geq_f (by omega) ?_ | refine eql_t (by omega) ?_ | refine eql_f (by omega) ?_ | refine neq_t (by omega) ?_ | refine neq_f (by omega) ?_ | refine bindP_mk (by simp (disch := first | omega | exact Int.natCast_nonneg _ | assumption) only [BB, decide_true, decide_false, Bool.not_true, Bool.not_false, Option.bind_some, T.get_upd_same, T.get_upd_ne, if_pos, Nat.zero_add, Nat.mul_one, Nat.add_zero, Int.toNat_natCast, ↓reduceIte, Nat.reduceLeDiff, Nat.reduceAdd, Nat.le_refl, g13, g23, g3, hbl, hnl] <;> rfl) ?_ | refine newP_mk ?_ | refine optP_mk ?_ | with_reducible refine condP_t ?_ | with_reducible refine condP_f ?_ | with_reducible refine ifP_tt' ?_ | with_reducible refine ifP_ff' ?_ | with_reducible refine ifP_tf' ?_ | with_reducible refine ifP_ft' ?_ | with_reducible refine ifP_u' ?_ | refine optP_mk0 ?_))
            have hend : last < d.p → ∀ n0, nx + 2 ≤ n0 → True := fun _ _ _ => trivial
            refine gtr_s (fun hk4 => ?_) (fun hk4 => ?_)
            · obtain ⟨hql, hqp⟩ := hkp (k - 1) (by omega)
              have h4 : ((k : Int) - 1).toNat = k - 1 := by omega
              have hpx := hl3.ixI .i64 (i := (k : Int) - 1) (by omega) (by omega)
              rw [h4] at hpx
              obtain ⟨xp, ⟨nvp, rfl, _⟩, _, _, hp4, hp5⟩ := hl3.at hql
              have hp0 := hp5 0 _ rfl
              rw [hqp] at hp0
              (repeat (first | refine lss_t (by omega) ?_ | refine lss_f (by omega) ?_ | refine leq_t (by omega) ?_ | refine leq_f (by omega) ?_ | refine gtr_t (by omega) ?_ | refine gtr_f (by omega) ?_ | refine geq_t (by omega) ?_ | refine geq_f (by omega) ?_ | refine eql_t (by omega) ?_ | refine eql_f (by omega) ?_ | refine neq_t (by omega) ?_ | refine neq_f (by omega) ?_ | refine bindP_mk (by simp (disch := first | omega | exact Int.natCast_nonneg _ | assumption) only [BB, decide_true, decide_false, Bool.not_true, Bool.not_false, Option.bind_some, T.get_upd_same, T.get_upd_ne, if_pos, Nat.zero_add, Nat.mul_one, Nat.add_zero, Int.toNat_natCast, ↓reduceIte, Nat.reduceLeDiff, Nat.reduceAdd, Nat.le_refl, g13, g23, g3, hpx, hp4, hp0] <;> rfl) ?_ | refine newP_mk ?_ | refine optP_mk ?_ | with_reducible refine condP_t ?_ | with_reducible refine condP_f ?_ | with_reducible refine ifP_tt' ?_ | with_reducible refine ifP_ff' ?_ | with_reducible refine ifP_tf' ?_ | with_reducible refine ifP_ft' ?_ | with_reducible refine ifP_u' ?_ | refine optP_mk0 ?_))
              refine geq_s (fun hge2 => ?_) (fun hge2 => ?_)
              · (repeat (first | refine lss_t (by omega) ?_ | refine lss_f (by omega) ?_ | refine leq_t (by omega) ?_ | refine leq_f (by omega) ?_ | refine gtr_t (by omega) ?_ | refine gtr_f (by omega) ?_ | refine geq_t (by omega) ?_ | refine geq_f (by omega) ?_ | refine eql_t (by omega) ?_ | refine eql_f (by omega) ?_ | refine neq_t (by omega) ?_ | refine neq_f (by omega) ?_ | refine bindP_mk (by simp (disch := first | omega | exact Int.natCast_nonneg _ | assumption) only [BB, decide_true, decide_false, Bool.not_true, Bool.not_false, Option.bind_some, T.get_upd_same, T.get_upd_ne, if_pos, Nat.zero_add, Nat.mul_one, Nat.add_zero, Int.toNat_natCast, ↓reduceIte, Nat.reduceLeDiff, Nat.reduceAdd, Nat.le_refl] <;> rfl) ?_ | refine newP_mk ?_ | refine optP_mk ?_ | with_reducible refine condP_t ?_ | with_reducible refine condP_f ?_ | with_reducible refine ifP_tt' ?_ | with_reducible refine ifP_ff' ?_ | with_reducible refine ifP_tf' ?_ | with_reducible refine ifP_ft' ?_ | with_reducible refine ifP_u' ?_ | refine optP_mk0 ?_))
                exact hfin _ _ rfl (by rw [← hr2, decide_eq_false (by omega)]; rfl) (by omega)
              · (repeat (first | refine lss_t (by omega) ?_ | refine lss_f (by omega) ?_ | refine leq_t (by omega) ?_ | refine leq_f (by omega) ?_ | refine gtr_t (by omega) ?_ | refine gtr_f (by omega) ?_ | refine geq_t (by omega) ?_ | refine geq_f (by omega) ?_ | refine eql_t (by omega) ?_ | refine eql_f (by omega) ?_ | refine neq_t (by omega) ?_ | refine neq_f (by omega) ?_ | refine bindP_mk (by simp (disch := first | omega | exact Int.natCast_nonneg _ | assumption) only [BB, decide_true, decide_false, Bool.not_true, Bool.not_false, Option.bind_some, T.get_upd_same, T.get_upd_ne, if_pos, Nat.zero_add, Nat.mul_one, Nat.add_zero, Int.toNat_natCast, ↓reduceIte, Nat.reduceLeDiff, Nat.reduceAdd, Nat.le_refl, g3, hnl] <;> rfl) ?_ | refine newP_mk ?_ | refine optP_mk ?_ | with_reducible refine condP_t ?_ | with_reducible refine condP_f ?_ | with_reducible refine ifP_tt' ?_ | with_reducible refine ifP_ff' ?_ | with_reducible refine ifP_tf' ?_ | with_reducible refine ifP_ft' ?_ | with_reducible refine ifP_u' ?_ | refine optP_mk0 ?_))
                refine eql_s (fun he => ?_) (fun he => ?_)
                · (repeat (first | refine lss_t (by omega) ?_ | refine lss_f (by omega) ?_ | refine leq_t (by omega) ?_ | refine leq_f (by omega) ?_ | refine gtr_t (by omega) ?_ | refine gtr_f (by omega) ?_ | refine geq_t (by omega) ?_ | refine geq_f (by omega) ?_ | refine eql_t (by omega) ?_ | refine eql_f (by omega) ?_ | refine neq_t (by omega) ?_ | refine neq_f (by omega) ?_ | refine bindP_mk (by simp (disch := first | omega | exact Int.natCast_nonneg _ | assumption) only [BB, decide_true, decide_false, Bool.not_true, Bool.not_false, Option.bind_some, T.get_upd_same, T.get_upd_ne, if_pos, Nat.zero_add, Nat.mul_one, Nat.add_zero, Int.toNat_natCast, ↓reduceIte, Nat.reduceLeDiff, Nat.reduceAdd, Nat.le_refl] <;> rfl) ?_ | refine newP_mk ?_ | refine optP_mk ?_ | with_reducible refine condP_t ?_ | with_reducible refine condP_f ?_ | with_reducible refine ifP_tt' ?_ | with_reducible refine ifP_ff' ?_ | with_reducible refine ifP_tf' ?_ | with_reducible refine ifP_ft' ?_ | with_reducible refine ifP_u' ?_ | refine optP_mk0 ?_))
                  exact hfin _ _ rfl (by rw [← hr2, eq_len he]; simp) (by omega)
                · (repeat (first | refine lss_t (by omega) ?_ | refine lss_f (by omega) ?_ | refine leq_t (by omega) ?_ | refine leq_f (by omega) ?_ | refine gtr_t (by omega) ?_ | refine gtr_f (by omega) ?_ | refine geq_t (by omega) ?_ | refine geq_f (by omega) ?_ | refine eql_t (by omega) ?_ | refine eql_f (by omega) ?_ | refine neq_t (by omega) ?_ | refine neq_f (by omega) ?_ | refine bindP_mk (by simp (disch := first | omega | exact Int.natCast_nonneg _ | assumption) only [BB, decide_true, decide_false, Bool.not_true, Bool.not_false, Option.bind_some, T.get_upd_same, T.get_upd_ne, if_pos, Nat.zero_add, Nat.mul_one, Nat.add_zero, Int.toNat_natCast, ↓reduceIte, Nat.reduceLeDiff, Nat.reduceAdd, Nat.le_refl] <;> rfl) ?_ | refine newP_mk ?_ | refine optP_mk ?_ | with_reducible refine condP_t ?_ | with_reducible refine condP_f ?_ | with_reducible refine ifP_tt' ?_ | with_reducible refine ifP_ff' ?_ | with_reducible refine ifP_tf' ?_ | with_reducible refine ifP_ft' ?_ | with_reducible refine ifP_u' ?_ | refine optP_mk0 ?_))
                  exact hrest (by omega) (by omega) (by omega) (fun h => by rw [h] at he; exact he rfl) _ _ e2 e3 e5 rfl rfl (by omega)
            · (repeat (first | refine lss_t (by omega) ?_ | refine lss_f (by omega) ?_ | refine leq_t (by omega) ?_ | refine leq_f (by omega) ?_ | refine gtr_t (by omega) ?_ | refine gtr_f (by omega) ?_ | refine geq_t (by omega) ?_ | refine geq_f (by omega) ?_ | refine eql_t (by omega) ?_ | refine eql_f (by omega) ?_ | refine neq_t (by omega) ?_ | refine neq_f (by omega) ?_ | refine bindP_mk (by simp (disch := first | omega | exact Int.natCast_nonneg _ | assumption) only [BB, decide_true, decide_false, Bool.not_true, Bool.not_false, Option.bind_some, T.get_upd_same, T.get_upd_ne, if_pos, Nat.zero_add, Nat.mul_one, Nat.add_zero, Int.toNat_natCast, ↓reduceIte, Nat.reduceLeDiff, Nat.reduceAdd, Nat.le_refl, g3, hnl] <;> rfl) ?_ | refine newP_mk ?_ | refine optP_mk ?_ | with_reducible refine condP_t ?_ | with_reducible refine condP_f ?_ | with_reducible refine ifP_tt' ?_ | with_reducible refine ifP_ff' ?_ | with_reducible refine ifP_tf' ?_ | with_reducible refine ifP_ft' ?_ | with_reducible refine ifP_u' ?_ | refine optP_mk0 ?_))
              have := hk0 (by omega)
              refine eql_s (fun he => ?_) (fun he => ?_)
              · (repeat (first | refine lss_t (by omega) ?_ | refine lss_f (by omega) ?_ | refine leq_t (by omega) ?_ | refine leq_f (by omega) ?_ | refine gtr_t (by omega) ?_ | refine gtr_f (by omega) ?_ | refine geq_t (by omega) ?_ | refine geq_f (by omega) ?_ | refine eql_t (by omega) ?_ | refine eql_f (by omega) ?_ | refine neq_t (by omega) ?_ | refine neq_f (by omega) ?_ | refine bindP_mk (by simp (disch := first | omega | exact Int.natCast_nonneg _ | assumption) only [BB, decide_true, decide_false, Bool.not_true, Bool.not_false, Option.bind_some, T.get_upd_same, T.get_upd_ne, if_pos, Nat.zero_add, Nat.mul_one, Nat.add_zero, Int.toNat_natCast, ↓reduceIte, Nat.reduceLeDiff, Nat.reduceAdd, Nat.le_refl] <;> rfl) ?_ | refine newP_mk ?_ | refine optP_mk ?_ | with_reducible refine condP_t ?_ | with_reducible refine condP_f ?_ | with_reducible refine ifP_tt' ?_ | with_reducible refine ifP_ff' ?_ | with_reducible refine ifP_tf' ?_ | with_reducible refine ifP_ft' ?_ | with_reducible refine ifP_u' ?_ | refine optP_mk0 ?_))
                exact hfin _ _ rfl (by rw [← hr2, eq_len he]; simp) (by omega)
              · (repeat (first | refine lss_t (by omega) ?_ | refine lss_f (by omega) ?_ | refine leq_t (by omega) ?_ | refine leq_f (by omega) ?_ | refine gtr_t (by omega) ?_ | refine gtr_f (by omega) ?_ | refine geq_t (by omega) ?_ | refine geq_f (by omega) ?_ | refine eql_t (by omega) ?_ | refine eql_f (by omega) ?_ | refine neq_t (by omega) ?_ | refine neq_f (by omega) ?_ | refine bindP_mk (by simp (disch := first | omega | exact Int.natCast_nonneg _ | assumption) only [BB, decide_true, decide_false, Bool.not_true, Bool.not_false, Option.bind_some, T.get_upd_same, T.get_upd_ne, if_pos, Nat.zero_add, Nat.mul_one, Nat.add_zero, Int.toNat_natCast, ↓reduceIte, Nat.reduceLeDiff, Nat.reduceAdd, Nat.le_refl] <;> rfl) ?_ | refine newP_mk ?_ | refine optP_mk ?_ | with_reducible refine condP_t ?_ | with_reducible refine condP_f ?_ | with_reducible refine ifP_tt' ?_ | with_reducible refine ifP_ff' ?_ | with_reducible refine ifP_tf' ?_ | with_reducible refine ifP_ft' ?_ | with_reducible refine ifP_u' ?_ | refine optP_mk0 ?_))
                exact hrest (by omega) (by omega) (by omega) (fun h => by rw [h] at he; exact he rfl) _ _ e2 e3 e5 rfl rfl (by omega)
      · (repeat (first | refine lss_t (by omega) ?_ | refine lss_f (by omega) ?_ | refine leq_t (by omega) ?_ | refine leq_f (by omega) ?_ | refine gtr_t (by omega) ?_ | refine gtr_f (by omega) ?_ | refine geq_t (by omega) ?_ | refine geq_f (by omega) ?_ | refine eql_t (by omega) ?_ | refine eql_f (by omega) ?_ | refine neq_t (by omega) ?_ | refine neq_f (by omega) ?_ | refine bindP_mk (by simp (disch := first | omega | exact Int.natCast_nonneg _ | assumption) only [BB, decide_true, decide_false, Bool.not_true, Bool.not_false, Option.bind_some, T.get_upd_same, T.get_upd_ne, if_pos, Nat.zero_add, Nat.mul_one, Nat.add_zero, Int.toNat_natCast, ↓reduceIte, Nat.reduceLeDiff, Nat.reduceAdd, Nat.le_refl] <;> rfl) ?_ | refine newP_mk ?_ | refine optP_mk ?_ | with_reducible refine condP_t ?_ | with_reducible refine condP_f ?_ | with_reducible refine ifP_tt' ?_ | with_reducible refine ifP_ff' ?_ | with_reducible refine ifP_tf' ?_ | with_reducible refine ifP_ft' ?_ | with_reducible refine ifP_u' ?_ | refine optP_mk0 ?_))
        refine hx _ _ _ _ (fun e => by cases e) (exP_e (beqP_t ?_))
        unfold ref10_Right_j1
        rw [drop_all (by omega)] at hr2
        exact hK' _ _ hr2.symm (by omega)
    (repeat (first | refine lss_t (by omega) ?_ | refine lss_f (by omega) ?_ | refine leq_t (by omega) ?_ | refine leq_f (by omega) ?_ | refine gtr_t (by omega) ?_ | refine gtr_f (by omega) ?_ | refine geq_t (by omega) ?_ | refine geq_f (by omega) ?_ | refine eql_t (by omega) ?_ | refine eql_f (by omega) ?_ | refine neq_t (by omega) ?_ | refine neq_f (by omega) ?_ | refine bindP_mk (by simp (disch := first | omega | exact Int.natCast_nonneg _ | assumption) only [BB, decide_true, decide_false, Bool.not_true, Bool.not_false, Option.bind_some, T.get_upd_same, T.get_upd_ne, if_pos, Nat.zero_add, Nat.mul_one, Nat.add_zero, Int.toNat_natCast, ↓reduceIte, Nat.reduceLeDiff, Nat.reduceAdd, Nat.le_refl, g2] <;> rfl) ?_ | refine newP_mk ?_ | refine optP_mk ?_ | with_reducible refine condP_t ?_ | with_reducible refine condP_f ?_ | with_reducible refine ifP_tt' ?_ | with_reducible refine ifP_ff' ?_ | with_reducible refine ifP_tf' ?_ | with_reducible refine ifP_ft' ?_ | with_reducible refine ifP_u' ?_ | refine optP_mk0 ?_))
    cases hcb : c.b with
    | true =>
      (repeat (first | refine lss_t (by omega) ?_ | refine lss_f (by omega) ?_ | refine leq_t (by omega) ?_ | refine leq_f (by omega) ?_ | refine gtr_t (by omega) ?_ | refine gtr_f (by omega) ?_ | refine geq_t (by omega) ?_ | refine geq_f (by omega) ?_ | refine eql_t (by omega) ?_ | refine eql_f (by omega) ?_ | refine neq_t (by omega) ?_ | refine neq_f (by omega) ?_ | refine bindP_mk (by simp (disch := first | omega | exact Int.natCast_nonneg _ | assumption) only [BB, decide_true, decide_false, Bool.not_true, Bool.not_false, Option.bind_some, T.get_upd_same, T.get_upd_ne, if_pos, Nat.zero_add, Nat.mul_one, Nat.add_zero, Int.toNat_natCast, ↓reduceIte, Nat.reduceLeDiff, Nat.reduceAdd, Nat.le_refl, g2, hll] <;> rfl) ?_ | refine newP_mk ?_ | refine optP_mk ?_ | with_reducible refine condP_t ?_ | with_reducible refine condP_f ?_ | with_reducible refine ifP_tt' ?_ | with_reducible refine ifP_ff' ?_ | with_reducible refine ifP_tf' ?_ | with_reducible refine ifP_ft' ?_ | with_reducible refine ifP_u' ?_ | refine optP_mk0 ?_))
      refine gtr_s (fun hgt => ?_) (fun hgt => ?_)
      · (repeat (first | refine lss_t (by omega) ?_ | refine lss_f (by omega) ?_ | refine leq_t (by omega) ?_ | refine leq_f (by omega) ?_ | refine gtr_t (by omega) ?_ | refine gtr_f (by omega) ?_ | refine geq_t (by omega) ?_ | refine geq_f (by omega) ?_ | refine eql_t (by omega) ?_ | refine eql_f (by omega) ?_ | refine neq_t (by omega) ?_ | refine neq_f (by omega) ?_ | refine bindP_mk (by simp (disch := first | omega | exact Int.natCast_nonneg _ | assumption) only [BB, decide_true, decide_false, Bool.not_true, Bool.not_false, Option.bind_some, T.get_upd_same, T.get_upd_ne, if_pos, Nat.zero_add, Nat.mul_one, Nat.add_zero, Int.toNat_natCast, ↓reduceIte, Nat.reduceLeDiff, Nat.reduceAdd, Nat.le_refl] <;> rfl) ?_ | refine newP_mk ?_ | refine optP_mk ?_ | with_reducible refine condP_t ?_ | with_reducible refine condP_f ?_ | with_reducible refine ifP_tt' ?_ | with_reducible refine ifP_ff' ?_ | with_reducible refine ifP_tf' ?_ | with_reducible refine ifP_ft' ?_ | with_reducible refine ifP_u' ?_ | refine optP_mk0 ?_))
        refine hK' _ _ ?_ (by omega)
        unfold fitsD
        rw [hcb, if_pos rfl]
        exact ne_len (by omega)
      · (repeat (first | refine lss_t (by omega) ?_ | refine lss_f (by omega) ?_ | refine leq_t (by omega) ?_ | refine leq_f (by omega) ?_ | refine gtr_t (by omega) ?_ | refine gtr_f (by omega) ?_ | refine geq_t (by omega) ?_ | refine geq_f (by omega) ?_ | refine eql_t (by omega) ?_ | refine eql_f (by omega) ?_ | refine neq_t (by omega) ?_ | refine neq_f (by omega) ?_ | refine bindP_mk (by simp (disch := first | omega | exact Int.natCast_nonneg _ | assumption) only [BB, decide_true, decide_false, Bool.not_true, Bool.not_false, Option.bind_some, T.get_upd_same, T.get_upd_ne, if_pos, Nat.zero_add, Nat.mul_one, Nat.add_zero, Int.toNat_natCast, ↓reduceIte, Nat.reduceLeDiff, Nat.reduceAdd, Nat.le_refl] <;> rfl) ?_ | refine newP_mk ?_ | refine optP_mk ?_ | with_reducible refine condP_t ?_ | with_reducible refine condP_f ?_ | with_reducible refine ifP_tt' ?_ | with_reducible refine ifP_ff' ?_ | with_reducible refine ifP_tf' ?_ | with_reducible refine ifP_ft' ?_ | with_reducible refine ifP_u' ?_ | refine optP_mk0 ?_))
        exact hloop (fun _ => eq_len (by omega)) _ _ rfl rfl rfl (by omega)
    | false =>
      (repeat (first | refine lss_t (by omega) ?_ | refine lss_f (by omega) ?_ | refine leq_t (by omega) ?_ | refine leq_f (by omega) ?_ | refine gtr_t (by omega) ?_ | refine gtr_f (by omega) ?_ | refine geq_t (by omega) ?_ | refine geq_f (by omega) ?_ | refine eql_t (by omega) ?_ | refine eql_f (by omega) ?_ | refine neq_t (by omega) ?_ | refine neq_f (by omega) ?_ | refine bindP_mk (by simp (disch := first | omega | exact Int.natCast_nonneg _ | assumption) only [BB, decide_true, decide_false, Bool.not_true, Bool.not_false, Option.bind_some, T.get_upd_same, T.get_upd_ne, if_pos, Nat.zero_add, Nat.mul_one, Nat.add_zero, Int.toNat_natCast, ↓reduceIte, Nat.reduceLeDiff, Nat.reduceAdd, Nat.le_refl] <;> rfl) ?_ | refine newP_mk ?_ | refine optP_mk ?_ | with_reducible refine condP_t ?_ | with_reducible refine condP_f ?_ | with_reducible refine ifP_tt' ?_ | with_reducible refine ifP_ff' ?_ | with_reducible refine ifP_tf' ?_ | with_reducible refine ifP_ft' ?_ | with_reducible refine ifP_u' ?_ | refine optP_mk0 ?_))
      exact hloop (fun h => by rw [hcb] at h; cases h) _ _ rfl rfl rfl (by omega)
end V
end Go.Proofs.Ytepbdkfkfcckoaa

/- What Step (reference), Rule (both), Same hand back.
   No condition. -/
set_option linter.unusedVariables false
set_option linter.unusedSimpArgs false
namespace Go.Proofs.Ytepbdkfkfcckoaa
namespace V
open PA
attribute [local irreducible] bindP ifP condP newP optP exP beqP
set_option maxRecDepth 4000 in
theorem ref10_Step_c {ro : Ro} {v w : Value} {g : GlD} {c : CfgD} {by_ : Nat} (hby : by_ < 256) {h : T Obj} {nx : Nat} {K : KV} (hf : Fr h nx) (hg : RG ro h v g) (hc : RCfg ro h w c)
    (hK : ∀ r h' nx', nx ≤ nx' → Sub h h' → Fr h' nx' → RCfg ro h' r (StepC g c by_) → K r h' nx') : callP Try.prog ro i_ref10_Step [v, w, .int .u8 (by_ : Int)] h nx K := by
  obtain ⟨a, b, rfl, ha, hP⟩ := hg
  obtain ⟨a2, rfl, hl⟩ := hc
  apply ref10_Step_of
  unfold ref10_Step
  refine param_mk hf (Nat.le_refl _) fun h1 hs1 hf1 g1 _ => ?_
  refine param_mk hf1 (Nat.le_refl _) fun h2 hs2 hf2 g2 _ => ?_
  refine bindP_mk zer_Config ?_
  refine obj_mk hf2 (Nat.le_refl _) fun h3 hs3 hf3 g3 _ => ?_
  have g1 := hs3 _ _ (hs2 _ _ g1)
  have g2 := hs3 _ _ g2
  have hs := (hs1.trans hs2).trans hs3
  have hG : RG ro h3 (.agg #[a, b]) g := ⟨a, b, rfl, ha.sub hs, hP.sub hs (RPos.sub hs)⟩
  have hC : RCfg ro h3 (.agg #[.bool c.b, a2]) c := ⟨a2, rfl, hl.sub hs (RHeld.sub hs)⟩
  refine bindP_mk (loadA_all (l := [a, b]) g1 rfl) ?_
  refine bindP_mk (loadA_all (l := [.bool c.b, a2]) g2 rfl) ?_
  refine ref10_Right_c (hf3.mono (by omega)) hG hC fun n hn => ?_
  cases hrc : rightC g c with
  | false =>
    have hst : StepC g c by_ = ⟨false, []⟩ := by unfold StepC; rw [hrc]; rfl
    rw [hst] at hK
    (repeat (first | refine lss_t (by omega) ?_ | refine lss_f (by omega) ?_ | refine leq_t (by omega) ?_ | refine leq_f (by omega) ?_ | refine gtr_t (by omega) ?_ | refine gtr_f (by omega) ?_ | refine geq_t (by omega) ?_ | refine geq_f (by omega) ?_ | refine eql_t (by omega) ?_ | refine eql_f (by omega) ?_ | refine neq_t (by omega) ?_ | refine neq_f (by omega) ?_ | refine bindP_mk (by simp (disch := first | omega | exact Int.natCast_nonneg _ | assumption) only [BB, decide_true, decide_false, Bool.not_true, Bool.not_false, Option.bind_some, T.get_upd_same, T.get_upd_ne, if_pos, Nat.zero_add, Nat.mul_one, Nat.add_zero, Int.toNat_natCast, ↓reduceIte, Nat.reduceLeDiff, Nat.reduceAdd, Nat.le_refl] <;> rfl) ?_ | refine newP_mk ?_ | refine optP_mk ?_ | with_reducible refine condP_t ?_ | with_reducible refine condP_f ?_ | with_reducible refine ifP_tt' ?_ | with_reducible refine ifP_ff' ?_ | with_reducible refine ifP_tf' ?_ | with_reducible refine ifP_ft' ?_ | with_reducible refine ifP_u' ?_ | refine optP_mk0 ?_))
    refine bindP_mk build_Config0 ?_
    refine bindP_mk (storeA_own (l := [.bool false, .slice none 0 0]) (vs := [.bool false, .slice none 0 0]) g3 rfl rfl rfl rfl) ?_
    refine bindP_mk (loadA_all (l := [.bool false, .slice none 0 0]) (by rw [T.get_upd_same]) rfl) ?_
    exact ⟨h, hs.new hf (by omega), hK _ _ _ (by omega) (Sub.refl _) (hf.mono (by omega)) ⟨_, rfl, SlR.nil⟩⟩
  | true =>
    have hst : StepC g c by_ = stepD g c by_ := by unfold StepC; rw [hrc]; rfl
    rw [hst] at hK
    unfold rightC at hrc
    simp only [Bool.and_eq_true] at hrc
    (repeat (first | refine lss_t (by omega) ?_ | refine lss_f (by omega) ?_ | refine leq_t (by omega) ?_ | refine leq_f (by omega) ?_ | refine gtr_t (by omega) ?_ | refine gtr_f (by omega) ?_ | refine geq_t (by omega) ?_ | refine geq_f (by omega) ?_ | refine eql_t (by omega) ?_ | refine eql_f (by omega) ?_ | refine neq_t (by omega) ?_ | refine neq_f (by omega) ?_ | refine bindP_mk (by simp (disch := first | omega | exact Int.natCast_nonneg _ | assumption) only [BB, decide_true, decide_false, Bool.not_true, Bool.not_false, Option.bind_some, T.get_upd_same, T.get_upd_ne, if_pos, Nat.zero_add, Nat.mul_one, Nat.add_zero, Int.toNat_natCast, ↓reduceIte, Nat.reduceLeDiff, Nat.reduceAdd, Nat.le_refl] <;> rfl) ?_ | refine newP_mk ?_ | refine optP_mk ?_ | with_reducible refine condP_t ?_ | with_reducible refine condP_f ?_ | with_reducible refine ifP_tt' ?_ | with_reducible refine ifP_ff' ?_ | with_reducible refine ifP_tf' ?_ | with_reducible refine ifP_ft' ?_ | with_reducible refine ifP_u' ?_ | refine optP_mk0 ?_))
    refine bindP_mk (loadA_all (l := [a, b]) g1 rfl) ?_
    refine bindP_mk (loadA_all (l := [.bool c.b, a2]) g2 rfl) ?_
    refine ref10_step_c hrc.1 hrc.2 hby (hf3.mono (by omega)) hG hC fun r h4 n4 hn4 q1 q2 q3 => ?_
    have q4 := q3
    obtain ⟨a3, rfl, hl3⟩ := q4.now
    have hok3 : cellOk a3 = true := by obtain ⟨cs, h9, _⟩ := hl3; exact h9.ok
    refine bindP_mk (storeA_own (l := [.bool false, .slice none 0 0]) (vs := [.bool (stepD g c by_).b, a3]) (q1 _ _ g3) rfl rfl rfl (two_ok hok3)) ?_
    refine bindP_mk (loadA_all (l := [.bool (stepD g c by_).b, a3]) (by rw [T.get_upd_same]) rfl) ?_
    refine ⟨(h4.upd (nx + 2) (some (.cells [Value.bool (stepD g c by_).b, a3].toArray y_api_Config))), Sub.refl _, hK _ _ _ (by omega) (fun k o hk => ?_) ((q2.mono (by omega)).upd (Nat.le_refl _) (by omega)) ?_⟩
    · have := hf.lt' hk
      rw [T.get_upd_ne _ _ (by omega)]
      exact q1 _ _ (hs _ _ hk)
    · exact q3 _ fun k hk => T.get_upd_ne _ _ (by omega)
theorem nca_Rule_c {ro : Ro} {v w : Value} {g : GlD} {c : CfgD} {h : T Obj} {nx : Nat} {K : KV} (hf : Fr h nx) (hg : RG ro h v g) (hc : RCfg ro h w c) (hK : ∀ nx', nx ≤ nx' → K (.int .i64 (RuleC g c)) h nx') : callP Try.prog ro i_nca_Rule [v, w] h nx K := by
  obtain ⟨a, b, rfl, ha, hP⟩ := hg
  obtain ⟨a2, rfl, hl⟩ := hc
  apply nca_Rule_of
  unfold nca_Rule
  refine param_mk hf (Nat.le_refl _) fun h1 hs1 hf1 g1 _ => ?_
  refine param_mk hf1 (Nat.le_refl _) fun h2 hs2 hf2 g2 _ => ?_
  have g1 := hs2 _ _ g1
  have hs := hs1.trans hs2
  have hG : RG ro h2 (.agg #[a, b]) g := ⟨a, b, rfl, ha.sub hs, hP.sub hs (RPos.sub hs)⟩
  have hC : RCfg ro h2 (.agg #[.bool c.b, a2]) c := ⟨a2, rfl, hl.sub hs (RHeld.sub hs)⟩
  refine bindP_mk (loadA_all (l := [a, b]) g1 rfl) ?_
  refine bindP_mk (loadA_all (l := [.bool c.b, a2]) g2 rfl) ?_
  refine nca_Right_c (hf2.mono (by omega)) hG hC fun n hn => ?_
  unfold RuleC at hK
  cases hrc : rightC g c with
  | false =>
    (repeat (first | refine lss_t (by omega) ?_ | refine lss_f (by omega) ?_ | refine leq_t (by omega) ?_ | refine leq_f (by omega) ?_ | refine gtr_t (by omega) ?_ | refine gtr_f (by omega) ?_ | refine geq_t (by omega) ?_ | refine geq_f (by omega) ?_ | refine eql_t (by omega) ?_ | refine eql_f (by omega) ?_ | refine neq_t (by omega) ?_ | refine neq_f (by omega) ?_ | refine bindP_mk (by simp (disch := first | omega | exact Int.natCast_nonneg _ | assumption) only [BB, decide_true, decide_false, Bool.not_true, Bool.not_false, Option.bind_some, T.get_upd_same, T.get_upd_ne, if_pos, Nat.zero_add, Nat.mul_one, Nat.add_zero, Int.toNat_natCast, ↓reduceIte, Nat.reduceLeDiff, Nat.reduceAdd, Nat.le_refl] <;> rfl) ?_ | refine newP_mk ?_ | refine optP_mk ?_ | with_reducible refine condP_t ?_ | with_reducible refine condP_f ?_ | with_reducible refine ifP_tt' ?_ | with_reducible refine ifP_ff' ?_ | with_reducible refine ifP_tf' ?_ | with_reducible refine ifP_ft' ?_ | with_reducible refine ifP_u' ?_ | refine optP_mk0 ?_))
    exact ⟨h, hs, ki hK (by rw [hrc]; rfl) (by omega)⟩
  | true =>
    have hrc2 := hrc
    unfold rightC at hrc2
    simp only [Bool.and_eq_true] at hrc2
    (repeat (first | refine lss_t (by omega) ?_ | refine lss_f (by omega) ?_ | refine leq_t (by omega) ?_ | refine leq_f (by omega) ?_ | refine gtr_t (by omega) ?_ | refine gtr_f (by omega) ?_ | refine geq_t (by omega) ?_ | refine geq_f (by omega) ?_ | refine eql_t (by omega) ?_ | refine eql_f (by omega) ?_ | refine neq_t (by omega) ?_ | refine neq_f (by omega) ?_ | refine bindP_mk (by simp (disch := first | omega | exact Int.natCast_nonneg _ | assumption) only [BB, decide_true, decide_false, Bool.not_true, Bool.not_false, Option.bind_some, T.get_upd_same, T.get_upd_ne, if_pos, Nat.zero_add, Nat.mul_one, Nat.add_zero, Int.toNat_natCast, ↓reduceIte, Nat.reduceLeDiff, Nat.reduceAdd, Nat.le_refl] <;> rfl) ?_ | refine newP_mk ?_ | refine optP_mk ?_ | with_reducible refine condP_t ?_ | with_reducible refine condP_f ?_ | with_reducible refine ifP_tt' ?_ | with_reducible refine ifP_ff' ?_ | with_reducible refine ifP_tf' ?_ | with_reducible refine ifP_ft' ?_ | with_reducible refine ifP_u' ?_ | refine optP_mk0 ?_))
    refine bindP_mk (loadA_all (l := [a, b]) g1 rfl) ?_
    refine bindP_mk (loadA_all (l := [.bool c.b, a2]) g2 rfl) ?_
    refine nca_rule_c hrc2.1 hrc2.2 (hf2.mono (by omega)) hG hC fun n3 hn3 => ?_
    exact ⟨h, hs, ki hK (by rw [hrc]; rfl) (by omega)⟩
theorem ref10_Rule_c {ro : Ro} {v w : Value} {g : GlD} {c : CfgD} {h : T Obj} {nx : Nat} {K : KV} (hf : Fr h nx) (hg : RG ro h v g) (hc : RCfg ro h w c) (hK : ∀ nx', nx ≤ nx' → K (.int .i64 (RuleC g c)) h nx') : callP Try.prog ro i_ref10_Rule [v, w] h nx K := by
  obtain ⟨a, b, rfl, ha, hP⟩ := hg
  obtain ⟨a2, rfl, hl⟩ := hc
  apply ref10_Rule_of
  unfold ref10_Rule
  refine param_mk hf (Nat.le_refl _) fun h1 hs1 hf1 g1 _ => ?_
  refine param_mk hf1 (Nat.le_refl _) fun h2 hs2 hf2 g2 _ => ?_
  have g1 := hs2 _ _ g1
  have hs := hs1.trans hs2
  have hG : RG ro h2 (.agg #[a, b]) g := ⟨a, b, rfl, ha.sub hs, hP.sub hs (RPos.sub hs)⟩
  have hC : RCfg ro h2 (.agg #[.bool c.b, a2]) c := ⟨a2, rfl, hl.sub hs (RHeld.sub hs)⟩
  refine bindP_mk (loadA_all (l := [a, b]) g1 rfl) ?_
  refine bindP_mk (loadA_all (l := [.bool c.b, a2]) g2 rfl) ?_
  refine ref10_Right_c (hf2.mono (by omega)) hG hC fun n hn => ?_
  unfold RuleC at hK
  cases hrc : rightC g c with
  | false =>
    (repeat (first | refine lss_t (by omega) ?_ | refine lss_f (by omega) ?_ | refine leq_t (by omega) ?_ | refine leq_f (by omega) ?_ | refine gtr_t (by omega) ?_ | refine gtr_f (by omega) ?_ | refine geq_t (by omega) ?_ | refine geq_f (by omega) ?_ | refine eql_t (by omega) ?_ | refine eql_f (by omega) ?_ | refine neq_t (by omega) ?_ | refine neq_f (by omega) ?_ | refine bindP_mk (by simp (disch := first | omega | exact Int.natCast_nonneg _ | assumption) only [BB, decide_true, decide_false, Bool.not_true, Bool.not_false, Option.bind_some, T.get_upd_same, T.get_upd_ne, if_pos, Nat.zero_add, Nat.mul_one, Nat.add_zero, Int.toNat_natCast, ↓reduceIte, Nat.reduceLeDiff, Nat.reduceAdd, Nat.le_refl] <;> rfl) ?_ | refine newP_mk ?_ | refine optP_mk ?_ | with_reducible refine condP_t ?_ | with_reducible refine condP_f ?_ | with_reducible refine ifP_tt' ?_ | with_reducible refine ifP_ff' ?_ | with_reducible refine ifP_tf' ?_ | with_reducible refine ifP_ft' ?_ | with_reducible refine ifP_u' ?_ | refine optP_mk0 ?_))
    exact ⟨h, hs, ki hK (by rw [hrc]; rfl) (by omega)⟩
  | true =>
    have hrc2 := hrc
    unfold rightC at hrc2
    simp only [Bool.and_eq_true] at hrc2
    (repeat (first | refine lss_t (by omega) ?_ | refine lss_f (by omega) ?_ | refine leq_t (by omega) ?_ | refine leq_f (by omega) ?_ | refine gtr_t (by omega) ?_ | refine gtr_f (by omega) ?_ | refine geq_t (by omega) ?_ | refine geq_f (by omega) ?_ | refine eql_t (by omega) ?_ | refine eql_f (by omega) ?_ | refine neq_t (by omega) ?_ | refine neq_f (by omega) ?_ | refine bindP_mk (by simp (disch := first | omega | exact Int.natCast_nonneg _ | assumption) only [BB, decide_true, decide_false, Bool.not_true, Bool.not_false, Option.bind_some, T.get_upd_same, T.get_upd_ne, if_pos, Nat.zero_add, Nat.mul_one, Nat.add_zero, Int.toNat_natCast, ↓reduceIte, Nat.reduceLeDiff, Nat.reduceAdd, Nat.le_refl] <;> rfl) ?_ | refine newP_mk ?_ | refine optP_mk ?_ | with_reducible refine condP_t ?_ | with_reducible refine condP_f ?_ | with_reducible refine ifP_tt' ?_ | with_reducible refine ifP_ff' ?_ | with_reducible refine ifP_tf' ?_ | with_reducible refine ifP_ft' ?_ | with_reducible refine ifP_u' ?_ | refine optP_mk0 ?_))
    refine bindP_mk (loadA_all (l := [a, b]) g1 rfl) ?_
    refine bindP_mk (loadA_all (l := [.bool c.b, a2]) g2 rfl) ?_
    refine ref10_rule_c hrc2.1 hrc2.2 (hf2.mono (by omega)) hG hC fun n3 hn3 => ?_
    exact ⟨h, hs, ki hK (by rw [hrc]; rfl) (by omega)⟩
set_option maxRecDepth 4000 in
/-- Of two that are the same. -/
theorem ref10_Same_c {ro : Ro} {v w : Value} {c : CfgD} (hlen : c.l.length ≤ 1000000) (hlens : ∀ d ∈ c.l, d.n.length ≤ 1000000) {h : T Obj} {nx : Nat} {K : KV} (hf : Fr h nx) (hc : RCfg ro h v c) (hd : RCfg ro h w c) (hK : ∀ nx', nx ≤ nx' → K (.bool true) h nx') : callP Try.prog ro i_ref10_Same [v, w] h nx K := by
  obtain ⟨a, rfl, ha⟩ := hc
  obtain ⟨b, rfl, hb⟩ := hd
  apply ref10_Same_of
  unfold ref10_Same
  refine param_mk hf (Nat.le_refl _) fun h1 hs1 hf1 g1 _ => ?_
  refine param_mk hf1 (Nat.le_refl _) fun h2 hs2 hf2 g2 _ => ?_
  have g1 := hs2 _ _ g1
  have hs := hs1.trans hs2
  have ha := ha.sub hs (RHeld.sub hs)
  have hb := hb.sub hs (RHeld.sub hs)
  have hal := ha.len
  have hbl := hb.len
  (repeat (first | refine lss_t (by omega) ?_ | refine lss_f (by omega) ?_ | refine leq_t (by omega) ?_ | refine leq_f (by omega) ?_ | refine gtr_t (by omega) ?_ | refine gtr_f (by omega) ?_ | refine geq_t (by omega) ?_ | refine geq_f (by omega) ?_ | refine eql_t (by omega) ?_ | refine eql_f (by omega) ?_ | refine neq_t (by omega) ?_ | refine neq_f (by omega) ?_ | refine bindP_mk (by simp (disch := first | omega | exact Int.natCast_nonneg _ | assumption) only [BB, decide_true, decide_false, Bool.not_true, Bool.not_false, Option.bind_some, T.get_upd_same, T.get_upd_ne, if_pos, Nat.zero_add, Nat.mul_one, Nat.add_zero, Int.toNat_natCast, ↓reduceIte, Nat.reduceLeDiff, Nat.reduceAdd, Nat.le_refl, g1, g2] <;> rfl) ?_ | refine newP_mk ?_ | refine optP_mk ?_ | with_reducible refine condP_t ?_ | with_reducible refine condP_f ?_ | with_reducible refine ifP_tt' ?_ | with_reducible refine ifP_ff' ?_ | with_reducible refine ifP_tf' ?_ | with_reducible refine ifP_ft' ?_ | with_reducible refine ifP_u' ?_ | refine optP_mk0 ?_))
  rw [show (!(c.b == c.b)) = false by simp]
  (repeat (first | refine lss_t (by omega) ?_ | refine lss_f (by omega) ?_ | refine leq_t (by omega) ?_ | refine leq_f (by omega) ?_ | refine gtr_t (by omega) ?_ | refine gtr_f (by omega) ?_ | refine geq_t (by omega) ?_ | refine geq_f (by omega) ?_ | refine eql_t (by omega) ?_ | refine eql_f (by omega) ?_ | refine neq_t (by omega) ?_ | refine neq_f (by omega) ?_ | refine bindP_mk (by simp (disch := first | omega | exact Int.natCast_nonneg _ | assumption) only [BB, decide_true, decide_false, Bool.not_true, Bool.not_false, Option.bind_some, T.get_upd_same, T.get_upd_ne, if_pos, Nat.zero_add, Nat.mul_one, Nat.add_zero, Int.toNat_natCast, ↓reduceIte, Nat.reduceLeDiff, Nat.reduceAdd, Nat.le_refl, g1, g2, hal, hbl] <;> rfl) ?_ | refine newP_mk ?_ | refine optP_mk ?_ | with_reducible refine condP_t ?_ | with_reducible refine condP_f ?_ | with_reducible refine ifP_tt' ?_ | with_reducible refine ifP_ff' ?_ | with_reducible refine ifP_tf' ?_ | with_reducible refine ifP_ft' ?_ | with_reducible refine ifP_u' ?_ | refine optP_mk0 ?_))
  refine loopP_rule (fun j e h' nx' => ∃ (k : Nat), k + j = c.l.length ∧ nx + 2 ≤ nx' ∧ h' = h2 ∧ e 2 = ptr nx ∧ e 3 = ptr (nx + 1) ∧ e 5 = .int .i64 k) ?_ (n := c.l.length) ⟨0, by omega, by omega, rfl, rfl, rfl, rfl⟩
  rintro j e h' nx' ⟨k, hj, hnx, rfl, e2, e3, e5⟩ Q' hq hx
  unfold ref10_Same_L1
  rw [e2, e3, e5]
  (repeat (first | refine lss_t (by omega) ?_ | refine lss_f (by omega) ?_ | refine leq_t (by omega) ?_ | refine leq_f (by omega) ?_ | refine gtr_t (by omega) ?_ | refine gtr_f (by omega) ?_ | refine geq_t (by omega) ?_ | refine geq_f (by omega) ?_ | refine eql_t (by omega) ?_ | refine eql_f (by omega) ?_ | refine neq_t (by omega) ?_ | refine neq_f (by omega) ?_ | refine bindP_mk (by simp (disch := first | omega | exact Int.natCast_nonneg _ | assumption) only [BB, decide_true, decide_false, Bool.not_true, Bool.not_false, Option.bind_some, T.get_upd_same, T.get_upd_ne, if_pos, Nat.zero_add, Nat.mul_one, Nat.add_zero, Int.toNat_natCast, ↓reduceIte, Nat.reduceLeDiff, Nat.reduceAdd, Nat.le_refl, g1, hal] <;> rfl) ?_ | refine newP_mk ?_ | refine optP_mk ?_ | with_reducible refine condP_t ?_ | with_reducible refine condP_f ?_ | with_reducible refine ifP_tt' ?_ | with_reducible refine ifP_ff' ?_ | with_reducible refine ifP_tf' ?_ | with_reducible refine ifP_ft' ?_ | with_reducible refine ifP_u' ?_ | refine optP_mk0 ?_))
  refine lss_s (fun hk => ?_) (fun hk => ?_)
  · have hk : k < c.l.length := by omega
    have hdn := hlens _ (List.getElem_mem hk)
    obtain ⟨x, ⟨nv, rfl, hn1⟩, hx2, hx3, hx4, hx5⟩ := ha.at hk
    obtain ⟨y, ⟨nw, rfl, hn2⟩, hy2, hy3, hy4, hy5⟩ := hb.at hk
    have hix := ha.ix .i64 hk
    have hiy := hb.ix .i64 hk
    generalize c.l[k] = d at hx2 hx3 hx5 hn1 hy2 hy3 hy5 hn2 hdn
    have x0 := hx5 0 _ rfl
    have x1 := hx5 1 _ rfl
    have y0 := hy5 0 _ rfl
    have y1 := hy5 1 _ rfl
    have l1 := hn1.len
    have l2 := hn2.len
    (repeat (first | refine lss_t (by omega) ?_ | refine lss_f (by omega) ?_ | refine leq_t (by omega) ?_ | refine leq_f (by omega) ?_ | refine gtr_t (by omega) ?_ | refine gtr_f (by omega) ?_ | refine geq_t (by omega) ?_ | refine geq_f (by omega) ?_ | refine eql_t (by omega) ?_ | refine eql_f (by omega) ?_ | refine neq_t (by omega) ?_ | refine neq_f (by omega) ?_ | refine bindP_mk (by simp (disch := first | omega | exact Int.natCast_nonneg _ | assumption) only [BB, decide_true, decide_false, Bool.not_true, Bool.not_false, Option.bind_some, T.get_upd_same, T.get_upd_ne, if_pos, Nat.zero_add, Nat.mul_one, Nat.add_zero, Int.toNat_natCast, ↓reduceIte, Nat.reduceLeDiff, Nat.reduceAdd, Nat.le_refl, g1, g2, hix, hiy, hx4, hy4, x0, x1, y0, y1, l1, l2] <;> rfl) ?_ | refine newP_mk ?_ | refine optP_mk ?_ | with_reducible refine condP_t ?_ | with_reducible refine condP_f ?_ | with_reducible refine ifP_tt' ?_ | with_reducible refine ifP_ff' ?_ | with_reducible refine ifP_tf' ?_ | with_reducible refine ifP_ft' ?_ | with_reducible refine ifP_u' ?_ | refine optP_mk0 ?_))
    refine loopP_rule (fun j2 e' h'' n'' => ∃ (k2 : Nat), k2 + j2 = d.n.length ∧ nx + 2 ≤ n'' ∧ h'' = h' ∧ e' 2 = ptr nx ∧ e' 3 = ptr (nx + 1) ∧ e' 5 = .int .i64 k ∧ e' 6 = .int .i64 k2) ?_ (n := d.n.length) ⟨0, by omega, by omega, rfl, e2, e3, e5, rfl⟩
    rintro j2 e' h'' n'' ⟨k2, hj2, hn'', rfl, f2, f3, f5, f6⟩ Q2 hq2 hx2'
    unfold ref10_Same_L2
    rw [f2, f3, f5, f6]
    (repeat (first | refine lss_t (by omega) ?_ | refine lss_f (by omega) ?_ | refine leq_t (by omega) ?_ | refine leq_f (by omega) ?_ | refine gtr_t (by omega) ?_ | refine gtr_f (by omega) ?_ | refine geq_t (by omega) ?_ | refine geq_f (by omega) ?_ | refine eql_t (by omega) ?_ | refine eql_f (by omega) ?_ | refine neq_t (by omega) ?_ | refine neq_f (by omega) ?_ | refine bindP_mk (by simp (disch := first | omega | exact Int.natCast_nonneg _ | assumption) only [BB, decide_true, decide_false, Bool.not_true, Bool.not_false, Option.bind_some, T.get_upd_same, T.get_upd_ne, if_pos, Nat.zero_add, Nat.mul_one, Nat.add_zero, Int.toNat_natCast, ↓reduceIte, Nat.reduceLeDiff, Nat.reduceAdd, Nat.le_refl, g1, hix, hx4, x1, l1] <;> rfl) ?_ | refine newP_mk ?_ | refine optP_mk ?_ | with_reducible refine condP_t ?_ | with_reducible refine condP_f ?_ | with_reducible refine ifP_tt' ?_ | with_reducible refine ifP_ff' ?_ | with_reducible refine ifP_tf' ?_ | with_reducible refine ifP_ft' ?_ | with_reducible refine ifP_u' ?_ | refine optP_mk0 ?_))
    refine lss_s (fun hk3 => ?_) (fun hk3 => ?_)
    · have hk3 : k2 < d.n.length := by omega
      have i1 := hn1.ix .i64 hk3
      have i2 := hn2.ix .i64 hk3
      have v1 := hn1.load hk3
      have v2 := hn2.load hk3
      (repeat (first | refine lss_t (by omega) ?_ | refine lss_f (by omega) ?_ | refine leq_t (by omega) ?_ | refine leq_f (by omega) ?_ | refine gtr_t (by omega) ?_ | refine gtr_f (by omega) ?_ | refine geq_t (by omega) ?_ | refine geq_f (by omega) ?_ | refine eql_t (by omega) ?_ | refine eql_f (by omega) ?_ | refine neq_t (by omega) ?_ | refine neq_f (by omega) ?_ | refine bindP_mk (by simp (disch := first | omega | exact Int.natCast_nonneg _ | assumption) only [BB, decide_true, decide_false, Bool.not_true, Bool.not_false, Option.bind_some, T.get_upd_same, T.get_upd_ne, if_pos, Nat.zero_add, Nat.mul_one, Nat.add_zero, Int.toNat_natCast, ↓reduceIte, Nat.reduceLeDiff, Nat.reduceAdd, Nat.le_refl, g1, g2, hix, hiy, hx4, hy4, x1, y1, i1, i2, v1, v2] <;> rfl) ?_ | refine newP_mk ?_ | refine optP_mk ?_ | with_reducible refine condP_t ?_ | with_reducible refine condP_f ?_ | with_reducible refine ifP_tt' ?_ | with_reducible refine ifP_ff' ?_ | with_reducible refine ifP_tf' ?_ | with_reducible refine ifP_ft' ?_ | with_reducible refine ifP_u' ?_ | refine optP_mk0 ?_))
      exact hq2 (j2 - 1) _ _ _ _ (by omega) ⟨k2 + 1, by omega, by omega, rfl, f2, f3, f5, rfl⟩ (Sub.refl _)
    · (repeat (first | refine lss_t (by omega) ?_ | refine lss_f (by omega) ?_ | refine leq_t (by omega) ?_ | refine leq_f (by omega) ?_ | refine gtr_t (by omega) ?_ | refine gtr_f (by omega) ?_ | refine geq_t (by omega) ?_ | refine geq_f (by omega) ?_ | refine eql_t (by omega) ?_ | refine eql_f (by omega) ?_ | refine neq_t (by omega) ?_ | refine neq_f (by omega) ?_ | refine bindP_mk (by simp (disch := first | omega | exact Int.natCast_nonneg _ | assumption) only [BB, decide_true, decide_false, Bool.not_true, Bool.not_false, Option.bind_some, T.get_upd_same, T.get_upd_ne, if_pos, Nat.zero_add, Nat.mul_one, Nat.add_zero, Int.toNat_natCast, ↓reduceIte, Nat.reduceLeDiff, Nat.reduceAdd, Nat.le_refl] <;> rfl) ?_ | refine newP_mk ?_ | refine optP_mk ?_ | with_reducible refine condP_t ?_ | with_reducible refine condP_f ?_ | with_reducible refine ifP_tt' ?_ | with_reducible refine ifP_ff' ?_ | with_reducible refine ifP_tf' ?_ | with_reducible refine ifP_ft' ?_ | with_reducible refine ifP_u' ?_ | refine optP_mk0 ?_))
      refine hx2' _ _ _ _ (fun e => by cases e) (exP_e (beqP_t ?_))
      have hj2 : ∀ (e' : Env) n, e' 2 = ptr nx → e' 3 = ptr (nx + 1) → e' 5 = .int .i64 k → nx + 2 ≤ n → ref10_Same_j2 ro Q' e' h'' n := fun e' n t2 t3 t5 hn => by
        unfold ref10_Same_j2
        rw [t5]
        (repeat (first | refine lss_t (by omega) ?_ | refine lss_f (by omega) ?_ | refine leq_t (by omega) ?_ | refine leq_f (by omega) ?_ | refine gtr_t (by omega) ?_ | refine gtr_f (by omega) ?_ | refine geq_t (by omega) ?_ | refine geq_f (by omega) ?_ | refine eql_t (by omega) ?_ | refine eql_f (by omega) ?_ | refine neq_t (by omega) ?_ | refine neq_f (by omega) ?_ | refine bindP_mk (by simp (disch := first | omega | exact Int.natCast_nonneg _ | assumption) only [BB, decide_true, decide_false, Bool.not_true, Bool.not_false, Option.bind_some, T.get_upd_same, T.get_upd_ne, if_pos, Nat.zero_add, Nat.mul_one, Nat.add_zero, Int.toNat_natCast, ↓reduceIte, Nat.reduceLeDiff, Nat.reduceAdd, Nat.le_refl] <;> rfl) ?_ | refine newP_mk ?_ | refine optP_mk ?_ | with_reducible refine condP_t ?_ | with_reducible refine condP_f ?_ | with_reducible refine ifP_tt' ?_ | with_reducible refine ifP_ff' ?_ | with_reducible refine ifP_tf' ?_ | with_reducible refine ifP_ft' ?_ | with_reducible refine ifP_u' ?_ | refine optP_mk0 ?_))
        exact hq (j - 1) _ _ _ _ (by omega) ⟨k + 1, by omega, by omega, rfl, t2, t3, rfl⟩ (Sub.refl _)
      exact hj2 _ _ f2 f3 f5 (by omega)
  · (repeat (first | refine lss_t (by omega) ?_ | refine lss_f (by omega) ?_ | refine leq_t (by omega) ?_ | refine leq_f (by omega) ?_ | refine gtr_t (by omega) ?_ | refine gtr_f (by omega) ?_ | refine geq_t (by omega) ?_ | refine geq_f (by omega) ?_ | refine eql_t (by omega) ?_ | refine eql_f (by omega) ?_ | refine neq_t (by omega) ?_ | refine neq_f (by omega) ?_ | refine bindP_mk (by simp (disch := first | omega | exact Int.natCast_nonneg _ | assumption) only [BB, decide_true, decide_false, Bool.not_true, Bool.not_false, Option.bind_some, T.get_upd_same, T.get_upd_ne, if_pos, Nat.zero_add, Nat.mul_one, Nat.add_zero, Int.toNat_natCast, ↓reduceIte, Nat.reduceLeDiff, Nat.reduceAdd, Nat.le_refl] <;> rfl) ?_ | refine newP_mk ?_ | refine optP_mk ?_ | with_reducible refine condP_t ?_ | with_reducible refine condP_f ?_ | with_reducible refine ifP_tt' ?_ | with_reducible refine ifP_ff' ?_ | with_reducible refine ifP_tf' ?_ | with_reducible refine ifP_ft' ?_ | with_reducible refine ifP_u' ?_ | refine optP_mk0 ?_))
    refine hx _ _ _ _ (fun e => by cases e) (exP_e (beqP_t ?_))
    unfold ref10_Same_j1
    exact ⟨h, hs, hK _ (by omega)⟩
end V
end Go.Proofs.Ytepbdkfkfcckoaa
