/- The law NcaRight as the machine runs it.
   No condition. -/
import Derived.Test.YtepbdkfkfcckoaaNW
set_option linter.unusedVariables false
set_option linter.unusedSimpArgs false
namespace Go.Proofs.Ytepbdkfkfcckoaa
namespace V
open PA
attribute [local irreducible] bindP ifP condP newP optP exP beqP
theorem part1_1 (a b : Value) : part1 1 (.agg #[a, b]) = some b := rfl
theorem ixArr_elK {n y z i k : Nat} {v : Value} {kk : IntKind} {j : Nat} (hv : fwdP 0 (elPtr z v i) = some (elPtrK z v i 0)) (hj : j < n) : ixArr n y (elPtrK z v i k) (.int kk (j : Int)) = some (elPtrK z v i (k + j * y)) := by
  have hn : natV (.int kk (j : Int)) = some j := by simp [natV]
  have hb : Nat.blt j n = true := by simp [Nat.blt]; omega
  unfold elPtr at hv
  split at hv
  · rename_i a _ _
    simp only [ixArr, hn, Option.bind, elPtrK, asP, hb, elt_elt, Nat.add_assoc]
  · cases hv
theorem rul_min {g : GlD} (hr : rightD g = true) : ∀ {l : List HeldD} {best : Int}, (∀ x ∈ l, 0 ≤ x.p ∧ x.p < g.p.length) → (0 ≤ best → 0 ≤ rul g best l ∧ rul g best l ≤ best) ∧ ∀ h ∈ l, (g.at h.p).last = true → ripeD g h = true → 0 ≤ rul g best l ∧ rul g best l ≤ (g.at h.p).rule
  | [], best, _ => ⟨fun h => ⟨h, Int.le_refl _⟩, fun h hh => by cases hh⟩
  | d :: r, best, h => by
    rw [rul_cons]
    have h1 := h d (by simp)
    have h2 := may_spec (right_at hr h1.1 h1.2)
    have ih := fun b => rul_min hr (l := r) (best := b) fun x hx => h x (by simp [hx])
    by_cases hc : ((g.at d.p).last && (ripeD g d && (decide (best < 0) || decide ((g.at d.p).rule < best)))) = true
    · rw [if_pos hc]
      have i1 := (ih (g.at d.p).rule).1 (by omega)
      simp only [Bool.and_eq_true, Bool.or_eq_true, decide_eq_true_eq] at hc
      refine ⟨fun hb => by omega, fun x hx hl hp => ?_⟩
      rcases List.mem_cons.1 hx with rfl | hx
      · exact i1
      · exact (ih _).2 x hx hl hp
    · rw [if_neg hc]
      refine ⟨(ih best).1, fun x hx hl hp => ?_⟩
      rcases List.mem_cons.1 hx with rfl | hx
      · simp only [Bool.and_eq_true, Bool.or_eq_true, decide_eq_true_eq, not_and, not_or] at hc
        have := hc hl hp
        have i1 := (ih best).1 (by omega)
        omega
      · exact (ih best).2 x hx hl hp
set_option maxRecDepth 8000 in
set_option maxHeartbeats 4000000 in
theorem law10_NcaRight_c {ro : Ro} {v w : Value} {g : GlD} {c : CfgD} {b : Nat} (hb : b < 256) {h : T Obj} {nx : Nat} {K : KV} (hf : Fr h nx) (hg : RG ro h v g) (hc : RCfg ro h w c) (hK : ∀ h' nx', nx ≤ nx' → K (.bool true) h' nx') : callP Try.prog ro i_law10_NcaRight [v, w, .int .u8 (b : Int)] h nx K := by
  obtain ⟨a, p, rfl, ha, hP⟩ := hg
  obtain ⟨a2, rfl, hl⟩ := hc
  apply law10_NcaRight_of
  unfold law10_NcaRight
  refine param_mk hf (Nat.le_refl _) fun h1 hs1 hf1 g1 _ => ?_
  refine param_mk hf1 (Nat.le_refl _) fun h2 hs2 hf2 g2 _ => ?_
  have g1 := hs2 _ _ g1
  have hs := hs1.trans hs2
  have hG : RG ro h2 (.agg #[a, p]) g := ⟨a, p, rfl, ha.sub hs, hP.sub hs (RPos.sub hs)⟩
  have hC : RCfg ro h2 (.agg #[.bool c.b, a2]) c := ⟨a2, rfl, hl.sub hs (RHeld.sub hs)⟩
  refine shown_c ?_
  refine bindP_mk (loadA_all (l := [a, p]) g1 rfl) ?_
  refine law10_few_c (hf2.mono (by omega)) hG fun r n6 hn6 hG6 => ?_
  generalize fewD g = x at hG6
  obtain ⟨a6, p6, rfl, ha6, hP6⟩ := hG6
  refine local_mk (x := [a6, p6]) zer_Glush rfl rfl rfl (two_ok' ha6.ok hP6.ok) (hf2.mono (by omega)) (Nat.le_refl _) fun h3 hs3 hf3 g3 _ => ?_
  have g2 := hs3 _ _ g2
  have hP3 := hP6.sub hs3 (RPos.sub hs3)
  have hG3 : RG ro h3 (.agg #[a6, p6]) x := ⟨a6, p6, rfl, ha6.sub hs3, hP3⟩
  have hC3 := hC.sub hs3
  have L3 := loadA_all (ro := ro) (z := 0) (n := 2) (l := [a6, p6]) g3 rfl
  have L2 := loadA_all (ro := ro) (z := 0) (n := 2) (l := [.bool c.b, a2]) g2 rfl
  refine bindP_mk L3 (bindP_mk L2 ?_)
  refine nca_Right_c (hf3.mono (by omega)) hG3 hC3 fun n7 hn7 => ?_
  cases hrc : rightC x c with
  | false =>
    (repeat (first | refine lss_t (by omega) ?_ | refine lss_f (by omega) ?_ | refine leq_t (by omega) ?_ | refine leq_f (by omega) ?_ | refine gtr_t (by omega) ?_ | refine gtr_f (by omega) ?_ | refine geq_t (by omega) ?_ | refine geq_f (by omega) ?_ | refine eql_t (by omega) ?_ | refine eql_f (by omega) ?_ | refine neq_t (by omega) ?_ | refine neq_f (by omega) ?_ | refine bindP_mk (by simp (disch := first | omega | exact Int.natCast_nonneg _ | assumption) only [BB, decide_true, decide_false, Bool.not_true, Bool.not_false, Option.bind_some, T.get_upd_same, T.get_upd_ne, if_pos, Nat.zero_add, Nat.mul_one, Nat.add_zero, Int.toNat_natCast, ↓reduceIte, Nat.reduceLeDiff, Nat.reduceAdd, Nat.le_refl, L3, L2] <;> rfl) ?_ | refine newP_mk ?_ | refine optP_mk ?_ | with_reducible refine condP_t ?_ | with_reducible refine condP_f ?_ | with_reducible refine ifP_tt' ?_ | with_reducible refine ifP_ff' ?_ | with_reducible refine ifP_tf' ?_ | with_reducible refine ifP_ft' ?_ | with_reducible refine ifP_u' ?_ | refine optP_mk0 ?_))
    refine nca_Rule_c (hf3.mono (by omega)) hG3 hC3 fun n8 hn8 => ?_
    rw [show RuleC x c = -1 by unfold RuleC; rw [hrc]; rfl]
    (repeat (first | refine lss_t (by omega) ?_ | refine lss_f (by omega) ?_ | refine leq_t (by omega) ?_ | refine leq_f (by omega) ?_ | refine gtr_t (by omega) ?_ | refine gtr_f (by omega) ?_ | refine geq_t (by omega) ?_ | refine geq_f (by omega) ?_ | refine eql_t (by omega) ?_ | refine eql_f (by omega) ?_ | refine neq_t (by omega) ?_ | refine neq_f (by omega) ?_ | refine bindP_mk (by simp (disch := first | omega | exact Int.natCast_nonneg _ | assumption) only [BB, decide_true, decide_false, Bool.not_true, Bool.not_false, Option.bind_some, T.get_upd_same, T.get_upd_ne, if_pos, Nat.zero_add, Nat.mul_one, Nat.add_zero, Int.toNat_natCast, ↓reduceIte, Nat.reduceLeDiff, Nat.reduceAdd, Nat.le_refl, L3, L2] <;> rfl) ?_ | refine newP_mk ?_ | refine optP_mk ?_ | with_reducible refine condP_t ?_ | with_reducible refine condP_f ?_ | with_reducible refine ifP_tt' ?_ | with_reducible refine ifP_ff' ?_ | with_reducible refine ifP_tf' ?_ | with_reducible refine ifP_ft' ?_ | with_reducible refine ifP_u' ?_ | refine optP_mk0 ?_))
    refine nca_Step_c hb (hf3.mono (by omega)) hG3 hC3 fun r4 h4 n9 hn9 q1 q2 q3 => ?_
    rw [show StepC x c b = ⟨false, []⟩ by unfold StepC; rw [hrc]; rfl] at q3
    obtain ⟨d1, rfl, hd1⟩ := q3
    have l1 : lenSl d1 = some (.int .i64 0) := hd1.len
    (repeat (first | refine lss_t (by omega) ?_ | refine lss_f (by omega) ?_ | refine leq_t (by omega) ?_ | refine leq_f (by omega) ?_ | refine gtr_t (by omega) ?_ | refine gtr_f (by omega) ?_ | refine geq_t (by omega) ?_ | refine geq_f (by omega) ?_ | refine eql_t (by omega) ?_ | refine eql_f (by omega) ?_ | refine neq_t (by omega) ?_ | refine neq_f (by omega) ?_ | refine bindP_mk (by simp (disch := first | omega | exact Int.natCast_nonneg _ | assumption) only [BB, decide_true, decide_false, Bool.not_true, Bool.not_false, Option.bind_some, T.get_upd_same, T.get_upd_ne, if_pos, Nat.zero_add, Nat.mul_one, Nat.add_zero, Int.toNat_natCast, ↓reduceIte, Nat.reduceLeDiff, Nat.reduceAdd, Nat.le_refl, part1_1, l1] <;> rfl) ?_ | refine newP_mk ?_ | refine optP_mk ?_ | with_reducible refine condP_t ?_ | with_reducible refine condP_f ?_ | with_reducible refine ifP_tt' ?_ | with_reducible refine ifP_ff' ?_ | with_reducible refine ifP_tf' ?_ | with_reducible refine ifP_ft' ?_ | with_reducible refine ifP_u' ?_ | refine optP_mk0 ?_))
    exact ⟨_, Sub.refl _, hK _ _ (by omega)⟩
  | true =>
    have hrc2 := hrc
    unfold rightC at hrc2
    simp only [Bool.and_eq_true] at hrc2
    have hlen := right_len hrc2.1
    have hfs := step_fits (b := b) hrc2.1 hrc2.2
    have hrs : rightC x (stepD x c b) = true := by unfold rightC; rw [hrc2.1, hfs]; rfl
    have hslen := fits_len hfs
    (repeat (first | refine lss_t (by omega) ?_ | refine lss_f (by omega) ?_ | refine leq_t (by omega) ?_ | refine leq_f (by omega) ?_ | refine gtr_t (by omega) ?_ | refine gtr_f (by omega) ?_ | refine geq_t (by omega) ?_ | refine geq_f (by omega) ?_ | refine eql_t (by omega) ?_ | refine eql_f (by omega) ?_ | refine neq_t (by omega) ?_ | refine neq_f (by omega) ?_ | refine bindP_mk (by simp (disch := first | omega | exact Int.natCast_nonneg _ | assumption) only [BB, decide_true, decide_false, Bool.not_true, Bool.not_false, Option.bind_some, T.get_upd_same, T.get_upd_ne, if_pos, Nat.zero_add, Nat.mul_one, Nat.add_zero, Int.toNat_natCast, ↓reduceIte, Nat.reduceLeDiff, Nat.reduceAdd, Nat.le_refl] <;> rfl) ?_ | refine newP_mk ?_ | refine optP_mk ?_ | with_reducible refine condP_t ?_ | with_reducible refine condP_f ?_ | with_reducible refine ifP_tt' ?_ | with_reducible refine ifP_ff' ?_ | with_reducible refine ifP_tf' ?_ | with_reducible refine ifP_ft' ?_ | with_reducible refine ifP_u' ?_ | refine optP_mk0 ?_))
    refine bindP_mk L3 (bindP_mk L2 ?_)
    refine nca_Step_c hb (hf3.mono (by omega)) hG3 hC3 fun r4 h4 n9 hn9 q1 q2 q3 => ?_
    rw [show StepC x c b = stepD x c b by unfold StepC; rw [if_pos hrc]] at q3
    obtain ⟨d1, rfl, hd1⟩ := q3
    refine local_mk (x := [.bool false, d1]) zer_Config rfl rfl rfl (two_ok hd1.ok) q2 (Nat.le_refl _) fun h5 hs5 hf5 g5 _ => ?_
    have g35 := hs5 _ _ (q1 _ _ g3)
    have hG5 := (hG3.sub q1).sub hs5
    have hP5 := hP3.sub (q1.trans hs5) (RPos.sub (q1.trans hs5))
    have hd5 := hd1.sub hs5 (RHeld.sub hs5)
    have hD5 : RCfg ro h5 (.agg #[.bool false, d1]) (stepD x c b) := ⟨d1, rfl, hd5⟩
    have L35 := loadA_all (ro := ro) (z := 0) (n := 2) (l := [a6, p6]) g35 rfl
    have L55 := loadA_all (ro := ro) (z := 0) (n := 2) (l := [.bool false, d1]) g5 rfl
    have l1 := hd5.len
    (repeat (first | refine lss_t (by omega) ?_ | refine lss_f (by omega) ?_ | refine leq_t (by omega) ?_ | refine leq_f (by omega) ?_ | refine gtr_t (by omega) ?_ | refine gtr_f (by omega) ?_ | refine geq_t (by omega) ?_ | refine geq_f (by omega) ?_ | refine eql_t (by omega) ?_ | refine eql_f (by omega) ?_ | refine neq_t (by omega) ?_ | refine neq_f (by omega) ?_ | refine bindP_mk (by simp (disch := first | omega | exact Int.natCast_nonneg _ | assumption) only [BB, decide_true, decide_false, Bool.not_true, Bool.not_false, Option.bind_some, T.get_upd_same, T.get_upd_ne, if_pos, Nat.zero_add, Nat.mul_one, Nat.add_zero, Int.toNat_natCast, ↓reduceIte, Nat.reduceLeDiff, Nat.reduceAdd, Nat.le_refl, g5, L35, L55] <;> rfl) ?_ | refine newP_mk ?_ | refine optP_mk ?_ | with_reducible refine condP_t ?_ | with_reducible refine condP_f ?_ | with_reducible refine ifP_tt' ?_ | with_reducible refine ifP_ff' ?_ | with_reducible refine ifP_tf' ?_ | with_reducible refine ifP_ft' ?_ | with_reducible refine ifP_u' ?_ | refine optP_mk0 ?_))
    refine nca_Right_c (hf5.mono (by omega)) hG5 hD5 fun n10 hn10 => ?_
    rw [hrs]
    (repeat (first | refine lss_t (by omega) ?_ | refine lss_f (by omega) ?_ | refine leq_t (by omega) ?_ | refine leq_f (by omega) ?_ | refine gtr_t (by omega) ?_ | refine gtr_f (by omega) ?_ | refine geq_t (by omega) ?_ | refine geq_f (by omega) ?_ | refine eql_t (by omega) ?_ | refine eql_f (by omega) ?_ | refine neq_t (by omega) ?_ | refine neq_f (by omega) ?_ | refine bindP_mk (by simp (disch := first | omega | exact Int.natCast_nonneg _ | assumption) only [BB, decide_true, decide_false, Bool.not_true, Bool.not_false, Option.bind_some, T.get_upd_same, T.get_upd_ne, if_pos, Nat.zero_add, Nat.mul_one, Nat.add_zero, Int.toNat_natCast, ↓reduceIte, Nat.reduceLeDiff, Nat.reduceAdd, Nat.le_refl, g5, l1] <;> rfl) ?_ | refine newP_mk ?_ | refine optP_mk ?_ | with_reducible refine condP_t ?_ | with_reducible refine condP_f ?_ | with_reducible refine ifP_tt' ?_ | with_reducible refine ifP_ff' ?_ | with_reducible refine ifP_tf' ?_ | with_reducible refine ifP_ft' ?_ | with_reducible refine ifP_u' ?_ | refine optP_mk0 ?_))
    -- what a place held is
    have hmem : ∀ k (hk : k < (stepD x c b).l.length), ((stepD x c b).l[k]) ∈ stepL x c b := fun k hk => List.getElem_mem hk
    -- behind the first loop
    have hj1 : ∀ (e' : Env) n, e' 7 = .bool true → e' 8 = ptr n6 → e' 9 = ptr n9 → n9 + 1 ≤ n → law10_NcaRight_j1 ro K e' h5 n := by
      intro e' n f7 f8 f9 hn
      unfold law10_NcaRight_j1
      rw [f8, f9]
      refine bindP_mk L35 (bindP_mk L55 ?_)
      refine nca_Rule_c (hf5.mono (by omega)) hG5 hD5 fun n11 hn11 => ?_
      rw [show RuleC x (stepD x c b) = ruleD x (stepD x c b) by unfold RuleC; rw [if_pos hrs]]
      have hmin := (rul_min hrc2.1 (l := (stepD x c b).l) (best := -1) fun y hy => ⟨(fits_mem hfs y hy).1, (fits_mem hfs y hy).2.1⟩).2
      have hnil : (stepD x c b).l = [] → ruleD x (stepD x c b) = -1 := fun e => by unfold ruleD; rw [e]; rfl
      unfold ruleD at hnil ⊢
      generalize rul x (-1) (stepD x c b).l = R at hmin hnil
      (repeat (first | refine lss_t (by omega) ?_ | refine lss_f (by omega) ?_ | refine leq_t (by omega) ?_ | refine leq_f (by omega) ?_ | refine gtr_t (by omega) ?_ | refine gtr_f (by omega) ?_ | refine geq_t (by omega) ?_ | refine geq_f (by omega) ?_ | refine eql_t (by omega) ?_ | refine eql_f (by omega) ?_ | refine neq_t (by omega) ?_ | refine neq_f (by omega) ?_ | refine bindP_mk (by simp (disch := first | omega | exact Int.natCast_nonneg _ | assumption) only [BB, decide_true, decide_false, Bool.not_true, Bool.not_false, Option.bind_some, T.get_upd_same, T.get_upd_ne, if_pos, Nat.zero_add, Nat.mul_one, Nat.add_zero, Int.toNat_natCast, ↓reduceIte, Nat.reduceLeDiff, Nat.reduceAdd, Nat.le_refl, g5, l1] <;> rfl) ?_ | refine newP_mk ?_ | refine optP_mk ?_ | with_reducible refine condP_t ?_ | with_reducible refine condP_f ?_ | with_reducible refine ifP_tt' ?_ | with_reducible refine ifP_ff' ?_ | with_reducible refine ifP_tf' ?_ | with_reducible refine ifP_ft' ?_ | with_reducible refine ifP_u' ?_ | refine optP_mk0 ?_))
      refine loopP_rule (fun j e h' nx' => ∃ (k : Nat), k + j = (stepD x c b).l.length ∧ n11 ≤ nx' ∧ h' = h5 ∧ e 7 = .bool true ∧ e 8 = ptr n6 ∧ e 9 = ptr n9 ∧ e 12 = .int .i64 R ∧ e 78 = d1 ∧ e 79 = .int .i64 (stepD x c b).l.length ∧ e 80 = .int .i64 k) ?_ (n := (stepD x c b).l.length) ⟨0, by omega, by omega, rfl, f7, f8, f9, rfl, rfl, rfl, rfl⟩
      rintro j e h' nx' ⟨k, hj, hnx, rfl, e7, e8, e9, e12, e78, e79, e80⟩ Q' hq hx
      unfold law10_NcaRight_L1
      rw [e8, e12, e78, e79, e80]
      refine lss_s (fun hk => ?_) (fun hk => ?_)
      · have hk : k < (stepD x c b).l.length := by omega
        have hin := fits_at hfs hk
        have hdl := held_len hrc2.1 hfs hk
        have hmk := hmin _ (List.getElem_mem hk)
        obtain ⟨y, ⟨nv, rfl, hn1⟩, hx2, hx3, hx4, hx5⟩ := hd5.at hk
        have hix := hd5.ix .i64 hk
        generalize (stepD x c b).l[k] = d at hx2 hx3 hx5 hn1 hin hdl hmk
        obtain ⟨i1, i2, i3, i4⟩ := hin
        (repeat (first | refine lss_t (by omega) ?_ | refine lss_f (by omega) ?_ | refine leq_t (by omega) ?_ | refine leq_f (by omega) ?_ | refine gtr_t (by omega) ?_ | refine gtr_f (by omega) ?_ | refine geq_t (by omega) ?_ | refine geq_f (by omega) ?_ | refine eql_t (by omega) ?_ | refine eql_f (by omega) ?_ | refine neq_t (by omega) ?_ | refine neq_f (by omega) ?_ | refine bindP_mk (by simp (disch := first | omega | exact Int.natCast_nonneg _ | assumption) only [BB, decide_true, decide_false, Bool.not_true, Bool.not_false, Option.bind_some, T.get_upd_same, T.get_upd_ne, if_pos, Nat.zero_add, Nat.mul_one, Nat.add_zero, Int.toNat_natCast, ↓reduceIte, Nat.reduceLeDiff, Nat.reduceAdd, Nat.le_refl, hix, hx3] <;> rfl) ?_ | refine newP_mk ?_ | refine optP_mk ?_ | with_reducible refine condP_t ?_ | with_reducible refine condP_f ?_ | with_reducible refine ifP_tt' ?_ | with_reducible refine ifP_ff' ?_ | with_reducible refine ifP_tf' ?_ | with_reducible refine ifP_ft' ?_ | with_reducible refine ifP_u' ?_ | refine optP_mk0 ?_))
        refine local_mk zer_Held rfl rfl rfl (held_ok hn1.ok) hf5 (by omega) fun h6 hs6 hf6 g6 _ => ?_
        have g36 := hs6 _ _ g35
        have hP6' := hP5.sub hs6 (RPos.sub hs6)
        obtain ⟨pv, z1, z2, z3, z4, z5, z6⟩ := P_at hP6' (i := d.p) i1 i2
        (repeat (first | refine lss_t (by omega) ?_ | refine lss_f (by omega) ?_ | refine leq_t (by omega) ?_ | refine leq_f (by omega) ?_ | refine gtr_t (by omega) ?_ | refine gtr_f (by omega) ?_ | refine geq_t (by omega) ?_ | refine geq_f (by omega) ?_ | refine eql_t (by omega) ?_ | refine eql_f (by omega) ?_ | refine neq_t (by omega) ?_ | refine neq_f (by omega) ?_ | refine bindP_mk (by simp (disch := first | omega | exact Int.natCast_nonneg _ | assumption) only [BB, decide_true, decide_false, Bool.not_true, Bool.not_false, Option.bind_some, T.get_upd_same, T.get_upd_ne, if_pos, Nat.zero_add, Nat.mul_one, Nat.add_zero, Int.toNat_natCast, ↓reduceIte, Nat.reduceLeDiff, Nat.reduceAdd, Nat.le_refl, g36, g6, z3, z4] <;> rfl) ?_ | refine newP_mk ?_ | refine optP_mk ?_ | with_reducible refine condP_t ?_ | with_reducible refine condP_f ?_ | with_reducible refine ifP_tt' ?_ | with_reducible refine ifP_ff' ?_ | with_reducible refine ifP_tf' ?_ | with_reducible refine ifP_ft' ?_ | with_reducible refine ifP_u' ?_ | refine optP_mk0 ?_))
        refine local_mk zer_Pos rfl rfl rfl (posL_ok z1.ok) hf6 (by omega) fun h7 hs7 hf7 g7 _ => ?_
        have g67 := hs7 _ _ g6
        have hn7' := (hn1.sub hs6).sub hs7
        have hnl := hn7'.len
        have hl0 : 0 < d.n.length := List.length_pos_iff.2 i3
        have hixl := hn7'.ixI .i64 (i := (d.n.length : Int) - 1) (by omega) (by omega)
        rw [show ((d.n.length : Int) - 1).toNat = d.n.length - 1 by omega] at hixl
        have hlast := hn7'.load' (last_get i3)
        have hok : ∀ (e' : Env) n, e' 7 = .bool true → e' 8 = ptr n6 → e' 9 = ptr n9 → e' 12 = .int .i64 R → e' 78 = d1 → e' 79 = .int .i64 (stepD x c b).l.length → e' 80 = .int .i64 ((k : Int) + 1) → n11 ≤ n → Q' .normal e' h7 n := fun e' n u7 u8 u9 u12 u78 u79 u80 hn =>
          hq (j - 1) _ h' _ _ (by omega) ⟨k + 1, by omega, hn, rfl, u7, u8, u9, u12, u78, u79, u80⟩ (hs6.trans hs7)
        (repeat (first | refine lss_t (by omega) ?_ | refine lss_f (by omega) ?_ | refine leq_t (by omega) ?_ | refine leq_f (by omega) ?_ | refine gtr_t (by omega) ?_ | refine gtr_f (by omega) ?_ | refine geq_t (by omega) ?_ | refine geq_f (by omega) ?_ | refine eql_t (by omega) ?_ | refine eql_f (by omega) ?_ | refine neq_t (by omega) ?_ | refine neq_f (by omega) ?_ | refine bindP_mk (by simp (disch := first | omega | exact Int.natCast_nonneg _ | assumption) only [BB, decide_true, decide_false, Bool.not_true, Bool.not_false, Option.bind_some, T.get_upd_same, T.get_upd_ne, if_pos, Nat.zero_add, Nat.mul_one, Nat.add_zero, Int.toNat_natCast, ↓reduceIte, Nat.reduceLeDiff, Nat.reduceAdd, Nat.le_refl, g7] <;> rfl) ?_ | refine newP_mk ?_ | refine optP_mk ?_ | with_reducible refine condP_t ?_ | with_reducible refine condP_f ?_ | with_reducible refine ifP_tt' ?_ | with_reducible refine ifP_ff' ?_ | with_reducible refine ifP_tf' ?_ | with_reducible refine ifP_ft' ?_ | with_reducible refine ifP_u' ?_ | refine optP_mk0 ?_))
        cases hla : (x.at d.p).last with
        | false =>
          (repeat (first | refine lss_t (by omega) ?_ | refine lss_f (by omega) ?_ | refine leq_t (by omega) ?_ | refine leq_f (by omega) ?_ | refine gtr_t (by omega) ?_ | refine gtr_f (by omega) ?_ | refine geq_t (by omega) ?_ | refine geq_f (by omega) ?_ | refine eql_t (by omega) ?_ | refine eql_f (by omega) ?_ | refine neq_t (by omega) ?_ | refine neq_f (by omega) ?_ | refine bindP_mk (by simp (disch := first | omega | exact Int.natCast_nonneg _ | assumption) only [BB, decide_true, decide_false, Bool.not_true, Bool.not_false, Option.bind_some, T.get_upd_same, T.get_upd_ne, if_pos, Nat.zero_add, Nat.mul_one, Nat.add_zero, Int.toNat_natCast, ↓reduceIte, Nat.reduceLeDiff, Nat.reduceAdd, Nat.le_refl] <;> rfl) ?_ | refine newP_mk ?_ | refine optP_mk ?_ | with_reducible refine condP_t ?_ | with_reducible refine condP_f ?_ | with_reducible refine ifP_tt' ?_ | with_reducible refine ifP_ff' ?_ | with_reducible refine ifP_tf' ?_ | with_reducible refine ifP_ft' ?_ | with_reducible refine ifP_u' ?_ | refine optP_mk0 ?_))
          exact hok _ _ e7 e8 e9 e12 e78 e79 rfl (by omega)
        | true =>
          (repeat (first | refine lss_t (by omega) ?_ | refine lss_f (by omega) ?_ | refine leq_t (by omega) ?_ | refine leq_f (by omega) ?_ | refine gtr_t (by omega) ?_ | refine gtr_f (by omega) ?_ | refine geq_t (by omega) ?_ | refine geq_f (by omega) ?_ | refine eql_t (by omega) ?_ | refine eql_f (by omega) ?_ | refine neq_t (by omega) ?_ | refine neq_f (by omega) ?_ | refine bindP_mk (by simp (disch := first | omega | exact Int.natCast_nonneg _ | assumption) only [BB, decide_true, decide_false, Bool.not_true, Bool.not_false, Option.bind_some, T.get_upd_same, T.get_upd_ne, if_pos, Nat.zero_add, Nat.mul_one, Nat.add_zero, Int.toNat_natCast, ↓reduceIte, Nat.reduceLeDiff, Nat.reduceAdd, Nat.le_refl, g7, g67, hnl, hixl, hlast] <;> rfl) ?_ | refine newP_mk ?_ | refine optP_mk ?_ | with_reducible refine condP_t ?_ | with_reducible refine condP_f ?_ | with_reducible refine ifP_tt' ?_ | with_reducible refine ifP_ff' ?_ | with_reducible refine ifP_tf' ?_ | with_reducible refine ifP_ft' ?_ | with_reducible refine ifP_u' ?_ | refine optP_mk0 ?_))
          refine geq_s (fun hge => ?_) (fun hge => ?_)
          · have hmm := hmk hla (decide_eq_true (by omega))
            (repeat (first | refine lss_t (by omega) ?_ | refine lss_f (by omega) ?_ | refine leq_t (by omega) ?_ | refine leq_f (by omega) ?_ | refine gtr_t (by omega) ?_ | refine gtr_f (by omega) ?_ | refine geq_t (by omega) ?_ | refine geq_f (by omega) ?_ | refine eql_t (by omega) ?_ | refine eql_f (by omega) ?_ | refine neq_t (by omega) ?_ | refine neq_f (by omega) ?_ | refine bindP_mk (by simp (disch := first | omega | exact Int.natCast_nonneg _ | assumption) only [BB, decide_true, decide_false, Bool.not_true, Bool.not_false, Option.bind_some, T.get_upd_same, T.get_upd_ne, if_pos, Nat.zero_add, Nat.mul_one, Nat.add_zero, Int.toNat_natCast, ↓reduceIte, Nat.reduceLeDiff, Nat.reduceAdd, Nat.le_refl, g7] <;> rfl) ?_ | refine newP_mk ?_ | refine optP_mk ?_ | with_reducible refine condP_t ?_ | with_reducible refine condP_f ?_ | with_reducible refine ifP_tt' ?_ | with_reducible refine ifP_ff' ?_ | with_reducible refine ifP_tf' ?_ | with_reducible refine ifP_ft' ?_ | with_reducible refine ifP_u' ?_ | refine optP_mk0 ?_))
            exact hok _ _ e7 e8 e9 e12 e78 e79 rfl (by omega)
          · (repeat (first | refine lss_t (by omega) ?_ | refine lss_f (by omega) ?_ | refine leq_t (by omega) ?_ | refine leq_f (by omega) ?_ | refine gtr_t (by omega) ?_ | refine gtr_f (by omega) ?_ | refine geq_t (by omega) ?_ | refine geq_f (by omega) ?_ | refine eql_t (by omega) ?_ | refine eql_f (by omega) ?_ | refine neq_t (by omega) ?_ | refine neq_f (by omega) ?_ | refine bindP_mk (by simp (disch := first | omega | exact Int.natCast_nonneg _ | assumption) only [BB, decide_true, decide_false, Bool.not_true, Bool.not_false, Option.bind_some, T.get_upd_same, T.get_upd_ne, if_pos, Nat.zero_add, Nat.mul_one, Nat.add_zero, Int.toNat_natCast, ↓reduceIte, Nat.reduceLeDiff, Nat.reduceAdd, Nat.le_refl] <;> rfl) ?_ | refine newP_mk ?_ | refine optP_mk ?_ | with_reducible refine condP_t ?_ | with_reducible refine condP_f ?_ | with_reducible refine ifP_tt' ?_ | with_reducible refine ifP_ff' ?_ | with_reducible refine ifP_tf' ?_ | with_reducible refine ifP_ft' ?_ | with_reducible refine ifP_u' ?_ | refine optP_mk0 ?_))
            exact hok _ _ e7 e8 e9 e12 e78 e79 rfl (by omega)
      · (repeat (first | refine lss_t (by omega) ?_ | refine lss_f (by omega) ?_ | refine leq_t (by omega) ?_ | refine leq_f (by omega) ?_ | refine gtr_t (by omega) ?_ | refine gtr_f (by omega) ?_ | refine geq_t (by omega) ?_ | refine geq_f (by omega) ?_ | refine eql_t (by omega) ?_ | refine eql_f (by omega) ?_ | refine neq_t (by omega) ?_ | refine neq_f (by omega) ?_ | refine bindP_mk (by simp (disch := first | omega | exact Int.natCast_nonneg _ | assumption) only [BB, decide_true, decide_false, Bool.not_true, Bool.not_false, Option.bind_some, T.get_upd_same, T.get_upd_ne, if_pos, Nat.zero_add, Nat.mul_one, Nat.add_zero, Int.toNat_natCast, ↓reduceIte, Nat.reduceLeDiff, Nat.reduceAdd, Nat.le_refl] <;> rfl) ?_ | refine newP_mk ?_ | refine optP_mk ?_ | with_reducible refine condP_t ?_ | with_reducible refine condP_f ?_ | with_reducible refine ifP_tt' ?_ | with_reducible refine ifP_ff' ?_ | with_reducible refine ifP_tf' ?_ | with_reducible refine ifP_ft' ?_ | with_reducible refine ifP_u' ?_ | refine optP_mk0 ?_))
        refine hx _ _ _ _ (fun e => by cases e) (exP_e (beqP_t ?_))
        have hend : ∀ (e' : Env) n, e' 7 = .bool true → e' 9 = ptr n9 → e' 12 = .int .i64 R → n11 ≤ n → law10_NcaRight_j2 ro K e' h' n := by
          intro e' n u7 u9 u12 hn
          unfold law10_NcaRight_j2
          rw [u7, u9, u12]
          (repeat (first | refine lss_t (by omega) ?_ | refine lss_f (by omega) ?_ | refine leq_t (by omega) ?_ | refine leq_f (by omega) ?_ | refine gtr_t (by omega) ?_ | refine gtr_f (by omega) ?_ | refine geq_t (by omega) ?_ | refine geq_f (by omega) ?_ | refine eql_t (by omega) ?_ | refine eql_f (by omega) ?_ | refine neq_t (by omega) ?_ | refine neq_f (by omega) ?_ | refine bindP_mk (by simp (disch := first | omega | exact Int.natCast_nonneg _ | assumption) only [BB, decide_true, decide_false, Bool.not_true, Bool.not_false, Option.bind_some, T.get_upd_same, T.get_upd_ne, if_pos, Nat.zero_add, Nat.mul_one, Nat.add_zero, Int.toNat_natCast, ↓reduceIte, Nat.reduceLeDiff, Nat.reduceAdd, Nat.le_refl, g5, l1] <;> rfl) ?_ | refine newP_mk ?_ | refine optP_mk ?_ | with_reducible refine condP_t ?_ | with_reducible refine condP_f ?_ | with_reducible refine ifP_tt' ?_ | with_reducible refine ifP_ff' ?_ | with_reducible refine ifP_tf' ?_ | with_reducible refine ifP_ft' ?_ | with_reducible refine ifP_u' ?_ | refine optP_mk0 ?_))
          refine gtr_s (fun hgt => ?_) (fun hgt => ?_)
          · (repeat (first | refine lss_t (by omega) ?_ | refine lss_f (by omega) ?_ | refine leq_t (by omega) ?_ | refine leq_f (by omega) ?_ | refine gtr_t (by omega) ?_ | refine gtr_f (by omega) ?_ | refine geq_t (by omega) ?_ | refine geq_f (by omega) ?_ | refine eql_t (by omega) ?_ | refine eql_f (by omega) ?_ | refine neq_t (by omega) ?_ | refine neq_f (by omega) ?_ | refine bindP_mk (by simp (disch := first | omega | exact Int.natCast_nonneg _ | assumption) only [BB, decide_true, decide_false, Bool.not_true, Bool.not_false, Option.bind_some, T.get_upd_same, T.get_upd_ne, if_pos, Nat.zero_add, Nat.mul_one, Nat.add_zero, Int.toNat_natCast, ↓reduceIte, Nat.reduceLeDiff, Nat.reduceAdd, Nat.le_refl] <;> rfl) ?_ | refine newP_mk ?_ | refine optP_mk ?_ | with_reducible refine condP_t ?_ | with_reducible refine condP_f ?_ | with_reducible refine ifP_tt' ?_ | with_reducible refine ifP_ff' ?_ | with_reducible refine ifP_tf' ?_ | with_reducible refine ifP_ft' ?_ | with_reducible refine ifP_u' ?_ | refine optP_mk0 ?_))
            exact ⟨_, Sub.refl _, hK _ _ (by omega)⟩
          · have := hnil (eq_len (by omega))
            (repeat (first | refine lss_t (by omega) ?_ | refine lss_f (by omega) ?_ | refine leq_t (by omega) ?_ | refine leq_f (by omega) ?_ | refine gtr_t (by omega) ?_ | refine gtr_f (by omega) ?_ | refine geq_t (by omega) ?_ | refine geq_f (by omega) ?_ | refine eql_t (by omega) ?_ | refine eql_f (by omega) ?_ | refine neq_t (by omega) ?_ | refine neq_f (by omega) ?_ | refine bindP_mk (by simp (disch := first | omega | exact Int.natCast_nonneg _ | assumption) only [BB, decide_true, decide_false, Bool.not_true, Bool.not_false, Option.bind_some, T.get_upd_same, T.get_upd_ne, if_pos, Nat.zero_add, Nat.mul_one, Nat.add_zero, Int.toNat_natCast, ↓reduceIte, Nat.reduceLeDiff, Nat.reduceAdd, Nat.le_refl] <;> rfl) ?_ | refine newP_mk ?_ | refine optP_mk ?_ | with_reducible refine condP_t ?_ | with_reducible refine condP_f ?_ | with_reducible refine ifP_tt' ?_ | with_reducible refine ifP_ff' ?_ | with_reducible refine ifP_tf' ?_ | with_reducible refine ifP_ft' ?_ | with_reducible refine ifP_u' ?_ | refine optP_mk0 ?_))
            exact ⟨_, Sub.refl _, hK _ _ (by omega)⟩
        exact hend _ _ e7 e9 e12 (by omega)
    refine loopP_rule (fun j e h' nx' => ∃ (k : Nat), k + j = (stepD x c b).l.length ∧ n10 ≤ nx' ∧ h' = h5 ∧ e 2 = .int .u8 (b : Int) ∧ e 7 = .bool true ∧ e 8 = ptr n6 ∧ e 9 = ptr n9 ∧ e 52 = d1 ∧ e 53 = .int .i64 (stepD x c b).l.length ∧ e 54 = .int .i64 k) ?_ (n := (stepD x c b).l.length) ⟨0, by omega, by omega, rfl, rfl, rfl, rfl, rfl, rfl, rfl, rfl⟩
    rintro j e h' nx' ⟨k, hj, hnx, rfl, e2, e7, e8, e9, e52, e53, e54⟩ Q' hq hx
    unfold law10_NcaRight_L2
    rw [e2, e8, e52, e53, e54]
    refine lss_s (fun hk => ?_) (fun hk => ?_)
    · have hk : k < (stepD x c b).l.length := by omega
      obtain ⟨q0, hq0, hqe, hqn⟩ := mem_stepL (hmem k hk)
      obtain ⟨y, ⟨nv, rfl, hn1⟩, hx2, hx3, hx4, hx5⟩ := hd5.at hk
      have hix := hd5.ix .i64 hk
      have hin := fits_at hfs hk
      generalize (stepD x c b).l[k] = d at hx2 hx3 hx5 hn1 hin hqe
      obtain ⟨i1, i2, i3, i4⟩ := hin
      have hbit : (x.at d.p).s.testBit b = true := by
        rw [hqe]
        cases hh : (x.at (q0 : Int)).s.testBit b with
        | true => rfl
        | false => exact absurd (by unfold cntD hasD; rw [hh]; rfl) hqn
      (repeat (first | refine lss_t (by omega) ?_ | refine lss_f (by omega) ?_ | refine leq_t (by omega) ?_ | refine leq_f (by omega) ?_ | refine gtr_t (by omega) ?_ | refine gtr_f (by omega) ?_ | refine geq_t (by omega) ?_ | refine geq_f (by omega) ?_ | refine eql_t (by omega) ?_ | refine eql_f (by omega) ?_ | refine neq_t (by omega) ?_ | refine neq_f (by omega) ?_ | refine bindP_mk (by simp (disch := first | omega | exact Int.natCast_nonneg _ | assumption) only [BB, decide_true, decide_false, Bool.not_true, Bool.not_false, Option.bind_some, T.get_upd_same, T.get_upd_ne, if_pos, Nat.zero_add, Nat.mul_one, Nat.add_zero, Int.toNat_natCast, ↓reduceIte, Nat.reduceLeDiff, Nat.reduceAdd, Nat.le_refl, hix, hx3] <;> rfl) ?_ | refine newP_mk ?_ | refine optP_mk ?_ | with_reducible refine condP_t ?_ | with_reducible refine condP_f ?_ | with_reducible refine ifP_tt' ?_ | with_reducible refine ifP_ff' ?_ | with_reducible refine ifP_tf' ?_ | with_reducible refine ifP_ft' ?_ | with_reducible refine ifP_u' ?_ | refine optP_mk0 ?_))
      refine local_mk zer_Held rfl rfl rfl (held_ok hn1.ok) hf5 (by omega) fun h6 hs6 hf6 g6 _ => ?_
      have g36 := hs6 _ _ g35
      have hP6' := hP5.sub hs6 (RPos.sub hs6)
      obtain ⟨pv, z1, z2, z3, z4, z5, z6⟩ := P_at hP6' (i := d.p) i1 i2
      have u1 : ((b:Int) / 64) = ((b / 64 : Nat) : Int) := by omega
      have u2 : ((b:Int) % 64).toNat = b % 64 := by omega
      have u4 : b / 64 < 4 := by omega
      have u3 := word_lt (x.at d.p).s (b / 64)
      have u5 := z6 (b / 64) _ (posL_word u4)
      have u8 := ixArr_elK (n := 4) (y := 1) (k := 0) (kk := .u8) (j := b / 64) (z5 0) u4
      rw [Nat.zero_add, Nat.mul_one] at u8
      have u6 : word (x.at d.p).s (b / 64) / 2 ^ (b % 64) ≤ word (x.at d.p).s (b / 64) := Nat.div_le_self _ _
      have u7 : ((word (x.at d.p).s (b / 64) / 2 ^ (b % 64) : Nat) : Int) ≤ 18446744073709551615 := cast_le (Nat.lt_of_le_of_lt u6 u3)
      (repeat (first | refine lss_t (by omega) ?_ | refine lss_f (by omega) ?_ | refine leq_t (by omega) ?_ | refine leq_f (by omega) ?_ | refine gtr_t (by omega) ?_ | refine gtr_f (by omega) ?_ | refine geq_t (by omega) ?_ | refine geq_f (by omega) ?_ | refine eql_t (by omega) ?_ | refine eql_f (by omega) ?_ | refine neq_t (by omega) ?_ | refine neq_f (by omega) ?_ | refine bindP_mk (by simp (disch := first | omega | exact Int.natCast_nonneg _ | assumption) only [BB, decide_true, decide_false, Bool.not_true, Bool.not_false, Option.bind_some, T.get_upd_same, T.get_upd_ne, if_pos, Nat.zero_add, Nat.mul_one, Nat.add_zero, Int.toNat_natCast, ↓reduceIte, Nat.reduceLeDiff, Nat.reduceAdd, Nat.le_refl, g36, g6, u1, z3, z5, u8, u5, u2] <;> rfl) ?_ | refine newP_mk ?_ | refine optP_mk ?_ | with_reducible refine condP_t ?_ | with_reducible refine condP_f ?_ | with_reducible refine ifP_tt' ?_ | with_reducible refine ifP_ff' ?_ | with_reducible refine ifP_tf' ?_ | with_reducible refine ifP_ft' ?_ | with_reducible refine ifP_u' ?_ | refine optP_mk0 ?_))
      refine bindP_mk (intB_eql _ _ _) ?_
      rw [bit_zero, hbit, show (!true) = false from rfl]
      (repeat (first | refine lss_t (by omega) ?_ | refine lss_f (by omega) ?_ | refine leq_t (by omega) ?_ | refine leq_f (by omega) ?_ | refine gtr_t (by omega) ?_ | refine gtr_f (by omega) ?_ | refine geq_t (by omega) ?_ | refine geq_f (by omega) ?_ | refine eql_t (by omega) ?_ | refine eql_f (by omega) ?_ | refine neq_t (by omega) ?_ | refine neq_f (by omega) ?_ | refine bindP_mk (by simp (disch := first | omega | exact Int.natCast_nonneg _ | assumption) only [BB, decide_true, decide_false, Bool.not_true, Bool.not_false, Option.bind_some, T.get_upd_same, T.get_upd_ne, if_pos, Nat.zero_add, Nat.mul_one, Nat.add_zero, Int.toNat_natCast, ↓reduceIte, Nat.reduceLeDiff, Nat.reduceAdd, Nat.le_refl] <;> rfl) ?_ | refine newP_mk ?_ | refine optP_mk ?_ | with_reducible refine condP_t ?_ | with_reducible refine condP_f ?_ | with_reducible refine ifP_tt' ?_ | with_reducible refine ifP_ff' ?_ | with_reducible refine ifP_tf' ?_ | with_reducible refine ifP_ft' ?_ | with_reducible refine ifP_u' ?_ | refine optP_mk0 ?_))
      have hok : ∀ (e' : Env) n, e' 2 = .int .u8 (b : Int) → e' 7 = .bool true → e' 8 = ptr n6 → e' 9 = ptr n9 → e' 52 = d1 → e' 53 = .int .i64 (stepD x c b).l.length → e' 54 = .int .i64 ((k : Int) + 1) → n10 ≤ n → Q' .normal e' h6 n := fun e' n u2 u7 u8 u9 u52 u53 u54 hn =>
        hq (j - 1) _ h' _ _ (by omega) ⟨k + 1, by omega, hn, rfl, u2, u7, u8, u9, u52, u53, u54⟩ hs6
      exact hok _ _ e2 e7 e8 e9 e52 e53 rfl (by omega)
    · (repeat (first | refine lss_t (by omega) ?_ | refine lss_f (by omega) ?_ | refine leq_t (by omega) ?_ | refine leq_f (by omega) ?_ | refine gtr_t (by omega) ?_ | refine gtr_f (by omega) ?_ | refine geq_t (by omega) ?_ | refine geq_f (by omega) ?_ | refine eql_t (by omega) ?_ | refine eql_f (by omega) ?_ | refine neq_t (by omega) ?_ | refine neq_f (by omega) ?_ | refine bindP_mk (by simp (disch := first | omega | exact Int.natCast_nonneg _ | assumption) only [BB, decide_true, decide_false, Bool.not_true, Bool.not_false, Option.bind_some, T.get_upd_same, T.get_upd_ne, if_pos, Nat.zero_add, Nat.mul_one, Nat.add_zero, Int.toNat_natCast, ↓reduceIte, Nat.reduceLeDiff, Nat.reduceAdd, Nat.le_refl] <;> rfl) ?_ | refine newP_mk ?_ | refine optP_mk ?_ | with_reducible refine condP_t ?_ | with_reducible refine condP_f ?_ | with_reducible refine ifP_tt' ?_ | with_reducible refine ifP_ff' ?_ | with_reducible refine ifP_tf' ?_ | with_reducible refine ifP_ft' ?_ | with_reducible refine ifP_u' ?_ | refine optP_mk0 ?_))
      refine hx _ _ _ _ (fun e => by cases e) (exP_e (beqP_t ?_))
      exact hj1 _ _ e7 e8 e9 (by omega)
end V
end Go.Proofs.Ytepbdkfkfcckoaa
