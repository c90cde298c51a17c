/- The laws NcaNone, NcaRight as the machine runs them.
   No condition. -/
import Derived.Test.YtepbdkfkfcckoaaN4
set_option linter.unusedVariables false
set_option linter.unusedSimpArgs false
namespace Go.Proofs.Ytepbdkfkfcckoaa
namespace V
open PA
attribute [local irreducible] bindP ifP condP newP optP exP beqP
theorem posL_word {p : PosD} {nv : Value} {i : Nat} (hi : i < 4) : (posL p nv)[i]? = some (.int .u64 (word p.s i)) := by
  have h := setL_get (m := p.s) hi
  unfold posL
  rw [List.getElem?_append_left (by rw [show (setL p.s).length = 4 from rfl]; exact hi)]
  exact h
theorem bit_one (m b : Nat) : (decide (((Nat.land (word m (b / 64) / 2 ^ (b % 64)) (1 : Int).toNat : Nat) : Int) = 1)) = m.testBit b := by
  have h9 := word_has m b
  have h8 : Nat.land (word m (b / 64) / 2 ^ (b % 64)) 1 = word m (b / 64) / 2 ^ (b % 64) % 2 := Nat.and_one_is_mod _
  rw [show (1 : Int).toNat = 1 from rfl, h8]
  cases hm : m.testBit b with
  | true => rw [hm] at h9; have := h9.2 rfl; rw [this]; rfl
  | false =>
    rw [hm] at h9
    have : ¬ (word m (b / 64) / 2 ^ (b % 64) % 2 = 1) := fun e => by have := h9.1 e; cases this
    apply decide_eq_false; omega
theorem bit_zero (m b : Nat) : (decide (((Nat.land (word m (b / 64) / 2 ^ (b % 64)) (1 : Int).toNat : Nat) : Int) = 0)) = !m.testBit b := by
  have h9 := word_has m b
  have h8 : Nat.land (word m (b / 64) / 2 ^ (b % 64)) 1 = word m (b / 64) / 2 ^ (b % 64) % 2 := Nat.and_one_is_mod _
  rw [show (1 : Int).toNat = 1 from rfl, h8]
  cases hm : m.testBit b with
  | true => rw [hm] at h9; have := h9.2 rfl; rw [this]; rfl
  | false =>
    rw [hm] at h9
    have : ¬ (word m (b / 64) / 2 ^ (b % 64) % 2 = 1) := fun e => by have := h9.1 e; cases this
    have h0 : word m (b / 64) / 2 ^ (b % 64) % 2 = 0 := by omega
    rw [h0]; rfl
theorem none_step {g : GlD} {b : Nat} (hr : rightD g = true) : StepC g ⟨false, []⟩ b = ⟨false, []⟩ := by
  unfold StepC rightC
  rw [hr]
  show (if (true && fitsD g ⟨false, []⟩) = true then _ else _) = _
  rw [if_pos (show (true && fitsD g ⟨false, []⟩) = true from rfl)]
  unfold stepD
  rw [stepL_none]
theorem none_rule (g : GlD) (b : Bool) : RuleC g ⟨b, []⟩ = -1 := by
  unfold RuleC ruleD
  split <;> rfl
theorem taken_no {g : GlD} {c : CfgD} {b : Nat} (h : (g.p.any fun p => p.s.testBit b) = false) : (stepD g c b).l = [] := by
  show stepL g c b = []
  refine stepL_nil fun q hq => ?_
  have : hasD g b q = false := by
    unfold hasD GlD.at
    rw [Int.toNat_natCast, List.getD_eq_getElem?_getD, List.getElem?_eq_getElem hq]
    rw [List.any_eq_false] at h
    have := h _ (List.getElem_mem hq)
    simpa using this
  unfold cntD
  rw [this]; rfl
set_option maxRecDepth 8000 in
set_option maxHeartbeats 2000000 in
theorem law10_NcaNone_c {ro : Ro} {v w : Value} {g : GlD} {c : CfgD} {b : Nat} (hb : b < 256) {h : T Obj} {nx : Nat} {K : KV} (hf : Fr h nx) (hg : RG ro h v g) (hc : RCfg ro h w c) (hK : ∀ h' nx', nx ≤ nx' → K (.bool true) h' nx') : callP Try.prog ro i_law10_NcaNone [v, w, .int .u8 (b : Int)] h nx K := by
  obtain ⟨a, p, rfl, ha, hP⟩ := hg
  obtain ⟨a2, rfl, hl⟩ := hc
  apply law10_NcaNone_of
  unfold law10_NcaNone
  refine param_mk hf (Nat.le_refl _) fun h1 hs1 hf1 g1 _ => ?_
  refine param_mk hf1 (Nat.le_refl _) fun h2 hs2 hf2 g2 _ => ?_
  have g1 := hs2 _ _ g1
  have hs := hs1.trans hs2
  have hG : RG ro h2 (.agg #[a, p]) g := ⟨a, p, rfl, ha.sub hs, hP.sub hs (RPos.sub hs)⟩
  have hC : RCfg ro h2 (.agg #[.bool c.b, a2]) c := ⟨a2, rfl, hl.sub hs (RHeld.sub hs)⟩
  refine shown_c ?_
  refine bindP_mk (loadA_all (l := [a, p]) g1 rfl) ?_
  refine law10_few_c (hf2.mono (by omega)) hG fun r n6 hn6 hG6 => ?_
  generalize fewD g = x at hG6
  obtain ⟨a6, p6, rfl, ha6, hP6⟩ := hG6
  refine local_mk (x := [a6, p6]) zer_Glush rfl rfl rfl (two_ok' ha6.ok hP6.ok) (hf2.mono (by omega)) (Nat.le_refl _) fun h3 hs3 hf3 g3 _ => ?_
  have g2 := hs3 _ _ g2
  have hP3 := hP6.sub hs3 (RPos.sub hs3)
  have hG3 : RG ro h3 (.agg #[a6, p6]) x := ⟨a6, p6, rfl, ha6.sub hs3, hP3⟩
  have hC3 := hC.sub hs3
  have L3 := loadA_all (ro := ro) (z := 0) (n := 2) (l := [a6, p6]) g3 rfl
  have L2 := loadA_all (ro := ro) (z := 0) (n := 2) (l := [.bool c.b, a2]) g2 rfl
  refine bindP_mk L3 (bindP_mk L2 ?_)
  refine nca_Right_c (hf3.mono (by omega)) hG3 hC3 fun n7 hn7 => ?_
  cases hrc : rightC x c with
  | false =>
    (repeat (first | refine lss_t (by omega) ?_ | refine lss_f (by omega) ?_ | refine leq_t (by omega) ?_ | refine leq_f (by omega) ?_ | refine gtr_t (by omega) ?_ | refine gtr_f (by omega) ?_ | refine geq_t (by omega) ?_ | refine geq_f (by omega) ?_ | refine eql_t (by omega) ?_ | refine eql_f (by omega) ?_ | refine neq_t (by omega) ?_ | refine neq_f (by omega) ?_ | refine bindP_mk (by simp (disch := first | omega | exact Int.natCast_nonneg _ | assumption) only [BB, decide_true, decide_false, Bool.not_true, Bool.not_false, Option.bind_some, T.get_upd_same, T.get_upd_ne, if_pos, Nat.zero_add, Nat.mul_one, Nat.add_zero, Int.toNat_natCast, ↓reduceIte, Nat.reduceLeDiff, Nat.reduceAdd, Nat.le_refl] <;> rfl) ?_ | refine newP_mk ?_ | refine optP_mk ?_ | with_reducible refine condP_t ?_ | with_reducible refine condP_f ?_ | with_reducible refine ifP_tt' ?_ | with_reducible refine ifP_ff' ?_ | with_reducible refine ifP_tf' ?_ | with_reducible refine ifP_ft' ?_ | with_reducible refine ifP_u' ?_ | refine optP_mk0 ?_))
    exact ⟨_, Sub.refl _, hK _ _ (by omega)⟩
  | true =>
    have hrc2 := hrc
    unfold rightC at hrc2
    simp only [Bool.and_eq_true] at hrc2
    have hlen := right_len hrc2.1
    have hbl := hP3.len
    (repeat (first | refine lss_t (by omega) ?_ | refine lss_f (by omega) ?_ | refine leq_t (by omega) ?_ | refine leq_f (by omega) ?_ | refine gtr_t (by omega) ?_ | refine gtr_f (by omega) ?_ | refine geq_t (by omega) ?_ | refine geq_f (by omega) ?_ | refine eql_t (by omega) ?_ | refine eql_f (by omega) ?_ | refine neq_t (by omega) ?_ | refine neq_f (by omega) ?_ | refine bindP_mk (by simp (disch := first | omega | exact Int.natCast_nonneg _ | assumption) only [BB, decide_true, decide_false, Bool.not_true, Bool.not_false, Option.bind_some, T.get_upd_same, T.get_upd_ne, if_pos, Nat.zero_add, Nat.mul_one, Nat.add_zero, Int.toNat_natCast, ↓reduceIte, Nat.reduceLeDiff, Nat.reduceAdd, Nat.le_refl, g3, hbl] <;> rfl) ?_ | refine newP_mk ?_ | refine optP_mk ?_ | with_reducible refine condP_t ?_ | with_reducible refine condP_f ?_ | with_reducible refine ifP_tt' ?_ | with_reducible refine ifP_ff' ?_ | with_reducible refine ifP_tf' ?_ | with_reducible refine ifP_ft' ?_ | with_reducible refine ifP_u' ?_ | refine optP_mk0 ?_))
    refine loopP_rule (fun j e h' nx' => ∃ (k : Nat), k + j = x.p.length ∧ n7 ≤ nx' ∧ h' = h3 ∧ e 2 = .int .u8 (b : Int) ∧ e 4 = ptr (nx + 1) ∧ e 7 = .bool true ∧ e 8 = ptr n6 ∧ e 9 = .bool ((x.p.take k).any fun p => p.s.testBit b) ∧ e 23 = p6 ∧ e 24 = .int .i64 x.p.length ∧ e 25 = .int .i64 k) ?_ (n := x.p.length) ⟨0, by omega, by omega, rfl, rfl, rfl, rfl, rfl, rfl, rfl, rfl, rfl⟩
    rintro j e h' nx' ⟨k, hj, hnx, rfl, e2, e4, e7, e8, e9, e23, e24, e25⟩ Q' hq hx
    unfold law10_NcaNone_L1
    rw [e2, e9, e23, e24, e25]
    refine lss_s (fun hk => ?_) (fun hk => ?_)
    · have hk : k < x.p.length := by omega
      have htk : x.p.take (k + 1) = x.p.take k ++ [x.p[k]] := List.take_succ_eq_append_getElem hk
      obtain ⟨y, ⟨nv, rfl, hn1, hn2⟩, hx2, hx3, hx4, hx5⟩ := hP3.at hk
      have hix := hP3.ix .i64 hk
      generalize x.p[k] = q at hx2 hx3 hx5 hn1 hn2 htk
      (repeat (first | refine lss_t (by omega) ?_ | refine lss_f (by omega) ?_ | refine leq_t (by omega) ?_ | refine leq_f (by omega) ?_ | refine gtr_t (by omega) ?_ | refine gtr_f (by omega) ?_ | refine geq_t (by omega) ?_ | refine geq_f (by omega) ?_ | refine eql_t (by omega) ?_ | refine eql_f (by omega) ?_ | refine neq_t (by omega) ?_ | refine neq_f (by omega) ?_ | refine bindP_mk (by simp (disch := first | omega | exact Int.natCast_nonneg _ | assumption) only [BB, decide_true, decide_false, Bool.not_true, Bool.not_false, Option.bind_some, T.get_upd_same, T.get_upd_ne, if_pos, Nat.zero_add, Nat.mul_one, Nat.add_zero, Int.toNat_natCast, ↓reduceIte, Nat.reduceLeDiff, Nat.reduceAdd, Nat.le_refl, hix, hx3] <;> rfl) ?_ | refine newP_mk ?_ | refine optP_mk ?_ | with_reducible refine condP_t ?_ | with_reducible refine condP_f ?_ | with_reducible refine ifP_tt' ?_ | with_reducible refine ifP_ff' ?_ | with_reducible refine ifP_tf' ?_ | with_reducible refine ifP_ft' ?_ | with_reducible refine ifP_u' ?_ | refine optP_mk0 ?_))
      refine local_mk zer_Pos rfl rfl rfl (posL_ok hn1.ok) hf3 (by omega) fun h4 hs4 hf4 g4 _ => ?_
      have hok : ∀ (e' : Env) n, e' 2 = .int .u8 (b : Int) → e' 4 = ptr (nx + 1) → e' 7 = .bool true → e' 8 = ptr n6 → e' 9 = .bool ((x.p.take (k + 1)).any fun p => p.s.testBit b) → e' 23 = p6 → e' 24 = .int .i64 x.p.length → e' 25 = .int .i64 ((k : Int) + 1) → n7 ≤ n → Q' .normal e' h4 n := fun e' n f2 f4 f7 f8 f9 f23 f24 f25 hn =>
        hq (j - 1) _ h' _ _ (by omega) ⟨k + 1, by omega, hn, rfl, f2, f4, f7, f8, f9, f23, f24, f25⟩ hs4
      rw [htk, List.any_append] at hok
      cases htaken : (x.p.take k).any fun p => p.s.testBit b with
      | true =>
        rw [htaken] at hok
        (repeat (first | refine lss_t (by omega) ?_ | refine lss_f (by omega) ?_ | refine leq_t (by omega) ?_ | refine leq_f (by omega) ?_ | refine gtr_t (by omega) ?_ | refine gtr_f (by omega) ?_ | refine geq_t (by omega) ?_ | refine geq_f (by omega) ?_ | refine eql_t (by omega) ?_ | refine eql_f (by omega) ?_ | refine neq_t (by omega) ?_ | refine neq_f (by omega) ?_ | refine bindP_mk (by simp (disch := first | omega | exact Int.natCast_nonneg _ | assumption) only [BB, decide_true, decide_false, Bool.not_true, Bool.not_false, Option.bind_some, T.get_upd_same, T.get_upd_ne, if_pos, Nat.zero_add, Nat.mul_one, Nat.add_zero, Int.toNat_natCast, ↓reduceIte, Nat.reduceLeDiff, Nat.reduceAdd, Nat.le_refl] <;> rfl) ?_ | refine newP_mk ?_ | refine optP_mk ?_ | with_reducible refine condP_t ?_ | with_reducible refine condP_f ?_ | with_reducible refine ifP_tt' ?_ | with_reducible refine ifP_ff' ?_ | with_reducible refine ifP_tf' ?_ | with_reducible refine ifP_ft' ?_ | with_reducible refine ifP_u' ?_ | refine optP_mk0 ?_))
        exact hok _ _ e2 e4 e7 e8 rfl e23 e24 rfl (by omega)
      | false =>
        rw [htaken] at hok
        have u1 : ((b:Int) / 64).toNat = b / 64 := by omega
        have u2 : ((b:Int) % 64).toNat = b % 64 := by omega
        have u3 := word_lt q.s (b / 64)
        have u4 : b / 64 < 4 := by omega
        have u5 := posL_word (p := q) (nv := nv) u4
        have u6 : word q.s (b / 64) / 2 ^ (b % 64) ≤ word q.s (b / 64) := Nat.div_le_self _ _
        have u7 : ((word q.s (b / 64) / 2 ^ (b % 64) : Nat) : Int) ≤ 18446744073709551615 := cast_le (Nat.lt_of_le_of_lt u6 u3)
        (repeat (first | refine lss_t (by omega) ?_ | refine lss_f (by omega) ?_ | refine leq_t (by omega) ?_ | refine leq_f (by omega) ?_ | refine gtr_t (by omega) ?_ | refine gtr_f (by omega) ?_ | refine geq_t (by omega) ?_ | refine geq_f (by omega) ?_ | refine eql_t (by omega) ?_ | refine eql_f (by omega) ?_ | refine neq_t (by omega) ?_ | refine neq_f (by omega) ?_ | refine bindP_mk (by simp (disch := first | omega | exact Int.natCast_nonneg _ | assumption) only [BB, decide_true, decide_false, Bool.not_true, Bool.not_false, Option.bind_some, T.get_upd_same, T.get_upd_ne, if_pos, Nat.zero_add, Nat.mul_one, Nat.add_zero, Int.toNat_natCast, ↓reduceIte, Nat.reduceLeDiff, Nat.reduceAdd, Nat.le_refl, g4, u1, u2, u5] <;> rfl) ?_ | refine newP_mk ?_ | refine optP_mk ?_ | with_reducible refine condP_t ?_ | with_reducible refine condP_f ?_ | with_reducible refine ifP_tt' ?_ | with_reducible refine ifP_ff' ?_ | with_reducible refine ifP_tf' ?_ | with_reducible refine ifP_ft' ?_ | with_reducible refine ifP_u' ?_ | refine optP_mk0 ?_))
        refine bindP_mk (intB_eql _ _ _) ?_
        rw [bit_one]
        (repeat (first | refine lss_t (by omega) ?_ | refine lss_f (by omega) ?_ | refine leq_t (by omega) ?_ | refine leq_f (by omega) ?_ | refine gtr_t (by omega) ?_ | refine gtr_f (by omega) ?_ | refine geq_t (by omega) ?_ | refine geq_f (by omega) ?_ | refine eql_t (by omega) ?_ | refine eql_f (by omega) ?_ | refine neq_t (by omega) ?_ | refine neq_f (by omega) ?_ | refine bindP_mk (by simp (disch := first | omega | exact Int.natCast_nonneg _ | assumption) only [BB, decide_true, decide_false, Bool.not_true, Bool.not_false, Option.bind_some, T.get_upd_same, T.get_upd_ne, if_pos, Nat.zero_add, Nat.mul_one, Nat.add_zero, Int.toNat_natCast, ↓reduceIte, Nat.reduceLeDiff, Nat.reduceAdd, Nat.le_refl] <;> rfl) ?_ | refine newP_mk ?_ | refine optP_mk ?_ | with_reducible refine condP_t ?_ | with_reducible refine condP_f ?_ | with_reducible refine ifP_tt' ?_ | with_reducible refine ifP_ff' ?_ | with_reducible refine ifP_tf' ?_ | with_reducible refine ifP_ft' ?_ | with_reducible refine ifP_u' ?_ | refine optP_mk0 ?_))
        exact hok _ _ e2 e4 e7 e8 (by show Value.bool (q.s.testBit b) = _; simp) e23 e24 rfl (by omega)
    · (repeat (first | refine lss_t (by omega) ?_ | refine lss_f (by omega) ?_ | refine leq_t (by omega) ?_ | refine leq_f (by omega) ?_ | refine gtr_t (by omega) ?_ | refine gtr_f (by omega) ?_ | refine geq_t (by omega) ?_ | refine geq_f (by omega) ?_ | refine eql_t (by omega) ?_ | refine eql_f (by omega) ?_ | refine neq_t (by omega) ?_ | refine neq_f (by omega) ?_ | refine bindP_mk (by simp (disch := first | omega | exact Int.natCast_nonneg _ | assumption) only [BB, decide_true, decide_false, Bool.not_true, Bool.not_false, Option.bind_some, T.get_upd_same, T.get_upd_ne, if_pos, Nat.zero_add, Nat.mul_one, Nat.add_zero, Int.toNat_natCast, ↓reduceIte, Nat.reduceLeDiff, Nat.reduceAdd, Nat.le_refl] <;> rfl) ?_ | refine newP_mk ?_ | refine optP_mk ?_ | with_reducible refine condP_t ?_ | with_reducible refine condP_f ?_ | with_reducible refine ifP_tt' ?_ | with_reducible refine ifP_ff' ?_ | with_reducible refine ifP_tf' ?_ | with_reducible refine ifP_ft' ?_ | with_reducible refine ifP_u' ?_ | refine optP_mk0 ?_))
      refine hx _ _ _ _ (fun e => by cases e) (exP_e (beqP_t ?_))
      rw [List.take_of_length_le (by omega)] at e9
      have hend : ∀ (e' : Env) n, e' 2 = .int .u8 (b : Int) → e' 4 = ptr (nx + 1) → e' 7 = .bool true → e' 8 = ptr n6 → e' 9 = .bool (x.p.any fun p => p.s.testBit b) → n7 ≤ n → law10_NcaNone_j1 ro K e' h' n := by
        intro e' n f2 f4 f7 f8 f9 hn
        unfold law10_NcaNone_j1
        rw [f2, f4, f7, f8, f9]
        refine bindP_mk L3 (bindP_mk L2 ?_)
        refine nca_Step_c hb (hf3.mono (by omega)) hG3 hC3 fun r4 h4 n8 hn8 q1 q2 q3 => ?_
        have hst : StepC x c b = stepD x c b := by unfold StepC; rw [if_pos hrc]
        rw [hst] at q3
        obtain ⟨d1, rfl, hd1⟩ := q3
        refine local_mk zer_Config rfl rfl rfl (two_ok hd1.ok) q2 (Nat.le_refl _) fun h5 hs5 hf5 g5 _ => ?_
        have g35 := hs5 _ _ (q1 _ _ g3)
        have hG5 := (hG3.sub q1).sub hs5
        have hd5 := hd1.sub hs5 (RHeld.sub hs5)
        refine bindP_mk (loadA_all (l := [a6, p6]) g35 rfl) ?_
        refine bindP_mk build_Config0 ?_
        refine nca_Step_c (c := ⟨false, []⟩) hb (hf5.mono (by omega)) hG5 ⟨_, rfl, SlR.nil⟩ fun r6 h6 n9 hn9 y1 y2 y3 => ?_
        rw [none_step hrc2.1] at y3
        obtain ⟨d2, rfl, hd2⟩ := y3
        refine local_mk zer_Config rfl rfl rfl (two_ok hd2.ok) y2 (Nat.le_refl _) fun h7 hs7 hf7 g7 _ => ?_
        have g57 := hs7 _ _ (y1 _ _ g5)
        have g37 := hs7 _ _ (y1 _ _ g35)
        have hG7 := (hG5.sub y1).sub hs7
        have hd57 := (hd5.sub y1 (RHeld.sub y1)).sub hs7 (RHeld.sub hs7)
        have l1 := hd57.len
        have l2 : lenSl d2 = some (.int .i64 0) := (hd2.sub hs7 (RHeld.sub hs7)).len
        have L37 := loadA_all (ro := ro) (z := 0) (n := 2) (l := [a6, p6]) g37 rfl
        have hrule : ∀ n0, n9 + 1 ≤ n0 → ∀ {KK : KV}, (∀ n1, n0 ≤ n1 → KK (.int .i64 (-1)) h7 n1) → callP Try.prog ro i_nca_Rule [.agg #[a6, p6], .agg #[.bool false, .slice none 0 0]] h7 n0 KK := fun n0 hn0 KK hKK => by
          refine nca_Rule_c (c := ⟨false, []⟩) (hf7.mono (by omega)) hG7 ⟨_, rfl, SlR.nil⟩ fun n1 hn1 => ?_
          rw [none_rule]; exact hKK _ hn1
        cases htk : (x.p.any fun p => p.s.testBit b) with
        | true =>
          (repeat (first | refine lss_t (by omega) ?_ | refine lss_f (by omega) ?_ | refine leq_t (by omega) ?_ | refine leq_f (by omega) ?_ | refine gtr_t (by omega) ?_ | refine gtr_f (by omega) ?_ | refine geq_t (by omega) ?_ | refine geq_f (by omega) ?_ | refine eql_t (by omega) ?_ | refine eql_f (by omega) ?_ | refine neq_t (by omega) ?_ | refine neq_f (by omega) ?_ | refine bindP_mk (by simp (disch := first | omega | exact Int.natCast_nonneg _ | assumption) only [BB, decide_true, decide_false, Bool.not_true, Bool.not_false, Option.bind_some, T.get_upd_same, T.get_upd_ne, if_pos, Nat.zero_add, Nat.mul_one, Nat.add_zero, Int.toNat_natCast, ↓reduceIte, Nat.reduceLeDiff, Nat.reduceAdd, Nat.le_refl, g57, g7, l1, l2, L37, build_Config0] <;> rfl) ?_ | refine newP_mk ?_ | refine optP_mk ?_ | with_reducible refine condP_t ?_ | with_reducible refine condP_f ?_ | with_reducible refine ifP_tt' ?_ | with_reducible refine ifP_ff' ?_ | with_reducible refine ifP_tf' ?_ | with_reducible refine ifP_ft' ?_ | with_reducible refine ifP_u' ?_ | refine optP_mk0 ?_))
          refine hrule _ (by omega) fun n10 hn10 => ?_
          (repeat (first | refine lss_t (by omega) ?_ | refine lss_f (by omega) ?_ | refine leq_t (by omega) ?_ | refine leq_f (by omega) ?_ | refine gtr_t (by omega) ?_ | refine gtr_f (by omega) ?_ | refine geq_t (by omega) ?_ | refine geq_f (by omega) ?_ | refine eql_t (by omega) ?_ | refine eql_f (by omega) ?_ | refine neq_t (by omega) ?_ | refine neq_f (by omega) ?_ | refine bindP_mk (by simp (disch := first | omega | exact Int.natCast_nonneg _ | assumption) only [BB, decide_true, decide_false, Bool.not_true, Bool.not_false, Option.bind_some, T.get_upd_same, T.get_upd_ne, if_pos, Nat.zero_add, Nat.mul_one, Nat.add_zero, Int.toNat_natCast, ↓reduceIte, Nat.reduceLeDiff, Nat.reduceAdd, Nat.le_refl, L37] <;> rfl) ?_ | refine newP_mk ?_ | refine optP_mk ?_ | with_reducible refine condP_t ?_ | with_reducible refine condP_f ?_ | with_reducible refine ifP_tt' ?_ | with_reducible refine ifP_ff' ?_ | with_reducible refine ifP_tf' ?_ | with_reducible refine ifP_ft' ?_ | with_reducible refine ifP_u' ?_ | refine optP_mk0 ?_))
          refine nca_Start_c (hf7.mono (by omega)) fun n11 hn11 => ?_
          refine ⟨fun _ => sameV_own g37 g37, ?_⟩
          (repeat (first | refine lss_t (by omega) ?_ | refine lss_f (by omega) ?_ | refine leq_t (by omega) ?_ | refine leq_f (by omega) ?_ | refine gtr_t (by omega) ?_ | refine gtr_f (by omega) ?_ | refine geq_t (by omega) ?_ | refine geq_f (by omega) ?_ | refine eql_t (by omega) ?_ | refine eql_f (by omega) ?_ | refine neq_t (by omega) ?_ | refine neq_f (by omega) ?_ | refine bindP_mk (by simp (disch := first | omega | exact Int.natCast_nonneg _ | assumption) only [BB, decide_true, decide_false, Bool.not_true, Bool.not_false, Option.bind_some, T.get_upd_same, T.get_upd_ne, if_pos, Nat.zero_add, Nat.mul_one, Nat.add_zero, Int.toNat_natCast, ↓reduceIte, Nat.reduceLeDiff, Nat.reduceAdd, Nat.le_refl, L37] <;> rfl) ?_ | refine newP_mk ?_ | refine optP_mk ?_ | with_reducible refine condP_t ?_ | with_reducible refine condP_f ?_ | with_reducible refine ifP_tt' ?_ | with_reducible refine ifP_ff' ?_ | with_reducible refine ifP_tf' ?_ | with_reducible refine ifP_ft' ?_ | with_reducible refine ifP_u' ?_ | refine optP_mk0 ?_))
          refine nca_Rule_c (c := startD) (hf7.mono (by omega)) hG7 ⟨_, rfl, SlR.nil⟩ fun n12 hn12 => ?_
          rw [show RuleC x startD = -1 from none_rule x true]
          (repeat (first | refine lss_t (by omega) ?_ | refine lss_f (by omega) ?_ | refine leq_t (by omega) ?_ | refine leq_f (by omega) ?_ | refine gtr_t (by omega) ?_ | refine gtr_f (by omega) ?_ | refine geq_t (by omega) ?_ | refine geq_f (by omega) ?_ | refine eql_t (by omega) ?_ | refine eql_f (by omega) ?_ | refine neq_t (by omega) ?_ | refine neq_f (by omega) ?_ | refine bindP_mk (by simp (disch := first | omega | exact Int.natCast_nonneg _ | assumption) only [BB, decide_true, decide_false, Bool.not_true, Bool.not_false, Option.bind_some, T.get_upd_same, T.get_upd_ne, if_pos, Nat.zero_add, Nat.mul_one, Nat.add_zero, Int.toNat_natCast, ↓reduceIte, Nat.reduceLeDiff, Nat.reduceAdd, Nat.le_refl] <;> rfl) ?_ | refine newP_mk ?_ | refine optP_mk ?_ | with_reducible refine condP_t ?_ | with_reducible refine condP_f ?_ | with_reducible refine ifP_tt' ?_ | with_reducible refine ifP_ff' ?_ | with_reducible refine ifP_tf' ?_ | with_reducible refine ifP_ft' ?_ | with_reducible refine ifP_u' ?_ | refine optP_mk0 ?_))
          exact ⟨_, Sub.refl _, hK _ _ (by omega)⟩
        | false =>
          have hnil := taken_no (c := c) htk
          have l1 : lenSl d1 = some (.int .i64 0) := by rw [hnil] at l1; exact l1
          (repeat (first | refine lss_t (by omega) ?_ | refine lss_f (by omega) ?_ | refine leq_t (by omega) ?_ | refine leq_f (by omega) ?_ | refine gtr_t (by omega) ?_ | refine gtr_f (by omega) ?_ | refine geq_t (by omega) ?_ | refine geq_f (by omega) ?_ | refine eql_t (by omega) ?_ | refine eql_f (by omega) ?_ | refine neq_t (by omega) ?_ | refine neq_f (by omega) ?_ | refine bindP_mk (by simp (disch := first | omega | exact Int.natCast_nonneg _ | assumption) only [BB, decide_true, decide_false, Bool.not_true, Bool.not_false, Option.bind_some, T.get_upd_same, T.get_upd_ne, if_pos, Nat.zero_add, Nat.mul_one, Nat.add_zero, Int.toNat_natCast, ↓reduceIte, Nat.reduceLeDiff, Nat.reduceAdd, Nat.le_refl, g57, g7, l1, l2, L37, build_Config0] <;> rfl) ?_ | refine newP_mk ?_ | refine optP_mk ?_ | with_reducible refine condP_t ?_ | with_reducible refine condP_f ?_ | with_reducible refine ifP_tt' ?_ | with_reducible refine ifP_ff' ?_ | with_reducible refine ifP_tf' ?_ | with_reducible refine ifP_ft' ?_ | with_reducible refine ifP_u' ?_ | refine optP_mk0 ?_))
          refine hrule _ (by omega) fun n10 hn10 => ?_
          (repeat (first | refine lss_t (by omega) ?_ | refine lss_f (by omega) ?_ | refine leq_t (by omega) ?_ | refine leq_f (by omega) ?_ | refine gtr_t (by omega) ?_ | refine gtr_f (by omega) ?_ | refine geq_t (by omega) ?_ | refine geq_f (by omega) ?_ | refine eql_t (by omega) ?_ | refine eql_f (by omega) ?_ | refine neq_t (by omega) ?_ | refine neq_f (by omega) ?_ | refine bindP_mk (by simp (disch := first | omega | exact Int.natCast_nonneg _ | assumption) only [BB, decide_true, decide_false, Bool.not_true, Bool.not_false, Option.bind_some, T.get_upd_same, T.get_upd_ne, if_pos, Nat.zero_add, Nat.mul_one, Nat.add_zero, Int.toNat_natCast, ↓reduceIte, Nat.reduceLeDiff, Nat.reduceAdd, Nat.le_refl, L37] <;> rfl) ?_ | refine newP_mk ?_ | refine optP_mk ?_ | with_reducible refine condP_t ?_ | with_reducible refine condP_f ?_ | with_reducible refine ifP_tt' ?_ | with_reducible refine ifP_ff' ?_ | with_reducible refine ifP_tf' ?_ | with_reducible refine ifP_ft' ?_ | with_reducible refine ifP_u' ?_ | refine optP_mk0 ?_))
          refine nca_Start_c (hf7.mono (by omega)) fun n11 hn11 => ?_
          refine ⟨fun _ => sameV_own g37 g37, ?_⟩
          (repeat (first | refine lss_t (by omega) ?_ | refine lss_f (by omega) ?_ | refine leq_t (by omega) ?_ | refine leq_f (by omega) ?_ | refine gtr_t (by omega) ?_ | refine gtr_f (by omega) ?_ | refine geq_t (by omega) ?_ | refine geq_f (by omega) ?_ | refine eql_t (by omega) ?_ | refine eql_f (by omega) ?_ | refine neq_t (by omega) ?_ | refine neq_f (by omega) ?_ | refine bindP_mk (by simp (disch := first | omega | exact Int.natCast_nonneg _ | assumption) only [BB, decide_true, decide_false, Bool.not_true, Bool.not_false, Option.bind_some, T.get_upd_same, T.get_upd_ne, if_pos, Nat.zero_add, Nat.mul_one, Nat.add_zero, Int.toNat_natCast, ↓reduceIte, Nat.reduceLeDiff, Nat.reduceAdd, Nat.le_refl, L37] <;> rfl) ?_ | refine newP_mk ?_ | refine optP_mk ?_ | with_reducible refine condP_t ?_ | with_reducible refine condP_f ?_ | with_reducible refine ifP_tt' ?_ | with_reducible refine ifP_ff' ?_ | with_reducible refine ifP_tf' ?_ | with_reducible refine ifP_ft' ?_ | with_reducible refine ifP_u' ?_ | refine optP_mk0 ?_))
          refine nca_Rule_c (c := startD) (hf7.mono (by omega)) hG7 ⟨_, rfl, SlR.nil⟩ fun n12 hn12 => ?_
          rw [show RuleC x startD = -1 from none_rule x true]
          (repeat (first | refine lss_t (by omega) ?_ | refine lss_f (by omega) ?_ | refine leq_t (by omega) ?_ | refine leq_f (by omega) ?_ | refine gtr_t (by omega) ?_ | refine gtr_f (by omega) ?_ | refine geq_t (by omega) ?_ | refine geq_f (by omega) ?_ | refine eql_t (by omega) ?_ | refine eql_f (by omega) ?_ | refine neq_t (by omega) ?_ | refine neq_f (by omega) ?_ | refine bindP_mk (by simp (disch := first | omega | exact Int.natCast_nonneg _ | assumption) only [BB, decide_true, decide_false, Bool.not_true, Bool.not_false, Option.bind_some, T.get_upd_same, T.get_upd_ne, if_pos, Nat.zero_add, Nat.mul_one, Nat.add_zero, Int.toNat_natCast, ↓reduceIte, Nat.reduceLeDiff, Nat.reduceAdd, Nat.le_refl] <;> rfl) ?_ | refine newP_mk ?_ | refine optP_mk ?_ | with_reducible refine condP_t ?_ | with_reducible refine condP_f ?_ | with_reducible refine ifP_tt' ?_ | with_reducible refine ifP_ff' ?_ | with_reducible refine ifP_tf' ?_ | with_reducible refine ifP_ft' ?_ | with_reducible refine ifP_u' ?_ | refine optP_mk0 ?_))
          exact ⟨_, Sub.refl _, hK _ _ (by omega)⟩
      exact hend _ _ e2 e4 e7 e8 e9 (by omega)
end V
end Go.Proofs.Ytepbdkfkfcckoaa
