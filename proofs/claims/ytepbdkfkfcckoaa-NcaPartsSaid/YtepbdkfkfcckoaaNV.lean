/- The law NcaParts as the machine runs it.
   No condition. -/
import Derived.Test.YtepbdkfkfcckoaaN4
set_option linter.unusedVariables false
set_option linter.unusedSimpArgs false
namespace Go.Proofs.Ytepbdkfkfcckoaa
namespace V
open PA
attribute [local irreducible] bindP ifP condP newP optP exP beqP
theorem lon_shift {g : GlD} (k : Nat) : ∀ (w : List Nat) (c : CfgD) (to1 to2 best : Int) (i : Nat), (best < 0 ∨ to1 = to2 + k) →
    (lon g c to1 best (i + k) w).2 = (lon g c to2 best i w).2 ∧ ((lon g c to1 best (i + k) w).2 < 0 ∨ (lon g c to1 best (i + k) w).1 = (lon g c to2 best i w).1 + k)
  | [], c, to1, to2, best, i, h => ⟨rfl, h⟩
  | b :: w, c, to1, to2, best, i, h => by
    rw [lon_cons, lon_cons]
    by_cases hr : 0 ≤ ruleD g (stepD g c b)
    · rw [if_pos hr, if_pos hr, show i + k + 1 = i + 1 + k by omega]
      exact lon_shift k w _ _ _ _ _ (.inr (by omega))
    · rw [if_neg hr, if_neg hr, show i + k + 1 = i + 1 + k by omega]
      exact lon_shift k w _ _ _ _ _ h
theorem lon_in {g : GlD} (k n : Nat) : ∀ (w : List Nat) (c : CfgD) (to best : Int) (i : Nat), (best < 0 ∨ (k : Int) < to ∧ to ≤ n) → k ≤ i → i + w.length ≤ n → (lon g c to best i w).2 < 0 ∨ (k : Int) < (lon g c to best i w).1 ∧ (lon g c to best i w).1 ≤ n
  | [], c, to, best, i, h, _, _ => h
  | b :: w, c, to, best, i, h, hk, hn => by
    rw [List.length_cons] at hn
    rw [lon_cons]
    by_cases hr : 0 ≤ ruleD g (stepD g c b)
    · rw [if_pos hr]; exact lon_in k n w _ _ _ _ (.inr (by omega)) (by omega) (by omega)
    · rw [if_neg hr]; exact lon_in k n w _ _ _ _ h (by omega) (by omega)
theorem parts_ok (g : GlD) (w : List Nat) {k : Nat} (hk : k ≤ w.length) : (longF g w k).2.2 = (longF g (w.drop k) 0).2.2 ∧ (longF g w k).2.1 = (longF g (w.drop k) 0).2.1 ∧
    ((longF g w k).2.2 = true → (longF g w k).1 = (longF g (w.drop k) 0).1 + k ∧ (k : Int) < (longF g w k).1 ∧ (longF g w k).1 ≤ w.length) ∧ ((longF g w k).2.2 = false → (longF g w k).1 = 0) := by
  unfold longF
  by_cases hr : rightD g = true
  · rw [if_pos ⟨hr, by omega, by omega⟩, if_pos ⟨hr, by omega, by omega⟩]
    unfold longD
    rw [Int.toNat_natCast, show (0 : Int).toNat = 0 from rfl, List.drop_zero]
    have h1 := lon_shift (g := g) k (w.drop k) startD 0 0 (-1) 0 (.inl (by omega))
    rw [Nat.zero_add] at h1
    have h2 := lon_in (g := g) k w.length (w.drop k) startD 0 (-1) k (.inl (by omega)) (Nat.le_refl _) (by rw [List.length_drop]; omega)
    generalize lon g startD 0 (-1) k (w.drop k) = A at h1 h2
    generalize lon g startD 0 (-1) 0 (w.drop k) = B at h1
    obtain ⟨e1, e2⟩ := h1
    unfold resD
    rw [← e1]
    by_cases hb : A.2 < 0
    · rw [if_pos hb, if_pos hb]; simp
    · rw [if_neg hb, if_neg hb]
      refine ⟨rfl, e1 ▸ rfl, fun _ => ⟨?_, ?_, ?_⟩, fun h => by simp at h⟩
      · show A.1 = B.1 + k; omega
      · show (k : Int) < A.1; omega
      · show A.1 ≤ _; omega
  · rw [if_neg (fun h => hr h.1), if_neg (fun h => hr h.1)]; simp
theorem slice_str2 {s : ByteArray} {n : Nat} {k : IntKind} (hn : n ≤ s.size) : sliceV Try.prog y_string (.string s) (some (.int k (n : Int))) none none = some (.string (s.extract n s.size)) := by
  have hb : Nat.ble n s.size = true := Nat.ble_eq_true_of_le hn
  have hnv : natV (.int k (n : Int)) = some n := by simp [natV]
  unfold sliceV
  simp only [und_str, boundV, hnv, Option.bind, hb]
theorem bts_extract2 (s : ByteArray) {n : Nat} (hn : n ≤ s.size) : bts (s.extract n s.size) = (bts s).drop n := by
  unfold bts
  rw [← List.map_drop]
  congr 1
  simp
  have : s.size = s.data.toList.length := rfl
  rw [List.take_of_length_le (by rw [List.length_drop, this]; omega)]
set_option maxRecDepth 8000 in
set_option maxHeartbeats 2000000 in
theorem law10_NcaParts_c {ro : Ro} {v : Value} {g : GlD} {s : ByteArray} {at8 : Nat} (hat : at8 < 256) {h : T Obj} {nx : Nat} {K : KV} (hf : Fr h nx) (hg : RG ro h v g) (hK : ∀ h' nx', nx ≤ nx' → K (.bool true) h' nx') : callP Try.prog ro i_law10_NcaParts [v, .string s, .int .u8 (at8 : Int)] h nx K := by
  obtain ⟨a, p, rfl, ha, hP⟩ := hg
  apply law10_NcaParts_of
  unfold law10_NcaParts
  refine param_mk hf (Nat.le_refl _) fun h1 hs1 hf1 g1 _ => ?_
  have hG : RG ro h1 (.agg #[a, p]) g := ⟨a, p, rfl, ha.sub hs1, hP.sub hs1 (RPos.sub hs1)⟩
  refine shown_c ?_
  refine bindP_mk (loadA_all (l := [a, p]) g1 rfl) ?_
  refine law10_few_c (hf1.mono (by omega)) hG fun r n6 hn6 hG6 => ?_
  generalize fewD g = x at hG6
  obtain ⟨a6, p6, rfl, ha6, hP6⟩ := hG6
  refine bindP_mk (lenStr_bts s) ?_
  refine bindP_mk (min_int _ _ _ _) ?_
  rw [bts_len, show min ((s.size : Nat) : Int) 60 = ((min s.size 60 : Nat) : Int) by omega]
  refine bindP_mk (slice_str (by omega)) ?_
  have hw := fewW_len s
  change (bts (s.extract 0 (min s.size 60))).length ≤ 60 at hw
  generalize s.extract 0 (min s.size 60) = y at hw
  refine local_mk (x := [a6, p6]) zer_Glush rfl rfl rfl (two_ok' ha6.ok hP6.ok) hf1 (by omega) fun h3 hs3 hf3 g3 _ => ?_
  have hG3 : RG ro h3 (.agg #[a6, p6]) x := ⟨a6, p6, rfl, ha6.sub hs3, hP6.sub hs3 (RPos.sub hs3)⟩
  have L3 := loadA_all (ro := ro) (z := 0) (n := 2) (l := [a6, p6]) g3 rfl
  have hls := lenStr_bts y
  (repeat (first | refine lss_t (by omega) ?_ | refine lss_f (by omega) ?_ | refine leq_t (by omega) ?_ | refine leq_f (by omega) ?_ | refine gtr_t (by omega) ?_ | refine gtr_f (by omega) ?_ | refine geq_t (by omega) ?_ | refine geq_f (by omega) ?_ | refine eql_t (by omega) ?_ | refine eql_f (by omega) ?_ | refine neq_t (by omega) ?_ | refine neq_f (by omega) ?_ | refine bindP_mk (by simp (disch := first | omega | exact Int.natCast_nonneg _ | assumption) only [BB, decide_true, decide_false, Bool.not_true, Bool.not_false, Option.bind_some, T.get_upd_same, T.get_upd_ne, if_pos, Nat.zero_add, Nat.mul_one, Nat.add_zero, Int.toNat_natCast, ↓reduceIte, Nat.reduceLeDiff, Nat.reduceAdd, Nat.le_refl, hls] <;> rfl) ?_ | refine newP_mk ?_ | refine optP_mk ?_ | with_reducible refine condP_t ?_ | with_reducible refine condP_f ?_ | with_reducible refine ifP_tt' ?_ | with_reducible refine ifP_ff' ?_ | with_reducible refine ifP_tf' ?_ | with_reducible refine ifP_ft' ?_ | with_reducible refine ifP_u' ?_ | refine optP_mk0 ?_))
  rw [show (at8 : Int) % (((bts y).length : Int) + 1) = ((at8 % ((bts y).length + 1) : Nat) : Int) by rw [Int.natCast_emod]; rfl]
  have hk : at8 % ((bts y).length + 1) ≤ (bts y).length := by have := Nat.mod_lt at8 (show (bts y).length + 1 > 0 by omega); omega
  generalize at8 % ((bts y).length + 1) = k at hk
  refine bindP_mk L3 ?_
  refine nca_Longest_c (by omega) (hf3.mono (by omega)) hG3 fun n7 hn7 => ?_
  refine bindP_mk (a := .int .i64 (longF x (bts y) k).1) rfl (bindP_mk (a := .int .i64 (longF x (bts y) k).2.1) rfl (bindP_mk (a := .bool (longF x (bts y) k).2.2) rfl ?_))
  refine bindP_mk L3 ?_
  refine bindP_mk (slice_str2 (by rw [← bts_len]; exact hk)) ?_
  have hdl : (bts (y.extract k y.size)).length ≤ 1000000 := by rw [bts_extract2 _ (by rw [← bts_len]; exact hk), List.length_drop]; omega
  refine nca_Longest_c hdl (hf3.mono (by omega)) hG3 fun n8 hn8 => ?_
  rw [bts_extract2 _ (by rw [← bts_len]; exact hk)]
  obtain ⟨c1, c2, c3, c4⟩ := parts_ok x (bts y) hk
  refine bindP_mk (a := .int .i64 (longF x ((bts y).drop k) 0).1) rfl (bindP_mk (a := .int .i64 (longF x ((bts y).drop k) 0).2.1) rfl (bindP_mk (a := .bool (longF x ((bts y).drop k) 0).2.2) rfl ?_))
  generalize longF x (bts y) k = A at c1 c2 c3 c4
  generalize longF x ((bts y).drop k) 0 = B at c1 c2 c3
  obtain ⟨A1, A2, A3⟩ := A
  obtain ⟨B1, B2, B3⟩ := B
  simp only at c1 c2 c3 c4
  subst c1 c2
  dsimp only
  cases A3 with
  | true =>
    obtain ⟨d1, d2, d3⟩ := c3 rfl
    (repeat (first | refine lss_t (by omega) ?_ | refine lss_f (by omega) ?_ | refine leq_t (by omega) ?_ | refine leq_f (by omega) ?_ | refine gtr_t (by omega) ?_ | refine gtr_f (by omega) ?_ | refine geq_t (by omega) ?_ | refine geq_f (by omega) ?_ | refine eql_t (by omega) ?_ | refine eql_f (by omega) ?_ | refine neq_t (by omega) ?_ | refine neq_f (by omega) ?_ | refine bindP_mk (by simp (disch := first | omega | exact Int.natCast_nonneg _ | assumption) only [BB, decide_true, decide_false, Bool.not_true, Bool.not_false, Option.bind_some, T.get_upd_same, T.get_upd_ne, if_pos, Nat.zero_add, Nat.mul_one, Nat.add_zero, Int.toNat_natCast, ↓reduceIte, Nat.reduceLeDiff, Nat.reduceAdd, Nat.le_refl, hls] <;> rfl) ?_ | refine newP_mk ?_ | refine optP_mk ?_ | with_reducible refine condP_t ?_ | with_reducible refine condP_f ?_ | with_reducible refine ifP_tt' ?_ | with_reducible refine ifP_ff' ?_ | with_reducible refine ifP_tf' ?_ | with_reducible refine ifP_ft' ?_ | with_reducible refine ifP_u' ?_ | refine optP_mk0 ?_))
    rw [show (true == true) = true from rfl]
    (repeat (first | refine lss_t (by omega) ?_ | refine lss_f (by omega) ?_ | refine leq_t (by omega) ?_ | refine leq_f (by omega) ?_ | refine gtr_t (by omega) ?_ | refine gtr_f (by omega) ?_ | refine geq_t (by omega) ?_ | refine geq_f (by omega) ?_ | refine eql_t (by omega) ?_ | refine eql_f (by omega) ?_ | refine neq_t (by omega) ?_ | refine neq_f (by omega) ?_ | refine bindP_mk (by simp (disch := first | omega | exact Int.natCast_nonneg _ | assumption) only [BB, decide_true, decide_false, Bool.not_true, Bool.not_false, Option.bind_some, T.get_upd_same, T.get_upd_ne, if_pos, Nat.zero_add, Nat.mul_one, Nat.add_zero, Int.toNat_natCast, ↓reduceIte, Nat.reduceLeDiff, Nat.reduceAdd, Nat.le_refl, hls] <;> rfl) ?_ | refine newP_mk ?_ | refine optP_mk ?_ | with_reducible refine condP_t ?_ | with_reducible refine condP_f ?_ | with_reducible refine ifP_tt' ?_ | with_reducible refine ifP_ff' ?_ | with_reducible refine ifP_tf' ?_ | with_reducible refine ifP_ft' ?_ | with_reducible refine ifP_u' ?_ | refine optP_mk0 ?_))
    exact ⟨_, Sub.refl _, hK _ _ (by omega)⟩
  | false =>
    have d1 := c4 rfl
    (repeat (first | refine lss_t (by omega) ?_ | refine lss_f (by omega) ?_ | refine leq_t (by omega) ?_ | refine leq_f (by omega) ?_ | refine gtr_t (by omega) ?_ | refine gtr_f (by omega) ?_ | refine geq_t (by omega) ?_ | refine geq_f (by omega) ?_ | refine eql_t (by omega) ?_ | refine eql_f (by omega) ?_ | refine neq_t (by omega) ?_ | refine neq_f (by omega) ?_ | refine bindP_mk (by simp (disch := first | omega | exact Int.natCast_nonneg _ | assumption) only [BB, decide_true, decide_false, Bool.not_true, Bool.not_false, Option.bind_some, T.get_upd_same, T.get_upd_ne, if_pos, Nat.zero_add, Nat.mul_one, Nat.add_zero, Int.toNat_natCast, ↓reduceIte, Nat.reduceLeDiff, Nat.reduceAdd, Nat.le_refl, hls] <;> rfl) ?_ | refine newP_mk ?_ | refine optP_mk ?_ | with_reducible refine condP_t ?_ | with_reducible refine condP_f ?_ | with_reducible refine ifP_tt' ?_ | with_reducible refine ifP_ff' ?_ | with_reducible refine ifP_tf' ?_ | with_reducible refine ifP_ft' ?_ | with_reducible refine ifP_u' ?_ | refine optP_mk0 ?_))
    rw [show (false == false) = true from rfl]
    (repeat (first | refine lss_t (by omega) ?_ | refine lss_f (by omega) ?_ | refine leq_t (by omega) ?_ | refine leq_f (by omega) ?_ | refine gtr_t (by omega) ?_ | refine gtr_f (by omega) ?_ | refine geq_t (by omega) ?_ | refine geq_f (by omega) ?_ | refine eql_t (by omega) ?_ | refine eql_f (by omega) ?_ | refine neq_t (by omega) ?_ | refine neq_f (by omega) ?_ | refine bindP_mk (by simp (disch := first | omega | exact Int.natCast_nonneg _ | assumption) only [BB, decide_true, decide_false, Bool.not_true, Bool.not_false, Option.bind_some, T.get_upd_same, T.get_upd_ne, if_pos, Nat.zero_add, Nat.mul_one, Nat.add_zero, Int.toNat_natCast, ↓reduceIte, Nat.reduceLeDiff, Nat.reduceAdd, Nat.le_refl, hls] <;> rfl) ?_ | refine newP_mk ?_ | refine optP_mk ?_ | with_reducible refine condP_t ?_ | with_reducible refine condP_f ?_ | with_reducible refine ifP_tt' ?_ | with_reducible refine ifP_ff' ?_ | with_reducible refine ifP_tf' ?_ | with_reducible refine ifP_ft' ?_ | with_reducible refine ifP_u' ?_ | refine optP_mk0 ?_))
    exact ⟨_, Sub.refl _, hK _ _ (by omega)⟩
end V
end Go.Proofs.Ytepbdkfkfcckoaa
