/- What New, few, does, ints hand back.
   No condition. -/
import Derived.Test.YtnglppngpioipaaRD
set_option linter.unusedVariables false
set_option linter.unusedSimpArgs false
namespace Go.Proofs.Ytnglppngpioipaa
namespace V
theorem zerosV_i64 : ∀ n : Nat, zerosV [.int .i64 0] n = putC (List.replicate n 0)
  | 0 => rfl
  | n + 1 => by
    have := zerosV_i64 n
    simp only [zerosV, this, putC, List.replicate_succ, List.map_cons]; rfl
theorem make_i64 {aid n : Nat} (h0 : 1 ≤ n) (h1 : n ≤ 1000000) : makeV Try.prog y_s_int aid (.int .i64 (n : Int)) (.int .i64 (n : Int)) = some (.slice (some (own aid 1)) n n, some (.cells (putC (List.replicate n 0)).toArray y_int)) := by
  obtain ⟨i, g1, g2, g3⟩ := tin_i64
  have hb : Nat.ble (n * 8) big = true := Nat.ble_eq_true_of_le (by unfold big; omega)
  have e1 : decide ((0 : Int) ≤ (n : Int)) = true := by simp
  have e2 : decide ((n : Int) ≤ (n : Int)) = true := by simp
  have e3 : decide ((n : Int) ≤ 70368744177664) = true := by simp; omega
  have hz : zrow Try.prog y_int n = some (putC (List.replicate n 0)) := by
    obtain ⟨m, rfl⟩ : ∃ m, n = m + 1 := ⟨n - 1, by omega⟩
    have hs : siz Try.prog y_int = some 1 := by kernel_rfl
    unfold zrow
    simp only [zer_i64, hs, Option.bind_some]
    have h3 : Nat.beq (Value.cells (.int .i64 0)).size 1 = true := rfl
    have h4 : Nat.blt 0 1 = true := rfl
    rw [h3, h4]
    simp only
    rw [← zerosV_i64]; rfl
  unfold makeV
  simp only [und_i64s, e1, e2, g1, Option.bind_some, g3, Int.toNat_natCast, hb, e3, hz, g2]
theorem buildV_ring (a n : Nat) : buildV Try.prog y_ring_Ring [(0, .slice (some (own a 1)) n n)] = some (.agg (ringC a n 0 0 0 0).toArray) := by kernel_rfl
set_option maxRecDepth 4000 in
theorem ring_New_c {ro : Ro} {h : T Obj} {n nx : Nat} {K : KV} (hf : Fr h nx) (h1 : 1 ≤ n) (h2 : n ≤ 4096) (hK : ∀ p a h' nx', nx ≤ p → nx ≤ a → nx ≤ nx' → Sub h h' → Fr h' nx' → RI h' p a n [] 0 → K (.tuple #[ptr p, .int .i64 0]) h' nx') : callP Try.prog ro i_ring_New [.int .i64 (n : Int)] h nx K := by
  apply ring_New_of
  unfold ring_New
  repeat (first | refine bindP_mk (by simp (disch := first | omega | exact Int.natCast_nonneg _ | assumption) only [decide_true, decide_false, Bool.not_true, Bool.not_false, newP_eq, optP_some, optP_none, bindP_some', condP_true, condP_false, ifP_tt, ifP_ff, ifP_tf, ifP_ft, exP_normal, exP_exit, exP_ret, beqP_true, beqP_false, Option.bind_some, Value.cells_agg, cells_int, cells_bool, intB_add, intB_sub, intB_mul, intB_quo, intB_rem, intB_eql, intB_neq, intB_lss, intB_leq, intB_gtr, intB_geq, intB_shr_u64, intB_shl1_u64, intB_and64, intB_or64, intB_xor64, wr_i64, wr_u8, wr_u64, convI_int, unV_not, boolB_eql, boolB_neq, pickV_true, pickV_false, lenSl_slice, ptr_at, fwdP_at, ixArr_at, load1_own, loadA_own, storeN_own, T.get_upd_same, T.get_upd_ne, cellsIn_some, putIn_cells, tl, ts, if_pos, Nat.zero_add, Nat.mul_one, Nat.add_zero, Int.toNat_natCast, ↓reduceIte, Nat.reduceLeDiff, Nat.reduceAdd, Nat.le_refl] <;> rfl) ?_ | refine newP_mk ?_ | refine optP_mk ?_ | with_reducible refine condP_t ?_ | with_reducible refine condP_f ?_ | with_reducible refine ifP_tt' ?_ | with_reducible refine ifP_ff' ?_ | with_reducible refine ifP_tf' ?_ | with_reducible refine ifP_ft' ?_ | with_reducible refine ifP_u' ?_ | refine optP_mk0 ?_)
  rw [decide_eq_false (show ¬ (n : Int) < 1 by omega)]
  repeat (first | refine bindP_mk (by simp (disch := first | omega | exact Int.natCast_nonneg _ | assumption) only [decide_true, decide_false, Bool.not_true, Bool.not_false, newP_eq, optP_some, optP_none, bindP_some', condP_true, condP_false, ifP_tt, ifP_ff, ifP_tf, ifP_ft, exP_normal, exP_exit, exP_ret, beqP_true, beqP_false, Option.bind_some, Value.cells_agg, cells_int, cells_bool, intB_add, intB_sub, intB_mul, intB_quo, intB_rem, intB_eql, intB_neq, intB_lss, intB_leq, intB_gtr, intB_geq, intB_shr_u64, intB_shl1_u64, intB_and64, intB_or64, intB_xor64, wr_i64, wr_u8, wr_u64, convI_int, unV_not, boolB_eql, boolB_neq, pickV_true, pickV_false, lenSl_slice, ptr_at, fwdP_at, ixArr_at, load1_own, loadA_own, storeN_own, T.get_upd_same, T.get_upd_ne, cellsIn_some, putIn_cells, tl, ts, if_pos, Nat.zero_add, Nat.mul_one, Nat.add_zero, Int.toNat_natCast, ↓reduceIte, Nat.reduceLeDiff, Nat.reduceAdd, Nat.le_refl] <;> rfl) ?_ | refine newP_mk ?_ | refine optP_mk ?_ | with_reducible refine condP_t ?_ | with_reducible refine condP_f ?_ | with_reducible refine ifP_tt' ?_ | with_reducible refine ifP_ff' ?_ | with_reducible refine ifP_tf' ?_ | with_reducible refine ifP_ft' ?_ | with_reducible refine ifP_u' ?_ | refine optP_mk0 ?_)
  rw [decide_eq_false (show ¬ (4096 : Int) < (n : Int) by omega)]
  repeat (first | refine bindP_mk (by simp (disch := first | omega | exact Int.natCast_nonneg _ | assumption) only [decide_true, decide_false, Bool.not_true, Bool.not_false, newP_eq, optP_some, optP_none, bindP_some', condP_true, condP_false, ifP_tt, ifP_ff, ifP_tf, ifP_ft, exP_normal, exP_exit, exP_ret, beqP_true, beqP_false, Option.bind_some, Value.cells_agg, cells_int, cells_bool, intB_add, intB_sub, intB_mul, intB_quo, intB_rem, intB_eql, intB_neq, intB_lss, intB_leq, intB_gtr, intB_geq, intB_shr_u64, intB_shl1_u64, intB_and64, intB_or64, intB_xor64, wr_i64, wr_u8, wr_u64, convI_int, unV_not, boolB_eql, boolB_neq, pickV_true, pickV_false, lenSl_slice, ptr_at, fwdP_at, ixArr_at, load1_own, loadA_own, storeN_own, T.get_upd_same, T.get_upd_ne, cellsIn_some, putIn_cells, tl, ts, if_pos, Nat.zero_add, Nat.mul_one, Nat.add_zero, Int.toNat_natCast, ↓reduceIte, Nat.reduceLeDiff, Nat.reduceAdd, Nat.le_refl] <;> rfl) ?_ | refine newP_mk ?_ | refine optP_mk ?_ | with_reducible refine condP_t ?_ | with_reducible refine condP_f ?_ | with_reducible refine ifP_tt' ?_ | with_reducible refine ifP_ff' ?_ | with_reducible refine ifP_tf' ?_ | with_reducible refine ifP_ft' ?_ | with_reducible refine ifP_u' ?_ | refine optP_mk0 ?_)
  refine bindP_mk (make_i64 h1 (by omega)) (optP_mk ?_)
  refine bindP_mk (buildV_ring _ _) (newP_mk ?_)
  refine ⟨_, Sub.refl _, hK _ (nx + 6 + 1 + 2) _ _ (by omega) (by omega) (by omega) (((Sub.refl h).new hf (by omega)).new hf (by omega)) ((hf.upd (m := nx + 6 + 1 + 7) (by omega) (by omega)).upd (Nat.le_refl _) (by omega)) ?_⟩
  exact ⟨List.replicate n 0, 0, 0, by rw [T.get_upd_same]; rfl, by rw [T.get_upd_ne _ _ (by omega), T.get_upd_same], by omega, List.length_replicate, h1, h2, by omega, Nat.le_refl _, by omega, fun i hi => (by cases hi), List.Pairwise.nil, fun x hx => (by cases hx)⟩
def bytesC (l : List Nat) : List (List Value) := l.map fun b : Nat => [Value.int .u8 (b : Int)]
theorem bytesC_len (l : List Nat) : (bytesC l).length = l.length := by simp [bytesC]
theorem bytesC_get {l : List Nat} {i : Nat} (hi : i < l.length) : (bytesC l)[i]? = some [.int .u8 (l[i] : Nat)] := by simp [bytesC, hi]
theorem min_int (P : Program) (h : T Obj) (ts : Array TypeId) (a b : Int) : builtinQ P h .min ts [.int .i64 a, .int .i64 b] = some (.int .i64 (min a b)) := by
  unfold builtinQ
  have h2 : ∀ c : Int, minV true [.int .i64 c] = some (.int .i64 c) := fun c => by unfold minV; rfl
  show minV true [.int .i64 a, .int .i64 b] = _
  unfold minV
  rw [h2]
  by_cases e : b < a
  · simp only [e, decide_true]; congr 2; omega
  · simp only [e, decide_false]; congr 2; omega
theorem law03_few_c {ro : Ro} {v : Value} {l : List Nat} {h h0 : T Obj} {nx : Nat} {K : KV} (hv : Sl ro h0 v 1 (bytesC l)) (hK : ∀ r nx', Sl ro h0 r 1 (bytesC (l.take 200)) → nx ≤ nx' → K r h nx') : callP Try.prog ro i_law03_few [v] h nx K := by
  apply law03_few_of
  unfold law03_few
  have hu : und Try.prog y_s_uint8 = some (.slice y_uint8) := by kernel_rfl
  have hz : siz Try.prog y_uint8 = some 1 := by kernel_rfl
  have hlen := hv.len
  rw [bytesC_len] at hlen
  refine bindP_mk hlen ?_
  refine bindP_mk (min_int _ _ _ _ _) ?_
  have hm : min ((l.length : Nat) : Int) 200 = ((min l.length 200 : Nat) : Int) := by omega
  rw [hm]
  obtain ⟨r, h1, h2⟩ := hv.take hu hz (by omega) (n := min l.length 200) (by rw [bytesC_len]; omega) .i64
  refine bindP_mk h1 ?_
  refine ⟨h, Sub.refl h, hK _ _ ?_ (by omega)⟩
  have : (bytesC l).take (min l.length 200) = bytesC (l.take 200) := by
    unfold bytesC
    rw [← List.map_take]
    congr 1
    by_cases h20 : l.length ≤ 200
    · rw [List.take_of_length_le (by omega), List.take_of_length_le (by omega)]
    · rw [show min l.length 200 = 200 by omega]
  rw [← this]; exact h2
/-- What an act does. -/
def doL (n : Nat) (L : List Nat) (a : Nat) : List Nat := if a % 8 < 3 then putL L else if a % 8 < 7 then incL n L else []
theorem law03_does_c {ro : Ro} {h : T Obj} {p a n w b nx : Nat} {L : List Nat} {K : KV} (hR : RI h p a n L w) (hw : w + 1 ≤ 1000000) (hK : ∀ h' nx', nx ≤ nx' → RI h' p a n (doL n L b) (w + 1) → Only h h' p a → K (.tuple #[]) h' nx') : callP Try.prog ro i_law03_does [ptr p, .int .u8 (b : Int)] h nx K := by
  apply law03_does_of
  unfold law03_does
  unfold doL at hK
  repeat (first | refine bindP_mk (by simp (disch := first | omega | exact Int.natCast_nonneg _ | assumption) only [decide_true, decide_false, Bool.not_true, Bool.not_false, newP_eq, optP_some, optP_none, bindP_some', condP_true, condP_false, ifP_tt, ifP_ff, ifP_tf, ifP_ft, exP_normal, exP_exit, exP_ret, beqP_true, beqP_false, Option.bind_some, Value.cells_agg, cells_int, cells_bool, intB_add, intB_sub, intB_mul, intB_quo, intB_rem, intB_eql, intB_neq, intB_lss, intB_leq, intB_gtr, intB_geq, intB_shr_u64, intB_shl1_u64, intB_and64, intB_or64, intB_xor64, wr_i64, wr_u8, wr_u64, convI_int, unV_not, boolB_eql, boolB_neq, pickV_true, pickV_false, lenSl_slice, ptr_at, fwdP_at, ixArr_at, load1_own, loadA_own, storeN_own, T.get_upd_same, T.get_upd_ne, cellsIn_some, putIn_cells, tl, ts, if_pos, Nat.zero_add, Nat.mul_one, Nat.add_zero, Int.toNat_natCast, ↓reduceIte, Nat.reduceLeDiff, Nat.reduceAdd, Nat.le_refl] <;> rfl) ?_ | refine newP_mk ?_ | refine optP_mk ?_ | with_reducible refine condP_t ?_ | with_reducible refine condP_f ?_ | with_reducible refine ifP_tt' ?_ | with_reducible refine ifP_ff' ?_ | with_reducible refine ifP_tf' ?_ | with_reducible refine ifP_ft' ?_ | with_reducible refine ifP_u' ?_ | refine optP_mk0 ?_)
  by_cases h1 : b % 8 < 3
  · refine condP_tr (decide_eq_true (by omega)) ?_
    rw [if_pos h1] at hK
    exact ring_Put_c hR hw fun h' n' q1 q2 q3 => ⟨_, Sub.refl _, hK _ _ (by omega) q2 q3⟩
  · refine condP_fa (decide_eq_false (by omega)) ?_
    rw [if_neg h1] at hK
    repeat (first | refine bindP_mk (by simp (disch := first | omega | exact Int.natCast_nonneg _ | assumption) only [decide_true, decide_false, Bool.not_true, Bool.not_false, newP_eq, optP_some, optP_none, bindP_some', condP_true, condP_false, ifP_tt, ifP_ff, ifP_tf, ifP_ft, exP_normal, exP_exit, exP_ret, beqP_true, beqP_false, Option.bind_some, Value.cells_agg, cells_int, cells_bool, intB_add, intB_sub, intB_mul, intB_quo, intB_rem, intB_eql, intB_neq, intB_lss, intB_leq, intB_gtr, intB_geq, intB_shr_u64, intB_shl1_u64, intB_and64, intB_or64, intB_xor64, wr_i64, wr_u8, wr_u64, convI_int, unV_not, boolB_eql, boolB_neq, pickV_true, pickV_false, lenSl_slice, ptr_at, fwdP_at, ixArr_at, load1_own, loadA_own, storeN_own, T.get_upd_same, T.get_upd_ne, cellsIn_some, putIn_cells, tl, ts, if_pos, Nat.zero_add, Nat.mul_one, Nat.add_zero, Int.toNat_natCast, ↓reduceIte, Nat.reduceLeDiff, Nat.reduceAdd, Nat.le_refl] <;> rfl) ?_ | refine newP_mk ?_ | refine optP_mk ?_ | with_reducible refine condP_t ?_ | with_reducible refine condP_f ?_ | with_reducible refine ifP_tt' ?_ | with_reducible refine ifP_ff' ?_ | with_reducible refine ifP_tf' ?_ | with_reducible refine ifP_ft' ?_ | with_reducible refine ifP_u' ?_ | refine optP_mk0 ?_)
    by_cases h2 : b % 8 < 7
    · refine condP_tr (decide_eq_true (by omega)) ?_
      rw [if_pos h2] at hK
      exact ring_Inc_c hR hw fun h' n' q1 q2 q3 => ⟨_, Sub.refl _, hK _ _ (by omega) q2 q3⟩
    · refine condP_fa (decide_eq_false (by omega)) ?_
      rw [if_neg h2] at hK
      exact ring_Clear_c hR hw fun h' n' q1 q2 q3 => ⟨_, Sub.refl _, hK _ _ (by omega) q2 q3⟩
theorem law03_ints_c {ro : Ro} {v1 v2 : Value} {l m : List Nat} (hlen : l.length ≤ 1000000) {h : T Obj} {nx : Nat} {K : KV} (g1 : Sl ro h v1 1 (intsC l)) (g2 : Sl ro h v2 1 (intsC m)) (hK : ∀ nx', nx ≤ nx' → K (.bool (decide (l = m))) h nx') : callP Try.prog ro i_law03_ints [v1, v2] h nx K := by
  apply law03_ints_of
  unfold law03_ints
  have l1 := g1.len
  have l2 := g2.len
  rw [intsC_len] at l1 l2
  refine bindP_mk l1 (bindP_mk l2 ?_)
  repeat (first | refine bindP_mk (by simp (disch := first | omega | exact Int.natCast_nonneg _ | assumption) only [decide_true, decide_false, Bool.not_true, Bool.not_false, newP_eq, optP_some, optP_none, bindP_some', condP_true, condP_false, ifP_tt, ifP_ff, ifP_tf, ifP_ft, exP_normal, exP_exit, exP_ret, beqP_true, beqP_false, Option.bind_some, Value.cells_agg, cells_int, cells_bool, intB_add, intB_sub, intB_mul, intB_quo, intB_rem, intB_eql, intB_neq, intB_lss, intB_leq, intB_gtr, intB_geq, intB_shr_u64, intB_shl1_u64, intB_and64, intB_or64, intB_xor64, wr_i64, wr_u8, wr_u64, convI_int, unV_not, boolB_eql, boolB_neq, pickV_true, pickV_false, lenSl_slice, ptr_at, fwdP_at, ixArr_at, load1_own, loadA_own, storeN_own, T.get_upd_same, T.get_upd_ne, cellsIn_some, putIn_cells, tl, ts, if_pos, Nat.zero_add, Nat.mul_one, Nat.add_zero, Int.toNat_natCast, ↓reduceIte, Nat.reduceLeDiff, Nat.reduceAdd, Nat.le_refl] <;> rfl) ?_ | refine newP_mk ?_ | refine optP_mk ?_ | with_reducible refine condP_t ?_ | with_reducible refine condP_f ?_ | with_reducible refine ifP_tt' ?_ | with_reducible refine ifP_ff' ?_ | with_reducible refine ifP_tf' ?_ | with_reducible refine ifP_ft' ?_ | with_reducible refine ifP_u' ?_ | refine optP_mk0 ?_)
  by_cases hlm : l.length = m.length
  · refine condP_fa (by simp [hlm]) ?_
    refine bindP_mk l1 ?_
    refine loopP_rule (fun j e h' nx' => ∃ k : Nat, k + j = l.length ∧ nx ≤ nx' ∧ e 0 = v1 ∧ e 1 = v2 ∧ e 12 = .int .i64 (l.length : Nat) ∧ e 13 = .int .i64 k ∧ h' = h ∧ l.take k = m.take k) ?_ (n := l.length) ⟨0, by omega, by omega, rfl, rfl, rfl, rfl, rfl, rfl⟩
    rintro j e h' nx' ⟨k, hkj, hnx, e0, e1, e12, e13, rfl, hq⟩ Q' hc hx
    unfold law03_ints_L1
    rw [e0, e1, e12, e13]
    repeat (first | refine bindP_mk (by simp (disch := first | omega | exact Int.natCast_nonneg _ | assumption) only [decide_true, decide_false, Bool.not_true, Bool.not_false, newP_eq, optP_some, optP_none, bindP_some', condP_true, condP_false, ifP_tt, ifP_ff, ifP_tf, ifP_ft, exP_normal, exP_exit, exP_ret, beqP_true, beqP_false, Option.bind_some, Value.cells_agg, cells_int, cells_bool, intB_add, intB_sub, intB_mul, intB_quo, intB_rem, intB_eql, intB_neq, intB_lss, intB_leq, intB_gtr, intB_geq, intB_shr_u64, intB_shl1_u64, intB_and64, intB_or64, intB_xor64, wr_i64, wr_u8, wr_u64, convI_int, unV_not, boolB_eql, boolB_neq, pickV_true, pickV_false, lenSl_slice, ptr_at, fwdP_at, ixArr_at, load1_own, loadA_own, storeN_own, T.get_upd_same, T.get_upd_ne, cellsIn_some, putIn_cells, tl, ts, if_pos, Nat.zero_add, Nat.mul_one, Nat.add_zero, Int.toNat_natCast, ↓reduceIte, Nat.reduceLeDiff, Nat.reduceAdd, Nat.le_refl] <;> rfl) ?_ | refine newP_mk ?_ | refine optP_mk ?_ | with_reducible refine condP_t ?_ | with_reducible refine condP_f ?_ | with_reducible refine ifP_tt' ?_ | with_reducible refine ifP_ff' ?_ | with_reducible refine ifP_tf' ?_ | with_reducible refine ifP_ft' ?_ | with_reducible refine ifP_u' ?_ | refine optP_mk0 ?_)
    by_cases hk : k < l.length
    · refine condP_tr (by simp; omega) ?_
      refine bindP_mk (g1.ix _ (by rw [intsC_len]; exact hk)) ?_
      refine bindP_mk (g1.load1 (intsC_get hk)) ?_
      refine bindP_mk (g2.ix _ (by rw [intsC_len]; omega)) ?_
      refine bindP_mk (g2.load1 (intsC_get (show k < m.length by omega))) ?_
      repeat (first | refine bindP_mk (by simp (disch := first | omega | exact Int.natCast_nonneg _ | assumption) only [decide_true, decide_false, Bool.not_true, Bool.not_false, newP_eq, optP_some, optP_none, bindP_some', condP_true, condP_false, ifP_tt, ifP_ff, ifP_tf, ifP_ft, exP_normal, exP_exit, exP_ret, beqP_true, beqP_false, Option.bind_some, Value.cells_agg, cells_int, cells_bool, intB_add, intB_sub, intB_mul, intB_quo, intB_rem, intB_eql, intB_neq, intB_lss, intB_leq, intB_gtr, intB_geq, intB_shr_u64, intB_shl1_u64, intB_and64, intB_or64, intB_xor64, wr_i64, wr_u8, wr_u64, convI_int, unV_not, boolB_eql, boolB_neq, pickV_true, pickV_false, lenSl_slice, ptr_at, fwdP_at, ixArr_at, load1_own, loadA_own, storeN_own, T.get_upd_same, T.get_upd_ne, cellsIn_some, putIn_cells, tl, ts, if_pos, Nat.zero_add, Nat.mul_one, Nat.add_zero, Int.toNat_natCast, ↓reduceIte, Nat.reduceLeDiff, Nat.reduceAdd, Nat.le_refl] <;> rfl) ?_ | refine newP_mk ?_ | refine optP_mk ?_ | with_reducible refine condP_t ?_ | with_reducible refine condP_f ?_ | with_reducible refine ifP_tt' ?_ | with_reducible refine ifP_ff' ?_ | with_reducible refine ifP_tf' ?_ | with_reducible refine ifP_ft' ?_ | with_reducible refine ifP_u' ?_ | refine optP_mk0 ?_)
      by_cases he : l[k] = m[k]'(by omega)
      · refine condP_fa (by rw [he]; simp) ?_
        repeat (first | refine bindP_mk (by simp (disch := first | omega | exact Int.natCast_nonneg _ | assumption) only [decide_true, decide_false, Bool.not_true, Bool.not_false, newP_eq, optP_some, optP_none, bindP_some', condP_true, condP_false, ifP_tt, ifP_ff, ifP_tf, ifP_ft, exP_normal, exP_exit, exP_ret, beqP_true, beqP_false, Option.bind_some, Value.cells_agg, cells_int, cells_bool, intB_add, intB_sub, intB_mul, intB_quo, intB_rem, intB_eql, intB_neq, intB_lss, intB_leq, intB_gtr, intB_geq, intB_shr_u64, intB_shl1_u64, intB_and64, intB_or64, intB_xor64, wr_i64, wr_u8, wr_u64, convI_int, unV_not, boolB_eql, boolB_neq, pickV_true, pickV_false, lenSl_slice, ptr_at, fwdP_at, ixArr_at, load1_own, loadA_own, storeN_own, T.get_upd_same, T.get_upd_ne, cellsIn_some, putIn_cells, tl, ts, if_pos, Nat.zero_add, Nat.mul_one, Nat.add_zero, Int.toNat_natCast, ↓reduceIte, Nat.reduceLeDiff, Nat.reduceAdd, Nat.le_refl] <;> rfl) ?_ | refine newP_mk ?_ | refine optP_mk ?_ | with_reducible refine condP_t ?_ | with_reducible refine condP_f ?_ | with_reducible refine ifP_tt' ?_ | with_reducible refine ifP_ff' ?_ | with_reducible refine ifP_tf' ?_ | with_reducible refine ifP_ft' ?_ | with_reducible refine ifP_u' ?_ | refine optP_mk0 ?_)
        refine hc (j - 1) _ _ _ _ (by omega) ⟨k + 1, by omega, by omega, e0, e1, e12, rfl, rfl, ?_⟩ (Sub.refl _)
        rw [List.take_succ_eq_append_getElem hk, List.take_succ_eq_append_getElem (show k < m.length by omega), hq, he]
      · refine condP_tr (by simp; omega) ?_
        refine hx _ _ _ _ (fun e => by cases e) (exP_r ?_)
        refine ⟨_, Sub.refl _, ?_⟩
        have : decide (l = m) = false := decide_eq_false fun e => by subst e; exact he rfl
        rw [this] at hK
        exact hK _ (by omega)
    · refine condP_fa (by simp; omega) ?_
      refine hx _ _ _ _ (fun e => by cases e) (exP_e (beqP_t ?_))
      unfold law03_ints_j1
      refine ⟨_, Sub.refl _, ?_⟩
      have : decide (l = m) = true := decide_eq_true (by
        rw [List.take_of_length_le (by omega), List.take_of_length_le (by omega)] at hq
        exact hq)
      rw [this] at hK
      exact hK _ (by omega)
  · refine condP_tr (by simp; omega) ?_
    have : decide (l = m) = false := decide_eq_false fun e => hlm (by rw [e])
    rw [this] at hK
    exact ⟨_, Sub.refl _, hK _ (by omega)⟩
end V
end Go.Proofs.Ytnglppngpioipaa
