/- The law SplitWhole as the machine runs it: the rounds.
   No condition. -/
import Derived.Test.YtnjdhgbepoefiaaCT
set_option linter.unusedVariables false
set_option linter.unusedSimpArgs false
namespace Go.Proofs.Ytnjdhgbepoefiaa
namespace V
open PA
theorem lit_set2 (aid x y : Nat) : sliceLitV Try.prog y_s_api_Set aid 2 [(0, setV x), (1, setV y)] = some (.slice (some (own aid 4)) 2 2, some (.cells (setL x ++ setL y).toArray y_api_Set)) := lit_sets aid x y
theorem lit_set2_sl {ro : Ro} {h : T Obj} {id x y : Nat} (hg : h.get id = some (.cells (setL x ++ setL y).toArray y_api_Set)) : Sl ro h (.slice (some (own id 4)) 2 2) 4 (setsC [x, y]) := Sl.own (l := setsC [x, y]) (e := y_api_Set) (f := (0, 0)) (by rw [hg]; simp [setsC]) (by simp [setsC, setL_len]) (Nat.le_refl _)
/-- The sets of classes so far. -/
def allC (c : List Nat) (k : Nat) : List Nat := (List.range k).map fun (j : Nat) => clsS c (j : Int)
theorem allC_succ (c : List Nat) (k : Nat) : allC c (k + 1) = allC c k ++ [clsS c (k : Int)] := by
  unfold allC
  rw [List.range_succ, List.map_append]; rfl
theorem allC_len (c : List Nat) (k : Nat) : (allC c k).length = k := by simp [allC]
set_option maxRecDepth 4000 in
set_option maxHeartbeats 1000000 in
theorem law02_SplitWhole_c {ro : Ro} {v : Value} {l : List Nat} {h : T Obj} {nx : Nat} {K : KV} (hf : Fr h nx) (hv : Sl ro h v 4 (setsC l)) (hK : ∀ h' nx', nx ≤ nx' → K (.bool true) h' nx') : callP Try.prog ro i_law02_SplitWhole [v] h nx K := by
  apply law02_SplitWhole_of
  unfold law02_SplitWhole
  have ht : (l.take 20).length ≤ 20 := by rw [List.length_take]; omega
  refine law02_shown_c (hf.mono (by omega)) fun n1 hn1 => ?_
  refine law02_few_c (hf.mono (by omega)) hv fun r n2 hr hn2 => ?_
  refine split_Of_c (by omega) (hf.mono (by omega)) hr fun n3 hn3 => ?_
  refine zer_Split_mk (newP_mk ?_)
  refine bindP_mk (storeA_own (l := splitL (List.replicate 256 0) 0) (vs := splitL (cls (l.take 20)) (many (l.take 20))) (e := y_api_Split) (f := (0, 0)) (by rw [T.get_upd_same]; rfl) rfl (splitL_len (cls_length _)) (splitL_len rep_len) (splitL_ok _ _)) ?_
  have hs0 : Sub h ((h.upd n3 (some (.cells (Value.cells (splitV (List.replicate 256 0) 0)) y_api_Split))).upd n3 (some (.cells (splitL (cls (l.take 20)) (many (l.take 20))).toArray y_api_Split))) := ((Sub.refl h).new hf (by omega)).new hf (by omega)
  have g0 : ((h.upd n3 (some (.cells (Value.cells (splitV (List.replicate 256 0) 0)) y_api_Split))).upd n3 (some (.cells (splitL (cls (l.take 20)) (many (l.take 20))).toArray y_api_Split))).get n3 = some (.cells (splitLI (cls (l.take 20)) (many (l.take 20) : Int)).toArray y_api_Split) := T.get_upd_same _ _ _
  have hf0 : Fr ((h.upd n3 (some (.cells (Value.cells (splitV (List.replicate 256 0) 0)) y_api_Split))).upd n3 (some (.cells (splitL (cls (l.take 20)) (many (l.take 20))).toArray y_api_Split))) (n3 + 1) := ((hf.mono (by omega)).upd (n := nx) (m := n3 + 1) (by omega) (by omega)).upd (Nat.le_refl _) (by omega)
  generalize ((h.upd n3 (some (.cells (Value.cells (splitV (List.replicate 256 0) 0)) y_api_Split))).upd n3 (some (.cells (splitL (cls (l.take 20)) (many (l.take 20))).toArray y_api_Split))) = h0 at g0 hf0 hs0
  have hv0 := hv.sub hs0
  generalize hx9 : l.take 20 = x at ht g0
  have hc := cls_length x
  have hcl := cls_bound (l := x)
  have hmp := many_pos x
  have hml := many_le x
  have hgm := splitLI_many (n := (many x : Int)) hc
  repeat (first | refine bindP_mk (by simp (disch := first | omega | exact Int.natCast_nonneg _ | assumption) only [newP_eq, optP_some, optP_none, bindP_some', condP_true, condP_false, ifP_tt, ifP_ff, ifP_tf, ifP_ft, exP_normal, exP_exit, exP_ret, beqP_true, beqP_false, Option.bind_some, Value.cells_agg, cells_int, cells_bool, intB_add, intB_sub, intB_mul, intB_quo, intB_rem, intB_eql, intB_neq, intB_lss, intB_leq, intB_gtr, intB_geq, intB_shr_u64, intB_shl1_u64, intB_and64, intB_or64, intB_xor64, wr_i64, wr_u8, wr_u64, convI_int, unV_not, boolB_eql, boolB_neq, pickV_true, pickV_false, lenSl_slice, ptr_at, fwdP_at, ixArr_at, load1_own, loadA_own, storeN_own, T.get_upd_same, T.get_upd_ne, cellsIn_some, putIn_cells, tl, ts, if_pos, Nat.zero_add, Nat.mul_one, Nat.add_zero, Int.toNat_natCast, ↓reduceIte, Nat.reduceLeDiff, Nat.reduceAdd, Nat.le_refl, g0, hgm] <;> rfl) ?_ | refine newP_mk ?_ | refine optP_mk ?_ | refine condP_t ?_ | refine condP_f ?_ | refine ifP_tt' ?_ | refine ifP_ff' ?_ | refine ifP_tf' ?_ | refine ifP_ft' ?_ | refine optP_mk0 ?_)
  refine loopP_rule (fun j e h' nx' => ∃ (k : Nat) (av : Value), k + j = many x ∧ n3 + 7 ≤ nx' ∧ e 0 = v ∧ e 3 = .bool true ∧ e 4 = ptr n3 ∧ e 5 = av ∧ e 6 = .int .i64 (sumTo (cls x) 256 k : Nat) ∧ e 18 = .int .i64 (many x : Nat) ∧ e 19 = .int .i64 k ∧ Sub h0 h' ∧ Fr h' nx' ∧
    Own h' av 4 y_api_Set (setsC (allC (cls x) k)) (n3 + 1) nx') ?_ (n := many x)
    ⟨0, _, by omega, by omega, rfl, rfl, rfl, rfl, rfl, rfl, rfl, Sub.refl _, hf0.mono (by omega), Own.nil⟩
  rintro j e h' nx' ⟨k, av, hkj, hnx, e0, e3, e4, e5, e6, e18, e19, hs, hf', ho⟩ Q' hq hx
  have hsle := sumTo_le x k
  unfold law02_SplitWhole_L1
  rw [e0, e4, e5, e6, e18, e19]
  repeat (first | refine bindP_mk (by simp (disch := first | omega | exact Int.natCast_nonneg _ | assumption) only [newP_eq, optP_some, optP_none, bindP_some', condP_true, condP_false, ifP_tt, ifP_ff, ifP_tf, ifP_ft, exP_normal, exP_exit, exP_ret, beqP_true, beqP_false, Option.bind_some, Value.cells_agg, cells_int, cells_bool, intB_add, intB_sub, intB_mul, intB_quo, intB_rem, intB_eql, intB_neq, intB_lss, intB_leq, intB_gtr, intB_geq, intB_shr_u64, intB_shl1_u64, intB_and64, intB_or64, intB_xor64, wr_i64, wr_u8, wr_u64, convI_int, unV_not, boolB_eql, boolB_neq, pickV_true, pickV_false, lenSl_slice, ptr_at, fwdP_at, ixArr_at, load1_own, loadA_own, storeN_own, T.get_upd_same, T.get_upd_ne, cellsIn_some, putIn_cells, tl, ts, if_pos, Nat.zero_add, Nat.mul_one, Nat.add_zero, Int.toNat_natCast, ↓reduceIte, Nat.reduceLeDiff, Nat.reduceAdd, Nat.le_refl] <;> rfl) ?_ | refine newP_mk ?_ | refine optP_mk ?_ | refine condP_t ?_ | refine condP_f ?_ | refine ifP_tt' ?_ | refine ifP_ff' ?_ | refine ifP_tf' ?_ | refine ifP_ft' ?_ | refine optP_mk0 ?_)
  by_cases hk : k < many x
  · refine condP_tr (by simp; omega) ?_
    have gA := hs _ _ g0
    refine bindP_mk (loadA_all gA (splitLI_len hc)) ?_
    refine split_Set_c hc hcl (hf'.mono (by omega)) fun n4 hn4 => ?_
    refine zer_Set_mk (newP_mk ?_)
    refine bindP_mk (storeA_own (l := setL 0) (vs := setL (clsS (cls x) (k : Int))) (e := y_api_Set) (f := (0, 0)) (by rw [T.get_upd_same]; rfl) rfl rfl rfl rfl) ?_
    have hs1 : Sub h' ((h'.upd n4 (some (.cells (Value.cells (setV 0)) y_api_Set))).upd n4 (some (.cells (setL (clsS (cls x) (k : Int))).toArray y_api_Set))) := ((Sub.refl h').new hf' (by omega)).new hf' (by omega)
    have g1 : ((h'.upd n4 (some (.cells (Value.cells (setV 0)) y_api_Set))).upd n4 (some (.cells (setL (clsS (cls x) (k : Int))).toArray y_api_Set))).get n4 = some (.cells (setL (clsS (cls x) (k : Int))).toArray y_api_Set) := T.get_upd_same _ _ _
    have hf1 : Fr ((h'.upd n4 (some (.cells (Value.cells (setV 0)) y_api_Set))).upd n4 (some (.cells (setL (clsS (cls x) (k : Int))).toArray y_api_Set))) (n4 + 4) := ((hf'.mono (by omega)).upd (Nat.le_refl _) (by omega)).upd (Nat.le_refl _) (by omega)
    generalize ((h'.upd n4 (some (.cells (Value.cells (setV 0)) y_api_Set))).upd n4 (some (.cells (setL (clsS (cls x) (k : Int))).toArray y_api_Set))) = h1 at hs1 g1 hf1
    refine bindP_mk (loadA_all g1 rfl) ?_
    refine ref01_List_c hf1 fun lr h2 n5 hn5 hs2 hf2 hlr => ?_
    rw [listS_cls] at hlr
    have hll := (hlr.sl (ro := ro)).len
    rw [bytesC_len] at hll
    refine bindP_mk hll ?_
    have hmpos := mem_pos hk
    have hmlen := mem_len (cls x) (k : Int) 256
    have hsum := sumTo_succ (cls x) 256 k
    generalize hn9 : (mem (cls x) (k : Int) 256).length = n9 at hmpos hmlen hsum hll
    have g2 := hs2 _ _ g1
    repeat (first | refine bindP_mk (by simp (disch := first | omega | exact Int.natCast_nonneg _ | assumption) only [newP_eq, optP_some, optP_none, bindP_some', condP_true, condP_false, ifP_tt, ifP_ff, ifP_tf, ifP_ft, exP_normal, exP_exit, exP_ret, beqP_true, beqP_false, Option.bind_some, Value.cells_agg, cells_int, cells_bool, intB_add, intB_sub, intB_mul, intB_quo, intB_rem, intB_eql, intB_neq, intB_lss, intB_leq, intB_gtr, intB_geq, intB_shr_u64, intB_shl1_u64, intB_and64, intB_or64, intB_xor64, wr_i64, wr_u8, wr_u64, convI_int, unV_not, boolB_eql, boolB_neq, pickV_true, pickV_false, lenSl_slice, ptr_at, fwdP_at, ixArr_at, load1_own, loadA_own, storeN_own, T.get_upd_same, T.get_upd_ne, cellsIn_some, putIn_cells, tl, ts, if_pos, Nat.zero_add, Nat.mul_one, Nat.add_zero, Int.toNat_natCast, ↓reduceIte, Nat.reduceLeDiff, Nat.reduceAdd, Nat.le_refl] <;> rfl) ?_ | refine newP_mk ?_ | refine optP_mk ?_ | refine condP_t ?_ | refine condP_f ?_ | refine ifP_tt' ?_ | refine ifP_ff' ?_ | refine ifP_tf' ?_ | refine ifP_ft' ?_ | refine optP_mk0 ?_)
    have d1 : decide ((n9 : Int) = 0) = false := decide_eq_false (by omega)
    rw [d1]
    repeat (first | refine bindP_mk (by simp (disch := first | omega | exact Int.natCast_nonneg _ | assumption) only [newP_eq, optP_some, optP_none, bindP_some', condP_true, condP_false, ifP_tt, ifP_ff, ifP_tf, ifP_ft, exP_normal, exP_exit, exP_ret, beqP_true, beqP_false, Option.bind_some, Value.cells_agg, cells_int, cells_bool, intB_add, intB_sub, intB_mul, intB_quo, intB_rem, intB_eql, intB_neq, intB_lss, intB_leq, intB_gtr, intB_geq, intB_shr_u64, intB_shl1_u64, intB_and64, intB_or64, intB_xor64, wr_i64, wr_u8, wr_u64, convI_int, unV_not, boolB_eql, boolB_neq, pickV_true, pickV_false, lenSl_slice, ptr_at, fwdP_at, ixArr_at, load1_own, loadA_own, storeN_own, T.get_upd_same, T.get_upd_ne, cellsIn_some, putIn_cells, tl, ts, if_pos, Nat.zero_add, Nat.mul_one, Nat.add_zero, Int.toNat_natCast, ↓reduceIte, Nat.reduceLeDiff, Nat.reduceAdd, Nat.le_refl] <;> rfl) ?_ | refine newP_mk ?_ | refine optP_mk ?_ | refine condP_t ?_ | refine condP_f ?_ | refine ifP_tt' ?_ | refine ifP_ff' ?_ | refine ifP_tf' ?_ | refine ifP_ft' ?_ | refine optP_mk0 ?_)
    have d2 : decide ((256 : Int) < (k : Int)) = false := decide_eq_false (by omega)
    rw [d2]
    repeat (first | refine bindP_mk (by simp (disch := first | omega | exact Int.natCast_nonneg _ | assumption) only [newP_eq, optP_some, optP_none, bindP_some', condP_true, condP_false, ifP_tt, ifP_ff, ifP_tf, ifP_ft, exP_normal, exP_exit, exP_ret, beqP_true, beqP_false, Option.bind_some, Value.cells_agg, cells_int, cells_bool, intB_add, intB_sub, intB_mul, intB_quo, intB_rem, intB_eql, intB_neq, intB_lss, intB_leq, intB_gtr, intB_geq, intB_shr_u64, intB_shl1_u64, intB_and64, intB_or64, intB_xor64, wr_i64, wr_u8, wr_u64, convI_int, unV_not, boolB_eql, boolB_neq, pickV_true, pickV_false, lenSl_slice, ptr_at, fwdP_at, ixArr_at, load1_own, loadA_own, storeN_own, T.get_upd_same, T.get_upd_ne, cellsIn_some, putIn_cells, tl, ts, if_pos, Nat.zero_add, Nat.mul_one, Nat.add_zero, Int.toNat_natCast, ↓reduceIte, Nat.reduceLeDiff, Nat.reduceAdd, Nat.le_refl] <;> rfl) ?_ | refine newP_mk ?_ | refine optP_mk ?_ | refine condP_t ?_ | refine condP_f ?_ | refine ifP_tt' ?_ | refine ifP_ff' ?_ | refine ifP_tf' ?_ | refine ifP_ft' ?_ | refine optP_mk0 ?_)
    refine bindP_mk (loadA_all g2 rfl) ?_
    refine bindP_mk (lit_set1 _ _) (optP_mk ?_)
    have ho1 : Own h2 av 4 y_api_Set (setsC (allC (cls x) k)) (n3 + 1) nx' := ho.keep (Nat.le_refl _) fun id _ _ o hg => hs2 _ _ (hs1 _ _ hg)
    have ho2 := ho1.keep (h' := h2.upd (n5 + 6 + 1 + 7) (some (.cells (setL (clsS (cls x) (k : Int))).toArray y_api_Set))) (hi' := nx') (Nat.le_refl _) fun id _ _ o hg => by rw [T.get_upd_ne _ _ (by omega)]; exact hg
    obtain ⟨h3, r3, q1, q2, q3, q4⟩ := append_sets (nx := n5 + 6 + 1 + 9) ho2 (lit_set1_sl (T.get_upd_same _ _ _)) (by simp) (by rw [allC_len]; simp; omega) (by omega) (by omega)
    refine bindP_mk q1 ?_
    dsimp only
    rw [← allC_succ] at q2
    have hs3 : Sub h0 h3 := fun b o hb => by
      have hbn : b < n3 + 1 := by
        rcases Nat.lt_or_ge b (n3 + 1) with h9 | h9
        · exact h9
        · rw [hf0 b h9] at hb; cases hb
      rw [q3 b (.inl (by omega)) (by omega), T.get_upd_ne _ _ (by omega)]
      exact hs2 _ _ (hs1 _ _ (hs _ _ hb))
    have hf3 : Fr h3 (n5 + 6 + 1 + 9 + 1) := fun b hb => by
      rw [q3 b (.inr (by omega)) (by omega), T.get_upd_ne _ _ (by omega)]
      exact hf2 b (by omega)
    have g3 : h3.get n4 = some (.cells (setL (clsS (cls x) (k : Int))).toArray y_api_Set) := by
      rw [q3 n4 (.inr (by omega)) (by omega), T.get_upd_ne _ _ (by omega)]
      exact g2
    refine law02_few_c (hf3.mono (by omega)) (hv0.sub hs3) fun r4 n6 hr4 hn6 => ?_
    rw [hx9] at hr4
    have hlx := hr4.len
    rw [setsC_len] at hlx
    refine bindP_mk hlx ?_
    have hj2 : ∀ (e4 : Env) (h4 : T Obj) (n8 : Nat), n6 ≤ n8 → e4 0 = v → e4 3 = .bool true → e4 4 = ptr n3 → e4 5 = r3 → e4 6 = .int .i64 ((sumTo (cls x) 256 k : Nat) + (n9 : Nat) : Int) → e4 18 = .int .i64 (many x : Nat) → e4 19 = .int .i64 k → Sub h3 h4 → Fr h4 n8 → law02_SplitWhole_j2 ro Q' e4 h4 n8 := by
      intro e4 h4 n8 hn8 f0 f3 f4 f5 f6 f18 f19 hs4 hf4
      unfold law02_SplitWhole_j2
      rw [f19]
      repeat (first | refine bindP_mk (by simp (disch := first | omega | exact Int.natCast_nonneg _ | assumption) only [newP_eq, optP_some, optP_none, bindP_some', condP_true, condP_false, ifP_tt, ifP_ff, ifP_tf, ifP_ft, exP_normal, exP_exit, exP_ret, beqP_true, beqP_false, Option.bind_some, Value.cells_agg, cells_int, cells_bool, intB_add, intB_sub, intB_mul, intB_quo, intB_rem, intB_eql, intB_neq, intB_lss, intB_leq, intB_gtr, intB_geq, intB_shr_u64, intB_shl1_u64, intB_and64, intB_or64, intB_xor64, wr_i64, wr_u8, wr_u64, convI_int, unV_not, boolB_eql, boolB_neq, pickV_true, pickV_false, lenSl_slice, ptr_at, fwdP_at, ixArr_at, load1_own, loadA_own, storeN_own, T.get_upd_same, T.get_upd_ne, cellsIn_some, putIn_cells, tl, ts, if_pos, Nat.zero_add, Nat.mul_one, Nat.add_zero, Int.toNat_natCast, ↓reduceIte, Nat.reduceLeDiff, Nat.reduceAdd, Nat.le_refl] <;> rfl) ?_ | refine newP_mk ?_ | refine optP_mk ?_ | refine condP_t ?_ | refine condP_f ?_ | refine ifP_tt' ?_ | refine ifP_ff' ?_ | refine ifP_tf' ?_ | refine ifP_ft' ?_ | refine optP_mk0 ?_)
      refine hq (j - 1) _ _ _ _ (by omega) ⟨k + 1, r3, by omega, by omega, f0, f3, f4, f5, ?_, f18, rfl, hs3.trans hs4, hf4.mono (by omega), q2.keep (by omega) fun _ _ _ o hg => hs4 _ _ hg⟩ (Sub.refl _)
      show e4 6 = _
      rw [f6, hsum]; rfl
    refine loopP_rule (fun m e4 h4 n8 => ∃ (i : Nat), i + m = x.length ∧ n6 + 2 ≤ n8 ∧ e4 0 = v ∧ e4 3 = .bool true ∧ e4 4 = ptr n3 ∧ e4 5 = r3 ∧ e4 6 = .int .i64 ((sumTo (cls x) 256 k : Nat) + (n9 : Nat) : Int) ∧ e4 8 = ptr n4 ∧ e4 9 = .int .i64 n9 ∧ e4 18 = .int .i64 (many x : Nat) ∧ e4 19 = .int .i64 k ∧ e4 42 = r4 ∧ e4 43 = .int .i64 (x.length : Nat) ∧ e4 44 = .int .i64 i ∧ Sub h3 h4 ∧ Fr h4 n8) ?_ (n := x.length)
      ⟨0, by omega, by omega, e0, e3, e4, rfl, rfl, rfl, rfl, e18, e19, rfl, rfl, rfl, Sub.refl _, hf3.mono (by omega)⟩
    rintro m e4' h4 n8 ⟨i, him, hn8, f0, f3, f4, f5, f6, f8, f9, f18, f19, f42, f43, f44, hs4, hf4⟩ Q2 hq2 hx2
    unfold law02_SplitWhole_L2
    rw [f8, f9, f42, f43, f44]
    repeat (first | refine bindP_mk (by simp (disch := first | omega | exact Int.natCast_nonneg _ | assumption) only [newP_eq, optP_some, optP_none, bindP_some', condP_true, condP_false, ifP_tt, ifP_ff, ifP_tf, ifP_ft, exP_normal, exP_exit, exP_ret, beqP_true, beqP_false, Option.bind_some, Value.cells_agg, cells_int, cells_bool, intB_add, intB_sub, intB_mul, intB_quo, intB_rem, intB_eql, intB_neq, intB_lss, intB_leq, intB_gtr, intB_geq, intB_shr_u64, intB_shl1_u64, intB_and64, intB_or64, intB_xor64, wr_i64, wr_u8, wr_u64, convI_int, unV_not, boolB_eql, boolB_neq, pickV_true, pickV_false, lenSl_slice, ptr_at, fwdP_at, ixArr_at, load1_own, loadA_own, storeN_own, T.get_upd_same, T.get_upd_ne, cellsIn_some, putIn_cells, tl, ts, if_pos, Nat.zero_add, Nat.mul_one, Nat.add_zero, Int.toNat_natCast, ↓reduceIte, Nat.reduceLeDiff, Nat.reduceAdd, Nat.le_refl] <;> rfl) ?_ | refine newP_mk ?_ | refine optP_mk ?_ | refine condP_t ?_ | refine condP_f ?_ | refine ifP_tt' ?_ | refine ifP_ff' ?_ | refine ifP_tf' ?_ | refine ifP_ft' ?_ | refine optP_mk0 ?_)
    by_cases hi : i < x.length
    · refine condP_tr (by simp; omega) ?_
      refine bindP_mk ((hr4.sub hs4).ix _ (by rw [setsC_len]; exact hi)) ?_
      refine bindP_mk ((hr4.sub hs4).loadA (setsC_get hi)) ?_
      refine zer_Set_mk (newP_mk ?_)
      refine bindP_mk (storeA_own (l := setL 0) (vs := setL x[i]) (e := y_api_Set) (f := (0, 0)) (by rw [T.get_upd_same]; rfl) rfl rfl rfl rfl) ?_
      have hs5 : Sub h4 ((h4.upd (n8 + 3) (some (.cells (Value.cells (setV 0)) y_api_Set))).upd (n8 + 3) (some (.cells (setL x[i]).toArray y_api_Set))) := ((Sub.refl h4).new hf4 (by omega)).new hf4 (by omega)
      have g5 : ((h4.upd (n8 + 3) (some (.cells (Value.cells (setV 0)) y_api_Set))).upd (n8 + 3) (some (.cells (setL x[i]).toArray y_api_Set))).get (n8 + 3) = some (.cells (setL x[i]).toArray y_api_Set) := T.get_upd_same _ _ _
      have hf5 : Fr ((h4.upd (n8 + 3) (some (.cells (Value.cells (setV 0)) y_api_Set))).upd (n8 + 3) (some (.cells (setL x[i]).toArray y_api_Set))) (n8 + 4) := (hf4.upd (m := n8 + 4) (by omega) (by omega)).upd (Nat.le_refl _) (by omega)
      generalize ((h4.upd (n8 + 3) (some (.cells (Value.cells (setV 0)) y_api_Set))).upd (n8 + 3) (some (.cells (setL x[i]).toArray y_api_Set))) = h5 at hs5 g5 hf5
      refine bindP_mk (loadA_all g5 rfl) ?_
      refine bindP_mk (loadA_all (hs5 _ _ (hs4 _ _ g3)) rfl) ?_
      refine bindP_mk (lit_set2 _ _ _) (optP_mk ?_)
      have hs6 : Sub h3 (h5.upd (n8 + 7) (some (.cells (setL x[i] ++ setL (clsS (cls x) (k : Int))).toArray y_api_Set))) := (hs4.trans hs5).new hf3 (by omega)
      have g6 : (h5.upd (n8 + 7) (some (.cells (setL x[i] ++ setL (clsS (cls x) (k : Int))).toArray y_api_Set))).get (n8 + 7) = some (.cells (setL x[i] ++ setL (clsS (cls x) (k : Int))).toArray y_api_Set) := T.get_upd_same _ _ _
      have hf6 : Fr (h5.upd (n8 + 7) (some (.cells (setL x[i] ++ setL (clsS (cls x) (k : Int))).toArray y_api_Set))) (n8 + 8) := hf5.upd (by omega) (by omega)
      have hs46 : Sub h4 (h5.upd (n8 + 7) (some (.cells (setL x[i] ++ setL (clsS (cls x) (k : Int))).toArray y_api_Set))) := hs5.new hf4 (by omega)
      generalize (h5.upd (n8 + 7) (some (.cells (setL x[i] ++ setL (clsS (cls x) (k : Int))).toArray y_api_Set))) = h6 at hs6 g6 hf6 hs46
      refine ref01_And_c (l := [x[i], clsS (cls x) (k : Int)]) (by simp) (hf6.mono (by omega)) (lit_set2_sl g6) fun n10 hn10 => ?_
      refine ref01_List_c (hf6.mono (by omega)) fun ls h7 n11 hn11 hs7 hf7 hls => ?_
      have hlz := (hls.sl (ro := ro)).len
      rw [bytesC_len] at hlz
      refine bindP_mk hlz ?_
      have hw := whole hi hk
      rw [hn9] at hw
      generalize (listS (andS [x[i], clsS (cls x) (k : Int)])).length = z at hw hlz
      have hnext : ∀ (e5 : Env) (n12 : Nat), n11 ≤ n12 → e5 0 = v → e5 3 = .bool true → e5 4 = ptr n3 → e5 5 = r3 → e5 6 = .int .i64 ((sumTo (cls x) 256 k : Nat) + (n9 : Nat) : Int) → e5 8 = ptr n4 → e5 9 = .int .i64 n9 → e5 18 = .int .i64 (many x : Nat) → e5 19 = .int .i64 k → e5 42 = r4 → e5 43 = .int .i64 (x.length : Nat) → e5 44 = .int .i64 ((i : Nat) + 1 : Int) → Q2 .normal e5 h7 n12 := fun e5 n12 hn12 a0 a3 a4 a5 a6 a8 a9 a18 a19 a42 a43 a44 =>
        hq2 (m - 1) _ _ _ _ (by omega) ⟨i + 1, by omega, by omega, a0, a3, a4, a5, a6, a8, a9, a18, a19, a42, a43, a44, hs6.trans hs7, hf7.mono (by omega)⟩ (Sub.refl _)
      rcases hw with hw | hw
      · subst hw
        repeat (first | refine bindP_mk (by simp (disch := first | omega | exact Int.natCast_nonneg _ | assumption) only [newP_eq, optP_some, optP_none, bindP_some', condP_true, condP_false, ifP_tt, ifP_ff, ifP_tf, ifP_ft, exP_normal, exP_exit, exP_ret, beqP_true, beqP_false, Option.bind_some, Value.cells_agg, cells_int, cells_bool, intB_add, intB_sub, intB_mul, intB_quo, intB_rem, intB_eql, intB_neq, intB_lss, intB_leq, intB_gtr, intB_geq, intB_shr_u64, intB_shl1_u64, intB_and64, intB_or64, intB_xor64, wr_i64, wr_u8, wr_u64, convI_int, unV_not, boolB_eql, boolB_neq, pickV_true, pickV_false, lenSl_slice, ptr_at, fwdP_at, ixArr_at, load1_own, loadA_own, storeN_own, T.get_upd_same, T.get_upd_ne, cellsIn_some, putIn_cells, tl, ts, if_pos, Nat.zero_add, Nat.mul_one, Nat.add_zero, Int.toNat_natCast, ↓reduceIte, Nat.reduceLeDiff, Nat.reduceAdd, Nat.le_refl] <;> rfl) ?_ | refine newP_mk ?_ | refine optP_mk ?_ | refine condP_t ?_ | refine condP_f ?_ | refine ifP_tt' ?_ | refine ifP_ff' ?_ | refine ifP_tf' ?_ | refine ifP_ft' ?_ | refine optP_mk0 ?_)
        have d4 : decide ((((0 : Nat) : Int) = 0)) = true := by decide
        simp only [d4, Bool.not_true]
        repeat (first | refine bindP_mk (by simp (disch := first | omega | exact Int.natCast_nonneg _ | assumption) only [newP_eq, optP_some, optP_none, bindP_some', condP_true, condP_false, ifP_tt, ifP_ff, ifP_tf, ifP_ft, exP_normal, exP_exit, exP_ret, beqP_true, beqP_false, Option.bind_some, Value.cells_agg, cells_int, cells_bool, intB_add, intB_sub, intB_mul, intB_quo, intB_rem, intB_eql, intB_neq, intB_lss, intB_leq, intB_gtr, intB_geq, intB_shr_u64, intB_shl1_u64, intB_and64, intB_or64, intB_xor64, wr_i64, wr_u8, wr_u64, convI_int, unV_not, boolB_eql, boolB_neq, pickV_true, pickV_false, lenSl_slice, ptr_at, fwdP_at, ixArr_at, load1_own, loadA_own, storeN_own, T.get_upd_same, T.get_upd_ne, cellsIn_some, putIn_cells, tl, ts, if_pos, Nat.zero_add, Nat.mul_one, Nat.add_zero, Int.toNat_natCast, ↓reduceIte, Nat.reduceLeDiff, Nat.reduceAdd, Nat.le_refl] <;> rfl) ?_ | refine newP_mk ?_ | refine optP_mk ?_ | refine condP_t ?_ | refine condP_f ?_ | refine ifP_tt' ?_ | refine ifP_ff' ?_ | refine ifP_tf' ?_ | refine ifP_ft' ?_ | refine optP_mk0 ?_)
        exact hnext _ _ (by omega) f0 f3 f4 f5 f6 f8 f9 f18 f19 f42 f43 rfl
      · subst hw
        repeat (first | refine bindP_mk (by simp (disch := first | omega | exact Int.natCast_nonneg _ | assumption) only [newP_eq, optP_some, optP_none, bindP_some', condP_true, condP_false, ifP_tt, ifP_ff, ifP_tf, ifP_ft, exP_normal, exP_exit, exP_ret, beqP_true, beqP_false, Option.bind_some, Value.cells_agg, cells_int, cells_bool, intB_add, intB_sub, intB_mul, intB_quo, intB_rem, intB_eql, intB_neq, intB_lss, intB_leq, intB_gtr, intB_geq, intB_shr_u64, intB_shl1_u64, intB_and64, intB_or64, intB_xor64, wr_i64, wr_u8, wr_u64, convI_int, unV_not, boolB_eql, boolB_neq, pickV_true, pickV_false, lenSl_slice, ptr_at, fwdP_at, ixArr_at, load1_own, loadA_own, storeN_own, T.get_upd_same, T.get_upd_ne, cellsIn_some, putIn_cells, tl, ts, if_pos, Nat.zero_add, Nat.mul_one, Nat.add_zero, Int.toNat_natCast, ↓reduceIte, Nat.reduceLeDiff, Nat.reduceAdd, Nat.le_refl] <;> rfl) ?_ | refine newP_mk ?_ | refine optP_mk ?_ | refine condP_t ?_ | refine condP_f ?_ | refine ifP_tt' ?_ | refine ifP_ff' ?_ | refine ifP_tf' ?_ | refine ifP_ft' ?_ | refine optP_mk0 ?_)
        have d4 : decide ((z : Int) = 0) = false := decide_eq_false (by omega)
        rw [d4]
        repeat (first | refine bindP_mk (by simp (disch := first | omega | exact Int.natCast_nonneg _ | assumption) only [newP_eq, optP_some, optP_none, bindP_some', condP_true, condP_false, ifP_tt, ifP_ff, ifP_tf, ifP_ft, exP_normal, exP_exit, exP_ret, beqP_true, beqP_false, Option.bind_some, Value.cells_agg, cells_int, cells_bool, intB_add, intB_sub, intB_mul, intB_quo, intB_rem, intB_eql, intB_neq, intB_lss, intB_leq, intB_gtr, intB_geq, intB_shr_u64, intB_shl1_u64, intB_and64, intB_or64, intB_xor64, wr_i64, wr_u8, wr_u64, convI_int, unV_not, boolB_eql, boolB_neq, pickV_true, pickV_false, lenSl_slice, ptr_at, fwdP_at, ixArr_at, load1_own, loadA_own, storeN_own, T.get_upd_same, T.get_upd_ne, cellsIn_some, putIn_cells, tl, ts, if_pos, Nat.zero_add, Nat.mul_one, Nat.add_zero, Int.toNat_natCast, ↓reduceIte, Nat.reduceLeDiff, Nat.reduceAdd, Nat.le_refl] <;> rfl) ?_ | refine newP_mk ?_ | refine optP_mk ?_ | refine condP_t ?_ | refine condP_f ?_ | refine ifP_tt' ?_ | refine ifP_ff' ?_ | refine ifP_tf' ?_ | refine ifP_ft' ?_ | refine optP_mk0 ?_)
        simp only [decide_true, Bool.not_true, Bool.not_false]
        repeat (first | refine bindP_mk (by simp (disch := first | omega | exact Int.natCast_nonneg _ | assumption) only [newP_eq, optP_some, optP_none, bindP_some', condP_true, condP_false, ifP_tt, ifP_ff, ifP_tf, ifP_ft, exP_normal, exP_exit, exP_ret, beqP_true, beqP_false, Option.bind_some, Value.cells_agg, cells_int, cells_bool, intB_add, intB_sub, intB_mul, intB_quo, intB_rem, intB_eql, intB_neq, intB_lss, intB_leq, intB_gtr, intB_geq, intB_shr_u64, intB_shl1_u64, intB_and64, intB_or64, intB_xor64, wr_i64, wr_u8, wr_u64, convI_int, unV_not, boolB_eql, boolB_neq, pickV_true, pickV_false, lenSl_slice, ptr_at, fwdP_at, ixArr_at, load1_own, loadA_own, storeN_own, T.get_upd_same, T.get_upd_ne, cellsIn_some, putIn_cells, tl, ts, if_pos, Nat.zero_add, Nat.mul_one, Nat.add_zero, Int.toNat_natCast, ↓reduceIte, Nat.reduceLeDiff, Nat.reduceAdd, Nat.le_refl] <;> rfl) ?_ | refine newP_mk ?_ | refine optP_mk ?_ | refine condP_t ?_ | refine condP_f ?_ | refine ifP_tt' ?_ | refine ifP_ff' ?_ | refine ifP_tf' ?_ | refine ifP_ft' ?_ | refine optP_mk0 ?_)
        exact hnext _ _ (by omega) f0 f3 f4 f5 f6 f8 f9 f18 f19 f42 f43 rfl
    · refine condP_fa (by simp; omega) ?_
      refine hx2 _ _ _ _ (fun e => by cases e) (exP_e (beqP_t ?_))
      exact hj2 _ _ _ (by omega) f0 f3 f4 f5 f6 f18 f19 hs4 (hf4.mono (by omega))
  · refine condP_fa (by simp; omega) ?_
    refine hx _ _ _ _ (fun e => by cases e) (exP_e (beqP_t ?_))
    have hkk : k = many x := by omega
    subst hkk
    unfold law02_SplitWhole_j1
    have d3 : ∀ w, Env.put e 20 w 3 = .bool true := fun w => e3
    have d5 : ∀ w, Env.put e 20 w 5 = av := fun w => e5
    have d6 : ∀ w, Env.put e 20 w 6 = .int .i64 (sumTo (cls x) 256 (many x) : Nat) := fun w => e6
    simp only [puts, d3, d5, d6]
    rw [sum_all]
    repeat (first | refine bindP_mk (by simp (disch := first | omega | exact Int.natCast_nonneg _ | assumption) only [newP_eq, optP_some, optP_none, bindP_some', condP_true, condP_false, ifP_tt, ifP_ff, ifP_tf, ifP_ft, exP_normal, exP_exit, exP_ret, beqP_true, beqP_false, Option.bind_some, Value.cells_agg, cells_int, cells_bool, intB_add, intB_sub, intB_mul, intB_quo, intB_rem, intB_eql, intB_neq, intB_lss, intB_leq, intB_gtr, intB_geq, intB_shr_u64, intB_shl1_u64, intB_and64, intB_or64, intB_xor64, wr_i64, wr_u8, wr_u64, convI_int, unV_not, boolB_eql, boolB_neq, pickV_true, pickV_false, lenSl_slice, ptr_at, fwdP_at, ixArr_at, load1_own, loadA_own, storeN_own, T.get_upd_same, T.get_upd_ne, cellsIn_some, putIn_cells, tl, ts, if_pos, Nat.zero_add, Nat.mul_one, Nat.add_zero, Int.toNat_natCast, ↓reduceIte, Nat.reduceLeDiff, Nat.reduceAdd, Nat.le_refl] <;> rfl) ?_ | refine newP_mk ?_ | refine optP_mk ?_ | refine condP_t ?_ | refine condP_f ?_ | refine ifP_tt' ?_ | refine ifP_ff' ?_ | refine ifP_tf' ?_ | refine ifP_ft' ?_ | refine optP_mk0 ?_)
    have d7 : decide (((256 : Nat) : Int) = 256) = true := rfl
    rw [d7]
    repeat (first | refine bindP_mk (by simp (disch := first | omega | exact Int.natCast_nonneg _ | assumption) only [newP_eq, optP_some, optP_none, bindP_some', condP_true, condP_false, ifP_tt, ifP_ff, ifP_tf, ifP_ft, exP_normal, exP_exit, exP_ret, beqP_true, beqP_false, Option.bind_some, Value.cells_agg, cells_int, cells_bool, intB_add, intB_sub, intB_mul, intB_quo, intB_rem, intB_eql, intB_neq, intB_lss, intB_leq, intB_gtr, intB_geq, intB_shr_u64, intB_shl1_u64, intB_and64, intB_or64, intB_xor64, wr_i64, wr_u8, wr_u64, convI_int, unV_not, boolB_eql, boolB_neq, pickV_true, pickV_false, lenSl_slice, ptr_at, fwdP_at, ixArr_at, load1_own, loadA_own, storeN_own, T.get_upd_same, T.get_upd_ne, cellsIn_some, putIn_cells, tl, ts, if_pos, Nat.zero_add, Nat.mul_one, Nat.add_zero, Int.toNat_natCast, ↓reduceIte, Nat.reduceLeDiff, Nat.reduceAdd, Nat.le_refl] <;> rfl) ?_ | refine newP_mk ?_ | refine optP_mk ?_ | refine condP_t ?_ | refine condP_f ?_ | refine ifP_tt' ?_ | refine ifP_ff' ?_ | refine ifP_tf' ?_ | refine ifP_ft' ?_ | refine optP_mk0 ?_)
    refine ref01_Or_c (l := allC (cls x) (many x)) (by rw [allC_len]; omega) (hf'.mono (by omega)) ho.sl fun n4 hn4 => ?_
    repeat (first | refine bindP_mk (by simp (disch := first | omega | exact Int.natCast_nonneg _ | assumption) only [newP_eq, optP_some, optP_none, bindP_some', condP_true, condP_false, ifP_tt, ifP_ff, ifP_tf, ifP_ft, exP_normal, exP_exit, exP_ret, beqP_true, beqP_false, Option.bind_some, Value.cells_agg, cells_int, cells_bool, intB_add, intB_sub, intB_mul, intB_quo, intB_rem, intB_eql, intB_neq, intB_lss, intB_leq, intB_gtr, intB_geq, intB_shr_u64, intB_shl1_u64, intB_and64, intB_or64, intB_xor64, wr_i64, wr_u8, wr_u64, convI_int, unV_not, boolB_eql, boolB_neq, pickV_true, pickV_false, lenSl_slice, ptr_at, fwdP_at, ixArr_at, load1_own, loadA_own, storeN_own, T.get_upd_same, T.get_upd_ne, cellsIn_some, putIn_cells, tl, ts, if_pos, Nat.zero_add, Nat.mul_one, Nat.add_zero, Int.toNat_natCast, ↓reduceIte, Nat.reduceLeDiff, Nat.reduceAdd, Nat.le_refl] <;> rfl) ?_ | refine newP_mk ?_ | refine optP_mk ?_ | refine condP_t ?_ | refine condP_f ?_ | refine ifP_tt' ?_ | refine ifP_ff' ?_ | refine ifP_tf' ?_ | refine ifP_ft' ?_ | refine optP_mk0 ?_)
    refine ref01_Range_c (a := 0) (b := 255) (by omega) (by omega) (hf'.mono (by omega)) fun n5 hn5 => ?_
    repeat (first | refine bindP_mk (by simp (disch := first | omega | exact Int.natCast_nonneg _ | assumption) only [newP_eq, optP_some, optP_none, bindP_some', condP_true, condP_false, ifP_tt, ifP_ff, ifP_tf, ifP_ft, exP_normal, exP_exit, exP_ret, beqP_true, beqP_false, Option.bind_some, Value.cells_agg, cells_int, cells_bool, intB_add, intB_sub, intB_mul, intB_quo, intB_rem, intB_eql, intB_neq, intB_lss, intB_leq, intB_gtr, intB_geq, intB_shr_u64, intB_shl1_u64, intB_and64, intB_or64, intB_xor64, wr_i64, wr_u8, wr_u64, convI_int, unV_not, boolB_eql, boolB_neq, pickV_true, pickV_false, lenSl_slice, ptr_at, fwdP_at, ixArr_at, load1_own, loadA_own, storeN_own, T.get_upd_same, T.get_upd_ne, cellsIn_some, putIn_cells, tl, ts, if_pos, Nat.zero_add, Nat.mul_one, Nat.add_zero, Int.toNat_natCast, ↓reduceIte, Nat.reduceLeDiff, Nat.reduceAdd, Nat.le_refl] <;> rfl) ?_ | refine newP_mk ?_ | refine optP_mk ?_ | refine condP_t ?_ | refine condP_f ?_ | refine ifP_tt' ?_ | refine ifP_ff' ?_ | refine ifP_tf' ?_ | refine ifP_ft' ?_ | refine optP_mk0 ?_)
    have hor := or_all x
    have hor2 : orS (allC (cls x) (many x)) = ofBytes 0 (span 0 (255 + 1 - 0)) := hor
    rw [hor2]
    refine bindP_mk plain_Set (bindP_mk (eq_set _) ?_)
    repeat (first | refine bindP_mk (by simp (disch := first | omega | exact Int.natCast_nonneg _ | assumption) only [newP_eq, optP_some, optP_none, bindP_some', condP_true, condP_false, ifP_tt, ifP_ff, ifP_tf, ifP_ft, exP_normal, exP_exit, exP_ret, beqP_true, beqP_false, Option.bind_some, Value.cells_agg, cells_int, cells_bool, intB_add, intB_sub, intB_mul, intB_quo, intB_rem, intB_eql, intB_neq, intB_lss, intB_leq, intB_gtr, intB_geq, intB_shr_u64, intB_shl1_u64, intB_and64, intB_or64, intB_xor64, wr_i64, wr_u8, wr_u64, convI_int, unV_not, boolB_eql, boolB_neq, pickV_true, pickV_false, lenSl_slice, ptr_at, fwdP_at, ixArr_at, load1_own, loadA_own, storeN_own, T.get_upd_same, T.get_upd_ne, cellsIn_some, putIn_cells, tl, ts, if_pos, Nat.zero_add, Nat.mul_one, Nat.add_zero, Int.toNat_natCast, ↓reduceIte, Nat.reduceLeDiff, Nat.reduceAdd, Nat.le_refl] <;> rfl) ?_ | refine newP_mk ?_ | refine optP_mk ?_ | refine condP_t ?_ | refine condP_f ?_ | refine ifP_tt' ?_ | refine ifP_ff' ?_ | refine ifP_tf' ?_ | refine ifP_ft' ?_ | refine optP_mk0 ?_)
    exact ⟨h', Sub.refl _, hK _ _ (by omega)⟩
end V
end Go.Proofs.Ytnjdhgbepoefiaa
