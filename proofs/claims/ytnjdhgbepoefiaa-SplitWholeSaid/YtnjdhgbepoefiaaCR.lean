/- The law SplitCoarse as the machine runs it.
   No condition. -/
import Derived.Test.YtnjdhgbepoefiaaCQ
set_option linter.unusedVariables false
set_option linter.unusedSimpArgs false
namespace Go.Proofs.Ytnjdhgbepoefiaa
namespace V
open PA
theorem sig_snoc_eq {l : List Nat} {i a b : Nat} (hi : i < l.length) : decide (sig (l.take (i + 1)) a = sig (l.take (i + 1)) b) = (decide (sig (l.take i) a = sig (l.take i) b) && (l[i].testBit a == l[i].testBit b)) := by
  rw [sig_take_succ hi, sig_take_succ hi]
  by_cases h1 : sig (l.take i) a = sig (l.take i) b
  · rw [h1, decide_eq_true rfl, Bool.true_and]
    by_cases h2 : l[i].testBit a = l[i].testBit b
    · rw [h2]; simp
    · rw [decide_eq_false (by simpa using h2)]
      exact (beq_eq_false_iff_ne.2 h2).symm
  · rw [decide_eq_false h1, Bool.false_and]
    refine decide_eq_false fun h => h1 ?_
    have hl : (sig (l.take i) a).length = (sig (l.take i) b).length := by simp [sig]
    exact (List.append_inj h hl).1
set_option maxRecDepth 4000 in
set_option maxHeartbeats 1000000 in
theorem law02_SplitCoarse_c {ro : Ro} {v : Value} {l : List Nat} {a b : Nat} (ha : a < 256) (hb : b < 256) {h : T Obj} {nx : Nat} {K : KV} (hf : Fr h nx) (hv : Sl ro h v 4 (setsC l)) (hK : ∀ h' nx', nx ≤ nx' → K (.bool true) h' nx') : callP Try.prog ro i_law02_SplitCoarse [v, .int .u8 a, .int .u8 b] h nx K := by
  apply law02_SplitCoarse_of
  unfold law02_SplitCoarse
  have ht : (l.take 20).length ≤ 20 := by rw [List.length_take]; omega
  refine law02_shown_c (hf.mono (by omega)) fun n1 hn1 => ?_
  refine law02_few_c (hf.mono (by omega)) hv fun r n2 hr hn2 => ?_
  refine split_Of_c (by omega) (hf.mono (by omega)) hr fun n3 hn3 => ?_
  refine zer_Split_mk (newP_mk ?_)
  refine bindP_mk (storeA_own (l := splitL (List.replicate 256 0) 0) (vs := splitL (cls (l.take 20)) (many (l.take 20))) (e := y_api_Split) (f := (0, 0)) (by rw [T.get_upd_same]; rfl) rfl (splitL_len (cls_length _)) (splitL_len rep_len) (splitL_ok _ _)) ?_
  have hs0 : Sub h ((h.upd n3 (some (.cells (Value.cells (splitV (List.replicate 256 0) 0)) y_api_Split))).upd n3 (some (.cells (splitL (cls (l.take 20)) (many (l.take 20))).toArray y_api_Split))) := ((Sub.refl h).new hf (by omega)).new hf (by omega)
  have g0 : ((h.upd n3 (some (.cells (Value.cells (splitV (List.replicate 256 0) 0)) y_api_Split))).upd n3 (some (.cells (splitL (cls (l.take 20)) (many (l.take 20))).toArray y_api_Split))).get n3 = some (.cells (splitLI (cls (l.take 20)) (many (l.take 20) : Int)).toArray y_api_Split) := T.get_upd_same _ _ _
  have hf0 : Fr ((h.upd n3 (some (.cells (Value.cells (splitV (List.replicate 256 0) 0)) y_api_Split))).upd n3 (some (.cells (splitL (cls (l.take 20)) (many (l.take 20))).toArray y_api_Split))) (n3 + 1) := ((hf.mono (by omega)).upd (n := nx) (m := n3 + 1) (by omega) (by omega)).upd (Nat.le_refl _) (by omega)
  generalize ((h.upd n3 (some (.cells (Value.cells (splitV (List.replicate 256 0) 0)) y_api_Split))).upd n3 (some (.cells (splitL (cls (l.take 20)) (many (l.take 20))).toArray y_api_Split))) = h0 at g0 hf0 hs0
  refine law02_few_c (hf0.mono (by omega)) (hv.sub hs0) fun r2 n4 hr2 hn4 => ?_
  generalize l.take 20 = x at hr ht g0 hr2
  have hc := cls_length x
  have hcl := cls_bound (l := x)
  have hmp := many_pos x
  have hml := many_le x
  have hlen2 := hr2.len
  rw [setsC_len] at hlen2
  refine bindP_mk hlen2 ?_
  refine loopP_rule (fun j e h' nx' => ∃ i : Nat, i + j = x.length ∧ n4 ≤ nx' ∧ e 1 = .int .u8 a ∧ e 2 = .int .u8 b ∧ e 7 = .bool true ∧ e 8 = ptr n3 ∧ e 9 = .bool (decide (sig (x.take i) a = sig (x.take i) b)) ∧ e 20 = r2 ∧ e 21 = .int .i64 (x.length : Nat) ∧ e 22 = .int .i64 i ∧ Sub h0 h' ∧ Fr h' nx') ?_ (n := x.length)
    ⟨0, by omega, by omega, rfl, rfl, rfl, rfl, rfl, rfl, rfl, rfl, Sub.refl _, hf0.mono (by omega)⟩
  rintro j e h' nx' ⟨i, hij, hnx, e1, e2, e7, e8, e9, e20, e21, e22, hs, hf'⟩ Q' hq hx
  unfold law02_SplitCoarse_L2
  rw [e20, e21, e22]
  repeat (first | refine bindP_mk (by simp (disch := first | omega | exact Int.natCast_nonneg _ | assumption) only [newP_eq, optP_some, optP_none, bindP_some', condP_true, condP_false, ifP_tt, ifP_ff, ifP_tf, ifP_ft, exP_normal, exP_exit, exP_ret, beqP_true, beqP_false, Option.bind_some, Value.cells_agg, cells_int, cells_bool, intB_add, intB_sub, intB_mul, intB_quo, intB_rem, intB_eql, intB_neq, intB_lss, intB_leq, intB_gtr, intB_geq, intB_shr_u64, intB_shl1_u64, intB_and64, intB_or64, intB_xor64, wr_i64, wr_u8, wr_u64, convI_int, unV_not, boolB_eql, boolB_neq, pickV_true, pickV_false, lenSl_slice, ptr_at, fwdP_at, ixArr_at, load1_own, loadA_own, storeN_own, T.get_upd_same, T.get_upd_ne, cellsIn_some, putIn_cells, tl, ts, if_pos, Nat.zero_add, Nat.mul_one, Nat.add_zero, Int.toNat_natCast, ↓reduceIte, Nat.reduceLeDiff, Nat.reduceAdd, Nat.le_refl] <;> rfl) ?_ | refine newP_mk ?_ | refine optP_mk ?_ | refine condP_t ?_ | refine condP_f ?_ | refine ifP_tt' ?_ | refine ifP_ff' ?_ | refine ifP_tf' ?_ | refine ifP_ft' ?_ | refine optP_mk0 ?_)
  by_cases hi : i < x.length
  · refine condP_tr (by simp; omega) ?_
    refine bindP_mk ((hr2.sub hs).ix _ (by rw [setsC_len]; exact hi)) ?_
    refine bindP_mk ((hr2.sub hs).loadA (setsC_get hi)) ?_
    refine zer_Set_mk (newP_mk ?_)
    refine bindP_mk (storeA_own (l := setL 0) (vs := setL x[i]) (e := y_api_Set) (f := (0, 0)) (by rw [T.get_upd_same]; rfl) rfl rfl rfl rfl) ?_
    have hs1 : Sub h0 ((h'.upd (nx' + 3) (some (.cells (Value.cells (setV 0)) y_api_Set))).upd (nx' + 3) (some (.cells (setL x[i]).toArray y_api_Set))) := (hs.new hf0 (by omega)).new hf0 (by omega)
    have g1 : ((h'.upd (nx' + 3) (some (.cells (Value.cells (setV 0)) y_api_Set))).upd (nx' + 3) (some (.cells (setL x[i]).toArray y_api_Set))).get (nx' + 3) = some (.cells (setL x[i]).toArray y_api_Set) := T.get_upd_same _ _ _
    have hf1 : Fr ((h'.upd (nx' + 3) (some (.cells (Value.cells (setV 0)) y_api_Set))).upd (nx' + 3) (some (.cells (setL x[i]).toArray y_api_Set))) (nx' + 16) := ((hf'.mono (by omega)).upd (Nat.le_refl _) (by omega)).upd (Nat.le_refl _) (by omega)
    generalize ((h'.upd (nx' + 3) (some (.cells (Value.cells (setV 0)) y_api_Set))).upd (nx' + 3) (some (.cells (setL x[i]).toArray y_api_Set))) = h1 at hs1 g1 hf1
    rw [e1, e2, e9]
    have hse := sig_snoc_eq (a := a) (b := b) hi
    have hrest : ∀ (w : Value) (n5 : Nat), nx' ≤ n5 → w = .bool (decide (sig (x.take (i + 1)) a = sig (x.take (i + 1)) b)) → ∀ (e' : Env), e' 1 = .int .u8 a → e' 2 = .int .u8 b → e' 7 = .bool true → e' 8 = ptr n3 → e' 9 = w → e' 20 = r2 → e' 21 = .int .i64 (x.length : Nat) → e' 22 = .int .i64 ((i : Int) + 1) → Fr h1 n5 → Q' .normal e' h1 n5 := by
      intro w n5 hn5 hw e' f1 f2 f7 f8 f9 f20 f21 f22 hf5
      exact hq (j - 1) _ _ _ _ (by omega) ⟨i + 1, by omega, by omega, f1, f2, f7, f8, by rw [f9, hw], f20, f21, f22, hs1, hf5⟩ (Sub.refl _)
    cases hd : decide (sig (x.take i) a = sig (x.take i) b) with
    | false =>
      rw [hd, Bool.false_and] at hse
      repeat (first | refine bindP_mk (by simp (disch := first | omega | exact Int.natCast_nonneg _ | assumption) only [newP_eq, optP_some, optP_none, bindP_some', condP_true, condP_false, ifP_tt, ifP_ff, ifP_tf, ifP_ft, exP_normal, exP_exit, exP_ret, beqP_true, beqP_false, Option.bind_some, Value.cells_agg, cells_int, cells_bool, intB_add, intB_sub, intB_mul, intB_quo, intB_rem, intB_eql, intB_neq, intB_lss, intB_leq, intB_gtr, intB_geq, intB_shr_u64, intB_shl1_u64, intB_and64, intB_or64, intB_xor64, wr_i64, wr_u8, wr_u64, convI_int, unV_not, boolB_eql, boolB_neq, pickV_true, pickV_false, lenSl_slice, ptr_at, fwdP_at, ixArr_at, load1_own, loadA_own, storeN_own, T.get_upd_same, T.get_upd_ne, cellsIn_some, putIn_cells, tl, ts, if_pos, Nat.zero_add, Nat.mul_one, Nat.add_zero, Int.toNat_natCast, ↓reduceIte, Nat.reduceLeDiff, Nat.reduceAdd, Nat.le_refl] <;> rfl) ?_ | refine newP_mk ?_ | refine optP_mk ?_ | refine condP_t ?_ | refine condP_f ?_ | refine ifP_tt' ?_ | refine ifP_ff' ?_ | refine ifP_tf' ?_ | refine ifP_ft' ?_ | refine optP_mk0 ?_)
      exact hrest (.bool false) _ (by omega) (by rw [hse]) _ e1 e2 e7 e8 rfl e20 e21 rfl (hf1.mono (by omega))
    | true =>
      rw [hd, Bool.true_and] at hse
      repeat (first | refine bindP_mk (by simp (disch := first | omega | exact Int.natCast_nonneg _ | assumption) only [newP_eq, optP_some, optP_none, bindP_some', condP_true, condP_false, ifP_tt, ifP_ff, ifP_tf, ifP_ft, exP_normal, exP_exit, exP_ret, beqP_true, beqP_false, Option.bind_some, Value.cells_agg, cells_int, cells_bool, intB_add, intB_sub, intB_mul, intB_quo, intB_rem, intB_eql, intB_neq, intB_lss, intB_leq, intB_gtr, intB_geq, intB_shr_u64, intB_shl1_u64, intB_and64, intB_or64, intB_xor64, wr_i64, wr_u8, wr_u64, convI_int, unV_not, boolB_eql, boolB_neq, pickV_true, pickV_false, lenSl_slice, ptr_at, fwdP_at, ixArr_at, load1_own, loadA_own, storeN_own, T.get_upd_same, T.get_upd_ne, cellsIn_some, putIn_cells, tl, ts, if_pos, Nat.zero_add, Nat.mul_one, Nat.add_zero, Int.toNat_natCast, ↓reduceIte, Nat.reduceLeDiff, Nat.reduceAdd, Nat.le_refl] <;> rfl) ?_ | refine newP_mk ?_ | refine optP_mk ?_ | refine condP_t ?_ | refine condP_f ?_ | refine ifP_tt' ?_ | refine ifP_ff' ?_ | refine ifP_tf' ?_ | refine ifP_ft' ?_ | refine optP_mk0 ?_)
      refine bindP_mk (loadA_all g1 rfl) ?_
      repeat (first | refine bindP_mk (by simp (disch := first | omega | exact Int.natCast_nonneg _ | assumption) only [newP_eq, optP_some, optP_none, bindP_some', condP_true, condP_false, ifP_tt, ifP_ff, ifP_tf, ifP_ft, exP_normal, exP_exit, exP_ret, beqP_true, beqP_false, Option.bind_some, Value.cells_agg, cells_int, cells_bool, intB_add, intB_sub, intB_mul, intB_quo, intB_rem, intB_eql, intB_neq, intB_lss, intB_leq, intB_gtr, intB_geq, intB_shr_u64, intB_shl1_u64, intB_and64, intB_or64, intB_xor64, wr_i64, wr_u8, wr_u64, convI_int, unV_not, boolB_eql, boolB_neq, pickV_true, pickV_false, lenSl_slice, ptr_at, fwdP_at, ixArr_at, load1_own, loadA_own, storeN_own, T.get_upd_same, T.get_upd_ne, cellsIn_some, putIn_cells, tl, ts, if_pos, Nat.zero_add, Nat.mul_one, Nat.add_zero, Int.toNat_natCast, ↓reduceIte, Nat.reduceLeDiff, Nat.reduceAdd, Nat.le_refl] <;> rfl) ?_ | refine newP_mk ?_ | refine optP_mk ?_ | refine condP_t ?_ | refine condP_f ?_ | refine ifP_tt' ?_ | refine ifP_ff' ?_ | refine ifP_tf' ?_ | refine ifP_ft' ?_ | refine optP_mk0 ?_)
      refine ref01_Has_c ha hf1 fun n5 hn5 => ?_
      repeat (first | refine bindP_mk (by simp (disch := first | omega | exact Int.natCast_nonneg _ | assumption) only [newP_eq, optP_some, optP_none, bindP_some', condP_true, condP_false, ifP_tt, ifP_ff, ifP_tf, ifP_ft, exP_normal, exP_exit, exP_ret, beqP_true, beqP_false, Option.bind_some, Value.cells_agg, cells_int, cells_bool, intB_add, intB_sub, intB_mul, intB_quo, intB_rem, intB_eql, intB_neq, intB_lss, intB_leq, intB_gtr, intB_geq, intB_shr_u64, intB_shl1_u64, intB_and64, intB_or64, intB_xor64, wr_i64, wr_u8, wr_u64, convI_int, unV_not, boolB_eql, boolB_neq, pickV_true, pickV_false, lenSl_slice, ptr_at, fwdP_at, ixArr_at, load1_own, loadA_own, storeN_own, T.get_upd_same, T.get_upd_ne, cellsIn_some, putIn_cells, tl, ts, if_pos, Nat.zero_add, Nat.mul_one, Nat.add_zero, Int.toNat_natCast, ↓reduceIte, Nat.reduceLeDiff, Nat.reduceAdd, Nat.le_refl] <;> rfl) ?_ | refine newP_mk ?_ | refine optP_mk ?_ | refine condP_t ?_ | refine condP_f ?_ | refine ifP_tt' ?_ | refine ifP_ff' ?_ | refine ifP_tf' ?_ | refine ifP_ft' ?_ | refine optP_mk0 ?_)
      refine bindP_mk (loadA_all g1 rfl) ⟨fun _ => sameV_own g1 g1, ?_⟩
      repeat (first | refine bindP_mk (by simp (disch := first | omega | exact Int.natCast_nonneg _ | assumption) only [newP_eq, optP_some, optP_none, bindP_some', condP_true, condP_false, ifP_tt, ifP_ff, ifP_tf, ifP_ft, exP_normal, exP_exit, exP_ret, beqP_true, beqP_false, Option.bind_some, Value.cells_agg, cells_int, cells_bool, intB_add, intB_sub, intB_mul, intB_quo, intB_rem, intB_eql, intB_neq, intB_lss, intB_leq, intB_gtr, intB_geq, intB_shr_u64, intB_shl1_u64, intB_and64, intB_or64, intB_xor64, wr_i64, wr_u8, wr_u64, convI_int, unV_not, boolB_eql, boolB_neq, pickV_true, pickV_false, lenSl_slice, ptr_at, fwdP_at, ixArr_at, load1_own, loadA_own, storeN_own, T.get_upd_same, T.get_upd_ne, cellsIn_some, putIn_cells, tl, ts, if_pos, Nat.zero_add, Nat.mul_one, Nat.add_zero, Int.toNat_natCast, ↓reduceIte, Nat.reduceLeDiff, Nat.reduceAdd, Nat.le_refl] <;> rfl) ?_ | refine newP_mk ?_ | refine optP_mk ?_ | refine condP_t ?_ | refine condP_f ?_ | refine ifP_tt' ?_ | refine ifP_ff' ?_ | refine ifP_tf' ?_ | refine ifP_ft' ?_ | refine optP_mk0 ?_)
      refine ref01_Has_c hb (hf1.mono (by omega)) fun n6 hn6 => ?_
      repeat (first | refine bindP_mk (by simp (disch := first | omega | exact Int.natCast_nonneg _ | assumption) only [newP_eq, optP_some, optP_none, bindP_some', condP_true, condP_false, ifP_tt, ifP_ff, ifP_tf, ifP_ft, exP_normal, exP_exit, exP_ret, beqP_true, beqP_false, Option.bind_some, Value.cells_agg, cells_int, cells_bool, intB_add, intB_sub, intB_mul, intB_quo, intB_rem, intB_eql, intB_neq, intB_lss, intB_leq, intB_gtr, intB_geq, intB_shr_u64, intB_shl1_u64, intB_and64, intB_or64, intB_xor64, wr_i64, wr_u8, wr_u64, convI_int, unV_not, boolB_eql, boolB_neq, pickV_true, pickV_false, lenSl_slice, ptr_at, fwdP_at, ixArr_at, load1_own, loadA_own, storeN_own, T.get_upd_same, T.get_upd_ne, cellsIn_some, putIn_cells, tl, ts, if_pos, Nat.zero_add, Nat.mul_one, Nat.add_zero, Int.toNat_natCast, ↓reduceIte, Nat.reduceLeDiff, Nat.reduceAdd, Nat.le_refl] <;> rfl) ?_ | refine newP_mk ?_ | refine optP_mk ?_ | refine condP_t ?_ | refine condP_f ?_ | refine ifP_tt' ?_ | refine ifP_ff' ?_ | refine ifP_tf' ?_ | refine ifP_ft' ?_ | refine optP_mk0 ?_)
      exact hrest (.bool (x[i].testBit a == x[i].testBit b)) _ (by omega) (by rw [hse]) _ e1 e2 e7 e8 rfl e20 e21 rfl (hf1.mono (by omega))
  · refine condP_fa (by simp; omega) ?_
    refine hx _ _ _ _ (fun e => by cases e) (exP_e (beqP_t ?_))
    unfold law02_SplitCoarse_j1
    have hit : x.take i = x := List.take_of_length_le (by omega)
    rw [hit] at e9
    have gA := hs _ _ g0
    have hsl8 : ∀ w, Env.put e 23 w 8 = ptr n3 := fun w => e8
    rw [show puts e [(23, Value.bool (decide ((i : Int) < (x.length : Int))))] 8 = ptr n3 from e8]
    refine bindP_mk (loadA_all gA (splitLI_len hc)) ?_
    refine split_First_c hc hcl (hf'.mono (by omega)) fun fr h2 n5 hn5 hs2 hf2 hfr => ?_
    have gB := hs2 _ _ gA
    rw [firstZ_cls] at hfr
    have hsl := hfr.sl (ro := ro)
    have hFl : (bytesC ((List.range (many x)).map fun k => lb (cls x) k 0)).length = many x := by rw [bytesC_len, List.length_map, List.length_range]
    have hFg : ∀ i, i < many x → (bytesC ((List.range (many x)).map fun k => lb (cls x) k 0))[i]? = some [.int .u8 (lb (cls x) i 0 : Nat)] := fun i hi => by
      rw [bytesC_get (by rw [List.length_map, List.length_range]; exact hi)]
      simp
    have hlen := hsl.len
    rw [hFl] at hlen
    refine bindP_mk hlen ?_
    refine loopP_rule (fun j2 e2' h3 n6 => ∃ k : Nat, k + j2 = many x ∧ n5 ≤ n6 ∧ e2' 1 = .int .u8 a ∧ e2' 2 = .int .u8 b ∧ e2' 7 = .bool true ∧ e2' 8 = ptr n3 ∧ e2' 9 = .bool (decide (sig x a = sig x b)) ∧ e2' 12 = fr ∧ e2' 39 = fr ∧ e2' 40 = .int .i64 (many x : Nat) ∧ e2' 41 = .int .i64 k ∧ h3 = h2) ?_ (n := many x)
      ⟨0, by omega, by omega, e1, e2, e7, e8, e9, rfl, rfl, rfl, rfl, rfl⟩
    rintro j2 e' h3 n6 ⟨k, hkj, hn6, f1, f2, f7, f8, f9, f12, f39, f40, f41, rfl⟩ Q2 hq2 hx2
    unfold law02_SplitCoarse_L1
    rw [f8, f12, f39, f40, f41]
    repeat (first | refine bindP_mk (by simp (disch := first | omega | exact Int.natCast_nonneg _ | assumption) only [newP_eq, optP_some, optP_none, bindP_some', condP_true, condP_false, ifP_tt, ifP_ff, ifP_tf, ifP_ft, exP_normal, exP_exit, exP_ret, beqP_true, beqP_false, Option.bind_some, Value.cells_agg, cells_int, cells_bool, intB_add, intB_sub, intB_mul, intB_quo, intB_rem, intB_eql, intB_neq, intB_lss, intB_leq, intB_gtr, intB_geq, intB_shr_u64, intB_shl1_u64, intB_and64, intB_or64, intB_xor64, wr_i64, wr_u8, wr_u64, convI_int, unV_not, boolB_eql, boolB_neq, pickV_true, pickV_false, lenSl_slice, ptr_at, fwdP_at, ixArr_at, load1_own, loadA_own, storeN_own, T.get_upd_same, T.get_upd_ne, cellsIn_some, putIn_cells, tl, ts, if_pos, Nat.zero_add, Nat.mul_one, Nat.add_zero, Int.toNat_natCast, ↓reduceIte, Nat.reduceLeDiff, Nat.reduceAdd, Nat.le_refl] <;> rfl) ?_ | refine newP_mk ?_ | refine optP_mk ?_ | refine condP_t ?_ | refine condP_f ?_ | refine ifP_tt' ?_ | refine ifP_ff' ?_ | refine ifP_tf' ?_ | refine ifP_ft' ?_ | refine optP_mk0 ?_)
    by_cases hk : k < many x
    · refine condP_tr (by simp; omega) ?_
      obtain ⟨p1, p2, p3⟩ := lb_cls hk
      have hix := hsl.ix .i64 (i := k) (by rw [hFl]; exact hk)
      have hld := hsl.load1 (hFg k hk)
      refine bindP_mk hix (bindP_mk hld ?_)
      have hfl : lb (cls x) k 0 < (cls x).length := by omega
      have hgf := splitLI_get (n := (many x : Int)) hfl
      have hgf2 : (cls x)[lb (cls x) k 0] = k := by
        have h5 := p2
        rw [List.getD_eq_getElem?_getD, List.getElem?_eq_getElem hfl] at h5
        exact h5
      rw [hgf2] at hgf
      repeat (first | refine bindP_mk (by simp (disch := first | omega | exact Int.natCast_nonneg _ | assumption) only [newP_eq, optP_some, optP_none, bindP_some', condP_true, condP_false, ifP_tt, ifP_ff, ifP_tf, ifP_ft, exP_normal, exP_exit, exP_ret, beqP_true, beqP_false, Option.bind_some, Value.cells_agg, cells_int, cells_bool, intB_add, intB_sub, intB_mul, intB_quo, intB_rem, intB_eql, intB_neq, intB_lss, intB_leq, intB_gtr, intB_geq, intB_shr_u64, intB_shl1_u64, intB_and64, intB_or64, intB_xor64, wr_i64, wr_u8, wr_u64, convI_int, unV_not, boolB_eql, boolB_neq, pickV_true, pickV_false, lenSl_slice, ptr_at, fwdP_at, ixArr_at, load1_own, loadA_own, storeN_own, T.get_upd_same, T.get_upd_ne, cellsIn_some, putIn_cells, tl, ts, if_pos, Nat.zero_add, Nat.mul_one, Nat.add_zero, Int.toNat_natCast, ↓reduceIte, Nat.reduceLeDiff, Nat.reduceAdd, Nat.le_refl, gB, hgf, decide_true, Bool.not_true] <;> rfl) ?_ | refine newP_mk ?_ | refine optP_mk ?_ | refine condP_t ?_ | refine condP_f ?_ | refine ifP_tt' ?_ | refine ifP_ff' ?_ | refine ifP_tf' ?_ | refine ifP_ft' ?_ | refine optP_mk0 ?_)
      have hrest2 : ∀ (e2' : Env) (n7 : Nat), n5 ≤ n7 → e2' 1 = .int .u8 a → e2' 2 = .int .u8 b → e2' 7 = .bool true → e2' 8 = ptr n3 → e2' 9 = .bool (decide (sig x a = sig x b)) → e2' 12 = fr → e2' 39 = fr → e2' 40 = .int .i64 (many x : Nat) → e2' 41 = .int .i64 ((k : Int) + 1) → Q2 .normal e2' h3 n7 := by
        intro e2' n7 hn7 f1 f2 f7 f8 f9 f12 f39 f40 f41
        exact hq2 (j2 - 1) _ _ _ _ (by omega) ⟨k + 1, by omega, hn7, f1, f2, f7, f8, f9, f12, f39, f40, f41, rfl⟩ (Sub.refl _)
      by_cases hk0 : 0 < k
      · have e0 : decide ((0 : Int) < (k : Int)) = true := decide_eq_true (by omega)
        rw [e0]
        repeat (first | refine bindP_mk (by simp (disch := first | omega | exact Int.natCast_nonneg _ | assumption) only [newP_eq, optP_some, optP_none, bindP_some', condP_true, condP_false, ifP_tt, ifP_ff, ifP_tf, ifP_ft, exP_normal, exP_exit, exP_ret, beqP_true, beqP_false, Option.bind_some, Value.cells_agg, cells_int, cells_bool, intB_add, intB_sub, intB_mul, intB_quo, intB_rem, intB_eql, intB_neq, intB_lss, intB_leq, intB_gtr, intB_geq, intB_shr_u64, intB_shl1_u64, intB_and64, intB_or64, intB_xor64, wr_i64, wr_u8, wr_u64, convI_int, unV_not, boolB_eql, boolB_neq, pickV_true, pickV_false, lenSl_slice, ptr_at, fwdP_at, ixArr_at, load1_own, loadA_own, storeN_own, T.get_upd_same, T.get_upd_ne, cellsIn_some, putIn_cells, tl, ts, if_pos, Nat.zero_add, Nat.mul_one, Nat.add_zero, Int.toNat_natCast, ↓reduceIte, Nat.reduceLeDiff, Nat.reduceAdd, Nat.le_refl] <;> rfl) ?_ | refine newP_mk ?_ | refine optP_mk ?_ | refine condP_t ?_ | refine condP_f ?_ | refine ifP_tt' ?_ | refine ifP_ff' ?_ | refine ifP_tf' ?_ | refine ifP_ft' ?_ | refine optP_mk0 ?_)
        have hk1 : (k : Int) - 1 = ((k - 1 : Nat) : Int) := by omega
        rw [hk1]
        refine bindP_mk (hsl.ix .i64 (i := k - 1) (by rw [hFl]; omega)) ?_
        repeat (first | refine bindP_mk (by simp (disch := first | omega | exact Int.natCast_nonneg _ | assumption) only [newP_eq, optP_some, optP_none, bindP_some', condP_true, condP_false, ifP_tt, ifP_ff, ifP_tf, ifP_ft, exP_normal, exP_exit, exP_ret, beqP_true, beqP_false, Option.bind_some, Value.cells_agg, cells_int, cells_bool, intB_add, intB_sub, intB_mul, intB_quo, intB_rem, intB_eql, intB_neq, intB_lss, intB_leq, intB_gtr, intB_geq, intB_shr_u64, intB_shl1_u64, intB_and64, intB_or64, intB_xor64, wr_i64, wr_u8, wr_u64, convI_int, unV_not, boolB_eql, boolB_neq, pickV_true, pickV_false, lenSl_slice, ptr_at, fwdP_at, ixArr_at, load1_own, loadA_own, storeN_own, T.get_upd_same, T.get_upd_ne, cellsIn_some, putIn_cells, tl, ts, if_pos, Nat.zero_add, Nat.mul_one, Nat.add_zero, Int.toNat_natCast, ↓reduceIte, Nat.reduceLeDiff, Nat.reduceAdd, Nat.le_refl] <;> rfl) ?_ | refine newP_mk ?_ | refine optP_mk ?_ | refine condP_t ?_ | refine condP_f ?_ | refine ifP_tt' ?_ | refine ifP_ff' ?_ | refine ifP_tf' ?_ | refine ifP_ft' ?_ | refine optP_mk0 ?_)
        refine bindP_mk (hsl.load1 (hFg (k - 1) (by omega))) ?_
        repeat (first | refine bindP_mk (by simp (disch := first | omega | exact Int.natCast_nonneg _ | assumption) only [newP_eq, optP_some, optP_none, bindP_some', condP_true, condP_false, ifP_tt, ifP_ff, ifP_tf, ifP_ft, exP_normal, exP_exit, exP_ret, beqP_true, beqP_false, Option.bind_some, Value.cells_agg, cells_int, cells_bool, intB_add, intB_sub, intB_mul, intB_quo, intB_rem, intB_eql, intB_neq, intB_lss, intB_leq, intB_gtr, intB_geq, intB_shr_u64, intB_shl1_u64, intB_and64, intB_or64, intB_xor64, wr_i64, wr_u8, wr_u64, convI_int, unV_not, boolB_eql, boolB_neq, pickV_true, pickV_false, lenSl_slice, ptr_at, fwdP_at, ixArr_at, load1_own, loadA_own, storeN_own, T.get_upd_same, T.get_upd_ne, cellsIn_some, putIn_cells, tl, ts, if_pos, Nat.zero_add, Nat.mul_one, Nat.add_zero, Int.toNat_natCast, ↓reduceIte, Nat.reduceLeDiff, Nat.reduceAdd, Nat.le_refl] <;> rfl) ?_ | refine newP_mk ?_ | refine optP_mk ?_ | refine condP_t ?_ | refine condP_f ?_ | refine ifP_tt' ?_ | refine ifP_ff' ?_ | refine ifP_tf' ?_ | refine ifP_ft' ?_ | refine optP_mk0 ?_)
        have hrise := lb_rises (l := x) (j := k - 1) (k := k) (by omega) hk
        have e3 : decide (((lb (cls x) k 0 : Nat) : Int) ≤ ((lb (cls x) (k - 1) 0 : Nat) : Int)) = false := decide_eq_false (by omega)
        rw [e3]
        repeat (first | refine bindP_mk (by simp (disch := first | omega | exact Int.natCast_nonneg _ | assumption) only [newP_eq, optP_some, optP_none, bindP_some', condP_true, condP_false, ifP_tt, ifP_ff, ifP_tf, ifP_ft, exP_normal, exP_exit, exP_ret, beqP_true, beqP_false, Option.bind_some, Value.cells_agg, cells_int, cells_bool, intB_add, intB_sub, intB_mul, intB_quo, intB_rem, intB_eql, intB_neq, intB_lss, intB_leq, intB_gtr, intB_geq, intB_shr_u64, intB_shl1_u64, intB_and64, intB_or64, intB_xor64, wr_i64, wr_u8, wr_u64, convI_int, unV_not, boolB_eql, boolB_neq, pickV_true, pickV_false, lenSl_slice, ptr_at, fwdP_at, ixArr_at, load1_own, loadA_own, storeN_own, T.get_upd_same, T.get_upd_ne, cellsIn_some, putIn_cells, tl, ts, if_pos, Nat.zero_add, Nat.mul_one, Nat.add_zero, Int.toNat_natCast, ↓reduceIte, Nat.reduceLeDiff, Nat.reduceAdd, Nat.le_refl] <;> rfl) ?_ | refine newP_mk ?_ | refine optP_mk ?_ | refine condP_t ?_ | refine condP_f ?_ | refine ifP_tt' ?_ | refine ifP_ff' ?_ | refine ifP_tf' ?_ | refine ifP_ft' ?_ | refine optP_mk0 ?_)
        exact hrest2 _ _ (by omega) f1 f2 f7 f8 f9 f12 f39 f40 rfl
      · have e0 : decide ((0 : Int) < (k : Int)) = false := decide_eq_false (by omega)
        rw [e0]
        repeat (first | refine bindP_mk (by simp (disch := first | omega | exact Int.natCast_nonneg _ | assumption) only [newP_eq, optP_some, optP_none, bindP_some', condP_true, condP_false, ifP_tt, ifP_ff, ifP_tf, ifP_ft, exP_normal, exP_exit, exP_ret, beqP_true, beqP_false, Option.bind_some, Value.cells_agg, cells_int, cells_bool, intB_add, intB_sub, intB_mul, intB_quo, intB_rem, intB_eql, intB_neq, intB_lss, intB_leq, intB_gtr, intB_geq, intB_shr_u64, intB_shl1_u64, intB_and64, intB_or64, intB_xor64, wr_i64, wr_u8, wr_u64, convI_int, unV_not, boolB_eql, boolB_neq, pickV_true, pickV_false, lenSl_slice, ptr_at, fwdP_at, ixArr_at, load1_own, loadA_own, storeN_own, T.get_upd_same, T.get_upd_ne, cellsIn_some, putIn_cells, tl, ts, if_pos, Nat.zero_add, Nat.mul_one, Nat.add_zero, Int.toNat_natCast, ↓reduceIte, Nat.reduceLeDiff, Nat.reduceAdd, Nat.le_refl] <;> rfl) ?_ | refine newP_mk ?_ | refine optP_mk ?_ | refine condP_t ?_ | refine condP_f ?_ | refine ifP_tt' ?_ | refine ifP_ff' ?_ | refine ifP_tf' ?_ | refine ifP_ft' ?_ | refine optP_mk0 ?_)
        exact hrest2 _ _ (by omega) f1 f2 f7 f8 f9 f12 f39 f40 rfl
    · refine condP_fa (by simp; omega) ?_
      refine hx2 _ _ _ _ (fun e => by cases e) (exP_e (beqP_t ?_))
      unfold law02_SplitCoarse_j2
      have d1 : ∀ w, Env.put e' 42 w 1 = .int .u8 a := fun w => f1
      have d2 : ∀ w, Env.put e' 42 w 2 = .int .u8 b := fun w => f2
      have d7 : ∀ w, Env.put e' 42 w 7 = .bool true := fun w => f7
      have d8 : ∀ w, Env.put e' 42 w 8 = ptr n3 := fun w => f8
      have d9 : ∀ w, Env.put e' 42 w 9 = .bool (decide (sig x a = sig x b)) := fun w => f9
      have d12 : ∀ w, Env.put e' 42 w 12 = fr := fun w => f12
      simp only [puts, d1, d2, d7, d8, d9, d12]
      have hac : a < (cls x).length := by omega
      have hbc : b < (cls x).length := by omega
      have hga := splitLI_get (n := (many x : Int)) hac
      have hgb := splitLI_get (n := (many x : Int)) hbc
      have heq := cls_eq (l := x) ha hb
      rw [List.getD_eq_getElem?_getD, List.getElem?_eq_getElem hac, List.getD_eq_getElem?_getD, List.getElem?_eq_getElem hbc] at heq
      have heq : (cls x)[a] = (cls x)[b] ↔ sig x a = sig x b := heq
      repeat (first | refine bindP_mk (by simp (disch := first | omega | exact Int.natCast_nonneg _ | assumption) only [newP_eq, optP_some, optP_none, bindP_some', condP_true, condP_false, ifP_tt, ifP_ff, ifP_tf, ifP_ft, exP_normal, exP_exit, exP_ret, beqP_true, beqP_false, Option.bind_some, Value.cells_agg, cells_int, cells_bool, intB_add, intB_sub, intB_mul, intB_quo, intB_rem, intB_eql, intB_neq, intB_lss, intB_leq, intB_gtr, intB_geq, intB_shr_u64, intB_shl1_u64, intB_and64, intB_or64, intB_xor64, wr_i64, wr_u8, wr_u64, convI_int, unV_not, boolB_eql, boolB_neq, pickV_true, pickV_false, lenSl_slice, ptr_at, fwdP_at, ixArr_at, load1_own, loadA_own, storeN_own, T.get_upd_same, T.get_upd_ne, cellsIn_some, putIn_cells, tl, ts, if_pos, Nat.zero_add, Nat.mul_one, Nat.add_zero, Int.toNat_natCast, ↓reduceIte, Nat.reduceLeDiff, Nat.reduceAdd, Nat.le_refl, gB, hga, hgb] <;> rfl) ?_ | refine newP_mk ?_ | refine optP_mk ?_ | refine condP_t ?_ | refine condP_f ?_ | refine ifP_tt' ?_ | refine ifP_ff' ?_ | refine ifP_tf' ?_ | refine ifP_ft' ?_ | refine optP_mk0 ?_)
      have e5 : (decide (sig x a = sig x b) == decide ((((cls x)[a] : Nat) : Int) = (((cls x)[b] : Nat) : Int))) = true := by
        rw [beq_iff_eq]
        by_cases hq9 : sig x a = sig x b
        · rw [decide_eq_true hq9, decide_eq_true (by rw [heq.2 hq9])]
        · rw [decide_eq_false hq9, decide_eq_false (fun h9 => hq9 (heq.1 (by omega)))]
      rw [e5]
      repeat (first | refine bindP_mk (by simp (disch := first | omega | exact Int.natCast_nonneg _ | assumption) only [newP_eq, optP_some, optP_none, bindP_some', condP_true, condP_false, ifP_tt, ifP_ff, ifP_tf, ifP_ft, exP_normal, exP_exit, exP_ret, beqP_true, beqP_false, Option.bind_some, Value.cells_agg, cells_int, cells_bool, intB_add, intB_sub, intB_mul, intB_quo, intB_rem, intB_eql, intB_neq, intB_lss, intB_leq, intB_gtr, intB_geq, intB_shr_u64, intB_shl1_u64, intB_and64, intB_or64, intB_xor64, wr_i64, wr_u8, wr_u64, convI_int, unV_not, boolB_eql, boolB_neq, pickV_true, pickV_false, lenSl_slice, ptr_at, fwdP_at, ixArr_at, load1_own, loadA_own, storeN_own, T.get_upd_same, T.get_upd_ne, cellsIn_some, putIn_cells, tl, ts, if_pos, Nat.zero_add, Nat.mul_one, Nat.add_zero, Int.toNat_natCast, ↓reduceIte, Nat.reduceLeDiff, Nat.reduceAdd, Nat.le_refl] <;> rfl) ?_ | refine newP_mk ?_ | refine optP_mk ?_ | refine condP_t ?_ | refine condP_f ?_ | refine ifP_tt' ?_ | refine ifP_ff' ?_ | refine ifP_tf' ?_ | refine ifP_ft' ?_ | refine optP_mk0 ?_)
      refine bindP_mk (loadA_all gB (splitLI_len hc)) ?_
      repeat (first | refine bindP_mk (by simp (disch := first | omega | exact Int.natCast_nonneg _ | assumption) only [newP_eq, optP_some, optP_none, bindP_some', condP_true, condP_false, ifP_tt, ifP_ff, ifP_tf, ifP_ft, exP_normal, exP_exit, exP_ret, beqP_true, beqP_false, Option.bind_some, Value.cells_agg, cells_int, cells_bool, intB_add, intB_sub, intB_mul, intB_quo, intB_rem, intB_eql, intB_neq, intB_lss, intB_leq, intB_gtr, intB_geq, intB_shr_u64, intB_shl1_u64, intB_and64, intB_or64, intB_xor64, wr_i64, wr_u8, wr_u64, convI_int, unV_not, boolB_eql, boolB_neq, pickV_true, pickV_false, lenSl_slice, ptr_at, fwdP_at, ixArr_at, load1_own, loadA_own, storeN_own, T.get_upd_same, T.get_upd_ne, cellsIn_some, putIn_cells, tl, ts, if_pos, Nat.zero_add, Nat.mul_one, Nat.add_zero, Int.toNat_natCast, ↓reduceIte, Nat.reduceLeDiff, Nat.reduceAdd, Nat.le_refl] <;> rfl) ?_ | refine newP_mk ?_ | refine optP_mk ?_ | refine condP_t ?_ | refine condP_f ?_ | refine ifP_tt' ?_ | refine ifP_ff' ?_ | refine ifP_tf' ?_ | refine ifP_ft' ?_ | refine optP_mk0 ?_)
      refine split_Right_c hc hcl (hf2.mono (by omega)) fun n7 hn7 => ?_
      rw [right_cls]
      repeat (first | refine bindP_mk (by simp (disch := first | omega | exact Int.natCast_nonneg _ | assumption) only [newP_eq, optP_some, optP_none, bindP_some', condP_true, condP_false, ifP_tt, ifP_ff, ifP_tf, ifP_ft, exP_normal, exP_exit, exP_ret, beqP_true, beqP_false, Option.bind_some, Value.cells_agg, cells_int, cells_bool, intB_add, intB_sub, intB_mul, intB_quo, intB_rem, intB_eql, intB_neq, intB_lss, intB_leq, intB_gtr, intB_geq, intB_shr_u64, intB_shl1_u64, intB_and64, intB_or64, intB_xor64, wr_i64, wr_u8, wr_u64, convI_int, unV_not, boolB_eql, boolB_neq, pickV_true, pickV_false, lenSl_slice, ptr_at, fwdP_at, ixArr_at, load1_own, loadA_own, storeN_own, T.get_upd_same, T.get_upd_ne, cellsIn_some, putIn_cells, tl, ts, if_pos, Nat.zero_add, Nat.mul_one, Nat.add_zero, Int.toNat_natCast, ↓reduceIte, Nat.reduceLeDiff, Nat.reduceAdd, Nat.le_refl] <;> rfl) ?_ | refine newP_mk ?_ | refine optP_mk ?_ | refine condP_t ?_ | refine condP_f ?_ | refine ifP_tt' ?_ | refine ifP_ff' ?_ | refine ifP_tf' ?_ | refine ifP_ft' ?_ | refine optP_mk0 ?_)
      refine bindP_mk hlen ?_
      have hgm := splitLI_many (n := (many x : Int)) hc
      repeat (first | refine bindP_mk (by simp (disch := first | omega | exact Int.natCast_nonneg _ | assumption) only [newP_eq, optP_some, optP_none, bindP_some', condP_true, condP_false, ifP_tt, ifP_ff, ifP_tf, ifP_ft, exP_normal, exP_exit, exP_ret, beqP_true, beqP_false, Option.bind_some, Value.cells_agg, cells_int, cells_bool, intB_add, intB_sub, intB_mul, intB_quo, intB_rem, intB_eql, intB_neq, intB_lss, intB_leq, intB_gtr, intB_geq, intB_shr_u64, intB_shl1_u64, intB_and64, intB_or64, intB_xor64, wr_i64, wr_u8, wr_u64, convI_int, unV_not, boolB_eql, boolB_neq, pickV_true, pickV_false, lenSl_slice, ptr_at, fwdP_at, ixArr_at, load1_own, loadA_own, storeN_own, T.get_upd_same, T.get_upd_ne, cellsIn_some, putIn_cells, tl, ts, if_pos, Nat.zero_add, Nat.mul_one, Nat.add_zero, Int.toNat_natCast, ↓reduceIte, Nat.reduceLeDiff, Nat.reduceAdd, Nat.le_refl, gB, hgm, decide_true] <;> rfl) ?_ | refine newP_mk ?_ | refine optP_mk ?_ | refine condP_t ?_ | refine condP_f ?_ | refine ifP_tt' ?_ | refine ifP_ff' ?_ | refine ifP_tf' ?_ | refine ifP_ft' ?_ | refine optP_mk0 ?_)
      exact ⟨h3, Sub.refl _, hK _ _ (by omega)⟩
end V
end Go.Proofs.Ytnjdhgbepoefiaa
