/- The law SplitFirst as the machine runs it.
   No condition. -/
import Derived.Test.YtnjdhgbepoefiaaCP
import Derived.Test.YtnjdhgbepoefiaaPC
set_option linter.unusedVariables false
set_option linter.unusedSimpArgs false
namespace Go.Proofs.Ytnjdhgbepoefiaa
namespace V
open PA
theorem setL_inj {m n : Nat} (hm : m < 2 ^ 256) (hn : n < 2 ^ 256) : setL m = setL n ↔ m = n := by
  constructor
  · intro h
    refine word_ext hm hn fun i hi => ?_
    have h1 := setL_get (m := m) hi
    rw [h, setL_get hi] at h1
    have := Option.some.inj h1
    simp only [Value.int.injEq, true_and] at this
    omega
  · rintro rfl; rfl
theorem eqCells_set {m n : Nat} (hm : m < 2 ^ 256) (hn : n < 2 ^ 256) : eqCells (List.replicate 4 1) (setL m) (setL n) = some (decide (m = n)) := by
  have hi : IntsL (setL m) (setL n) := .cons (.cons (.cons (.cons .nil)))
  obtain ⟨b, h1, h2⟩ := eqCells_ints hi
  rw [setL_inj hm hn] at h2
  have h1 : eqCells (List.replicate 4 1) (setL m) (setL n) = some b := h1
  rw [h1]
  congr 1
  cases b with
  | true => exact (decide_eq_true (h2.1 rfl)).symm
  | false => exact (decide_eq_false (fun e => by have := h2.2 e; cases this)).symm
theorem eql_sets {m n : Nat} (hm : m < 2 ^ 256) (hn : n < 2 ^ 256) : aggB (List.replicate 4 1) .eql (setV m) (setV n) = some (.bool (decide (m = n))) := by
  have e1 : setV m = .agg (setL m).toArray := rfl
  have e2 : setV n = .agg (setL n).toArray := rfl
  rw [e1, e2]
  unfold aggB
  simp only [tl, eqCells_set hm hn, Option.bind]
theorem neq_sets {m n : Nat} (hm : m < 2 ^ 256) (hn : n < 2 ^ 256) : aggB (List.replicate 4 1) .neq (setV m) (setV n) = some (.bool (!decide (m = n))) := by
  have e1 : setV m = .agg (setL m).toArray := rfl
  have e2 : setV n = .agg (setL n).toArray := rfl
  rw [e1, e2]
  unfold aggB
  simp only [tl, eqCells_set hm hn, Option.bind]
theorem clsS_lt (c : List Nat) (k : Int) : clsS c k < 2 ^ 256 := ofBytes_lt (by decide) fun b hb => mem_lt hb
theorem clsS_bit {c : List Nat} {k b : Nat} (hb : b < 256) : (clsS c (k : Int)).testBit b = decide (c.getD b 0 = k) := by
  unfold clsS
  rw [testBit_ofBytes]
  by_cases h : c.getD b 0 = k
  · rw [decide_eq_true h, decide_eq_true (by unfold mem; rw [List.mem_filter]; exact ⟨List.mem_range.2 hb, decide_eq_true (by rw [h])⟩)]; simp
  · rw [decide_eq_false h, decide_eq_false]
    · simp
    · unfold mem
      rw [List.mem_filter]
      rintro ⟨_, h2⟩
      simp only [decide_eq_true_eq] at h2
      omega
set_option maxRecDepth 4000 in
set_option maxHeartbeats 1000000 in
theorem law02_SplitFirst_c {ro : Ro} {v : Value} {l : List Nat} {b : Nat} (hb : b < 256) {h : T Obj} {nx : Nat} {K : KV} (hf : Fr h nx) (hv : Sl ro h v 4 (setsC l)) (hK : ∀ h' nx', nx ≤ nx' → K (.bool true) h' nx') : callP Try.prog ro i_law02_SplitFirst [v, .int .u8 b] h nx K := by
  apply law02_SplitFirst_of
  unfold law02_SplitFirst
  have ht : (l.take 20).length ≤ 1000000 := by rw [List.length_take]; omega
  refine law02_shown_c (hf.mono (by omega)) fun n1 hn1 => ?_
  refine law02_few_c (hf.mono (by omega)) hv fun r n2 hr hn2 => ?_
  generalize l.take 20 = x at hr ht
  refine split_Of_c ht (hf.mono (by omega)) hr fun n3 hn3 => ?_
  have hc := cls_length x
  have hcl := cls_bound (l := x)
  have hmp := many_pos x
  have hml := many_le x
  refine zer_Split_mk (newP_mk ?_)
  refine bindP_mk (storeA_own (l := splitL (List.replicate 256 0) 0) (vs := splitL (cls x) (many x)) (e := y_api_Split) (f := (0, 0)) (by rw [T.get_upd_same]; rfl) rfl (splitL_len hc) (splitL_len rep_len) (splitL_ok _ _)) ?_
  have g0 : ((h.upd n3 (some (.cells (Value.cells (splitV (List.replicate 256 0) 0)) y_api_Split))).upd n3 (some (.cells (splitL (cls x) (many x)).toArray y_api_Split))).get n3 = some (.cells (splitLI (cls x) (many x : Int)).toArray y_api_Split) := T.get_upd_same _ _ _
  have hf0 : Fr ((h.upd n3 (some (.cells (Value.cells (splitV (List.replicate 256 0) 0)) y_api_Split))).upd n3 (some (.cells (splitL (cls x) (many x)).toArray y_api_Split))) (n3 + 1) := ((hf.mono (by omega)).upd (n := nx) (m := n3 + 1) (by omega) (by omega)).upd (Nat.le_refl _) (by omega)
  generalize ((h.upd n3 (some (.cells (Value.cells (splitV (List.replicate 256 0) 0)) y_api_Split))).upd n3 (some (.cells (splitL (cls x) (many x)).toArray y_api_Split))) = h0 at g0 hf0
  refine bindP_mk (loadA_all g0 (splitLI_len hc)) ?_
  refine split_First_c hc hcl (hf0.mono (by omega)) fun fr h2 n4 hn4 hs2 hf2 hfr => ?_
  have g2 := hs2 _ _ g0
  rw [firstZ_cls] at hfr
  have hsl := hfr.sl (ro := ro)
  have hbc : b < (cls x).length := by omega
  have hgb := splitLI_get (n := (many x : Int)) hbc
  have hcb := hcl _ (List.getElem_mem hbc)
  have hgd : (cls x).getD b 0 = (cls x)[b] := by rw [List.getD_eq_getElem?_getD, List.getElem?_eq_getElem hbc]; rfl
  have hkm : (cls x)[b] < many x := by rw [← hgd]; exact cls_many hb
  generalize hk : (cls x)[b] = k at hgb hcb hgd hkm
  obtain ⟨q1, q2, q3⟩ := lb_spec hb hgd
  have hFl : (bytesC ((List.range (many x)).map fun k => lb (cls x) k 0)).length = many x := by rw [bytesC_len, List.length_map, List.length_range]
  have hFg : ∀ i, i < many x → (bytesC ((List.range (many x)).map fun k => lb (cls x) k 0))[i]? = some [.int .u8 (lb (cls x) i 0 : Nat)] := fun i hi => by
    rw [bytesC_get (by rw [List.length_map, List.length_range]; exact hi)]
    simp
  have hlen := hsl.len
  rw [hFl] at hlen
  have hix := hsl.ix .i64 (i := k) (by rw [hFl]; exact hkm)
  have hld := hsl.load1 (hFg k hkm)
  repeat (first | refine bindP_mk (by simp (disch := first | omega | exact Int.natCast_nonneg _ | assumption) only [newP_eq, optP_some, optP_none, bindP_some', condP_true, condP_false, ifP_tt, ifP_ff, ifP_tf, ifP_ft, exP_normal, exP_exit, exP_ret, beqP_true, beqP_false, Option.bind_some, Value.cells_agg, cells_int, cells_bool, intB_add, intB_sub, intB_mul, intB_quo, intB_rem, intB_eql, intB_neq, intB_lss, intB_leq, intB_gtr, intB_geq, intB_shr_u64, intB_shl1_u64, intB_and64, intB_or64, intB_xor64, wr_i64, wr_u8, wr_u64, convI_int, unV_not, boolB_eql, boolB_neq, pickV_true, pickV_false, lenSl_slice, ptr_at, fwdP_at, ixArr_at, load1_own, loadA_own, storeN_own, T.get_upd_same, T.get_upd_ne, cellsIn_some, putIn_cells, tl, ts, if_pos, Nat.zero_add, Nat.mul_one, Nat.add_zero, Int.toNat_natCast, ↓reduceIte, Nat.reduceLeDiff, Nat.reduceAdd, Nat.le_refl, g2, hgb] <;> rfl) ?_ | refine newP_mk ?_ | refine optP_mk ?_ | refine condP_t ?_ | refine condP_f ?_ | refine ifP_tt' ?_ | refine ifP_ff' ?_ | refine ifP_tf' ?_ | refine ifP_ft' ?_ | refine optP_mk0 ?_)
  refine bindP_mk hlen ?_
  repeat (first | refine bindP_mk (by simp (disch := first | omega | exact Int.natCast_nonneg _ | assumption) only [newP_eq, optP_some, optP_none, bindP_some', condP_true, condP_false, ifP_tt, ifP_ff, ifP_tf, ifP_ft, exP_normal, exP_exit, exP_ret, beqP_true, beqP_false, Option.bind_some, Value.cells_agg, cells_int, cells_bool, intB_add, intB_sub, intB_mul, intB_quo, intB_rem, intB_eql, intB_neq, intB_lss, intB_leq, intB_gtr, intB_geq, intB_shr_u64, intB_shl1_u64, intB_and64, intB_or64, intB_xor64, wr_i64, wr_u8, wr_u64, convI_int, unV_not, boolB_eql, boolB_neq, pickV_true, pickV_false, lenSl_slice, ptr_at, fwdP_at, ixArr_at, load1_own, loadA_own, storeN_own, T.get_upd_same, T.get_upd_ne, cellsIn_some, putIn_cells, tl, ts, if_pos, Nat.zero_add, Nat.mul_one, Nat.add_zero, Int.toNat_natCast, ↓reduceIte, Nat.reduceLeDiff, Nat.reduceAdd, Nat.le_refl] <;> rfl) ?_ | refine newP_mk ?_ | refine optP_mk ?_ | refine condP_t ?_ | refine condP_f ?_ | refine ifP_tt' ?_ | refine ifP_ff' ?_ | refine ifP_tf' ?_ | refine ifP_ft' ?_ | refine optP_mk0 ?_)
  have e1 : decide ((k : Int) < (many x : Int)) = true := decide_eq_true (by omega)
  rw [e1]
  repeat (first | refine bindP_mk (by simp (disch := first | omega | exact Int.natCast_nonneg _ | assumption) only [newP_eq, optP_some, optP_none, bindP_some', condP_true, condP_false, ifP_tt, ifP_ff, ifP_tf, ifP_ft, exP_normal, exP_exit, exP_ret, beqP_true, beqP_false, Option.bind_some, Value.cells_agg, cells_int, cells_bool, intB_add, intB_sub, intB_mul, intB_quo, intB_rem, intB_eql, intB_neq, intB_lss, intB_leq, intB_gtr, intB_geq, intB_shr_u64, intB_shl1_u64, intB_and64, intB_or64, intB_xor64, wr_i64, wr_u8, wr_u64, convI_int, unV_not, boolB_eql, boolB_neq, pickV_true, pickV_false, lenSl_slice, ptr_at, fwdP_at, ixArr_at, load1_own, loadA_own, storeN_own, T.get_upd_same, T.get_upd_ne, cellsIn_some, putIn_cells, tl, ts, if_pos, Nat.zero_add, Nat.mul_one, Nat.add_zero, Int.toNat_natCast, ↓reduceIte, Nat.reduceLeDiff, Nat.reduceAdd, Nat.le_refl] <;> rfl) ?_ | refine newP_mk ?_ | refine optP_mk ?_ | refine condP_t ?_ | refine condP_f ?_ | refine ifP_tt' ?_ | refine ifP_ff' ?_ | refine ifP_tf' ?_ | refine ifP_ft' ?_ | refine optP_mk0 ?_)
  refine bindP_mk hix ?_
  repeat (first | refine bindP_mk (by simp (disch := first | omega | exact Int.natCast_nonneg _ | assumption) only [newP_eq, optP_some, optP_none, bindP_some', condP_true, condP_false, ifP_tt, ifP_ff, ifP_tf, ifP_ft, exP_normal, exP_exit, exP_ret, beqP_true, beqP_false, Option.bind_some, Value.cells_agg, cells_int, cells_bool, intB_add, intB_sub, intB_mul, intB_quo, intB_rem, intB_eql, intB_neq, intB_lss, intB_leq, intB_gtr, intB_geq, intB_shr_u64, intB_shl1_u64, intB_and64, intB_or64, intB_xor64, wr_i64, wr_u8, wr_u64, convI_int, unV_not, boolB_eql, boolB_neq, pickV_true, pickV_false, lenSl_slice, ptr_at, fwdP_at, ixArr_at, load1_own, loadA_own, storeN_own, T.get_upd_same, T.get_upd_ne, cellsIn_some, putIn_cells, tl, ts, if_pos, Nat.zero_add, Nat.mul_one, Nat.add_zero, Int.toNat_natCast, ↓reduceIte, Nat.reduceLeDiff, Nat.reduceAdd, Nat.le_refl] <;> rfl) ?_ | refine newP_mk ?_ | refine optP_mk ?_ | refine condP_t ?_ | refine condP_f ?_ | refine ifP_tt' ?_ | refine ifP_ff' ?_ | refine ifP_tf' ?_ | refine ifP_ft' ?_ | refine optP_mk0 ?_)
  refine bindP_mk hld ?_
  repeat (first | refine bindP_mk (by simp (disch := first | omega | exact Int.natCast_nonneg _ | assumption) only [newP_eq, optP_some, optP_none, bindP_some', condP_true, condP_false, ifP_tt, ifP_ff, ifP_tf, ifP_ft, exP_normal, exP_exit, exP_ret, beqP_true, beqP_false, Option.bind_some, Value.cells_agg, cells_int, cells_bool, intB_add, intB_sub, intB_mul, intB_quo, intB_rem, intB_eql, intB_neq, intB_lss, intB_leq, intB_gtr, intB_geq, intB_shr_u64, intB_shl1_u64, intB_and64, intB_or64, intB_xor64, wr_i64, wr_u8, wr_u64, convI_int, unV_not, boolB_eql, boolB_neq, pickV_true, pickV_false, lenSl_slice, ptr_at, fwdP_at, ixArr_at, load1_own, loadA_own, storeN_own, T.get_upd_same, T.get_upd_ne, cellsIn_some, putIn_cells, tl, ts, if_pos, Nat.zero_add, Nat.mul_one, Nat.add_zero, Int.toNat_natCast, ↓reduceIte, Nat.reduceLeDiff, Nat.reduceAdd, Nat.le_refl] <;> rfl) ?_ | refine newP_mk ?_ | refine optP_mk ?_ | refine condP_t ?_ | refine condP_f ?_ | refine ifP_tt' ?_ | refine ifP_ff' ?_ | refine ifP_tf' ?_ | refine ifP_ft' ?_ | refine optP_mk0 ?_)
  have e2 : decide (((lb (cls x) k 0 : Nat) : Int) ≤ (b : Int)) = true := decide_eq_true (by omega)
  rw [e2]
  repeat (first | refine bindP_mk (by simp (disch := first | omega | exact Int.natCast_nonneg _ | assumption) only [newP_eq, optP_some, optP_none, bindP_some', condP_true, condP_false, ifP_tt, ifP_ff, ifP_tf, ifP_ft, exP_normal, exP_exit, exP_ret, beqP_true, beqP_false, Option.bind_some, Value.cells_agg, cells_int, cells_bool, intB_add, intB_sub, intB_mul, intB_quo, intB_rem, intB_eql, intB_neq, intB_lss, intB_leq, intB_gtr, intB_geq, intB_shr_u64, intB_shl1_u64, intB_and64, intB_or64, intB_xor64, wr_i64, wr_u8, wr_u64, convI_int, unV_not, boolB_eql, boolB_neq, pickV_true, pickV_false, lenSl_slice, ptr_at, fwdP_at, ixArr_at, load1_own, loadA_own, storeN_own, T.get_upd_same, T.get_upd_ne, cellsIn_some, putIn_cells, tl, ts, if_pos, Nat.zero_add, Nat.mul_one, Nat.add_zero, Int.toNat_natCast, ↓reduceIte, Nat.reduceLeDiff, Nat.reduceAdd, Nat.le_refl] <;> rfl) ?_ | refine newP_mk ?_ | refine optP_mk ?_ | refine condP_t ?_ | refine condP_f ?_ | refine ifP_tt' ?_ | refine ifP_ff' ?_ | refine ifP_tf' ?_ | refine ifP_ft' ?_ | refine optP_mk0 ?_)
  refine bindP_mk hix ?_
  repeat (first | refine bindP_mk (by simp (disch := first | omega | exact Int.natCast_nonneg _ | assumption) only [newP_eq, optP_some, optP_none, bindP_some', condP_true, condP_false, ifP_tt, ifP_ff, ifP_tf, ifP_ft, exP_normal, exP_exit, exP_ret, beqP_true, beqP_false, Option.bind_some, Value.cells_agg, cells_int, cells_bool, intB_add, intB_sub, intB_mul, intB_quo, intB_rem, intB_eql, intB_neq, intB_lss, intB_leq, intB_gtr, intB_geq, intB_shr_u64, intB_shl1_u64, intB_and64, intB_or64, intB_xor64, wr_i64, wr_u8, wr_u64, convI_int, unV_not, boolB_eql, boolB_neq, pickV_true, pickV_false, lenSl_slice, ptr_at, fwdP_at, ixArr_at, load1_own, loadA_own, storeN_own, T.get_upd_same, T.get_upd_ne, cellsIn_some, putIn_cells, tl, ts, if_pos, Nat.zero_add, Nat.mul_one, Nat.add_zero, Int.toNat_natCast, ↓reduceIte, Nat.reduceLeDiff, Nat.reduceAdd, Nat.le_refl] <;> rfl) ?_ | refine newP_mk ?_ | refine optP_mk ?_ | refine condP_t ?_ | refine condP_f ?_ | refine ifP_tt' ?_ | refine ifP_ff' ?_ | refine ifP_tf' ?_ | refine ifP_ft' ?_ | refine optP_mk0 ?_)
  refine bindP_mk hld ?_
  have hfl : lb (cls x) k 0 < (cls x).length := by omega
  have hgf := splitLI_get (n := (many x : Int)) hfl
  have hgf2 : (cls x)[lb (cls x) k 0] = k := by
    have h5 := q2
    rw [List.getD_eq_getElem?_getD, List.getElem?_eq_getElem hfl] at h5
    exact h5
  rw [hgf2] at hgf
  repeat (first | refine bindP_mk (by simp (disch := first | omega | exact Int.natCast_nonneg _ | assumption) only [newP_eq, optP_some, optP_none, bindP_some', condP_true, condP_false, ifP_tt, ifP_ff, ifP_tf, ifP_ft, exP_normal, exP_exit, exP_ret, beqP_true, beqP_false, Option.bind_some, Value.cells_agg, cells_int, cells_bool, intB_add, intB_sub, intB_mul, intB_quo, intB_rem, intB_eql, intB_neq, intB_lss, intB_leq, intB_gtr, intB_geq, intB_shr_u64, intB_shl1_u64, intB_and64, intB_or64, intB_xor64, wr_i64, wr_u8, wr_u64, convI_int, unV_not, boolB_eql, boolB_neq, pickV_true, pickV_false, lenSl_slice, ptr_at, fwdP_at, ixArr_at, load1_own, loadA_own, storeN_own, T.get_upd_same, T.get_upd_ne, cellsIn_some, putIn_cells, tl, ts, if_pos, Nat.zero_add, Nat.mul_one, Nat.add_zero, Int.toNat_natCast, ↓reduceIte, Nat.reduceLeDiff, Nat.reduceAdd, Nat.le_refl, g2, hgf, decide_true] <;> rfl) ?_ | refine newP_mk ?_ | refine optP_mk ?_ | refine condP_t ?_ | refine condP_f ?_ | refine ifP_tt' ?_ | refine ifP_ff' ?_ | refine ifP_tf' ?_ | refine ifP_ft' ?_ | refine optP_mk0 ?_)
  refine bindP_mk (loadA_all g2 (splitLI_len hc)) ?_
  repeat (first | refine bindP_mk (by simp (disch := first | omega | exact Int.natCast_nonneg _ | assumption) only [newP_eq, optP_some, optP_none, bindP_some', condP_true, condP_false, ifP_tt, ifP_ff, ifP_tf, ifP_ft, exP_normal, exP_exit, exP_ret, beqP_true, beqP_false, Option.bind_some, Value.cells_agg, cells_int, cells_bool, intB_add, intB_sub, intB_mul, intB_quo, intB_rem, intB_eql, intB_neq, intB_lss, intB_leq, intB_gtr, intB_geq, intB_shr_u64, intB_shl1_u64, intB_and64, intB_or64, intB_xor64, wr_i64, wr_u8, wr_u64, convI_int, unV_not, boolB_eql, boolB_neq, pickV_true, pickV_false, lenSl_slice, ptr_at, fwdP_at, ixArr_at, load1_own, loadA_own, storeN_own, T.get_upd_same, T.get_upd_ne, cellsIn_some, putIn_cells, tl, ts, if_pos, Nat.zero_add, Nat.mul_one, Nat.add_zero, Int.toNat_natCast, ↓reduceIte, Nat.reduceLeDiff, Nat.reduceAdd, Nat.le_refl] <;> rfl) ?_ | refine newP_mk ?_ | refine optP_mk ?_ | refine condP_t ?_ | refine condP_f ?_ | refine ifP_tt' ?_ | refine ifP_ff' ?_ | refine ifP_tf' ?_ | refine ifP_ft' ?_ | refine optP_mk0 ?_)
  refine split_Set_c hc hcl (hf2.mono (by omega)) fun n5 hn5 => ?_
  repeat (first | refine bindP_mk (by simp (disch := first | omega | exact Int.natCast_nonneg _ | assumption) only [newP_eq, optP_some, optP_none, bindP_some', condP_true, condP_false, ifP_tt, ifP_ff, ifP_tf, ifP_ft, exP_normal, exP_exit, exP_ret, beqP_true, beqP_false, Option.bind_some, Value.cells_agg, cells_int, cells_bool, intB_add, intB_sub, intB_mul, intB_quo, intB_rem, intB_eql, intB_neq, intB_lss, intB_leq, intB_gtr, intB_geq, intB_shr_u64, intB_shl1_u64, intB_and64, intB_or64, intB_xor64, wr_i64, wr_u8, wr_u64, convI_int, unV_not, boolB_eql, boolB_neq, pickV_true, pickV_false, lenSl_slice, ptr_at, fwdP_at, ixArr_at, load1_own, loadA_own, storeN_own, T.get_upd_same, T.get_upd_ne, cellsIn_some, putIn_cells, tl, ts, if_pos, Nat.zero_add, Nat.mul_one, Nat.add_zero, Int.toNat_natCast, ↓reduceIte, Nat.reduceLeDiff, Nat.reduceAdd, Nat.le_refl] <;> rfl) ?_ | refine newP_mk ?_ | refine optP_mk ?_ | refine condP_t ?_ | refine condP_f ?_ | refine ifP_tt' ?_ | refine ifP_ff' ?_ | refine ifP_tf' ?_ | refine ifP_ft' ?_ | refine optP_mk0 ?_)
  refine buildV_Set_mk ?_
  repeat (first | refine bindP_mk (by simp (disch := first | omega | exact Int.natCast_nonneg _ | assumption) only [newP_eq, optP_some, optP_none, bindP_some', condP_true, condP_false, ifP_tt, ifP_ff, ifP_tf, ifP_ft, exP_normal, exP_exit, exP_ret, beqP_true, beqP_false, Option.bind_some, Value.cells_agg, cells_int, cells_bool, intB_add, intB_sub, intB_mul, intB_quo, intB_rem, intB_eql, intB_neq, intB_lss, intB_leq, intB_gtr, intB_geq, intB_shr_u64, intB_shl1_u64, intB_and64, intB_or64, intB_xor64, wr_i64, wr_u8, wr_u64, convI_int, unV_not, boolB_eql, boolB_neq, pickV_true, pickV_false, lenSl_slice, ptr_at, fwdP_at, ixArr_at, load1_own, loadA_own, storeN_own, T.get_upd_same, T.get_upd_ne, cellsIn_some, putIn_cells, tl, ts, if_pos, Nat.zero_add, Nat.mul_one, Nat.add_zero, Int.toNat_natCast, ↓reduceIte, Nat.reduceLeDiff, Nat.reduceAdd, Nat.le_refl] <;> rfl) ?_ | refine newP_mk ?_ | refine optP_mk ?_ | refine condP_t ?_ | refine condP_f ?_ | refine ifP_tt' ?_ | refine ifP_ff' ?_ | refine ifP_tf' ?_ | refine ifP_ft' ?_ | refine optP_mk0 ?_)
  refine bindP_mk plain_Set (bindP_mk (neq_sets (clsS_lt _ _) (by decide)) ?_)
  have e3 : (!decide (clsS (cls x) (k : Int) = 0)) = true := by
    have h1 : (clsS (cls x) (k : Int)).testBit b = true := by rw [clsS_bit hb, hgd]; simp
    have h2 : clsS (cls x) (k : Int) ≠ 0 := fun e => by rw [e] at h1; simp at h1
    simp [h2]
  rw [e3]
  repeat (first | refine bindP_mk (by simp (disch := first | omega | exact Int.natCast_nonneg _ | assumption) only [newP_eq, optP_some, optP_none, bindP_some', condP_true, condP_false, ifP_tt, ifP_ff, ifP_tf, ifP_ft, exP_normal, exP_exit, exP_ret, beqP_true, beqP_false, Option.bind_some, Value.cells_agg, cells_int, cells_bool, intB_add, intB_sub, intB_mul, intB_quo, intB_rem, intB_eql, intB_neq, intB_lss, intB_leq, intB_gtr, intB_geq, intB_shr_u64, intB_shl1_u64, intB_and64, intB_or64, intB_xor64, wr_i64, wr_u8, wr_u64, convI_int, unV_not, boolB_eql, boolB_neq, pickV_true, pickV_false, lenSl_slice, ptr_at, fwdP_at, ixArr_at, load1_own, loadA_own, storeN_own, T.get_upd_same, T.get_upd_ne, cellsIn_some, putIn_cells, tl, ts, if_pos, Nat.zero_add, Nat.mul_one, Nat.add_zero, Int.toNat_natCast, ↓reduceIte, Nat.reduceLeDiff, Nat.reduceAdd, Nat.le_refl] <;> rfl) ?_ | refine newP_mk ?_ | refine optP_mk ?_ | refine condP_t ?_ | refine condP_f ?_ | refine ifP_tt' ?_ | refine ifP_ff' ?_ | refine ifP_tf' ?_ | refine ifP_ft' ?_ | refine optP_mk0 ?_)
  have hz : lb (cls x) 0 0 = 0 := by
    have h1 := cls_le_ahead (l := x) (i := 0) (by omega)
    have h2 : (dd ((sigs x).take 0)).length = 0 := rfl
    have := (lb_spec (c := cls x) (k := 0) (b := 0) (by omega) (by omega)).1
    omega
  have hix0 := hsl.ix .i64 (i := 0) (by rw [hFl]; exact hmp)
  have hld0 := hsl.load1 (hFg 0 hmp)
  rw [hz] at hld0
  refine bindP_mk hix0 ?_
  repeat (first | refine bindP_mk (by simp (disch := first | omega | exact Int.natCast_nonneg _ | assumption) only [newP_eq, optP_some, optP_none, bindP_some', condP_true, condP_false, ifP_tt, ifP_ff, ifP_tf, ifP_ft, exP_normal, exP_exit, exP_ret, beqP_true, beqP_false, Option.bind_some, Value.cells_agg, cells_int, cells_bool, intB_add, intB_sub, intB_mul, intB_quo, intB_rem, intB_eql, intB_neq, intB_lss, intB_leq, intB_gtr, intB_geq, intB_shr_u64, intB_shl1_u64, intB_and64, intB_or64, intB_xor64, wr_i64, wr_u8, wr_u64, convI_int, unV_not, boolB_eql, boolB_neq, pickV_true, pickV_false, lenSl_slice, ptr_at, fwdP_at, ixArr_at, load1_own, loadA_own, storeN_own, T.get_upd_same, T.get_upd_ne, cellsIn_some, putIn_cells, tl, ts, if_pos, Nat.zero_add, Nat.mul_one, Nat.add_zero, Int.toNat_natCast, ↓reduceIte, Nat.reduceLeDiff, Nat.reduceAdd, Nat.le_refl] <;> rfl) ?_ | refine newP_mk ?_ | refine optP_mk ?_ | refine condP_t ?_ | refine condP_f ?_ | refine ifP_tt' ?_ | refine ifP_ff' ?_ | refine ifP_tf' ?_ | refine ifP_ft' ?_ | refine optP_mk0 ?_)
  refine bindP_mk hld0 ?_
  have e4 : decide (((0 : Nat) : Int) = 0) = true := rfl
  repeat (first | refine bindP_mk (by simp (disch := first | omega | exact Int.natCast_nonneg _ | assumption) only [newP_eq, optP_some, optP_none, bindP_some', condP_true, condP_false, ifP_tt, ifP_ff, ifP_tf, ifP_ft, exP_normal, exP_exit, exP_ret, beqP_true, beqP_false, Option.bind_some, Value.cells_agg, cells_int, cells_bool, intB_add, intB_sub, intB_mul, intB_quo, intB_rem, intB_eql, intB_neq, intB_lss, intB_leq, intB_gtr, intB_geq, intB_shr_u64, intB_shl1_u64, intB_and64, intB_or64, intB_xor64, wr_i64, wr_u8, wr_u64, convI_int, unV_not, boolB_eql, boolB_neq, pickV_true, pickV_false, lenSl_slice, ptr_at, fwdP_at, ixArr_at, load1_own, loadA_own, storeN_own, T.get_upd_same, T.get_upd_ne, cellsIn_some, putIn_cells, tl, ts, if_pos, Nat.zero_add, Nat.mul_one, Nat.add_zero, Int.toNat_natCast, ↓reduceIte, Nat.reduceLeDiff, Nat.reduceAdd, Nat.le_refl, e4] <;> rfl) ?_ | refine newP_mk ?_ | refine optP_mk ?_ | refine condP_t ?_ | refine condP_f ?_ | refine ifP_tt' ?_ | refine ifP_ff' ?_ | refine ifP_tf' ?_ | refine ifP_ft' ?_ | refine optP_mk0 ?_)
  exact ⟨h2, Sub.refl _, hK _ _ (by omega)⟩
end V
end Go.Proofs.Ytnjdhgbepoefiaa
