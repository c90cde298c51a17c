/- What Of hands back.
   No condition. -/
import Derived.Test.YtnjdhgbepoefiaaCB
import Derived.Test.YtnjdhgbepoefiaaWT
set_option linter.unusedVariables false
set_option linter.unusedSimpArgs false
namespace Go.Proofs.Ytnjdhgbepoefiaa
namespace V
open PA
def ofBytes (m : Nat) (l : List Nat) : Nat := l.foldl (fun m b => m ||| 2 ^ b) m
theorem pow_le_u64 {k : Nat} (hk : k < 64) : ((2 ^ k : Nat) : Int) ≤ 18446744073709551615 := cast_le (Nat.pow_lt_pow_right (show 1 < 2 by decide) hk)
def bytesC (l : List Nat) : List (List Value) := l.map fun b : Nat => [Value.int .u8 (b : Int)]
theorem bytesC_len (l : List Nat) : (bytesC l).length = l.length := by simp [bytesC]
theorem bytesC_get {l : List Nat} {i : Nat} (hi : i < l.length) : (bytesC l)[i]? = some [.int .u8 (l[i] : Nat)] := by simp [bytesC, hi]
theorem buildV_Set : buildV Try.prog y_api_Set [] = some (setV 0) := by kernel_rfl
theorem buildV_Set_mk {K : Value → Prop} (k : K (setV 0)) : bindP (buildV Try.prog y_api_Set []) K := by rw [buildV_Set]; exact k
theorem ofBytes_take {m : Nat} {l : List Nat} {i : Nat} (hi : i < l.length) : ofBytes m (l.take (i + 1)) = ofBytes m (l.take i) ||| 2 ^ l[i] := by
  rw [List.take_succ_eq_append_getElem hi, ofBytes, List.foldl_append]; rfl
theorem ref01_Of_c {ro : Ro} {v : Value} {l : List Nat} (hl : ∀ b ∈ l, b < 256) (hlen : l.length ≤ 1000000) {h : T Obj} {nx : Nat} {K : KV} (hf : Fr h nx) (hv : Sl ro h v 1 (bytesC l)) (hK : ∀ nx', nx ≤ nx' → K (setV (ofBytes 0 l)) h nx') : callP Try.prog ro i_ref01_Of [v] h nx K := by
  apply ref01_Of_of
  unfold ref01_Of
  refine zer_Set_mk (newP_mk (buildV_Set_mk (zer_Set_mk (newP_mk ?_))))
  refine bindP_mk (storeA_own (l := setL 0) (vs := setL 0) (by simp (disch := first | omega | exact Int.natCast_nonneg _ | assumption) only [newP_eq, optP_some, optP_none, bindP_some', condP_true, condP_false, ifP_tt, ifP_ff, ifP_tf, ifP_ft, exP_normal, exP_exit, exP_ret, beqP_true, beqP_false, Option.bind_some, Value.cells_agg, cells_int, cells_bool, intB_add, intB_sub, intB_mul, intB_quo, intB_rem, intB_eql, intB_neq, intB_lss, intB_leq, intB_gtr, intB_geq, intB_shr_u64, intB_shl1_u64, intB_and64, intB_or64, intB_xor64, wr_i64, wr_u8, wr_u64, convI_int, unV_not, boolB_eql, boolB_neq, pickV_true, pickV_false, lenSl_slice, ptr_at, fwdP_at, ixArr_at, load1_own, loadA_own, storeN_own, T.get_upd_same, T.get_upd_ne, cellsIn_some, putIn_cells, tl, ts, if_pos, Nat.zero_add, Nat.mul_one, Nat.add_zero, Int.toNat_natCast, ↓reduceIte, Nat.reduceLeDiff, Nat.reduceAdd, Nat.le_refl, setV_cells] <;> rfl) rfl rfl rfl rfl) ?_
  refine loopP_rule (fun n e h' nx' => ∃ i : Nat, i + n = l.length ∧ nx + 3 ≤ nx' ∧ e 0 = v ∧ e 2 = ptr nx ∧ e 3 = ptr (nx + 2) ∧ e 4 = .int .i64 i ∧ Sub h h' ∧ Fr h' nx' ∧
    h'.get nx = some (.cells (setL 0).toArray y_api_Set) ∧ h'.get (nx + 2) = some (.cells (setL (ofBytes 0 (l.take i))).toArray y_api_Set)) ?_ (n := l.length) ⟨0, by omega, by omega, rfl, rfl, rfl, rfl, ?_, ?_, ?_, ?_⟩
  · rintro n e h' nx' ⟨i, hin, hnx, e0, e2, e3, e4, hs, hf', g1, g2⟩ Q' hc hx
    unfold ref01_Of_L1
    rw [e0, e3, e4]
    have hlenv := (hv.sub hs).len
    rw [bytesC_len] at hlenv
    refine bindP_mk hlenv ?_
    repeat (first | refine bindP_mk (by simp (disch := first | omega | exact Int.natCast_nonneg _ | assumption) only [newP_eq, optP_some, optP_none, bindP_some', condP_true, condP_false, ifP_tt, ifP_ff, ifP_tf, ifP_ft, exP_normal, exP_exit, exP_ret, beqP_true, beqP_false, Option.bind_some, Value.cells_agg, cells_int, cells_bool, intB_add, intB_sub, intB_mul, intB_quo, intB_rem, intB_eql, intB_neq, intB_lss, intB_leq, intB_gtr, intB_geq, intB_shr_u64, intB_shl1_u64, intB_and64, intB_or64, intB_xor64, wr_i64, wr_u8, wr_u64, convI_int, unV_not, boolB_eql, boolB_neq, pickV_true, pickV_false, lenSl_slice, ptr_at, fwdP_at, ixArr_at, load1_own, loadA_own, storeN_own, T.get_upd_same, T.get_upd_ne, cellsIn_some, putIn_cells, tl, ts, if_pos, Nat.zero_add, Nat.mul_one, Nat.add_zero, Int.toNat_natCast, ↓reduceIte, Nat.reduceLeDiff, Nat.reduceAdd, Nat.le_refl] <;> rfl) ?_ | refine newP_mk ?_ | refine optP_mk ?_ | refine condP_t ?_ | refine condP_f ?_ | refine ifP_tt' ?_ | refine ifP_ff' ?_ | refine ifP_tf' ?_ | refine ifP_ft' ?_ | refine optP_mk0 ?_)
    by_cases hi : i < l.length
    · refine condP_tr (by simp; omega) ?_
      refine bindP_mk (loadA_all g2 rfl) ?_
      refine bindP_mk ((hv.sub hs).ix _ (by rw [bytesC_len]; exact hi)) ?_
      refine bindP_mk ((hv.sub hs).load1 (bytesC_get hi)) ?_
      refine ref01_with_c (hl _ (List.getElem_mem hi)) (hf'.mono (by omega)) fun n1 hn1 => ?_
      refine bindP_mk (storeA_own (l := setL _) (vs := setL _) g2 rfl rfl rfl rfl) ?_
      repeat (first | refine bindP_mk (by simp (disch := first | omega | exact Int.natCast_nonneg _ | assumption) only [newP_eq, optP_some, optP_none, bindP_some', condP_true, condP_false, ifP_tt, ifP_ff, ifP_tf, ifP_ft, exP_normal, exP_exit, exP_ret, beqP_true, beqP_false, Option.bind_some, Value.cells_agg, cells_int, cells_bool, intB_add, intB_sub, intB_mul, intB_quo, intB_rem, intB_eql, intB_neq, intB_lss, intB_leq, intB_gtr, intB_geq, intB_shr_u64, intB_shl1_u64, intB_and64, intB_or64, intB_xor64, wr_i64, wr_u8, wr_u64, convI_int, unV_not, boolB_eql, boolB_neq, pickV_true, pickV_false, lenSl_slice, ptr_at, fwdP_at, ixArr_at, load1_own, loadA_own, storeN_own, T.get_upd_same, T.get_upd_ne, cellsIn_some, putIn_cells, tl, ts, if_pos, Nat.zero_add, Nat.mul_one, Nat.add_zero, Int.toNat_natCast, ↓reduceIte, Nat.reduceLeDiff, Nat.reduceAdd, Nat.le_refl] <;> rfl) ?_ | refine newP_mk ?_ | refine optP_mk ?_ | refine condP_t ?_ | refine condP_f ?_ | refine ifP_tt' ?_ | refine ifP_ff' ?_ | refine ifP_tf' ?_ | refine ifP_ft' ?_ | refine optP_mk0 ?_)
      refine hc (n - 1) _ _ _ _ (by omega) ⟨i + 1, by omega, ?_, e0, e2, e3, rfl, hs.new hf (by omega), (hf'.mono (by omega)).upd (Nat.le_refl _) (by omega), ?_, ?_⟩ (Sub.refl _)
      · omega
      · simp (disch := first | omega | exact Int.natCast_nonneg _ | assumption) only [newP_eq, optP_some, optP_none, bindP_some', condP_true, condP_false, ifP_tt, ifP_ff, ifP_tf, ifP_ft, exP_normal, exP_exit, exP_ret, beqP_true, beqP_false, Option.bind_some, Value.cells_agg, cells_int, cells_bool, intB_add, intB_sub, intB_mul, intB_quo, intB_rem, intB_eql, intB_neq, intB_lss, intB_leq, intB_gtr, intB_geq, intB_shr_u64, intB_shl1_u64, intB_and64, intB_or64, intB_xor64, wr_i64, wr_u8, wr_u64, convI_int, unV_not, boolB_eql, boolB_neq, pickV_true, pickV_false, lenSl_slice, ptr_at, fwdP_at, ixArr_at, load1_own, loadA_own, storeN_own, T.get_upd_same, T.get_upd_ne, cellsIn_some, putIn_cells, tl, ts, if_pos, Nat.zero_add, Nat.mul_one, Nat.add_zero, Int.toNat_natCast, ↓reduceIte, Nat.reduceLeDiff, Nat.reduceAdd, Nat.le_refl, g1]
      · rw [T.get_upd_same, ofBytes_take hi]
    · refine condP_fa (by simp; omega) ?_
      refine hx _ _ _ _ (fun e => by cases e) ?_
      show exP _ _ _ _
      rw [exP_exit]
      show ref01_Of_j1 ro K _ _ _
      unfold ref01_Of_j1
      show bindP (loadA ro h' 4 (e 3)) _
      rw [e3]
      refine bindP_mk (loadA_all g2 rfl) ?_
      show bindP (storeN 4 h' (e 2) _) _
      rw [e2]
      refine bindP_mk (storeA_own (l := setL _) (vs := setL _) g1 rfl rfl rfl rfl) ?_
      show bindP (loadA ro _ 4 (e 2)) _
      rw [e2]
      refine bindP_mk (loadA_all (by rw [T.get_upd_same]) rfl) ?_
      refine ⟨h, hs.new hf (Nat.le_refl _), ?_⟩
      have : l.take i = l := List.take_of_length_le (by omega)
      rw [this]
      exact hK _ (by omega)
  · exact (((Sub.refl h).new hf (Nat.le_refl _)).new hf (by omega)).new hf (by omega)
  · exact ((hf.upd (m := nx + 5) (by omega) (by omega)).upd (Nat.le_refl _) (by omega)).upd (Nat.le_refl _) (by omega)
  · simp (disch := first | omega | exact Int.natCast_nonneg _ | assumption) only [newP_eq, optP_some, optP_none, bindP_some', condP_true, condP_false, ifP_tt, ifP_ff, ifP_tf, ifP_ft, exP_normal, exP_exit, exP_ret, beqP_true, beqP_false, Option.bind_some, Value.cells_agg, cells_int, cells_bool, intB_add, intB_sub, intB_mul, intB_quo, intB_rem, intB_eql, intB_neq, intB_lss, intB_leq, intB_gtr, intB_geq, intB_shr_u64, intB_shl1_u64, intB_and64, intB_or64, intB_xor64, wr_i64, wr_u8, wr_u64, convI_int, unV_not, boolB_eql, boolB_neq, pickV_true, pickV_false, lenSl_slice, ptr_at, fwdP_at, ixArr_at, load1_own, loadA_own, storeN_own, T.get_upd_same, T.get_upd_ne, cellsIn_some, putIn_cells, tl, ts, if_pos, Nat.zero_add, Nat.mul_one, Nat.add_zero, Int.toNat_natCast, ↓reduceIte, Nat.reduceLeDiff, Nat.reduceAdd, Nat.le_refl, setV_cells]
  · rw [T.get_upd_same]; rfl
theorem bset_Of_c {ro : Ro} {v : Value} {l : List Nat} (hl : ∀ b ∈ l, b < 256) (hlen : l.length ≤ 1000000) {h : T Obj} {nx : Nat} {K : KV} (hf : Fr h nx) (hv : Sl ro h v 1 (bytesC l)) (hK : ∀ nx', nx ≤ nx' → K (setV (ofBytes 0 l)) h nx') : callP Try.prog ro i_bset_Of [v] h nx K := by
  apply bset_Of_of
  unfold bset_Of
  refine zer_Set_mk (newP_mk (zer_Set_mk (newP_mk ?_)))
  have hs2 : Sub h ((h.upd nx (some (.cells (Value.cells (setV 0)) y_api_Set))).upd (nx + 1) (some (.cells (Value.cells (setV 0)) y_api_Set))) := ((Sub.refl h).new hf (Nat.le_refl _)).new hf (by omega)
  have hlenv := (hv.sub hs2).len
  rw [bytesC_len] at hlenv
  refine bindP_mk hlenv ?_
  refine loopP_rule (fun n e h' nx' => ∃ i : Nat, i + n = l.length ∧ nx + 2 ≤ nx' ∧ e 6 = v ∧ e 7 = .int .i64 (l.length : Nat) ∧ e 2 = ptr nx ∧ e 3 = ptr (nx + 1) ∧ e 8 = .int .i64 i ∧ Sub h h' ∧ Fr h' nx' ∧
    h'.get nx = some (.cells (setL 0).toArray y_api_Set) ∧ h'.get (nx + 1) = some (.cells (setL (ofBytes 0 (l.take i))).toArray y_api_Set)) ?_ (n := l.length) ⟨0, by omega, by omega, rfl, rfl, rfl, rfl, rfl, hs2, ?_, ?_, ?_⟩
  · rintro n e h' nx' ⟨i, hin, hnx, e6, e7, e2, e3, e8, hs, hf', g1, g2⟩ Q' hc hx
    unfold bset_Of_L1
    rw [e6, e7, e3, e8]
    repeat (first | refine bindP_mk (by simp (disch := first | omega | exact Int.natCast_nonneg _ | assumption) only [newP_eq, optP_some, optP_none, bindP_some', condP_true, condP_false, ifP_tt, ifP_ff, ifP_tf, ifP_ft, exP_normal, exP_exit, exP_ret, beqP_true, beqP_false, Option.bind_some, Value.cells_agg, cells_int, cells_bool, intB_add, intB_sub, intB_mul, intB_quo, intB_rem, intB_eql, intB_neq, intB_lss, intB_leq, intB_gtr, intB_geq, intB_shr_u64, intB_shl1_u64, intB_and64, intB_or64, intB_xor64, wr_i64, wr_u8, wr_u64, convI_int, unV_not, boolB_eql, boolB_neq, pickV_true, pickV_false, lenSl_slice, ptr_at, fwdP_at, ixArr_at, load1_own, loadA_own, storeN_own, T.get_upd_same, T.get_upd_ne, cellsIn_some, putIn_cells, tl, ts, if_pos, Nat.zero_add, Nat.mul_one, Nat.add_zero, Int.toNat_natCast, ↓reduceIte, Nat.reduceLeDiff, Nat.reduceAdd, Nat.le_refl] <;> rfl) ?_ | refine newP_mk ?_ | refine optP_mk ?_ | refine condP_t ?_ | refine condP_f ?_ | refine ifP_tt' ?_ | refine ifP_ff' ?_ | refine ifP_tf' ?_ | refine ifP_ft' ?_ | refine optP_mk0 ?_)
    by_cases hi : i < l.length
    · refine condP_tr (by simp; omega) ?_
      refine bindP_mk ((hv.sub hs).ix _ (by rw [bytesC_len]; exact hi)) ?_
      refine bindP_mk ((hv.sub hs).load1 (bytesC_get hi)) ?_
      have hb := hl _ (List.getElem_mem hi)
      have ht := ofBytes_take (m := 0) hi
      generalize l[i] = b at hb ht
      have h1 : ((b:Int) / 64).toNat = b / 64 := by omega
      have h2 : ((b:Int) % 64).toNat = b % 64 := by omega
      have h4 : b / 64 < 4 := by omega
      generalize ofBytes 0 (l.take i) = m at g2 ht
      have h3 := word_lt m (b / 64)
      have h5 := setL_get (m := m) h4
      have h6 : ((2 ^ (b % 64) : Nat) : Int) ≤ 18446744073709551615 := pow_le_u64 (by omega)
      repeat (first | refine bindP_mk (by simp (disch := first | omega | exact Int.natCast_nonneg _ | assumption) only [newP_eq, optP_some, optP_none, bindP_some', condP_true, condP_false, ifP_tt, ifP_ff, ifP_tf, ifP_ft, exP_normal, exP_exit, exP_ret, beqP_true, beqP_false, Option.bind_some, Value.cells_agg, cells_int, cells_bool, intB_add, intB_sub, intB_mul, intB_quo, intB_rem, intB_eql, intB_neq, intB_lss, intB_leq, intB_gtr, intB_geq, intB_shr_u64, intB_shl1_u64, intB_and64, intB_or64, intB_xor64, wr_i64, wr_u8, wr_u64, convI_int, unV_not, boolB_eql, boolB_neq, pickV_true, pickV_false, lenSl_slice, ptr_at, fwdP_at, ixArr_at, load1_own, loadA_own, storeN_own, T.get_upd_same, T.get_upd_ne, cellsIn_some, putIn_cells, tl, ts, if_pos, Nat.zero_add, Nat.mul_one, Nat.add_zero, Int.toNat_natCast, ↓reduceIte, Nat.reduceLeDiff, Nat.reduceAdd, Nat.le_refl, g2, h1, h2, h5] <;> rfl) ?_ | refine newP_mk ?_ | refine optP_mk ?_ | refine condP_t ?_ | refine condP_f ?_ | refine ifP_tt' ?_ | refine ifP_ff' ?_ | refine ifP_tf' ?_ | refine ifP_ft' ?_ | refine optP_mk0 ?_)
      refine bindP_mk (store1_own (l := setL m) g2 h4 rfl rfl) ?_
      rw [show (word m (b / 64)).lor (2 ^ (b % 64)) = word m (b / 64) ||| 2 ^ (b % 64) from rfl, setL_set hb]
      repeat (first | refine bindP_mk (by simp (disch := first | omega | exact Int.natCast_nonneg _ | assumption) only [newP_eq, optP_some, optP_none, bindP_some', condP_true, condP_false, ifP_tt, ifP_ff, ifP_tf, ifP_ft, exP_normal, exP_exit, exP_ret, beqP_true, beqP_false, Option.bind_some, Value.cells_agg, cells_int, cells_bool, intB_add, intB_sub, intB_mul, intB_quo, intB_rem, intB_eql, intB_neq, intB_lss, intB_leq, intB_gtr, intB_geq, intB_shr_u64, intB_shl1_u64, intB_and64, intB_or64, intB_xor64, wr_i64, wr_u8, wr_u64, convI_int, unV_not, boolB_eql, boolB_neq, pickV_true, pickV_false, lenSl_slice, ptr_at, fwdP_at, ixArr_at, load1_own, loadA_own, storeN_own, T.get_upd_same, T.get_upd_ne, cellsIn_some, putIn_cells, tl, ts, if_pos, Nat.zero_add, Nat.mul_one, Nat.add_zero, Int.toNat_natCast, ↓reduceIte, Nat.reduceLeDiff, Nat.reduceAdd, Nat.le_refl] <;> rfl) ?_ | refine newP_mk ?_ | refine optP_mk ?_ | refine condP_t ?_ | refine condP_f ?_ | refine ifP_tt' ?_ | refine ifP_ff' ?_ | refine ifP_tf' ?_ | refine ifP_ft' ?_ | refine optP_mk0 ?_)
      refine hc (n - 1) _ _ _ _ (by omega) ⟨i + 1, by omega, ?_, e6, e7, e2, e3, rfl, hs.new hf (by omega), (hf'.mono (by omega)).upd (Nat.le_refl _) (by omega), ?_, ?_⟩ (Sub.refl _)
      · omega
      · simp (disch := first | omega | exact Int.natCast_nonneg _ | assumption) only [newP_eq, optP_some, optP_none, bindP_some', condP_true, condP_false, ifP_tt, ifP_ff, ifP_tf, ifP_ft, exP_normal, exP_exit, exP_ret, beqP_true, beqP_false, Option.bind_some, Value.cells_agg, cells_int, cells_bool, intB_add, intB_sub, intB_mul, intB_quo, intB_rem, intB_eql, intB_neq, intB_lss, intB_leq, intB_gtr, intB_geq, intB_shr_u64, intB_shl1_u64, intB_and64, intB_or64, intB_xor64, wr_i64, wr_u8, wr_u64, convI_int, unV_not, boolB_eql, boolB_neq, pickV_true, pickV_false, lenSl_slice, ptr_at, fwdP_at, ixArr_at, load1_own, loadA_own, storeN_own, T.get_upd_same, T.get_upd_ne, cellsIn_some, putIn_cells, tl, ts, if_pos, Nat.zero_add, Nat.mul_one, Nat.add_zero, Int.toNat_natCast, ↓reduceIte, Nat.reduceLeDiff, Nat.reduceAdd, Nat.le_refl, g1]
      · rw [T.get_upd_same, ht]
    · refine condP_fa (by simp; omega) ?_
      refine hx _ _ _ _ (fun e => by cases e) ?_
      show exP _ _ _ _
      rw [exP_exit]
      show bset_Of_j1 ro K _ _ _
      unfold bset_Of_j1
      show bindP (loadA ro h' 4 (e 3)) _
      rw [e3]
      refine bindP_mk (loadA_all g2 rfl) ?_
      show bindP (storeN 4 h' (e 2) _) _
      rw [e2]
      refine bindP_mk (storeA_own (l := setL _) (vs := setL _) g1 rfl rfl rfl rfl) ?_
      show bindP (loadA ro _ 4 (e 2)) _
      rw [e2]
      refine bindP_mk (loadA_all (by rw [T.get_upd_same]) rfl) ?_
      refine ⟨h, hs.new hf (Nat.le_refl _), ?_⟩
      have : l.take i = l := List.take_of_length_le (by omega)
      rw [this]
      exact hK _ (by omega)
  · exact (hf.upd (m := nx + 5) (by omega) (by omega)).upd (Nat.le_refl _) (by omega)
  · simp (disch := first | omega | exact Int.natCast_nonneg _ | assumption) only [newP_eq, optP_some, optP_none, bindP_some', condP_true, condP_false, ifP_tt, ifP_ff, ifP_tf, ifP_ft, exP_normal, exP_exit, exP_ret, beqP_true, beqP_false, Option.bind_some, Value.cells_agg, cells_int, cells_bool, intB_add, intB_sub, intB_mul, intB_quo, intB_rem, intB_eql, intB_neq, intB_lss, intB_leq, intB_gtr, intB_geq, intB_shr_u64, intB_shl1_u64, intB_and64, intB_or64, intB_xor64, wr_i64, wr_u8, wr_u64, convI_int, unV_not, boolB_eql, boolB_neq, pickV_true, pickV_false, lenSl_slice, ptr_at, fwdP_at, ixArr_at, load1_own, loadA_own, storeN_own, T.get_upd_same, T.get_upd_ne, cellsIn_some, putIn_cells, tl, ts, if_pos, Nat.zero_add, Nat.mul_one, Nat.add_zero, Int.toNat_natCast, ↓reduceIte, Nat.reduceLeDiff, Nat.reduceAdd, Nat.le_refl, setV_cells]
  · rw [T.get_upd_same]; rfl
end V
end Go.Proofs.Ytnjdhgbepoefiaa
