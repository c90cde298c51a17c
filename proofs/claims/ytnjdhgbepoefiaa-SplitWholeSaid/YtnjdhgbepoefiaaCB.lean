/- What Of, with hand back.
   No condition. -/
import Derived.Test.YtnjdhgbepoefiaaCA
set_option linter.unusedVariables false
set_option linter.unusedSimpArgs false
namespace Go.Proofs.Ytnjdhgbepoefiaa
namespace V
open PA
theorem setL_len (m : Nat) : (setL m).length = 4 := rfl
theorem setL_ok (m : Nat) : (setL m).all cellOk = true := rfl
theorem setL_dt (m : Nat) : List.take 4 (List.drop 0 (setL m)) = setL m := rfl
theorem zer_Set_mk {K : Value → Prop} (k : K (setV 0)) : bindP (zer Try.prog y_api_Set) K := by rw [zer_Set]; exact k
theorem over_set (m n : Nat) : over (setL m) 0 (setL n) = setL n := rfl
theorem setV_size (m : Nat) : (setV m).cells.size = 4 := rfl
theorem entE_0 (a : Value) (l : List Value) : entE (a :: l) 0 = a := rfl
theorem setV_def (m : Nat) : Value.agg (setL m).toArray = setV m := rfl
theorem setL_set {m b : Nat} (hb : b < 256) : (setL m).set (b / 64) (.int .u64 ((word m (b / 64) ||| 2 ^ (b % 64) : Nat) : Int)) = setL (m ||| 2 ^ b) := by
  have h0 := word_or m b 0
  have h1 := word_or m b 1
  have h2 := word_or m b 2
  have h3 := word_or m b 3
  have hq : b / 64 = 0 ∨ b / 64 = 1 ∨ b / 64 = 2 ∨ b / 64 = 3 := by omega
  unfold setL
  rcases hq with hq | hq | hq | hq <;> rw [hq] at h0 h1 h2 h3 ⊢ <;> simp at h0 h1 h2 h3 <;> simp [h0, h1, h2, h3]
theorem ref01_with_end {ro : Ro} {m w : Nat} {e : Env} {h h0 : T Obj} {id nx nx0 : Nat} {K : KV} (h2 : e 2 = at_ id 0 0) (h4 : e 4 = at_ (id + 1) 0 0) (g1 : h.get id = some (.cells (setL m).toArray y_api_Set)) (g2 : h.get (id + 1) = some (.cells (setL w).toArray y_api_Set))
    (hf : Fr h0 nx0) (hs : Sub h0 h) (hid : nx0 ≤ id) (hK : K (setV m) h0 (nx + 2)) : ref01_with_j1 ro K e h nx := by
  unfold ref01_with_j1
  repeat (first | refine bindP_mk (by simp (disch := first | omega | exact Int.natCast_nonneg _ | assumption) only [newP_eq, optP_some, optP_none, bindP_some', condP_true, condP_false, ifP_tt, ifP_ff, ifP_tf, ifP_ft, exP_normal, exP_exit, exP_ret, beqP_true, beqP_false, Option.bind_some, Value.cells_agg, cells_int, cells_bool, intB_add, intB_sub, intB_mul, intB_quo, intB_rem, intB_eql, intB_neq, intB_lss, intB_leq, intB_gtr, intB_geq, intB_shr_u64, intB_shl1_u64, intB_and64, intB_or64, intB_xor64, wr_i64, wr_u8, wr_u64, convI_int, unV_not, boolB_eql, boolB_neq, pickV_true, pickV_false, lenSl_slice, ptr_at, fwdP_at, ixArr_at, load1_own, loadA_own, storeN_own, T.get_upd_same, T.get_upd_ne, cellsIn_some, putIn_cells, tl, ts, if_pos, Nat.zero_add, Nat.mul_one, Nat.add_zero, Int.toNat_natCast, ↓reduceIte, Nat.reduceLeDiff, Nat.reduceAdd, Nat.le_refl, setV_cells, setL_len, setL_dt, setV_def, h2, h4, g1, g2, setV_size, setL_ok, over_set] <;> rfl) ?_ | refine newP_mk ?_ | refine optP_mk ?_ | refine condP_t ?_ | refine condP_f ?_ | refine ifP_tt' ?_ | refine ifP_ff' ?_ | refine ifP_tf' ?_ | refine ifP_ft' ?_ | refine optP_mk0 ?_)
  exact ⟨h0, hs.new hf (by omega), hK⟩
theorem ref01_with_c {ro : Ro} {m b : Nat} (hb : b < 256) {h : T Obj} {nx : Nat} {K : KV} (hf : Fr h nx) (hK : ∀ nx', nx ≤ nx' → K (setV (m ||| 2 ^ b)) h nx') : callP Try.prog ro i_ref01_with [setV m, .int .u8 b] h nx K := by
  apply ref01_with_of
  unfold ref01_with
  refine newP_mk (zer_Set_mk ?_)
  repeat (first | refine bindP_mk (by simp (disch := first | omega | exact Int.natCast_nonneg _ | assumption) only [newP_eq, optP_some, optP_none, bindP_some', condP_true, condP_false, ifP_tt, ifP_ff, ifP_tf, ifP_ft, exP_normal, exP_exit, exP_ret, beqP_true, beqP_false, Option.bind_some, Value.cells_agg, cells_int, cells_bool, intB_add, intB_sub, intB_mul, intB_quo, intB_rem, intB_eql, intB_neq, intB_lss, intB_leq, intB_gtr, intB_geq, intB_shr_u64, intB_shl1_u64, intB_and64, intB_or64, intB_xor64, wr_i64, wr_u8, wr_u64, convI_int, unV_not, boolB_eql, boolB_neq, pickV_true, pickV_false, lenSl_slice, ptr_at, fwdP_at, ixArr_at, load1_own, loadA_own, storeN_own, T.get_upd_same, T.get_upd_ne, cellsIn_some, putIn_cells, tl, ts, if_pos, Nat.zero_add, Nat.mul_one, Nat.add_zero, Int.toNat_natCast, ↓reduceIte, Nat.reduceLeDiff, Nat.reduceAdd, Nat.le_refl, setV_cells, setL_len, setL_dt, setV_def] <;> rfl) ?_ | refine newP_mk ?_ | refine optP_mk ?_ | refine condP_t ?_ | refine condP_f ?_ | refine ifP_tt' ?_ | refine ifP_ff' ?_ | refine ifP_tf' ?_ | refine ifP_ft' ?_ | refine optP_mk0 ?_)
  refine ref01_Has_c hb ((hf.mono (Nat.le_add_right nx 5)).upd (n := nx + 5) (Nat.le_refl _) (by omega) |>.upd (Nat.le_refl _) (by omega)) fun n hn => ?_
  repeat (first | refine bindP_mk (by simp (disch := first | omega | exact Int.natCast_nonneg _ | assumption) only [newP_eq, optP_some, optP_none, bindP_some', condP_true, condP_false, ifP_tt, ifP_ff, ifP_tf, ifP_ft, exP_normal, exP_exit, exP_ret, beqP_true, beqP_false, Option.bind_some, Value.cells_agg, cells_int, cells_bool, intB_add, intB_sub, intB_mul, intB_quo, intB_rem, intB_eql, intB_neq, intB_lss, intB_leq, intB_gtr, intB_geq, intB_shr_u64, intB_shl1_u64, intB_and64, intB_or64, intB_xor64, wr_i64, wr_u8, wr_u64, convI_int, unV_not, boolB_eql, boolB_neq, pickV_true, pickV_false, lenSl_slice, ptr_at, fwdP_at, ixArr_at, load1_own, loadA_own, storeN_own, T.get_upd_same, T.get_upd_ne, cellsIn_some, putIn_cells, tl, ts, if_pos, Nat.zero_add, Nat.mul_one, Nat.add_zero, Int.toNat_natCast, ↓reduceIte, Nat.reduceLeDiff, Nat.reduceAdd, Nat.le_refl] <;> rfl) ?_ | refine newP_mk ?_ | refine optP_mk ?_ | refine condP_t ?_ | refine condP_f ?_ | refine ifP_tt' ?_ | refine ifP_ff' ?_ | refine ifP_tf' ?_ | refine ifP_ft' ?_ | refine optP_mk0 ?_)
  have h1 : ((b:Int) / 64).toNat = b / 64 := by omega
  have h2 : ((b:Int) % 64).toNat = b % 64 := by omega
  have h3 := word_lt m (b / 64)
  have h4 : b / 64 < 4 := by omega
  have h5 := setL_get (m := m) h4
  cases hm : m.testBit b with
  | true =>
    repeat (first | refine bindP_mk (by simp (disch := first | omega | exact Int.natCast_nonneg _ | assumption) only [newP_eq, optP_some, optP_none, bindP_some', condP_true, condP_false, ifP_tt, ifP_ff, ifP_tf, ifP_ft, exP_normal, exP_exit, exP_ret, beqP_true, beqP_false, Option.bind_some, Value.cells_agg, cells_int, cells_bool, intB_add, intB_sub, intB_mul, intB_quo, intB_rem, intB_eql, intB_neq, intB_lss, intB_leq, intB_gtr, intB_geq, intB_shr_u64, intB_shl1_u64, intB_and64, intB_or64, intB_xor64, wr_i64, wr_u8, wr_u64, convI_int, unV_not, boolB_eql, boolB_neq, pickV_true, pickV_false, lenSl_slice, ptr_at, fwdP_at, ixArr_at, load1_own, loadA_own, storeN_own, T.get_upd_same, T.get_upd_ne, cellsIn_some, putIn_cells, tl, ts, if_pos, Nat.zero_add, Nat.mul_one, Nat.add_zero, Int.toNat_natCast, ↓reduceIte, Nat.reduceLeDiff, Nat.reduceAdd, Nat.le_refl] <;> rfl) ?_ | refine newP_mk ?_ | refine optP_mk ?_ | refine condP_t ?_ | refine condP_f ?_ | refine ifP_tt' ?_ | refine ifP_ff' ?_ | refine ifP_tf' ?_ | refine ifP_ft' ?_ | refine optP_mk0 ?_)
    refine ref01_with_end (m := m) (w := 0) (id := nx) rfl rfl ?_ ?_ hf ?_ (Nat.le_refl _) ?_
    · simp (disch := first | omega | exact Int.natCast_nonneg _ | assumption) only [newP_eq, optP_some, optP_none, bindP_some', condP_true, condP_false, ifP_tt, ifP_ff, ifP_tf, ifP_ft, exP_normal, exP_exit, exP_ret, beqP_true, beqP_false, Option.bind_some, Value.cells_agg, cells_int, cells_bool, intB_add, intB_sub, intB_mul, intB_quo, intB_rem, intB_eql, intB_neq, intB_lss, intB_leq, intB_gtr, intB_geq, intB_shr_u64, intB_shl1_u64, intB_and64, intB_or64, intB_xor64, wr_i64, wr_u8, wr_u64, convI_int, unV_not, boolB_eql, boolB_neq, pickV_true, pickV_false, lenSl_slice, ptr_at, fwdP_at, ixArr_at, load1_own, loadA_own, storeN_own, T.get_upd_same, T.get_upd_ne, cellsIn_some, putIn_cells, tl, ts, if_pos, Nat.zero_add, Nat.mul_one, Nat.add_zero, Int.toNat_natCast, ↓reduceIte, Nat.reduceLeDiff, Nat.reduceAdd, Nat.le_refl, setV_cells]
    · simp (disch := first | omega | exact Int.natCast_nonneg _ | assumption) only [newP_eq, optP_some, optP_none, bindP_some', condP_true, condP_false, ifP_tt, ifP_ff, ifP_tf, ifP_ft, exP_normal, exP_exit, exP_ret, beqP_true, beqP_false, Option.bind_some, Value.cells_agg, cells_int, cells_bool, intB_add, intB_sub, intB_mul, intB_quo, intB_rem, intB_eql, intB_neq, intB_lss, intB_leq, intB_gtr, intB_geq, intB_shr_u64, intB_shl1_u64, intB_and64, intB_or64, intB_xor64, wr_i64, wr_u8, wr_u64, convI_int, unV_not, boolB_eql, boolB_neq, pickV_true, pickV_false, lenSl_slice, ptr_at, fwdP_at, ixArr_at, load1_own, loadA_own, storeN_own, T.get_upd_same, T.get_upd_ne, cellsIn_some, putIn_cells, tl, ts, if_pos, Nat.zero_add, Nat.mul_one, Nat.add_zero, Int.toNat_natCast, ↓reduceIte, Nat.reduceLeDiff, Nat.reduceAdd, Nat.le_refl, setV_cells]
    · exact ((Sub.refl h).new hf (Nat.le_refl _)).new hf (by omega)
    · have := hK (n + 1 + 2) (by omega)
      rw [or_pow_self hm] at this; exact this
  | false =>
    have h6 : (word m (b / 64)).testBit (b % 64) = false := by
      rw [testBit_word, Nat.div_add_mod, hm]; simp
    have h7 := add_pow h6
    have h8 : word m (b / 64) + 2 ^ (b % 64) < 18446744073709551616 := by
      rw [h7]; exact Nat.or_lt_two_pow (n := 64) h3 (Nat.pow_lt_pow_right (by decide) (by omega))
    have h9 : ((word m (b / 64) : Nat) : Int) + ((2 ^ (b % 64) : Nat) : Int) = ((word m (b / 64) ||| 2 ^ (b % 64) : Nat) : Int) := by rw [← h7]; exact (Int.natCast_add _ _).symm
    have h10 : ((word m (b / 64) ||| 2 ^ (b % 64) : Nat) : Int) ≤ 18446744073709551615 := cast_le (by rw [← h7]; exact h8)
    have h11 := over_one (.int .u64 ((word m (b / 64) ||| 2 ^ (b % 64) : Nat) : Int)) (l := setL m) (off := b / 64) (by rw [setL_len]; omega)
    repeat (first | refine bindP_mk (by simp (disch := first | omega | exact Int.natCast_nonneg _ | assumption) only [newP_eq, optP_some, optP_none, bindP_some', condP_true, condP_false, ifP_tt, ifP_ff, ifP_tf, ifP_ft, exP_normal, exP_exit, exP_ret, beqP_true, beqP_false, Option.bind_some, Value.cells_agg, cells_int, cells_bool, intB_add, intB_sub, intB_mul, intB_quo, intB_rem, intB_eql, intB_neq, intB_lss, intB_leq, intB_gtr, intB_geq, intB_shr_u64, intB_shl1_u64, intB_and64, intB_or64, intB_xor64, wr_i64, wr_u8, wr_u64, convI_int, unV_not, boolB_eql, boolB_neq, pickV_true, pickV_false, lenSl_slice, ptr_at, fwdP_at, ixArr_at, load1_own, loadA_own, storeN_own, T.get_upd_same, T.get_upd_ne, cellsIn_some, putIn_cells, tl, ts, if_pos, Nat.zero_add, Nat.mul_one, Nat.add_zero, Int.toNat_natCast, ↓reduceIte, Nat.reduceLeDiff, Nat.reduceAdd, Nat.le_refl, setV_cells, h1, h2, h5, h9] <;> rfl) ?_ | refine newP_mk ?_ | refine optP_mk ?_ | refine condP_t ?_ | refine condP_f ?_ | refine ifP_tt' ?_ | refine ifP_ff' ?_ | refine ifP_tf' ?_ | refine ifP_ft' ?_ | refine optP_mk0 ?_)
    refine bindP_mk (store1_own (l := setL m) (by simp (disch := first | omega | exact Int.natCast_nonneg _ | assumption) only [newP_eq, optP_some, optP_none, bindP_some', condP_true, condP_false, ifP_tt, ifP_ff, ifP_tf, ifP_ft, exP_normal, exP_exit, exP_ret, beqP_true, beqP_false, Option.bind_some, Value.cells_agg, cells_int, cells_bool, intB_add, intB_sub, intB_mul, intB_quo, intB_rem, intB_eql, intB_neq, intB_lss, intB_leq, intB_gtr, intB_geq, intB_shr_u64, intB_shl1_u64, intB_and64, intB_or64, intB_xor64, wr_i64, wr_u8, wr_u64, convI_int, unV_not, boolB_eql, boolB_neq, pickV_true, pickV_false, lenSl_slice, ptr_at, fwdP_at, ixArr_at, load1_own, loadA_own, storeN_own, T.get_upd_same, T.get_upd_ne, cellsIn_some, putIn_cells, tl, ts, if_pos, Nat.zero_add, Nat.mul_one, Nat.add_zero, Int.toNat_natCast, ↓reduceIte, Nat.reduceLeDiff, Nat.reduceAdd, Nat.le_refl, setV_cells] <;> rfl) h4 rfl rfl) ?_
    rw [setL_set hb]
    refine ref01_with_end (m := m ||| 2 ^ b) (w := 0) (id := nx) rfl rfl ?_ ?_ hf ?_ (Nat.le_refl _) (hK _ (by omega))
    · simp (disch := first | omega | exact Int.natCast_nonneg _ | assumption) only [newP_eq, optP_some, optP_none, bindP_some', condP_true, condP_false, ifP_tt, ifP_ff, ifP_tf, ifP_ft, exP_normal, exP_exit, exP_ret, beqP_true, beqP_false, Option.bind_some, Value.cells_agg, cells_int, cells_bool, intB_add, intB_sub, intB_mul, intB_quo, intB_rem, intB_eql, intB_neq, intB_lss, intB_leq, intB_gtr, intB_geq, intB_shr_u64, intB_shl1_u64, intB_and64, intB_or64, intB_xor64, wr_i64, wr_u8, wr_u64, convI_int, unV_not, boolB_eql, boolB_neq, pickV_true, pickV_false, lenSl_slice, ptr_at, fwdP_at, ixArr_at, load1_own, loadA_own, storeN_own, T.get_upd_same, T.get_upd_ne, cellsIn_some, putIn_cells, tl, ts, if_pos, Nat.zero_add, Nat.mul_one, Nat.add_zero, Int.toNat_natCast, ↓reduceIte, Nat.reduceLeDiff, Nat.reduceAdd, Nat.le_refl, setV_cells]
    · simp (disch := first | omega | exact Int.natCast_nonneg _ | assumption) only [newP_eq, optP_some, optP_none, bindP_some', condP_true, condP_false, ifP_tt, ifP_ff, ifP_tf, ifP_ft, exP_normal, exP_exit, exP_ret, beqP_true, beqP_false, Option.bind_some, Value.cells_agg, cells_int, cells_bool, intB_add, intB_sub, intB_mul, intB_quo, intB_rem, intB_eql, intB_neq, intB_lss, intB_leq, intB_gtr, intB_geq, intB_shr_u64, intB_shl1_u64, intB_and64, intB_or64, intB_xor64, wr_i64, wr_u8, wr_u64, convI_int, unV_not, boolB_eql, boolB_neq, pickV_true, pickV_false, lenSl_slice, ptr_at, fwdP_at, ixArr_at, load1_own, loadA_own, storeN_own, T.get_upd_same, T.get_upd_ne, cellsIn_some, putIn_cells, tl, ts, if_pos, Nat.zero_add, Nat.mul_one, Nat.add_zero, Int.toNat_natCast, ↓reduceIte, Nat.reduceLeDiff, Nat.reduceAdd, Nat.le_refl, setV_cells]
    · exact (((Sub.refl h).new hf (Nat.le_refl _)).new hf (by omega)).new hf (Nat.le_refl _)
end V
end Go.Proofs.Ytnjdhgbepoefiaa
