/- What Not hands back; the law SplitOrder as the machine runs it.
   No condition. -/
import Derived.Test.YtnjdhgbepoefiaaCJ
set_option linter.unusedVariables false
set_option linter.unusedSimpArgs false
namespace Go.Proofs.Ytnjdhgbepoefiaa
namespace V
open PA
theorem testBit_ofBytes (m : Nat) (l : List Nat) (b : Nat) : (ofBytes m l).testBit b = (m.testBit b || decide (b ∈ l)) := by
  induction l generalizing m with
  | nil => simp [ofBytes]
  | cons a l ih =>
    have : ofBytes m (a :: l) = ofBytes (m ||| 2 ^ a) l := rfl
    rw [this, ih, Nat.testBit_or, Nat.testBit_two_pow]
    by_cases e : a = b
    · subst e; simp
    · have : ¬ b = a := fun h => e h.symm
      simp [e, this]
theorem ofBytes_lt {m : Nat} {l : List Nat} (hm : m < 2 ^ 256) (hl : ∀ b ∈ l, b < 256) : ofBytes m l < 2 ^ 256 := by
  induction l generalizing m with
  | nil => exact hm
  | cons a l ih => exact ih (or_lt_256 hm (hl a (by simp))) fun b hb => hl b (by simp [hb])
/-- What is not in a set, below a byte. -/
def nots (m i : Nat) : List Nat := (List.range i).filter fun b => !m.testBit b
def notS (m : Nat) : Nat := ofBytes 0 (nots m 256)
theorem nots_succ (m i : Nat) : nots m (i + 1) = nots m i ++ (if m.testBit i = false then [i] else []) := by
  unfold nots
  rw [List.range_succ, List.filter_append]
  cases h : m.testBit i <;> simp [h]
theorem testBit_notS {m b : Nat} (hb : b < 256) : (notS m).testBit b = !m.testBit b := by
  unfold notS
  rw [testBit_ofBytes]
  simp [nots, hb]
theorem notS_lt (m : Nat) : notS m < 2 ^ 256 := ofBytes_lt (by decide) fun b hb => by
  simp [nots] at hb; exact hb.1
set_option maxRecDepth 4000 in
theorem ref01_Not_c {ro : Ro} {m : Nat} {h : T Obj} {nx : Nat} {K : KV} (hf : Fr h nx) (hK : ∀ nx', nx ≤ nx' → K (setV (notS m)) h nx') : callP Try.prog ro i_ref01_Not [setV m] h nx K := by
  apply ref01_Not_of
  unfold ref01_Not
  refine newP_mk (zer_Set_mk (newP_mk (buildV_Set_mk (zer_Set_mk (newP_mk ?_)))))
  refine bindP_mk (storeA_own (l := setL 0) (vs := setL 0) (by simp (disch := first | omega | exact Int.natCast_nonneg _ | assumption) only [newP_eq, optP_some, optP_none, bindP_some', condP_true, condP_false, ifP_tt, ifP_ff, ifP_tf, ifP_ft, exP_normal, exP_exit, exP_ret, beqP_true, beqP_false, Option.bind_some, Value.cells_agg, cells_int, cells_bool, intB_add, intB_sub, intB_mul, intB_quo, intB_rem, intB_eql, intB_neq, intB_lss, intB_leq, intB_gtr, intB_geq, intB_shr_u64, intB_shl1_u64, intB_and64, intB_or64, intB_xor64, wr_i64, wr_u8, wr_u64, convI_int, unV_not, boolB_eql, boolB_neq, pickV_true, pickV_false, lenSl_slice, ptr_at, fwdP_at, ixArr_at, load1_own, loadA_own, storeN_own, T.get_upd_same, T.get_upd_ne, cellsIn_some, putIn_cells, tl, ts, if_pos, Nat.zero_add, Nat.mul_one, Nat.add_zero, Int.toNat_natCast, ↓reduceIte, Nat.reduceLeDiff, Nat.reduceAdd, Nat.le_refl, setV_cells] <;> rfl) rfl rfl rfl rfl) ?_
  refine loopP_rule (fun n e h' nx' => ∃ i : Nat, i + n = 256 ∧ nx + 4 ≤ nx' ∧ e 1 = ptr nx ∧ e 2 = ptr (nx + 1) ∧ e 3 = ptr (nx + 3) ∧ e 4 = .int .i64 i ∧ Sub h h' ∧ Fr h' nx' ∧
    h'.get nx = some (.cells (setL m).toArray y_api_Set) ∧ h'.get (nx + 1) = some (.cells (setL 0).toArray y_api_Set) ∧ h'.get (nx + 3) = some (.cells (setL (ofBytes 0 (nots m i))).toArray y_api_Set)) ?_ (n := 256) ⟨0, by omega, by omega, rfl, rfl, rfl, rfl, ?_, ?_, ?_, ?_, ?_⟩
  · rintro n e h' nx' ⟨i, hin, hnx, e1, e2, e3, e4, hs, hf', g1, g2, g3⟩ Q' hc hx
    unfold ref01_Not_L1
    rw [e1, e3, e4]
    repeat (first | refine bindP_mk (by simp (disch := first | omega | exact Int.natCast_nonneg _ | assumption) only [newP_eq, optP_some, optP_none, bindP_some', condP_true, condP_false, ifP_tt, ifP_ff, ifP_tf, ifP_ft, exP_normal, exP_exit, exP_ret, beqP_true, beqP_false, Option.bind_some, Value.cells_agg, cells_int, cells_bool, intB_add, intB_sub, intB_mul, intB_quo, intB_rem, intB_eql, intB_neq, intB_lss, intB_leq, intB_gtr, intB_geq, intB_shr_u64, intB_shl1_u64, intB_and64, intB_or64, intB_xor64, wr_i64, wr_u8, wr_u64, convI_int, unV_not, boolB_eql, boolB_neq, pickV_true, pickV_false, lenSl_slice, ptr_at, fwdP_at, ixArr_at, load1_own, loadA_own, storeN_own, T.get_upd_same, T.get_upd_ne, cellsIn_some, putIn_cells, tl, ts, if_pos, Nat.zero_add, Nat.mul_one, Nat.add_zero, Int.toNat_natCast, ↓reduceIte, Nat.reduceLeDiff, Nat.reduceAdd, Nat.le_refl] <;> rfl) ?_ | refine newP_mk ?_ | refine optP_mk ?_ | refine condP_t ?_ | refine condP_f ?_ | refine ifP_tt' ?_ | refine ifP_ff' ?_ | refine ifP_tf' ?_ | refine ifP_ft' ?_ | refine optP_mk0 ?_)
    by_cases hi : i < 256
    · refine condP_tr (by simp; omega) ?_
      refine bindP_mk (loadA_all g1 rfl) ?_
      repeat (first | refine bindP_mk (by simp (disch := first | omega | exact Int.natCast_nonneg _ | assumption) only [newP_eq, optP_some, optP_none, bindP_some', condP_true, condP_false, ifP_tt, ifP_ff, ifP_tf, ifP_ft, exP_normal, exP_exit, exP_ret, beqP_true, beqP_false, Option.bind_some, Value.cells_agg, cells_int, cells_bool, intB_add, intB_sub, intB_mul, intB_quo, intB_rem, intB_eql, intB_neq, intB_lss, intB_leq, intB_gtr, intB_geq, intB_shr_u64, intB_shl1_u64, intB_and64, intB_or64, intB_xor64, wr_i64, wr_u8, wr_u64, convI_int, unV_not, boolB_eql, boolB_neq, pickV_true, pickV_false, lenSl_slice, ptr_at, fwdP_at, ixArr_at, load1_own, loadA_own, storeN_own, T.get_upd_same, T.get_upd_ne, cellsIn_some, putIn_cells, tl, ts, if_pos, Nat.zero_add, Nat.mul_one, Nat.add_zero, Int.toNat_natCast, ↓reduceIte, Nat.reduceLeDiff, Nat.reduceAdd, Nat.le_refl] <;> rfl) ?_ | refine newP_mk ?_ | refine optP_mk ?_ | refine condP_t ?_ | refine condP_f ?_ | refine ifP_tt' ?_ | refine ifP_ff' ?_ | refine ifP_tf' ?_ | refine ifP_ft' ?_ | refine optP_mk0 ?_)
      refine ref01_Has_c hi (hf'.mono (by omega)) fun n1 hn1 => ?_
      repeat (first | refine bindP_mk (by simp (disch := first | omega | exact Int.natCast_nonneg _ | assumption) only [newP_eq, optP_some, optP_none, bindP_some', condP_true, condP_false, ifP_tt, ifP_ff, ifP_tf, ifP_ft, exP_normal, exP_exit, exP_ret, beqP_true, beqP_false, Option.bind_some, Value.cells_agg, cells_int, cells_bool, intB_add, intB_sub, intB_mul, intB_quo, intB_rem, intB_eql, intB_neq, intB_lss, intB_leq, intB_gtr, intB_geq, intB_shr_u64, intB_shl1_u64, intB_and64, intB_or64, intB_xor64, wr_i64, wr_u8, wr_u64, convI_int, unV_not, boolB_eql, boolB_neq, pickV_true, pickV_false, lenSl_slice, ptr_at, fwdP_at, ixArr_at, load1_own, loadA_own, storeN_own, T.get_upd_same, T.get_upd_ne, cellsIn_some, putIn_cells, tl, ts, if_pos, Nat.zero_add, Nat.mul_one, Nat.add_zero, Int.toNat_natCast, ↓reduceIte, Nat.reduceLeDiff, Nat.reduceAdd, Nat.le_refl] <;> rfl) ?_ | refine newP_mk ?_ | refine optP_mk ?_ | refine condP_t ?_ | refine condP_f ?_ | refine ifP_tt' ?_ | refine ifP_ff' ?_ | refine ifP_tf' ?_ | refine ifP_ft' ?_ | refine optP_mk0 ?_)
      have hj2 : ∀ (e : Env) (h1 : T Obj) (n2 : Nat), nx' ≤ n2 → e 1 = ptr nx → e 2 = ptr (nx + 1) → e 3 = ptr (nx + 3) → e 4 = .int .i64 i → Sub h h1 → Fr h1 n2 → h1.get nx = some (.cells (setL m).toArray y_api_Set) → h1.get (nx + 1) = some (.cells (setL 0).toArray y_api_Set) →
          h1.get (nx + 3) = some (.cells (setL (ofBytes 0 (nots m (i + 1)))).toArray y_api_Set) → ref01_Not_j2 ro Q' e h1 n2 := by
        intro e h1 n2 hn2 e1 e2 e3 e4 hs1 hf1 g1 g2 g3
        unfold ref01_Not_j2
        rw [e4]
        repeat (first | refine bindP_mk (by simp (disch := first | omega | exact Int.natCast_nonneg _ | assumption) only [newP_eq, optP_some, optP_none, bindP_some', condP_true, condP_false, ifP_tt, ifP_ff, ifP_tf, ifP_ft, exP_normal, exP_exit, exP_ret, beqP_true, beqP_false, Option.bind_some, Value.cells_agg, cells_int, cells_bool, intB_add, intB_sub, intB_mul, intB_quo, intB_rem, intB_eql, intB_neq, intB_lss, intB_leq, intB_gtr, intB_geq, intB_shr_u64, intB_shl1_u64, intB_and64, intB_or64, intB_xor64, wr_i64, wr_u8, wr_u64, convI_int, unV_not, boolB_eql, boolB_neq, pickV_true, pickV_false, lenSl_slice, ptr_at, fwdP_at, ixArr_at, load1_own, loadA_own, storeN_own, T.get_upd_same, T.get_upd_ne, cellsIn_some, putIn_cells, tl, ts, if_pos, Nat.zero_add, Nat.mul_one, Nat.add_zero, Int.toNat_natCast, ↓reduceIte, Nat.reduceLeDiff, Nat.reduceAdd, Nat.le_refl] <;> rfl) ?_ | refine newP_mk ?_ | refine optP_mk ?_ | refine condP_t ?_ | refine condP_f ?_ | refine ifP_tt' ?_ | refine ifP_ff' ?_ | refine ifP_tf' ?_ | refine ifP_ft' ?_ | refine optP_mk0 ?_)
        exact hc (n - 1) _ _ _ _ (by omega) ⟨i + 1, by omega, by omega, e1, e2, e3, rfl, hs1, hf1.mono (by omega), g1, g2, g3⟩ (Sub.refl _)
      cases hb : m.testBit i with
      | true =>
        refine condP_fa rfl ?_
        refine hj2 _ _ _ (by omega) e1 e2 e3 e4 hs (hf'.mono (by omega)) g1 g2 ?_
        rw [nots_succ, hb, if_neg (by simp), List.append_nil]; exact g3
      | false =>
        refine condP_tr rfl ?_
        refine bindP_mk (loadA_all g3 rfl) ?_
        repeat (first | refine bindP_mk (by simp (disch := first | omega | exact Int.natCast_nonneg _ | assumption) only [newP_eq, optP_some, optP_none, bindP_some', condP_true, condP_false, ifP_tt, ifP_ff, ifP_tf, ifP_ft, exP_normal, exP_exit, exP_ret, beqP_true, beqP_false, Option.bind_some, Value.cells_agg, cells_int, cells_bool, intB_add, intB_sub, intB_mul, intB_quo, intB_rem, intB_eql, intB_neq, intB_lss, intB_leq, intB_gtr, intB_geq, intB_shr_u64, intB_shl1_u64, intB_and64, intB_or64, intB_xor64, wr_i64, wr_u8, wr_u64, convI_int, unV_not, boolB_eql, boolB_neq, pickV_true, pickV_false, lenSl_slice, ptr_at, fwdP_at, ixArr_at, load1_own, loadA_own, storeN_own, T.get_upd_same, T.get_upd_ne, cellsIn_some, putIn_cells, tl, ts, if_pos, Nat.zero_add, Nat.mul_one, Nat.add_zero, Int.toNat_natCast, ↓reduceIte, Nat.reduceLeDiff, Nat.reduceAdd, Nat.le_refl] <;> rfl) ?_ | refine newP_mk ?_ | refine optP_mk ?_ | refine condP_t ?_ | refine condP_f ?_ | refine ifP_tt' ?_ | refine ifP_ff' ?_ | refine ifP_tf' ?_ | refine ifP_ft' ?_ | refine optP_mk0 ?_)
        refine ref01_with_c hi (hf'.mono (by omega)) fun n2 hn2 => ?_
        refine bindP_mk (storeA_own (l := setL _) (vs := setL _) g3 rfl rfl rfl rfl) ?_
        refine hj2 _ _ _ (by omega) e1 e2 e3 e4 (hs.new hf (by omega)) ((hf'.mono (by omega)).upd (Nat.le_refl _) (by omega)) ?_ ?_ ?_
        · simp (disch := first | omega | exact Int.natCast_nonneg _ | assumption) only [newP_eq, optP_some, optP_none, bindP_some', condP_true, condP_false, ifP_tt, ifP_ff, ifP_tf, ifP_ft, exP_normal, exP_exit, exP_ret, beqP_true, beqP_false, Option.bind_some, Value.cells_agg, cells_int, cells_bool, intB_add, intB_sub, intB_mul, intB_quo, intB_rem, intB_eql, intB_neq, intB_lss, intB_leq, intB_gtr, intB_geq, intB_shr_u64, intB_shl1_u64, intB_and64, intB_or64, intB_xor64, wr_i64, wr_u8, wr_u64, convI_int, unV_not, boolB_eql, boolB_neq, pickV_true, pickV_false, lenSl_slice, ptr_at, fwdP_at, ixArr_at, load1_own, loadA_own, storeN_own, T.get_upd_same, T.get_upd_ne, cellsIn_some, putIn_cells, tl, ts, if_pos, Nat.zero_add, Nat.mul_one, Nat.add_zero, Int.toNat_natCast, ↓reduceIte, Nat.reduceLeDiff, Nat.reduceAdd, Nat.le_refl, g1]
        · simp (disch := first | omega | exact Int.natCast_nonneg _ | assumption) only [newP_eq, optP_some, optP_none, bindP_some', condP_true, condP_false, ifP_tt, ifP_ff, ifP_tf, ifP_ft, exP_normal, exP_exit, exP_ret, beqP_true, beqP_false, Option.bind_some, Value.cells_agg, cells_int, cells_bool, intB_add, intB_sub, intB_mul, intB_quo, intB_rem, intB_eql, intB_neq, intB_lss, intB_leq, intB_gtr, intB_geq, intB_shr_u64, intB_shl1_u64, intB_and64, intB_or64, intB_xor64, wr_i64, wr_u8, wr_u64, convI_int, unV_not, boolB_eql, boolB_neq, pickV_true, pickV_false, lenSl_slice, ptr_at, fwdP_at, ixArr_at, load1_own, loadA_own, storeN_own, T.get_upd_same, T.get_upd_ne, cellsIn_some, putIn_cells, tl, ts, if_pos, Nat.zero_add, Nat.mul_one, Nat.add_zero, Int.toNat_natCast, ↓reduceIte, Nat.reduceLeDiff, Nat.reduceAdd, Nat.le_refl, g2]
        · rw [T.get_upd_same, nots_succ, hb, if_pos rfl]
          have : ofBytes 0 (nots m i ++ [i]) = ofBytes 0 (nots m i) ||| 2 ^ i := by unfold ofBytes; rw [List.foldl_append]; rfl
          rw [this]
    · refine condP_fa (by simp; omega) ?_
      refine hx _ _ _ _ (fun e => by cases e) (exP_e (beqP_t ?_))
      have hi2 : i = 256 := by omega
      subst hi2
      unfold ref01_Not_j1
      show bindP (loadA ro h' 4 (e 3)) _
      rw [e3]
      show bindP _ fun t => bindP (storeN 4 _ (e 2) t) fun h8 => bindP (loadA ro h8 4 (e 2)) _
      rw [e2]
      exact ret_copy (id1 := nx + 3) (id2 := nx + 1) (n0 := nx) (h0 := h) g3 g2 rfl rfl rfl hf hs (by omega) (hK _ (by omega))
  · exact ((((Sub.refl h).new hf (Nat.le_refl _)).new hf (by omega)).new hf (by omega)).new hf (by omega)
  · exact (((hf.upd (m := nx + 6) (by omega) (by omega)).upd (Nat.le_refl _) (by omega)).upd (Nat.le_refl _) (by omega)).upd (Nat.le_refl _) (by omega)
  · simp (disch := first | omega | exact Int.natCast_nonneg _ | assumption) only [newP_eq, optP_some, optP_none, bindP_some', condP_true, condP_false, ifP_tt, ifP_ff, ifP_tf, ifP_ft, exP_normal, exP_exit, exP_ret, beqP_true, beqP_false, Option.bind_some, Value.cells_agg, cells_int, cells_bool, intB_add, intB_sub, intB_mul, intB_quo, intB_rem, intB_eql, intB_neq, intB_lss, intB_leq, intB_gtr, intB_geq, intB_shr_u64, intB_shl1_u64, intB_and64, intB_or64, intB_xor64, wr_i64, wr_u8, wr_u64, convI_int, unV_not, boolB_eql, boolB_neq, pickV_true, pickV_false, lenSl_slice, ptr_at, fwdP_at, ixArr_at, load1_own, loadA_own, storeN_own, T.get_upd_same, T.get_upd_ne, cellsIn_some, putIn_cells, tl, ts, if_pos, Nat.zero_add, Nat.mul_one, Nat.add_zero, Int.toNat_natCast, ↓reduceIte, Nat.reduceLeDiff, Nat.reduceAdd, Nat.le_refl, setV_cells]
  · simp (disch := first | omega | exact Int.natCast_nonneg _ | assumption) only [newP_eq, optP_some, optP_none, bindP_some', condP_true, condP_false, ifP_tt, ifP_ff, ifP_tf, ifP_ft, exP_normal, exP_exit, exP_ret, beqP_true, beqP_false, Option.bind_some, Value.cells_agg, cells_int, cells_bool, intB_add, intB_sub, intB_mul, intB_quo, intB_rem, intB_eql, intB_neq, intB_lss, intB_leq, intB_gtr, intB_geq, intB_shr_u64, intB_shl1_u64, intB_and64, intB_or64, intB_xor64, wr_i64, wr_u8, wr_u64, convI_int, unV_not, boolB_eql, boolB_neq, pickV_true, pickV_false, lenSl_slice, ptr_at, fwdP_at, ixArr_at, load1_own, loadA_own, storeN_own, T.get_upd_same, T.get_upd_ne, cellsIn_some, putIn_cells, tl, ts, if_pos, Nat.zero_add, Nat.mul_one, Nat.add_zero, Int.toNat_natCast, ↓reduceIte, Nat.reduceLeDiff, Nat.reduceAdd, Nat.le_refl, setV_cells]
  · rw [T.get_upd_same]; rfl
/-! ### Sets to which are appended -/
theorem und_sets' : und Try.prog y_s_api_Set = some (.slice y_api_Set) := by kernel_rfl
theorem tin_set : ∃ i, tin Try.prog y_api_Set = some i ∧ i.size = 4 ∧ i.bytes = 32 := by
  have h : (tin Try.prog y_api_Set).map (fun i => (i.size, i.bytes)) = some (4, 32) := by kernel_rfl
  cases hi : tin Try.prog y_api_Set with
  | none => rw [hi] at h; cases h
  | some i => rw [hi] at h; simp at h; exact ⟨i, rfl, h.1, h.2⟩
theorem setsC_ok (l : List Nat) : (setsC l).flatten.all cellOk = true := by
  induction l with
  | nil => rfl
  | cons a l ih =>
    have : (setsC (a :: l)).flatten = setL a ++ (setsC l).flatten := by simp [setsC]
    rw [this, List.all_append, ih, setL_ok]; rfl
theorem append_sets {ro : Ro} {h : T Obj} {v x : Value} {nx lo hi : Nat} {l m : List Nat} (ho : Own h v 4 y_api_Set (setsC l) lo hi) (hx : Sl ro h x 4 (setsC m)) (hm : m ≠ []) (hb : l.length + m.length ≤ 1000000) (hlo : lo ≤ nx) (hnx : hi ≤ nx) :
    ∃ h' r, appendV Try.prog ro h nx #[y_s_api_Set, y_s_api_Set] [v, x] = some (r, h', nx + 1) ∧ Own h' r 4 y_api_Set (setsC (l ++ m)) lo (nx + 1) ∧ (∀ k, (k < lo ∨ hi ≤ k) → k ≠ nx → h'.get k = h.get k) ∧ (∀ k, k ≠ nx → h'.get k = h.get k ∨ h'.get k = none) := by
  obtain ⟨i, h1, h2, h3⟩ := tin_set
  have hcat : setsC l ++ setsC m = setsC (l ++ m) := by simp [setsC]
  have hl1 : (setsC l).length = l.length := setsC_len l
  have hl2 : (setsC m).length = m.length := setsC_len m
  obtain ⟨h', q1, q2, q3, q4⟩ := append_own (P := Try.prog) (t := y_s_api_Set) ho hx und_sets' h1 h2 (by omega) zer_Set rfl (by intro e; apply hm; simpa [setsC] using e) (setsC_ok m) (by rw [hl1, hl2, h3]; unfold big; omega) (by rw [hl1, hl2]; unfold big; omega) hlo hnx
  rw [hcat] at q1 q2
  exact ⟨h', _, q1, q2, q3, q4⟩
theorem lit_set1 (aid x : Nat) : sliceLitV Try.prog y_s_api_Set aid 1 [(0, setV x)] = some (.slice (some (own aid 4)) 1 1, some (.cells (setL x).toArray y_api_Set)) := by kernel_rfl
theorem lit_set1_sl {ro : Ro} {h : T Obj} {id x : Nat} (hg : h.get id = some (.cells (setL x).toArray y_api_Set)) : Sl ro h (.slice (some (own id 4)) 1 1) 4 (setsC [x]) := Sl.own (l := setsC [x]) (e := y_api_Set) (f := (0, 0)) (by rw [hg]; simp [setsC]) (by simp [setsC, setL_len]) (Nat.le_refl _)
/-- Nothing is appended. -/
theorem append_nothing {ro : Ro} {h : T Obj} {v x : Value} {nx lo hi : Nat} {l : List Nat} (ho : Own h v 4 y_api_Set (setsC l) lo hi) (hx : Sl ro h x 4 (setsC [])) : appendV Try.prog ro h nx #[y_s_api_Set, y_s_api_Set] [v, x] = some (v, h, nx) := by
  obtain ⟨i, h1, h2, h3⟩ := tin_set
  obtain ⟨base, n, rfl⟩ : ∃ base n, v = .slice base n n := by
    rcases ho with ⟨rfl, _⟩ | ⟨id, _, _, rfl, _⟩ <;> exact ⟨_, _, rfl⟩
  have hs : srcV Try.prog ro h y_api_Set i.size i.bytes y_s_api_Set x = some (0, []) := by
    unfold srcV
    rw [und_sets']
    rcases hx with ⟨rfl, _⟩ | ⟨a, cap, rfl, _, _, _, hc⟩
    · rfl
    · simp [setsC] at hc
      simp [setsC, hc]
  have hb : Nat.ble (n + 0) n = true := by simp
  simp only [appendV, List.getElem?_toArray, List.getElem?_cons_zero, List.getElem?_cons_succ, und_sets', h1, Option.bind_some, hs, hb]
/-! ### The law -/
theorem cls_of_map {x y : List Nat} {f : List Bool → List Bool} (hs : ∀ b, b < 256 → sig y b = f (sig x b)) (hf : ∀ s t : List Bool, f s = f t → s = t) : cls y = cls x ∧ many y = many x := by
  have e : sigs y = (sigs x).map f := by
    unfold sigs
    rw [List.map_map]
    exact List.map_congr_left fun b hb => hs b (mem_bs.1 hb)
  unfold cls many
  rw [e]
  exact ⟨num_map fun a _ b _ h => hf a b h, dd_map_length fun a _ b _ h => hf a b h⟩
theorem sig_append (l m : List Nat) (b : Nat) : sig (l ++ m) b = sig l b ++ sig m b := by simp [sig]
theorem sig_nots {l : List Nat} {b : Nat} (hb : b < 256) : sig (l.map notS) b = (sig l b).map (!·) := by
  simp [sig, testBit_notS hb]
theorem sig_reverse (l : List Nat) (b : Nat) : sig l.reverse b = (sig l b).reverse := by simp [sig]
theorem not_inj : ∀ {s t : List Bool}, s.map (!·) = t.map (!·) → s = t
  | [], [], _ => rfl
  | a :: s, b :: t, h => by
    simp only [List.map_cons, List.cons.injEq] at h
    have h1 : a = b := by have := h.1; cases a <;> cases b <;> simp at this ⊢
    rw [h1, not_inj h.2]
  | [], _ :: _, h => by simp at h
  | _ :: _, [], h => by simp at h
theorem order1 (x : List Nat) : cls (x.reverse.map notS) = cls x ∧ many (x.reverse.map notS) = many x := by
  refine cls_of_map (f := fun s => s.reverse.map (!·)) (fun b hb => by rw [sig_nots hb, sig_reverse]) fun s t h => ?_
  have := not_inj h
  simpa using congrArg List.reverse this
theorem order2 (x : List Nat) : cls (x.reverse.map notS ++ x) = cls x ∧ many (x.reverse.map notS ++ x) = many x := by
  refine cls_of_map (f := fun s => s.reverse.map (!·) ++ s) (fun b hb => by rw [sig_append, sig_nots hb, sig_reverse]) fun s t h => ?_
  have hl : s.length = t.length := by
    have := congrArg List.length h
    simp at this; omega
  exact (List.append_inj h (by simp [hl])).2
set_option maxRecDepth 4000 in
theorem law02_SplitOrder_c {ro : Ro} {v : Value} {l : List Nat} {h : T Obj} {nx : Nat} {K : KV} (hf : Fr h nx) (hv : Sl ro h v 4 (setsC l)) (hK : ∀ nx', nx ≤ nx' → K (.bool true) h nx') : callP Try.prog ro i_law02_SplitOrder [v] h nx K := by
  apply law02_SplitOrder_of
  unfold law02_SplitOrder
  refine law02_shown_c (hf.mono (by omega)) fun n1 hn1 => ?_
  refine law02_few_c (hf.mono (by omega)) hv fun r n2 hr hn2 => ?_
  have ht : (l.take 20).length ≤ 20 := by rw [List.length_take]; omega
  generalize l.take 20 = x at hr ht
  have hlen := hr.len
  rw [setsC_len] at hlen
  refine bindP_mk hlen ?_
  have hyl : (x.reverse.map notS).length = x.length := by simp
  refine loopP_rule (fun n e h' nx' => ∃ (i : Nat) (yv : Value), i + n = x.length ∧ n2 + 5 ≤ nx' ∧ e 3 = .bool true ∧ e 4 = r ∧ e 5 = yv ∧ e 11 = .int .i64 (x.length : Nat) ∧ e 12 = .int .i64 i ∧ Sub h h' ∧ Fr h' nx' ∧
    Own h' yv 4 y_api_Set (setsC ((x.reverse.map notS).take i)) n2 nx') ?_ (n := x.length) ⟨0, _, by omega, by omega, rfl, rfl, rfl, rfl, rfl, Sub.refl _, hf.mono (by omega), Own.nil⟩
  rintro n e h' nx' ⟨i, yv, hin, hnx, e3, e4, e5, e11, e12, hs, hf', ho⟩ Q' hc hx
  unfold law02_SplitOrder_L1
  rw [e4, e5, e11, e12]
  repeat (first | refine bindP_mk (by simp (disch := first | omega | exact Int.natCast_nonneg _ | assumption) only [newP_eq, optP_some, optP_none, bindP_some', condP_true, condP_false, ifP_tt, ifP_ff, ifP_tf, ifP_ft, exP_normal, exP_exit, exP_ret, beqP_true, beqP_false, Option.bind_some, Value.cells_agg, cells_int, cells_bool, intB_add, intB_sub, intB_mul, intB_quo, intB_rem, intB_eql, intB_neq, intB_lss, intB_leq, intB_gtr, intB_geq, intB_shr_u64, intB_shl1_u64, intB_and64, intB_or64, intB_xor64, wr_i64, wr_u8, wr_u64, convI_int, unV_not, boolB_eql, boolB_neq, pickV_true, pickV_false, lenSl_slice, ptr_at, fwdP_at, ixArr_at, load1_own, loadA_own, storeN_own, T.get_upd_same, T.get_upd_ne, cellsIn_some, putIn_cells, tl, ts, if_pos, Nat.zero_add, Nat.mul_one, Nat.add_zero, Int.toNat_natCast, ↓reduceIte, Nat.reduceLeDiff, Nat.reduceAdd, Nat.le_refl] <;> rfl) ?_ | refine newP_mk ?_ | refine optP_mk ?_ | refine condP_t ?_ | refine condP_f ?_ | refine ifP_tt' ?_ | refine ifP_ff' ?_ | refine ifP_tf' ?_ | refine ifP_ft' ?_ | refine optP_mk0 ?_)
  by_cases hi : i < x.length
  · refine condP_tr (by simp; omega) ?_
    refine bindP_mk hlen ?_
    repeat (first | refine bindP_mk (by simp (disch := first | omega | exact Int.natCast_nonneg _ | assumption) only [newP_eq, optP_some, optP_none, bindP_some', condP_true, condP_false, ifP_tt, ifP_ff, ifP_tf, ifP_ft, exP_normal, exP_exit, exP_ret, beqP_true, beqP_false, Option.bind_some, Value.cells_agg, cells_int, cells_bool, intB_add, intB_sub, intB_mul, intB_quo, intB_rem, intB_eql, intB_neq, intB_lss, intB_leq, intB_gtr, intB_geq, intB_shr_u64, intB_shl1_u64, intB_and64, intB_or64, intB_xor64, wr_i64, wr_u8, wr_u64, convI_int, unV_not, boolB_eql, boolB_neq, pickV_true, pickV_false, lenSl_slice, ptr_at, fwdP_at, ixArr_at, load1_own, loadA_own, storeN_own, T.get_upd_same, T.get_upd_ne, cellsIn_some, putIn_cells, tl, ts, if_pos, Nat.zero_add, Nat.mul_one, Nat.add_zero, Int.toNat_natCast, ↓reduceIte, Nat.reduceLeDiff, Nat.reduceAdd, Nat.le_refl] <;> rfl) ?_ | refine newP_mk ?_ | refine optP_mk ?_ | refine condP_t ?_ | refine condP_f ?_ | refine ifP_tt' ?_ | refine ifP_ff' ?_ | refine ifP_tf' ?_ | refine ifP_ft' ?_ | refine optP_mk0 ?_)
    have hidx : (x.length : Int) - 1 - (i : Int) = ((x.length - 1 - i : Nat) : Int) := by omega
    rw [hidx]
    have hi2 : x.length - 1 - i < x.length := by omega
    refine bindP_mk ((hr.sub hs).ix _ (by rw [setsC_len]; exact hi2)) ?_
    refine bindP_mk ((hr.sub hs).loadA (setsC_get hi2)) ?_
    refine ref01_Not_c (hf'.mono (by omega)) fun n3 hn3 => ?_
    refine bindP_mk (lit_set1 _ _) (optP_mk ?_)
    have ho2 := ho.keep (h' := h'.upd n3 (some (.cells (setL (notS x[x.length - 1 - i])).toArray y_api_Set))) (hi' := n3) (by omega) fun id h1 h2 o hg => by rw [T.get_upd_ne _ _ (by omega)]; exact hg
    obtain ⟨h2, r2, q1, q2, q3, q4⟩ := append_sets (nx := n3 + 2) ho2 (lit_set1_sl (T.get_upd_same _ _ _)) (by simp) (by rw [List.length_take, hyl]; simp; omega) (by omega) (by omega)
    refine bindP_mk q1 ?_
    dsimp only
    repeat (first | refine bindP_mk (by simp (disch := first | omega | exact Int.natCast_nonneg _ | assumption) only [newP_eq, optP_some, optP_none, bindP_some', condP_true, condP_false, ifP_tt, ifP_ff, ifP_tf, ifP_ft, exP_normal, exP_exit, exP_ret, beqP_true, beqP_false, Option.bind_some, Value.cells_agg, cells_int, cells_bool, intB_add, intB_sub, intB_mul, intB_quo, intB_rem, intB_eql, intB_neq, intB_lss, intB_leq, intB_gtr, intB_geq, intB_shr_u64, intB_shl1_u64, intB_and64, intB_or64, intB_xor64, wr_i64, wr_u8, wr_u64, convI_int, unV_not, boolB_eql, boolB_neq, pickV_true, pickV_false, lenSl_slice, ptr_at, fwdP_at, ixArr_at, load1_own, loadA_own, storeN_own, T.get_upd_same, T.get_upd_ne, cellsIn_some, putIn_cells, tl, ts, if_pos, Nat.zero_add, Nat.mul_one, Nat.add_zero, Int.toNat_natCast, ↓reduceIte, Nat.reduceLeDiff, Nat.reduceAdd, Nat.le_refl] <;> rfl) ?_ | refine newP_mk ?_ | refine optP_mk ?_ | refine condP_t ?_ | refine condP_f ?_ | refine ifP_tt' ?_ | refine ifP_ff' ?_ | refine ifP_tf' ?_ | refine ifP_ft' ?_ | refine optP_mk0 ?_)
    refine hc (n - 1) _ _ _ _ (by omega) ⟨i + 1, r2, by omega, ?_, e3, e4, rfl, e11, rfl, ?_, ?_, ?_⟩ (Sub.refl _)
    · omega
    · intro b o hb
      have hbn : b < nx := by
        rcases Nat.lt_or_ge b nx with h9 | h9
        · exact h9
        · rw [hf b h9] at hb; cases hb
      rw [q3 b (.inl (by omega)) (by omega), T.get_upd_ne _ _ (by omega)]
      exact hs b o hb
    · intro b hb
      rw [q3 b (.inr (by omega)) (by omega), T.get_upd_ne _ _ (by omega)]
      exact hf' b (by omega)
    · have e9 : (x.reverse.map notS).take (i + 1) = (x.reverse.map notS).take i ++ [notS x[x.length - 1 - i]] := by
        rw [List.take_succ_eq_append_getElem (by rw [hyl]; exact hi)]
        simp
      rw [e9]
      exact q2.keep (by omega) fun _ _ _ _ hg => hg
  · refine condP_fa (by simp; omega) ?_
    refine hx _ _ _ _ (fun e => by cases e) (exP_e (beqP_t ?_))
    unfold law02_SplitOrder_j1
    have hi2 : i = x.length := by omega
    have hty : (x.reverse.map notS).take i = x.reverse.map notS := List.take_of_length_le (by rw [hyl]; omega)
    rw [hty] at ho
    generalize hy : x.reverse.map notS = y at ho hyl
    have o1 := order1 x
    have o2 := order2 x
    rw [hy] at o1 o2
    have f3 : ∀ w, Env.put e 13 w 3 = .bool true := fun w => e3
    have f4 : ∀ w, Env.put e 13 w 4 = r := fun w => e4
    have f5 : ∀ w, Env.put e 13 w 5 = yv := fun w => e5
    simp only [puts, f3, f4, f5]
    repeat (first | refine bindP_mk (by simp (disch := first | omega | exact Int.natCast_nonneg _ | assumption) only [newP_eq, optP_some, optP_none, bindP_some', condP_true, condP_false, ifP_tt, ifP_ff, ifP_tf, ifP_ft, exP_normal, exP_exit, exP_ret, beqP_true, beqP_false, Option.bind_some, Value.cells_agg, cells_int, cells_bool, intB_add, intB_sub, intB_mul, intB_quo, intB_rem, intB_eql, intB_neq, intB_lss, intB_leq, intB_gtr, intB_geq, intB_shr_u64, intB_shl1_u64, intB_and64, intB_or64, intB_xor64, wr_i64, wr_u8, wr_u64, convI_int, unV_not, boolB_eql, boolB_neq, pickV_true, pickV_false, lenSl_slice, ptr_at, fwdP_at, ixArr_at, load1_own, loadA_own, storeN_own, T.get_upd_same, T.get_upd_ne, cellsIn_some, putIn_cells, tl, ts, if_pos, Nat.zero_add, Nat.mul_one, Nat.add_zero, Int.toNat_natCast, ↓reduceIte, Nat.reduceLeDiff, Nat.reduceAdd, Nat.le_refl] <;> rfl) ?_ | refine newP_mk ?_ | refine optP_mk ?_ | refine condP_t ?_ | refine condP_f ?_ | refine ifP_tt' ?_ | refine ifP_ff' ?_ | refine ifP_tf' ?_ | refine ifP_ft' ?_ | refine optP_mk0 ?_)
    refine split_Of_c (l := x) (by omega) (hf'.mono (by omega)) (hr.sub hs) fun n3 hn3 => ?_
    repeat (first | refine bindP_mk (by simp (disch := first | omega | exact Int.natCast_nonneg _ | assumption) only [newP_eq, optP_some, optP_none, bindP_some', condP_true, condP_false, ifP_tt, ifP_ff, ifP_tf, ifP_ft, exP_normal, exP_exit, exP_ret, beqP_true, beqP_false, Option.bind_some, Value.cells_agg, cells_int, cells_bool, intB_add, intB_sub, intB_mul, intB_quo, intB_rem, intB_eql, intB_neq, intB_lss, intB_leq, intB_gtr, intB_geq, intB_shr_u64, intB_shl1_u64, intB_and64, intB_or64, intB_xor64, wr_i64, wr_u8, wr_u64, convI_int, unV_not, boolB_eql, boolB_neq, pickV_true, pickV_false, lenSl_slice, ptr_at, fwdP_at, ixArr_at, load1_own, loadA_own, storeN_own, T.get_upd_same, T.get_upd_ne, cellsIn_some, putIn_cells, tl, ts, if_pos, Nat.zero_add, Nat.mul_one, Nat.add_zero, Int.toNat_natCast, ↓reduceIte, Nat.reduceLeDiff, Nat.reduceAdd, Nat.le_refl] <;> rfl) ?_ | refine newP_mk ?_ | refine optP_mk ?_ | refine condP_t ?_ | refine condP_f ?_ | refine ifP_tt' ?_ | refine ifP_ff' ?_ | refine ifP_tf' ?_ | refine ifP_ft' ?_ | refine optP_mk0 ?_)
    refine split_Of_c (l := y) (by omega) (hf'.mono (by omega)) ho.sl fun n4 hn4 => ?_
    repeat (first | refine bindP_mk (by simp (disch := first | omega | exact Int.natCast_nonneg _ | assumption) only [newP_eq, optP_some, optP_none, bindP_some', condP_true, condP_false, ifP_tt, ifP_ff, ifP_tf, ifP_ft, exP_normal, exP_exit, exP_ret, beqP_true, beqP_false, Option.bind_some, Value.cells_agg, cells_int, cells_bool, intB_add, intB_sub, intB_mul, intB_quo, intB_rem, intB_eql, intB_neq, intB_lss, intB_leq, intB_gtr, intB_geq, intB_shr_u64, intB_shl1_u64, intB_and64, intB_or64, intB_xor64, wr_i64, wr_u8, wr_u64, convI_int, unV_not, boolB_eql, boolB_neq, pickV_true, pickV_false, lenSl_slice, ptr_at, fwdP_at, ixArr_at, load1_own, loadA_own, storeN_own, T.get_upd_same, T.get_upd_ne, cellsIn_some, putIn_cells, tl, ts, if_pos, Nat.zero_add, Nat.mul_one, Nat.add_zero, Int.toNat_natCast, ↓reduceIte, Nat.reduceLeDiff, Nat.reduceAdd, Nat.le_refl] <;> rfl) ?_ | refine newP_mk ?_ | refine optP_mk ?_ | refine condP_t ?_ | refine condP_f ?_ | refine ifP_tt' ?_ | refine ifP_ff' ?_ | refine ifP_tf' ?_ | refine ifP_ft' ?_ | refine optP_mk0 ?_)
    refine bindP_mk plain_Split ?_
    refine bindP_mk (eq_split (cls_length _) (cls_length _)) ?_
    rw [decide_eq_true (⟨o1.1.symm, o1.2.symm⟩ : cls x = cls y ∧ many x = many y)]
    repeat (first | refine bindP_mk (by simp (disch := first | omega | exact Int.natCast_nonneg _ | assumption) only [newP_eq, optP_some, optP_none, bindP_some', condP_true, condP_false, ifP_tt, ifP_ff, ifP_tf, ifP_ft, exP_normal, exP_exit, exP_ret, beqP_true, beqP_false, Option.bind_some, Value.cells_agg, cells_int, cells_bool, intB_add, intB_sub, intB_mul, intB_quo, intB_rem, intB_eql, intB_neq, intB_lss, intB_leq, intB_gtr, intB_geq, intB_shr_u64, intB_shl1_u64, intB_and64, intB_or64, intB_xor64, wr_i64, wr_u8, wr_u64, convI_int, unV_not, boolB_eql, boolB_neq, pickV_true, pickV_false, lenSl_slice, ptr_at, fwdP_at, ixArr_at, load1_own, loadA_own, storeN_own, T.get_upd_same, T.get_upd_ne, cellsIn_some, putIn_cells, tl, ts, if_pos, Nat.zero_add, Nat.mul_one, Nat.add_zero, Int.toNat_natCast, ↓reduceIte, Nat.reduceLeDiff, Nat.reduceAdd, Nat.le_refl] <;> rfl) ?_ | refine newP_mk ?_ | refine optP_mk ?_ | refine condP_t ?_ | refine condP_f ?_ | refine ifP_tt' ?_ | refine ifP_ff' ?_ | refine ifP_tf' ?_ | refine ifP_ft' ?_ | refine optP_mk0 ?_)
    by_cases hx0 : x = []
    · subst hx0
      have hy0 : y = [] := by rw [← hy]; rfl
      subst hy0
      refine bindP_mk (append_nothing ho (hr.sub hs)) ?_
      dsimp only
      repeat (first | refine bindP_mk (by simp (disch := first | omega | exact Int.natCast_nonneg _ | assumption) only [newP_eq, optP_some, optP_none, bindP_some', condP_true, condP_false, ifP_tt, ifP_ff, ifP_tf, ifP_ft, exP_normal, exP_exit, exP_ret, beqP_true, beqP_false, Option.bind_some, Value.cells_agg, cells_int, cells_bool, intB_add, intB_sub, intB_mul, intB_quo, intB_rem, intB_eql, intB_neq, intB_lss, intB_leq, intB_gtr, intB_geq, intB_shr_u64, intB_shl1_u64, intB_and64, intB_or64, intB_xor64, wr_i64, wr_u8, wr_u64, convI_int, unV_not, boolB_eql, boolB_neq, pickV_true, pickV_false, lenSl_slice, ptr_at, fwdP_at, ixArr_at, load1_own, loadA_own, storeN_own, T.get_upd_same, T.get_upd_ne, cellsIn_some, putIn_cells, tl, ts, if_pos, Nat.zero_add, Nat.mul_one, Nat.add_zero, Int.toNat_natCast, ↓reduceIte, Nat.reduceLeDiff, Nat.reduceAdd, Nat.le_refl] <;> rfl) ?_ | refine newP_mk ?_ | refine optP_mk ?_ | refine condP_t ?_ | refine condP_f ?_ | refine ifP_tt' ?_ | refine ifP_ff' ?_ | refine ifP_tf' ?_ | refine ifP_ft' ?_ | refine optP_mk0 ?_)
      refine split_Of_c (l := ([] : List Nat) ++ []) (by simp) (hf'.mono (by omega)) ho.sl fun n6 hn6 => ?_
      repeat (first | refine bindP_mk (by simp (disch := first | omega | exact Int.natCast_nonneg _ | assumption) only [newP_eq, optP_some, optP_none, bindP_some', condP_true, condP_false, ifP_tt, ifP_ff, ifP_tf, ifP_ft, exP_normal, exP_exit, exP_ret, beqP_true, beqP_false, Option.bind_some, Value.cells_agg, cells_int, cells_bool, intB_add, intB_sub, intB_mul, intB_quo, intB_rem, intB_eql, intB_neq, intB_lss, intB_leq, intB_gtr, intB_geq, intB_shr_u64, intB_shl1_u64, intB_and64, intB_or64, intB_xor64, wr_i64, wr_u8, wr_u64, convI_int, unV_not, boolB_eql, boolB_neq, pickV_true, pickV_false, lenSl_slice, ptr_at, fwdP_at, ixArr_at, load1_own, loadA_own, storeN_own, T.get_upd_same, T.get_upd_ne, cellsIn_some, putIn_cells, tl, ts, if_pos, Nat.zero_add, Nat.mul_one, Nat.add_zero, Int.toNat_natCast, ↓reduceIte, Nat.reduceLeDiff, Nat.reduceAdd, Nat.le_refl] <;> rfl) ?_ | refine newP_mk ?_ | refine optP_mk ?_ | refine condP_t ?_ | refine condP_f ?_ | refine ifP_tt' ?_ | refine ifP_ff' ?_ | refine ifP_tf' ?_ | refine ifP_ft' ?_ | refine optP_mk0 ?_)
      refine split_Of_c (l := ([] : List Nat)) (by simp) (hf'.mono (by omega)) (hr.sub hs) fun n7 hn7 => ?_
      repeat (first | refine bindP_mk (by simp (disch := first | omega | exact Int.natCast_nonneg _ | assumption) only [newP_eq, optP_some, optP_none, bindP_some', condP_true, condP_false, ifP_tt, ifP_ff, ifP_tf, ifP_ft, exP_normal, exP_exit, exP_ret, beqP_true, beqP_false, Option.bind_some, Value.cells_agg, cells_int, cells_bool, intB_add, intB_sub, intB_mul, intB_quo, intB_rem, intB_eql, intB_neq, intB_lss, intB_leq, intB_gtr, intB_geq, intB_shr_u64, intB_shl1_u64, intB_and64, intB_or64, intB_xor64, wr_i64, wr_u8, wr_u64, convI_int, unV_not, boolB_eql, boolB_neq, pickV_true, pickV_false, lenSl_slice, ptr_at, fwdP_at, ixArr_at, load1_own, loadA_own, storeN_own, T.get_upd_same, T.get_upd_ne, cellsIn_some, putIn_cells, tl, ts, if_pos, Nat.zero_add, Nat.mul_one, Nat.add_zero, Int.toNat_natCast, ↓reduceIte, Nat.reduceLeDiff, Nat.reduceAdd, Nat.le_refl] <;> rfl) ?_ | refine newP_mk ?_ | refine optP_mk ?_ | refine condP_t ?_ | refine condP_f ?_ | refine ifP_tt' ?_ | refine ifP_ff' ?_ | refine ifP_tf' ?_ | refine ifP_ft' ?_ | refine optP_mk0 ?_)
      refine bindP_mk plain_Split ?_
      refine bindP_mk (eq_split (cls_length _) (cls_length _)) ?_
      rw [decide_eq_true o2]
      repeat (first | refine bindP_mk (by simp (disch := first | omega | exact Int.natCast_nonneg _ | assumption) only [newP_eq, optP_some, optP_none, bindP_some', condP_true, condP_false, ifP_tt, ifP_ff, ifP_tf, ifP_ft, exP_normal, exP_exit, exP_ret, beqP_true, beqP_false, Option.bind_some, Value.cells_agg, cells_int, cells_bool, intB_add, intB_sub, intB_mul, intB_quo, intB_rem, intB_eql, intB_neq, intB_lss, intB_leq, intB_gtr, intB_geq, intB_shr_u64, intB_shl1_u64, intB_and64, intB_or64, intB_xor64, wr_i64, wr_u8, wr_u64, convI_int, unV_not, boolB_eql, boolB_neq, pickV_true, pickV_false, lenSl_slice, ptr_at, fwdP_at, ixArr_at, load1_own, loadA_own, storeN_own, T.get_upd_same, T.get_upd_ne, cellsIn_some, putIn_cells, tl, ts, if_pos, Nat.zero_add, Nat.mul_one, Nat.add_zero, Int.toNat_natCast, ↓reduceIte, Nat.reduceLeDiff, Nat.reduceAdd, Nat.le_refl] <;> rfl) ?_ | refine newP_mk ?_ | refine optP_mk ?_ | refine condP_t ?_ | refine condP_f ?_ | refine ifP_tt' ?_ | refine ifP_ff' ?_ | refine ifP_tf' ?_ | refine ifP_ft' ?_ | refine optP_mk0 ?_)
      exact ⟨h, hs, hK _ (by omega)⟩
    · obtain ⟨h2, r2, q1, q2, q3, q4⟩ := append_sets (nx := n4 + 1 + 3 + 1 + 1) ho (hr.sub hs) hx0 (by omega) (by omega) (by omega)
      refine bindP_mk q1 ?_
      dsimp only
      have hs2 : Sub h h2 := fun b o hb => by
        have hbn : b < nx := by
          rcases Nat.lt_or_ge b nx with h9 | h9
          · exact h9
          · rw [hf b h9] at hb; cases hb
        rw [q3 b (.inl (by omega)) (by omega)]
        exact hs b o hb
      have hf2 : Fr h2 (n4 + 1 + 3 + 1 + 1 + 1) := fun b hb => by
        rw [q3 b (.inr (by omega)) (by omega)]
        exact hf' b (by omega)
      repeat (first | refine bindP_mk (by simp (disch := first | omega | exact Int.natCast_nonneg _ | assumption) only [newP_eq, optP_some, optP_none, bindP_some', condP_true, condP_false, ifP_tt, ifP_ff, ifP_tf, ifP_ft, exP_normal, exP_exit, exP_ret, beqP_true, beqP_false, Option.bind_some, Value.cells_agg, cells_int, cells_bool, intB_add, intB_sub, intB_mul, intB_quo, intB_rem, intB_eql, intB_neq, intB_lss, intB_leq, intB_gtr, intB_geq, intB_shr_u64, intB_shl1_u64, intB_and64, intB_or64, intB_xor64, wr_i64, wr_u8, wr_u64, convI_int, unV_not, boolB_eql, boolB_neq, pickV_true, pickV_false, lenSl_slice, ptr_at, fwdP_at, ixArr_at, load1_own, loadA_own, storeN_own, T.get_upd_same, T.get_upd_ne, cellsIn_some, putIn_cells, tl, ts, if_pos, Nat.zero_add, Nat.mul_one, Nat.add_zero, Int.toNat_natCast, ↓reduceIte, Nat.reduceLeDiff, Nat.reduceAdd, Nat.le_refl] <;> rfl) ?_ | refine newP_mk ?_ | refine optP_mk ?_ | refine condP_t ?_ | refine condP_f ?_ | refine ifP_tt' ?_ | refine ifP_ff' ?_ | refine ifP_tf' ?_ | refine ifP_ft' ?_ | refine optP_mk0 ?_)
      refine split_Of_c (l := y ++ x) (by rw [List.length_append]; omega) (hf2.mono (by omega)) q2.sl fun n6 hn6 => ?_
      repeat (first | refine bindP_mk (by simp (disch := first | omega | exact Int.natCast_nonneg _ | assumption) only [newP_eq, optP_some, optP_none, bindP_some', condP_true, condP_false, ifP_tt, ifP_ff, ifP_tf, ifP_ft, exP_normal, exP_exit, exP_ret, beqP_true, beqP_false, Option.bind_some, Value.cells_agg, cells_int, cells_bool, intB_add, intB_sub, intB_mul, intB_quo, intB_rem, intB_eql, intB_neq, intB_lss, intB_leq, intB_gtr, intB_geq, intB_shr_u64, intB_shl1_u64, intB_and64, intB_or64, intB_xor64, wr_i64, wr_u8, wr_u64, convI_int, unV_not, boolB_eql, boolB_neq, pickV_true, pickV_false, lenSl_slice, ptr_at, fwdP_at, ixArr_at, load1_own, loadA_own, storeN_own, T.get_upd_same, T.get_upd_ne, cellsIn_some, putIn_cells, tl, ts, if_pos, Nat.zero_add, Nat.mul_one, Nat.add_zero, Int.toNat_natCast, ↓reduceIte, Nat.reduceLeDiff, Nat.reduceAdd, Nat.le_refl] <;> rfl) ?_ | refine newP_mk ?_ | refine optP_mk ?_ | refine condP_t ?_ | refine condP_f ?_ | refine ifP_tt' ?_ | refine ifP_ff' ?_ | refine ifP_tf' ?_ | refine ifP_ft' ?_ | refine optP_mk0 ?_)
      refine split_Of_c (l := x) (by omega) (hf2.mono (by omega)) (hr.sub hs2) fun n7 hn7 => ?_
      repeat (first | refine bindP_mk (by simp (disch := first | omega | exact Int.natCast_nonneg _ | assumption) only [newP_eq, optP_some, optP_none, bindP_some', condP_true, condP_false, ifP_tt, ifP_ff, ifP_tf, ifP_ft, exP_normal, exP_exit, exP_ret, beqP_true, beqP_false, Option.bind_some, Value.cells_agg, cells_int, cells_bool, intB_add, intB_sub, intB_mul, intB_quo, intB_rem, intB_eql, intB_neq, intB_lss, intB_leq, intB_gtr, intB_geq, intB_shr_u64, intB_shl1_u64, intB_and64, intB_or64, intB_xor64, wr_i64, wr_u8, wr_u64, convI_int, unV_not, boolB_eql, boolB_neq, pickV_true, pickV_false, lenSl_slice, ptr_at, fwdP_at, ixArr_at, load1_own, loadA_own, storeN_own, T.get_upd_same, T.get_upd_ne, cellsIn_some, putIn_cells, tl, ts, if_pos, Nat.zero_add, Nat.mul_one, Nat.add_zero, Int.toNat_natCast, ↓reduceIte, Nat.reduceLeDiff, Nat.reduceAdd, Nat.le_refl] <;> rfl) ?_ | refine newP_mk ?_ | refine optP_mk ?_ | refine condP_t ?_ | refine condP_f ?_ | refine ifP_tt' ?_ | refine ifP_ff' ?_ | refine ifP_tf' ?_ | refine ifP_ft' ?_ | refine optP_mk0 ?_)
      refine bindP_mk plain_Split ?_
      refine bindP_mk (eq_split (cls_length _) (cls_length _)) ?_
      rw [decide_eq_true o2]
      repeat (first | refine bindP_mk (by simp (disch := first | omega | exact Int.natCast_nonneg _ | assumption) only [newP_eq, optP_some, optP_none, bindP_some', condP_true, condP_false, ifP_tt, ifP_ff, ifP_tf, ifP_ft, exP_normal, exP_exit, exP_ret, beqP_true, beqP_false, Option.bind_some, Value.cells_agg, cells_int, cells_bool, intB_add, intB_sub, intB_mul, intB_quo, intB_rem, intB_eql, intB_neq, intB_lss, intB_leq, intB_gtr, intB_geq, intB_shr_u64, intB_shl1_u64, intB_and64, intB_or64, intB_xor64, wr_i64, wr_u8, wr_u64, convI_int, unV_not, boolB_eql, boolB_neq, pickV_true, pickV_false, lenSl_slice, ptr_at, fwdP_at, ixArr_at, load1_own, loadA_own, storeN_own, T.get_upd_same, T.get_upd_ne, cellsIn_some, putIn_cells, tl, ts, if_pos, Nat.zero_add, Nat.mul_one, Nat.add_zero, Int.toNat_natCast, ↓reduceIte, Nat.reduceLeDiff, Nat.reduceAdd, Nat.le_refl] <;> rfl) ?_ | refine newP_mk ?_ | refine optP_mk ?_ | refine condP_t ?_ | refine condP_f ?_ | refine ifP_tt' ?_ | refine ifP_ff' ?_ | refine ifP_tf' ?_ | refine ifP_ft' ?_ | refine optP_mk0 ?_)
      exact ⟨h, hs2, hK _ (by omega)⟩
end V
end Go.Proofs.Ytnjdhgbepoefiaa
