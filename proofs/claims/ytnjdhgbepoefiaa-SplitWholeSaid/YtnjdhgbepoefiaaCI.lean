/- What Range hands back; the document's examples.
   No condition. -/
import Derived.Test.YtnjdhgbepoefiaaCH
set_option linter.unusedVariables false
set_option linter.unusedSimpArgs false
namespace Go.Proofs.Ytnjdhgbepoefiaa
namespace V
open PA
/-- The bytes from one to another. -/
def span (lo n : Nat) : List Nat := (List.range n).map fun i => lo + i
theorem ref01_Range_c {ro : Ro} {a b : Nat} (ha : a < 256) (hb : b < 256) {h : T Obj} {nx : Nat} {K : KV} (hf : Fr h nx) (hK : ∀ nx', nx ≤ nx' → K (setV (ofBytes 0 (span a (b + 1 - a)))) h nx') : callP Try.prog ro i_ref01_Range [.int .u8 a, .int .u8 b] h nx K := by
  apply ref01_Range_of
  unfold ref01_Range
  refine zer_Set_mk (newP_mk (buildV_Set_mk (zer_Set_mk (newP_mk ?_))))
  refine bindP_mk (storeA_own (l := setL 0) (vs := setL 0) (by simp (disch := first | omega | exact Int.natCast_nonneg _ | assumption) only [newP_eq, optP_some, optP_none, bindP_some', condP_true, condP_false, ifP_tt, ifP_ff, ifP_tf, ifP_ft, exP_normal, exP_exit, exP_ret, beqP_true, beqP_false, Option.bind_some, Value.cells_agg, cells_int, cells_bool, intB_add, intB_sub, intB_mul, intB_quo, intB_rem, intB_eql, intB_neq, intB_lss, intB_leq, intB_gtr, intB_geq, intB_shr_u64, intB_shl1_u64, intB_and64, intB_or64, intB_xor64, wr_i64, wr_u8, wr_u64, convI_int, unV_not, boolB_eql, boolB_neq, pickV_true, pickV_false, lenSl_slice, ptr_at, fwdP_at, ixArr_at, load1_own, loadA_own, storeN_own, T.get_upd_same, T.get_upd_ne, cellsIn_some, putIn_cells, tl, ts, if_pos, Nat.zero_add, Nat.mul_one, Nat.add_zero, Int.toNat_natCast, ↓reduceIte, Nat.reduceLeDiff, Nat.reduceAdd, Nat.le_refl, setV_cells] <;> rfl) rfl rfl rfl rfl) ?_
  repeat (first | refine bindP_mk (by simp (disch := first | omega | exact Int.natCast_nonneg _ | assumption) only [newP_eq, optP_some, optP_none, bindP_some', condP_true, condP_false, ifP_tt, ifP_ff, ifP_tf, ifP_ft, exP_normal, exP_exit, exP_ret, beqP_true, beqP_false, Option.bind_some, Value.cells_agg, cells_int, cells_bool, intB_add, intB_sub, intB_mul, intB_quo, intB_rem, intB_eql, intB_neq, intB_lss, intB_leq, intB_gtr, intB_geq, intB_shr_u64, intB_shl1_u64, intB_and64, intB_or64, intB_xor64, wr_i64, wr_u8, wr_u64, convI_int, unV_not, boolB_eql, boolB_neq, pickV_true, pickV_false, lenSl_slice, ptr_at, fwdP_at, ixArr_at, load1_own, loadA_own, storeN_own, T.get_upd_same, T.get_upd_ne, cellsIn_some, putIn_cells, tl, ts, if_pos, Nat.zero_add, Nat.mul_one, Nat.add_zero, Int.toNat_natCast, ↓reduceIte, Nat.reduceLeDiff, Nat.reduceAdd, Nat.le_refl] <;> rfl) ?_ | refine newP_mk ?_ | refine optP_mk ?_ | refine condP_t ?_ | refine condP_f ?_ | refine ifP_tt' ?_ | refine ifP_ff' ?_ | refine ifP_tf' ?_ | refine ifP_ft' ?_ | refine optP_mk0 ?_)
  refine loopP_rule (fun n e h' nx' => ∃ i : Nat, i + n = b + 1 - a ∧ nx + 3 ≤ nx' ∧ e 1 = .int .u8 b ∧ e 4 = ptr nx ∧ e 5 = ptr (nx + 2) ∧ e 6 = .int .i64 ((a + i : Nat) : Int) ∧ Sub h h' ∧ Fr h' nx' ∧
    h'.get nx = some (.cells (setL 0).toArray y_api_Set) ∧ h'.get (nx + 2) = some (.cells (setL (ofBytes 0 (span a i))).toArray y_api_Set)) ?_ (n := b + 1 - a) ⟨0, by omega, by omega, rfl, rfl, rfl, rfl, ?_, ?_, ?_, ?_⟩
  · rintro n e h' nx' ⟨i, hin, hnx, e1, e4, e5, e6, hs, hf', g1, g2⟩ Q' hc hx
    unfold ref01_Range_L1
    rw [e1, e5, e6]
    repeat (first | refine bindP_mk (by simp (disch := first | omega | exact Int.natCast_nonneg _ | assumption) only [newP_eq, optP_some, optP_none, bindP_some', condP_true, condP_false, ifP_tt, ifP_ff, ifP_tf, ifP_ft, exP_normal, exP_exit, exP_ret, beqP_true, beqP_false, Option.bind_some, Value.cells_agg, cells_int, cells_bool, intB_add, intB_sub, intB_mul, intB_quo, intB_rem, intB_eql, intB_neq, intB_lss, intB_leq, intB_gtr, intB_geq, intB_shr_u64, intB_shl1_u64, intB_and64, intB_or64, intB_xor64, wr_i64, wr_u8, wr_u64, convI_int, unV_not, boolB_eql, boolB_neq, pickV_true, pickV_false, lenSl_slice, ptr_at, fwdP_at, ixArr_at, load1_own, loadA_own, storeN_own, T.get_upd_same, T.get_upd_ne, cellsIn_some, putIn_cells, tl, ts, if_pos, Nat.zero_add, Nat.mul_one, Nat.add_zero, Int.toNat_natCast, ↓reduceIte, Nat.reduceLeDiff, Nat.reduceAdd, Nat.le_refl] <;> rfl) ?_ | refine newP_mk ?_ | refine optP_mk ?_ | refine condP_t ?_ | refine condP_f ?_ | refine ifP_tt' ?_ | refine ifP_ff' ?_ | refine ifP_tf' ?_ | refine ifP_ft' ?_ | refine optP_mk0 ?_)
    by_cases hi : a + i ≤ b
    · refine condP_tr (by simp; omega) ?_
      refine bindP_mk (loadA_all g2 rfl) ?_
      repeat (first | refine bindP_mk (by simp (disch := first | omega | exact Int.natCast_nonneg _ | assumption) only [newP_eq, optP_some, optP_none, bindP_some', condP_true, condP_false, ifP_tt, ifP_ff, ifP_tf, ifP_ft, exP_normal, exP_exit, exP_ret, beqP_true, beqP_false, Option.bind_some, Value.cells_agg, cells_int, cells_bool, intB_add, intB_sub, intB_mul, intB_quo, intB_rem, intB_eql, intB_neq, intB_lss, intB_leq, intB_gtr, intB_geq, intB_shr_u64, intB_shl1_u64, intB_and64, intB_or64, intB_xor64, wr_i64, wr_u8, wr_u64, convI_int, unV_not, boolB_eql, boolB_neq, pickV_true, pickV_false, lenSl_slice, ptr_at, fwdP_at, ixArr_at, load1_own, loadA_own, storeN_own, T.get_upd_same, T.get_upd_ne, cellsIn_some, putIn_cells, tl, ts, if_pos, Nat.zero_add, Nat.mul_one, Nat.add_zero, Int.toNat_natCast, ↓reduceIte, Nat.reduceLeDiff, Nat.reduceAdd, Nat.le_refl] <;> rfl) ?_ | refine newP_mk ?_ | refine optP_mk ?_ | refine condP_t ?_ | refine condP_f ?_ | refine ifP_tt' ?_ | refine ifP_ff' ?_ | refine ifP_tf' ?_ | refine ifP_ft' ?_ | refine optP_mk0 ?_)
      refine ref01_with_c (by omega) (hf'.mono (by omega)) fun n1 hn1 => ?_
      refine bindP_mk (storeA_own (l := setL _) (vs := setL _) g2 rfl rfl rfl rfl) ?_
      repeat (first | refine bindP_mk (by simp (disch := first | omega | exact Int.natCast_nonneg _ | assumption) only [newP_eq, optP_some, optP_none, bindP_some', condP_true, condP_false, ifP_tt, ifP_ff, ifP_tf, ifP_ft, exP_normal, exP_exit, exP_ret, beqP_true, beqP_false, Option.bind_some, Value.cells_agg, cells_int, cells_bool, intB_add, intB_sub, intB_mul, intB_quo, intB_rem, intB_eql, intB_neq, intB_lss, intB_leq, intB_gtr, intB_geq, intB_shr_u64, intB_shl1_u64, intB_and64, intB_or64, intB_xor64, wr_i64, wr_u8, wr_u64, convI_int, unV_not, boolB_eql, boolB_neq, pickV_true, pickV_false, lenSl_slice, ptr_at, fwdP_at, ixArr_at, load1_own, loadA_own, storeN_own, T.get_upd_same, T.get_upd_ne, cellsIn_some, putIn_cells, tl, ts, if_pos, Nat.zero_add, Nat.mul_one, Nat.add_zero, Int.toNat_natCast, ↓reduceIte, Nat.reduceLeDiff, Nat.reduceAdd, Nat.le_refl] <;> rfl) ?_ | refine newP_mk ?_ | refine optP_mk ?_ | refine condP_t ?_ | refine condP_f ?_ | refine ifP_tt' ?_ | refine ifP_ff' ?_ | refine ifP_tf' ?_ | refine ifP_ft' ?_ | refine optP_mk0 ?_)
      refine hc (n - 1) _ _ _ _ (by omega) ⟨i + 1, by omega, ?_, e1, e4, e5, rfl, hs.new hf (by omega), (hf'.mono (by omega)).upd (Nat.le_refl _) (by omega), ?_, ?_⟩ (Sub.refl _)
      · omega
      · simp (disch := first | omega | exact Int.natCast_nonneg _ | assumption) only [newP_eq, optP_some, optP_none, bindP_some', condP_true, condP_false, ifP_tt, ifP_ff, ifP_tf, ifP_ft, exP_normal, exP_exit, exP_ret, beqP_true, beqP_false, Option.bind_some, Value.cells_agg, cells_int, cells_bool, intB_add, intB_sub, intB_mul, intB_quo, intB_rem, intB_eql, intB_neq, intB_lss, intB_leq, intB_gtr, intB_geq, intB_shr_u64, intB_shl1_u64, intB_and64, intB_or64, intB_xor64, wr_i64, wr_u8, wr_u64, convI_int, unV_not, boolB_eql, boolB_neq, pickV_true, pickV_false, lenSl_slice, ptr_at, fwdP_at, ixArr_at, load1_own, loadA_own, storeN_own, T.get_upd_same, T.get_upd_ne, cellsIn_some, putIn_cells, tl, ts, if_pos, Nat.zero_add, Nat.mul_one, Nat.add_zero, Int.toNat_natCast, ↓reduceIte, Nat.reduceLeDiff, Nat.reduceAdd, Nat.le_refl, g1]
      · rw [T.get_upd_same]
        have : ofBytes 0 (span a (i + 1)) = ofBytes 0 (span a i) ||| 2 ^ (a + i) := by
          unfold ofBytes span
          rw [List.range_succ, List.map_append, List.foldl_append]; rfl
        rw [this]
    · refine condP_fa (by simp; omega) ?_
      refine hx _ _ _ _ (fun e => by cases e) (exP_e (beqP_t ?_))
      unfold ref01_Range_j1
      show bindP (loadA ro h' 4 (e 5)) _
      rw [e5]
      show bindP _ fun t => bindP (storeN 4 _ (e 4) t) fun h8 => bindP (loadA ro h8 4 (e 4)) _
      rw [e4]
      have hii : i = b + 1 - a := by omega
      refine ret_copy (id1 := nx + 2) (id2 := nx) (n0 := nx) (h0 := h) g2 g1 rfl rfl rfl hf hs (Nat.le_refl _) ?_
      rw [hii]
      exact hK _ (by omega)
  · exact (((Sub.refl h).new hf (Nat.le_refl _)).new hf (by omega)).new hf (by omega)
  · exact ((hf.upd (m := nx + 7) (by omega) (by omega)).upd (Nat.le_refl _) (by omega)).upd (Nat.le_refl _) (by omega)
  · simp (disch := first | omega | exact Int.natCast_nonneg _ | assumption) only [newP_eq, optP_some, optP_none, bindP_some', condP_true, condP_false, ifP_tt, ifP_ff, ifP_tf, ifP_ft, exP_normal, exP_exit, exP_ret, beqP_true, beqP_false, Option.bind_some, Value.cells_agg, cells_int, cells_bool, intB_add, intB_sub, intB_mul, intB_quo, intB_rem, intB_eql, intB_neq, intB_lss, intB_leq, intB_gtr, intB_geq, intB_shr_u64, intB_shl1_u64, intB_and64, intB_or64, intB_xor64, wr_i64, wr_u8, wr_u64, convI_int, unV_not, boolB_eql, boolB_neq, pickV_true, pickV_false, lenSl_slice, ptr_at, fwdP_at, ixArr_at, load1_own, loadA_own, storeN_own, T.get_upd_same, T.get_upd_ne, cellsIn_some, putIn_cells, tl, ts, if_pos, Nat.zero_add, Nat.mul_one, Nat.add_zero, Int.toNat_natCast, ↓reduceIte, Nat.reduceLeDiff, Nat.reduceAdd, Nat.le_refl, setV_cells]
  · rw [T.get_upd_same]; rfl
theorem conv_u8s {h : T Obj} {id z l c : Nat} {cs : Array Value} {e : TypeId} {f : Nat × Nat} (hg : h.get id = some (.cells cs e f)) : convSame Try.prog h y_s_uint8 y_s_uint8 (.slice (some (own id z)) l c) = some (.slice (some (own id z)) l c, h.upd id (some (.cells cs e f))) := by
  have h1 : und Try.prog y_uint8 = some (.int .u8) := by kernel_rfl
  unfold convSame
  simp only [own, hg, und_u8s, h1, Nat.beq_refl]
def exL : List Nat := [ofBytes 0 (span 97 3), ofBytes 0 [98]]
theorem ex_many : many exL = 3 := of_decide_eq_true (by kernel_rfl)
theorem ex_a : (cls exL)[97]? = some 1 := of_decide_eq_true (by kernel_rfl)
theorem ex_b : (cls exL)[98]? = some 2 := of_decide_eq_true (by kernel_rfl)
theorem ex_c : (cls exL)[99]? = some 1 := of_decide_eq_true (by kernel_rfl)
theorem ex_d : (cls exL)[100]? = some 0 := of_decide_eq_true (by kernel_rfl)
theorem lit_sets (aid x y : Nat) : sliceLitV Try.prog y_s_api_Set aid 2 [(0, setV x), (1, setV y)] = some (.slice (some (own aid 4)) 2 2, some (.cells (setL x ++ setL y).toArray y_api_Set)) := by kernel_rfl
set_option maxRecDepth 4000 in
theorem law02_shown_c {ro : Ro} {h : T Obj} {nx : Nat} {K : KV} (hf : Fr h nx) (hK : ∀ nx', nx ≤ nx' → K (.bool true) h nx') : callP Try.prog ro i_law02_shown [] h nx K := by
  apply law02_shown_of
  unfold law02_shown
  refine ref01_Range_c (a := 97) (b := 99) (by omega) (by omega) (hf.mono (by omega)) fun n1 hn1 => ?_
  refine bindP_mk (lit_u8 _ _) (optP_mk ?_)
  refine bindP_mk (conv_u8s (by rw [T.get_upd_same])) ?_
  dsimp only
  refine ref01_Of_c (l := [98]) (by simp) (by simp) (((hf.mono (by omega)).upd (n := nx) (m := n1 + 3) (by omega) (by omega)).upd (Nat.le_refl _) (by omega)) (Sl.own (l := bytesC [98]) (by rw [T.get_upd_same]; rfl) (by simp [bytesC]) (Nat.le_refl _)) fun n2 hn2 => ?_
  refine bindP_mk (lit_sets _ _ _) (optP_mk ?_)
  refine split_Of_c (l := exL) (by simp [exL]) ((((hf.mono (by omega)).upd (n := nx) (m := n2 + 2) (by omega) (by omega)).upd (Nat.le_refl _) (by omega)).upd (Nat.le_refl _) (by omega)) (Sl.own (l := setsC exL) (by rw [T.get_upd_same]; rfl) (by simp [setsC, setL_len]) (Nat.le_refl _)) fun n3 hn3 => ?_
  refine zer_Split_mk (newP_mk ?_)
  refine bindP_mk (storeA_own (l := splitL (List.replicate 256 0) 0) (vs := splitL (cls exL) (many exL)) (e := y_api_Split) (f := (0, 0)) (by rw [T.get_upd_same]; rfl) rfl (splitL_len (cls_length _)) (splitL_len rep_len) (splitL_ok _ _)) ?_
  have g : ∀ (h0 : T Obj) (x : Nat), (h0.upd n3 (some (.cells (splitL (cls exL) (many exL)).toArray y_api_Split))).get n3 = some (.cells (splitL (cls exL) (many exL)).toArray y_api_Split) := fun h0 _ => T.get_upd_same _ _ _
  have hl := cls_length exL
  have get : ∀ (i v : Nat), i < 256 → (cls exL)[i]? = some v → (splitL (cls exL) (many exL))[i]? = some (.int .u8 (v : Int)) := fun i v hi hv => by
    rw [splitL_get (by omega)]
    rw [List.getElem?_eq_getElem (by omega)] at hv
    rw [Option.some.inj hv]
  have ga : (splitL (cls exL) (many exL))[97]? = some (.int .u8 1) := get 97 1 (by omega) ex_a
  have gb : (splitL (cls exL) (many exL))[98]? = some (.int .u8 2) := get 98 2 (by omega) ex_b
  have gc : (splitL (cls exL) (many exL))[99]? = some (.int .u8 1) := get 99 1 (by omega) ex_c
  have gd : (splitL (cls exL) (many exL))[100]? = some (.int .u8 0) := get 100 0 (by omega) ex_d
  have gm : (splitL (cls exL) (many exL))[256]? = some (.int .i64 3) := by rw [splitL_many hl, ex_many]; rfl
  have hs : Sub h (((((h.upd n1 (some (Obj.cells #[Value.int IntKind.u8 98] y_uint8))).upd n1 (some (Obj.cells #[Value.int IntKind.u8 98] y_uint8))).upd n2 (some (.cells (setL (ofBytes 0 (span 97 (99 + 1 - 97))) ++ setL (ofBytes 0 [98])).toArray y_api_Set))).upd
      n3 (some (.cells (Value.cells (splitV (List.replicate 256 0) 0)) y_api_Split))).upd n3 (some (.cells (splitL (cls exL) (many exL)).toArray y_api_Split))) :=
    (((((Sub.refl h).new hf (by omega)).new hf (by omega)).new hf (by omega)).new hf (by omega)).new hf (by omega)
  have hg : (((((h.upd n1 (some (Obj.cells #[Value.int IntKind.u8 98] y_uint8))).upd n1 (some (Obj.cells #[Value.int IntKind.u8 98] y_uint8))).upd n2 (some (.cells (setL (ofBytes 0 (span 97 (99 + 1 - 97))) ++ setL (ofBytes 0 [98])).toArray y_api_Set))).upd
      n3 (some (.cells (Value.cells (splitV (List.replicate 256 0) 0)) y_api_Split))).upd n3 (some (.cells (splitL (cls exL) (many exL)).toArray y_api_Split))).get n3 = some (.cells (splitL (cls exL) (many exL)).toArray y_api_Split) := T.get_upd_same _ _ _
  generalize (((((h.upd n1 (some (Obj.cells #[Value.int IntKind.u8 98] y_uint8))).upd n1 (some (Obj.cells #[Value.int IntKind.u8 98] y_uint8))).upd n2 (some (.cells (setL (ofBytes 0 (span 97 (99 + 1 - 97))) ++ setL (ofBytes 0 [98])).toArray y_api_Set))).upd
      n3 (some (.cells (Value.cells (splitV (List.replicate 256 0) 0)) y_api_Split))).upd n3 (some (.cells (splitL (cls exL) (many exL)).toArray y_api_Split))) = H at hs hg
  generalize splitL (cls exL) (many exL) = L at ga gb gc gd gm hg
  repeat (first | refine bindP_mk (by simp (disch := first | omega | exact Int.natCast_nonneg _ | assumption) only [newP_eq, optP_some, optP_none, bindP_some', condP_true, condP_false, ifP_tt, ifP_ff, ifP_tf, ifP_ft, exP_normal, exP_exit, exP_ret, beqP_true, beqP_false, Option.bind_some, Value.cells_agg, cells_int, cells_bool, intB_add, intB_sub, intB_mul, intB_quo, intB_rem, intB_eql, intB_neq, intB_lss, intB_leq, intB_gtr, intB_geq, intB_shr_u64, intB_shl1_u64, intB_and64, intB_or64, intB_xor64, wr_i64, wr_u8, wr_u64, convI_int, unV_not, boolB_eql, boolB_neq, pickV_true, pickV_false, lenSl_slice, ptr_at, fwdP_at, ixArr_at, load1_own, loadA_own, storeN_own, T.get_upd_same, T.get_upd_ne, cellsIn_some, putIn_cells, tl, ts, if_pos, Nat.zero_add, Nat.mul_one, Nat.add_zero, Int.toNat_natCast, ↓reduceIte, Nat.reduceLeDiff, Nat.reduceAdd, Nat.le_refl, hg, ga, gb, gc, gd, gm, eq_self, decide_true, Int.reduceToNat] <;> rfl) ?_ | refine newP_mk ?_ | refine optP_mk ?_ | refine condP_t ?_ | refine condP_f ?_ | refine ifP_tt' ?_ | refine ifP_ff' ?_ | refine ifP_tf' ?_ | refine ifP_ft' ?_ | refine optP_mk0 ?_)
  exact ⟨h, hs, hK _ (by omega)⟩
end V
end Go.Proofs.Ytnjdhgbepoefiaa
