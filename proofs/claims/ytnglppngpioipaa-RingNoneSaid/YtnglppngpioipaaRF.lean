/- What shown hands back.
   No condition. -/
import Derived.Test.YtnglppngpioipaaRE
set_option linter.unusedVariables false
set_option linter.unusedSimpArgs false
namespace Go.Proofs.Ytnglppngpioipaa
namespace V
theorem Sub.e (h : T Obj) : Sub .e h := fun k o e => by cases e
theorem RI.only {h h' : T Obj} {p a p2 a2 n w : Nat} {L : List Nat} (hR : RI h p a n L w) (ho : Only h h' p2 a2) (h1 : p ≠ p2) (h2 : p ≠ a2) (h3 : a ≠ p2) (h4 : a ≠ a2) : RI h' p a n L w := by
  obtain ⟨put, first, now, gp, ga, hr⟩ := hR
  exact ⟨put, first, now, by rw [ho _ h1 h2]; exact gp, by rw [ho _ h3 h4]; exact ga, hr⟩
theorem RI.lt {h : T Obj} {p a n w nx : Nat} {L : List Nat} (hR : RI h p a n L w) (hf : Fr h nx) : p < nx ∧ a < nx := by
  obtain ⟨put, first, now, gp, ga, hr⟩ := hR
  exact ⟨hf.lt gp, hf.lt ga⟩
theorem Only.fr' {h h' : T Obj} {p a n w nx : Nat} {L : List Nat} (ho : Only h h' p a) (hR : RI h p a n L w) (hf : Fr h nx) : Fr h' nx := ho.fr hf (hR.lt hf).1 (hR.lt hf).2
/-- What is not p's is as it was. -/
theorem Only.sub {h0 h h' : T Obj} {p a n0 : Nat} (ho : Only h h' p a) (hs : Sub h0 h) (hf : Fr h0 n0) (hp : n0 ≤ p) (ha : n0 ≤ a) : Sub h0 h' := fun k o e => by
  have := hf.lt e
  rw [ho k (by omega) (by omega)]; exact hs k o e
theorem lit_23 (aid : Nat) : sliceLitV Try.prog y_s_int aid 2 [(0, .int .i64 2), (1, .int .i64 3)] = some (.slice (some (own aid 1)) 2 2, some (.cells #[.int .i64 2, .int .i64 3] y_int)) := by kernel_rfl
theorem nth0 (a b : Value) : nth 0 (.tuple #[a, b]) = some a := rfl
theorem nth1 (a b : Value) : nth 1 (.tuple #[a, b]) = some b := rfl
set_option maxRecDepth 4000 in
theorem law03_shown_c {ro : Ro} {h : T Obj} {nx : Nat} {K : KV} (hf : Fr h nx) (hK : ∀ h' nx', nx ≤ nx' → Sub h h' → Fr h' nx' → K (.bool true) h' nx') : callP Try.prog ro i_law03_shown [] h nx K := by
  apply law03_shown_of
  unfold law03_shown
  refine ring_New_c (n := 3) (hf.mono (by omega)) (by omega) (by omega) fun p a h1 n1 hp ha hn1 hs1 hf1 hR1 => ?_
  refine bindP_mk (nth0 _ _) (bindP_mk (nth1 _ _) ?_)
  refine ring_Put_c hR1 (by omega) fun h2 n2 hn2 hR2 ho2 => ?_
  have hf2 := ho2.fr' hR1 hf1
  have hs2 := ho2.sub hs1 hf (by omega) (by omega)
  refine ring_Inc_c hR2 (by omega) fun h3 n3 hn3 hR3 ho3 => ?_
  have hf3 := ho3.fr' hR2 hf2
  have hs3 := ho3.sub hs2 hf (by omega) (by omega)
  refine ring_Put_c hR3 (by omega) fun h4 n4 hn4 hR4 ho4 => ?_
  have hf4 := ho4.fr' hR3 hf3
  have hs4 := ho4.sub hs3 hf (by omega) (by omega)
  refine ring_Inc_c hR4 (by omega) fun h5 n5 hn5 hR5 ho5 => ?_
  have hf5 := ho5.fr' hR4 hf4
  have hs5 := ho5.sub hs4 hf (by omega) (by omega)
  have e5 : incL 3 (putL (incL 3 (putL []))) = [3, 2] := by decide
  rw [e5] at hR5
  repeat (first | refine bindP_mk (by simp (disch := first | omega | exact Int.natCast_nonneg _ | assumption) only [decide_true, decide_false, Bool.not_true, Bool.not_false, newP_eq, optP_some, optP_none, bindP_some', condP_true, condP_false, ifP_tt, ifP_ff, ifP_tf, ifP_ft, exP_normal, exP_exit, exP_ret, beqP_true, beqP_false, Option.bind_some, Value.cells_agg, cells_int, cells_bool, intB_add, intB_sub, intB_mul, intB_quo, intB_rem, intB_eql, intB_neq, intB_lss, intB_leq, intB_gtr, intB_geq, intB_shr_u64, intB_shl1_u64, intB_and64, intB_or64, intB_xor64, wr_i64, wr_u8, wr_u64, convI_int, unV_not, boolB_eql, boolB_neq, pickV_true, pickV_false, lenSl_slice, ptr_at, fwdP_at, ixArr_at, load1_own, loadA_own, storeN_own, T.get_upd_same, T.get_upd_ne, cellsIn_some, putIn_cells, tl, ts, if_pos, Nat.zero_add, Nat.mul_one, Nat.add_zero, Int.toNat_natCast, ↓reduceIte, Nat.reduceLeDiff, Nat.reduceAdd, Nat.le_refl, ptrB_eql_at] <;> rfl) ?_ | refine newP_mk ?_ | refine optP_mk ?_ | with_reducible refine condP_t ?_ | with_reducible refine condP_f ?_ | with_reducible refine ifP_tt' ?_ | with_reducible refine ifP_ff' ?_ | with_reducible refine ifP_tf' ?_ | with_reducible refine ifP_ft' ?_ | with_reducible refine ifP_u' ?_ | refine optP_mk0 ?_)
  refine ring_List_c hR5 (hf5.mono (by omega)) fun r6 h6 n6 hn6 hs6 hf6 ho6 => ?_
  simp only [decide_true, Bool.not_true]
  repeat (first | refine bindP_mk (by simp (disch := first | omega | exact Int.natCast_nonneg _ | assumption) only [decide_true, decide_false, Bool.not_true, Bool.not_false, newP_eq, optP_some, optP_none, bindP_some', condP_true, condP_false, ifP_tt, ifP_ff, ifP_tf, ifP_ft, exP_normal, exP_exit, exP_ret, beqP_true, beqP_false, Option.bind_some, Value.cells_agg, cells_int, cells_bool, intB_add, intB_sub, intB_mul, intB_quo, intB_rem, intB_eql, intB_neq, intB_lss, intB_leq, intB_gtr, intB_geq, intB_shr_u64, intB_shl1_u64, intB_and64, intB_or64, intB_xor64, wr_i64, wr_u8, wr_u64, convI_int, unV_not, boolB_eql, boolB_neq, pickV_true, pickV_false, lenSl_slice, ptr_at, fwdP_at, ixArr_at, load1_own, loadA_own, storeN_own, T.get_upd_same, T.get_upd_ne, cellsIn_some, putIn_cells, tl, ts, if_pos, Nat.zero_add, Nat.mul_one, Nat.add_zero, Int.toNat_natCast, ↓reduceIte, Nat.reduceLeDiff, Nat.reduceAdd, Nat.le_refl] <;> rfl) ?_ | refine newP_mk ?_ | refine optP_mk ?_ | with_reducible refine condP_t ?_ | with_reducible refine condP_f ?_ | with_reducible refine ifP_tt' ?_ | with_reducible refine ifP_ff' ?_ | with_reducible refine ifP_tf' ?_ | with_reducible refine ifP_ft' ?_ | with_reducible refine ifP_u' ?_ | refine optP_mk0 ?_)
  refine bindP_mk (lit_23 _) (optP_mk ?_)
  repeat (first | refine bindP_mk (by simp (disch := first | omega | exact Int.natCast_nonneg _ | assumption) only [decide_true, decide_false, Bool.not_true, Bool.not_false, newP_eq, optP_some, optP_none, bindP_some', condP_true, condP_false, ifP_tt, ifP_ff, ifP_tf, ifP_ft, exP_normal, exP_exit, exP_ret, beqP_true, beqP_false, Option.bind_some, Value.cells_agg, cells_int, cells_bool, intB_add, intB_sub, intB_mul, intB_quo, intB_rem, intB_eql, intB_neq, intB_lss, intB_leq, intB_gtr, intB_geq, intB_shr_u64, intB_shl1_u64, intB_and64, intB_or64, intB_xor64, wr_i64, wr_u8, wr_u64, convI_int, unV_not, boolB_eql, boolB_neq, pickV_true, pickV_false, lenSl_slice, ptr_at, fwdP_at, ixArr_at, load1_own, loadA_own, storeN_own, T.get_upd_same, T.get_upd_ne, cellsIn_some, putIn_cells, tl, ts, if_pos, Nat.zero_add, Nat.mul_one, Nat.add_zero, Int.toNat_natCast, ↓reduceIte, Nat.reduceLeDiff, Nat.reduceAdd, Nat.le_refl] <;> rfl) ?_ | refine newP_mk ?_ | refine optP_mk ?_ | with_reducible refine condP_t ?_ | with_reducible refine condP_f ?_ | with_reducible refine ifP_tt' ?_ | with_reducible refine ifP_ff' ?_ | with_reducible refine ifP_tf' ?_ | with_reducible refine ifP_ft' ?_ | with_reducible refine ifP_u' ?_ | refine optP_mk0 ?_)
  have hs7 : Sub h6 (h6.upd n6 (some (.cells #[.int .i64 2, .int .i64 3] y_int))) := (Sub.refl h6).new hf6 (Nat.le_refl _)
  have hl7 : Sl ro (h6.upd n6 (some (.cells #[.int .i64 2, .int .i64 3] y_int))) (.slice (some (own n6 1)) 2 2) 1 (intsC [2, 3]) := Sl.own (l := intsC [2, 3]) (by rw [T.get_upd_same]; rfl) (by simp [intsC]) (Nat.le_refl _)
  have hf7 : Fr (h6.upd n6 (some (.cells #[.int .i64 2, .int .i64 3] y_int))) (n6 + 1) := hf6.upd (by omega) (by omega)
  refine law03_ints_c (by simp) (ho6.sl.sub hs7) hl7 fun n7 hn7 => ?_
  have d2 : decide ([3, 2].reverse = [2, 3]) = true := rfl
  rw [d2]
  repeat (first | refine bindP_mk (by simp (disch := first | omega | exact Int.natCast_nonneg _ | assumption) only [decide_true, decide_false, Bool.not_true, Bool.not_false, newP_eq, optP_some, optP_none, bindP_some', condP_true, condP_false, ifP_tt, ifP_ff, ifP_tf, ifP_ft, exP_normal, exP_exit, exP_ret, beqP_true, beqP_false, Option.bind_some, Value.cells_agg, cells_int, cells_bool, intB_add, intB_sub, intB_mul, intB_quo, intB_rem, intB_eql, intB_neq, intB_lss, intB_leq, intB_gtr, intB_geq, intB_shr_u64, intB_shl1_u64, intB_and64, intB_or64, intB_xor64, wr_i64, wr_u8, wr_u64, convI_int, unV_not, boolB_eql, boolB_neq, pickV_true, pickV_false, lenSl_slice, ptr_at, fwdP_at, ixArr_at, load1_own, loadA_own, storeN_own, T.get_upd_same, T.get_upd_ne, cellsIn_some, putIn_cells, tl, ts, if_pos, Nat.zero_add, Nat.mul_one, Nat.add_zero, Int.toNat_natCast, ↓reduceIte, Nat.reduceLeDiff, Nat.reduceAdd, Nat.le_refl] <;> rfl) ?_ | refine newP_mk ?_ | refine optP_mk ?_ | with_reducible refine condP_t ?_ | with_reducible refine condP_f ?_ | with_reducible refine ifP_tt' ?_ | with_reducible refine ifP_ff' ?_ | with_reducible refine ifP_tf' ?_ | with_reducible refine ifP_ft' ?_ | with_reducible refine ifP_u' ?_ | refine optP_mk0 ?_)
  have hR7 := (hR5.sub hs6).sub hs7
  refine ring_Inc_c hR7 (by omega) fun h8 n8 hn8 hR8 ho8 => ?_
  have hf8 := ho8.fr' hR7 (hf7.mono (show n6 + 1 ≤ n7 by omega))
  have hs8 := ho8.sub ((hs5.trans hs6).trans hs7) hf (by omega) (by omega)
  have e8 : incL 3 [3, 2] = [3] := by decide
  rw [e8] at hR8
  refine ring_List_c hR8 (hf8.mono (by omega)) fun r9 h9 n9 hn9 hs9 hf9 ho9 => ?_
  refine bindP_mk (lit_i64 _ _) (optP_mk ?_)
  have hs10 : Sub h9 (h9.upd n9 (some (.cells #[.int .i64 3] y_int))) := (Sub.refl h9).new hf9 (Nat.le_refl _)
  have hl10 : Sl ro (h9.upd n9 (some (.cells #[.int .i64 3] y_int))) (.slice (some (own n9 1)) 1 1) 1 (intsC [3]) := Sl.own (l := intsC [3]) (by rw [T.get_upd_same]; rfl) (by simp [intsC]) (Nat.le_refl _)
  have hf10 : Fr (h9.upd n9 (some (.cells #[.int .i64 3] y_int))) (n9 + 1) := hf9.upd (by omega) (by omega)
  refine law03_ints_c (by simp) (ho9.sl.sub hs10) hl10 fun n10 hn10 => ?_
  have d3 : decide ([3].reverse = [3]) = true := rfl
  rw [d3]
  exact ⟨_, Sub.refl _, hK _ _ (by omega) ((hs8.trans hs9).trans hs10) (hf10.mono (by omega))⟩
end V
end Go.Proofs.Ytnglppngpioipaa
