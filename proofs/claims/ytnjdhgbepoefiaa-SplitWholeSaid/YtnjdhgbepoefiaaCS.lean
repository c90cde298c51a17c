/- What Or, And hand back.
   No condition. -/
import Derived.Test.YtnjdhgbepoefiaaCR
set_option linter.unusedVariables false
set_option linter.unusedSimpArgs false
namespace Go.Proofs.Ytnjdhgbepoefiaa
namespace V
open PA
def anyB (l : List Nat) (b : Nat) : Bool := l.any fun m => m.testBit b
def orl (l : List Nat) (i : Nat) : List Nat := (List.range i).filter fun b => anyB l b
def orS (l : List Nat) : Nat := ofBytes 0 (orl l 256)
theorem orl_succ (l : List Nat) (i : Nat) : orl l (i + 1) = orl l i ++ (if anyB l i = true then [i] else []) := by
  unfold orl
  rw [List.range_succ, List.filter_append, filter_one]
theorem orS_bit {l : List Nat} {b : Nat} (hb : b < 256) : (orS l).testBit b = anyB l b := by
  unfold orS
  rw [testBit_ofBytes]
  simp [orl, hb]
theorem orS_lt (l : List Nat) : orS l < 2 ^ 256 := ofBytes_lt (by decide) fun b hb => by
  simp [orl] at hb; exact hb.1
theorem anyB_take {l : List Nat} {i b : Nat} (hi : i < l.length) : anyB (l.take (i + 1)) b = (anyB (l.take i) b || l[i].testBit b) := by
  unfold anyB
  rw [List.take_succ_eq_append_getElem hi, List.any_append]; simp
/-- A set with a byte, if so. -/
def plus (m b : Nat) (w : Bool) : Nat := if w = true then m ||| 2 ^ b else m
theorem plus_true (m b : Nat) : plus m b true = m ||| 2 ^ b := rfl
theorem plus_false (m b : Nat) : plus m b false = m := rfl
theorem plus_more (m b : Nat) (w : Bool) : plus m b w ||| 2 ^ b = m ||| 2 ^ b := by
  cases w with
  | true => rw [plus_true, Nat.or_assoc, Nat.or_self]
  | false => rfl
set_option maxRecDepth 4000 in
theorem ref01_Or_c {ro : Ro} {v : Value} {l : List Nat} (hlen : l.length ≤ 1000000) {h : T Obj} {nx : Nat} {K : KV} (hf : Fr h nx) (hv : Sl ro h v 4 (setsC l)) (hK : ∀ nx', nx ≤ nx' → K (setV (orS l)) h nx') : callP Try.prog ro i_ref01_Or [v] h nx K := by
  apply ref01_Or_of
  unfold ref01_Or
  refine zer_Set_mk (newP_mk (buildV_Set_mk (zer_Set_mk (newP_mk ?_))))
  refine bindP_mk (storeA_own (l := setL 0) (vs := setL 0) (by simp (disch := first | omega | exact Int.natCast_nonneg _ | assumption) only [newP_eq, optP_some, optP_none, bindP_some', condP_true, condP_false, ifP_tt, ifP_ff, ifP_tf, ifP_ft, exP_normal, exP_exit, exP_ret, beqP_true, beqP_false, Option.bind_some, Value.cells_agg, cells_int, cells_bool, intB_add, intB_sub, intB_mul, intB_quo, intB_rem, intB_eql, intB_neq, intB_lss, intB_leq, intB_gtr, intB_geq, intB_shr_u64, intB_shl1_u64, intB_and64, intB_or64, intB_xor64, wr_i64, wr_u8, wr_u64, convI_int, unV_not, boolB_eql, boolB_neq, pickV_true, pickV_false, lenSl_slice, ptr_at, fwdP_at, ixArr_at, load1_own, loadA_own, storeN_own, T.get_upd_same, T.get_upd_ne, cellsIn_some, putIn_cells, tl, ts, if_pos, Nat.zero_add, Nat.mul_one, Nat.add_zero, Int.toNat_natCast, ↓reduceIte, Nat.reduceLeDiff, Nat.reduceAdd, Nat.le_refl, setV_cells] <;> rfl) rfl rfl rfl rfl) ?_
  refine loopP_rule (fun n e h' nx' => ∃ i : Nat, i + n = 256 ∧ nx + 3 ≤ nx' ∧ e 0 = v ∧ e 2 = ptr nx ∧ e 3 = ptr (nx + 2) ∧ e 4 = .int .i64 i ∧ Sub h h' ∧ Fr h' nx' ∧
    h'.get nx = some (.cells (setL 0).toArray y_api_Set) ∧ h'.get (nx + 2) = some (.cells (setL (ofBytes 0 (orl l i))).toArray y_api_Set)) ?_ (n := 256) ⟨0, by omega, by omega, rfl, rfl, rfl, rfl, ?_, ?_, ?_, ?_⟩
  · rintro n e h' nx' ⟨i, hin, hnx, e0, e2, e3, e4, hs, hf', g1, g2⟩ Q' hc hx
    unfold ref01_Or_L1
    rw [e4]
    repeat (first | refine bindP_mk (by simp (disch := first | omega | exact Int.natCast_nonneg _ | assumption) only [newP_eq, optP_some, optP_none, bindP_some', condP_true, condP_false, ifP_tt, ifP_ff, ifP_tf, ifP_ft, exP_normal, exP_exit, exP_ret, beqP_true, beqP_false, Option.bind_some, Value.cells_agg, cells_int, cells_bool, intB_add, intB_sub, intB_mul, intB_quo, intB_rem, intB_eql, intB_neq, intB_lss, intB_leq, intB_gtr, intB_geq, intB_shr_u64, intB_shl1_u64, intB_and64, intB_or64, intB_xor64, wr_i64, wr_u8, wr_u64, convI_int, unV_not, boolB_eql, boolB_neq, pickV_true, pickV_false, lenSl_slice, ptr_at, fwdP_at, ixArr_at, load1_own, loadA_own, storeN_own, T.get_upd_same, T.get_upd_ne, cellsIn_some, putIn_cells, tl, ts, if_pos, Nat.zero_add, Nat.mul_one, Nat.add_zero, Int.toNat_natCast, ↓reduceIte, Nat.reduceLeDiff, Nat.reduceAdd, Nat.le_refl] <;> rfl) ?_ | refine newP_mk ?_ | refine optP_mk ?_ | refine condP_t ?_ | refine condP_f ?_ | refine ifP_tt' ?_ | refine ifP_ff' ?_ | refine ifP_tf' ?_ | refine ifP_ft' ?_ | refine optP_mk0 ?_)
    by_cases hi : i < 256
    · refine condP_tr (by simp; omega) ?_
      generalize hM : ofBytes 0 (orl l i) = M at g2
      refine loopP_rule (fun n2 e1 h1 n1 => ∃ k : Nat, k + n2 = l.length ∧ nx' ≤ n1 ∧ e1 0 = v ∧ e1 2 = ptr nx ∧ e1 3 = ptr (nx + 2) ∧ e1 4 = .int .i64 i ∧ e1 5 = .int .i64 k ∧ Sub h h1 ∧ Fr h1 n1 ∧
        h1.get nx = some (.cells (setL 0).toArray y_api_Set) ∧ h1.get (nx + 2) = some (.cells (setL (plus M i (anyB (l.take k) i))).toArray y_api_Set)) ?_ (n := l.length)
        ⟨0, by omega, by omega, e0, e2, e3, e4, rfl, hs, hf'.mono (by omega), g1, g2⟩
      rintro n2 e1 h1 n1 ⟨k, hkn, hn1, f0, f2, f3, f4, f5, hs1, hf1, p1, p2⟩ Q2 hc2 hx2
      unfold ref01_Or_L2
      rw [f0, f3, f4, f5]
      have hlenv := (hv.sub hs1).len
      rw [setsC_len] at hlenv
      refine bindP_mk hlenv ?_
      repeat (first | refine bindP_mk (by simp (disch := first | omega | exact Int.natCast_nonneg _ | assumption) only [newP_eq, optP_some, optP_none, bindP_some', condP_true, condP_false, ifP_tt, ifP_ff, ifP_tf, ifP_ft, exP_normal, exP_exit, exP_ret, beqP_true, beqP_false, Option.bind_some, Value.cells_agg, cells_int, cells_bool, intB_add, intB_sub, intB_mul, intB_quo, intB_rem, intB_eql, intB_neq, intB_lss, intB_leq, intB_gtr, intB_geq, intB_shr_u64, intB_shl1_u64, intB_and64, intB_or64, intB_xor64, wr_i64, wr_u8, wr_u64, convI_int, unV_not, boolB_eql, boolB_neq, pickV_true, pickV_false, lenSl_slice, ptr_at, fwdP_at, ixArr_at, load1_own, loadA_own, storeN_own, T.get_upd_same, T.get_upd_ne, cellsIn_some, putIn_cells, tl, ts, if_pos, Nat.zero_add, Nat.mul_one, Nat.add_zero, Int.toNat_natCast, ↓reduceIte, Nat.reduceLeDiff, Nat.reduceAdd, Nat.le_refl] <;> rfl) ?_ | refine newP_mk ?_ | refine optP_mk ?_ | refine condP_t ?_ | refine condP_f ?_ | refine ifP_tt' ?_ | refine ifP_ff' ?_ | refine ifP_tf' ?_ | refine ifP_ft' ?_ | refine optP_mk0 ?_)
      by_cases hk : k < l.length
      · refine condP_tr (by simp; omega) ?_
        refine bindP_mk ((hv.sub hs1).ix _ (by rw [setsC_len]; exact hk)) ?_
        refine bindP_mk ((hv.sub hs1).loadA (setsC_get hk)) ?_
        repeat (first | refine bindP_mk (by simp (disch := first | omega | exact Int.natCast_nonneg _ | assumption) only [newP_eq, optP_some, optP_none, bindP_some', condP_true, condP_false, ifP_tt, ifP_ff, ifP_tf, ifP_ft, exP_normal, exP_exit, exP_ret, beqP_true, beqP_false, Option.bind_some, Value.cells_agg, cells_int, cells_bool, intB_add, intB_sub, intB_mul, intB_quo, intB_rem, intB_eql, intB_neq, intB_lss, intB_leq, intB_gtr, intB_geq, intB_shr_u64, intB_shl1_u64, intB_and64, intB_or64, intB_xor64, wr_i64, wr_u8, wr_u64, convI_int, unV_not, boolB_eql, boolB_neq, pickV_true, pickV_false, lenSl_slice, ptr_at, fwdP_at, ixArr_at, load1_own, loadA_own, storeN_own, T.get_upd_same, T.get_upd_ne, cellsIn_some, putIn_cells, tl, ts, if_pos, Nat.zero_add, Nat.mul_one, Nat.add_zero, Int.toNat_natCast, ↓reduceIte, Nat.reduceLeDiff, Nat.reduceAdd, Nat.le_refl] <;> rfl) ?_ | refine newP_mk ?_ | refine optP_mk ?_ | refine condP_t ?_ | refine condP_f ?_ | refine ifP_tt' ?_ | refine ifP_ff' ?_ | refine ifP_tf' ?_ | refine ifP_ft' ?_ | refine optP_mk0 ?_)
        refine ref01_Has_c hi (hf1.mono (by omega)) fun n3 hn3 => ?_
        have hany := anyB_take (b := i) hk
        have hj3 : ∀ (e2 : Env) (h2 : T Obj) (n4 : Nat), nx' ≤ n4 → e2 0 = v → e2 2 = ptr nx → e2 3 = ptr (nx + 2) → e2 4 = .int .i64 i → e2 5 = .int .i64 k → Sub h h2 → Fr h2 n4 → h2.get nx = some (.cells (setL 0).toArray y_api_Set) →
            h2.get (nx + 2) = some (.cells (setL (plus M i (anyB (l.take (k + 1)) i))).toArray y_api_Set) → ref01_Or_j3 ro Q2 e2 h2 n4 := by
          intro e2 h2 n4 hn4 f0 f2 f3 f4 f5 hs2 hf2 p1 p2
          unfold ref01_Or_j3
          rw [f5]
          repeat (first | refine bindP_mk (by simp (disch := first | omega | exact Int.natCast_nonneg _ | assumption) only [newP_eq, optP_some, optP_none, bindP_some', condP_true, condP_false, ifP_tt, ifP_ff, ifP_tf, ifP_ft, exP_normal, exP_exit, exP_ret, beqP_true, beqP_false, Option.bind_some, Value.cells_agg, cells_int, cells_bool, intB_add, intB_sub, intB_mul, intB_quo, intB_rem, intB_eql, intB_neq, intB_lss, intB_leq, intB_gtr, intB_geq, intB_shr_u64, intB_shl1_u64, intB_and64, intB_or64, intB_xor64, wr_i64, wr_u8, wr_u64, convI_int, unV_not, boolB_eql, boolB_neq, pickV_true, pickV_false, lenSl_slice, ptr_at, fwdP_at, ixArr_at, load1_own, loadA_own, storeN_own, T.get_upd_same, T.get_upd_ne, cellsIn_some, putIn_cells, tl, ts, if_pos, Nat.zero_add, Nat.mul_one, Nat.add_zero, Int.toNat_natCast, ↓reduceIte, Nat.reduceLeDiff, Nat.reduceAdd, Nat.le_refl] <;> rfl) ?_ | refine newP_mk ?_ | refine optP_mk ?_ | refine condP_t ?_ | refine condP_f ?_ | refine ifP_tt' ?_ | refine ifP_ff' ?_ | refine ifP_tf' ?_ | refine ifP_ft' ?_ | refine optP_mk0 ?_)
          exact hc2 (n2 - 1) _ _ _ _ (by omega) ⟨k + 1, by omega, by omega, f0, f2, f3, f4, rfl, hs2, hf2.mono (by omega), p1, p2⟩ (Sub.refl _)
        cases hb : l[k].testBit i with
        | true =>
          rw [hb, Bool.or_true] at hany
          refine condP_tr rfl ?_
          refine bindP_mk (loadA_all p2 rfl) ?_
          repeat (first | refine bindP_mk (by simp (disch := first | omega | exact Int.natCast_nonneg _ | assumption) only [newP_eq, optP_some, optP_none, bindP_some', condP_true, condP_false, ifP_tt, ifP_ff, ifP_tf, ifP_ft, exP_normal, exP_exit, exP_ret, beqP_true, beqP_false, Option.bind_some, Value.cells_agg, cells_int, cells_bool, intB_add, intB_sub, intB_mul, intB_quo, intB_rem, intB_eql, intB_neq, intB_lss, intB_leq, intB_gtr, intB_geq, intB_shr_u64, intB_shl1_u64, intB_and64, intB_or64, intB_xor64, wr_i64, wr_u8, wr_u64, convI_int, unV_not, boolB_eql, boolB_neq, pickV_true, pickV_false, lenSl_slice, ptr_at, fwdP_at, ixArr_at, load1_own, loadA_own, storeN_own, T.get_upd_same, T.get_upd_ne, cellsIn_some, putIn_cells, tl, ts, if_pos, Nat.zero_add, Nat.mul_one, Nat.add_zero, Int.toNat_natCast, ↓reduceIte, Nat.reduceLeDiff, Nat.reduceAdd, Nat.le_refl] <;> rfl) ?_ | refine newP_mk ?_ | refine optP_mk ?_ | refine condP_t ?_ | refine condP_f ?_ | refine ifP_tt' ?_ | refine ifP_ff' ?_ | refine ifP_tf' ?_ | refine ifP_ft' ?_ | refine optP_mk0 ?_)
          refine ref01_with_c hi (hf1.mono (by omega)) fun n5 hn5 => ?_
          refine bindP_mk (storeA_own (l := setL _) (vs := setL _) p2 rfl rfl rfl rfl) ?_
          refine hj3 _ _ _ (by omega) f0 f2 f3 f4 f5 (hs1.new hf (by omega)) ((hf1.mono (by omega)).upd (Nat.le_refl _) (by omega)) ?_ ?_
          · simp (disch := first | omega | exact Int.natCast_nonneg _ | assumption) only [newP_eq, optP_some, optP_none, bindP_some', condP_true, condP_false, ifP_tt, ifP_ff, ifP_tf, ifP_ft, exP_normal, exP_exit, exP_ret, beqP_true, beqP_false, Option.bind_some, Value.cells_agg, cells_int, cells_bool, intB_add, intB_sub, intB_mul, intB_quo, intB_rem, intB_eql, intB_neq, intB_lss, intB_leq, intB_gtr, intB_geq, intB_shr_u64, intB_shl1_u64, intB_and64, intB_or64, intB_xor64, wr_i64, wr_u8, wr_u64, convI_int, unV_not, boolB_eql, boolB_neq, pickV_true, pickV_false, lenSl_slice, ptr_at, fwdP_at, ixArr_at, load1_own, loadA_own, storeN_own, T.get_upd_same, T.get_upd_ne, cellsIn_some, putIn_cells, tl, ts, if_pos, Nat.zero_add, Nat.mul_one, Nat.add_zero, Int.toNat_natCast, ↓reduceIte, Nat.reduceLeDiff, Nat.reduceAdd, Nat.le_refl, p1]
          · rw [T.get_upd_same, plus_more, hany, plus_true]
        | false =>
          rw [hb, Bool.or_false] at hany
          refine condP_fa rfl ?_
          refine hj3 _ _ _ (by omega) f0 f2 f3 f4 f5 hs1 (hf1.mono (by omega)) p1 ?_
          rw [hany]; exact p2
      · refine condP_fa (by simp; omega) ?_
        refine hx2 _ _ _ _ (fun e => by cases e) (exP_e (beqP_t ?_))
        have hkl : l.take k = l := List.take_of_length_le (by omega)
        rw [hkl] at p2
        unfold ref01_Or_j2
        have d4 : ∀ a b c d, Env.put (Env.put (Env.put (Env.put e1 11 a) 12 b) 13 c) 14 d 4 = .int .i64 (i : Int) := fun a b c d => f4
        simp only [puts, d4]
        repeat (first | refine bindP_mk (by simp (disch := first | omega | exact Int.natCast_nonneg _ | assumption) only [newP_eq, optP_some, optP_none, bindP_some', condP_true, condP_false, ifP_tt, ifP_ff, ifP_tf, ifP_ft, exP_normal, exP_exit, exP_ret, beqP_true, beqP_false, Option.bind_some, Value.cells_agg, cells_int, cells_bool, intB_add, intB_sub, intB_mul, intB_quo, intB_rem, intB_eql, intB_neq, intB_lss, intB_leq, intB_gtr, intB_geq, intB_shr_u64, intB_shl1_u64, intB_and64, intB_or64, intB_xor64, wr_i64, wr_u8, wr_u64, convI_int, unV_not, boolB_eql, boolB_neq, pickV_true, pickV_false, lenSl_slice, ptr_at, fwdP_at, ixArr_at, load1_own, loadA_own, storeN_own, T.get_upd_same, T.get_upd_ne, cellsIn_some, putIn_cells, tl, ts, if_pos, Nat.zero_add, Nat.mul_one, Nat.add_zero, Int.toNat_natCast, ↓reduceIte, Nat.reduceLeDiff, Nat.reduceAdd, Nat.le_refl] <;> rfl) ?_ | refine newP_mk ?_ | refine optP_mk ?_ | refine condP_t ?_ | refine condP_f ?_ | refine ifP_tt' ?_ | refine ifP_ff' ?_ | refine ifP_tf' ?_ | refine ifP_ft' ?_ | refine optP_mk0 ?_)
        refine hc (n - 1) _ _ _ _ (by omega) ⟨i + 1, by omega, by omega, f0, f2, f3, rfl, hs1, hf1.mono (by omega), p1, ?_⟩ (Sub.refl _)
        rw [p2, orl_succ]
        cases hw : anyB l i with
        | true =>
          rw [if_pos rfl, plus_true]
          have : ofBytes 0 (orl l i ++ [i]) = ofBytes 0 (orl l i) ||| 2 ^ i := by unfold ofBytes; rw [List.foldl_append]; rfl
          rw [this, hM]
        | false => rw [if_neg (by simp), plus_false, List.append_nil, hM]
    · refine condP_fa (by simp; omega) ?_
      refine hx _ _ _ _ (fun e => by cases e) (exP_e (beqP_t ?_))
      have hi2 : i = 256 := by omega
      subst hi2
      unfold ref01_Or_j1
      show bindP (loadA ro h' 4 (e 3)) _
      rw [e3]
      show bindP _ fun t => bindP (storeN 4 _ (e 2) t) fun h8 => bindP (loadA ro h8 4 (e 2)) _
      rw [e2]
      exact ret_copy (id1 := nx + 2) (id2 := nx) (n0 := nx) (h0 := h) g2 g1 rfl rfl rfl hf hs (Nat.le_refl _) (hK _ (by omega))
  · exact (((Sub.refl h).new hf (Nat.le_refl _)).new hf (by omega)).new hf (by omega)
  · exact ((hf.upd (m := nx + 5) (by omega) (by omega)).upd (Nat.le_refl _) (by omega)).upd (Nat.le_refl _) (by omega)
  · simp (disch := first | omega | exact Int.natCast_nonneg _ | assumption) only [newP_eq, optP_some, optP_none, bindP_some', condP_true, condP_false, ifP_tt, ifP_ff, ifP_tf, ifP_ft, exP_normal, exP_exit, exP_ret, beqP_true, beqP_false, Option.bind_some, Value.cells_agg, cells_int, cells_bool, intB_add, intB_sub, intB_mul, intB_quo, intB_rem, intB_eql, intB_neq, intB_lss, intB_leq, intB_gtr, intB_geq, intB_shr_u64, intB_shl1_u64, intB_and64, intB_or64, intB_xor64, wr_i64, wr_u8, wr_u64, convI_int, unV_not, boolB_eql, boolB_neq, pickV_true, pickV_false, lenSl_slice, ptr_at, fwdP_at, ixArr_at, load1_own, loadA_own, storeN_own, T.get_upd_same, T.get_upd_ne, cellsIn_some, putIn_cells, tl, ts, if_pos, Nat.zero_add, Nat.mul_one, Nat.add_zero, Int.toNat_natCast, ↓reduceIte, Nat.reduceLeDiff, Nat.reduceAdd, Nat.le_refl, setV_cells]
  · rw [T.get_upd_same]; rfl
def andS (l : List Nat) : Nat := notS (orS (l.map notS))
theorem andS_bit {x y b : Nat} (hb : b < 256) : (andS [x, y]).testBit b = (x.testBit b && y.testBit b) := by
  unfold andS
  rw [testBit_notS hb, orS_bit hb]
  simp [anyB, testBit_notS hb]
set_option maxRecDepth 4000 in
theorem ref01_And_c {ro : Ro} {v : Value} {l : List Nat} (hlen : l.length ≤ 100000) {h : T Obj} {nx : Nat} {K : KV} (hf : Fr h nx) (hv : Sl ro h v 4 (setsC l)) (hK : ∀ nx', nx ≤ nx' → K (setV (andS l)) h nx') : callP Try.prog ro i_ref01_And [v] h nx K := by
  apply ref01_And_of
  unfold ref01_And
  refine zer_Set_mk (newP_mk ?_)
  refine loopP_rule (fun n e h' nx' => ∃ (i : Nat) (yv : Value), i + n = l.length ∧ nx + 1 ≤ nx' ∧ e 0 = v ∧ e 2 = ptr nx ∧ e 3 = yv ∧ e 4 = .int .i64 i ∧ Sub h h' ∧ Fr h' nx' ∧
    h'.get nx = some (.cells (setL 0).toArray y_api_Set) ∧ Own h' yv 4 y_api_Set (setsC ((l.map notS).take i)) (nx + 1) nx') ?_ (n := l.length) ⟨0, _, by omega, by omega, rfl, rfl, rfl, rfl, ?_, ?_, ?_, Own.nil⟩
  · rintro n e h' nx' ⟨i, yv, hin, hnx, e0, e2, e3, e4, hs, hf', g1, ho⟩ Q' hc hx
    unfold ref01_And_L1
    rw [e0, e3, e4]
    have hlenv := (hv.sub hs).len
    rw [setsC_len] at hlenv
    refine bindP_mk hlenv ?_
    repeat (first | refine bindP_mk (by simp (disch := first | omega | exact Int.natCast_nonneg _ | assumption) only [newP_eq, optP_some, optP_none, bindP_some', condP_true, condP_false, ifP_tt, ifP_ff, ifP_tf, ifP_ft, exP_normal, exP_exit, exP_ret, beqP_true, beqP_false, Option.bind_some, Value.cells_agg, cells_int, cells_bool, intB_add, intB_sub, intB_mul, intB_quo, intB_rem, intB_eql, intB_neq, intB_lss, intB_leq, intB_gtr, intB_geq, intB_shr_u64, intB_shl1_u64, intB_and64, intB_or64, intB_xor64, wr_i64, wr_u8, wr_u64, convI_int, unV_not, boolB_eql, boolB_neq, pickV_true, pickV_false, lenSl_slice, ptr_at, fwdP_at, ixArr_at, load1_own, loadA_own, storeN_own, T.get_upd_same, T.get_upd_ne, cellsIn_some, putIn_cells, tl, ts, if_pos, Nat.zero_add, Nat.mul_one, Nat.add_zero, Int.toNat_natCast, ↓reduceIte, Nat.reduceLeDiff, Nat.reduceAdd, Nat.le_refl] <;> rfl) ?_ | refine newP_mk ?_ | refine optP_mk ?_ | refine condP_t ?_ | refine condP_f ?_ | refine ifP_tt' ?_ | refine ifP_ff' ?_ | refine ifP_tf' ?_ | refine ifP_ft' ?_ | refine optP_mk0 ?_)
    by_cases hi : i < l.length
    · refine condP_tr (by simp; omega) ?_
      refine bindP_mk ((hv.sub hs).ix _ (by rw [setsC_len]; exact hi)) ?_
      refine bindP_mk ((hv.sub hs).loadA (setsC_get hi)) ?_
      refine ref01_Not_c (hf'.mono (by omega)) fun n3 hn3 => ?_
      refine bindP_mk (lit_set1 _ _) (optP_mk ?_)
      have ho2 := ho.keep (h' := h'.upd n3 (some (.cells (setL (notS l[i])).toArray y_api_Set))) (hi' := n3) (by omega) fun id h1 h2 o hg => by rw [T.get_upd_ne _ _ (by omega)]; exact hg
      obtain ⟨h2, r2, q1, q2, q3, q4⟩ := append_sets (nx := n3 + 2) ho2 (lit_set1_sl (T.get_upd_same _ _ _)) (by simp) (by rw [List.length_take, List.length_map]; simp; omega) (by omega) (by omega)
      refine bindP_mk q1 ?_
      dsimp only
      repeat (first | refine bindP_mk (by simp (disch := first | omega | exact Int.natCast_nonneg _ | assumption) only [newP_eq, optP_some, optP_none, bindP_some', condP_true, condP_false, ifP_tt, ifP_ff, ifP_tf, ifP_ft, exP_normal, exP_exit, exP_ret, beqP_true, beqP_false, Option.bind_some, Value.cells_agg, cells_int, cells_bool, intB_add, intB_sub, intB_mul, intB_quo, intB_rem, intB_eql, intB_neq, intB_lss, intB_leq, intB_gtr, intB_geq, intB_shr_u64, intB_shl1_u64, intB_and64, intB_or64, intB_xor64, wr_i64, wr_u8, wr_u64, convI_int, unV_not, boolB_eql, boolB_neq, pickV_true, pickV_false, lenSl_slice, ptr_at, fwdP_at, ixArr_at, load1_own, loadA_own, storeN_own, T.get_upd_same, T.get_upd_ne, cellsIn_some, putIn_cells, tl, ts, if_pos, Nat.zero_add, Nat.mul_one, Nat.add_zero, Int.toNat_natCast, ↓reduceIte, Nat.reduceLeDiff, Nat.reduceAdd, Nat.le_refl] <;> rfl) ?_ | refine newP_mk ?_ | refine optP_mk ?_ | refine condP_t ?_ | refine condP_f ?_ | refine ifP_tt' ?_ | refine ifP_ff' ?_ | refine ifP_tf' ?_ | refine ifP_ft' ?_ | refine optP_mk0 ?_)
      refine hc (n - 1) _ _ _ _ (by omega) ⟨i + 1, r2, by omega, ?_, e0, e2, rfl, rfl, ?_, ?_, ?_, ?_⟩ (Sub.refl _)
      · omega
      · intro b o hb
        have hbn : b < nx := by
          rcases Nat.lt_or_ge b nx with h9 | h9
          · exact h9
          · rw [hf b h9] at hb; cases hb
        rw [q3 b (.inl (by omega)) (by omega), T.get_upd_ne _ _ (by omega)]
        exact hs b o hb
      · intro b hb
        rw [q3 b (.inr (by omega)) (by omega), T.get_upd_ne _ _ (by omega)]
        exact hf' b (by omega)
      · rw [q3 nx (.inl (by omega)) (by omega), T.get_upd_ne _ _ (by omega)]; exact g1
      · have e9 : (l.map notS).take (i + 1) = (l.map notS).take i ++ [notS l[i]] := by
          rw [List.take_succ_eq_append_getElem (by rw [List.length_map]; exact hi)]
          simp
        rw [e9]
        exact q2.keep (by omega) fun _ _ _ _ hg => hg
    · refine condP_fa (by simp; omega) ?_
      refine hx _ _ _ _ (fun e => by cases e) (exP_e (beqP_t ?_))
      unfold ref01_And_j1
      have hty : (l.map notS).take i = l.map notS := List.take_of_length_le (by rw [List.length_map]; omega)
      rw [hty] at ho
      have d2 : ∀ a b c d, Env.put (Env.put (Env.put (Env.put e 5 a) 6 b) 7 c) 8 d 2 = ptr nx := fun a b c d => e2
      have d3 : ∀ a b c d, Env.put (Env.put (Env.put (Env.put e 5 a) 6 b) 7 c) 8 d 3 = yv := fun a b c d => e3
      simp only [puts, d2, d3]
      refine ref01_Or_c (by rw [List.length_map]; omega) (hf'.mono (by omega)) ho.sl fun n3 hn3 => ?_
      refine ref01_Not_c (hf'.mono (by omega)) fun n4 hn4 => ?_
      refine bindP_mk (storeA_own (l := setL 0) (vs := setL (notS (orS (l.map notS)))) g1 rfl rfl rfl rfl) ?_
      refine bindP_mk (loadA_all (by rw [T.get_upd_same]) rfl) ?_
      exact ⟨h, hs.new hf (by omega), hK _ (by omega)⟩
  · exact (Sub.refl h).new hf (Nat.le_refl _)
  · exact hf.upd (m := nx + 3) (by omega) (by omega)
  · simp (disch := first | omega | exact Int.natCast_nonneg _ | assumption) only [newP_eq, optP_some, optP_none, bindP_some', condP_true, condP_false, ifP_tt, ifP_ff, ifP_tf, ifP_ft, exP_normal, exP_exit, exP_ret, beqP_true, beqP_false, Option.bind_some, Value.cells_agg, cells_int, cells_bool, intB_add, intB_sub, intB_mul, intB_quo, intB_rem, intB_eql, intB_neq, intB_lss, intB_leq, intB_gtr, intB_geq, intB_shr_u64, intB_shl1_u64, intB_and64, intB_or64, intB_xor64, wr_i64, wr_u8, wr_u64, convI_int, unV_not, boolB_eql, boolB_neq, pickV_true, pickV_false, lenSl_slice, ptr_at, fwdP_at, ixArr_at, load1_own, loadA_own, storeN_own, T.get_upd_same, T.get_upd_ne, cellsIn_some, putIn_cells, tl, ts, if_pos, Nat.zero_add, Nat.mul_one, Nat.add_zero, Int.toNat_natCast, ↓reduceIte, Nat.reduceLeDiff, Nat.reduceAdd, Nat.le_refl, setV_cells]
end V
end Go.Proofs.Ytnjdhgbepoefiaa
