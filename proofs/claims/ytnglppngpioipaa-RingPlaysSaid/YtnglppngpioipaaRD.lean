/- The ring's Inc, Clear, New.
   No condition. -/
import Derived.Test.YtnglppngpioipaaRC
set_option linter.unusedVariables false
set_option linter.unusedSimpArgs false
namespace Go.Proofs.Ytnglppngpioipaa
namespace V
theorem ring_count_w {ro : Ro} {h : T Obj} {p a n first m now w i x nx : Nat} {put : List Nat} {K : KV} (gp : h.get p = some (.cells (ringC a n first m now w).toArray y_ring_Ring)) (ga : h.get a = some (.cells (putC put).toArray y_int)) (hpl : put.length = n) (h1 : 1 ≤ n) (h2 : n ≤ 4096) (h3 : first < n) (h4 : now ≤ 2000000) (hi : i ≤ 4096) (hr : put.getD ((first + i) % n) 0 + x = now + 1) (hK : ∀ nx', nx ≤ nx' → K (.int .i64 (x : Nat)) h nx') : callP Try.prog ro i_ring_Ring_count [ptr p, .int .i64 (i : Int)] h nx K := by
  apply ring_Ring_count_of
  unfold ring_Ring_count
  have hm : (first + i) % n < n := Nat.mod_lt _ (by omega)
  have hm2 : (first + i) % n < put.length := by omega
  repeat (first | refine bindP_mk (by simp (disch := first | omega | exact Int.natCast_nonneg _ | assumption) only [decide_true, decide_false, Bool.not_true, Bool.not_false, newP_eq, optP_some, optP_none, bindP_some', condP_true, condP_false, ifP_tt, ifP_ff, ifP_tf, ifP_ft, exP_normal, exP_exit, exP_ret, beqP_true, beqP_false, Option.bind_some, Value.cells_agg, cells_int, cells_bool, intB_add, intB_sub, intB_mul, intB_quo, intB_rem, intB_eql, intB_neq, intB_lss, intB_leq, intB_gtr, intB_geq, intB_shr_u64, intB_shl1_u64, intB_and64, intB_or64, intB_xor64, wr_i64, wr_u8, wr_u64, convI_int, unV_not, boolB_eql, boolB_neq, pickV_true, pickV_false, lenSl_slice, ptr_at, fwdP_at, ixArr_at, load1_own, loadA_own, storeN_own, T.get_upd_same, T.get_upd_ne, cellsIn_some, putIn_cells, tl, ts, if_pos, Nat.zero_add, Nat.mul_one, Nat.add_zero, Int.toNat_natCast, ↓reduceIte, Nat.reduceLeDiff, Nat.reduceAdd, Nat.le_refl, nilCk_at, gp, ga, addmod, ix_own1, putC_get] <;> rfl) ?_ | refine newP_mk ?_ | refine optP_mk ?_ | with_reducible refine condP_t ?_ | with_reducible refine condP_f ?_ | with_reducible refine ifP_tt' ?_ | with_reducible refine ifP_ff' ?_ | with_reducible refine ifP_tf' ?_ | with_reducible refine ifP_ft' ?_ | with_reducible refine ifP_u' ?_ | refine optP_mk0 ?_)
  refine ⟨h, Sub.refl _, ?_⟩
  have e : (now : Int) - (put.getD ((first + i) % n) 0 : Nat) + 1 = (x : Nat) := by omega
  rw [e]
  exact hK _ (by omega)
/-- Each count one more; what is too great goes. -/
def incL (n : Nat) (L : List Nat) : List Nat := if n ≤ L.getD 0 0 then (L.map (· + 1)).tail else L.map (· + 1)
theorem getD_map1 {L : List Nat} {i : Nat} (hi : i < L.length) : (L.map (· + 1)).getD i 0 = L.getD i 0 + 1 := by
  simp [List.getD, hi]
theorem getD_tail1 {L : List Nat} {i : Nat} (hi : i + 1 < L.length) : (L.map (· + 1)).tail.getD i 0 = L.getD (i + 1) 0 + 1 := by
  simp [List.getD, hi]
theorem dec_map {L : List Nat} (hp : L.Pairwise (fun x y => y < x)) : (L.map (· + 1)).Pairwise (fun x y => y < x) := by
  rw [List.pairwise_map]
  exact hp.imp fun h => by omega
theorem first_max {L : List Nat} {x : Nat} (hp : L.Pairwise (fun x y => y < x)) (hx : x ∈ L) : x ≤ L.getD 0 0 := by
  cases L with
  | nil => cases hx
  | cons y r =>
    rw [List.pairwise_cons] at hp
    rcases List.mem_cons.1 hx with rfl | h
    · exact Nat.le_refl _
    · exact Nat.le_of_lt (hp.1 x h)
theorem inc_in {L : List Nat} {n : Nat} (hp : L.Pairwise (fun x y => y < x)) (hb : ∀ x ∈ L, 1 ≤ x ∧ x ≤ n) : ∀ x ∈ incL n L, 1 ≤ x ∧ x ≤ n := fun x hx => by
  unfold incL at hx
  by_cases h : n ≤ L.getD 0 0
  · rw [if_pos h] at hx
    cases L with
    | nil => cases hx
    | cons y r =>
      rw [List.map_cons, List.tail_cons, List.mem_map] at hx
      obtain ⟨z, hz, rfl⟩ := hx
      rw [List.pairwise_cons] at hp
      have h1 := hp.1 z hz
      have h2 := hb y (List.mem_cons_self ..)
      omega
  · rw [if_neg h, List.mem_map] at hx
    obtain ⟨z, hz, rfl⟩ := hx
    have := first_max hp hz
    omega
theorem inc_dec {L : List Nat} {n : Nat} (hp : L.Pairwise (fun x y => y < x)) : (incL n L).Pairwise (fun x y => y < x) := by
  unfold incL
  by_cases h : n ≤ L.getD 0 0
  · rw [if_pos h]; exact (dec_map hp).sublist (List.tail_sublist _)
  · rw [if_neg h]; exact dec_map hp
theorem mod_succ {f i n : Nat} : ((f + 1) % n + i) % n = (f + (i + 1)) % n := by
  rw [Nat.add_mod, Nat.mod_mod, ← Nat.add_mod]; congr 1; omega
set_option maxRecDepth 4000 in
theorem ring_Inc_c {ro : Ro} {h : T Obj} {p a n w nx : Nat} {L : List Nat} {K : KV} (hR : RI h p a n L w) (hw : w + 1 ≤ 1000000) (hK : ∀ h' nx', nx ≤ nx' → RI h' p a n (incL n L) (w + 1) → Only h h' p a → K (.tuple #[]) h' nx') : callP Try.prog ro i_ring_Ring_Inc [ptr p] h nx K := by
  have hln := hR.len
  obtain ⟨put, first, now, gp, ga, hne, hpl, b1, b2, b3, b4, b5, hrel, hpw, hb⟩ := hR
  apply ring_Ring_Inc_of
  unfold ring_Ring_Inc
  repeat (first | refine bindP_mk (by simp (disch := first | omega | exact Int.natCast_nonneg _ | assumption) only [decide_true, decide_false, Bool.not_true, Bool.not_false, newP_eq, optP_some, optP_none, bindP_some', condP_true, condP_false, ifP_tt, ifP_ff, ifP_tf, ifP_ft, exP_normal, exP_exit, exP_ret, beqP_true, beqP_false, Option.bind_some, Value.cells_agg, cells_int, cells_bool, intB_add, intB_sub, intB_mul, intB_quo, intB_rem, intB_eql, intB_neq, intB_lss, intB_leq, intB_gtr, intB_geq, intB_shr_u64, intB_shl1_u64, intB_and64, intB_or64, intB_xor64, wr_i64, wr_u8, wr_u64, convI_int, unV_not, boolB_eql, boolB_neq, pickV_true, pickV_false, lenSl_slice, ptr_at, fwdP_at, ixArr_at, load1_own, loadA_own, storeN_own, T.get_upd_same, T.get_upd_ne, cellsIn_some, putIn_cells, tl, ts, if_pos, Nat.zero_add, Nat.mul_one, Nat.add_zero, Int.toNat_natCast, ↓reduceIte, Nat.reduceLeDiff, Nat.reduceAdd, Nat.le_refl, ptrB_eql_at, nilCk_at, gp, ga] <;> rfl) ?_ | refine newP_mk ?_ | refine optP_mk ?_ | with_reducible refine condP_t ?_ | with_reducible refine condP_f ?_ | with_reducible refine ifP_tt' ?_ | with_reducible refine ifP_ff' ?_ | with_reducible refine ifP_tf' ?_ | with_reducible refine ifP_ft' ?_ | with_reducible refine ifP_u' ?_ | refine optP_mk0 ?_)
  have gp1 : ((h.upd p (some (.cells (over (ringC a n first L.length now w).toArray.toList 4 [.int .i64 ((w : Int) + 1)]).toArray y_ring_Ring))).upd p (some (.cells (over (over (ringC a n first L.length now w).toArray.toList 4 [.int .i64 ((w : Int) + 1)]).toArray.toList 3 [.int .i64 ((now : Int) + 1)]).toArray y_ring_Ring))).get p = some (.cells (ringC a n first L.length (now + 1) (w + 1)).toArray y_ring_Ring) := by
    rw [T.get_upd_same]; rfl
  have ga1 : ((h.upd p (some (.cells (over (ringC a n first L.length now w).toArray.toList 4 [.int .i64 ((w : Int) + 1)]).toArray y_ring_Ring))).upd p (some (.cells (over (over (ringC a n first L.length now w).toArray.toList 4 [.int .i64 ((w : Int) + 1)]).toArray.toList 3 [.int .i64 ((now : Int) + 1)]).toArray y_ring_Ring))).get a = some (.cells (putC put).toArray y_int) := by rw [T.get_upd_ne _ _ (Ne.symm hne), T.get_upd_ne _ _ (Ne.symm hne)]; exact ga
  have ho1 : Only h ((h.upd p (some (.cells (over (ringC a n first L.length now w).toArray.toList 4 [.int .i64 ((w : Int) + 1)]).toArray y_ring_Ring))).upd p (some (.cells (over (over (ringC a n first L.length now w).toArray.toList 4 [.int .i64 ((w : Int) + 1)]).toArray.toList 3 [.int .i64 ((now : Int) + 1)]).toArray y_ring_Ring))) p a := fun k k1 k2 => by rw [T.get_upd_ne _ _ k1, T.get_upd_ne _ _ k1]
  generalize ((h.upd p (some (.cells (over (ringC a n first L.length now w).toArray.toList 4 [.int .i64 ((w : Int) + 1)]).toArray y_ring_Ring))).upd p (some (.cells (over (over (ringC a n first L.length now w).toArray.toList 4 [.int .i64 ((w : Int) + 1)]).toArray.toList 3 [.int .i64 ((now : Int) + 1)]).toArray y_ring_Ring))) = h1 at gp1 ga1 ho1
  rcases Nat.eq_zero_or_pos L.length with hm | hm
  · have d : decide ((0 : Int) < (L.length : Int)) = false := decide_eq_false (by omega)
    rw [d]
    repeat (first | refine bindP_mk (by simp (disch := first | omega | exact Int.natCast_nonneg _ | assumption) only [decide_true, decide_false, Bool.not_true, Bool.not_false, newP_eq, optP_some, optP_none, bindP_some', condP_true, condP_false, ifP_tt, ifP_ff, ifP_tf, ifP_ft, exP_normal, exP_exit, exP_ret, beqP_true, beqP_false, Option.bind_some, Value.cells_agg, cells_int, cells_bool, intB_add, intB_sub, intB_mul, intB_quo, intB_rem, intB_eql, intB_neq, intB_lss, intB_leq, intB_gtr, intB_geq, intB_shr_u64, intB_shl1_u64, intB_and64, intB_or64, intB_xor64, wr_i64, wr_u8, wr_u64, convI_int, unV_not, boolB_eql, boolB_neq, pickV_true, pickV_false, lenSl_slice, ptr_at, fwdP_at, ixArr_at, load1_own, loadA_own, storeN_own, T.get_upd_same, T.get_upd_ne, cellsIn_some, putIn_cells, tl, ts, if_pos, Nat.zero_add, Nat.mul_one, Nat.add_zero, Int.toNat_natCast, ↓reduceIte, Nat.reduceLeDiff, Nat.reduceAdd, Nat.le_refl] <;> rfl) ?_ | refine newP_mk ?_ | refine optP_mk ?_ | with_reducible refine condP_t ?_ | with_reducible refine condP_f ?_ | with_reducible refine ifP_tt' ?_ | with_reducible refine ifP_ff' ?_ | with_reducible refine ifP_tf' ?_ | with_reducible refine ifP_ft' ?_ | with_reducible refine ifP_u' ?_ | refine optP_mk0 ?_)
    refine ⟨_, Sub.refl _, hK _ _ (by omega) ?_ ho1⟩
    have hL : L = [] := List.length_eq_zero_iff.1 hm
    subst hL
    have hi : incL n [] = [] := by unfold incL; rw [if_neg (show ¬ n ≤ ([] : List Nat).getD 0 0 by simp; omega)]; rfl
    rw [hi]
    exact ⟨put, first, now + 1, gp1, ga1, hne, hpl, b1, b2, b3, by omega, hw, fun i hi => (by cases hi), List.Pairwise.nil, fun x hx => (by cases hx)⟩
  · have d : decide ((0 : Int) < (L.length : Int)) = true := decide_eq_true (by omega)
    rw [d]
    repeat (first | refine bindP_mk (by simp (disch := first | omega | exact Int.natCast_nonneg _ | assumption) only [decide_true, decide_false, Bool.not_true, Bool.not_false, newP_eq, optP_some, optP_none, bindP_some', condP_true, condP_false, ifP_tt, ifP_ff, ifP_tf, ifP_ft, exP_normal, exP_exit, exP_ret, beqP_true, beqP_false, Option.bind_some, Value.cells_agg, cells_int, cells_bool, intB_add, intB_sub, intB_mul, intB_quo, intB_rem, intB_eql, intB_neq, intB_lss, intB_leq, intB_gtr, intB_geq, intB_shr_u64, intB_shl1_u64, intB_and64, intB_or64, intB_xor64, wr_i64, wr_u8, wr_u64, convI_int, unV_not, boolB_eql, boolB_neq, pickV_true, pickV_false, lenSl_slice, ptr_at, fwdP_at, ixArr_at, load1_own, loadA_own, storeN_own, T.get_upd_same, T.get_upd_ne, cellsIn_some, putIn_cells, tl, ts, if_pos, Nat.zero_add, Nat.mul_one, Nat.add_zero, Int.toNat_natCast, ↓reduceIte, Nat.reduceLeDiff, Nat.reduceAdd, Nat.le_refl] <;> rfl) ?_ | refine newP_mk ?_ | refine optP_mk ?_ | with_reducible refine condP_t ?_ | with_reducible refine condP_f ?_ | with_reducible refine ifP_tt' ?_ | with_reducible refine ifP_ff' ?_ | with_reducible refine ifP_tf' ?_ | with_reducible refine ifP_ft' ?_ | with_reducible refine ifP_u' ?_ | refine optP_mk0 ?_)
    refine ring_count_w (i := 0) (x := L.getD 0 0 + 1) gp1 ga1 hpl b1 b2 b3 (by omega) (by omega) (by have := hrel 0 hm; omega) fun n4 hn4 => ?_
    repeat (first | refine bindP_mk (by simp (disch := first | omega | exact Int.natCast_nonneg _ | assumption) only [decide_true, decide_false, Bool.not_true, Bool.not_false, newP_eq, optP_some, optP_none, bindP_some', condP_true, condP_false, ifP_tt, ifP_ff, ifP_tf, ifP_ft, exP_normal, exP_exit, exP_ret, beqP_true, beqP_false, Option.bind_some, Value.cells_agg, cells_int, cells_bool, intB_add, intB_sub, intB_mul, intB_quo, intB_rem, intB_eql, intB_neq, intB_lss, intB_leq, intB_gtr, intB_geq, intB_shr_u64, intB_shl1_u64, intB_and64, intB_or64, intB_xor64, wr_i64, wr_u8, wr_u64, convI_int, unV_not, boolB_eql, boolB_neq, pickV_true, pickV_false, lenSl_slice, ptr_at, fwdP_at, ixArr_at, load1_own, loadA_own, storeN_own, T.get_upd_same, T.get_upd_ne, cellsIn_some, putIn_cells, tl, ts, if_pos, Nat.zero_add, Nat.mul_one, Nat.add_zero, Int.toNat_natCast, ↓reduceIte, Nat.reduceLeDiff, Nat.reduceAdd, Nat.le_refl, nilCk_at, gp1] <;> rfl) ?_ | refine newP_mk ?_ | refine optP_mk ?_ | with_reducible refine condP_t ?_ | with_reducible refine condP_f ?_ | with_reducible refine ifP_tt' ?_ | with_reducible refine ifP_ff' ?_ | with_reducible refine ifP_tf' ?_ | with_reducible refine ifP_ft' ?_ | with_reducible refine ifP_u' ?_ | refine optP_mk0 ?_)
    refine ⟨fun _ => sameV_own gp1 gp1, ?_⟩
    repeat (first | refine bindP_mk (by simp (disch := first | omega | exact Int.natCast_nonneg _ | assumption) only [decide_true, decide_false, Bool.not_true, Bool.not_false, newP_eq, optP_some, optP_none, bindP_some', condP_true, condP_false, ifP_tt, ifP_ff, ifP_tf, ifP_ft, exP_normal, exP_exit, exP_ret, beqP_true, beqP_false, Option.bind_some, Value.cells_agg, cells_int, cells_bool, intB_add, intB_sub, intB_mul, intB_quo, intB_rem, intB_eql, intB_neq, intB_lss, intB_leq, intB_gtr, intB_geq, intB_shr_u64, intB_shl1_u64, intB_and64, intB_or64, intB_xor64, wr_i64, wr_u8, wr_u64, convI_int, unV_not, boolB_eql, boolB_neq, pickV_true, pickV_false, lenSl_slice, ptr_at, fwdP_at, ixArr_at, load1_own, loadA_own, storeN_own, T.get_upd_same, T.get_upd_ne, cellsIn_some, putIn_cells, tl, ts, if_pos, Nat.zero_add, Nat.mul_one, Nat.add_zero, Int.toNat_natCast, ↓reduceIte, Nat.reduceLeDiff, Nat.reduceAdd, Nat.le_refl] <;> rfl) ?_ | refine newP_mk ?_ | refine optP_mk ?_ | with_reducible refine condP_t ?_ | with_reducible refine condP_f ?_ | with_reducible refine ifP_tt' ?_ | with_reducible refine ifP_ff' ?_ | with_reducible refine ifP_tf' ?_ | with_reducible refine ifP_ft' ?_ | with_reducible refine ifP_u' ?_ | refine optP_mk0 ?_)
    by_cases hx : n ≤ L.getD 0 0
    · rw [decide_eq_true (show (n : Int) < ((L.getD 0 0 + 1 : Nat) : Int) by omega)]
      have hmod : ((first : Int) + 1) % (n : Int) = (((first + 1) % n : Nat) : Int) := addmod first 1 n
      have hml : (first + 1) % n < n := Nat.mod_lt _ (by omega)
      repeat (first | refine bindP_mk (by simp (disch := first | omega | exact Int.natCast_nonneg _ | assumption) only [decide_true, decide_false, Bool.not_true, Bool.not_false, newP_eq, optP_some, optP_none, bindP_some', condP_true, condP_false, ifP_tt, ifP_ff, ifP_tf, ifP_ft, exP_normal, exP_exit, exP_ret, beqP_true, beqP_false, Option.bind_some, Value.cells_agg, cells_int, cells_bool, intB_add, intB_sub, intB_mul, intB_quo, intB_rem, intB_eql, intB_neq, intB_lss, intB_leq, intB_gtr, intB_geq, intB_shr_u64, intB_shl1_u64, intB_and64, intB_or64, intB_xor64, wr_i64, wr_u8, wr_u64, convI_int, unV_not, boolB_eql, boolB_neq, pickV_true, pickV_false, lenSl_slice, ptr_at, fwdP_at, ixArr_at, load1_own, loadA_own, storeN_own, T.get_upd_same, T.get_upd_ne, cellsIn_some, putIn_cells, tl, ts, if_pos, Nat.zero_add, Nat.mul_one, Nat.add_zero, Int.toNat_natCast, ↓reduceIte, Nat.reduceLeDiff, Nat.reduceAdd, Nat.le_refl, nilCk_at, gp1, hmod] <;> rfl) ?_ | refine newP_mk ?_ | refine optP_mk ?_ | with_reducible refine condP_t ?_ | with_reducible refine condP_f ?_ | with_reducible refine ifP_tt' ?_ | with_reducible refine ifP_ff' ?_ | with_reducible refine ifP_tf' ?_ | with_reducible refine ifP_ft' ?_ | with_reducible refine ifP_u' ?_ | refine optP_mk0 ?_)
      refine ⟨_, Sub.refl _, hK _ _ (by omega) ?_ ?_⟩
      · have hi : incL n L = (L.map (· + 1)).tail := if_pos hx
        have hlen : (incL n L).length = L.length - 1 := by rw [hi]; simp
        refine ⟨put, (first + 1) % n, now + 1, ?_, ?_, hne, hpl, b1, b2, hml, by omega, hw, ?_, inc_dec hpw, inc_in hpw hb⟩
        · rw [T.get_upd_same, hlen]
          have e : (L.length : Int) - 1 = ((L.length - 1 : Nat) : Int) := by omega
          rw [e]; rfl
        · rw [T.get_upd_ne _ _ (Ne.symm hne), T.get_upd_ne _ _ (Ne.symm hne)]; exact ga1
        · intro i hil
          rw [hlen] at hil
          rw [hi, getD_tail1 (by omega), mod_succ]
          have := hrel (i + 1) (by omega)
          omega
      · exact fun k k1 k2 => by rw [T.get_upd_ne _ _ k1, T.get_upd_ne _ _ k1]; exact ho1 k k1 k2
    · rw [decide_eq_false (show ¬ (n : Int) < ((L.getD 0 0 + 1 : Nat) : Int) by omega)]
      repeat (first | refine bindP_mk (by simp (disch := first | omega | exact Int.natCast_nonneg _ | assumption) only [decide_true, decide_false, Bool.not_true, Bool.not_false, newP_eq, optP_some, optP_none, bindP_some', condP_true, condP_false, ifP_tt, ifP_ff, ifP_tf, ifP_ft, exP_normal, exP_exit, exP_ret, beqP_true, beqP_false, Option.bind_some, Value.cells_agg, cells_int, cells_bool, intB_add, intB_sub, intB_mul, intB_quo, intB_rem, intB_eql, intB_neq, intB_lss, intB_leq, intB_gtr, intB_geq, intB_shr_u64, intB_shl1_u64, intB_and64, intB_or64, intB_xor64, wr_i64, wr_u8, wr_u64, convI_int, unV_not, boolB_eql, boolB_neq, pickV_true, pickV_false, lenSl_slice, ptr_at, fwdP_at, ixArr_at, load1_own, loadA_own, storeN_own, T.get_upd_same, T.get_upd_ne, cellsIn_some, putIn_cells, tl, ts, if_pos, Nat.zero_add, Nat.mul_one, Nat.add_zero, Int.toNat_natCast, ↓reduceIte, Nat.reduceLeDiff, Nat.reduceAdd, Nat.le_refl] <;> rfl) ?_ | refine newP_mk ?_ | refine optP_mk ?_ | with_reducible refine condP_t ?_ | with_reducible refine condP_f ?_ | with_reducible refine ifP_tt' ?_ | with_reducible refine ifP_ff' ?_ | with_reducible refine ifP_tf' ?_ | with_reducible refine ifP_ft' ?_ | with_reducible refine ifP_u' ?_ | refine optP_mk0 ?_)
      refine ⟨_, Sub.refl _, hK _ _ (by omega) ?_ ho1⟩
      have hi : incL n L = L.map (· + 1) := if_neg hx
      have hlen : (incL n L).length = L.length := by rw [hi]; simp
      refine ⟨put, first, now + 1, by rw [hlen]; exact gp1, ga1, hne, hpl, b1, b2, b3, by omega, hw, ?_, inc_dec hpw, inc_in hpw hb⟩
      intro i hil
      rw [hlen] at hil
      rw [hi, getD_map1 hil]
      have := hrel i hil
      omega
set_option maxRecDepth 4000 in
theorem ring_Clear_c {ro : Ro} {h : T Obj} {p a n w nx : Nat} {L : List Nat} {K : KV} (hR : RI h p a n L w) (hw : w + 1 ≤ 1000000) (hK : ∀ h' nx', nx ≤ nx' → RI h' p a n [] (w + 1) → Only h h' p a → K (.tuple #[]) h' nx') : callP Try.prog ro i_ring_Ring_Clear [ptr p] h nx K := by
  obtain ⟨put, first, now, gp, ga, hne, hpl, b1, b2, b3, b4, b5, hrel, hpw, hb⟩ := hR
  apply ring_Ring_Clear_of
  unfold ring_Ring_Clear
  repeat (first | refine bindP_mk (by simp (disch := first | omega | exact Int.natCast_nonneg _ | assumption) only [decide_true, decide_false, Bool.not_true, Bool.not_false, newP_eq, optP_some, optP_none, bindP_some', condP_true, condP_false, ifP_tt, ifP_ff, ifP_tf, ifP_ft, exP_normal, exP_exit, exP_ret, beqP_true, beqP_false, Option.bind_some, Value.cells_agg, cells_int, cells_bool, intB_add, intB_sub, intB_mul, intB_quo, intB_rem, intB_eql, intB_neq, intB_lss, intB_leq, intB_gtr, intB_geq, intB_shr_u64, intB_shl1_u64, intB_and64, intB_or64, intB_xor64, wr_i64, wr_u8, wr_u64, convI_int, unV_not, boolB_eql, boolB_neq, pickV_true, pickV_false, lenSl_slice, ptr_at, fwdP_at, ixArr_at, load1_own, loadA_own, storeN_own, T.get_upd_same, T.get_upd_ne, cellsIn_some, putIn_cells, tl, ts, if_pos, Nat.zero_add, Nat.mul_one, Nat.add_zero, Int.toNat_natCast, ↓reduceIte, Nat.reduceLeDiff, Nat.reduceAdd, Nat.le_refl, ptrB_neq_at, nilCk_at, gp, ga] <;> rfl) ?_ | refine newP_mk ?_ | refine optP_mk ?_ | with_reducible refine condP_t ?_ | with_reducible refine condP_f ?_ | with_reducible refine ifP_tt' ?_ | with_reducible refine ifP_ff' ?_ | with_reducible refine ifP_tf' ?_ | with_reducible refine ifP_ft' ?_ | with_reducible refine ifP_u' ?_ | refine optP_mk0 ?_)
  refine ⟨_, Sub.refl _, hK _ _ (by omega) ?_ ?_⟩
  · refine ⟨put, 0, now, ?_, ?_, hne, hpl, b1, b2, by omega, by omega, hw, fun i hi => (by cases hi), List.Pairwise.nil, fun x hx => (by cases hx)⟩
    · rw [T.get_upd_same]; rfl
    · rw [T.get_upd_ne _ _ (Ne.symm hne), T.get_upd_ne _ _ (Ne.symm hne), T.get_upd_ne _ _ (Ne.symm hne)]; exact ga
  · exact fun k k1 k2 => by rw [T.get_upd_ne _ _ k1, T.get_upd_ne _ _ k1, T.get_upd_ne _ _ k1]
end V
end Go.Proofs.Ytnglppngpioipaa
