/- The ring's methods that change it.
   No condition. -/
import Derived.Test.YtnglppngpioipaaRA
set_option linter.unusedVariables false
set_option linter.unusedSimpArgs false
namespace Go.Proofs.Ytnglppngpioipaa
namespace V
/-- The count 1 put. -/
def putL (L : List Nat) : List Nat := if L.getD (L.length - 1) 0 = 1 then L else L ++ [1]
theorem put_other {L : List Nat} (h : L.getD (L.length - 1) 0 ≠ 1) : putL L = L ++ [1] := if_neg h
theorem last_mem {L : List Nat} {x : Nat} (hx : x ∈ L) (hp : L.Pairwise (fun x y => y < x)) : L.getD (L.length - 1) 0 ≤ x := by
  obtain ⟨i, hi, rfl⟩ := List.getElem_of_mem hx
  have h1 : L.getD (L.length - 1) 0 = L[L.length - 1] := by simp [List.getD, List.getElem?_eq_getElem (show L.length - 1 < L.length by omega)]
  rw [h1]
  rcases Nat.lt_or_ge i (L.length - 1) with h2 | h2
  · exact Nat.le_of_lt (List.pairwise_iff_getElem.1 hp i (L.length - 1) hi (by omega) h2)
  · have : i = L.length - 1 := by omega
    subst this; exact Nat.le_refl _
theorem put_two {L : List Nat} {n : Nat} (h : L.getD (L.length - 1) 0 ≠ 1) (hp : L.Pairwise (fun x y => y < x)) (hb : ∀ x ∈ L, 1 ≤ x ∧ x ≤ n) : ∀ x ∈ L, 2 ≤ x ∧ x ≤ n := fun x hx => by
  have h1 := last_mem hx hp
  have h2 := hb x hx
  have h3 : L.getD (L.length - 1) 0 ∈ L := by
    obtain ⟨i, hi, _⟩ := List.getElem_of_mem hx
    have h1 : L.getD (L.length - 1) 0 = L[L.length - 1] := by simp [List.getD, List.getElem?_eq_getElem (show L.length - 1 < L.length by omega)]
    rw [h1]; exact List.getElem_mem _
  have := hb _ h3
  omega
theorem put_room {L : List Nat} {n : Nat} (hn : 1 ≤ n) (h : L.getD (L.length - 1) 0 ≠ 1) (hp : L.Pairwise (fun x y => y < x)) (hb : ∀ x ∈ L, 1 ≤ x ∧ x ≤ n) : L.length < n := by
  rcases dec_len (lo := 2) (by omega) hp (put_two h hp hb) with h9 | h9
  · omega
  · subst h9; exact hn
theorem put_dec {L : List Nat} {n : Nat} (h : L.getD (L.length - 1) 0 ≠ 1) (hp : L.Pairwise (fun x y => y < x)) (hb : ∀ x ∈ L, 1 ≤ x ∧ x ≤ n) : (L ++ [1]).Pairwise (fun x y => y < x) := by
  rw [List.pairwise_append]
  refine ⟨hp, List.pairwise_singleton .., fun x hx y hy => ?_⟩
  have := put_two h hp hb x hx
  rw [List.mem_singleton] at hy
  omega
theorem put_in {L : List Nat} {n : Nat} (hn : 1 ≤ n) (hb : ∀ x ∈ L, 1 ≤ x ∧ x ≤ n) : ∀ x ∈ L ++ [1], 1 ≤ x ∧ x ≤ n := fun x hx => by
  rw [List.mem_append, List.mem_singleton] at hx
  rcases hx with hx | rfl
  · exact hb x hx
  · omega
theorem mod_inj {f i j n : Nat} (hi : i < n) (hj : j < n) (he : (f + i) % n = (f + j) % n) : i = j := by
  have h1 := Nat.div_add_mod (f + i) n
  have h2 := Nat.div_add_mod (f + j) n
  rcases Nat.lt_trichotomy ((f + i) / n) ((f + j) / n) with h | h | h
  · have := Nat.mul_le_mul_left n (show (f + i) / n + 1 ≤ (f + j) / n from h)
    rw [Nat.mul_add] at this; omega
  · rw [h] at h1; omega
  · have := Nat.mul_le_mul_left n (show (f + j) / n + 1 ≤ (f + i) / n from h)
    rw [Nat.mul_add] at this; omega
theorem put_rel {L put : List Nat} {n first now : Nat} (hpl : put.length = n) (hf : first < n) (hr : L.length < n) (hrel : ∀ i, i < L.length → put.getD ((first + i) % n) 0 + L.getD i 0 = now + 1) :
    ∀ i, i < (L ++ [1]).length → (put.set ((first + L.length) % n) now).getD ((first + i) % n) 0 + (L ++ [1]).getD i 0 = now + 1 := fun i hi => by
  have hm : (first + i) % n < n := Nat.mod_lt _ (by omega)
  rw [List.length_append, List.length_singleton] at hi
  rcases Nat.lt_or_ge i L.length with h1 | h1
  · have hne : (first + L.length) % n ≠ (first + i) % n := fun e => by have := mod_inj hr (by omega) e; omega
    have e1 : (put.set ((first + L.length) % n) now).getD ((first + i) % n) 0 = put.getD ((first + i) % n) 0 := by simp [List.getD, List.getElem?_set_ne hne]
    have e2 : (L ++ [1]).getD i 0 = L.getD i 0 := by simp [List.getD, List.getElem?_append_left h1]
    rw [e1, e2]; exact hrel i h1
  · have : i = L.length := by omega
    subst this
    have e1 : (put.set ((first + L.length) % n) now).getD ((first + L.length) % n) 0 = now := by simp [List.getD, List.getElem?_set_self, hpl, hm]
    have e2 : (L ++ [1]).getD L.length 0 = 1 := by simp [List.getD]
    rw [e1, e2]
set_option maxRecDepth 4000 in
theorem ring_Put_c {ro : Ro} {h : T Obj} {p a n w nx : Nat} {L : List Nat} {K : KV} (hR : RI h p a n L w) (hw : w + 1 ≤ 1000000) (hK : ∀ h' nx', nx ≤ nx' → RI h' p a n (putL L) (w + 1) → Only h h' p a → K (.tuple #[]) h' nx') : callP Try.prog ro i_ring_Ring_Put [ptr p] h nx K := by
  have hln := hR.len
  obtain ⟨put, first, now, gp, ga, hne, hpl, b1, b2, b3, b4, b5, hrel, hpw, hb⟩ := hR
  apply ring_Ring_Put_of
  unfold ring_Ring_Put
  repeat (first | refine bindP_mk (by simp (disch := first | omega | exact Int.natCast_nonneg _ | assumption) only [decide_true, decide_false, Bool.not_true, Bool.not_false, newP_eq, optP_some, optP_none, bindP_some', condP_true, condP_false, ifP_tt, ifP_ff, ifP_tf, ifP_ft, exP_normal, exP_exit, exP_ret, beqP_true, beqP_false, Option.bind_some, Value.cells_agg, cells_int, cells_bool, intB_add, intB_sub, intB_mul, intB_quo, intB_rem, intB_eql, intB_neq, intB_lss, intB_leq, intB_gtr, intB_geq, intB_shr_u64, intB_shl1_u64, intB_and64, intB_or64, intB_xor64, wr_i64, wr_u8, wr_u64, convI_int, unV_not, boolB_eql, boolB_neq, pickV_true, pickV_false, lenSl_slice, ptr_at, fwdP_at, ixArr_at, load1_own, loadA_own, storeN_own, T.get_upd_same, T.get_upd_ne, cellsIn_some, putIn_cells, tl, ts, if_pos, Nat.zero_add, Nat.mul_one, Nat.add_zero, Int.toNat_natCast, ↓reduceIte, Nat.reduceLeDiff, Nat.reduceAdd, Nat.le_refl, ptrB_eql_at, nilCk_at, gp, ga] <;> rfl) ?_ | refine newP_mk ?_ | refine optP_mk ?_ | with_reducible refine condP_t ?_ | with_reducible refine condP_f ?_ | with_reducible refine ifP_tt' ?_ | with_reducible refine ifP_ff' ?_ | with_reducible refine ifP_tf' ?_ | with_reducible refine ifP_ft' ?_ | with_reducible refine ifP_u' ?_ | refine optP_mk0 ?_)
  have gp1 : (h.upd p (some (.cells (over (ringC a n first L.length now w).toArray.toList 4 [.int .i64 ((w : Int) + 1)]).toArray y_ring_Ring))).get p = some (.cells (ringC a n first L.length now (w + 1)).toArray y_ring_Ring) := by
    rw [T.get_upd_same]; rfl
  have ga1 : (h.upd p (some (.cells (over (ringC a n first L.length now w).toArray.toList 4 [.int .i64 ((w : Int) + 1)]).toArray y_ring_Ring))).get a = some (.cells (putC put).toArray y_int) := by rw [T.get_upd_ne _ _ (Ne.symm hne)]; exact ga
  have ho1 : Only h (h.upd p (some (.cells (over (ringC a n first L.length now w).toArray.toList 4 [.int .i64 ((w : Int) + 1)]).toArray y_ring_Ring))) p a := fun k k1 k2 => by rw [T.get_upd_ne _ _ k1]
  generalize (h.upd p (some (.cells (over (ringC a n first L.length now w).toArray.toList 4 [.int .i64 ((w : Int) + 1)]).toArray y_ring_Ring))) = h1 at gp1 ga1 ho1
  have hR1 : RI h1 p a n L (w + 1) := ⟨put, first, now, gp1, ga1, hne, hpl, b1, b2, b3, by omega, hw, hrel, hpw, hb⟩
  repeat (first | refine bindP_mk (by simp (disch := first | omega | exact Int.natCast_nonneg _ | assumption) only [decide_true, decide_false, Bool.not_true, Bool.not_false, newP_eq, optP_some, optP_none, bindP_some', condP_true, condP_false, ifP_tt, ifP_ff, ifP_tf, ifP_ft, exP_normal, exP_exit, exP_ret, beqP_true, beqP_false, Option.bind_some, Value.cells_agg, cells_int, cells_bool, intB_add, intB_sub, intB_mul, intB_quo, intB_rem, intB_eql, intB_neq, intB_lss, intB_leq, intB_gtr, intB_geq, intB_shr_u64, intB_shl1_u64, intB_and64, intB_or64, intB_xor64, wr_i64, wr_u8, wr_u64, convI_int, unV_not, boolB_eql, boolB_neq, pickV_true, pickV_false, lenSl_slice, ptr_at, fwdP_at, ixArr_at, load1_own, loadA_own, storeN_own, T.get_upd_same, T.get_upd_ne, cellsIn_some, putIn_cells, tl, ts, if_pos, Nat.zero_add, Nat.mul_one, Nat.add_zero, Int.toNat_natCast, ↓reduceIte, Nat.reduceLeDiff, Nat.reduceAdd, Nat.le_refl, nilCk_at, gp1] <;> rfl) ?_ | refine newP_mk ?_ | refine optP_mk ?_ | with_reducible refine condP_t ?_ | with_reducible refine condP_f ?_ | with_reducible refine ifP_tt' ?_ | with_reducible refine ifP_ff' ?_ | with_reducible refine ifP_tf' ?_ | with_reducible refine ifP_ft' ?_ | with_reducible refine ifP_u' ?_ | refine optP_mk0 ?_)
  rcases Nat.eq_zero_or_pos L.length with hm | hm
  · have d : decide ((0 : Int) < (L.length : Int)) = false := decide_eq_false (by omega)
    rw [d]
    have hlast : L.getD (L.length - 1) 0 ≠ 1 := by
      have : L = [] := List.length_eq_zero_iff.1 hm
      subst this; decide
    repeat (first | refine bindP_mk (by simp (disch := first | omega | exact Int.natCast_nonneg _ | assumption) only [decide_true, decide_false, Bool.not_true, Bool.not_false, newP_eq, optP_some, optP_none, bindP_some', condP_true, condP_false, ifP_tt, ifP_ff, ifP_tf, ifP_ft, exP_normal, exP_exit, exP_ret, beqP_true, beqP_false, Option.bind_some, Value.cells_agg, cells_int, cells_bool, intB_add, intB_sub, intB_mul, intB_quo, intB_rem, intB_eql, intB_neq, intB_lss, intB_leq, intB_gtr, intB_geq, intB_shr_u64, intB_shl1_u64, intB_and64, intB_or64, intB_xor64, wr_i64, wr_u8, wr_u64, convI_int, unV_not, boolB_eql, boolB_neq, pickV_true, pickV_false, lenSl_slice, ptr_at, fwdP_at, ixArr_at, load1_own, loadA_own, storeN_own, T.get_upd_same, T.get_upd_ne, cellsIn_some, putIn_cells, tl, ts, if_pos, Nat.zero_add, Nat.mul_one, Nat.add_zero, Int.toNat_natCast, ↓reduceIte, Nat.reduceLeDiff, Nat.reduceAdd, Nat.le_refl] <;> rfl) ?_ | refine newP_mk ?_ | refine optP_mk ?_ | with_reducible refine condP_t ?_ | with_reducible refine condP_f ?_ | with_reducible refine ifP_tt' ?_ | with_reducible refine ifP_ff' ?_ | with_reducible refine ifP_tf' ?_ | with_reducible refine ifP_ft' ?_ | with_reducible refine ifP_u' ?_ | refine optP_mk0 ?_)
    repeat (first | refine bindP_mk (by simp (disch := first | omega | exact Int.natCast_nonneg _ | assumption) only [decide_true, decide_false, Bool.not_true, Bool.not_false, newP_eq, optP_some, optP_none, bindP_some', condP_true, condP_false, ifP_tt, ifP_ff, ifP_tf, ifP_ft, exP_normal, exP_exit, exP_ret, beqP_true, beqP_false, Option.bind_some, Value.cells_agg, cells_int, cells_bool, intB_add, intB_sub, intB_mul, intB_quo, intB_rem, intB_eql, intB_neq, intB_lss, intB_leq, intB_gtr, intB_geq, intB_shr_u64, intB_shl1_u64, intB_and64, intB_or64, intB_xor64, wr_i64, wr_u8, wr_u64, convI_int, unV_not, boolB_eql, boolB_neq, pickV_true, pickV_false, lenSl_slice, ptr_at, fwdP_at, ixArr_at, load1_own, loadA_own, storeN_own, T.get_upd_same, T.get_upd_ne, cellsIn_some, putIn_cells, tl, ts, if_pos, Nat.zero_add, Nat.mul_one, Nat.add_zero, Int.toNat_natCast, ↓reduceIte, Nat.reduceLeDiff, Nat.reduceAdd, Nat.le_refl, nilCk_at, gp1, addmod] <;> rfl) ?_ | refine newP_mk ?_ | refine optP_mk ?_ | with_reducible refine condP_t ?_ | with_reducible refine condP_f ?_ | with_reducible refine ifP_tt' ?_ | with_reducible refine ifP_ff' ?_ | with_reducible refine ifP_tf' ?_ | with_reducible refine ifP_ft' ?_ | with_reducible refine ifP_u' ?_ | refine optP_mk0 ?_)
    have hcase : (first + L.length) % n < n := Nat.mod_lt _ (by omega)
    refine bindP_mk (ix_own1 _ _ _ _ hcase) ?_
    refine bindP_mk (store1_own (v := .int .i64 _) (l := putC put) ga1 (by rw [putC_len]; omega) rfl rfl) ?_
    rw [putC_set]
    have gp2 : (h1.upd a (some (.cells (putC (put.set ((first + L.length) % n) now)).toArray y_int))).get p = some (.cells (ringC a n first L.length now (w + 1)).toArray y_ring_Ring) := by rw [T.get_upd_ne _ _ hne]; exact gp1
    have ga2 : (h1.upd a (some (.cells (putC (put.set ((first + L.length) % n) now)).toArray y_int))).get a = some (.cells (putC (put.set ((first + L.length) % n) now)).toArray y_int) := T.get_upd_same _ _ _
    have ho2 : Only h (h1.upd a (some (.cells (putC (put.set ((first + L.length) % n) now)).toArray y_int))) p a := fun k k1 k2 => by rw [T.get_upd_ne _ _ k2]; exact ho1 k k1 k2
    generalize (h1.upd a (some (.cells (putC (put.set ((first + L.length) % n) now)).toArray y_int))) = h2 at gp2 ga2 ho2
    repeat (first | refine bindP_mk (by simp (disch := first | omega | exact Int.natCast_nonneg _ | assumption) only [decide_true, decide_false, Bool.not_true, Bool.not_false, newP_eq, optP_some, optP_none, bindP_some', condP_true, condP_false, ifP_tt, ifP_ff, ifP_tf, ifP_ft, exP_normal, exP_exit, exP_ret, beqP_true, beqP_false, Option.bind_some, Value.cells_agg, cells_int, cells_bool, intB_add, intB_sub, intB_mul, intB_quo, intB_rem, intB_eql, intB_neq, intB_lss, intB_leq, intB_gtr, intB_geq, intB_shr_u64, intB_shl1_u64, intB_and64, intB_or64, intB_xor64, wr_i64, wr_u8, wr_u64, convI_int, unV_not, boolB_eql, boolB_neq, pickV_true, pickV_false, lenSl_slice, ptr_at, fwdP_at, ixArr_at, load1_own, loadA_own, storeN_own, T.get_upd_same, T.get_upd_ne, cellsIn_some, putIn_cells, tl, ts, if_pos, Nat.zero_add, Nat.mul_one, Nat.add_zero, Int.toNat_natCast, ↓reduceIte, Nat.reduceLeDiff, Nat.reduceAdd, Nat.le_refl, nilCk_at, gp2] <;> rfl) ?_ | refine newP_mk ?_ | refine optP_mk ?_ | with_reducible refine condP_t ?_ | with_reducible refine condP_f ?_ | with_reducible refine ifP_tt' ?_ | with_reducible refine ifP_ff' ?_ | with_reducible refine ifP_tf' ?_ | with_reducible refine ifP_ft' ?_ | with_reducible refine ifP_u' ?_ | refine optP_mk0 ?_)
    have gp3 : (h2.upd p (some (.cells (over (ringC a n first L.length now (w + 1)).toArray.toList 2 [.int .i64 ((L.length : Int) + 1)]).toArray y_ring_Ring))).get p = some (.cells (ringC a n first (L ++ [1]).length now (w + 1)).toArray y_ring_Ring) := by
      rw [T.get_upd_same, List.length_append]; rfl
    refine ⟨_, Sub.refl _, hK _ _ (by omega) ?_ ?_⟩
    · rw [put_other hlast]
      exact ⟨put.set ((first + L.length) % n) now, first, now, gp3, by rw [T.get_upd_ne _ _ (Ne.symm hne)]; exact ga2, hne, by rw [List.length_set]; exact hpl, b1, b2, b3, by omega, hw, put_rel hpl b3 (put_room b1 hlast hpw hb) hrel, put_dec hlast hpw hb, put_in b1 hb⟩
    · exact fun k k1 k2 => by rw [T.get_upd_ne _ _ k1]; exact ho2 k k1 k2
  · have d : decide ((0 : Int) < (L.length : Int)) = true := decide_eq_true (by omega)
    rw [d]
    repeat (first | refine bindP_mk (by simp (disch := first | omega | exact Int.natCast_nonneg _ | assumption) only [decide_true, decide_false, Bool.not_true, Bool.not_false, newP_eq, optP_some, optP_none, bindP_some', condP_true, condP_false, ifP_tt, ifP_ff, ifP_tf, ifP_ft, exP_normal, exP_exit, exP_ret, beqP_true, beqP_false, Option.bind_some, Value.cells_agg, cells_int, cells_bool, intB_add, intB_sub, intB_mul, intB_quo, intB_rem, intB_eql, intB_neq, intB_lss, intB_leq, intB_gtr, intB_geq, intB_shr_u64, intB_shl1_u64, intB_and64, intB_or64, intB_xor64, wr_i64, wr_u8, wr_u64, convI_int, unV_not, boolB_eql, boolB_neq, pickV_true, pickV_false, lenSl_slice, ptr_at, fwdP_at, ixArr_at, load1_own, loadA_own, storeN_own, T.get_upd_same, T.get_upd_ne, cellsIn_some, putIn_cells, tl, ts, if_pos, Nat.zero_add, Nat.mul_one, Nat.add_zero, Int.toNat_natCast, ↓reduceIte, Nat.reduceLeDiff, Nat.reduceAdd, Nat.le_refl, nilCk_at, gp1] <;> rfl) ?_ | refine newP_mk ?_ | refine optP_mk ?_ | with_reducible refine condP_t ?_ | with_reducible refine condP_f ?_ | with_reducible refine ifP_tt' ?_ | with_reducible refine ifP_ff' ?_ | with_reducible refine ifP_tf' ?_ | with_reducible refine ifP_ft' ?_ | with_reducible refine ifP_u' ?_ | refine optP_mk0 ?_)
    have e : (L.length : Int) - 1 = ((L.length - 1 : Nat) : Int) := by omega
    rw [e]
    refine ring_count_c (i := L.length - 1) hR1 (by omega) fun n4 hn4 => ?_
    repeat (first | refine bindP_mk (by simp (disch := first | omega | exact Int.natCast_nonneg _ | assumption) only [decide_true, decide_false, Bool.not_true, Bool.not_false, newP_eq, optP_some, optP_none, bindP_some', condP_true, condP_false, ifP_tt, ifP_ff, ifP_tf, ifP_ft, exP_normal, exP_exit, exP_ret, beqP_true, beqP_false, Option.bind_some, Value.cells_agg, cells_int, cells_bool, intB_add, intB_sub, intB_mul, intB_quo, intB_rem, intB_eql, intB_neq, intB_lss, intB_leq, intB_gtr, intB_geq, intB_shr_u64, intB_shl1_u64, intB_and64, intB_or64, intB_xor64, wr_i64, wr_u8, wr_u64, convI_int, unV_not, boolB_eql, boolB_neq, pickV_true, pickV_false, lenSl_slice, ptr_at, fwdP_at, ixArr_at, load1_own, loadA_own, storeN_own, T.get_upd_same, T.get_upd_ne, cellsIn_some, putIn_cells, tl, ts, if_pos, Nat.zero_add, Nat.mul_one, Nat.add_zero, Int.toNat_natCast, ↓reduceIte, Nat.reduceLeDiff, Nat.reduceAdd, Nat.le_refl] <;> rfl) ?_ | refine newP_mk ?_ | refine optP_mk ?_ | with_reducible refine condP_t ?_ | with_reducible refine condP_f ?_ | with_reducible refine ifP_tt' ?_ | with_reducible refine ifP_ff' ?_ | with_reducible refine ifP_tf' ?_ | with_reducible refine ifP_ft' ?_ | with_reducible refine ifP_u' ?_ | refine optP_mk0 ?_)
    by_cases hlast : L.getD (L.length - 1) 0 = 1
    · rw [decide_eq_true (show ((L.getD (L.length - 1) 0 : Nat) : Int) = 1 by omega)]
      repeat (first | refine bindP_mk (by simp (disch := first | omega | exact Int.natCast_nonneg _ | assumption) only [decide_true, decide_false, Bool.not_true, Bool.not_false, newP_eq, optP_some, optP_none, bindP_some', condP_true, condP_false, ifP_tt, ifP_ff, ifP_tf, ifP_ft, exP_normal, exP_exit, exP_ret, beqP_true, beqP_false, Option.bind_some, Value.cells_agg, cells_int, cells_bool, intB_add, intB_sub, intB_mul, intB_quo, intB_rem, intB_eql, intB_neq, intB_lss, intB_leq, intB_gtr, intB_geq, intB_shr_u64, intB_shl1_u64, intB_and64, intB_or64, intB_xor64, wr_i64, wr_u8, wr_u64, convI_int, unV_not, boolB_eql, boolB_neq, pickV_true, pickV_false, lenSl_slice, ptr_at, fwdP_at, ixArr_at, load1_own, loadA_own, storeN_own, T.get_upd_same, T.get_upd_ne, cellsIn_some, putIn_cells, tl, ts, if_pos, Nat.zero_add, Nat.mul_one, Nat.add_zero, Int.toNat_natCast, ↓reduceIte, Nat.reduceLeDiff, Nat.reduceAdd, Nat.le_refl] <;> rfl) ?_ | refine newP_mk ?_ | refine optP_mk ?_ | with_reducible refine condP_t ?_ | with_reducible refine condP_f ?_ | with_reducible refine ifP_tt' ?_ | with_reducible refine ifP_ff' ?_ | with_reducible refine ifP_tf' ?_ | with_reducible refine ifP_ft' ?_ | with_reducible refine ifP_u' ?_ | refine optP_mk0 ?_)
      refine ⟨_, Sub.refl _, hK _ _ (by omega) ?_ ho1⟩
      unfold putL
      rw [if_pos hlast]
      exact hR1
    rw [decide_eq_false (show ¬ ((L.getD (L.length - 1) 0 : Nat) : Int) = 1 by omega)]
    repeat (first | refine bindP_mk (by simp (disch := first | omega | exact Int.natCast_nonneg _ | assumption) only [decide_true, decide_false, Bool.not_true, Bool.not_false, newP_eq, optP_some, optP_none, bindP_some', condP_true, condP_false, ifP_tt, ifP_ff, ifP_tf, ifP_ft, exP_normal, exP_exit, exP_ret, beqP_true, beqP_false, Option.bind_some, Value.cells_agg, cells_int, cells_bool, intB_add, intB_sub, intB_mul, intB_quo, intB_rem, intB_eql, intB_neq, intB_lss, intB_leq, intB_gtr, intB_geq, intB_shr_u64, intB_shl1_u64, intB_and64, intB_or64, intB_xor64, wr_i64, wr_u8, wr_u64, convI_int, unV_not, boolB_eql, boolB_neq, pickV_true, pickV_false, lenSl_slice, ptr_at, fwdP_at, ixArr_at, load1_own, loadA_own, storeN_own, T.get_upd_same, T.get_upd_ne, cellsIn_some, putIn_cells, tl, ts, if_pos, Nat.zero_add, Nat.mul_one, Nat.add_zero, Int.toNat_natCast, ↓reduceIte, Nat.reduceLeDiff, Nat.reduceAdd, Nat.le_refl] <;> rfl) ?_ | refine newP_mk ?_ | refine optP_mk ?_ | with_reducible refine condP_t ?_ | with_reducible refine condP_f ?_ | with_reducible refine ifP_tt' ?_ | with_reducible refine ifP_ff' ?_ | with_reducible refine ifP_tf' ?_ | with_reducible refine ifP_ft' ?_ | with_reducible refine ifP_u' ?_ | refine optP_mk0 ?_)
    repeat (first | refine bindP_mk (by simp (disch := first | omega | exact Int.natCast_nonneg _ | assumption) only [decide_true, decide_false, Bool.not_true, Bool.not_false, newP_eq, optP_some, optP_none, bindP_some', condP_true, condP_false, ifP_tt, ifP_ff, ifP_tf, ifP_ft, exP_normal, exP_exit, exP_ret, beqP_true, beqP_false, Option.bind_some, Value.cells_agg, cells_int, cells_bool, intB_add, intB_sub, intB_mul, intB_quo, intB_rem, intB_eql, intB_neq, intB_lss, intB_leq, intB_gtr, intB_geq, intB_shr_u64, intB_shl1_u64, intB_and64, intB_or64, intB_xor64, wr_i64, wr_u8, wr_u64, convI_int, unV_not, boolB_eql, boolB_neq, pickV_true, pickV_false, lenSl_slice, ptr_at, fwdP_at, ixArr_at, load1_own, loadA_own, storeN_own, T.get_upd_same, T.get_upd_ne, cellsIn_some, putIn_cells, tl, ts, if_pos, Nat.zero_add, Nat.mul_one, Nat.add_zero, Int.toNat_natCast, ↓reduceIte, Nat.reduceLeDiff, Nat.reduceAdd, Nat.le_refl, nilCk_at, gp1, addmod] <;> rfl) ?_ | refine newP_mk ?_ | refine optP_mk ?_ | with_reducible refine condP_t ?_ | with_reducible refine condP_f ?_ | with_reducible refine ifP_tt' ?_ | with_reducible refine ifP_ff' ?_ | with_reducible refine ifP_tf' ?_ | with_reducible refine ifP_ft' ?_ | with_reducible refine ifP_u' ?_ | refine optP_mk0 ?_)
    have hcase : (first + L.length) % n < n := Nat.mod_lt _ (by omega)
    refine bindP_mk (ix_own1 _ _ _ _ hcase) ?_
    refine bindP_mk (store1_own (v := .int .i64 _) (l := putC put) ga1 (by rw [putC_len]; omega) rfl rfl) ?_
    rw [putC_set]
    have gp2 : (h1.upd a (some (.cells (putC (put.set ((first + L.length) % n) now)).toArray y_int))).get p = some (.cells (ringC a n first L.length now (w + 1)).toArray y_ring_Ring) := by rw [T.get_upd_ne _ _ hne]; exact gp1
    have ga2 : (h1.upd a (some (.cells (putC (put.set ((first + L.length) % n) now)).toArray y_int))).get a = some (.cells (putC (put.set ((first + L.length) % n) now)).toArray y_int) := T.get_upd_same _ _ _
    have ho2 : Only h (h1.upd a (some (.cells (putC (put.set ((first + L.length) % n) now)).toArray y_int))) p a := fun k k1 k2 => by rw [T.get_upd_ne _ _ k2]; exact ho1 k k1 k2
    generalize (h1.upd a (some (.cells (putC (put.set ((first + L.length) % n) now)).toArray y_int))) = h2 at gp2 ga2 ho2
    repeat (first | refine bindP_mk (by simp (disch := first | omega | exact Int.natCast_nonneg _ | assumption) only [decide_true, decide_false, Bool.not_true, Bool.not_false, newP_eq, optP_some, optP_none, bindP_some', condP_true, condP_false, ifP_tt, ifP_ff, ifP_tf, ifP_ft, exP_normal, exP_exit, exP_ret, beqP_true, beqP_false, Option.bind_some, Value.cells_agg, cells_int, cells_bool, intB_add, intB_sub, intB_mul, intB_quo, intB_rem, intB_eql, intB_neq, intB_lss, intB_leq, intB_gtr, intB_geq, intB_shr_u64, intB_shl1_u64, intB_and64, intB_or64, intB_xor64, wr_i64, wr_u8, wr_u64, convI_int, unV_not, boolB_eql, boolB_neq, pickV_true, pickV_false, lenSl_slice, ptr_at, fwdP_at, ixArr_at, load1_own, loadA_own, storeN_own, T.get_upd_same, T.get_upd_ne, cellsIn_some, putIn_cells, tl, ts, if_pos, Nat.zero_add, Nat.mul_one, Nat.add_zero, Int.toNat_natCast, ↓reduceIte, Nat.reduceLeDiff, Nat.reduceAdd, Nat.le_refl, nilCk_at, gp2] <;> rfl) ?_ | refine newP_mk ?_ | refine optP_mk ?_ | with_reducible refine condP_t ?_ | with_reducible refine condP_f ?_ | with_reducible refine ifP_tt' ?_ | with_reducible refine ifP_ff' ?_ | with_reducible refine ifP_tf' ?_ | with_reducible refine ifP_ft' ?_ | with_reducible refine ifP_u' ?_ | refine optP_mk0 ?_)
    have gp3 : (h2.upd p (some (.cells (over (ringC a n first L.length now (w + 1)).toArray.toList 2 [.int .i64 ((L.length : Int) + 1)]).toArray y_ring_Ring))).get p = some (.cells (ringC a n first (L ++ [1]).length now (w + 1)).toArray y_ring_Ring) := by
      rw [T.get_upd_same, List.length_append]; rfl
    refine ⟨_, Sub.refl _, hK _ _ (by omega) ?_ ?_⟩
    · rw [put_other hlast]
      exact ⟨put.set ((first + L.length) % n) now, first, now, gp3, by rw [T.get_upd_ne _ _ (Ne.symm hne)]; exact ga2, hne, by rw [List.length_set]; exact hpl, b1, b2, b3, by omega, hw, put_rel hpl b3 (put_room b1 hlast hpw hb) hrel, put_dec hlast hpw hb, put_in b1 hb⟩
    · exact fun k k1 k2 => by rw [T.get_upd_ne _ _ k1]; exact ho2 k k1 k2
end V
end Go.Proofs.Ytnglppngpioipaa
