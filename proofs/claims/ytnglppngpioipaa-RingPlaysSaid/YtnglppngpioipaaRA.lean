/- The ring's methods: what they hand back, and what they leave.
   No condition. -/
import Derived.Test.YtnglppngpioipaaG
import Derived.Test.YtnglppngpioipaaWB
set_option linter.unusedVariables false
set_option linter.unusedSimpArgs false
namespace Go.Proofs.Ytnglppngpioipaa
namespace V
theorem ptrB_eql_at (id off z : Nat) : ptrB .eql (at_ id off z) (.pointer none) = some (.bool false) := rfl
theorem ptrB_neq_at (id off z : Nat) : ptrB .neq (at_ id off z) (.pointer none) = some (.bool true) := rfl
theorem nilCk_at (id off z : Nat) : nilCk (at_ id off z) = some (at_ id off z) := rfl
theorem addmod (a b n : Nat) : ((a : Int) + (b : Int)) % (n : Int) = (((a + b) % n : Nat) : Int) := by rw [Int.natCast_emod, Int.natCast_add]
theorem ix_own1 (a n c : Nat) (k : IntKind) {i : Nat} (hi : i < n) : ixSl 1 (.slice (some (V.own a 1)) n c) (.int k (i : Int)) = some (at_ a i 0) := by
  have h1 : natV (Value.int k (i : Int)) = some i := by simp [natV]
  have h2 : Nat.blt i n = true := by simpa using hi
  simp [ixSl, h1, h2, V.own, elt]
/-- The ring's cells. -/
def ringC (a n first many now w : Nat) : List Value := [.slice (some (V.own a 1)) n n, .int .i64 first, .int .i64 many, .int .i64 now, .int .i64 w]
def putC (put : List Nat) : List Value := put.map fun (x : Nat) => .int .i64 (x : Int)
theorem putC_len (put : List Nat) : (putC put).length = put.length := by simp [putC]
theorem putC_get {put : List Nat} {k : Nat} (hk : k < put.length) : (putC put)[k]? = some (.int .i64 (put.getD k 0 : Nat)) := by
  simp [putC, hk]
theorem putC_set (put : List Nat) (k x : Nat) : (putC put).set k (.int .i64 (x : Int)) = putC (put.set k x) := by
  simp [putC, List.map_set]
/-- A ring with the counts L (the greatest first), of those up to n, at p (its row at a); w was done. -/
def RI (h : T Obj) (p a n : Nat) (L : List Nat) (w : Nat) : Prop := ∃ (put : List Nat) (first now : Nat),
  h.get p = some (.cells (ringC a n first L.length now w).toArray y_ring_Ring) ∧ h.get a = some (.cells (putC put).toArray y_int) ∧ p ≠ a ∧ put.length = n ∧ 1 ≤ n ∧ n ≤ 4096 ∧ first < n ∧ now ≤ w ∧ w ≤ 1000000 ∧
  (∀ i, i < L.length → put.getD ((first + i) % n) 0 + L.getD i 0 = now + 1) ∧ L.Pairwise (fun x y => y < x) ∧ (∀ x ∈ L, 1 ≤ x ∧ x ≤ n)
def Only (h h' : T Obj) (p a : Nat) : Prop := ∀ k, k ≠ p → k ≠ a → h'.get k = h.get k
theorem Fr.lt {h : T Obj} {nx k : Nat} {o : Obj} (hf : Fr h nx) (hg : h.get k = some o) : k < nx := by
  rcases Nat.lt_or_ge k nx with h9 | h9
  · exact h9
  · rw [hf k h9] at hg; cases hg
theorem Only.fr {h h' : T Obj} {p a nx : Nat} (ho : Only h h' p a) (hf : Fr h nx) (hp : p < nx) (ha : a < nx) : Fr h' nx := fun k hk => by
  rw [ho k (by omega) (by omega)]; exact hf k hk
theorem dec_len {L : List Nat} : ∀ {lo hi : Nat}, 1 ≤ lo → L.Pairwise (fun x y => y < x) → (∀ x ∈ L, lo ≤ x ∧ x ≤ hi) → L.length + lo ≤ hi + 1 ∨ L = [] := by
  induction L with
  | nil => intro lo hi _ _ _; exact .inr rfl
  | cons x r ih =>
    intro lo hi hlo hp hb
    left
    have hx := hb x (List.mem_cons_self ..)
    rw [List.pairwise_cons] at hp
    rcases ih (lo := lo) (hi := x - 1) hlo hp.2 fun y hy => ⟨(hb y (List.mem_cons_of_mem _ hy)).1, by have := hp.1 y hy; omega⟩ with h1 | h1
    · rw [List.length_cons]; omega
    · subst h1; simp; omega
theorem RI.len {h : T Obj} {p a n w : Nat} {L : List Nat} (hR : RI h p a n L w) : L.length ≤ n := by
  obtain ⟨put, first, now, _, _, _, _, h1, _, _, _, _, _, hp, hb⟩ := hR
  rcases dec_len (Nat.le_refl 1) hp hb with h9 | h9
  · omega
  · subst h9; simp
theorem ring_count_c {ro : Ro} {h : T Obj} {p a n w i nx : Nat} {L : List Nat} {K : KV} (hR : RI h p a n L w) (hi : i < L.length) (hK : ∀ nx', nx ≤ nx' → K (.int .i64 (L.getD i 0 : Nat)) h nx') : callP Try.prog ro i_ring_Ring_count [ptr p, .int .i64 (i : Int)] h nx K := by
  have hln := hR.len
  obtain ⟨put, first, now, gp, ga, hne, hpl, h1, h2, h3, h4, h5, hrel, hpw, hb⟩ := hR
  apply ring_Ring_count_of
  unfold ring_Ring_count
  have hm : (first + i) % n < n := Nat.mod_lt _ (by omega)
  have hm2 : (first + i) % n < put.length := by omega
  have hr := hrel i hi
  repeat (first | refine bindP_mk (by simp (disch := first | omega | exact Int.natCast_nonneg _ | assumption) only [decide_true, decide_false, Bool.not_true, Bool.not_false, newP_eq, optP_some, optP_none, bindP_some', condP_true, condP_false, ifP_tt, ifP_ff, ifP_tf, ifP_ft, exP_normal, exP_exit, exP_ret, beqP_true, beqP_false, Option.bind_some, Value.cells_agg, cells_int, cells_bool, intB_add, intB_sub, intB_mul, intB_quo, intB_rem, intB_eql, intB_neq, intB_lss, intB_leq, intB_gtr, intB_geq, intB_shr_u64, intB_shl1_u64, intB_and64, intB_or64, intB_xor64, wr_i64, wr_u8, wr_u64, convI_int, unV_not, boolB_eql, boolB_neq, pickV_true, pickV_false, lenSl_slice, ptr_at, fwdP_at, ixArr_at, load1_own, loadA_own, storeN_own, T.get_upd_same, T.get_upd_ne, cellsIn_some, putIn_cells, tl, ts, if_pos, Nat.zero_add, Nat.mul_one, Nat.add_zero, Int.toNat_natCast, ↓reduceIte, Nat.reduceLeDiff, Nat.reduceAdd, Nat.le_refl, nilCk_at, gp, ga, addmod, ix_own1, putC_get] <;> rfl) ?_ | refine newP_mk ?_ | refine optP_mk ?_ | with_reducible refine condP_t ?_ | with_reducible refine condP_f ?_ | with_reducible refine ifP_tt' ?_ | with_reducible refine ifP_ff' ?_ | with_reducible refine ifP_tf' ?_ | with_reducible refine ifP_ft' ?_ | with_reducible refine ifP_u' ?_ | refine optP_mk0 ?_)
  refine ⟨h, Sub.refl _, ?_⟩
  have e : (now : Int) - (put.getD ((first + i) % n) 0 : Nat) + 1 = (L.getD i 0 : Nat) := by omega
  rw [e]
  exact hK _ (by omega)
theorem ring_Len_c {ro : Ro} {h : T Obj} {p a n w nx : Nat} {L : List Nat} {K : KV} (hR : RI h p a n L w) (hK : ∀ nx', nx ≤ nx' → K (.int .i64 (L.length : Nat)) h nx') : callP Try.prog ro i_ring_Ring_Len [ptr p] h nx K := by
  obtain ⟨put, first, now, gp, ga, hne, hpl, h1, h2, h3, h4, h5, hrel, hpw, hb⟩ := hR
  apply ring_Ring_Len_of
  unfold ring_Ring_Len
  repeat (first | refine bindP_mk (by simp (disch := first | omega | exact Int.natCast_nonneg _ | assumption) only [decide_true, decide_false, Bool.not_true, Bool.not_false, newP_eq, optP_some, optP_none, bindP_some', condP_true, condP_false, ifP_tt, ifP_ff, ifP_tf, ifP_ft, exP_normal, exP_exit, exP_ret, beqP_true, beqP_false, Option.bind_some, Value.cells_agg, cells_int, cells_bool, intB_add, intB_sub, intB_mul, intB_quo, intB_rem, intB_eql, intB_neq, intB_lss, intB_leq, intB_gtr, intB_geq, intB_shr_u64, intB_shl1_u64, intB_and64, intB_or64, intB_xor64, wr_i64, wr_u8, wr_u64, convI_int, unV_not, boolB_eql, boolB_neq, pickV_true, pickV_false, lenSl_slice, ptr_at, fwdP_at, ixArr_at, load1_own, loadA_own, storeN_own, T.get_upd_same, T.get_upd_ne, cellsIn_some, putIn_cells, tl, ts, if_pos, Nat.zero_add, Nat.mul_one, Nat.add_zero, Int.toNat_natCast, ↓reduceIte, Nat.reduceLeDiff, Nat.reduceAdd, Nat.le_refl, ptrB_eql_at, nilCk_at, gp, ga] <;> rfl) ?_ | refine newP_mk ?_ | refine optP_mk ?_ | with_reducible refine condP_t ?_ | with_reducible refine condP_f ?_ | with_reducible refine ifP_tt' ?_ | with_reducible refine ifP_ff' ?_ | with_reducible refine ifP_tf' ?_ | with_reducible refine ifP_ft' ?_ | with_reducible refine ifP_u' ?_ | refine optP_mk0 ?_)
  exact ⟨h, Sub.refl _, hK _ (by omega)⟩
theorem ring_Work_c {ro : Ro} {h : T Obj} {p a n w nx : Nat} {L : List Nat} {K : KV} (hR : RI h p a n L w) (hK : ∀ nx', nx ≤ nx' → K (.int .i64 (w : Nat)) h nx') : callP Try.prog ro i_ring_Ring_Work [ptr p] h nx K := by
  obtain ⟨put, first, now, gp, ga, hne, hpl, h1, h2, h3, h4, h5, hrel, hpw, hb⟩ := hR
  apply ring_Ring_Work_of
  unfold ring_Ring_Work
  repeat (first | refine bindP_mk (by simp (disch := first | omega | exact Int.natCast_nonneg _ | assumption) only [decide_true, decide_false, Bool.not_true, Bool.not_false, newP_eq, optP_some, optP_none, bindP_some', condP_true, condP_false, ifP_tt, ifP_ff, ifP_tf, ifP_ft, exP_normal, exP_exit, exP_ret, beqP_true, beqP_false, Option.bind_some, Value.cells_agg, cells_int, cells_bool, intB_add, intB_sub, intB_mul, intB_quo, intB_rem, intB_eql, intB_neq, intB_lss, intB_leq, intB_gtr, intB_geq, intB_shr_u64, intB_shl1_u64, intB_and64, intB_or64, intB_xor64, wr_i64, wr_u8, wr_u64, convI_int, unV_not, boolB_eql, boolB_neq, pickV_true, pickV_false, lenSl_slice, ptr_at, fwdP_at, ixArr_at, load1_own, loadA_own, storeN_own, T.get_upd_same, T.get_upd_ne, cellsIn_some, putIn_cells, tl, ts, if_pos, Nat.zero_add, Nat.mul_one, Nat.add_zero, Int.toNat_natCast, ↓reduceIte, Nat.reduceLeDiff, Nat.reduceAdd, Nat.le_refl, ptrB_eql_at, nilCk_at, gp, ga] <;> rfl) ?_ | refine newP_mk ?_ | refine optP_mk ?_ | with_reducible refine condP_t ?_ | with_reducible refine condP_f ?_ | with_reducible refine ifP_tt' ?_ | with_reducible refine ifP_ff' ?_ | with_reducible refine ifP_tf' ?_ | with_reducible refine ifP_ft' ?_ | with_reducible refine ifP_u' ?_ | refine optP_mk0 ?_)
  exact ⟨h, Sub.refl _, hK _ (by omega)⟩
/-- The greatest, the least: and whether there is one. -/
def greatV (L : List Nat) : Value := if L.length = 0 then .tuple #[.int .i64 0, .bool false] else .tuple #[.int .i64 (L.getD 0 0 : Nat), .bool true]
def leastV (L : List Nat) : Value := if L.length = 0 then .tuple #[.int .i64 0, .bool false] else .tuple #[.int .i64 (L.getD (L.length - 1) 0 : Nat), .bool true]
theorem ring_Max_c {ro : Ro} {h : T Obj} {p a n w nx : Nat} {L : List Nat} {K : KV} (hR : RI h p a n L w) (hK : ∀ nx', nx ≤ nx' → K (greatV L) h nx') : callP Try.prog ro i_ring_Ring_Max [ptr p] h nx K := by
  apply ring_Ring_Max_of
  unfold ring_Ring_Max
  refine ring_Len_c hR fun n2 hn2 => ?_
  repeat (first | refine bindP_mk (by simp (disch := first | omega | exact Int.natCast_nonneg _ | assumption) only [decide_true, decide_false, Bool.not_true, Bool.not_false, newP_eq, optP_some, optP_none, bindP_some', condP_true, condP_false, ifP_tt, ifP_ff, ifP_tf, ifP_ft, exP_normal, exP_exit, exP_ret, beqP_true, beqP_false, Option.bind_some, Value.cells_agg, cells_int, cells_bool, intB_add, intB_sub, intB_mul, intB_quo, intB_rem, intB_eql, intB_neq, intB_lss, intB_leq, intB_gtr, intB_geq, intB_shr_u64, intB_shl1_u64, intB_and64, intB_or64, intB_xor64, wr_i64, wr_u8, wr_u64, convI_int, unV_not, boolB_eql, boolB_neq, pickV_true, pickV_false, lenSl_slice, ptr_at, fwdP_at, ixArr_at, load1_own, loadA_own, storeN_own, T.get_upd_same, T.get_upd_ne, cellsIn_some, putIn_cells, tl, ts, if_pos, Nat.zero_add, Nat.mul_one, Nat.add_zero, Int.toNat_natCast, ↓reduceIte, Nat.reduceLeDiff, Nat.reduceAdd, Nat.le_refl] <;> rfl) ?_ | refine newP_mk ?_ | refine optP_mk ?_ | with_reducible refine condP_t ?_ | with_reducible refine condP_f ?_ | with_reducible refine ifP_tt' ?_ | with_reducible refine ifP_ff' ?_ | with_reducible refine ifP_tf' ?_ | with_reducible refine ifP_ft' ?_ | with_reducible refine ifP_u' ?_ | refine optP_mk0 ?_)
  unfold greatV at hK
  by_cases h0 : L.length = 0
  · refine condP_tr (by simp [h0]) ?_
    rw [if_pos h0] at hK
    exact ⟨h, Sub.refl _, hK _ (by omega)⟩
  · refine condP_fa (decide_eq_false (by omega)) ?_
    rw [if_neg h0] at hK
    refine ring_count_c (i := 0) hR (by omega) fun n3 hn3 => ?_
    exact ⟨h, Sub.refl _, hK _ (by omega)⟩
theorem ring_Min_c {ro : Ro} {h : T Obj} {p a n w nx : Nat} {L : List Nat} {K : KV} (hR : RI h p a n L w) (hK : ∀ nx', nx ≤ nx' → K (leastV L) h nx') : callP Try.prog ro i_ring_Ring_Min [ptr p] h nx K := by
  apply ring_Ring_Min_of
  unfold ring_Ring_Min
  refine ring_Len_c hR fun n2 hn2 => ?_
  repeat (first | refine bindP_mk (by simp (disch := first | omega | exact Int.natCast_nonneg _ | assumption) only [decide_true, decide_false, Bool.not_true, Bool.not_false, newP_eq, optP_some, optP_none, bindP_some', condP_true, condP_false, ifP_tt, ifP_ff, ifP_tf, ifP_ft, exP_normal, exP_exit, exP_ret, beqP_true, beqP_false, Option.bind_some, Value.cells_agg, cells_int, cells_bool, intB_add, intB_sub, intB_mul, intB_quo, intB_rem, intB_eql, intB_neq, intB_lss, intB_leq, intB_gtr, intB_geq, intB_shr_u64, intB_shl1_u64, intB_and64, intB_or64, intB_xor64, wr_i64, wr_u8, wr_u64, convI_int, unV_not, boolB_eql, boolB_neq, pickV_true, pickV_false, lenSl_slice, ptr_at, fwdP_at, ixArr_at, load1_own, loadA_own, storeN_own, T.get_upd_same, T.get_upd_ne, cellsIn_some, putIn_cells, tl, ts, if_pos, Nat.zero_add, Nat.mul_one, Nat.add_zero, Int.toNat_natCast, ↓reduceIte, Nat.reduceLeDiff, Nat.reduceAdd, Nat.le_refl] <;> rfl) ?_ | refine newP_mk ?_ | refine optP_mk ?_ | with_reducible refine condP_t ?_ | with_reducible refine condP_f ?_ | with_reducible refine ifP_tt' ?_ | with_reducible refine ifP_ff' ?_ | with_reducible refine ifP_tf' ?_ | with_reducible refine ifP_ft' ?_ | with_reducible refine ifP_u' ?_ | refine optP_mk0 ?_)
  unfold leastV at hK
  by_cases h0 : L.length = 0
  · refine condP_tr (by simp [h0]) ?_
    rw [if_pos h0] at hK
    exact ⟨h, Sub.refl _, hK _ (by omega)⟩
  · refine condP_fa (decide_eq_false (by omega)) ?_
    rw [if_neg h0] at hK
    have hR' := hR
    have hln := hR.len
    obtain ⟨put, first, now, gp, ga, hne, hpl, h1, h2, h3, h4, h5, hrel, hpw, hb⟩ := hR
    repeat (first | refine bindP_mk (by simp (disch := first | omega | exact Int.natCast_nonneg _ | assumption) only [decide_true, decide_false, Bool.not_true, Bool.not_false, newP_eq, optP_some, optP_none, bindP_some', condP_true, condP_false, ifP_tt, ifP_ff, ifP_tf, ifP_ft, exP_normal, exP_exit, exP_ret, beqP_true, beqP_false, Option.bind_some, Value.cells_agg, cells_int, cells_bool, intB_add, intB_sub, intB_mul, intB_quo, intB_rem, intB_eql, intB_neq, intB_lss, intB_leq, intB_gtr, intB_geq, intB_shr_u64, intB_shl1_u64, intB_and64, intB_or64, intB_xor64, wr_i64, wr_u8, wr_u64, convI_int, unV_not, boolB_eql, boolB_neq, pickV_true, pickV_false, lenSl_slice, ptr_at, fwdP_at, ixArr_at, load1_own, loadA_own, storeN_own, T.get_upd_same, T.get_upd_ne, cellsIn_some, putIn_cells, tl, ts, if_pos, Nat.zero_add, Nat.mul_one, Nat.add_zero, Int.toNat_natCast, ↓reduceIte, Nat.reduceLeDiff, Nat.reduceAdd, Nat.le_refl, nilCk_at, gp] <;> rfl) ?_ | refine newP_mk ?_ | refine optP_mk ?_ | with_reducible refine condP_t ?_ | with_reducible refine condP_f ?_ | with_reducible refine ifP_tt' ?_ | with_reducible refine ifP_ff' ?_ | with_reducible refine ifP_tf' ?_ | with_reducible refine ifP_ft' ?_ | with_reducible refine ifP_u' ?_ | refine optP_mk0 ?_)
    have e : (L.length : Int) - 1 = ((L.length - 1 : Nat) : Int) := by omega
    rw [e]
    refine ring_count_c (i := L.length - 1) hR' (by omega) fun n3 hn3 => ?_
    exact ⟨h, Sub.refl _, hK _ (by omega)⟩
end V
end Go.Proofs.Ytnglppngpioipaa
