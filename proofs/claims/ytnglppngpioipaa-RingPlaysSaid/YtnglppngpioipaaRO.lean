/- The reference's ring: what its methods leave, and hand back.
   No condition. -/
import Derived.Test.YtnglppngpioipaaRK
set_option linter.unusedVariables false
set_option linter.unusedSimpArgs false
namespace Go.Proofs.Ytnglppngpioipaa
namespace V
attribute [local irreducible] bindP ifP condP newP optP exP beqP
theorem tin_bool : ∃ i, tin Try.prog y_bool = some i ∧ i.size = 1 ∧ i.bytes = 1 := by
  have h : (tin Try.prog y_bool).map (fun i => (i.size, i.bytes)) = some (1, 1) := by kernel_rfl
  cases hi : tin Try.prog y_bool with
  | none => rw [hi] at h; cases h
  | some i => rw [hi] at h; simp at h; exact ⟨i, rfl, h.1, h.2⟩
theorem und_bools : und Try.prog y_s_bool = some (.slice y_bool) := by kernel_rfl
theorem zer_bool : zer Try.prog y_bool = some (.bool false) := by kernel_rfl
theorem zerosV_bool : ∀ n : Nat, zerosV [.bool false] n = List.replicate n (Value.bool false)
  | 0 => rfl
  | n + 1 => by
    have := zerosV_bool n
    simp only [zerosV, this, List.replicate_succ]; rfl
theorem make_bool {aid n : Nat} (h0 : 1 ≤ n) (h1 : n ≤ 1000000) : makeV Try.prog y_s_bool aid (.int .i64 (n : Int)) (.int .i64 (n : Int)) = some (.slice (some (own aid 1)) n n, some (.cells (List.replicate n (Value.bool false)).toArray y_bool)) := by
  obtain ⟨i, g1, g2, g3⟩ := tin_bool
  have hb : Nat.ble (n * 1) big = true := Nat.ble_eq_true_of_le (by unfold big; omega)
  have e1 : decide ((0 : Int) ≤ (n : Int)) = true := by simp
  have e2 : decide ((n : Int) ≤ (n : Int)) = true := by simp
  have e3 : decide ((n : Int) ≤ 70368744177664) = true := by simp; omega
  have hz : zrow Try.prog y_bool n = some (List.replicate n (Value.bool false)) := by
    obtain ⟨m, rfl⟩ : ∃ m, n = m + 1 := ⟨n - 1, by omega⟩
    have hs : siz Try.prog y_bool = some 1 := by kernel_rfl
    unfold zrow
    simp only [zer_bool, hs, Option.bind_some]
    have h3 : Nat.beq (Value.cells (.bool false)).size 1 = true := rfl
    have h4 : Nat.blt 0 1 = true := rfl
    rw [h3, h4]
    simp only
    rw [← zerosV_bool]; rfl
  unfold makeV
  simp only [und_bools, e1, e2, g1, Option.bind_some, g3, Int.toNat_natCast, hb, e3, hz, g2]
/-- Which of the numbers to n are in L. -/
def isC (n : Nat) (L : List Nat) : List Value := (List.range (n + 1)).map fun i => .bool (decide (i ∈ L))
theorem isC_len (n : Nat) (L : List Nat) : (isC n L).length = n + 1 := by simp [isC]
theorem isC_get {n i : Nat} {L : List Nat} (hi : i ≤ n) : (isC n L)[i]? = some (.bool (decide (i ∈ L))) := by
  simp [isC, List.getElem?_range (show i < n + 1 by omega)]
theorem isC_nil (n : Nat) : isC n [] = List.replicate (n + 1) (Value.bool false) := by
  apply List.ext_getElem?
  intro i
  by_cases hi : i < n + 1
  · rw [isC_get (by omega), List.getElem?_replicate, if_pos hi]; simp
  · rw [List.getElem?_eq_none (by rw [isC_len]; omega), List.getElem?_eq_none (by simp; omega)]
theorem isC_ext {n : Nat} {L : List Nat} {l : List Value} (hl : l.length = n + 1) (h : ∀ i, i ≤ n → l[i]? = some (.bool (decide (i ∈ L)))) : l = isC n L := by
  apply List.ext_getElem?
  intro i
  by_cases hi : i < n + 1
  · rw [isC_get (by omega), h i (by omega)]
  · rw [List.getElem?_eq_none (by omega), List.getElem?_eq_none (by rw [isC_len]; omega)]
/-- The reference's ring at p: n, the counts L, w done. -/
def WI (h : T Obj) (p n : Nat) (L : List Nat) (w : Nat) : Prop := ∃ a, h.get p = some (.cells #[.slice (some (V.own a 1)) (n + 1) (n + 1), .int .i64 w] y_raddleref03_Ring) ∧ h.get a = some (.cells (isC n L).toArray y_bool) ∧ p ≠ a ∧ 1 ≤ n ∧ n ≤ 4096 ∧ w ≤ 1000000
theorem buildV_ref (a n : Nat) : buildV Try.prog y_raddleref03_Ring [(0, .slice (some (own a 1)) n n)] = some (.agg #[.slice (some (own a 1)) n n, .int .i64 0]) := by kernel_rfl
theorem ref03_New_c {ro : Ro} {h : T Obj} {n nx : Nat} {K : KV} (hf : Fr h nx) (h1 : 1 ≤ n) (h2 : n ≤ 4096) (hK : ∀ p h' nx', nx ≤ p → nx ≤ nx' → Sub h h' → Fr h' nx' → WI h' p n [] 0 → K (ptr p) h' nx') : callP Try.prog ro i_ref03_New [.int .i64 (n : Int)] h nx K := by
  apply ref03_New_of
  unfold ref03_New
  have e : intB .add (.int .i64 (n : Int)) (.int .i64 1) = some (.int .i64 ((n + 1 : Nat) : Int)) := by rw [intB_add, wr_i64 (by omega) (by omega)]; rfl
  refine bindP_mk e ?_
  refine bindP_mk (make_bool (by omega) (by omega)) (optP_mk ?_)
  refine bindP_mk (buildV_ref _ _) (newP_mk ?_)
  refine ⟨_, Sub.refl _, hK (nx + 5) _ _ (by omega) (by omega) (((Sub.refl h).new hf (by omega)).new hf (by omega)) ((hf.upd (m := nx + 7) (by omega) (by omega)).upd (by omega) (by omega)) ?_⟩
  exact ⟨nx + 3, by rw [T.get_upd_same]; rfl, by rw [T.get_upd_ne _ _ (by omega), T.get_upd_same, isC_nil], by omega, h1, h2, by omega⟩
theorem mem_putL {L : List Nat} {i : Nat} : i ∈ putL L ↔ i = 1 ∨ i ∈ L := by
  unfold putL
  by_cases h : L.getD (L.length - 1) 0 = 1
  · rw [if_pos h]
    refine ⟨fun h => .inr h, fun h2 => ?_⟩
    rcases h2 with rfl | h2
    · have hl : L.length ≠ 0 := fun h0 => by rw [List.length_eq_zero_iff.1 h0] at h; simp at h
      have h1 : L.getD (L.length - 1) 0 = L[L.length - 1] := by simp [List.getD, List.getElem?_eq_getElem (show L.length - 1 < L.length by omega)]
      rw [h1] at h; rw [← h]; exact List.getElem_mem _
    · exact h2
  · rw [if_neg h]; simp [or_comm]
theorem mem_incL {L : List Nat} {n i : Nat} (hp : L.Pairwise (fun x y => y < x)) (hb : ∀ x ∈ L, 1 ≤ x ∧ x ≤ n) : i ∈ incL n L ↔ 2 ≤ i ∧ i ≤ n ∧ i - 1 ∈ L := by
  have hm : i ∈ L.map (· + 1) ↔ 2 ≤ i ∧ i - 1 ∈ L := by
    rw [List.mem_map]
    refine ⟨fun ⟨x, hx, e⟩ => ?_, fun ⟨h1, h2⟩ => ⟨i - 1, h2, by omega⟩⟩
    have := hb x hx
    exact ⟨by omega, by rw [show i - 1 = x by omega]; exact hx⟩
  unfold incL
  by_cases h : n ≤ L.getD 0 0
  · rw [if_pos h]
    cases L with
    | nil => simp
    | cons y r =>
      rw [List.map_cons, List.tail_cons]
      rw [List.pairwise_cons] at hp
      have hy := hb y (List.mem_cons_self ..)
      have h : n ≤ y := by simpa using h
      rw [List.mem_map]
      refine ⟨fun ⟨x, hx, e⟩ => ?_, fun ⟨h1, h2, h3⟩ => ?_⟩
      · have h8 := hp.1 x hx
        have h9 := hb x (List.mem_cons_of_mem _ hx)
        exact ⟨by omega, by omega, by rw [show i - 1 = x by omega]; exact List.mem_cons_of_mem _ hx⟩
      · rcases List.mem_cons.1 h3 with h4 | h4
        · omega
        · exact ⟨i - 1, h4, by omega⟩
  · rw [if_neg h, hm]
    refine ⟨fun ⟨h1, h2⟩ => ⟨h1, ?_, h2⟩, fun ⟨h1, _, h2⟩ => ⟨h1, h2⟩⟩
    have := first_max hp h2
    omega
/-- Nothing of what stood below has turned but the two blocks. -/
def But (h h' : T Obj) (p nx : Nat) : Prop := ∃ a, (h.get p = none ∨ ∃ n w, h.get p = some (.cells #[.slice (some (V.own a 1)) n n, .int .i64 w] y_raddleref03_Ring)) ∧ ∀ k, k < nx → k ≠ p → k ≠ a → h'.get k = h.get k
set_option maxRecDepth 4000 in
theorem ref03_Put_c {ro : Ro} {h : T Obj} {p n w nx : Nat} {L : List Nat} {K : KV} (hR : WI h p n L w) (hf : Fr h nx) (hw : w + 1 ≤ 1000000) (hK : ∀ h' nx', nx ≤ nx' → Fr h' nx' → WI h' p n (putL L) (w + 1) → But h h' p nx → K (.tuple #[]) h' nx') : callP Try.prog ro i_ref03_Ring_Put [ptr p] h nx K := by
  obtain ⟨a, gp, ga, hne, b1, b2, b3⟩ := hR
  have hlp := hf.lt gp
  have hla := hf.lt ga
  apply ref03_Ring_Put_of
  unfold ref03_Ring_Put
  repeat (first | refine bindP_mk (by simp (disch := first | omega | exact Int.natCast_nonneg _ | assumption) only [decide_true, decide_false, Bool.not_true, Bool.not_false, newP_eq, optP_some, optP_none, bindP_some', condP_true, condP_false, ifP_tt, ifP_ff, ifP_tf, ifP_ft, exP_normal, exP_exit, exP_ret, beqP_true, beqP_false, Option.bind_some, Value.cells_agg, cells_int, cells_bool, intB_add, intB_sub, intB_mul, intB_quo, intB_rem, intB_eql, intB_neq, intB_lss, intB_leq, intB_gtr, intB_geq, intB_shr_u64, intB_shl1_u64, intB_and64, intB_or64, intB_xor64, wr_i64, wr_u8, wr_u64, convI_int, unV_not, boolB_eql, boolB_neq, pickV_true, pickV_false, lenSl_slice, ptr_at, fwdP_at, ixArr_at, load1_own, loadA_own, storeN_own, T.get_upd_same, T.get_upd_ne, cellsIn_some, putIn_cells, tl, ts, if_pos, Nat.zero_add, Nat.mul_one, Nat.add_zero, Int.toNat_natCast, ↓reduceIte, Nat.reduceLeDiff, Nat.reduceAdd, Nat.le_refl, nilCk_at, gp] <;> rfl) ?_ | refine newP_mk ?_ | refine optP_mk ?_ | with_reducible refine condP_t ?_ | with_reducible refine condP_f ?_ | with_reducible refine ifP_tt' ?_ | with_reducible refine ifP_ff' ?_ | with_reducible refine ifP_tf' ?_ | with_reducible refine ifP_ft' ?_ | with_reducible refine ifP_u' ?_ | refine optP_mk0 ?_)
  refine bindP_mk (ix_own1 (i := 1) _ _ _ _ (by omega)) ?_
  refine bindP_mk (store1_own (v := .bool true) (l := isC n L) ga (by rw [isC_len]; omega) rfl rfl) ?_
  have e : (isC n L).set 1 (.bool true) = isC n (putL L) := by
    apply isC_ext (by rw [List.length_set, isC_len])
    intro i hi
    by_cases h1 : i = 1
    · subst h1
      rw [List.getElem?_set_self (by rw [isC_len]; omega), decide_eq_true (mem_putL.2 (.inl rfl))]
    · rw [List.getElem?_set_ne (fun e => h1 e.symm), isC_get hi]
      congr 3
      exact propext ⟨fun h => mem_putL.2 (.inr h), fun h => (mem_putL.1 h).resolve_left h1⟩
  rw [e]
  have gp2 : (h.upd a (some (.cells (isC n (putL L)).toArray y_bool))).get p = some (.cells #[.slice (some (V.own a 1)) (n + 1) (n + 1), .int .i64 w] y_raddleref03_Ring) := by rw [T.get_upd_ne _ _ hne]; exact gp
  repeat (first | refine bindP_mk (by simp (disch := first | omega | exact Int.natCast_nonneg _ | assumption) only [decide_true, decide_false, Bool.not_true, Bool.not_false, newP_eq, optP_some, optP_none, bindP_some', condP_true, condP_false, ifP_tt, ifP_ff, ifP_tf, ifP_ft, exP_normal, exP_exit, exP_ret, beqP_true, beqP_false, Option.bind_some, Value.cells_agg, cells_int, cells_bool, intB_add, intB_sub, intB_mul, intB_quo, intB_rem, intB_eql, intB_neq, intB_lss, intB_leq, intB_gtr, intB_geq, intB_shr_u64, intB_shl1_u64, intB_and64, intB_or64, intB_xor64, wr_i64, wr_u8, wr_u64, convI_int, unV_not, boolB_eql, boolB_neq, pickV_true, pickV_false, lenSl_slice, ptr_at, fwdP_at, ixArr_at, load1_own, loadA_own, storeN_own, T.get_upd_same, T.get_upd_ne, cellsIn_some, putIn_cells, tl, ts, if_pos, Nat.zero_add, Nat.mul_one, Nat.add_zero, Int.toNat_natCast, ↓reduceIte, Nat.reduceLeDiff, Nat.reduceAdd, Nat.le_refl, nilCk_at, gp2] <;> rfl) ?_ | refine newP_mk ?_ | refine optP_mk ?_ | with_reducible refine condP_t ?_ | with_reducible refine condP_f ?_ | with_reducible refine ifP_tt' ?_ | with_reducible refine ifP_ff' ?_ | with_reducible refine ifP_tf' ?_ | with_reducible refine ifP_ft' ?_ | with_reducible refine ifP_u' ?_ | refine optP_mk0 ?_)
  refine ⟨_, Sub.refl _, hK _ _ (by omega) ((hf.upd (m := nx + 14) (by omega) (by omega)).upd (m := nx + 14) (by omega) (by omega)) ⟨a, ?_, ?_, hne, b1, b2, hw⟩ ⟨a, .inr ⟨_, _, gp⟩, fun k h1 h2 h3 => by rw [T.get_upd_ne _ _ h2, T.get_upd_ne _ _ h3]⟩⟩
  · rw [T.get_upd_same]; rfl
  · rw [T.get_upd_ne _ _ (Ne.symm hne), T.get_upd_same]
set_option maxRecDepth 4000 in
theorem ref03_Clear_c {ro : Ro} {h : T Obj} {p n w nx : Nat} {L : List Nat} {K : KV} (hR : WI h p n L w) (hf : Fr h nx) (hw : w + 1 ≤ 1000000) (hK : ∀ h' nx', nx ≤ nx' → Fr h' nx' → WI h' p n [] (w + 1) → But h h' p nx → K (.tuple #[]) h' nx') : callP Try.prog ro i_ref03_Ring_Clear [ptr p] h nx K := by
  obtain ⟨a, gp, ga, hne, b1, b2, b3⟩ := hR
  have hlp := hf.lt gp
  have hla := hf.lt ga
  apply ref03_Ring_Clear_of
  unfold ref03_Ring_Clear
  repeat (first | refine bindP_mk (by simp (disch := first | omega | exact Int.natCast_nonneg _ | assumption) only [decide_true, decide_false, Bool.not_true, Bool.not_false, newP_eq, optP_some, optP_none, bindP_some', condP_true, condP_false, ifP_tt, ifP_ff, ifP_tf, ifP_ft, exP_normal, exP_exit, exP_ret, beqP_true, beqP_false, Option.bind_some, Value.cells_agg, cells_int, cells_bool, intB_add, intB_sub, intB_mul, intB_quo, intB_rem, intB_eql, intB_neq, intB_lss, intB_leq, intB_gtr, intB_geq, intB_shr_u64, intB_shl1_u64, intB_and64, intB_or64, intB_xor64, wr_i64, wr_u8, wr_u64, convI_int, unV_not, boolB_eql, boolB_neq, pickV_true, pickV_false, lenSl_slice, ptr_at, fwdP_at, ixArr_at, load1_own, loadA_own, storeN_own, T.get_upd_same, T.get_upd_ne, cellsIn_some, putIn_cells, tl, ts, if_pos, Nat.zero_add, Nat.mul_one, Nat.add_zero, Int.toNat_natCast, ↓reduceIte, Nat.reduceLeDiff, Nat.reduceAdd, Nat.le_refl, nilCk_at, gp] <;> rfl) ?_ | refine newP_mk ?_ | refine optP_mk ?_ | with_reducible refine condP_t ?_ | with_reducible refine condP_f ?_ | with_reducible refine ifP_tt' ?_ | with_reducible refine ifP_ff' ?_ | with_reducible refine ifP_tf' ?_ | with_reducible refine ifP_ft' ?_ | with_reducible refine ifP_u' ?_ | refine optP_mk0 ?_)
  refine bindP_mk (make_bool (by omega) (by omega)) (optP_mk ?_)
  rw [← isC_nil]
  have gp2 : (h.upd (nx + 6) (some (.cells (isC n []).toArray y_bool))).get p = some (.cells #[.slice (some (V.own a 1)) (n + 1) (n + 1), .int .i64 w] y_raddleref03_Ring) := by rw [T.get_upd_ne _ _ (by omega)]; exact gp
  repeat (first | refine bindP_mk (by simp (disch := first | omega | exact Int.natCast_nonneg _ | assumption) only [decide_true, decide_false, Bool.not_true, Bool.not_false, newP_eq, optP_some, optP_none, bindP_some', condP_true, condP_false, ifP_tt, ifP_ff, ifP_tf, ifP_ft, exP_normal, exP_exit, exP_ret, beqP_true, beqP_false, Option.bind_some, Value.cells_agg, cells_int, cells_bool, intB_add, intB_sub, intB_mul, intB_quo, intB_rem, intB_eql, intB_neq, intB_lss, intB_leq, intB_gtr, intB_geq, intB_shr_u64, intB_shl1_u64, intB_and64, intB_or64, intB_xor64, wr_i64, wr_u8, wr_u64, convI_int, unV_not, boolB_eql, boolB_neq, pickV_true, pickV_false, lenSl_slice, ptr_at, fwdP_at, ixArr_at, load1_own, loadA_own, storeN_own, T.get_upd_same, T.get_upd_ne, cellsIn_some, putIn_cells, tl, ts, if_pos, Nat.zero_add, Nat.mul_one, Nat.add_zero, Int.toNat_natCast, ↓reduceIte, Nat.reduceLeDiff, Nat.reduceAdd, Nat.le_refl, nilCk_at, gp2] <;> rfl) ?_ | refine newP_mk ?_ | refine optP_mk ?_ | with_reducible refine condP_t ?_ | with_reducible refine condP_f ?_ | with_reducible refine ifP_tt' ?_ | with_reducible refine ifP_ff' ?_ | with_reducible refine ifP_tf' ?_ | with_reducible refine ifP_ft' ?_ | with_reducible refine ifP_u' ?_ | refine optP_mk0 ?_)
  refine ⟨_, Sub.refl _, hK _ _ (by omega) (((hf.upd (m := nx + 18) (by omega) (by omega)).upd (m := nx + 18) (by omega) (by omega)).upd (m := nx + 18) (by omega) (by omega)) ⟨nx + 6, ?_, ?_, by omega, b1, b2, hw⟩ ⟨a, .inr ⟨_, _, gp⟩, fun k h1 h2 h3 => by rw [T.get_upd_ne _ _ h2, T.get_upd_ne _ _ h2, T.get_upd_ne _ _ (by omega)]⟩⟩
  · rw [T.get_upd_same]; rfl
  · rw [T.get_upd_ne _ _ (by omega), T.get_upd_ne _ _ (by omega), T.get_upd_same]
set_option maxRecDepth 4000 in
theorem ref03_Inc_c {ro : Ro} {h : T Obj} {p n w nx : Nat} {L : List Nat} {K : KV} (hR : WI h p n L w) (hp : L.Pairwise (fun x y => y < x)) (hb : ∀ x ∈ L, 1 ≤ x ∧ x ≤ n) (hf : Fr h nx) (hw : w + 1 ≤ 1000000) (hK : ∀ h' nx', nx ≤ nx' → Fr h' nx' → WI h' p n (incL n L) (w + 1) → But h h' p nx → K (.tuple #[]) h' nx') : callP Try.prog ro i_ref03_Ring_Inc [ptr p] h nx K := by
  obtain ⟨a, gp, ga, hne, b1, b2, b3⟩ := hR
  have hlp := hf.lt gp
  have hla := hf.lt ga
  apply ref03_Ring_Inc_of
  unfold ref03_Ring_Inc
  repeat (first | refine bindP_mk (by simp (disch := first | omega | exact Int.natCast_nonneg _ | assumption) only [decide_true, decide_false, Bool.not_true, Bool.not_false, newP_eq, optP_some, optP_none, bindP_some', condP_true, condP_false, ifP_tt, ifP_ff, ifP_tf, ifP_ft, exP_normal, exP_exit, exP_ret, beqP_true, beqP_false, Option.bind_some, Value.cells_agg, cells_int, cells_bool, intB_add, intB_sub, intB_mul, intB_quo, intB_rem, intB_eql, intB_neq, intB_lss, intB_leq, intB_gtr, intB_geq, intB_shr_u64, intB_shl1_u64, intB_and64, intB_or64, intB_xor64, wr_i64, wr_u8, wr_u64, convI_int, unV_not, boolB_eql, boolB_neq, pickV_true, pickV_false, lenSl_slice, ptr_at, fwdP_at, ixArr_at, load1_own, loadA_own, storeN_own, T.get_upd_same, T.get_upd_ne, cellsIn_some, putIn_cells, tl, ts, if_pos, Nat.zero_add, Nat.mul_one, Nat.add_zero, Int.toNat_natCast, ↓reduceIte, Nat.reduceLeDiff, Nat.reduceAdd, Nat.le_refl, nilCk_at, gp] <;> rfl) ?_ | refine newP_mk ?_ | refine optP_mk ?_ | with_reducible refine condP_t ?_ | with_reducible refine condP_f ?_ | with_reducible refine ifP_tt' ?_ | with_reducible refine ifP_ff' ?_ | with_reducible refine ifP_tf' ?_ | with_reducible refine ifP_ft' ?_ | with_reducible refine ifP_u' ?_ | refine optP_mk0 ?_)
  refine bindP_mk (make_bool (by omega) (by omega)) (optP_mk ?_)
  rw [← isC_nil]
  refine loopP_rule (fun j e h' nx' => ∃ (k : Nat) (l : List Value), k + j = n ∧ 1 ≤ k ∧ nx + 8 ≤ nx' ∧ e 0 = ptr p ∧ e 2 = .slice (some (own (nx + 5) 1)) (n + 1) (n + 1) ∧ e 3 = .int .i64 (k : Nat) ∧ h'.get (nx + 5) = some (.cells l.toArray y_bool) ∧ l.length = n + 1 ∧ (∀ i, i ≤ n → l[i]? = some (.bool (decide (i ≤ k ∧ i ∈ incL n L)))) ∧
    (∀ i, i ≠ nx + 5 → h'.get i = h.get i)) ?_ (n := n - 1)
    ⟨1, isC n [], by omega, by omega, by omega, rfl, rfl, rfl, by rw [T.get_upd_same], isC_len _ _, fun i hi => by
      rw [isC_get hi]
      have : ¬ (i ≤ 1 ∧ i ∈ incL n L) := fun ⟨h1, h2⟩ => by have := (mem_incL hp hb).1 h2; omega
      rw [decide_eq_false this]; simp, fun i hi => T.get_upd_ne _ _ hi⟩
  rintro j e h' nx' ⟨k, l, hkj, hk1, hnx, e0, e2, e3, g5, hll, hl, hrest⟩ Q' hc hx
  have gp' : h'.get p = some (.cells #[.slice (some (V.own a 1)) (n + 1) (n + 1), .int .i64 w] y_raddleref03_Ring) := by rw [hrest _ (by omega)]; exact gp
  have ga' : h'.get a = some (.cells (isC n L).toArray y_bool) := by rw [hrest _ (by omega)]; exact ga
  unfold ref03_Ring_Inc_L1
  rw [e0, e2, e3]
  have st : intB .add (.int .i64 (k : Int)) (.int .i64 1) = some (.int .i64 ((k + 1 : Nat) : Int)) := by rw [intB_add, wr_i64 (by omega) (by omega)]; rfl
  refine bindP_mk st ?_
  repeat (first | refine bindP_mk (by simp (disch := first | omega | exact Int.natCast_nonneg _ | assumption) only [decide_true, decide_false, Bool.not_true, Bool.not_false, newP_eq, optP_some, optP_none, bindP_some', condP_true, condP_false, ifP_tt, ifP_ff, ifP_tf, ifP_ft, exP_normal, exP_exit, exP_ret, beqP_true, beqP_false, Option.bind_some, Value.cells_agg, cells_int, cells_bool, intB_add, intB_sub, intB_mul, intB_quo, intB_rem, intB_eql, intB_neq, intB_lss, intB_leq, intB_gtr, intB_geq, intB_shr_u64, intB_shl1_u64, intB_and64, intB_or64, intB_xor64, wr_i64, wr_u8, wr_u64, convI_int, unV_not, boolB_eql, boolB_neq, pickV_true, pickV_false, lenSl_slice, ptr_at, fwdP_at, ixArr_at, load1_own, loadA_own, storeN_own, T.get_upd_same, T.get_upd_ne, cellsIn_some, putIn_cells, tl, ts, if_pos, Nat.zero_add, Nat.mul_one, Nat.add_zero, Int.toNat_natCast, ↓reduceIte, Nat.reduceLeDiff, Nat.reduceAdd, Nat.le_refl, nilCk_at, gp'] <;> rfl) ?_ | refine newP_mk ?_ | refine optP_mk ?_ | with_reducible refine condP_t ?_ | with_reducible refine condP_f ?_ | with_reducible refine ifP_tt' ?_ | with_reducible refine ifP_ff' ?_ | with_reducible refine ifP_tf' ?_ | with_reducible refine ifP_ft' ?_ | with_reducible refine ifP_u' ?_ | refine optP_mk0 ?_)
  by_cases hk : k < n
  · refine condP_tr (decide_eq_true (by omega)) ?_
    refine bindP_mk st ?_
    repeat (first | refine bindP_mk (by simp (disch := first | omega | exact Int.natCast_nonneg _ | assumption) only [decide_true, decide_false, Bool.not_true, Bool.not_false, newP_eq, optP_some, optP_none, bindP_some', condP_true, condP_false, ifP_tt, ifP_ff, ifP_tf, ifP_ft, exP_normal, exP_exit, exP_ret, beqP_true, beqP_false, Option.bind_some, Value.cells_agg, cells_int, cells_bool, intB_add, intB_sub, intB_mul, intB_quo, intB_rem, intB_eql, intB_neq, intB_lss, intB_leq, intB_gtr, intB_geq, intB_shr_u64, intB_shl1_u64, intB_and64, intB_or64, intB_xor64, wr_i64, wr_u8, wr_u64, convI_int, unV_not, boolB_eql, boolB_neq, pickV_true, pickV_false, lenSl_slice, ptr_at, fwdP_at, ixArr_at, load1_own, loadA_own, storeN_own, T.get_upd_same, T.get_upd_ne, cellsIn_some, putIn_cells, tl, ts, if_pos, Nat.zero_add, Nat.mul_one, Nat.add_zero, Int.toNat_natCast, ↓reduceIte, Nat.reduceLeDiff, Nat.reduceAdd, Nat.le_refl, nilCk_at, gp'] <;> rfl) ?_ | refine newP_mk ?_ | refine optP_mk ?_ | with_reducible refine condP_t ?_ | with_reducible refine condP_f ?_ | with_reducible refine ifP_tt' ?_ | with_reducible refine ifP_ff' ?_ | with_reducible refine ifP_tf' ?_ | with_reducible refine ifP_ft' ?_ | with_reducible refine ifP_u' ?_ | refine optP_mk0 ?_)
    refine bindP_mk (ix_own1 (i := k) _ _ _ _ (by omega)) ?_
    have hgk : load1 ro h' (at_ a k 0) = some (.bool (decide (k ∈ L))) := by
      rw [load1_own, ga', cellsIn_some, Option.bind_some]; exact isC_get (by omega)
    refine bindP_mk hgk ?_
    refine bindP_mk (ix_own1 (i := k + 1) _ _ _ _ (by omega)) ?_
    refine bindP_mk (store1_own (v := .bool (decide (k ∈ L))) (l := l) g5 (by rw [hll]; omega) rfl rfl) ?_
    refine bindP_mk st ?_
    refine hc (j - 1) _ _ _ _ (by omega) ⟨k + 1, l.set (k + 1) (.bool (decide (k ∈ L))), by omega, by omega, by omega, e0, e2, rfl, by rw [T.get_upd_same], by rw [List.length_set]; exact hll, ?_, fun i hi => by rw [T.get_upd_ne _ _ hi]; exact hrest i hi⟩ (Sub.refl _)
    intro i hi
    by_cases h1 : i = k + 1
    · subst h1
      rw [List.getElem?_set_self (by omega)]
      congr 3
      have := mem_incL (i := k + 1) hp hb
      exact propext ⟨fun h => ⟨by omega, this.2 ⟨by omega, by omega, h⟩⟩, fun ⟨_, h⟩ => (this.1 h).2.2⟩
    · rw [List.getElem?_set_ne (fun e => h1 e.symm), hl i hi]
      congr 3
      exact propext ⟨fun ⟨h2, h3⟩ => ⟨by omega, h3⟩, fun ⟨h2, h3⟩ => ⟨by omega, h3⟩⟩
  · refine condP_fa (decide_eq_false (by omega)) ?_
    refine hx _ _ _ _ (fun e => by cases e) (exP_e (beqP_t ?_))
    have hl2 : l = isC n (incL n L) := isC_ext hll fun i hi => by
      rw [hl i hi]
      congr 3
      exact propext ⟨fun ⟨_, h⟩ => h, fun h => ⟨by omega, h⟩⟩
    unfold ref03_Ring_Inc_j1
    have f0 : ∀ a1 a2 a3 a4 a5 a6 a7 a8, (puts e [(10, a1), (11, a2), (12, a3), (13, a4), (14, a5), (15, a6), (16, a7), (17, a8)]) 0 = ptr p := fun _ _ _ _ _ _ _ _ => e0
    have f2 : ∀ a1 a2 a3 a4 a5 a6 a7 a8, (puts e [(10, a1), (11, a2), (12, a3), (13, a4), (14, a5), (15, a6), (16, a7), (17, a8)]) 2 = .slice (some (own (nx + 5) 1)) (n + 1) (n + 1) := fun _ _ _ _ _ _ _ _ => e2
    rw [f0, f2]
    repeat (first | refine bindP_mk (by simp (disch := first | omega | exact Int.natCast_nonneg _ | assumption) only [decide_true, decide_false, Bool.not_true, Bool.not_false, newP_eq, optP_some, optP_none, bindP_some', condP_true, condP_false, ifP_tt, ifP_ff, ifP_tf, ifP_ft, exP_normal, exP_exit, exP_ret, beqP_true, beqP_false, Option.bind_some, Value.cells_agg, cells_int, cells_bool, intB_add, intB_sub, intB_mul, intB_quo, intB_rem, intB_eql, intB_neq, intB_lss, intB_leq, intB_gtr, intB_geq, intB_shr_u64, intB_shl1_u64, intB_and64, intB_or64, intB_xor64, wr_i64, wr_u8, wr_u64, convI_int, unV_not, boolB_eql, boolB_neq, pickV_true, pickV_false, lenSl_slice, ptr_at, fwdP_at, ixArr_at, load1_own, loadA_own, storeN_own, T.get_upd_same, T.get_upd_ne, cellsIn_some, putIn_cells, tl, ts, if_pos, Nat.zero_add, Nat.mul_one, Nat.add_zero, Int.toNat_natCast, ↓reduceIte, Nat.reduceLeDiff, Nat.reduceAdd, Nat.le_refl, nilCk_at, gp'] <;> rfl) ?_ | refine newP_mk ?_ | refine optP_mk ?_ | with_reducible refine condP_t ?_ | with_reducible refine condP_f ?_ | with_reducible refine ifP_tt' ?_ | with_reducible refine ifP_ff' ?_ | with_reducible refine ifP_tf' ?_ | with_reducible refine ifP_ft' ?_ | with_reducible refine ifP_u' ?_ | refine optP_mk0 ?_)
    refine ⟨_, Sub.refl _, hK _ _ (by omega) ?_ ⟨nx + 5, ?_, ?_, by omega, b1, b2, hw⟩ ⟨a, .inr ⟨_, _, gp⟩, fun k h1 h2 h3 => by rw [T.get_upd_ne _ _ h2, T.get_upd_ne _ _ h2, hrest _ (by omega)]⟩⟩
    · intro i hi
      rw [T.get_upd_ne _ _ (by omega), T.get_upd_ne _ _ (by omega), hrest _ (by omega)]
      exact hf i (by omega)
    · rw [T.get_upd_same]; rfl
    · rw [T.get_upd_ne _ _ (by omega), T.get_upd_ne _ _ (by omega), g5, hl2]
theorem asc_filter {k : Nat} : ∀ {R : List Nat}, R.Pairwise (· < ·) → R.filter (fun x => decide (x ≤ k + 1)) = R.filter (fun x => decide (x ≤ k)) ++ (if k + 1 ∈ R then [k + 1] else [])
  | [], _ => rfl
  | x :: r, hp => by
    rw [List.pairwise_cons] at hp
    have ih := asc_filter (k := k) hp.2
    have hnone : k < x → r.filter (fun x => decide (x ≤ k + 1)) = [] := fun hx => List.filter_eq_nil_iff.2 fun y hy => by have := hp.1 y hy; simp; omega
    have hnone2 : k < x → r.filter (fun x => decide (x ≤ k)) = [] := fun hx => List.filter_eq_nil_iff.2 fun y hy => by have := hp.1 y hy; simp; omega
    by_cases h1 : x ≤ k
    · have hne : k + 1 ≠ x := by omega
      rw [List.filter_cons_of_pos (by simp; omega), List.filter_cons_of_pos (by simp; omega), ih, List.cons_append]
      simp [List.mem_cons, hne]
    · by_cases h2 : x = k + 1
      · subst h2
        rw [List.filter_cons_of_pos (by simp), List.filter_cons_of_neg (by simp), hnone (by omega), hnone2 (by omega), if_pos (List.mem_cons_self ..)]; rfl
      · have hnm : k + 1 ∉ x :: r := fun h => by
          rcases List.mem_cons.1 h with h | h
          · omega
          · have := hp.1 _ h; omega
        rw [List.filter_cons_of_neg (by simp; omega), List.filter_cons_of_neg (by simp; omega), hnone (by omega), hnone2 (by omega), if_neg hnm]; rfl
theorem append_lit64r {ro : Ro} {h h0 : T Obj} {v : Value} {n1 lo hi nx nx0 : Nat} {l : List Nat} {b : Nat} {K : Value × Option Obj → Value × T Obj × Nat → Prop} (ho : Own h v 1 y_int (intsC l) lo hi) (hl : l.length ≤ 1000000) (hf : Fr h nx) (hs : Sub h0 h) (hf0 : Fr h0 nx0) (hlo0 : nx0 ≤ lo) (hlo : lo ≤ hi) (hn : hi ≤ n1) (hnx : nx ≤ n1)
    {n2 : Nat} (hn2 : n1 < n2)
    (hK : ∀ h' r, Own h' r 1 y_int (intsC (l ++ [b])) lo (n2 + 1) → Sub h0 h' → Fr h' (n2 + 1) → (∀ k, (k < lo ∨ hi ≤ k) → k ≠ n2 → k ≠ n1 → h'.get k = h.get k) → K (.slice (some (own n1 1)) 1 1, some (.cells #[.int .i64 b] y_int)) (r, h', n2 + 1)) :
    bindP (sliceLitV Try.prog y_s_int n1 1 [(0, .int .i64 (b : Int))]) fun r => optP h n1 r.2 fun h' => bindP (appendV Try.prog ro h' n2 #[y_s_int, y_s_int] [v, r.1]) (K r) := by
  refine bindP_mk (lit_i64 _ _) (optP_mk ?_)
  have ho2 : Own (h.upd n1 (some (.cells #[.int .i64 (b : Int)] y_int))) v 1 y_int (intsC l) lo hi := ho.keep (Nat.le_refl _) fun id h1 h2 o hg => by rw [T.get_upd_ne _ _ (by omega)]; exact hg
  have hx1 : Sl ro (h.upd n1 (some (.cells #[.int .i64 (b : Int)] y_int))) (.slice (some (own n1 1)) 1 1) 1 (intsC [b]) := Sl.own (l := intsC [b]) (by rw [T.get_upd_same]; rfl) (by simp [intsC]) (Nat.le_refl _)
  obtain ⟨h2, r, q1, q2, q3, q4⟩ := append_i64 (nx := n2) ho2 hx1 hl (by omega) (by omega)
  refine bindP_mk q1 (hK h2 r q2 ?_ ?_ ?_)
  · intro k o hk
    have hkn := hf0.lt hk
    rw [q3 k (.inl (by omega)) (by omega), T.get_upd_ne _ _ (by omega)]
    exact hs k o hk
  · intro k hk
    rw [q3 k (.inr (by omega)) (by omega), T.get_upd_ne _ _ (by omega)]
    exact hf k (by omega)
  · intro k hk h3 h4
    rw [q3 k hk h3, T.get_upd_ne _ _ h4]
set_option maxRecDepth 4000 in
theorem ref03_List_c {ro : Ro} {h : T Obj} {p n w nx : Nat} {L : List Nat} {K : KV} (hR : WI h p n L w) (hp : L.Pairwise (fun x y => y < x)) (hb : ∀ x ∈ L, 1 ≤ x ∧ x ≤ n) (hf : Fr h nx) (hK : ∀ r h' nx', nx ≤ nx' → Sub h h' → Fr h' nx' → Own h' r 1 y_int (intsC L.reverse) nx nx' → K r h' nx') : callP Try.prog ro i_ref03_Ring_List [ptr p] h nx K := by
  obtain ⟨a, gp, ga, hne, b1, b2, b3⟩ := hR
  have hpr : L.reverse.Pairwise (· < ·) := by rw [List.pairwise_reverse]; exact hp
  have hir : ∀ y ∈ L.reverse, 1 ≤ y ∧ y ≤ n := fun y hy => hb y (List.mem_reverse.1 hy)
  have hmem : ∀ i, i ∈ L ↔ i ∈ L.reverse := fun i => List.mem_reverse.symm
  have hll : L.length ≤ n := by
    rcases dec_len (Nat.le_refl 1) hp hb with h9 | h9
    · omega
    · subst h9; simp
  have hrl : L.reverse.length = L.length := List.length_reverse
  generalize L.reverse = R at hpr hir hmem hK hrl
  apply ref03_Ring_List_of
  unfold ref03_Ring_List
  refine loopP_rule (fun j e h' nx' => ∃ (k : Nat) (lv : Value), k + j = n ∧ nx ≤ nx' ∧ e 0 = ptr p ∧ e 3 = lv ∧ e 4 = .int .i64 ((k : Int) + 1) ∧ Sub h h' ∧ Fr h' nx' ∧
    Own h' lv 1 y_int (intsC (R.filter fun x => decide (x ≤ k))) nx nx') ?_ (n := n) ⟨0, _, by omega, by omega, rfl, rfl, rfl, Sub.refl _, hf.mono (by omega), ?_⟩
  · rintro j e h' nx' ⟨k, lv, hj, hnx, e0, e3, e4, hs, hf', ho⟩ Q' hq hx
    have gp' := hs _ _ gp
    have ga' := hs _ _ ga
    unfold ref03_Ring_List_L1
    rw [e0, e3, e4]
    repeat (first | refine bindP_mk (by simp (disch := first | omega | exact Int.natCast_nonneg _ | assumption) only [decide_true, decide_false, Bool.not_true, Bool.not_false, newP_eq, optP_some, optP_none, bindP_some', condP_true, condP_false, ifP_tt, ifP_ff, ifP_tf, ifP_ft, exP_normal, exP_exit, exP_ret, beqP_true, beqP_false, Option.bind_some, Value.cells_agg, cells_int, cells_bool, intB_add, intB_sub, intB_mul, intB_quo, intB_rem, intB_eql, intB_neq, intB_lss, intB_leq, intB_gtr, intB_geq, intB_shr_u64, intB_shl1_u64, intB_and64, intB_or64, intB_xor64, wr_i64, wr_u8, wr_u64, convI_int, unV_not, boolB_eql, boolB_neq, pickV_true, pickV_false, lenSl_slice, ptr_at, fwdP_at, ixArr_at, load1_own, loadA_own, storeN_own, T.get_upd_same, T.get_upd_ne, cellsIn_some, putIn_cells, tl, ts, if_pos, Nat.zero_add, Nat.mul_one, Nat.add_zero, Int.toNat_natCast, ↓reduceIte, Nat.reduceLeDiff, Nat.reduceAdd, Nat.le_refl, nilCk_at, gp'] <;> rfl) ?_ | refine newP_mk ?_ | refine optP_mk ?_ | with_reducible refine condP_t ?_ | with_reducible refine condP_f ?_ | with_reducible refine ifP_tt' ?_ | with_reducible refine ifP_ff' ?_ | with_reducible refine ifP_tf' ?_ | with_reducible refine ifP_ft' ?_ | with_reducible refine ifP_u' ?_ | refine optP_mk0 ?_)
    have hfl : (R.filter fun x => decide (x ≤ k)).length ≤ 1000000 := by have := List.length_filter_le (fun x => decide (x ≤ k)) R; omega
    have hj2 : ∀ (e9 : Env) (h9 : T Obj) (n9 : Nat) (v9 : Value), nx' ≤ n9 → e9 0 = ptr p → e9 3 = v9 → e9 4 = .int .i64 ((k : Int) + 1) → Sub h h9 → Fr h9 n9 → Own h9 v9 1 y_int (intsC (R.filter fun x => decide (x ≤ k + 1))) nx n9 → k < n → ref03_Ring_List_j2 ro Q' e9 h9 n9 := by
      intro e9 h9 n9 v9 hn9 f0 f3 f4 hs9 hf9 ho9 hkn
      unfold ref03_Ring_List_j2
      rw [f4]
      refine bindP_mk (intB_add _ _ _) ?_
      rw [wr_i64 (by omega) (by omega)]
      exact hq (j - 1) _ _ _ _ (by omega) ⟨k + 1, v9, by omega, by omega, f0, f3, rfl, hs9, hf9.mono (by omega), ho9.keep (by omega) fun _ _ _ _ hg => hg⟩ (Sub.refl _)
    by_cases h0 : k < n
    · refine condP_tr (decide_eq_true (by omega)) ?_
      repeat (first | refine bindP_mk (by simp (disch := first | omega | exact Int.natCast_nonneg _ | assumption) only [decide_true, decide_false, Bool.not_true, Bool.not_false, newP_eq, optP_some, optP_none, bindP_some', condP_true, condP_false, ifP_tt, ifP_ff, ifP_tf, ifP_ft, exP_normal, exP_exit, exP_ret, beqP_true, beqP_false, Option.bind_some, Value.cells_agg, cells_int, cells_bool, intB_add, intB_sub, intB_mul, intB_quo, intB_rem, intB_eql, intB_neq, intB_lss, intB_leq, intB_gtr, intB_geq, intB_shr_u64, intB_shl1_u64, intB_and64, intB_or64, intB_xor64, wr_i64, wr_u8, wr_u64, convI_int, unV_not, boolB_eql, boolB_neq, pickV_true, pickV_false, lenSl_slice, ptr_at, fwdP_at, ixArr_at, load1_own, loadA_own, storeN_own, T.get_upd_same, T.get_upd_ne, cellsIn_some, putIn_cells, tl, ts, if_pos, Nat.zero_add, Nat.mul_one, Nat.add_zero, Int.toNat_natCast, ↓reduceIte, Nat.reduceLeDiff, Nat.reduceAdd, Nat.le_refl, nilCk_at, gp'] <;> rfl) ?_ | refine newP_mk ?_ | refine optP_mk ?_ | with_reducible refine condP_t ?_ | with_reducible refine condP_f ?_ | with_reducible refine ifP_tt' ?_ | with_reducible refine ifP_ff' ?_ | with_reducible refine ifP_tf' ?_ | with_reducible refine ifP_ft' ?_ | with_reducible refine ifP_u' ?_ | refine optP_mk0 ?_)
      have e : (k : Int) + 1 = ((k + 1 : Nat) : Int) := by omega
      have hgk : load1 ro h' (at_ a (k + 1) 0) = some (.bool (decide (k + 1 ∈ L))) := by
        rw [load1_own, ga', cellsIn_some, Option.bind_some]; exact isC_get (by omega)
      rw [e]
      refine bindP_mk (ix_own1 (i := k + 1) _ _ _ _ (by omega)) ?_
      refine bindP_mk hgk ?_
      have hfil := asc_filter (k := k) hpr
      by_cases hm : k + 1 ∈ L
      · rw [if_pos ((hmem _).1 hm)] at hfil
        refine condP_tr (decide_eq_true hm) ?_
        refine append_lit64r (ro := ro) (b := k + 1) (n1 := nx' + 16) (n2 := nx' + 18) (h0 := h) (nx0 := nx) (nx := nx') (lo := nx) (hi := nx') ho hfl hf' hs hf (by omega) (by omega) (by omega) (by omega) (by omega) fun h2 r q1 q2 q3 q4 => ?_
        dsimp only
        exact hj2 _ _ (nx' + 18 + 1 + 1) r (by omega) e0 rfl e4 q2 (q3.mono (by omega)) (by rw [hfil]; exact q1.keep (by omega) fun _ _ _ _ hg => hg) h0
      · rw [if_neg (fun h9 => hm ((hmem _).2 h9)), List.append_nil] at hfil
        refine condP_fa (decide_eq_false hm) ?_
        exact hj2 _ _ _ lv (by omega) e0 e3 e4 hs (hf'.mono (by omega)) (by rw [hfil]; exact ho.keep (by omega) fun _ _ _ _ hg => hg) h0
    · refine condP_fa (decide_eq_false (by omega)) ?_
      refine hx _ _ _ _ (fun e => by cases e) (exP_e (beqP_t ?_))
      unfold ref03_Ring_List_j1
      have f3 : ∀ a1 a2 a3 a4 a5 a6 a7, (puts e [(5, a1), (6, a2), (7, a3), (8, a4), (9, a5), (10, a6), (11, a7)]) 3 = lv := fun _ _ _ _ _ _ _ => e3
      rw [f3]
      have hall : (R.filter fun x => decide (x ≤ k)) = R := List.filter_eq_self.2 fun y hy => by have := hir y hy; simp; omega
      rw [hall] at ho
      exact ⟨h', Sub.refl _, hK _ _ _ (by omega) hs (hf'.mono (by omega)) (ho.keep (by omega) fun _ _ _ _ hg => hg)⟩
  · have : (R.filter fun x => decide (x ≤ 0)) = [] := List.filter_eq_nil_iff.2 fun y hy => by have := hir y hy; simp; omega
    rw [this]
    exact Own.nil
end V
end Go.Proofs.Ytnglppngpioipaa
