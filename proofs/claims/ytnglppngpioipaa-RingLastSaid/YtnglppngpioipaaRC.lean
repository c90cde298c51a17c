/- The ring's List, Inc, Clear, New.
   No condition. -/
import Derived.Test.YtnglppngpioipaaRB
set_option linter.unusedVariables false
set_option linter.unusedSimpArgs false
namespace Go.Proofs.Ytnglppngpioipaa
namespace V
def intsC (l : List Nat) : List (List Value) := l.map fun b : Nat => [Value.int .i64 (b : Int)]
theorem intsC_len (l : List Nat) : (intsC l).length = l.length := by simp [intsC]
theorem intsC_get {l : List Nat} {i : Nat} (hi : i < l.length) : (intsC l)[i]? = some [.int .i64 (l[i] : Nat)] := by simp [intsC, hi]
theorem lit_i64 (aid : Nat) (b : Int) : sliceLitV Try.prog y_s_int aid 1 [(0, .int .i64 b)] = some (.slice (some (own aid 1)) 1 1, some (.cells #[.int .i64 b] y_int)) := by kernel_rfl
theorem und_i64s : und Try.prog y_s_int = some (.slice y_int) := by kernel_rfl
theorem tin_i64 : ∃ i, tin Try.prog y_int = some i ∧ i.size = 1 ∧ i.bytes = 8 := by
  have h : (tin Try.prog y_int).map (fun i => (i.size, i.bytes)) = some (1, 8) := by kernel_rfl
  cases hi : tin Try.prog y_int with
  | none => rw [hi] at h; cases h
  | some i => rw [hi] at h; simp at h; exact ⟨i, rfl, h.1, h.2⟩
theorem zer_i64 : zer Try.prog y_int = some (.int .i64 0) := by kernel_rfl
theorem append_i64 {ro : Ro} {h : T Obj} {v x : Value} {nx lo hi : Nat} {l : List Nat} {b : Nat} (ho : Own h v 1 y_int (intsC l) lo hi) (hx : Sl ro h x 1 (intsC [b])) (hb : l.length ≤ 1000000) (hlo : lo ≤ nx) (hnx : hi ≤ nx) :
    ∃ h' r, appendV Try.prog ro h nx #[y_s_int, y_s_int] [v, x] = some (r, h', nx + 1) ∧ Own h' r 1 y_int (intsC (l ++ [b])) lo (nx + 1) ∧ (∀ k, (k < lo ∨ hi ≤ k) → k ≠ nx → h'.get k = h.get k) ∧ (∀ k, k ≠ nx → h'.get k = h.get k ∨ h'.get k = none) := by
  obtain ⟨i, h1, h2, h3⟩ := tin_i64
  have hcat : intsC l ++ intsC [b] = intsC (l ++ [b]) := by simp [intsC]
  have hl1 : (intsC l).length = l.length := intsC_len l
  have hl2 : (intsC [b]).length = 1 := rfl
  obtain ⟨h', q1, q2, q3, q4⟩ := append_own (P := Try.prog) (t := y_s_int) ho hx und_i64s h1 h2 (by omega) zer_i64 rfl (by simp [intsC]) rfl (by rw [hl1, hl2, h3]; unfold big; omega) (by rw [hl1, hl2]; unfold big; omega) hlo hnx
  rw [hcat] at q1 q2
  exact ⟨h', _, q1, q2, q3, q4⟩
theorem append_lit64 {ro : Ro} {h h0 : T Obj} {v : Value} {n1 lo hi nx nx0 : Nat} {l : List Nat} {b : Nat} {K : Value × T Obj × Nat → Prop} (ho : Own h v 1 y_int (intsC l) lo hi) (hl : l.length ≤ 1000000) (hf : Fr h nx) (hs : Sub h0 h) (hf0 : Fr h0 nx0) (hlo0 : nx0 ≤ lo) (hlo : lo ≤ hi) (hn : hi ≤ n1) (hnx : nx ≤ n1)
    {n2 : Nat} (hn2 : n1 < n2)
    (hK : ∀ h' r, Own h' r 1 y_int (intsC (l ++ [b])) lo (n2 + 1) → Sub h0 h' → Fr h' (n2 + 1) → (∀ k, (k < lo ∨ hi ≤ k) → k ≠ n2 → k ≠ n1 → h'.get k = h.get k) → K (r, h', n2 + 1)) :
    bindP (sliceLitV Try.prog y_s_int n1 1 [(0, .int .i64 (b : Int))]) fun r => optP h n1 r.2 fun h' => bindP (appendV Try.prog ro h' n2 #[y_s_int, y_s_int] [v, r.1]) K := by
  refine bindP_mk (lit_i64 _ _) (optP_mk ?_)
  have ho2 : Own (h.upd n1 (some (.cells #[.int .i64 (b : Int)] y_int))) v 1 y_int (intsC l) lo hi := ho.keep (Nat.le_refl _) fun id h1 h2 o hg => by rw [T.get_upd_ne _ _ (by omega)]; exact hg
  have hx1 : Sl ro (h.upd n1 (some (.cells #[.int .i64 (b : Int)] y_int))) (.slice (some (own n1 1)) 1 1) 1 (intsC [b]) := Sl.own (l := intsC [b]) (by rw [T.get_upd_same]; rfl) (by simp [intsC]) (Nat.le_refl _)
  obtain ⟨h2, r, q1, q2, q3, q4⟩ := append_i64 (nx := n2) ho2 hx1 hl (by omega) (by omega)
  refine bindP_mk q1 (hK h2 r q2 ?_ ?_ ?_)
  · intro k o hk
    have hkn := hf0.lt hk
    rw [q3 k (.inl (by omega)) (by omega), T.get_upd_ne _ _ (by omega)]
    exact hs k o hk
  · intro k hk
    rw [q3 k (.inr (by omega)) (by omega), T.get_upd_ne _ _ (by omega)]
    exact hf k (by omega)
  · intro k hk h3 h4
    rw [q3 k hk h3, T.get_upd_ne _ _ h4]
theorem RI.sub {h h' : T Obj} {p a n w : Nat} {L : List Nat} (hR : RI h p a n L w) (hs : Sub h h') : RI h' p a n L w := by
  obtain ⟨put, first, now, gp, ga, hr⟩ := hR
  exact ⟨put, first, now, hs _ _ gp, hs _ _ ga, hr⟩
set_option maxRecDepth 4000 in
theorem ring_List_c {ro : Ro} {h : T Obj} {p a n w nx : Nat} {L : List Nat} {K : KV} (hR : RI h p a n L w) (hf : Fr h nx) (hK : ∀ r h' nx', nx ≤ nx' → Sub h h' → Fr h' nx' → Own h' r 1 y_int (intsC L.reverse) nx nx' → K r h' nx') : callP Try.prog ro i_ring_Ring_List [ptr p] h nx K := by
  have hln := hR.len
  have hn : n ≤ 4096 := by obtain ⟨put, first, now, gp, ga, hne, hpl, b1, b2, _⟩ := hR; exact b2
  apply ring_Ring_List_of
  unfold ring_Ring_List
  refine ring_Len_c hR fun n2 hn2 => ?_
  repeat (first | refine bindP_mk (by simp (disch := first | omega | exact Int.natCast_nonneg _ | assumption) only [decide_true, decide_false, Bool.not_true, Bool.not_false, newP_eq, optP_some, optP_none, bindP_some', condP_true, condP_false, ifP_tt, ifP_ff, ifP_tf, ifP_ft, exP_normal, exP_exit, exP_ret, beqP_true, beqP_false, Option.bind_some, Value.cells_agg, cells_int, cells_bool, intB_add, intB_sub, intB_mul, intB_quo, intB_rem, intB_eql, intB_neq, intB_lss, intB_leq, intB_gtr, intB_geq, intB_shr_u64, intB_shl1_u64, intB_and64, intB_or64, intB_xor64, wr_i64, wr_u8, wr_u64, convI_int, unV_not, boolB_eql, boolB_neq, pickV_true, pickV_false, lenSl_slice, ptr_at, fwdP_at, ixArr_at, load1_own, loadA_own, storeN_own, T.get_upd_same, T.get_upd_ne, cellsIn_some, putIn_cells, tl, ts, if_pos, Nat.zero_add, Nat.mul_one, Nat.add_zero, Int.toNat_natCast, ↓reduceIte, Nat.reduceLeDiff, Nat.reduceAdd, Nat.le_refl] <;> rfl) ?_ | refine newP_mk ?_ | refine optP_mk ?_ | with_reducible refine condP_t ?_ | with_reducible refine condP_f ?_ | with_reducible refine ifP_tt' ?_ | with_reducible refine ifP_ff' ?_ | with_reducible refine ifP_tf' ?_ | with_reducible refine ifP_ft' ?_ | with_reducible refine ifP_u' ?_ | refine optP_mk0 ?_)
  refine loopP_rule (fun j e h' nx' => ∃ (lv : Value), j ≤ L.length ∧ nx ≤ nx' ∧ e 0 = ptr p ∧ e 3 = lv ∧ e 4 = .int .i64 ((j : Int) - 1) ∧ Sub h h' ∧ Fr h' nx' ∧
    Own h' lv 1 y_int (intsC (L.reverse.take (L.length - j))) nx nx') ?_ (n := L.length) ⟨_, by omega, by omega, rfl, rfl, rfl, Sub.refl _, hf.mono (by omega), ?_⟩
  · rintro j e h' nx' ⟨lv, hj, hnx, e0, e3, e4, hs, hf', ho⟩ Q' hq hx
    unfold ring_Ring_List_L1
    rw [e0, e3, e4]
    repeat (first | refine bindP_mk (by simp (disch := first | omega | exact Int.natCast_nonneg _ | assumption) only [decide_true, decide_false, Bool.not_true, Bool.not_false, newP_eq, optP_some, optP_none, bindP_some', condP_true, condP_false, ifP_tt, ifP_ff, ifP_tf, ifP_ft, exP_normal, exP_exit, exP_ret, beqP_true, beqP_false, Option.bind_some, Value.cells_agg, cells_int, cells_bool, intB_add, intB_sub, intB_mul, intB_quo, intB_rem, intB_eql, intB_neq, intB_lss, intB_leq, intB_gtr, intB_geq, intB_shr_u64, intB_shl1_u64, intB_and64, intB_or64, intB_xor64, wr_i64, wr_u8, wr_u64, convI_int, unV_not, boolB_eql, boolB_neq, pickV_true, pickV_false, lenSl_slice, ptr_at, fwdP_at, ixArr_at, load1_own, loadA_own, storeN_own, T.get_upd_same, T.get_upd_ne, cellsIn_some, putIn_cells, tl, ts, if_pos, Nat.zero_add, Nat.mul_one, Nat.add_zero, Int.toNat_natCast, ↓reduceIte, Nat.reduceLeDiff, Nat.reduceAdd, Nat.le_refl] <;> rfl) ?_ | refine newP_mk ?_ | refine optP_mk ?_ | with_reducible refine condP_t ?_ | with_reducible refine condP_f ?_ | with_reducible refine ifP_tt' ?_ | with_reducible refine ifP_ff' ?_ | with_reducible refine ifP_tf' ?_ | with_reducible refine ifP_ft' ?_ | with_reducible refine ifP_u' ?_ | refine optP_mk0 ?_)
    by_cases h0 : 0 < j
    · refine condP_tr (by simp; omega) ?_
      have e : (j : Int) - 1 = ((j - 1 : Nat) : Int) := by omega
      rw [e]
      refine ring_count_c (i := j - 1) (hR.sub hs) (by omega) fun n3 hn3 => ?_
      refine append_lit64 (h0 := h) (nx0 := nx) (nx := nx') (lo := nx) (hi := nx') ho (by rw [List.length_take]; omega) hf' hs hf (by omega) (by omega) (by omega) (by omega) (by omega) fun h2 r q1 q2 q3 q4 => ?_
      dsimp only
      repeat (first | refine bindP_mk (by simp (disch := first | omega | exact Int.natCast_nonneg _ | assumption) only [decide_true, decide_false, Bool.not_true, Bool.not_false, newP_eq, optP_some, optP_none, bindP_some', condP_true, condP_false, ifP_tt, ifP_ff, ifP_tf, ifP_ft, exP_normal, exP_exit, exP_ret, beqP_true, beqP_false, Option.bind_some, Value.cells_agg, cells_int, cells_bool, intB_add, intB_sub, intB_mul, intB_quo, intB_rem, intB_eql, intB_neq, intB_lss, intB_leq, intB_gtr, intB_geq, intB_shr_u64, intB_shl1_u64, intB_and64, intB_or64, intB_xor64, wr_i64, wr_u8, wr_u64, convI_int, unV_not, boolB_eql, boolB_neq, pickV_true, pickV_false, lenSl_slice, ptr_at, fwdP_at, ixArr_at, load1_own, loadA_own, storeN_own, T.get_upd_same, T.get_upd_ne, cellsIn_some, putIn_cells, tl, ts, if_pos, Nat.zero_add, Nat.mul_one, Nat.add_zero, Int.toNat_natCast, ↓reduceIte, Nat.reduceLeDiff, Nat.reduceAdd, Nat.le_refl] <;> rfl) ?_ | refine newP_mk ?_ | refine optP_mk ?_ | with_reducible refine condP_t ?_ | with_reducible refine condP_f ?_ | with_reducible refine ifP_tt' ?_ | with_reducible refine ifP_ff' ?_ | with_reducible refine ifP_tf' ?_ | with_reducible refine ifP_ft' ?_ | with_reducible refine ifP_u' ?_ | refine optP_mk0 ?_)
      refine hq (j - 1) _ _ _ _ (by omega) ⟨r, by omega, by omega, e0, rfl, rfl, q2, q3.mono (by omega), ?_⟩ (Sub.refl _)
      have e9 : L.reverse.take (L.length - (j - 1)) = L.reverse.take (L.length - j) ++ [L.getD (j - 1) 0] := by
        have : L.length - (j - 1) = L.length - j + 1 := by omega
        rw [this, List.take_succ_eq_append_getElem (by rw [List.length_reverse]; omega)]
        rw [List.getElem_reverse]
        have : L.length - 1 - (L.length - j) = j - 1 := by omega
        simp [List.getD, List.getElem?_eq_getElem (show j - 1 < L.length by omega), this]
      rw [e9]
      exact q1.keep (by omega) fun _ _ _ _ hg => hg
    · refine condP_fa (by simp; omega) ?_
      refine hx _ _ _ _ (fun e => by cases e) (exP_e (beqP_t ?_))
      have hj0 : j = 0 := by omega
      subst hj0
      unfold ring_Ring_List_j1
      have f3 : ∀ a b, Env.put (Env.put e 8 a) 9 b 3 = lv := fun a b => e3
      simp only [puts, f3]
      rw [Nat.sub_zero, List.take_of_length_le (by rw [List.length_reverse]; exact Nat.le_refl _)] at ho
      exact ⟨h', Sub.refl _, hK _ _ _ (by omega) hs (hf'.mono (by omega)) (ho.keep (by omega) fun _ _ _ _ hg => hg)⟩
  · rw [Nat.sub_self, List.take_zero]
    exact Own.nil
end V
end Go.Proofs.Ytnglppngpioipaa
