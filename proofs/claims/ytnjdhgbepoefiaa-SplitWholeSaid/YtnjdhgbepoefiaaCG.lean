/- What alike and Of (the document's answer for split) hand back.
   No condition. -/
import Derived.Test.YtnjdhgbepoefiaaCF
set_option linter.unusedVariables false
set_option linter.unusedSimpArgs false
namespace Go.Proofs.Ytnjdhgbepoefiaa
namespace V
open PA
theorem sig_take_succ {l : List Nat} {i : Nat} (hi : i < l.length) (b : Nat) : sig (l.take (i + 1)) b = sig (l.take i) b ++ [l[i].testBit b] := by
  rw [List.take_succ_eq_append_getElem hi, sig_snoc]
theorem sig_differ {l : List Nat} {i a b : Nat} (hi : i < l.length) (h : l[i].testBit a ≠ l[i].testBit b) : sig l a ≠ sig l b := by
  intro e
  have h1 : (sig l a)[i]? = some (l[i].testBit a) := by simp [sig, hi]
  have h2 : (sig l b)[i]? = some (l[i].testBit b) := by simp [sig, hi]
  rw [e, h2] at h1
  exact h (Option.some.inj h1).symm
theorem ref02_alike_c {ro : Ro} {v : Value} {l : List Nat} {a b : Nat} (ha : a < 256) (hb : b < 256) (hlen : l.length ≤ 1000000) {h : T Obj} {nx : Nat} {K : KV} (hf : Fr h nx) (hv : Sl ro h v 4 (setsC l)) (hK : ∀ nx', nx ≤ nx' → K (.bool (decide (sig l a = sig l b))) h nx') :
    callP Try.prog ro i_ref02_alike [v, .int .u8 a, .int .u8 b] h nx K := by
  apply ref02_alike_of
  unfold ref02_alike
  refine loopP_rule (fun n e h' nx' => ∃ i : Nat, i + n = l.length ∧ nx ≤ nx' ∧ e 0 = v ∧ e 1 = .int .u8 a ∧ e 2 = .int .u8 b ∧ e 7 = .int .i64 i ∧ h' = h ∧ sig (l.take i) a = sig (l.take i) b) ?_ (n := l.length) ⟨0, by omega, by omega, rfl, rfl, rfl, rfl, rfl, rfl⟩
  rintro n e h' nx' ⟨i, hin, hnx, e0, e1, e2, e7, rfl, hsig⟩ Q' hc hx
  unfold ref02_alike_L1
  rw [e0, e1, e2, e7]
  have hl := hv.len
  rw [setsC_len] at hl
  refine bindP_mk hl ?_
  repeat (first | refine bindP_mk (by simp (disch := first | omega | exact Int.natCast_nonneg _ | assumption) only [newP_eq, optP_some, optP_none, bindP_some', condP_true, condP_false, ifP_tt, ifP_ff, ifP_tf, ifP_ft, exP_normal, exP_exit, exP_ret, beqP_true, beqP_false, Option.bind_some, Value.cells_agg, cells_int, cells_bool, intB_add, intB_sub, intB_mul, intB_quo, intB_rem, intB_eql, intB_neq, intB_lss, intB_leq, intB_gtr, intB_geq, intB_shr_u64, intB_shl1_u64, intB_and64, intB_or64, intB_xor64, wr_i64, wr_u8, wr_u64, convI_int, unV_not, boolB_eql, boolB_neq, pickV_true, pickV_false, lenSl_slice, ptr_at, fwdP_at, ixArr_at, load1_own, loadA_own, storeN_own, T.get_upd_same, T.get_upd_ne, cellsIn_some, putIn_cells, tl, ts, if_pos, Nat.zero_add, Nat.mul_one, Nat.add_zero, Int.toNat_natCast, ↓reduceIte, Nat.reduceLeDiff, Nat.reduceAdd, Nat.le_refl] <;> rfl) ?_ | refine newP_mk ?_ | refine optP_mk ?_ | refine condP_t ?_ | refine condP_f ?_ | refine ifP_tt' ?_ | refine ifP_ff' ?_ | refine ifP_tf' ?_ | refine ifP_ft' ?_ | refine optP_mk0 ?_)
  by_cases hi : i < l.length
  · refine condP_tr (by simp; omega) ?_
    have hix := hv.ix .i64 (i := i) (by rw [setsC_len]; exact hi)
    have hld := hv.loadA (setsC_get hi)
    refine bindP_mk hix (bindP_mk hld ?_)
    refine ref01_Has_c ha (hf.mono (by omega)) fun n1 hn1 => ?_
    refine bindP_mk hix (bindP_mk hld ?_)
    refine ⟨hv.same (Sub.refl _) (by rw [setsC_len]; exact hi), ?_⟩
    refine ref01_Has_c hb (hf.mono (by omega)) fun n2 hn2 => ?_
    repeat (first | refine bindP_mk (by simp (disch := first | omega | exact Int.natCast_nonneg _ | assumption) only [newP_eq, optP_some, optP_none, bindP_some', condP_true, condP_false, ifP_tt, ifP_ff, ifP_tf, ifP_ft, exP_normal, exP_exit, exP_ret, beqP_true, beqP_false, Option.bind_some, Value.cells_agg, cells_int, cells_bool, intB_add, intB_sub, intB_mul, intB_quo, intB_rem, intB_eql, intB_neq, intB_lss, intB_leq, intB_gtr, intB_geq, intB_shr_u64, intB_shl1_u64, intB_and64, intB_or64, intB_xor64, wr_i64, wr_u8, wr_u64, convI_int, unV_not, boolB_eql, boolB_neq, pickV_true, pickV_false, lenSl_slice, ptr_at, fwdP_at, ixArr_at, load1_own, loadA_own, storeN_own, T.get_upd_same, T.get_upd_ne, cellsIn_some, putIn_cells, tl, ts, if_pos, Nat.zero_add, Nat.mul_one, Nat.add_zero, Int.toNat_natCast, ↓reduceIte, Nat.reduceLeDiff, Nat.reduceAdd, Nat.le_refl] <;> rfl) ?_ | refine newP_mk ?_ | refine optP_mk ?_ | refine condP_t ?_ | refine condP_f ?_ | refine ifP_tt' ?_ | refine ifP_ff' ?_ | refine ifP_tf' ?_ | refine ifP_ft' ?_ | refine optP_mk0 ?_)
    by_cases he : l[i].testBit a = l[i].testBit b
    · refine condP_fa (by simp [he]) ?_
      repeat (first | refine bindP_mk (by simp (disch := first | omega | exact Int.natCast_nonneg _ | assumption) only [newP_eq, optP_some, optP_none, bindP_some', condP_true, condP_false, ifP_tt, ifP_ff, ifP_tf, ifP_ft, exP_normal, exP_exit, exP_ret, beqP_true, beqP_false, Option.bind_some, Value.cells_agg, cells_int, cells_bool, intB_add, intB_sub, intB_mul, intB_quo, intB_rem, intB_eql, intB_neq, intB_lss, intB_leq, intB_gtr, intB_geq, intB_shr_u64, intB_shl1_u64, intB_and64, intB_or64, intB_xor64, wr_i64, wr_u8, wr_u64, convI_int, unV_not, boolB_eql, boolB_neq, pickV_true, pickV_false, lenSl_slice, ptr_at, fwdP_at, ixArr_at, load1_own, loadA_own, storeN_own, T.get_upd_same, T.get_upd_ne, cellsIn_some, putIn_cells, tl, ts, if_pos, Nat.zero_add, Nat.mul_one, Nat.add_zero, Int.toNat_natCast, ↓reduceIte, Nat.reduceLeDiff, Nat.reduceAdd, Nat.le_refl] <;> rfl) ?_ | refine newP_mk ?_ | refine optP_mk ?_ | refine condP_t ?_ | refine condP_f ?_ | refine ifP_tt' ?_ | refine ifP_ff' ?_ | refine ifP_tf' ?_ | refine ifP_ft' ?_ | refine optP_mk0 ?_)
      refine hc (n - 1) _ _ _ _ (by omega) ⟨i + 1, by omega, by omega, e0, e1, e2, rfl, rfl, ?_⟩ (Sub.refl _)
      rw [sig_take_succ hi, sig_take_succ hi, hsig, he]
    · refine condP_tr (by simp [he]) ?_
      refine hx _ _ _ _ (fun e => by cases e) (exP_r ?_)
      refine ⟨h', Sub.refl _, ?_⟩
      have := hK (n2 + 1) (by omega)
      rw [decide_eq_false (sig_differ hi he)] at this
      exact this
  · refine condP_fa (by simp; omega) ?_
    refine hx _ _ _ _ (fun e => by cases e) (exP_e (beqP_t ?_))
    unfold ref02_alike_j1
    refine ⟨h', Sub.refl _, ?_⟩
    have ht : l.take i = l := List.take_of_length_le (by omega)
    rw [ht] at hsig
    have := hK (nx' + 4 + 1) (by omega)
    rw [decide_eq_true hsig] at this
    exact this
theorem lit_u8 (aid : Nat) (b : Int) : sliceLitV Try.prog y_s_uint8 aid 1 [(0, .int .u8 b)] = some (.slice (some (own aid 1)) 1 1, some (.cells #[.int .u8 b] y_uint8)) := by kernel_rfl
theorem und_u8s : und Try.prog y_s_uint8 = some (.slice y_uint8) := by kernel_rfl
theorem tin_u8 : ∃ i, tin Try.prog y_uint8 = some i ∧ i.size = 1 ∧ i.bytes = 1 := by
  have h : (tin Try.prog y_uint8).map (fun i => (i.size, i.bytes)) = some (1, 1) := by kernel_rfl
  cases hi : tin Try.prog y_uint8 with
  | none => rw [hi] at h; cases h
  | some i => rw [hi] at h; simp at h; exact ⟨i, rfl, h.1, h.2⟩
theorem zer_u8 : zer Try.prog y_uint8 = some (.int .u8 0) := by kernel_rfl
/-- Bytes to which one more is appended. -/
theorem append_u8 {ro : Ro} {h : T Obj} {v x : Value} {nx lo hi : Nat} {l : List Nat} {b : Nat} (ho : Own h v 1 y_uint8 (bytesC l) lo hi) (hx : Sl ro h x 1 (bytesC [b])) (hb : l.length ≤ 1000000) (hlo : lo ≤ nx) (hnx : hi ≤ nx) :
    ∃ h' r, appendV Try.prog ro h nx #[y_s_uint8, y_s_uint8] [v, x] = some (r, h', nx + 1) ∧ Own h' r 1 y_uint8 (bytesC (l ++ [b])) lo (nx + 1) ∧ (∀ k, (k < lo ∨ hi ≤ k) → k ≠ nx → h'.get k = h.get k) ∧ (∀ k, k ≠ nx → h'.get k = h.get k ∨ h'.get k = none) := by
  obtain ⟨i, h1, h2, h3⟩ := tin_u8
  have hcat : bytesC l ++ bytesC [b] = bytesC (l ++ [b]) := by simp [bytesC]
  have hl1 : (bytesC l).length = l.length := bytesC_len l
  have hl2 : (bytesC [b]).length = 1 := rfl
  obtain ⟨h', q1, q2, q3, q4⟩ := append_own (P := Try.prog) (t := y_s_uint8) ho hx und_u8s h1 h2 (by omega) zer_u8 rfl (by simp [bytesC]) rfl (by rw [hl1, hl2, h3]; unfold big; omega) (by rw [hl1, hl2]; unfold big; omega) hlo hnx
  rw [hcat] at q1 q2
  exact ⟨h', _, q1, q2, q3, q4⟩
end V
end Go.Proofs.Ytnjdhgbepoefiaa
