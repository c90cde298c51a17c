/- What nca's step, Step, Start, Rule hand back.
   No condition. -/
import Derived.Test.YtepbdkfkfcckoaaNJ
set_option linter.unusedVariables false
set_option linter.unusedSimpArgs false
namespace Go.Proofs.Ytepbdkfkfcckoaa
namespace V
open PA
attribute [local irreducible] bindP ifP condP newP optP exP beqP
def enterF (n0 : Nat) : Value := .func (.func i_nca_step_1) #[] #[ptr (n0 + 8), ptr n0, ptr (n0 + 2)]
set_option maxRecDepth 4000 in
theorem nca_step_enter {ro : Ro} {g : GlD} {c : CfgD} {n0 by_ : Nat} {a b a2 : Value} {cs : List (List Int)} (hr : rightD g = true) (hft : fitsD g c = true) (hby : by_ < 256) {h0 h : T Obj} {e : Env} {nx : Nat} {K : KV} (hf0 : Fr h0 n0) (hf : Fr h nx) (hn0 : n0 + 9 ≤ nx) (hS : SI h0 n0 a b a2 c.b by_ g.p.length h cs)
    (hE : EntI g by_ (entE0 g c) cs) (ha : ZI ro h0 a g.first) (hP : SlR ro h0 b 9 (RPos ro h0) g.p) (hl : SlR ro h0 a2 2 (RHeld ro h0) c.l) (e3 : e 3 = ptr n0) (e4 : e 4 = ptr (n0 + 1)) (e5 : e 5 = ptr (n0 + 2)) (e6 : e 6 = ptr (n0 + 3)) (e7 : e 7 = ptr (n0 + 8)) (e8 : e 8 = enterF n0)
    (hK : ∀ r h' nx', nx ≤ nx' → Sub h0 h' → Fr h' nx' → RCfgS ro h' r (stepD g c by_) (n0 + 9) → K r h' nx') : nca_step_j1 ro K e h nx := by
  unfold nca_step_j1
  have hlen := right_len hr
  have hlen2 := fits_len hft
  have gc := hS.cfg
  have hll := hl.len
  rw [e4]
  (repeat (first | refine lss_t (by omega) ?_ | refine lss_f (by omega) ?_ | refine leq_t (by omega) ?_ | refine leq_f (by omega) ?_ | refine gtr_t (by omega) ?_ | refine gtr_f (by omega) ?_ | refine geq_t (by omega) ?_ | refine geq_f (by omega) ?_ | refine eql_t (by omega) ?_ | refine eql_f (by omega) ?_ | refine neq_t (by omega) ?_ | refine neq_f (by omega) ?_ | refine bindP_mk (by simp (disch := first | omega | exact Int.natCast_nonneg _ | assumption) only [decide_true, decide_false, Bool.not_true, Bool.not_false, newP_eq, optP_some, optP_none, bindP_some', condP_true, condP_false, ifP_tt, ifP_ff, ifP_tf, ifP_ft, exP_normal, exP_exit, exP_ret, beqP_true, beqP_false, Option.bind_some, Value.cells_agg, cells_int, cells_bool, intB_add, intB_sub, intB_mul, intB_quo, intB_rem, intB_shr_u64, intB_shl1_u64, intB_and64, intB_or64, intB_xor64, wr_i64, wr_u8, wr_u64, convI_int, unV_not, boolB_eql, boolB_neq, pickV_true, pickV_false, lenSl_slice, ptr_at, fwdP_at, ixArr_at, load1_own, loadA_own, storeN_own, T.get_upd_same, T.get_upd_ne, cellsIn_some, putIn_cells, tl, ts, if_pos, Nat.zero_add, Nat.mul_one, Nat.add_zero, Int.toNat_natCast, ↓reduceIte, Nat.reduceLeDiff, Nat.reduceAdd, Nat.le_refl, gc, hll] <;> rfl) ?_ | refine newP_mk ?_ | refine optP_mk ?_ | with_reducible refine condP_t ?_ | with_reducible refine condP_f ?_ | with_reducible refine ifP_tt' ?_ | with_reducible refine ifP_ff' ?_ | with_reducible refine ifP_tf' ?_ | with_reducible refine ifP_ft' ?_ | with_reducible refine ifP_u' ?_ | refine optP_mk0 ?_))
  refine loopP_rule (fun j e' h' nx' => ∃ (k : Nat) (cs' : List (List Int)), k + j = c.l.length ∧ nx + 1 ≤ nx' ∧ SI h0 n0 a b a2 c.b by_ g.p.length h' cs' ∧ Fr h' nx' ∧ EntI g by_ (entE0 g c ++ nexts g (c.l.take k)) cs' ∧ e' 3 = ptr n0 ∧ e' 4 = ptr (n0 + 1) ∧ e' 5 = ptr (n0 + 2) ∧ e' 6 = ptr (n0 + 3) ∧ e' 7 = ptr (n0 + 8) ∧ e' 8 = enterF n0 ∧ e' 30 = a2 ∧ e' 31 = .int .i64 c.l.length ∧ e' 32 = .int .i64 k) ?_ (n := c.l.length)
    ⟨0, cs, by omega, by omega, hS, hf.mono (by omega), by simpa [nexts] using hE, e3, e4, e5, e6, e7, e8, rfl, rfl, rfl⟩
  rintro j e' h' nx' ⟨k, cs', hj, hnx, hS', hf', hE', f3, f4, f5, f6, f7, f8, f30, f31, f32⟩ Q' hq hx
  unfold nca_step_L4
  rw [f3, f8, f30, f31, f32]
  refine lss_s (fun hk => ?_) (fun hk => ?_)
  · have hk : k < c.l.length := by omega
    have hin := fits_at hft hk
    have hdl := held_len hr hft hk
    have htk : c.l.take (k + 1) = c.l.take k ++ [c.l[k]] := List.take_succ_eq_append_getElem hk
    obtain ⟨x, ⟨nv, rfl, hn0'⟩, hx2, hx3, hx4, hx5⟩ := (hl.sub hS'.base fun _ _ h => h).at hk
    have hix := hl.ix .i64 hk
    generalize c.l[k] = d at hx2 hx3 hx5 hn0' hin hdl htk
    obtain ⟨i1, i2, i3, i4⟩ := hin
    have hmay := may_spec (right_at hr i1 i2)
    have hn1 := hn0'.sub hS'.base
    (repeat (first | refine lss_t (by omega) ?_ | refine lss_f (by omega) ?_ | refine leq_t (by omega) ?_ | refine leq_f (by omega) ?_ | refine gtr_t (by omega) ?_ | refine gtr_f (by omega) ?_ | refine geq_t (by omega) ?_ | refine geq_f (by omega) ?_ | refine eql_t (by omega) ?_ | refine eql_f (by omega) ?_ | refine neq_t (by omega) ?_ | refine neq_f (by omega) ?_ | refine bindP_mk (by simp (disch := first | omega | exact Int.natCast_nonneg _ | assumption) only [decide_true, decide_false, Bool.not_true, Bool.not_false, newP_eq, optP_some, optP_none, bindP_some', condP_true, condP_false, ifP_tt, ifP_ff, ifP_tf, ifP_ft, exP_normal, exP_exit, exP_ret, beqP_true, beqP_false, Option.bind_some, Value.cells_agg, cells_int, cells_bool, intB_add, intB_sub, intB_mul, intB_quo, intB_rem, intB_shr_u64, intB_shl1_u64, intB_and64, intB_or64, intB_xor64, wr_i64, wr_u8, wr_u64, convI_int, unV_not, boolB_eql, boolB_neq, pickV_true, pickV_false, lenSl_slice, ptr_at, fwdP_at, ixArr_at, load1_own, loadA_own, storeN_own, T.get_upd_same, T.get_upd_ne, cellsIn_some, putIn_cells, tl, ts, if_pos, Nat.zero_add, Nat.mul_one, Nat.add_zero, Int.toNat_natCast, ↓reduceIte, Nat.reduceLeDiff, Nat.reduceAdd, Nat.le_refl, hix, hx3] <;> rfl) ?_ | refine newP_mk ?_ | refine optP_mk ?_ | with_reducible refine condP_t ?_ | with_reducible refine condP_f ?_ | with_reducible refine ifP_tt' ?_ | with_reducible refine ifP_ff' ?_ | with_reducible refine ifP_tf' ?_ | with_reducible refine ifP_ft' ?_ | with_reducible refine ifP_u' ?_ | refine optP_mk0 ?_))
    refine local_mk zer_Held rfl rfl rfl (held_ok hn1.ok) hf' (by omega) fun h3 hs3 hf3 g3 _ => ?_
    have hS3 := hS'.sub hs3
    obtain ⟨pv, q1, q2, p3, p4, p5, p6⟩ := P_at (hP.sub hS3.base fun _ _ h => h) (i := d.p) i1 i2
    have p7 := p6 8 _ rfl
    have gp := hS3.places
    have hG3 : RG ro h3 (.agg #[a, b]) g := ⟨a, b, rfl, ha.sub hS3.base, hP.sub hS3.base (RPos.sub hS3.base)⟩
    have hok : ∀ (e2 : Env) h2 n cs2, SI h0 n0 a b a2 c.b by_ g.p.length h2 cs2 → Fr h2 n → EntI g by_ (entE0 g c ++ nexts g (c.l.take (k + 1))) cs2 → e2 3 = ptr n0 → e2 4 = ptr (n0 + 1) → e2 5 = ptr (n0 + 2) → e2 6 = ptr (n0 + 3) → e2 7 = ptr (n0 + 8) → e2 8 = enterF n0 → e2 30 = a2 → e2 31 = .int .i64 c.l.length → e2 32 = .int .i64 k → nx + 1 ≤ n → nca_step_j8 ro Q' e2 h2 n := by
      intro e2 h2 n cs2 s1 s2 s3 t3 t4 t5 t6 t7 t8 t30 t31 t32 hn
      unfold nca_step_j8
      rw [t32]
      (repeat (first | refine lss_t (by omega) ?_ | refine lss_f (by omega) ?_ | refine leq_t (by omega) ?_ | refine leq_f (by omega) ?_ | refine gtr_t (by omega) ?_ | refine gtr_f (by omega) ?_ | refine geq_t (by omega) ?_ | refine geq_f (by omega) ?_ | refine eql_t (by omega) ?_ | refine eql_f (by omega) ?_ | refine neq_t (by omega) ?_ | refine neq_f (by omega) ?_ | refine bindP_mk (by simp (disch := first | omega | exact Int.natCast_nonneg _ | assumption) only [decide_true, decide_false, Bool.not_true, Bool.not_false, newP_eq, optP_some, optP_none, bindP_some', condP_true, condP_false, ifP_tt, ifP_ff, ifP_tf, ifP_ft, exP_normal, exP_exit, exP_ret, beqP_true, beqP_false, Option.bind_some, Value.cells_agg, cells_int, cells_bool, intB_add, intB_sub, intB_mul, intB_quo, intB_rem, intB_shr_u64, intB_shl1_u64, intB_and64, intB_or64, intB_xor64, wr_i64, wr_u8, wr_u64, convI_int, unV_not, boolB_eql, boolB_neq, pickV_true, pickV_false, lenSl_slice, ptr_at, fwdP_at, ixArr_at, load1_own, loadA_own, storeN_own, T.get_upd_same, T.get_upd_ne, cellsIn_some, putIn_cells, tl, ts, if_pos, Nat.zero_add, Nat.mul_one, Nat.add_zero, Int.toNat_natCast, ↓reduceIte, Nat.reduceLeDiff, Nat.reduceAdd, Nat.le_refl] <;> rfl) ?_ | refine newP_mk ?_ | refine optP_mk ?_ | with_reducible refine condP_t ?_ | with_reducible refine condP_f ?_ | with_reducible refine ifP_tt' ?_ | with_reducible refine ifP_ff' ?_ | with_reducible refine ifP_tf' ?_ | with_reducible refine ifP_ft' ?_ | with_reducible refine ifP_u' ?_ | refine optP_mk0 ?_))
      exact hq (j - 1) _ _ _ _ (by omega) ⟨k + 1, cs2, by omega, by omega, s1, s2.mono (by omega), s3, t3, t4, t5, t6, t7, t8, t30, t31, rfl⟩ (Sub.refl _)
    refine bindP_mk (loadA_all (l := [a, b]) gp rfl) ?_
    refine bindP_mk (loadA_all (l := [.int .i64 d.p, nv]) g3 rfl) ?_
    refine nca_ripe_c i1 i2 i3 (by omega) (hf3.mono (by omega)) hG3 (hn1.sub hs3) fun n hn => ?_
    rw [htk, nexts_snoc, ← List.append_assoc] at hok
    cases hri : ripeD g d with
    | false =>
      (repeat (first | refine lss_t (by omega) ?_ | refine lss_f (by omega) ?_ | refine leq_t (by omega) ?_ | refine leq_f (by omega) ?_ | refine gtr_t (by omega) ?_ | refine gtr_f (by omega) ?_ | refine geq_t (by omega) ?_ | refine geq_f (by omega) ?_ | refine eql_t (by omega) ?_ | refine eql_f (by omega) ?_ | refine neq_t (by omega) ?_ | refine neq_f (by omega) ?_ | refine bindP_mk (by simp (disch := first | omega | exact Int.natCast_nonneg _ | assumption) only [decide_true, decide_false, Bool.not_true, Bool.not_false, newP_eq, optP_some, optP_none, bindP_some', condP_true, condP_false, ifP_tt, ifP_ff, ifP_tf, ifP_ft, exP_normal, exP_exit, exP_ret, beqP_true, beqP_false, Option.bind_some, Value.cells_agg, cells_int, cells_bool, intB_add, intB_sub, intB_mul, intB_quo, intB_rem, intB_shr_u64, intB_shl1_u64, intB_and64, intB_or64, intB_xor64, wr_i64, wr_u8, wr_u64, convI_int, unV_not, boolB_eql, boolB_neq, pickV_true, pickV_false, lenSl_slice, ptr_at, fwdP_at, ixArr_at, load1_own, loadA_own, storeN_own, T.get_upd_same, T.get_upd_ne, cellsIn_some, putIn_cells, tl, ts, if_pos, Nat.zero_add, Nat.mul_one, Nat.add_zero, Int.toNat_natCast, ↓reduceIte, Nat.reduceLeDiff, Nat.reduceAdd, Nat.le_refl] <;> rfl) ?_ | refine newP_mk ?_ | refine optP_mk ?_ | with_reducible refine condP_t ?_ | with_reducible refine condP_f ?_ | with_reducible refine ifP_tt' ?_ | with_reducible refine ifP_ff' ?_ | with_reducible refine ifP_tf' ?_ | with_reducible refine ifP_ft' ?_ | with_reducible refine ifP_u' ?_ | refine optP_mk0 ?_))
      rw [hri] at hok
      refine hok _ _ _ cs' hS3 (hf3.mono (by omega)) ?_ f3 f4 f5 f6 f7 f8 f30 f31 f32 (by omega)
      rw [if_neg (by decide), List.append_nil]; exact hE'
    | true =>
      rw [hri, if_pos rfl] at hok
      (repeat (first | refine lss_t (by omega) ?_ | refine lss_f (by omega) ?_ | refine leq_t (by omega) ?_ | refine leq_f (by omega) ?_ | refine gtr_t (by omega) ?_ | refine gtr_f (by omega) ?_ | refine geq_t (by omega) ?_ | refine geq_f (by omega) ?_ | refine eql_t (by omega) ?_ | refine eql_f (by omega) ?_ | refine neq_t (by omega) ?_ | refine neq_f (by omega) ?_ | refine bindP_mk (by simp (disch := first | omega | exact Int.natCast_nonneg _ | assumption) only [decide_true, decide_false, Bool.not_true, Bool.not_false, newP_eq, optP_some, optP_none, bindP_some', condP_true, condP_false, ifP_tt, ifP_ff, ifP_tf, ifP_ft, exP_normal, exP_exit, exP_ret, beqP_true, beqP_false, Option.bind_some, Value.cells_agg, cells_int, cells_bool, intB_add, intB_sub, intB_mul, intB_quo, intB_rem, intB_shr_u64, intB_shl1_u64, intB_and64, intB_or64, intB_xor64, wr_i64, wr_u8, wr_u64, convI_int, unV_not, boolB_eql, boolB_neq, pickV_true, pickV_false, lenSl_slice, ptr_at, fwdP_at, ixArr_at, load1_own, loadA_own, storeN_own, T.get_upd_same, T.get_upd_ne, cellsIn_some, putIn_cells, tl, ts, if_pos, Nat.zero_add, Nat.mul_one, Nat.add_zero, Int.toNat_natCast, ↓reduceIte, Nat.reduceLeDiff, Nat.reduceAdd, Nat.le_refl, gp, g3, p3, p5, p7] <;> rfl) ?_ | refine newP_mk ?_ | refine optP_mk ?_ | with_reducible refine condP_t ?_ | with_reducible refine condP_f ?_ | with_reducible refine ifP_tt' ?_ | with_reducible refine ifP_ff' ?_ | with_reducible refine ifP_tf' ?_ | with_reducible refine ifP_ft' ?_ | with_reducible refine ifP_u' ?_ | refine optP_mk0 ?_))
      refine nca_step_1_c hr hby hmay.2.2.2.2.2.2 hf0 (hf3.mono (by omega)) (by omega) hS3 hE' q1 hP fun h4 n4 cs4 hn4 s1 s2 s3 => ?_
      exact hok _ _ _ cs4 s1 (s2.mono (by omega)) s3 f3 f4 f5 f6 f7 f8 f30 f31 f32 (by omega)
  · (repeat (first | refine lss_t (by omega) ?_ | refine lss_f (by omega) ?_ | refine leq_t (by omega) ?_ | refine leq_f (by omega) ?_ | refine gtr_t (by omega) ?_ | refine gtr_f (by omega) ?_ | refine geq_t (by omega) ?_ | refine geq_f (by omega) ?_ | refine eql_t (by omega) ?_ | refine eql_f (by omega) ?_ | refine neq_t (by omega) ?_ | refine neq_f (by omega) ?_ | refine bindP_mk (by simp (disch := first | omega | exact Int.natCast_nonneg _ | assumption) only [decide_true, decide_false, Bool.not_true, Bool.not_false, newP_eq, optP_some, optP_none, bindP_some', condP_true, condP_false, ifP_tt, ifP_ff, ifP_tf, ifP_ft, exP_normal, exP_exit, exP_ret, beqP_true, beqP_false, Option.bind_some, Value.cells_agg, cells_int, cells_bool, intB_add, intB_sub, intB_mul, intB_quo, intB_rem, intB_shr_u64, intB_shl1_u64, intB_and64, intB_or64, intB_xor64, wr_i64, wr_u8, wr_u64, convI_int, unV_not, boolB_eql, boolB_neq, pickV_true, pickV_false, lenSl_slice, ptr_at, fwdP_at, ixArr_at, load1_own, loadA_own, storeN_own, T.get_upd_same, T.get_upd_ne, cellsIn_some, putIn_cells, tl, ts, if_pos, Nat.zero_add, Nat.mul_one, Nat.add_zero, Int.toNat_natCast, ↓reduceIte, Nat.reduceLeDiff, Nat.reduceAdd, Nat.le_refl] <;> rfl) ?_ | refine newP_mk ?_ | refine optP_mk ?_ | with_reducible refine condP_t ?_ | with_reducible refine condP_f ?_ | with_reducible refine ifP_tt' ?_ | with_reducible refine ifP_ff' ?_ | with_reducible refine ifP_tf' ?_ | with_reducible refine ifP_ft' ?_ | with_reducible refine ifP_u' ?_ | refine optP_mk0 ?_))
    refine hx _ _ _ _ (fun e => by cases e) (exP_e (beqP_t ?_))
    rw [List.take_of_length_le (by omega)] at hE'
    refine nca_step_stay hr hft hby hf0 (hf'.mono (by omega)) (by omega) hS' (ent_st hE') hP hl f3 f4 f5 f6 f7 fun r h2 n2 cs2 hn2 q1 q2 q3 q4 => hK r h2 n2 (by omega) q1 q2 ?_
    have := outL_step (g := g) (c := c) (b := by_) (cs := cs2) fun q hq => st_cnt hft q3 hq
    unfold stepD
    rw [← this]; exact q4
theorem rep_ent (g : GlD) (b : Nat) : EntI g b [] (List.replicate g.p.length []) := ⟨by simp, fun q hq => by simp [List.getD_eq_getElem?_getD, List.getElem?_replicate, hq]⟩
set_option maxRecDepth 4000 in
theorem nca_step_c {ro : Ro} {v w : Value} {g : GlD} {c : CfgD} {by_ : Nat} (hr : rightD g = true) (hft : fitsD g c = true) (hby : by_ < 256) {h : T Obj} {nx : Nat} {K : KV} (hf : Fr h nx) (hg : RG ro h v g) (hc : RCfg ro h w c)
    (hK : ∀ r h' nx', nx ≤ nx' → Sub h h' → Fr h' nx' → RCfgS ro h' r (stepD g c by_) nx → K r h' nx') : callP Try.prog ro i_nca_step [v, w, .int .u8 (by_ : Int)] h nx K := by
  obtain ⟨a, b, rfl, ha, hP⟩ := hg
  obtain ⟨a2, rfl, hl⟩ := hc
  apply nca_step_of
  unfold nca_step
  have hlen := right_len hr
  refine param_mk hf (Nat.le_refl _) fun h1 hs1 hf1 g1 _ => ?_
  refine param_mk hf1 (Nat.le_refl _) fun h2 hs2 hf2 g2 _ => ?_
  refine param_mk hf2 (Nat.le_refl _) fun h3 hs3 hf3 g3 _ => ?_
  refine bindP_mk zer_Config ?_
  refine obj_mk hf3 (Nat.le_refl _) fun h4 hs4 hf4 g4 _ => ?_
  have hbl := hP.len
  have g14 := hs4 _ _ (hs3 _ _ (hs2 _ _ g1))
  (repeat (first | refine lss_t (by omega) ?_ | refine lss_f (by omega) ?_ | refine leq_t (by omega) ?_ | refine leq_f (by omega) ?_ | refine gtr_t (by omega) ?_ | refine gtr_f (by omega) ?_ | refine geq_t (by omega) ?_ | refine geq_f (by omega) ?_ | refine eql_t (by omega) ?_ | refine eql_f (by omega) ?_ | refine neq_t (by omega) ?_ | refine neq_f (by omega) ?_ | refine bindP_mk (by simp (disch := first | omega | exact Int.natCast_nonneg _ | assumption) only [decide_true, decide_false, Bool.not_true, Bool.not_false, newP_eq, optP_some, optP_none, bindP_some', condP_true, condP_false, ifP_tt, ifP_ff, ifP_tf, ifP_ft, exP_normal, exP_exit, exP_ret, beqP_true, beqP_false, Option.bind_some, Value.cells_agg, cells_int, cells_bool, intB_add, intB_sub, intB_mul, intB_quo, intB_rem, intB_shr_u64, intB_shl1_u64, intB_and64, intB_or64, intB_xor64, wr_i64, wr_u8, wr_u64, convI_int, unV_not, boolB_eql, boolB_neq, pickV_true, pickV_false, lenSl_slice, ptr_at, fwdP_at, ixArr_at, load1_own, loadA_own, storeN_own, T.get_upd_same, T.get_upd_ne, cellsIn_some, putIn_cells, tl, ts, if_pos, Nat.zero_add, Nat.mul_one, Nat.add_zero, Int.toNat_natCast, ↓reduceIte, Nat.reduceLeDiff, Nat.reduceAdd, Nat.le_refl, g14, hbl] <;> rfl) ?_ | refine newP_mk ?_ | refine optP_mk ?_ | with_reducible refine condP_t ?_ | with_reducible refine condP_f ?_ | with_reducible refine ifP_tt' ?_ | with_reducible refine ifP_ff' ?_ | with_reducible refine ifP_tf' ?_ | with_reducible refine ifP_ft' ?_ | with_reducible refine ifP_u' ?_ | refine optP_mk0 ?_))
  refine bindP_mk (make_rows (by omega)) (optP_mk ?_)
  have hs5 : Sub h4 (h4.upd (nx + 7) (some (.cells (List.replicate g.p.length (Value.slice none 0 0)).toArray y_s_int))) := (Sub.refl h4).new hf4 (by omega)
  have hf5 : Fr (h4.upd (nx + 7) (some (.cells (List.replicate g.p.length (Value.slice none 0 0)).toArray y_s_int))) (nx + 8) := (hf4.mono (show nx + 4 ≤ nx + 8 by omega)).upd (Nat.le_refl _) (by omega)
  have g5 : (h4.upd (nx + 7) (some (.cells (List.replicate g.p.length (Value.slice none 0 0)).toArray y_s_int))).get (nx + 7) = some (.cells (List.replicate g.p.length (Value.slice none 0 0)).toArray y_s_int) := by rw [T.get_upd_same]
  generalize h4.upd (nx + 7) (some (.cells (List.replicate g.p.length (Value.slice none 0 0)).toArray y_s_int)) = h5 at hs5 hf5 g5
  refine local_mk (x := [.slice (some (own (nx + 7) 1)) g.p.length g.p.length]) zer_rows rfl rfl rfl rfl hf5 (Nat.le_refl _) fun h6 hs6 hf6 g6 _ => ?_
  have hS : SI h nx a b a2 c.b by_ g.p.length h6 (List.replicate g.p.length []) := by
    refine ⟨((((hs1.trans hs2).trans hs3).trans hs4).trans hs5).trans hs6, hs6 _ _ (hs5 _ _ g14), hs6 _ _ (hs5 _ _ (hs4 _ _ (hs3 _ _ g2))), hs6 _ _ (hs5 _ _ (hs4 _ _ g3)), hs6 _ _ (hs5 _ _ g4), g6, ?_⟩
    refine ⟨List.replicate g.p.length (.slice none 0 0), by omega, hs6 _ _ g5, by simp, fun q w l hw hl' => ?_, fun q q' w w' id hw hw' hid _ => ?_⟩
    · have h1 := List.eq_of_mem_replicate (List.mem_of_getElem? hw)
      have h2 := List.eq_of_mem_replicate (List.mem_of_getElem? hl')
      subst h1; subst h2
      exact OwnT.nil
    · have h1 := List.eq_of_mem_replicate (List.mem_of_getElem? hw)
      subst h1; cases hid
  have gc := hS.cfg
  have gp := hS.places
  (repeat (first | refine lss_t (by omega) ?_ | refine lss_f (by omega) ?_ | refine leq_t (by omega) ?_ | refine leq_f (by omega) ?_ | refine gtr_t (by omega) ?_ | refine gtr_f (by omega) ?_ | refine geq_t (by omega) ?_ | refine geq_f (by omega) ?_ | refine eql_t (by omega) ?_ | refine eql_f (by omega) ?_ | refine neq_t (by omega) ?_ | refine neq_f (by omega) ?_ | refine bindP_mk (by simp (disch := first | omega | exact Int.natCast_nonneg _ | assumption) only [decide_true, decide_false, Bool.not_true, Bool.not_false, newP_eq, optP_some, optP_none, bindP_some', condP_true, condP_false, ifP_tt, ifP_ff, ifP_tf, ifP_ft, exP_normal, exP_exit, exP_ret, beqP_true, beqP_false, Option.bind_some, Value.cells_agg, cells_int, cells_bool, intB_add, intB_sub, intB_mul, intB_quo, intB_rem, intB_shr_u64, intB_shl1_u64, intB_and64, intB_or64, intB_xor64, wr_i64, wr_u8, wr_u64, convI_int, unV_not, boolB_eql, boolB_neq, pickV_true, pickV_false, lenSl_slice, ptr_at, fwdP_at, ixArr_at, load1_own, loadA_own, storeN_own, T.get_upd_same, T.get_upd_ne, cellsIn_some, putIn_cells, tl, ts, if_pos, Nat.zero_add, Nat.mul_one, Nat.add_zero, Int.toNat_natCast, ↓reduceIte, Nat.reduceLeDiff, Nat.reduceAdd, Nat.le_refl, gc] <;> rfl) ?_ | refine newP_mk ?_ | refine optP_mk ?_ | with_reducible refine condP_t ?_ | with_reducible refine condP_f ?_ | with_reducible refine ifP_tt' ?_ | with_reducible refine ifP_ff' ?_ | with_reducible refine ifP_tf' ?_ | with_reducible refine ifP_ft' ?_ | with_reducible refine ifP_u' ?_ | refine optP_mk0 ?_))
  cases hcb : c.b with
  | true =>
    rw [hcb] at hS
    (repeat (first | refine lss_t (by omega) ?_ | refine lss_f (by omega) ?_ | refine leq_t (by omega) ?_ | refine leq_f (by omega) ?_ | refine gtr_t (by omega) ?_ | refine gtr_f (by omega) ?_ | refine geq_t (by omega) ?_ | refine geq_f (by omega) ?_ | refine eql_t (by omega) ?_ | refine eql_f (by omega) ?_ | refine neq_t (by omega) ?_ | refine neq_f (by omega) ?_ | refine bindP_mk (by simp (disch := first | omega | exact Int.natCast_nonneg _ | assumption) only [decide_true, decide_false, Bool.not_true, Bool.not_false, newP_eq, optP_some, optP_none, bindP_some', condP_true, condP_false, ifP_tt, ifP_ff, ifP_tf, ifP_ft, exP_normal, exP_exit, exP_ret, beqP_true, beqP_false, Option.bind_some, Value.cells_agg, cells_int, cells_bool, intB_add, intB_sub, intB_mul, intB_quo, intB_rem, intB_shr_u64, intB_shl1_u64, intB_and64, intB_or64, intB_xor64, wr_i64, wr_u8, wr_u64, convI_int, unV_not, boolB_eql, boolB_neq, pickV_true, pickV_false, lenSl_slice, ptr_at, fwdP_at, ixArr_at, load1_own, loadA_own, storeN_own, T.get_upd_same, T.get_upd_ne, cellsIn_some, putIn_cells, tl, ts, if_pos, Nat.zero_add, Nat.mul_one, Nat.add_zero, Int.toNat_natCast, ↓reduceIte, Nat.reduceLeDiff, Nat.reduceAdd, Nat.le_refl, gp] <;> rfl) ?_ | refine newP_mk ?_ | refine optP_mk ?_ | with_reducible refine condP_t ?_ | with_reducible refine condP_f ?_ | with_reducible refine ifP_tt' ?_ | with_reducible refine ifP_ff' ?_ | with_reducible refine ifP_tf' ?_ | with_reducible refine ifP_ft' ?_ | with_reducible refine ifP_u' ?_ | refine optP_mk0 ?_))
    have hz : rz (-1) g.p.length g.first = true := by
      have := hr
      unfold rightD at this
      simp only [Bool.and_eq_true] at this
      exact this.2.1
    refine nca_step_1_c hr hby hz hf (hf6.mono (by omega)) (by omega) hS (rep_ent g by_) ha hP fun h7 n7 cs7 hn7 s1 s2 s3 => ?_
    have hE0 : entE0 g c = [] ++ g.first := by unfold entE0; rw [hcb]; rfl
    rw [← hE0] at s3
    rw [← hcb] at s1
    exact nca_step_enter hr hft hby hf s2 (by omega) s1 s3 ha hP hl rfl rfl rfl rfl rfl rfl fun r h8 n8 hn8 q1 q2 q3 => hK r h8 n8 (by omega) q1 q2 fun h5 h5k => q3 h5 fun k hk => h5k k (by omega)
  | false =>
    (repeat (first | refine lss_t (by omega) ?_ | refine lss_f (by omega) ?_ | refine leq_t (by omega) ?_ | refine leq_f (by omega) ?_ | refine gtr_t (by omega) ?_ | refine gtr_f (by omega) ?_ | refine geq_t (by omega) ?_ | refine geq_f (by omega) ?_ | refine eql_t (by omega) ?_ | refine eql_f (by omega) ?_ | refine neq_t (by omega) ?_ | refine neq_f (by omega) ?_ | refine bindP_mk (by simp (disch := first | omega | exact Int.natCast_nonneg _ | assumption) only [decide_true, decide_false, Bool.not_true, Bool.not_false, newP_eq, optP_some, optP_none, bindP_some', condP_true, condP_false, ifP_tt, ifP_ff, ifP_tf, ifP_ft, exP_normal, exP_exit, exP_ret, beqP_true, beqP_false, Option.bind_some, Value.cells_agg, cells_int, cells_bool, intB_add, intB_sub, intB_mul, intB_quo, intB_rem, intB_shr_u64, intB_shl1_u64, intB_and64, intB_or64, intB_xor64, wr_i64, wr_u8, wr_u64, convI_int, unV_not, boolB_eql, boolB_neq, pickV_true, pickV_false, lenSl_slice, ptr_at, fwdP_at, ixArr_at, load1_own, loadA_own, storeN_own, T.get_upd_same, T.get_upd_ne, cellsIn_some, putIn_cells, tl, ts, if_pos, Nat.zero_add, Nat.mul_one, Nat.add_zero, Int.toNat_natCast, ↓reduceIte, Nat.reduceLeDiff, Nat.reduceAdd, Nat.le_refl] <;> rfl) ?_ | refine newP_mk ?_ | refine optP_mk ?_ | with_reducible refine condP_t ?_ | with_reducible refine condP_f ?_ | with_reducible refine ifP_tt' ?_ | with_reducible refine ifP_ff' ?_ | with_reducible refine ifP_tf' ?_ | with_reducible refine ifP_ft' ?_ | with_reducible refine ifP_u' ?_ | refine optP_mk0 ?_))
    have hE0 : entE0 g c = [] := by unfold entE0; rw [hcb]; rfl
    refine nca_step_enter hr hft hby hf (hf6.mono (by omega)) (by omega) hS (by rw [hE0]; exact rep_ent g by_) ha hP hl rfl rfl rfl rfl rfl rfl fun r h8 n8 hn8 q1 q2 q3 => hK r h8 n8 (by omega) q1 q2 fun h5 h5k => q3 h5 fun k hk => h5k k (by omega)
theorem build_Config0 : buildV Try.prog y_api_Config [] = some (.agg #[.bool false, .slice none 0 0]) := by kernel_rfl
theorem build_Config1 : buildV Try.prog y_api_Config [(0, .bool true)] = some (.agg #[.bool true, .slice none 0 0]) := by kernel_rfl
theorem nca_Start_c {ro : Ro} {h : T Obj} {nx : Nat} {K : KV} (hf : Fr h nx) (hK : ∀ nx', nx ≤ nx' → K (.agg #[.bool true, .slice none 0 0]) h nx') : callP Try.prog ro i_nca_Start [] h nx K := by
  apply nca_Start_of
  unfold nca_Start
  refine bindP_mk zer_Config ?_
  refine obj_mk hf (Nat.le_refl _) fun h1 hs1 hf1 g1 _ => ?_
  refine bindP_mk build_Config1 ?_
  refine bindP_mk (storeA_own (l := [.bool false, .slice none 0 0]) (vs := [.bool true, .slice none 0 0]) g1 rfl rfl rfl rfl) ?_
  refine bindP_mk (loadA_all (l := [.bool true, .slice none 0 0]) (by rw [T.get_upd_same]) rfl) ?_
  exact ⟨h, hs1.new hf (Nat.le_refl _), hK _ (by omega)⟩
set_option maxRecDepth 4000 in
theorem nca_Step_c {ro : Ro} {v w : Value} {g : GlD} {c : CfgD} {by_ : Nat} (hby : by_ < 256) {h : T Obj} {nx : Nat} {K : KV} (hf : Fr h nx) (hg : RG ro h v g) (hc : RCfg ro h w c)
    (hK : ∀ r h' nx', nx ≤ nx' → Sub h h' → Fr h' nx' → RCfg ro h' r (StepC g c by_) → K r h' nx') : callP Try.prog ro i_nca_Step [v, w, .int .u8 (by_ : Int)] h nx K := by
  obtain ⟨a, b, rfl, ha, hP⟩ := hg
  obtain ⟨a2, rfl, hl⟩ := hc
  apply nca_Step_of
  unfold nca_Step
  refine param_mk hf (Nat.le_refl _) fun h1 hs1 hf1 g1 _ => ?_
  refine param_mk hf1 (Nat.le_refl _) fun h2 hs2 hf2 g2 _ => ?_
  refine bindP_mk zer_Config ?_
  refine obj_mk hf2 (Nat.le_refl _) fun h3 hs3 hf3 g3 _ => ?_
  have g1 := hs3 _ _ (hs2 _ _ g1)
  have g2 := hs3 _ _ g2
  have hs := (hs1.trans hs2).trans hs3
  have hG : RG ro h3 (.agg #[a, b]) g := ⟨a, b, rfl, ha.sub hs, hP.sub hs (RPos.sub hs)⟩
  have hC : RCfg ro h3 (.agg #[.bool c.b, a2]) c := ⟨a2, rfl, hl.sub hs (RHeld.sub hs)⟩
  refine bindP_mk (loadA_all (l := [a, b]) g1 rfl) ?_
  refine bindP_mk (loadA_all (l := [.bool c.b, a2]) g2 rfl) ?_
  refine nca_Right_c (hf3.mono (by omega)) hG hC fun n hn => ?_
  cases hrc : rightC g c with
  | false =>
    have hst : StepC g c by_ = ⟨false, []⟩ := by unfold StepC; rw [hrc]; rfl
    rw [hst] at hK
    (repeat (first | refine lss_t (by omega) ?_ | refine lss_f (by omega) ?_ | refine leq_t (by omega) ?_ | refine leq_f (by omega) ?_ | refine gtr_t (by omega) ?_ | refine gtr_f (by omega) ?_ | refine geq_t (by omega) ?_ | refine geq_f (by omega) ?_ | refine eql_t (by omega) ?_ | refine eql_f (by omega) ?_ | refine neq_t (by omega) ?_ | refine neq_f (by omega) ?_ | refine bindP_mk (by simp (disch := first | omega | exact Int.natCast_nonneg _ | assumption) only [decide_true, decide_false, Bool.not_true, Bool.not_false, newP_eq, optP_some, optP_none, bindP_some', condP_true, condP_false, ifP_tt, ifP_ff, ifP_tf, ifP_ft, exP_normal, exP_exit, exP_ret, beqP_true, beqP_false, Option.bind_some, Value.cells_agg, cells_int, cells_bool, intB_add, intB_sub, intB_mul, intB_quo, intB_rem, intB_shr_u64, intB_shl1_u64, intB_and64, intB_or64, intB_xor64, wr_i64, wr_u8, wr_u64, convI_int, unV_not, boolB_eql, boolB_neq, pickV_true, pickV_false, lenSl_slice, ptr_at, fwdP_at, ixArr_at, load1_own, loadA_own, storeN_own, T.get_upd_same, T.get_upd_ne, cellsIn_some, putIn_cells, tl, ts, if_pos, Nat.zero_add, Nat.mul_one, Nat.add_zero, Int.toNat_natCast, ↓reduceIte, Nat.reduceLeDiff, Nat.reduceAdd, Nat.le_refl] <;> rfl) ?_ | refine newP_mk ?_ | refine optP_mk ?_ | with_reducible refine condP_t ?_ | with_reducible refine condP_f ?_ | with_reducible refine ifP_tt' ?_ | with_reducible refine ifP_ff' ?_ | with_reducible refine ifP_tf' ?_ | with_reducible refine ifP_ft' ?_ | with_reducible refine ifP_u' ?_ | refine optP_mk0 ?_))
    refine bindP_mk build_Config0 ?_
    refine bindP_mk (storeA_own (l := [.bool false, .slice none 0 0]) (vs := [.bool false, .slice none 0 0]) g3 rfl rfl rfl rfl) ?_
    refine bindP_mk (loadA_all (l := [.bool false, .slice none 0 0]) (by rw [T.get_upd_same]) rfl) ?_
    exact ⟨h, hs.new hf (by omega), hK _ _ _ (by omega) (Sub.refl _) (hf.mono (by omega)) ⟨_, rfl, SlR.nil⟩⟩
  | true =>
    have hst : StepC g c by_ = stepD g c by_ := by unfold StepC; rw [hrc]; rfl
    rw [hst] at hK
    unfold rightC at hrc
    simp only [Bool.and_eq_true] at hrc
    (repeat (first | refine lss_t (by omega) ?_ | refine lss_f (by omega) ?_ | refine leq_t (by omega) ?_ | refine leq_f (by omega) ?_ | refine gtr_t (by omega) ?_ | refine gtr_f (by omega) ?_ | refine geq_t (by omega) ?_ | refine geq_f (by omega) ?_ | refine eql_t (by omega) ?_ | refine eql_f (by omega) ?_ | refine neq_t (by omega) ?_ | refine neq_f (by omega) ?_ | refine bindP_mk (by simp (disch := first | omega | exact Int.natCast_nonneg _ | assumption) only [decide_true, decide_false, Bool.not_true, Bool.not_false, newP_eq, optP_some, optP_none, bindP_some', condP_true, condP_false, ifP_tt, ifP_ff, ifP_tf, ifP_ft, exP_normal, exP_exit, exP_ret, beqP_true, beqP_false, Option.bind_some, Value.cells_agg, cells_int, cells_bool, intB_add, intB_sub, intB_mul, intB_quo, intB_rem, intB_shr_u64, intB_shl1_u64, intB_and64, intB_or64, intB_xor64, wr_i64, wr_u8, wr_u64, convI_int, unV_not, boolB_eql, boolB_neq, pickV_true, pickV_false, lenSl_slice, ptr_at, fwdP_at, ixArr_at, load1_own, loadA_own, storeN_own, T.get_upd_same, T.get_upd_ne, cellsIn_some, putIn_cells, tl, ts, if_pos, Nat.zero_add, Nat.mul_one, Nat.add_zero, Int.toNat_natCast, ↓reduceIte, Nat.reduceLeDiff, Nat.reduceAdd, Nat.le_refl] <;> rfl) ?_ | refine newP_mk ?_ | refine optP_mk ?_ | with_reducible refine condP_t ?_ | with_reducible refine condP_f ?_ | with_reducible refine ifP_tt' ?_ | with_reducible refine ifP_ff' ?_ | with_reducible refine ifP_tf' ?_ | with_reducible refine ifP_ft' ?_ | with_reducible refine ifP_u' ?_ | refine optP_mk0 ?_))
    refine bindP_mk (loadA_all (l := [a, b]) g1 rfl) ?_
    refine bindP_mk (loadA_all (l := [.bool c.b, a2]) g2 rfl) ?_
    refine nca_step_c hrc.1 hrc.2 hby (hf3.mono (by omega)) hG hC fun r h4 n4 hn4 q1 q2 q3 => ?_
    have q4 := q3
    obtain ⟨a3, rfl, hl3⟩ := q4.now
    have hok3 : cellOk a3 = true := by obtain ⟨cs, h9, _⟩ := hl3; exact h9.ok
    refine bindP_mk (storeA_own (l := [.bool false, .slice none 0 0]) (vs := [.bool (stepD g c by_).b, a3]) (q1 _ _ g3) rfl rfl rfl (two_ok hok3)) ?_
    refine bindP_mk (loadA_all (l := [.bool (stepD g c by_).b, a3]) (by rw [T.get_upd_same]) rfl) ?_
    refine ⟨(h4.upd (nx + 2) (some (.cells [Value.bool (stepD g c by_).b, a3].toArray y_api_Config))), Sub.refl _, hK _ _ _ (by omega) (fun k o hk => ?_) ((q2.mono (by omega)).upd (Nat.le_refl _) (by omega)) ?_⟩
    · have := hf.lt' hk
      rw [T.get_upd_ne _ _ (by omega)]
      exact q1 _ _ (hs _ _ hk)
    · exact q3 _ fun k hk => T.get_upd_ne _ _ (by omega)
end V
end Go.Proofs.Ytepbdkfkfcckoaa
