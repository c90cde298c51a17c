/- What the reference's step, Step hand back.
   No condition. -/
import Derived.Test.YtepbdkfkfcckoaaNL
set_option linter.unusedVariables false
set_option linter.unusedSimpArgs false
namespace Go.Proofs.Ytepbdkfkfcckoaa
namespace V
open PA
attribute [local irreducible] bindP ifP condP newP optP exP beqP
def stepK (g : GlD) (c : CfgD) (b k : Nat) : List HeldD := (List.range k).flatMap fun q : Nat => heldOf q (cntD g c b q)
theorem stepK_succ (g : GlD) (c : CfgD) (b k : Nat) : stepK g c b (k + 1) = stepK g c b k ++ heldOf k (cntD g c b k) := by simp [stepK, List.range_succ]
theorem stepK_len (g : GlD) (c : CfgD) (b : Nat) : ∀ k, (stepK g c b k).length ≤ k
  | 0 => by simp [stepK]
  | k + 1 => by
    rw [stepK_succ, List.length_append]
    have := stepK_len g c b k
    unfold heldOf
    split <;> simp <;> omega
theorem flat_ints_ok (l : List Int) : (intsZ l).flatten.all cellOk = true := by
  induction l with
  | nil => rfl
  | cons x r ih => simp [intsZ, cellOk]
/-- Memory while the reference's step is done. -/
structure RS (h0 : T Obj) (n0 : Nat) (a b a2 : Value) (cb : Bool) (h : T Obj) (Lv : Value) (ys : List (List Value)) (Ds : List HeldD) : Prop where
  base : Sub h0 h
  places : h.get n0 = some (.cells #[a, b] y_api_Glush)
  cfg : h.get (n0 + 1) = some (.cells #[.bool cb, a2] y_api_Config)
  res : h.get (n0 + 2) = some (.cells #[.bool false, .slice none 0 0] y_api_Config)
  out : h.get (n0 + 4) = some (.cells #[.bool false, Lv] y_api_Config)
  own : OwnT h Lv 2 y_api_Held ys (n0 + 5)
  els : EL h ys Ds (n0 + 5)
theorem RS.sub {h0 h h' : T Obj} {n0 : Nat} {a b a2 Lv : Value} {cb : Bool} {ys : List (List Value)} {Ds : List HeldD} (hS : RS h0 n0 a b a2 cb h Lv ys Ds) (hs : Sub h h') : RS h0 n0 a b a2 cb h' Lv ys Ds :=
  ⟨hS.base.trans hs, hs _ _ hS.places, hs _ _ hS.cfg, hs _ _ hS.res, hs _ _ hS.out, hS.own.keepS hs, hS.els.imp fun w l ho => ho.keepS hs⟩
theorem ref10_step_end {ro : Ro} {h0 h : T Obj} {n0 nx : Nat} {a b a2 Lv : Value} {cb : Bool} {ys : List (List Value)} {Ds : List HeldD} {e : Env} {K : KV} (hf0 : Fr h0 n0) (hf : Fr h nx) (hn : n0 + 5 ≤ nx) (hS : RS h0 n0 a b a2 cb h Lv ys Ds) (e6 : e 6 = ptr (n0 + 2)) (e7 : e 7 = ptr (n0 + 4))
    (hK : ∀ r h' nx', nx ≤ nx' → Sub h0 h' → Fr h' nx' → RCfgS ro h' r ⟨false, Ds⟩ (n0 + 5) → K r h' nx') : ref10_step_j1 ro K e h nx := by
  unfold ref10_step_j1
  rw [e6, e7]
  refine bindP_mk (loadA_all (l := [.bool false, Lv]) hS.out rfl) ?_
  refine bindP_mk (storeA_own (l := [.bool false, .slice none 0 0]) (vs := [.bool false, Lv]) hS.res rfl rfl rfl (two_ok hS.own.one.2)) ?_
  refine bindP_mk (loadA_all (l := [.bool false, Lv]) (by rw [T.get_upd_same]) rfl) ?_
  have hoff : ∀ i, i ≠ n0 + 2 → (h.upd (n0 + 2) (some (.cells [Value.bool false, Lv].toArray y_api_Config))).get i = h.get i := fun i hi => T.get_upd_ne _ _ hi
  refine ⟨_, Sub.refl _, hK _ _ _ (by omega) (fun i o hi => ?_) ((hf.mono (by omega)).upd (Nat.le_refl _) (by omega)) fun h5 h5k => ⟨Lv, rfl, ?_⟩⟩
  · have := hf0.lt' hi
    rw [hoff i (by omega)]
    exact hS.base i o hi
  · have hh : ∀ k, n0 + 5 ≤ k → h5.get k = h.get k := fun k hk => by rw [h5k k hk, hoff k (by omega)]
    exact (hS.els.imp fun w l ho => ho.hi hh).slr (hS.own.hi hh).sl
set_option maxRecDepth 4000 in
set_option maxHeartbeats 1000000 in
theorem ref10_step_c {ro : Ro} {v w : Value} {g : GlD} {c : CfgD} {by_ : Nat} (hr : rightD g = true) (hft : fitsD g c = true) (hby : by_ < 256) {h : T Obj} {nx : Nat} {K : KV} (hf : Fr h nx) (hg : RG ro h v g) (hc : RCfg ro h w c)
    (hK : ∀ r h' nx', nx ≤ nx' → Sub h h' → Fr h' nx' → RCfgS ro h' r (stepD g c by_) nx → K r h' nx') : callP Try.prog ro i_ref10_step [v, w, .int .u8 (by_ : Int)] h nx K := by
  obtain ⟨a, b, rfl, ha, hP⟩ := hg
  obtain ⟨a2, rfl, hl⟩ := hc
  apply ref10_step_of
  unfold ref10_step
  have hlen := right_len hr
  have hlen2 := fits_len hft
  refine param_mk hf (Nat.le_refl _) fun h1 hs1 hf1 g1 _ => ?_
  refine param_mk hf1 (Nat.le_refl _) fun h2 hs2 hf2 g2 _ => ?_
  refine bindP_mk zer_Config ?_
  refine obj_mk hf2 (Nat.le_refl _) fun h3 hs3 hf3 g3 _ => ?_
  refine bindP_mk build_Config0 ?_
  refine local_mk (x := [.bool false, .slice none 0 0]) zer_Config rfl rfl rfl rfl hf3 (by omega) fun h4 hs4 hf4 g4 _ => ?_
  have hS0 : RS h nx a b a2 c.b h4 (.slice none 0 0) [] [] := ⟨((hs1.trans hs2).trans hs3).trans hs4, hs4 _ _ (hs3 _ _ (hs2 _ _ g1)), hs4 _ _ (hs3 _ _ g2), hs4 _ _ g3, g4, OwnT.nil, ⟨rfl, fun i y d hy => by simp at hy⟩⟩
  refine loopP_rule (fun j e h' nx' => ∃ (k : Nat) (Lv : Value) (ys : List (List Value)), k + j = g.p.length ∧ nx + 5 ≤ nx' ∧ Fr h' nx' ∧ RS h nx a b a2 c.b h' Lv ys (stepK g c by_ k) ∧ e 2 = .int .u8 (by_ : Int) ∧ e 3 = ptr nx ∧ e 4 = ptr (nx + 1) ∧ e 6 = ptr (nx + 2) ∧ e 7 = ptr (nx + 4) ∧ e 8 = .int .i64 k) ?_ (n := g.p.length)
    ⟨0, _, [], by omega, by omega, hf4.mono (by omega), hS0, rfl, rfl, rfl, rfl, rfl, rfl⟩
  rintro j e h' nx' ⟨k, Lv, ys, hj, hnx, hf', hS, e2, e3, e4, e6, e7, e8⟩ Q' hq hx
  unfold ref10_step_L1
  rw [e2, e3, e4, e8]
  have gp := hS.places
  have hPp := hP.sub hS.base (RPos.sub hS.base)
  have hpl := hPp.len
  (repeat (first | refine lss_t (by omega) ?_ | refine lss_f (by omega) ?_ | refine leq_t (by omega) ?_ | refine leq_f (by omega) ?_ | refine gtr_t (by omega) ?_ | refine gtr_f (by omega) ?_ | refine geq_t (by omega) ?_ | refine geq_f (by omega) ?_ | refine eql_t (by omega) ?_ | refine eql_f (by omega) ?_ | refine neq_t (by omega) ?_ | refine neq_f (by omega) ?_ | refine bindP_mk (by simp (disch := first | omega | exact Int.natCast_nonneg _ | assumption) only [decide_true, decide_false, Bool.not_true, Bool.not_false, newP_eq, optP_some, optP_none, bindP_some', condP_true, condP_false, ifP_tt, ifP_ff, ifP_tf, ifP_ft, exP_normal, exP_exit, exP_ret, beqP_true, beqP_false, Option.bind_some, Value.cells_agg, cells_int, cells_bool, intB_add, intB_sub, intB_mul, intB_quo, intB_rem, intB_shr_u64, intB_shl1_u64, intB_and64, intB_or64, intB_xor64, wr_i64, wr_u8, wr_u64, convI_int, unV_not, boolB_eql, boolB_neq, pickV_true, pickV_false, lenSl_slice, ptr_at, fwdP_at, ixArr_at, load1_own, loadA_own, storeN_own, T.get_upd_same, T.get_upd_ne, cellsIn_some, putIn_cells, tl, ts, if_pos, Nat.zero_add, Nat.mul_one, Nat.add_zero, Int.toNat_natCast, ↓reduceIte, Nat.reduceLeDiff, Nat.reduceAdd, Nat.le_refl, gp, hpl] <;> rfl) ?_ | refine newP_mk ?_ | refine optP_mk ?_ | with_reducible refine condP_t ?_ | with_reducible refine condP_f ?_ | with_reducible refine ifP_tt' ?_ | with_reducible refine ifP_ff' ?_ | with_reducible refine ifP_tf' ?_ | with_reducible refine ifP_ft' ?_ | with_reducible refine ifP_u' ?_ | refine optP_mk0 ?_))
  refine lss_s (fun hk => ?_) (fun hk => ?_)
  · have hk : k < g.p.length := by omega
    have hix := hPp.ixI .i64 (i := (k : Int)) (by omega) (by omega)
    obtain ⟨pv, -, -, p3, -, p5, p6⟩ := P_at hPp (i := (k : Int)) (by omega) (by omega)
    have p7 := P_set hPp (i := (k : Int)) (by omega) (by omega)
    simp only [Int.toNat_natCast] at hix p3 p5 p7
    have hok : ∀ (e' : Env) h5 n Lv' ys', RS h nx a b a2 c.b h5 Lv' ys' (stepK g c by_ (k + 1)) → Fr h5 n → e' 2 = .int .u8 (by_ : Int) → e' 3 = ptr nx → e' 4 = ptr (nx + 1) → e' 6 = ptr (nx + 2) → e' 7 = ptr (nx + 4) → e' 8 = .int .i64 k → nx + 5 ≤ n → ref10_step_j2 ro Q' e' h5 n := by
      intro e' h5 n Lv' ys' s1 s2 f2 f3 f4 f6 f7 f8 hn
      unfold ref10_step_j2
      rw [f8]
      (repeat (first | refine lss_t (by omega) ?_ | refine lss_f (by omega) ?_ | refine leq_t (by omega) ?_ | refine leq_f (by omega) ?_ | refine gtr_t (by omega) ?_ | refine gtr_f (by omega) ?_ | refine geq_t (by omega) ?_ | refine geq_f (by omega) ?_ | refine eql_t (by omega) ?_ | refine eql_f (by omega) ?_ | refine neq_t (by omega) ?_ | refine neq_f (by omega) ?_ | refine bindP_mk (by simp (disch := first | omega | exact Int.natCast_nonneg _ | assumption) only [decide_true, decide_false, Bool.not_true, Bool.not_false, newP_eq, optP_some, optP_none, bindP_some', condP_true, condP_false, ifP_tt, ifP_ff, ifP_tf, ifP_ft, exP_normal, exP_exit, exP_ret, beqP_true, beqP_false, Option.bind_some, Value.cells_agg, cells_int, cells_bool, intB_add, intB_sub, intB_mul, intB_quo, intB_rem, intB_shr_u64, intB_shl1_u64, intB_and64, intB_or64, intB_xor64, wr_i64, wr_u8, wr_u64, convI_int, unV_not, boolB_eql, boolB_neq, pickV_true, pickV_false, lenSl_slice, ptr_at, fwdP_at, ixArr_at, load1_own, loadA_own, storeN_own, T.get_upd_same, T.get_upd_ne, cellsIn_some, putIn_cells, tl, ts, if_pos, Nat.zero_add, Nat.mul_one, Nat.add_zero, Int.toNat_natCast, ↓reduceIte, Nat.reduceLeDiff, Nat.reduceAdd, Nat.le_refl] <;> rfl) ?_ | refine newP_mk ?_ | refine optP_mk ?_ | with_reducible refine condP_t ?_ | with_reducible refine condP_f ?_ | with_reducible refine ifP_tt' ?_ | with_reducible refine ifP_ff' ?_ | with_reducible refine ifP_tf' ?_ | with_reducible refine ifP_ft' ?_ | with_reducible refine ifP_u' ?_ | refine optP_mk0 ?_))
      exact hq (j - 1) _ _ _ _ (by omega) ⟨k + 1, Lv', ys', by omega, by omega, s2.mono (by omega), s1, f2, f3, f4, f6, f7, rfl⟩ (Sub.refl _)
    rw [stepK_succ] at hok
    (repeat (first | refine lss_t (by omega) ?_ | refine lss_f (by omega) ?_ | refine leq_t (by omega) ?_ | refine leq_f (by omega) ?_ | refine gtr_t (by omega) ?_ | refine gtr_f (by omega) ?_ | refine geq_t (by omega) ?_ | refine geq_f (by omega) ?_ | refine eql_t (by omega) ?_ | refine eql_f (by omega) ?_ | refine neq_t (by omega) ?_ | refine neq_f (by omega) ?_ | refine bindP_mk (by simp (disch := first | omega | exact Int.natCast_nonneg _ | assumption) only [decide_true, decide_false, Bool.not_true, Bool.not_false, newP_eq, optP_some, optP_none, bindP_some', condP_true, condP_false, ifP_tt, ifP_ff, ifP_tf, ifP_ft, exP_normal, exP_exit, exP_ret, beqP_true, beqP_false, Option.bind_some, Value.cells_agg, cells_int, cells_bool, intB_add, intB_sub, intB_mul, intB_quo, intB_rem, intB_shr_u64, intB_shl1_u64, intB_and64, intB_or64, intB_xor64, wr_i64, wr_u8, wr_u64, convI_int, unV_not, boolB_eql, boolB_neq, pickV_true, pickV_false, lenSl_slice, ptr_at, fwdP_at, ixArr_at, load1_own, loadA_own, storeN_own, T.get_upd_same, T.get_upd_ne, cellsIn_some, putIn_cells, tl, ts, if_pos, Nat.zero_add, Nat.mul_one, Nat.add_zero, Int.toNat_natCast, ↓reduceIte, Nat.reduceLeDiff, Nat.reduceAdd, Nat.le_refl, gp, hix, p3, p5, p7] <;> rfl) ?_ | refine newP_mk ?_ | refine optP_mk ?_ | with_reducible refine condP_t ?_ | with_reducible refine condP_f ?_ | with_reducible refine ifP_tt' ?_ | with_reducible refine ifP_ff' ?_ | with_reducible refine ifP_tf' ?_ | with_reducible refine ifP_ft' ?_ | with_reducible refine ifP_u' ?_ | refine optP_mk0 ?_))
    refine ref01_Has_c hby (hf'.mono (by omega)) fun n hn => ?_
    cases hb : (g.at (k : Int)).s.testBit by_ with
    | false =>
      (repeat (first | refine lss_t (by omega) ?_ | refine lss_f (by omega) ?_ | refine leq_t (by omega) ?_ | refine leq_f (by omega) ?_ | refine gtr_t (by omega) ?_ | refine gtr_f (by omega) ?_ | refine geq_t (by omega) ?_ | refine geq_f (by omega) ?_ | refine eql_t (by omega) ?_ | refine eql_f (by omega) ?_ | refine neq_t (by omega) ?_ | refine neq_f (by omega) ?_ | refine bindP_mk (by simp (disch := first | omega | exact Int.natCast_nonneg _ | assumption) only [decide_true, decide_false, Bool.not_true, Bool.not_false, newP_eq, optP_some, optP_none, bindP_some', condP_true, condP_false, ifP_tt, ifP_ff, ifP_tf, ifP_ft, exP_normal, exP_exit, exP_ret, beqP_true, beqP_false, Option.bind_some, Value.cells_agg, cells_int, cells_bool, intB_add, intB_sub, intB_mul, intB_quo, intB_rem, intB_shr_u64, intB_shl1_u64, intB_and64, intB_or64, intB_xor64, wr_i64, wr_u8, wr_u64, convI_int, unV_not, boolB_eql, boolB_neq, pickV_true, pickV_false, lenSl_slice, ptr_at, fwdP_at, ixArr_at, load1_own, loadA_own, storeN_own, T.get_upd_same, T.get_upd_ne, cellsIn_some, putIn_cells, tl, ts, if_pos, Nat.zero_add, Nat.mul_one, Nat.add_zero, Int.toNat_natCast, ↓reduceIte, Nat.reduceLeDiff, Nat.reduceAdd, Nat.le_refl] <;> rfl) ?_ | refine newP_mk ?_ | refine optP_mk ?_ | with_reducible refine condP_t ?_ | with_reducible refine condP_f ?_ | with_reducible refine ifP_tt' ?_ | with_reducible refine ifP_ff' ?_ | with_reducible refine ifP_tf' ?_ | with_reducible refine ifP_ft' ?_ | with_reducible refine ifP_u' ?_ | refine optP_mk0 ?_))
      refine hok _ _ _ Lv ys ?_ (hf'.mono (by omega)) e2 e3 e4 e6 e7 e8 (by omega)
      have : cntD g c by_ k = [] := by unfold cntD hasD; rw [hb]; rfl
      rw [this]
      unfold heldOf
      rw [if_pos rfl, List.append_nil]; exact hS
    | true =>
      have hcnt : cntD g c by_ k = (if entersD g c k then [1] else []) ++ staysL g k c.l := by unfold cntD hasD; rw [hb]; rfl
      have gc := hS.cfg
      have hG : RG ro h' (.agg #[a, b]) g := ⟨a, b, rfl, ha.sub hS.base, hPp⟩
      have hC : RCfg ro h' (.agg #[.bool c.b, a2]) c := ⟨a2, rfl, hl.sub hS.base (RHeld.sub hS.base)⟩
      (repeat (first | refine lss_t (by omega) ?_ | refine lss_f (by omega) ?_ | refine leq_t (by omega) ?_ | refine leq_f (by omega) ?_ | refine gtr_t (by omega) ?_ | refine gtr_f (by omega) ?_ | refine geq_t (by omega) ?_ | refine geq_f (by omega) ?_ | refine eql_t (by omega) ?_ | refine eql_f (by omega) ?_ | refine neq_t (by omega) ?_ | refine neq_f (by omega) ?_ | refine bindP_mk (by simp (disch := first | omega | exact Int.natCast_nonneg _ | assumption) only [decide_true, decide_false, Bool.not_true, Bool.not_false, newP_eq, optP_some, optP_none, bindP_some', condP_true, condP_false, ifP_tt, ifP_ff, ifP_tf, ifP_ft, exP_normal, exP_exit, exP_ret, beqP_true, beqP_false, Option.bind_some, Value.cells_agg, cells_int, cells_bool, intB_add, intB_sub, intB_mul, intB_quo, intB_rem, intB_shr_u64, intB_shl1_u64, intB_and64, intB_or64, intB_xor64, wr_i64, wr_u8, wr_u64, convI_int, unV_not, boolB_eql, boolB_neq, pickV_true, pickV_false, lenSl_slice, ptr_at, fwdP_at, ixArr_at, load1_own, loadA_own, storeN_own, T.get_upd_same, T.get_upd_ne, cellsIn_some, putIn_cells, tl, ts, if_pos, Nat.zero_add, Nat.mul_one, Nat.add_zero, Int.toNat_natCast, ↓reduceIte, Nat.reduceLeDiff, Nat.reduceAdd, Nat.le_refl] <;> rfl) ?_ | refine newP_mk ?_ | refine optP_mk ?_ | with_reducible refine condP_t ?_ | with_reducible refine condP_f ?_ | with_reducible refine ifP_tt' ?_ | with_reducible refine ifP_ff' ?_ | with_reducible refine ifP_tf' ?_ | with_reducible refine ifP_ft' ?_ | with_reducible refine ifP_u' ?_ | refine optP_mk0 ?_))
      refine bindP_mk (loadA_all (l := [a, b]) gp rfl) ?_
      refine bindP_mk (loadA_all (l := [.bool c.b, a2]) gc rfl) ?_
      refine ref10_enters_c hr hft (hf'.mono (by omega)) hG hC fun n2 hn2 => ?_
      obtain ⟨i, z1, z2, z3⟩ := tin_int
      obtain ⟨i2, t1, t2, t3⟩ := tin_held
      have hyl : ys.length ≤ g.p.length := by rw [hS.els.1]; have := stepK_len g c by_ k; omega
      -- what stands behind the first count
      have hj3 : ∀ (e' : Env) h5 n5 (ev : Value) (E : List Int), Sub h' h5 → Fr h5 n5 → OwnT h5 ev 1 y_int (intsZ E) (nx + 5) → (∀ id, sblk ev = some id → h'.get id = none) → E.length ≤ 1 → E ++ staysL g k c.l = cntD g c by_ k → e' 2 = .int .u8 (by_ : Int) → e' 3 = ptr nx → e' 4 = ptr (nx + 1) → e' 6 = ptr (nx + 2) → e' 7 = ptr (nx + 4) → e' 8 = .int .i64 k → e' 9 = ev → nx' ≤ n5 → ref10_step_j3 ro Q' e' h5 n5 := by
        intro e' h5 n5 ev E s1 s2 s3 s4 s5 s6 f2 f3 f4 f6 f7 f8 f9 hn5
        unfold ref10_step_j3
        rw [f3, f4, f7, f8, f9]
        refine bindP_mk (loadA_all (l := [a, b]) (s1 _ _ gp) rfl) ?_
        refine bindP_mk (loadA_all (l := [.bool c.b, a2]) (s1 _ _ gc) rfl) ?_
        refine ref10_stays_c hr hft (by omega) (by omega) (s2.mono (by omega)) (hG.sub s1) (hC.sub s1) fun r6 h6 n6 hn6 q1 q2 q3 => ?_
        have hsl : (staysL g (k : Int) c.l).length ≤ 2500000 := by
          have h1 := stays_len (g := g) (q := (k : Int)) (l := c.l) fun x hx => held_all hr hft x hx
          have h3 : c.l.length * 4096 ≤ 512 * 4096 := Nat.mul_le_mul_right _ (by omega)
          omega
        obtain ⟨r7, h7, n7, y1, y2, y3, y4, y5, y6⟩ := append_any (P := Try.prog) (t := y_s_int) (nx := n6 + 1) (lo := nx + 5) (s3.keepS q1) (q3.sl (ro := ro)) und_ints z1 z2 (by omega) zer_int rfl (flat_ints_ok _) (by rw [intsZ_len, intsZ_len, z3]; unfold big; omega) (by rw [intsZ_len, intsZ_len]; unfold big; omega) (by omega) (q2.mono (by omega))
        have hcat : intsZ E ++ intsZ (staysL g k c.l) = intsZ (cntD g c by_ k) := by rw [← s6]; simp [intsZ]
        rw [hcat] at y2
        refine bindP_mk y1 ?_
        dsimp only
        have s67 : Sub h' h7 := fun i o hi => y3 i o (q1 _ _ (s1 _ _ hi)) fun hv => by rw [s4 _ hv] at hi; cases hi
        have hS7 := hS.sub s67
        have gO := hS7.out
        have hlr := (y2.sl (ro := ro)).len
        rw [intsZ_len] at hlr
        refine bindP_mk hlr ?_
        refine gtr_s (fun hgt => ?_) (fun hgt => ?_)
        · have hne : cntD g c by_ k ≠ [] := fun h => by rw [h] at hgt; simp at hgt
          (repeat (first | refine lss_t (by omega) ?_ | refine lss_f (by omega) ?_ | refine leq_t (by omega) ?_ | refine leq_f (by omega) ?_ | refine gtr_t (by omega) ?_ | refine gtr_f (by omega) ?_ | refine geq_t (by omega) ?_ | refine geq_f (by omega) ?_ | refine eql_t (by omega) ?_ | refine eql_f (by omega) ?_ | refine neq_t (by omega) ?_ | refine neq_f (by omega) ?_ | refine bindP_mk (by simp (disch := first | omega | exact Int.natCast_nonneg _ | assumption) only [decide_true, decide_false, Bool.not_true, Bool.not_false, newP_eq, optP_some, optP_none, bindP_some', condP_true, condP_false, ifP_tt, ifP_ff, ifP_tf, ifP_ft, exP_normal, exP_exit, exP_ret, beqP_true, beqP_false, Option.bind_some, Value.cells_agg, cells_int, cells_bool, intB_add, intB_sub, intB_mul, intB_quo, intB_rem, intB_shr_u64, intB_shl1_u64, intB_and64, intB_or64, intB_xor64, wr_i64, wr_u8, wr_u64, convI_int, unV_not, boolB_eql, boolB_neq, pickV_true, pickV_false, lenSl_slice, ptr_at, fwdP_at, ixArr_at, load1_own, loadA_own, storeN_own, T.get_upd_same, T.get_upd_ne, cellsIn_some, putIn_cells, tl, ts, if_pos, Nat.zero_add, Nat.mul_one, Nat.add_zero, Int.toNat_natCast, ↓reduceIte, Nat.reduceLeDiff, Nat.reduceAdd, Nat.le_refl, gO] <;> rfl) ?_ | refine newP_mk ?_ | refine optP_mk ?_ | with_reducible refine condP_t ?_ | with_reducible refine condP_f ?_ | with_reducible refine ifP_tt' ?_ | with_reducible refine ifP_ff' ?_ | with_reducible refine ifP_tf' ?_ | with_reducible refine ifP_ft' ?_ | with_reducible refine ifP_u' ?_ | refine optP_mk0 ?_))
          refine bindP_mk (build_held _ _ y2.one.1 rfl) ?_
          refine append_lit (P := Try.prog) (z := 2) (e := y_api_Held) (i := i2) (l := ys) (nx := n7) (n1 := n7 + 9) (n2 := n7 + 11) (lo := nx + 5) (lit_held _ _ _) rfl hS7.own und_helds t1 t2 (by omega) zer_Held rfl (held_ok y2.one.2) (by rw [t3]; unfold big; omega) (by unfold big; omega) y5 (by omega) (by omega) (by omega) fun h8 u1 u2 u3 => ?_
          dsimp only
          have hlo : ∀ i o, h7.get i = some o → i < nx + 5 → h8.get i = some o := fun i o hi hlt => u2 i o hi (hS7.own.lt hlt)
          have gO8 := hlo _ _ gO (by omega)
          have hkeep : ∀ w l, OwnT h7 w 1 y_int l (nx + 5) → OwnT h8 w 1 y_int l (nx + 5) := fun w l ho => ho.keep u2 fun id hid hL' => by
            rcases ho with ⟨rfl, _⟩ | ⟨id', _, rfl, _, g5⟩
            · cases hid
            · have : id' = id := Option.some.inj hid
              subst this
              exact hS7.own.ne g5 tyne.1 hL'
          (repeat (first | refine lss_t (by omega) ?_ | refine lss_f (by omega) ?_ | refine leq_t (by omega) ?_ | refine leq_f (by omega) ?_ | refine gtr_t (by omega) ?_ | refine gtr_f (by omega) ?_ | refine geq_t (by omega) ?_ | refine geq_f (by omega) ?_ | refine eql_t (by omega) ?_ | refine eql_f (by omega) ?_ | refine neq_t (by omega) ?_ | refine neq_f (by omega) ?_ | refine bindP_mk (by simp (disch := first | omega | exact Int.natCast_nonneg _ | assumption) only [decide_true, decide_false, Bool.not_true, Bool.not_false, newP_eq, optP_some, optP_none, bindP_some', condP_true, condP_false, ifP_tt, ifP_ff, ifP_tf, ifP_ft, exP_normal, exP_exit, exP_ret, beqP_true, beqP_false, Option.bind_some, Value.cells_agg, cells_int, cells_bool, intB_add, intB_sub, intB_mul, intB_quo, intB_rem, intB_shr_u64, intB_shl1_u64, intB_and64, intB_or64, intB_xor64, wr_i64, wr_u8, wr_u64, convI_int, unV_not, boolB_eql, boolB_neq, pickV_true, pickV_false, lenSl_slice, ptr_at, fwdP_at, ixArr_at, load1_own, loadA_own, storeN_own, T.get_upd_same, T.get_upd_ne, cellsIn_some, putIn_cells, tl, ts, if_pos, Nat.zero_add, Nat.mul_one, Nat.add_zero, Int.toNat_natCast, ↓reduceIte, Nat.reduceLeDiff, Nat.reduceAdd, Nat.le_refl] <;> rfl) ?_ | refine newP_mk ?_ | refine optP_mk ?_ | with_reducible refine condP_t ?_ | with_reducible refine condP_f ?_ | with_reducible refine ifP_tt' ?_ | with_reducible refine ifP_ff' ?_ | with_reducible refine ifP_tf' ?_ | with_reducible refine ifP_ft' ?_ | with_reducible refine ifP_u' ?_ | refine optP_mk0 ?_))
          refine bindP_mk (store1_own (l := [.bool false, Lv]) gO8 (by simp) rfl rfl) ?_
          have hoff : ∀ i, i ≠ nx + 4 → (h8.upd (nx + 4) (some (.cells ([Value.bool false, Lv].set (0 + 1) (.slice (some (V.own (n7 + 11) 2)) (ys ++ [[.int .i64 (k : Int), r7]]).length (ys ++ [[.int .i64 (k : Int), r7]]).length)).toArray y_api_Config))).get i = h8.get i := fun i hi => T.get_upd_ne _ _ hi
          refine hok _ _ _ _ _ ⟨fun i o hi => ?_, ?_, ?_, ?_, by rw [T.get_upd_same]; rfl, u1.off hoff gO8 tyne.2.2.1, ?_⟩ ((u3.mono (by omega)).upd (Nat.le_refl _) (by omega)) f2 f3 f4 f6 f7 f8 (by omega)
          · have := hf.lt' hi
            rw [hoff i (by omega)]
            exact hlo _ _ (hS7.base _ _ hi) (by omega)
          · rw [hoff _ (by omega)]; exact hlo _ _ hS7.places (by omega)
          · rw [hoff _ (by omega)]; exact hlo _ _ hS7.cfg (by omega)
          · rw [hoff _ (by omega)]; exact hlo _ _ hS7.res (by omega)
          · unfold heldOf
            rw [if_neg hne]
            exact ((hS7.els.imp hkeep).snoc (d := ⟨k, cntD g c by_ k⟩) (hkeep _ _ y2)).imp fun w l ho => ho.off hoff gO8 tyne.2.2.2.1
        · have hem : cntD g c by_ k = [] := eq_len (by omega)
          (repeat (first | refine lss_t (by omega) ?_ | refine lss_f (by omega) ?_ | refine leq_t (by omega) ?_ | refine leq_f (by omega) ?_ | refine gtr_t (by omega) ?_ | refine gtr_f (by omega) ?_ | refine geq_t (by omega) ?_ | refine geq_f (by omega) ?_ | refine eql_t (by omega) ?_ | refine eql_f (by omega) ?_ | refine neq_t (by omega) ?_ | refine neq_f (by omega) ?_ | refine bindP_mk (by simp (disch := first | omega | exact Int.natCast_nonneg _ | assumption) only [decide_true, decide_false, Bool.not_true, Bool.not_false, newP_eq, optP_some, optP_none, bindP_some', condP_true, condP_false, ifP_tt, ifP_ff, ifP_tf, ifP_ft, exP_normal, exP_exit, exP_ret, beqP_true, beqP_false, Option.bind_some, Value.cells_agg, cells_int, cells_bool, intB_add, intB_sub, intB_mul, intB_quo, intB_rem, intB_shr_u64, intB_shl1_u64, intB_and64, intB_or64, intB_xor64, wr_i64, wr_u8, wr_u64, convI_int, unV_not, boolB_eql, boolB_neq, pickV_true, pickV_false, lenSl_slice, ptr_at, fwdP_at, ixArr_at, load1_own, loadA_own, storeN_own, T.get_upd_same, T.get_upd_ne, cellsIn_some, putIn_cells, tl, ts, if_pos, Nat.zero_add, Nat.mul_one, Nat.add_zero, Int.toNat_natCast, ↓reduceIte, Nat.reduceLeDiff, Nat.reduceAdd, Nat.le_refl] <;> rfl) ?_ | refine newP_mk ?_ | refine optP_mk ?_ | with_reducible refine condP_t ?_ | with_reducible refine condP_f ?_ | with_reducible refine ifP_tt' ?_ | with_reducible refine ifP_ff' ?_ | with_reducible refine ifP_tf' ?_ | with_reducible refine ifP_ft' ?_ | with_reducible refine ifP_u' ?_ | refine optP_mk0 ?_))
          refine hok _ _ _ Lv ys ?_ (y5.mono (by omega)) f2 f3 f4 f6 f7 f8 (by omega)
          unfold heldOf
          rw [if_pos hem, List.append_nil]; exact hS7
      cases hen : entersD g c (k : Int) with
      | true =>
        (repeat (first | refine lss_t (by omega) ?_ | refine lss_f (by omega) ?_ | refine leq_t (by omega) ?_ | refine leq_f (by omega) ?_ | refine gtr_t (by omega) ?_ | refine gtr_f (by omega) ?_ | refine geq_t (by omega) ?_ | refine geq_f (by omega) ?_ | refine eql_t (by omega) ?_ | refine eql_f (by omega) ?_ | refine neq_t (by omega) ?_ | refine neq_f (by omega) ?_ | refine bindP_mk (by simp (disch := first | omega | exact Int.natCast_nonneg _ | assumption) only [decide_true, decide_false, Bool.not_true, Bool.not_false, newP_eq, optP_some, optP_none, bindP_some', condP_true, condP_false, ifP_tt, ifP_ff, ifP_tf, ifP_ft, exP_normal, exP_exit, exP_ret, beqP_true, beqP_false, Option.bind_some, Value.cells_agg, cells_int, cells_bool, intB_add, intB_sub, intB_mul, intB_quo, intB_rem, intB_shr_u64, intB_shl1_u64, intB_and64, intB_or64, intB_xor64, wr_i64, wr_u8, wr_u64, convI_int, unV_not, boolB_eql, boolB_neq, pickV_true, pickV_false, lenSl_slice, ptr_at, fwdP_at, ixArr_at, load1_own, loadA_own, storeN_own, T.get_upd_same, T.get_upd_ne, cellsIn_some, putIn_cells, tl, ts, if_pos, Nat.zero_add, Nat.mul_one, Nat.add_zero, Int.toNat_natCast, ↓reduceIte, Nat.reduceLeDiff, Nat.reduceAdd, Nat.le_refl] <;> rfl) ?_ | refine newP_mk ?_ | refine optP_mk ?_ | with_reducible refine condP_t ?_ | with_reducible refine condP_f ?_ | with_reducible refine ifP_tt' ?_ | with_reducible refine ifP_ff' ?_ | with_reducible refine ifP_tf' ?_ | with_reducible refine ifP_ft' ?_ | with_reducible refine ifP_u' ?_ | refine optP_mk0 ?_))
        refine append_lit (P := Try.prog) (z := 1) (e := y_int) (i := i) (l := []) (nx := nx') (n1 := n2 + 1) (n2 := n2 + 3) (lo := nx + 5) (lit_i64' _ _) rfl OwnT.nil und_ints z1 z2 (by omega) zer_int rfl rfl (by rw [z3]; decide) (by decide) hf' (by omega) (by omega) (by omega) fun h5 u1 u2 u3 => ?_
        dsimp only
        refine hj3 _ _ _ (.slice (some (V.own (n2 + 3) 1)) 1 1) [1] (fun i o hi => u2 i o hi (by intro h; cases h)) (u3.mono (by omega)) (by simpa [intsZ] using u1) (fun id hid => ?_) (by simp) (by rw [hcnt, hen]; rfl) e2 e3 e4 e6 e7 e8 rfl (by omega)
        have : n2 + 3 = id := Option.some.inj hid
        subst this
        exact hf' _ (by omega)
      | false =>
        (repeat (first | refine lss_t (by omega) ?_ | refine lss_f (by omega) ?_ | refine leq_t (by omega) ?_ | refine leq_f (by omega) ?_ | refine gtr_t (by omega) ?_ | refine gtr_f (by omega) ?_ | refine geq_t (by omega) ?_ | refine geq_f (by omega) ?_ | refine eql_t (by omega) ?_ | refine eql_f (by omega) ?_ | refine neq_t (by omega) ?_ | refine neq_f (by omega) ?_ | refine bindP_mk (by simp (disch := first | omega | exact Int.natCast_nonneg _ | assumption) only [decide_true, decide_false, Bool.not_true, Bool.not_false, newP_eq, optP_some, optP_none, bindP_some', condP_true, condP_false, ifP_tt, ifP_ff, ifP_tf, ifP_ft, exP_normal, exP_exit, exP_ret, beqP_true, beqP_false, Option.bind_some, Value.cells_agg, cells_int, cells_bool, intB_add, intB_sub, intB_mul, intB_quo, intB_rem, intB_shr_u64, intB_shl1_u64, intB_and64, intB_or64, intB_xor64, wr_i64, wr_u8, wr_u64, convI_int, unV_not, boolB_eql, boolB_neq, pickV_true, pickV_false, lenSl_slice, ptr_at, fwdP_at, ixArr_at, load1_own, loadA_own, storeN_own, T.get_upd_same, T.get_upd_ne, cellsIn_some, putIn_cells, tl, ts, if_pos, Nat.zero_add, Nat.mul_one, Nat.add_zero, Int.toNat_natCast, ↓reduceIte, Nat.reduceLeDiff, Nat.reduceAdd, Nat.le_refl] <;> rfl) ?_ | refine newP_mk ?_ | refine optP_mk ?_ | with_reducible refine condP_t ?_ | with_reducible refine condP_f ?_ | with_reducible refine ifP_tt' ?_ | with_reducible refine ifP_ff' ?_ | with_reducible refine ifP_tf' ?_ | with_reducible refine ifP_ft' ?_ | with_reducible refine ifP_u' ?_ | refine optP_mk0 ?_))
        exact hj3 _ _ _ (.slice none 0 0) [] (Sub.refl _) (hf'.mono (by omega)) OwnT.nil (fun id hid => by cases hid) (by simp) (by rw [hcnt, hen]; rfl) e2 e3 e4 e6 e7 e8 rfl (by omega)
  · (repeat (first | refine lss_t (by omega) ?_ | refine lss_f (by omega) ?_ | refine leq_t (by omega) ?_ | refine leq_f (by omega) ?_ | refine gtr_t (by omega) ?_ | refine gtr_f (by omega) ?_ | refine geq_t (by omega) ?_ | refine geq_f (by omega) ?_ | refine eql_t (by omega) ?_ | refine eql_f (by omega) ?_ | refine neq_t (by omega) ?_ | refine neq_f (by omega) ?_ | refine bindP_mk (by simp (disch := first | omega | exact Int.natCast_nonneg _ | assumption) only [decide_true, decide_false, Bool.not_true, Bool.not_false, newP_eq, optP_some, optP_none, bindP_some', condP_true, condP_false, ifP_tt, ifP_ff, ifP_tf, ifP_ft, exP_normal, exP_exit, exP_ret, beqP_true, beqP_false, Option.bind_some, Value.cells_agg, cells_int, cells_bool, intB_add, intB_sub, intB_mul, intB_quo, intB_rem, intB_shr_u64, intB_shl1_u64, intB_and64, intB_or64, intB_xor64, wr_i64, wr_u8, wr_u64, convI_int, unV_not, boolB_eql, boolB_neq, pickV_true, pickV_false, lenSl_slice, ptr_at, fwdP_at, ixArr_at, load1_own, loadA_own, storeN_own, T.get_upd_same, T.get_upd_ne, cellsIn_some, putIn_cells, tl, ts, if_pos, Nat.zero_add, Nat.mul_one, Nat.add_zero, Int.toNat_natCast, ↓reduceIte, Nat.reduceLeDiff, Nat.reduceAdd, Nat.le_refl] <;> rfl) ?_ | refine newP_mk ?_ | refine optP_mk ?_ | with_reducible refine condP_t ?_ | with_reducible refine condP_f ?_ | with_reducible refine ifP_tt' ?_ | with_reducible refine ifP_ff' ?_ | with_reducible refine ifP_tf' ?_ | with_reducible refine ifP_ft' ?_ | with_reducible refine ifP_u' ?_ | refine optP_mk0 ?_))
    refine hx _ _ _ _ (fun e => by cases e) (exP_e (beqP_t ?_))
    have hkm : k = g.p.length := by omega
    subst hkm
    exact ref10_step_end hf (hf'.mono (by omega)) (by omega) hS e6 e7 fun r h5 n5 hn5 q1 q2 q3 => hK r h5 n5 (by omega) q1 q2 fun h6 h6k => by
      have := q3 h6 fun k hk => h6k k (by omega)
      unfold stepD
      exact this
end V
end Go.Proofs.Ytepbdkfkfcckoaa
