/- What nca's step hands back: what stays.
   No condition. -/
import Derived.Test.YtepbdkfkfcckoaaNI
set_option linter.unusedVariables false
set_option linter.unusedSimpArgs false
namespace Go.Proofs.Ytepbdkfkfcckoaa
namespace V
open PA
attribute [local irreducible] bindP ifP condP newP optP exP beqP
theorem upD_len (hi : Int) (l : List Int) : (upD hi l).length ≤ l.length := by
  unfold upD
  rw [List.length_map]; exact List.length_filter_le _ _
theorem stays_len {g : GlD} {q : Int} : ∀ {l : List HeldD}, (∀ x ∈ l, x.n.length ≤ 4096) → (staysL g q l).length ≤ l.length * 4096
  | [], _ => by simp [staysL]
  | d :: r, h => by
    have h1 := stays_len (g := g) (q := q) (l := r) fun x hx => h x (by simp [hx])
    have h2 := h d (by simp)
    have e : staysL g q (d :: r) = (if d.p = q then upD (g.at q).hi d.n else []) ++ staysL g q r := by simp [staysL]
    rw [e, List.length_append, List.length_cons, Nat.add_mul]
    have h3 := upD_len (g.at q).hi d.n
    by_cases e : d.p = q
    · rw [if_pos e]; omega
    · rw [if_neg e, List.length_nil]; omega
theorem held_all {g : GlD} {c : CfgD} (hg : rightD g = true) (hc : fitsD g c = true) : ∀ x ∈ c.l, x.n.length ≤ 4096 := fun x hx => by
  obtain ⟨k, hk, rfl⟩ := List.getElem_of_mem hx
  exact held_len hg hc hk
theorem st_len {g : GlD} {c : CfgD} {b : Nat} {E : List Int} {k : Nat} {cs : List (List Int)} (hg : rightD g = true) (hc : fitsD g c = true) (h : StI g b E (c.l.take k) cs) {q : Nat} (hq : q < g.p.length) : (cs.getD q []).length ≤ 3000000 := by
  rw [h.2 q hq]
  have h1 := stays_len (g := g) (q := q) (l := c.l.take k) fun x hx => held_all hg hc x (List.mem_of_mem_take hx)
  have h2 : (c.l.take k).length ≤ 512 := by
    have := fits_len hc
    have := right_len hg
    rw [List.length_take]; omega
  have h3 : (c.l.take k).length * 4096 ≤ 512 * 4096 := Nat.mul_le_mul_right _ h2
  by_cases hh : hasD g b q = true
  · rw [if_pos hh, List.length_append]
    by_cases he : E.contains (q : Int) = true
    · rw [if_pos he]; simp; omega
    · rw [if_neg he]; simp; omega
  · rw [if_neg hh]; simp
set_option maxRecDepth 4000 in
theorem nca_step_stay {ro : Ro} {g : GlD} {c : CfgD} {n0 by_ : Nat} {a b a2 : Value} {cs : List (List Int)} {E : List Int} (hr : rightD g = true) (hft : fitsD g c = true) (hby : by_ < 256) {h0 h : T Obj} {e : Env} {nx : Nat} {K : KV} (hf0 : Fr h0 n0) (hf : Fr h nx) (hn0 : n0 + 9 ≤ nx) (hS : SI h0 n0 a b a2 c.b by_ g.p.length h cs)
    (hSt : StI g by_ E [] cs) (hP : SlR ro h0 b 9 (RPos ro h0) g.p) (hl : SlR ro h0 a2 2 (RHeld ro h0) c.l) (e3 : e 3 = ptr n0) (e4 : e 4 = ptr (n0 + 1)) (e5 : e 5 = ptr (n0 + 2)) (e6 : e 6 = ptr (n0 + 3)) (e7 : e 7 = ptr (n0 + 8))
    (hK : ∀ r h' nx' cs', nx ≤ nx' → Sub h0 h' → Fr h' nx' → StI g by_ E c.l cs' → RCfgS ro h' r ⟨false, outL cs' g.p.length⟩ (n0 + 9) → K r h' nx') : nca_step_j2 ro K e h nx := by
  unfold nca_step_j2
  have hlen := right_len hr
  have hlen2 := fits_len hft
  have gc := hS.cfg
  have hll := hl.len
  rw [e4]
  (repeat (first | refine lss_t (by omega) ?_ | refine lss_f (by omega) ?_ | refine leq_t (by omega) ?_ | refine leq_f (by omega) ?_ | refine gtr_t (by omega) ?_ | refine gtr_f (by omega) ?_ | refine geq_t (by omega) ?_ | refine geq_f (by omega) ?_ | refine eql_t (by omega) ?_ | refine eql_f (by omega) ?_ | refine neq_t (by omega) ?_ | refine neq_f (by omega) ?_ | refine bindP_mk (by simp (disch := first | omega | exact Int.natCast_nonneg _ | assumption) only [decide_true, decide_false, Bool.not_true, Bool.not_false, newP_eq, optP_some, optP_none, bindP_some', condP_true, condP_false, ifP_tt, ifP_ff, ifP_tf, ifP_ft, exP_normal, exP_exit, exP_ret, beqP_true, beqP_false, Option.bind_some, Value.cells_agg, cells_int, cells_bool, intB_add, intB_sub, intB_mul, intB_quo, intB_rem, intB_shr_u64, intB_shl1_u64, intB_and64, intB_or64, intB_xor64, wr_i64, wr_u8, wr_u64, convI_int, unV_not, boolB_eql, boolB_neq, pickV_true, pickV_false, lenSl_slice, ptr_at, fwdP_at, ixArr_at, load1_own, loadA_own, storeN_own, T.get_upd_same, T.get_upd_ne, cellsIn_some, putIn_cells, tl, ts, if_pos, Nat.zero_add, Nat.mul_one, Nat.add_zero, Int.toNat_natCast, ↓reduceIte, Nat.reduceLeDiff, Nat.reduceAdd, Nat.le_refl, gc, hll] <;> rfl) ?_ | refine newP_mk ?_ | refine optP_mk ?_ | with_reducible refine condP_t ?_ | with_reducible refine condP_f ?_ | with_reducible refine ifP_tt' ?_ | with_reducible refine ifP_ff' ?_ | with_reducible refine ifP_tf' ?_ | with_reducible refine ifP_ft' ?_ | with_reducible refine ifP_u' ?_ | refine optP_mk0 ?_))
  refine loopP_rule (fun j e' h' nx' => ∃ (k : Nat) (cs' : List (List Int)), k + j = c.l.length ∧ nx + 1 ≤ nx' ∧ SI h0 n0 a b a2 c.b by_ g.p.length h' cs' ∧ Fr h' nx' ∧ StI g by_ E (c.l.take k) cs' ∧ e' 3 = ptr n0 ∧ e' 5 = ptr (n0 + 2) ∧ e' 6 = ptr (n0 + 3) ∧ e' 7 = ptr (n0 + 8) ∧ e' 50 = a2 ∧ e' 51 = .int .i64 c.l.length ∧ e' 52 = .int .i64 k) ?_ (n := c.l.length)
    ⟨0, cs, by omega, by omega, hS, hf.mono (by omega), hSt, e3, e5, e6, e7, rfl, rfl, rfl⟩
  rintro j e' h' nx' ⟨k, cs', hj, hnx, hS', hf', hSt', f3, f5, f6, f7, f50, f51, f52⟩ Q' hq hx
  unfold nca_step_L2
  rw [f3, f5, f50, f51, f52]
  refine lss_s (fun hk => ?_) (fun hk => ?_)
  · have hk : k < c.l.length := by omega
    have hin := fits_at hft hk
    have hdl := held_len hr hft hk
    have htk : c.l.take (k + 1) = c.l.take k ++ [c.l[k]] := List.take_succ_eq_append_getElem hk
    obtain ⟨x, ⟨nv, rfl, hn0'⟩, hx2, hx3, hx4, hx5⟩ := (hl.sub hS'.base fun _ _ h => h).at hk
    have hix := hl.ix .i64 hk
    generalize c.l[k] = d at hx2 hx3 hx5 hn0' hin hdl htk
    obtain ⟨i1, i2, i3, i4⟩ := hin
    have hmay := may_spec (right_at hr i1 i2)
    have hn1 := hn0'.sub hS'.base
    (repeat (first | refine lss_t (by omega) ?_ | refine lss_f (by omega) ?_ | refine leq_t (by omega) ?_ | refine leq_f (by omega) ?_ | refine gtr_t (by omega) ?_ | refine gtr_f (by omega) ?_ | refine geq_t (by omega) ?_ | refine geq_f (by omega) ?_ | refine eql_t (by omega) ?_ | refine eql_f (by omega) ?_ | refine neq_t (by omega) ?_ | refine neq_f (by omega) ?_ | refine bindP_mk (by simp (disch := first | omega | exact Int.natCast_nonneg _ | assumption) only [decide_true, decide_false, Bool.not_true, Bool.not_false, newP_eq, optP_some, optP_none, bindP_some', condP_true, condP_false, ifP_tt, ifP_ff, ifP_tf, ifP_ft, exP_normal, exP_exit, exP_ret, beqP_true, beqP_false, Option.bind_some, Value.cells_agg, cells_int, cells_bool, intB_add, intB_sub, intB_mul, intB_quo, intB_rem, intB_shr_u64, intB_shl1_u64, intB_and64, intB_or64, intB_xor64, wr_i64, wr_u8, wr_u64, convI_int, unV_not, boolB_eql, boolB_neq, pickV_true, pickV_false, lenSl_slice, ptr_at, fwdP_at, ixArr_at, load1_own, loadA_own, storeN_own, T.get_upd_same, T.get_upd_ne, cellsIn_some, putIn_cells, tl, ts, if_pos, Nat.zero_add, Nat.mul_one, Nat.add_zero, Int.toNat_natCast, ↓reduceIte, Nat.reduceLeDiff, Nat.reduceAdd, Nat.le_refl, hix, hx3] <;> rfl) ?_ | refine newP_mk ?_ | refine optP_mk ?_ | with_reducible refine condP_t ?_ | with_reducible refine condP_f ?_ | with_reducible refine ifP_tt' ?_ | with_reducible refine ifP_ff' ?_ | with_reducible refine ifP_tf' ?_ | with_reducible refine ifP_ft' ?_ | with_reducible refine ifP_u' ?_ | refine optP_mk0 ?_))
    refine local_mk zer_Held rfl rfl rfl (held_ok hn1.ok) hf' (by omega) fun h3 hs3 hf3 g3 _ => ?_
    have hS3 := hS'.sub hs3
    have hP3 := hP.sub hS3.base (RPos.sub hS3.base)
    obtain ⟨pv, q1, q2, p3, p4, p5, p6⟩ := P_at hP3 (i := d.p) i1 i2
    have p7 := P_set hP3 i1 i2
    have gp := hS3.places
    have gb := hS3.byte
    have hok : ∀ (e2 : Env) h2 n cs2, SI h0 n0 a b a2 c.b by_ g.p.length h2 cs2 → Fr h2 n → StI g by_ E (c.l.take (k + 1)) cs2 → e2 3 = ptr n0 → e2 5 = ptr (n0 + 2) → e2 6 = ptr (n0 + 3) → e2 7 = ptr (n0 + 8) → e2 50 = a2 → e2 51 = .int .i64 c.l.length → e2 52 = .int .i64 k → nx + 1 ≤ n → nca_step_j6 ro Q' e2 h2 n := by
      intro e2 h2 n cs2 s1 s2 s3 t3 t5 t6 t7 t50 t51 t52 hn
      unfold nca_step_j6
      rw [t52]
      (repeat (first | refine lss_t (by omega) ?_ | refine lss_f (by omega) ?_ | refine leq_t (by omega) ?_ | refine leq_f (by omega) ?_ | refine gtr_t (by omega) ?_ | refine gtr_f (by omega) ?_ | refine geq_t (by omega) ?_ | refine geq_f (by omega) ?_ | refine eql_t (by omega) ?_ | refine eql_f (by omega) ?_ | refine neq_t (by omega) ?_ | refine neq_f (by omega) ?_ | refine bindP_mk (by simp (disch := first | omega | exact Int.natCast_nonneg _ | assumption) only [decide_true, decide_false, Bool.not_true, Bool.not_false, newP_eq, optP_some, optP_none, bindP_some', condP_true, condP_false, ifP_tt, ifP_ff, ifP_tf, ifP_ft, exP_normal, exP_exit, exP_ret, beqP_true, beqP_false, Option.bind_some, Value.cells_agg, cells_int, cells_bool, intB_add, intB_sub, intB_mul, intB_quo, intB_rem, intB_shr_u64, intB_shl1_u64, intB_and64, intB_or64, intB_xor64, wr_i64, wr_u8, wr_u64, convI_int, unV_not, boolB_eql, boolB_neq, pickV_true, pickV_false, lenSl_slice, ptr_at, fwdP_at, ixArr_at, load1_own, loadA_own, storeN_own, T.get_upd_same, T.get_upd_ne, cellsIn_some, putIn_cells, tl, ts, if_pos, Nat.zero_add, Nat.mul_one, Nat.add_zero, Int.toNat_natCast, ↓reduceIte, Nat.reduceLeDiff, Nat.reduceAdd, Nat.le_refl] <;> rfl) ?_ | refine newP_mk ?_ | refine optP_mk ?_ | with_reducible refine condP_t ?_ | with_reducible refine condP_f ?_ | with_reducible refine ifP_tt' ?_ | with_reducible refine ifP_ff' ?_ | with_reducible refine ifP_tf' ?_ | with_reducible refine ifP_ft' ?_ | with_reducible refine ifP_u' ?_ | refine optP_mk0 ?_))
      exact hq (j - 1) _ _ _ _ (by omega) ⟨k + 1, cs2, by omega, by omega, s1, s2.mono (by omega), s3, t3, t5, t6, t7, t50, t51, rfl⟩ (Sub.refl _)
    (repeat (first | refine lss_t (by omega) ?_ | refine lss_f (by omega) ?_ | refine leq_t (by omega) ?_ | refine leq_f (by omega) ?_ | refine gtr_t (by omega) ?_ | refine gtr_f (by omega) ?_ | refine geq_t (by omega) ?_ | refine geq_f (by omega) ?_ | refine eql_t (by omega) ?_ | refine eql_f (by omega) ?_ | refine neq_t (by omega) ?_ | refine neq_f (by omega) ?_ | refine bindP_mk (by simp (disch := first | omega | exact Int.natCast_nonneg _ | assumption) only [decide_true, decide_false, Bool.not_true, Bool.not_false, newP_eq, optP_some, optP_none, bindP_some', condP_true, condP_false, ifP_tt, ifP_ff, ifP_tf, ifP_ft, exP_normal, exP_exit, exP_ret, beqP_true, beqP_false, Option.bind_some, Value.cells_agg, cells_int, cells_bool, intB_add, intB_sub, intB_mul, intB_quo, intB_rem, intB_shr_u64, intB_shl1_u64, intB_and64, intB_or64, intB_xor64, wr_i64, wr_u8, wr_u64, convI_int, unV_not, boolB_eql, boolB_neq, pickV_true, pickV_false, lenSl_slice, ptr_at, fwdP_at, ixArr_at, load1_own, loadA_own, storeN_own, T.get_upd_same, T.get_upd_ne, cellsIn_some, putIn_cells, tl, ts, if_pos, Nat.zero_add, Nat.mul_one, Nat.add_zero, Int.toNat_natCast, ↓reduceIte, Nat.reduceLeDiff, Nat.reduceAdd, Nat.le_refl, gp, gb, g3, p3, p5, p7] <;> rfl) ?_ | refine newP_mk ?_ | refine optP_mk ?_ | with_reducible refine condP_t ?_ | with_reducible refine condP_f ?_ | with_reducible refine ifP_tt' ?_ | with_reducible refine ifP_ff' ?_ | with_reducible refine ifP_tf' ?_ | with_reducible refine ifP_ft' ?_ | with_reducible refine ifP_u' ?_ | refine optP_mk0 ?_))
    refine bset_Has_c hby (hf3.mono (by omega)) fun n hn => ?_
    cases hb : (g.at d.p).s.testBit by_ with
    | false =>
      (repeat (first | refine lss_t (by omega) ?_ | refine lss_f (by omega) ?_ | refine leq_t (by omega) ?_ | refine leq_f (by omega) ?_ | refine gtr_t (by omega) ?_ | refine gtr_f (by omega) ?_ | refine geq_t (by omega) ?_ | refine geq_f (by omega) ?_ | refine eql_t (by omega) ?_ | refine eql_f (by omega) ?_ | refine neq_t (by omega) ?_ | refine neq_f (by omega) ?_ | refine bindP_mk (by simp (disch := first | omega | exact Int.natCast_nonneg _ | assumption) only [decide_true, decide_false, Bool.not_true, Bool.not_false, newP_eq, optP_some, optP_none, bindP_some', condP_true, condP_false, ifP_tt, ifP_ff, ifP_tf, ifP_ft, exP_normal, exP_exit, exP_ret, beqP_true, beqP_false, Option.bind_some, Value.cells_agg, cells_int, cells_bool, intB_add, intB_sub, intB_mul, intB_quo, intB_rem, intB_shr_u64, intB_shl1_u64, intB_and64, intB_or64, intB_xor64, wr_i64, wr_u8, wr_u64, convI_int, unV_not, boolB_eql, boolB_neq, pickV_true, pickV_false, lenSl_slice, ptr_at, fwdP_at, ixArr_at, load1_own, loadA_own, storeN_own, T.get_upd_same, T.get_upd_ne, cellsIn_some, putIn_cells, tl, ts, if_pos, Nat.zero_add, Nat.mul_one, Nat.add_zero, Int.toNat_natCast, ↓reduceIte, Nat.reduceLeDiff, Nat.reduceAdd, Nat.le_refl] <;> rfl) ?_ | refine newP_mk ?_ | refine optP_mk ?_ | with_reducible refine condP_t ?_ | with_reducible refine condP_f ?_ | with_reducible refine ifP_tt' ?_ | with_reducible refine ifP_ff' ?_ | with_reducible refine ifP_tf' ?_ | with_reducible refine ifP_ft' ?_ | with_reducible refine ifP_u' ?_ | refine optP_mk0 ?_))
      exact hok _ _ _ cs' hS3 (hf3.mono (by omega)) (by rw [htk]; exact st_skip hSt' hb) f3 f5 f6 f7 f50 f51 f52 (by omega)
    | true =>
      have hnl := hn1.len
      have hst2 := st_step hSt' i1 i2 hb
      rw [← htk] at hst2
      have hcl : cs'.length = g.p.length := hSt'.1
      have hXl := st_len hr hft hSt' (q := d.p.toNat) (by omega)
      (repeat (first | refine lss_t (by omega) ?_ | refine lss_f (by omega) ?_ | refine leq_t (by omega) ?_ | refine leq_f (by omega) ?_ | refine gtr_t (by omega) ?_ | refine gtr_f (by omega) ?_ | refine geq_t (by omega) ?_ | refine geq_f (by omega) ?_ | refine eql_t (by omega) ?_ | refine eql_f (by omega) ?_ | refine neq_t (by omega) ?_ | refine neq_f (by omega) ?_ | refine bindP_mk (by simp (disch := first | omega | exact Int.natCast_nonneg _ | assumption) only [decide_true, decide_false, Bool.not_true, Bool.not_false, newP_eq, optP_some, optP_none, bindP_some', condP_true, condP_false, ifP_tt, ifP_ff, ifP_tf, ifP_ft, exP_normal, exP_exit, exP_ret, beqP_true, beqP_false, Option.bind_some, Value.cells_agg, cells_int, cells_bool, intB_add, intB_sub, intB_mul, intB_quo, intB_rem, intB_shr_u64, intB_shl1_u64, intB_and64, intB_or64, intB_xor64, wr_i64, wr_u8, wr_u64, convI_int, unV_not, boolB_eql, boolB_neq, pickV_true, pickV_false, lenSl_slice, ptr_at, fwdP_at, ixArr_at, load1_own, loadA_own, storeN_own, T.get_upd_same, T.get_upd_ne, cellsIn_some, putIn_cells, tl, ts, if_pos, Nat.zero_add, Nat.mul_one, Nat.add_zero, Int.toNat_natCast, ↓reduceIte, Nat.reduceLeDiff, Nat.reduceAdd, Nat.le_refl, g3, hnl] <;> rfl) ?_ | refine newP_mk ?_ | refine optP_mk ?_ | with_reducible refine condP_t ?_ | with_reducible refine condP_f ?_ | with_reducible refine ifP_tt' ?_ | with_reducible refine ifP_ff' ?_ | with_reducible refine ifP_tf' ?_ | with_reducible refine ifP_ft' ?_ | with_reducible refine ifP_u' ?_ | refine optP_mk0 ?_))
      generalize hX : cs'.getD d.p.toNat [] = X at hst2 hXl
      have hset0 : cs'.set d.p.toNat (X ++ upD (g.at d.p).hi (d.n.take 0)) = cs' := by
        rw [List.take_zero]
        have : X ++ upD (g.at d.p).hi [] = X := by simp [upD]
        rw [this, ← hX]
        apply List.ext_getElem?
        intro i
        rw [List.getElem?_set]
        by_cases e : d.p.toNat = i
        · subst e
          rw [if_pos rfl, if_pos (by omega), List.getD_eq_getElem?_getD, List.getElem?_eq_getElem (show d.p.toNat < cs'.length by omega)]; rfl
        · rw [if_neg e]
      refine loopP_rule (fun j2 e2 h2 n2 => ∃ (k2 : Nat) (cs2 : List (List Int)), k2 + j2 = d.n.length ∧ n + 4 ≤ n2 ∧ cs2 = cs'.set d.p.toNat (X ++ upD (g.at d.p).hi (d.n.take k2)) ∧ SI h0 n0 a b a2 c.b by_ g.p.length h2 cs2 ∧ Fr h2 n2 ∧ h2.get (nx' + 3) = some (.cells #[.int .i64 d.p, nv] y_api_Held) ∧ e2 3 = ptr n0 ∧ e2 5 = ptr (n0 + 2) ∧ e2 6 = ptr (n0 + 3) ∧ e2 7 = ptr (n0 + 8) ∧ e2 50 = a2 ∧ e2 51 = .int .i64 c.l.length ∧ e2 52 = .int .i64 k ∧ e2 12 = ptr (nx' + 3) ∧ e2 67 = nv ∧ e2 68 = .int .i64 d.n.length ∧ e2 69 = .int .i64 k2) ?_ (n := d.n.length)
        ⟨0, _, by omega, by omega, rfl, by rw [hset0]; exact hS3, hf3.mono (by omega), g3, f3, f5, f6, f7, f50, f51, f52, rfl, rfl, rfl, rfl⟩
      rintro j2 e2 h2 n2 ⟨k2, cs2, hj2, hn2, hcs2, hS2, hf2, gL, t3, t5, t6, t7, t50, t51, t52, t12, t67, t68, t69⟩ Q2 hq2 hx2
      unfold nca_step_L3
      rw [t3, t7, t12, t67, t68, t69]
      have hcl2 : cs2.length = g.p.length := by rw [hcs2]; simpa using hcl
      refine lss_s (fun hk2 => ?_) (fun hk2 => ?_)
      · have hk2 : k2 < d.n.length := by omega
        have hym := rz_mem i4 _ (List.getElem_mem hk2)
        have hy1 := (hn0'.sub hS2.base).load hk2
        have hyx := hn0'.ix .i64 hk2
        have htk2 : d.n.take (k2 + 1) = d.n.take k2 ++ [d.n[k2]] := List.take_succ_eq_append_getElem hk2
        generalize d.n[k2] = y at hym hy1 htk2
        have hP2 := hP.sub hS2.base (RPos.sub hS2.base)
        obtain ⟨pv2, -, -, r3, -, r5, r6⟩ := P_at hP2 (i := d.p) i1 i2
        have r7 := r6 5 _ rfl
        have gp2 := hS2.places
        have gv2 := hS2.var
        have hir := ix_row (C := n0 + 7) (n := g.p.length) (k := .i64) (i := d.p) (by omega) (by omega)
        obtain ⟨w, w1, w2, w3, w4⟩ := hS2.cell hf0 (q := d.p.toNat) (by omega)
        have hget : cs2.getD d.p.toNat [] = X ++ upD (g.at d.p).hi (d.n.take k2) := by rw [hcs2, getD_set, if_pos ⟨rfl, by omega⟩]
        rw [hget] at w1
        have hok2 : ∀ (e4 : Env) h4 n4 cs4, cs4 = cs'.set d.p.toNat (X ++ upD (g.at d.p).hi (d.n.take (k2 + 1))) → SI h0 n0 a b a2 c.b by_ g.p.length h4 cs4 → Fr h4 n4 → h4.get (nx' + 3) = some (.cells #[.int .i64 d.p, nv] y_api_Held) → e4 3 = ptr n0 → e4 5 = ptr (n0 + 2) → e4 6 = ptr (n0 + 3) → e4 7 = ptr (n0 + 8) → e4 50 = a2 → e4 51 = .int .i64 c.l.length → e4 52 = .int .i64 k → e4 12 = ptr (nx' + 3) → e4 67 = nv → e4 68 = .int .i64 d.n.length → e4 69 = .int .i64 k2 → n + 4 ≤ n4 → nca_step_j7 ro Q2 e4 h4 n4 := by
          intro e4 h4 n4 cs4 s1 s2 s3 s4 u3 u5 u6 u7 u50 u51 u52 u12 u67 u68 u69 hn4
          unfold nca_step_j7
          rw [u69]
          (repeat (first | refine lss_t (by omega) ?_ | refine lss_f (by omega) ?_ | refine leq_t (by omega) ?_ | refine leq_f (by omega) ?_ | refine gtr_t (by omega) ?_ | refine gtr_f (by omega) ?_ | refine geq_t (by omega) ?_ | refine geq_f (by omega) ?_ | refine eql_t (by omega) ?_ | refine eql_f (by omega) ?_ | refine neq_t (by omega) ?_ | refine neq_f (by omega) ?_ | refine bindP_mk (by simp (disch := first | omega | exact Int.natCast_nonneg _ | assumption) only [decide_true, decide_false, Bool.not_true, Bool.not_false, newP_eq, optP_some, optP_none, bindP_some', condP_true, condP_false, ifP_tt, ifP_ff, ifP_tf, ifP_ft, exP_normal, exP_exit, exP_ret, beqP_true, beqP_false, Option.bind_some, Value.cells_agg, cells_int, cells_bool, intB_add, intB_sub, intB_mul, intB_quo, intB_rem, intB_shr_u64, intB_shl1_u64, intB_and64, intB_or64, intB_xor64, wr_i64, wr_u8, wr_u64, convI_int, unV_not, boolB_eql, boolB_neq, pickV_true, pickV_false, lenSl_slice, ptr_at, fwdP_at, ixArr_at, load1_own, loadA_own, storeN_own, T.get_upd_same, T.get_upd_ne, cellsIn_some, putIn_cells, tl, ts, if_pos, Nat.zero_add, Nat.mul_one, Nat.add_zero, Int.toNat_natCast, ↓reduceIte, Nat.reduceLeDiff, Nat.reduceAdd, Nat.le_refl] <;> rfl) ?_ | refine newP_mk ?_ | refine optP_mk ?_ | with_reducible refine condP_t ?_ | with_reducible refine condP_f ?_ | with_reducible refine ifP_tt' ?_ | with_reducible refine ifP_ff' ?_ | with_reducible refine ifP_tf' ?_ | with_reducible refine ifP_ft' ?_ | with_reducible refine ifP_u' ?_ | refine optP_mk0 ?_))
          exact hq2 (j2 - 1) _ _ _ _ (by omega) ⟨k2 + 1, cs4, by omega, by omega, s1, s2, s3.mono (by omega), s4, u3, u5, u6, u7, u50, u51, u52, u12, u67, u68, rfl⟩ (Sub.refl _)
        (repeat (first | refine lss_t (by omega) ?_ | refine lss_f (by omega) ?_ | refine leq_t (by omega) ?_ | refine leq_f (by omega) ?_ | refine gtr_t (by omega) ?_ | refine gtr_f (by omega) ?_ | refine geq_t (by omega) ?_ | refine geq_f (by omega) ?_ | refine eql_t (by omega) ?_ | refine eql_f (by omega) ?_ | refine neq_t (by omega) ?_ | refine neq_f (by omega) ?_ | refine bindP_mk (by simp (disch := first | omega | exact Int.natCast_nonneg _ | assumption) only [decide_true, decide_false, Bool.not_true, Bool.not_false, newP_eq, optP_some, optP_none, bindP_some', condP_true, condP_false, ifP_tt, ifP_ff, ifP_tf, ifP_ft, exP_normal, exP_exit, exP_ret, beqP_true, beqP_false, Option.bind_some, Value.cells_agg, cells_int, cells_bool, intB_add, intB_sub, intB_mul, intB_quo, intB_rem, intB_shr_u64, intB_shl1_u64, intB_and64, intB_or64, intB_xor64, wr_i64, wr_u8, wr_u64, convI_int, unV_not, boolB_eql, boolB_neq, pickV_true, pickV_false, lenSl_slice, ptr_at, fwdP_at, ixArr_at, load1_own, loadA_own, storeN_own, T.get_upd_same, T.get_upd_ne, cellsIn_some, putIn_cells, tl, ts, if_pos, Nat.zero_add, Nat.mul_one, Nat.add_zero, Int.toNat_natCast, ↓reduceIte, Nat.reduceLeDiff, Nat.reduceAdd, Nat.le_refl, hyx, hy1, gp2, gL, r3, r5, r7] <;> rfl) ?_ | refine newP_mk ?_ | refine optP_mk ?_ | with_reducible refine condP_t ?_ | with_reducible refine condP_f ?_ | with_reducible refine ifP_tt' ?_ | with_reducible refine ifP_ff' ?_ | with_reducible refine ifP_tf' ?_ | with_reducible refine ifP_ft' ?_ | with_reducible refine ifP_u' ?_ | refine optP_mk0 ?_))
        refine lss_s (fun hlt => ?_) (fun hlt => ?_)
        · obtain ⟨i, z1, z2, z3⟩ := tin_int
          (repeat (first | refine lss_t (by omega) ?_ | refine lss_f (by omega) ?_ | refine leq_t (by omega) ?_ | refine leq_f (by omega) ?_ | refine gtr_t (by omega) ?_ | refine gtr_f (by omega) ?_ | refine geq_t (by omega) ?_ | refine geq_f (by omega) ?_ | refine eql_t (by omega) ?_ | refine eql_f (by omega) ?_ | refine neq_t (by omega) ?_ | refine neq_f (by omega) ?_ | refine bindP_mk (by simp (disch := first | omega | exact Int.natCast_nonneg _ | assumption) only [decide_true, decide_false, Bool.not_true, Bool.not_false, newP_eq, optP_some, optP_none, bindP_some', condP_true, condP_false, ifP_tt, ifP_ff, ifP_tf, ifP_ft, exP_normal, exP_exit, exP_ret, beqP_true, beqP_false, Option.bind_some, Value.cells_agg, cells_int, cells_bool, intB_add, intB_sub, intB_mul, intB_quo, intB_rem, intB_shr_u64, intB_shl1_u64, intB_and64, intB_or64, intB_xor64, wr_i64, wr_u8, wr_u64, convI_int, unV_not, boolB_eql, boolB_neq, pickV_true, pickV_false, lenSl_slice, ptr_at, fwdP_at, ixArr_at, load1_own, loadA_own, storeN_own, T.get_upd_same, T.get_upd_ne, cellsIn_some, putIn_cells, tl, ts, if_pos, Nat.zero_add, Nat.mul_one, Nat.add_zero, Int.toNat_natCast, ↓reduceIte, Nat.reduceLeDiff, Nat.reduceAdd, Nat.le_refl, gv2, gL, hir, w2] <;> rfl) ?_ | refine newP_mk ?_ | refine optP_mk ?_ | with_reducible refine condP_t ?_ | with_reducible refine condP_f ?_ | with_reducible refine ifP_tt' ?_ | with_reducible refine ifP_ff' ?_ | with_reducible refine ifP_tf' ?_ | with_reducible refine ifP_ft' ?_ | with_reducible refine ifP_u' ?_ | refine optP_mk0 ?_))
          have hul := upD_len (g.at d.p).hi (d.n.take k2)
          have hul2 : (d.n.take k2).length ≤ d.n.length := by rw [List.length_take]; omega
          have hlw : (intsZ (X ++ upD (g.at d.p).hi (d.n.take k2))).length ≤ 3100000 := by rw [intsZ_len, List.length_append]; omega
          refine append_lit (P := Try.prog) (z := 1) (e := y_int) (i := i) (l := intsZ (X ++ upD (g.at d.p).hi (d.n.take k2))) (nx := n2) (n1 := n2 + 23) (n2 := n2 + 27) (lo := n0 + 9) (lit_i64' _ _) rfl w1 und_ints z1 z2 (by omega) zer_int rfl rfl (by rw [z3]; unfold big; omega) (by unfold big; omega) hf2 (by omega) (by omega) (by omega) fun h4 q1 q2 q3 => ?_
          dsimp only
          have hcat : intsZ (X ++ upD (g.at d.p).hi (d.n.take k2)) ++ [[Value.int .i64 (y + 1)]] = intsZ (X ++ upD (g.at d.p).hi (d.n.take (k2 + 1))) := by
            rw [htk2, upD_snoc, if_pos hlt]; simp [intsZ]
          rw [hcat] at q1 ⊢
          have gL4 := q2 _ _ gL (w1.ne gL tyne.2.2.2.2.1)
          have gv4 := q2 _ _ gv2 (w1.lt (by omega))
          refine ⟨sameV_own (o := .cells #[.int .i64 d.p, nv] y_api_Held) (by rw [T.get_upd_ne _ _ (by omega)]; exact gL) gL4, sameV_own (o := .cells #[.slice (some (own (n0 + 7) 1)) g.p.length g.p.length] y_s_s_int) (by rw [T.get_upd_ne _ _ (by omega)]; exact gv2) gv4, ?_⟩
          (repeat (first | refine lss_t (by omega) ?_ | refine lss_f (by omega) ?_ | refine leq_t (by omega) ?_ | refine leq_f (by omega) ?_ | refine gtr_t (by omega) ?_ | refine gtr_f (by omega) ?_ | refine geq_t (by omega) ?_ | refine geq_f (by omega) ?_ | refine eql_t (by omega) ?_ | refine eql_f (by omega) ?_ | refine neq_t (by omega) ?_ | refine neq_f (by omega) ?_ | refine bindP_mk (by simp (disch := first | omega | exact Int.natCast_nonneg _ | assumption) only [decide_true, decide_false, Bool.not_true, Bool.not_false, newP_eq, optP_some, optP_none, bindP_some', condP_true, condP_false, ifP_tt, ifP_ff, ifP_tf, ifP_ft, exP_normal, exP_exit, exP_ret, beqP_true, beqP_false, Option.bind_some, Value.cells_agg, cells_int, cells_bool, intB_add, intB_sub, intB_mul, intB_quo, intB_rem, intB_shr_u64, intB_shl1_u64, intB_and64, intB_or64, intB_xor64, wr_i64, wr_u8, wr_u64, convI_int, unV_not, boolB_eql, boolB_neq, pickV_true, pickV_false, lenSl_slice, ptr_at, fwdP_at, ixArr_at, load1_own, loadA_own, storeN_own, T.get_upd_same, T.get_upd_ne, cellsIn_some, putIn_cells, tl, ts, if_pos, Nat.zero_add, Nat.mul_one, Nat.add_zero, Int.toNat_natCast, ↓reduceIte, Nat.reduceLeDiff, Nat.reduceAdd, Nat.le_refl, hir] <;> rfl) ?_ | refine newP_mk ?_ | refine optP_mk ?_ | with_reducible refine condP_t ?_ | with_reducible refine condP_f ?_ | with_reducible refine ifP_tt' ?_ | with_reducible refine ifP_ff' ?_ | with_reducible refine ifP_tf' ?_ | with_reducible refine ifP_ft' ?_ | with_reducible refine ifP_u' ?_ | refine optP_mk0 ?_))
          obtain ⟨h5, y1, y2, y3⟩ := w4 h4 (n2 + 27) _ _ (hf2 _ (by omega)) q2 q1
          refine bindP_mk y1 ?_
          refine hok2 _ _ _ _ ?_ y2 (fun i hi => ?_) ?_ t3 t5 t6 t7 t50 t51 t52 t12 t67 t68 t69 (by omega)
          · rw [hcs2, List.set_set]
          · rw [y3 i (by omega)]
            exact q3 i (by omega)
          · rw [y3 _ (by omega)]; exact gL4
        · (repeat (first | refine lss_t (by omega) ?_ | refine lss_f (by omega) ?_ | refine leq_t (by omega) ?_ | refine leq_f (by omega) ?_ | refine gtr_t (by omega) ?_ | refine gtr_f (by omega) ?_ | refine geq_t (by omega) ?_ | refine geq_f (by omega) ?_ | refine eql_t (by omega) ?_ | refine eql_f (by omega) ?_ | refine neq_t (by omega) ?_ | refine neq_f (by omega) ?_ | refine bindP_mk (by simp (disch := first | omega | exact Int.natCast_nonneg _ | assumption) only [decide_true, decide_false, Bool.not_true, Bool.not_false, newP_eq, optP_some, optP_none, bindP_some', condP_true, condP_false, ifP_tt, ifP_ff, ifP_tf, ifP_ft, exP_normal, exP_exit, exP_ret, beqP_true, beqP_false, Option.bind_some, Value.cells_agg, cells_int, cells_bool, intB_add, intB_sub, intB_mul, intB_quo, intB_rem, intB_shr_u64, intB_shl1_u64, intB_and64, intB_or64, intB_xor64, wr_i64, wr_u8, wr_u64, convI_int, unV_not, boolB_eql, boolB_neq, pickV_true, pickV_false, lenSl_slice, ptr_at, fwdP_at, ixArr_at, load1_own, loadA_own, storeN_own, T.get_upd_same, T.get_upd_ne, cellsIn_some, putIn_cells, tl, ts, if_pos, Nat.zero_add, Nat.mul_one, Nat.add_zero, Int.toNat_natCast, ↓reduceIte, Nat.reduceLeDiff, Nat.reduceAdd, Nat.le_refl] <;> rfl) ?_ | refine newP_mk ?_ | refine optP_mk ?_ | with_reducible refine condP_t ?_ | with_reducible refine condP_f ?_ | with_reducible refine ifP_tt' ?_ | with_reducible refine ifP_ff' ?_ | with_reducible refine ifP_tf' ?_ | with_reducible refine ifP_ft' ?_ | with_reducible refine ifP_u' ?_ | refine optP_mk0 ?_))
          refine hok2 _ _ _ cs2 ?_ hS2 (hf2.mono (by omega)) gL t3 t5 t6 t7 t50 t51 t52 t12 t67 t68 t69 (by omega)
          rw [hcs2, htk2, upD_snoc, if_neg (by omega), List.append_nil]
      · (repeat (first | refine lss_t (by omega) ?_ | refine lss_f (by omega) ?_ | refine leq_t (by omega) ?_ | refine leq_f (by omega) ?_ | refine gtr_t (by omega) ?_ | refine gtr_f (by omega) ?_ | refine geq_t (by omega) ?_ | refine geq_f (by omega) ?_ | refine eql_t (by omega) ?_ | refine eql_f (by omega) ?_ | refine neq_t (by omega) ?_ | refine neq_f (by omega) ?_ | refine bindP_mk (by simp (disch := first | omega | exact Int.natCast_nonneg _ | assumption) only [decide_true, decide_false, Bool.not_true, Bool.not_false, newP_eq, optP_some, optP_none, bindP_some', condP_true, condP_false, ifP_tt, ifP_ff, ifP_tf, ifP_ft, exP_normal, exP_exit, exP_ret, beqP_true, beqP_false, Option.bind_some, Value.cells_agg, cells_int, cells_bool, intB_add, intB_sub, intB_mul, intB_quo, intB_rem, intB_shr_u64, intB_shl1_u64, intB_and64, intB_or64, intB_xor64, wr_i64, wr_u8, wr_u64, convI_int, unV_not, boolB_eql, boolB_neq, pickV_true, pickV_false, lenSl_slice, ptr_at, fwdP_at, ixArr_at, load1_own, loadA_own, storeN_own, T.get_upd_same, T.get_upd_ne, cellsIn_some, putIn_cells, tl, ts, if_pos, Nat.zero_add, Nat.mul_one, Nat.add_zero, Int.toNat_natCast, ↓reduceIte, Nat.reduceLeDiff, Nat.reduceAdd, Nat.le_refl] <;> rfl) ?_ | refine newP_mk ?_ | refine optP_mk ?_ | with_reducible refine condP_t ?_ | with_reducible refine condP_f ?_ | with_reducible refine ifP_tt' ?_ | with_reducible refine ifP_ff' ?_ | with_reducible refine ifP_tf' ?_ | with_reducible refine ifP_ft' ?_ | with_reducible refine ifP_u' ?_ | refine optP_mk0 ?_))
        refine hx2 _ _ _ _ (fun e => by cases e) (exP_e (beqP_t ?_))
        rw [List.take_of_length_le (show d.n.length ≤ k2 by omega)] at hcs2
        exact hok _ _ _ cs2 hS2 (hf2.mono (by omega)) (by rw [hcs2]; exact hst2) t3 t5 t6 t7 t50 t51 t52 (by omega)
  · (repeat (first | refine lss_t (by omega) ?_ | refine lss_f (by omega) ?_ | refine leq_t (by omega) ?_ | refine leq_f (by omega) ?_ | refine gtr_t (by omega) ?_ | refine gtr_f (by omega) ?_ | refine geq_t (by omega) ?_ | refine geq_f (by omega) ?_ | refine eql_t (by omega) ?_ | refine eql_f (by omega) ?_ | refine neq_t (by omega) ?_ | refine neq_f (by omega) ?_ | refine bindP_mk (by simp (disch := first | omega | exact Int.natCast_nonneg _ | assumption) only [decide_true, decide_false, Bool.not_true, Bool.not_false, newP_eq, optP_some, optP_none, bindP_some', condP_true, condP_false, ifP_tt, ifP_ff, ifP_tf, ifP_ft, exP_normal, exP_exit, exP_ret, beqP_true, beqP_false, Option.bind_some, Value.cells_agg, cells_int, cells_bool, intB_add, intB_sub, intB_mul, intB_quo, intB_rem, intB_shr_u64, intB_shl1_u64, intB_and64, intB_or64, intB_xor64, wr_i64, wr_u8, wr_u64, convI_int, unV_not, boolB_eql, boolB_neq, pickV_true, pickV_false, lenSl_slice, ptr_at, fwdP_at, ixArr_at, load1_own, loadA_own, storeN_own, T.get_upd_same, T.get_upd_ne, cellsIn_some, putIn_cells, tl, ts, if_pos, Nat.zero_add, Nat.mul_one, Nat.add_zero, Int.toNat_natCast, ↓reduceIte, Nat.reduceLeDiff, Nat.reduceAdd, Nat.le_refl] <;> rfl) ?_ | refine newP_mk ?_ | refine optP_mk ?_ | with_reducible refine condP_t ?_ | with_reducible refine condP_f ?_ | with_reducible refine ifP_tt' ?_ | with_reducible refine ifP_ff' ?_ | with_reducible refine ifP_tf' ?_ | with_reducible refine ifP_ft' ?_ | with_reducible refine ifP_u' ?_ | refine optP_mk0 ?_))
    refine hx _ _ _ _ (fun e => by cases e) (exP_e (beqP_t ?_))
    rw [List.take_of_length_le (by omega)] at hSt'
    exact nca_step_out hSt'.1 hlen hf0 (hf'.mono (by omega)) (by omega) hS' f6 f7 fun r h2 n2 hn2 q1 q2 q3 => hK r h2 n2 cs' (by omega) q1 q2 hSt' q3
end V
end Go.Proofs.Ytepbdkfkfcckoaa
