/- What nca's step hands back: its closure.
   No condition. -/
import Derived.Test.YtepbdkfkfcckoaaNF
set_option linter.unusedVariables false
set_option linter.unusedSimpArgs false
namespace Go.Proofs.Ytepbdkfkfcckoaa
namespace V
open PA
attribute [local irreducible] bindP ifP condP newP optP exP beqP
/-- Memory while a step is done: the places' block, where one is, the byte, the result, the row, the variable that leads to it. -/
structure SI (h0 : T Obj) (n0 : Nat) (a b a2 : Value) (cb : Bool) (by_ m : Nat) (h : T Obj) (cs : List (List Int)) : Prop where
  base : Sub h0 h
  places : h.get n0 = some (.cells #[a, b] y_api_Glush)
  cfg : h.get (n0 + 1) = some (.cells #[.bool cb, a2] y_api_Config)
  byte : h.get (n0 + 2) = some (.cells #[.int .u8 (by_ : Int)] y_uint8)
  res : h.get (n0 + 3) = some (.cells #[.bool false, .slice none 0 0] y_api_Config)
  var : h.get (n0 + 8) = some (.cells #[.slice (some (own (n0 + 7) 1)) m m] y_s_s_int)
  row : RowI h (n0 + 7) cs (n0 + 9)
section
variable {h0 h h' : T Obj} {n0 m by_ : Nat} {a b a2 : Value} {cb : Bool} {cs : List (List Int)}
theorem SI.sub (hS : SI h0 n0 a b a2 cb by_ m h cs) (hs : Sub h h') : SI h0 n0 a b a2 cb by_ m h' cs :=
  ⟨hS.base.trans hs, hs _ _ hS.places, hs _ _ hS.cfg, hs _ _ hS.byte, hs _ _ hS.res, hs _ _ hS.var, hS.row.sub hs⟩
/-- What the row has in a place; and another slice put there. -/
theorem SI.cell (hf0 : Fr h0 n0) (hS : SI h0 n0 a b a2 cb by_ m h cs) {q : Nat} (hq : q < cs.length) : ∃ w, OwnT h w 1 y_int (intsZ (cs.getD q [])) (n0 + 9) ∧ (∀ ro : Ro, load1 ro h (at_ (n0 + 7) q 0) = some w) ∧ lenSl w = some (.int .i64 (cs.getD q []).length) ∧
    ∀ (h2 : T Obj) (id k : Nat) (l : List Int), h.get id = none → Kp w h h2 → OwnT h2 (.slice (some (own id 1)) k k) 1 y_int (intsZ l) (n0 + 9) → ∃ h3, storeN 1 h2 (at_ (n0 + 7) q 0) (.slice (some (own id 1)) k k) = some h3 ∧ SI h0 n0 a b a2 cb by_ m h3 (cs.set q l) ∧ ∀ k, k ≠ n0 + 7 → h3.get k = h2.get k := by
  obtain ⟨row, h1, g, g3, g4, g5⟩ := hS.row
  have hql : q < row.length := by omega
  have hv : row[q]? = some row[q] := List.getElem?_eq_getElem hql
  have ho := g4 q _ (cs[q]) hv (List.getElem?_eq_getElem hq)
  have he : cs.getD q [] = cs[q] := by simp [List.getD, List.getElem?_eq_getElem hq]
  refine ⟨row[q], by rw [he]; exact ho, fun ro => load1_get (l := row) g hv, ?_, ?_⟩
  · have := (ho.sl (ro := fun _ => none)).len
    rw [he]
    rwa [intsZ_len] at this
  intro h2 id k l hid hk hr
  obtain ⟨h3, q1, q2, q3⟩ := RowI.set h1 g g3 g4 g5 hv hk hid hr
  have hn : ∀ k, k < n0 + 9 → k ≠ n0 + 7 → ∀ o, h.get k = some o → h3.get k = some o := fun k hk1 hk2 o hk3 => by
    rw [q3 k hk2]; exact hk k o hk3 (ho.lt hk1)
  refine ⟨h3, q1, ⟨fun k o hk0 => ?_, hn _ (by omega) (by omega) _ hS.places, hn _ (by omega) (by omega) _ hS.cfg, hn _ (by omega) (by omega) _ hS.byte, hn _ (by omega) (by omega) _ hS.res, hn _ (by omega) (by omega) _ hS.var, q2⟩, q3⟩
  have := hf0.lt' hk0
  exact hn k (by omega) (by omega) _ (hS.base k o hk0)
end
theorem lit_i64' (aid : Nat) (b : Int) : sliceLitV Try.prog y_s_int aid 1 [(0, .int .i64 b)] = some (.slice (some (own aid 1)) 1 1, some (.cells #[.int .i64 b] y_int)) := by kernel_rfl
set_option maxRecDepth 4000 in
theorem nca_step_1_c {ro : Ro} {g : GlD} {v a b a2 : Value} {cb : Bool} {l E : List Int} {by_ n0 : Nat} {cs : List (List Int)} (hr : rightD g = true) (hby : by_ < 256) (hz : rz (-1) g.p.length l = true) {h0 h : T Obj} {nx : Nat} {K : KV} (hf0 : Fr h0 n0) (hf : Fr h nx) (hn0 : n0 + 9 ≤ nx)
    (hS : SI h0 n0 a b a2 cb by_ g.p.length h cs) (hE : EntI g by_ E cs) (hv : ZI ro h0 v l) (hP : SlR ro h0 b 9 (RPos ro h0) g.p)
    (hK : ∀ h' nx' cs', nx ≤ nx' → SI h0 n0 a b a2 cb by_ g.p.length h' cs' → Fr h' nx' → EntI g by_ (E ++ l) cs' → K (.tuple #[]) h' nx') :
    callP Try.prog ro i_nca_step_1 [v, ptr (n0 + 8), ptr n0, ptr (n0 + 2)] h nx K := by
  apply nca_step_1_of
  unfold nca_step_1
  have hlen := right_len hr
  have hll := rz_len hz (by omega)
  refine bindP_mk hv.len ?_
  refine loopP_rule (fun j e h' nx' => ∃ (k : Nat) (cs' : List (List Int)), k + j = l.length ∧ nx + 3 ≤ nx' ∧ SI h0 n0 a b a2 cb by_ g.p.length h' cs' ∧ Fr h' nx' ∧ EntI g by_ (E ++ l.take k) cs' ∧ e 1 = ptr (n0 + 8) ∧ e 2 = ptr n0 ∧ e 3 = ptr (n0 + 2) ∧ e 7 = v ∧ e 8 = .int .i64 l.length ∧ e 9 = .int .i64 k) ?_ (n := l.length) ⟨0, cs, by omega, by omega, hS, hf.mono (by omega), by simpa using hE, rfl, rfl, rfl, rfl, rfl, rfl⟩
  rintro j e h' nx' ⟨k, cs', hj, hnx, hS', hf', hE', e1, e2, e3, e7, e8, e9⟩ Q' hq hx
  unfold nca_step_1_L1
  rw [e1, e2, e3, e7, e8, e9]
  refine lss_s (fun hk => ?_) (fun hk => ?_)
  · have hk : k < l.length := by omega
    have hxm := rz_mem hz _ (List.getElem_mem hk)
    have hx1 := (hv.sub hS'.base).load hk
    have htk : E ++ l.take (k + 1) = (E ++ l.take k) ++ [l[k]] := by rw [List.take_succ_eq_append_getElem hk, List.append_assoc]
    generalize l[k] = q at hxm hx1 htk
    have hst := ent_step hE' (q := q) (by omega) (by omega)
    rw [← htk] at hst
    have hcl : cs'.length = g.p.length := hE'.1
    obtain ⟨w, w1, w2, w3, w4⟩ := hS'.cell hf0 (q := q.toNat) (by omega)
    have gv := hS'.var
    have gp := hS'.places
    have gb := hS'.byte
    have hir := ix_row (C := n0 + 7) (n := g.p.length) (k := .i64) (i := q) (by omega) (by omega)
    (repeat (first | refine lss_t (by omega) ?_ | refine lss_f (by omega) ?_ | refine leq_t (by omega) ?_ | refine leq_f (by omega) ?_ | refine gtr_t (by omega) ?_ | refine gtr_f (by omega) ?_ | refine geq_t (by omega) ?_ | refine geq_f (by omega) ?_ | refine eql_t (by omega) ?_ | refine eql_f (by omega) ?_ | refine neq_t (by omega) ?_ | refine neq_f (by omega) ?_ | refine bindP_mk (by simp (disch := first | omega | exact Int.natCast_nonneg _ | assumption) only [decide_true, decide_false, Bool.not_true, Bool.not_false, newP_eq, optP_some, optP_none, bindP_some', condP_true, condP_false, ifP_tt, ifP_ff, ifP_tf, ifP_ft, exP_normal, exP_exit, exP_ret, beqP_true, beqP_false, Option.bind_some, Value.cells_agg, cells_int, cells_bool, intB_add, intB_sub, intB_mul, intB_quo, intB_rem, intB_shr_u64, intB_shl1_u64, intB_and64, intB_or64, intB_xor64, wr_i64, wr_u8, wr_u64, convI_int, unV_not, boolB_eql, boolB_neq, pickV_true, pickV_false, lenSl_slice, ptr_at, fwdP_at, ixArr_at, load1_own, loadA_own, storeN_own, T.get_upd_same, T.get_upd_ne, cellsIn_some, putIn_cells, tl, ts, if_pos, Nat.zero_add, Nat.mul_one, Nat.add_zero, Int.toNat_natCast, ↓reduceIte, Nat.reduceLeDiff, Nat.reduceAdd, Nat.le_refl] <;> rfl) ?_ | refine newP_mk ?_ | refine optP_mk ?_ | with_reducible refine condP_t ?_ | with_reducible refine condP_f ?_ | with_reducible refine ifP_tt' ?_ | with_reducible refine ifP_ff' ?_ | with_reducible refine ifP_tf' ?_ | with_reducible refine ifP_ft' ?_ | with_reducible refine ifP_u' ?_ | refine optP_mk0 ?_))
    refine bindP_mk (hv.ix _ hk) (bindP_mk hx1 ?_)
    (repeat (first | refine lss_t (by omega) ?_ | refine lss_f (by omega) ?_ | refine leq_t (by omega) ?_ | refine leq_f (by omega) ?_ | refine gtr_t (by omega) ?_ | refine gtr_f (by omega) ?_ | refine geq_t (by omega) ?_ | refine geq_f (by omega) ?_ | refine eql_t (by omega) ?_ | refine eql_f (by omega) ?_ | refine neq_t (by omega) ?_ | refine neq_f (by omega) ?_ | refine bindP_mk (by simp (disch := first | omega | exact Int.natCast_nonneg _ | assumption) only [decide_true, decide_false, Bool.not_true, Bool.not_false, newP_eq, optP_some, optP_none, bindP_some', condP_true, condP_false, ifP_tt, ifP_ff, ifP_tf, ifP_ft, exP_normal, exP_exit, exP_ret, beqP_true, beqP_false, Option.bind_some, Value.cells_agg, cells_int, cells_bool, intB_add, intB_sub, intB_mul, intB_quo, intB_rem, intB_shr_u64, intB_shl1_u64, intB_and64, intB_or64, intB_xor64, wr_i64, wr_u8, wr_u64, convI_int, unV_not, boolB_eql, boolB_neq, pickV_true, pickV_false, lenSl_slice, ptr_at, fwdP_at, ixArr_at, load1_own, loadA_own, storeN_own, T.get_upd_same, T.get_upd_ne, cellsIn_some, putIn_cells, tl, ts, if_pos, Nat.zero_add, Nat.mul_one, Nat.add_zero, Int.toNat_natCast, ↓reduceIte, Nat.reduceLeDiff, Nat.reduceAdd, Nat.le_refl, gv, hir, w2, w3] <;> rfl) ?_ | refine newP_mk ?_ | refine optP_mk ?_ | with_reducible refine condP_t ?_ | with_reducible refine condP_f ?_ | with_reducible refine ifP_tt' ?_ | with_reducible refine ifP_ff' ?_ | with_reducible refine ifP_tf' ?_ | with_reducible refine ifP_ft' ?_ | with_reducible refine ifP_u' ?_ | refine optP_mk0 ?_))
    have hok : ∀ (e' : Env) h2 n cs2, SI h0 n0 a b a2 cb by_ g.p.length h2 cs2 → Fr h2 n → EntI g by_ (E ++ l.take (k + 1)) cs2 → e' 1 = ptr (n0 + 8) → e' 2 = ptr n0 → e' 3 = ptr (n0 + 2) → e' 7 = v → e' 8 = .int .i64 l.length → e' 9 = .int .i64 k → nx + 3 ≤ n → nca_step_1_j1 ro Q' e' h2 n := by
      intro e' h2 n cs2 s1 s2 s3 f1 f2 f3 f7 f8 f9 hn
      unfold nca_step_1_j1
      rw [f9]
      (repeat (first | refine lss_t (by omega) ?_ | refine lss_f (by omega) ?_ | refine leq_t (by omega) ?_ | refine leq_f (by omega) ?_ | refine gtr_t (by omega) ?_ | refine gtr_f (by omega) ?_ | refine geq_t (by omega) ?_ | refine geq_f (by omega) ?_ | refine eql_t (by omega) ?_ | refine eql_f (by omega) ?_ | refine neq_t (by omega) ?_ | refine neq_f (by omega) ?_ | refine bindP_mk (by simp (disch := first | omega | exact Int.natCast_nonneg _ | assumption) only [decide_true, decide_false, Bool.not_true, Bool.not_false, newP_eq, optP_some, optP_none, bindP_some', condP_true, condP_false, ifP_tt, ifP_ff, ifP_tf, ifP_ft, exP_normal, exP_exit, exP_ret, beqP_true, beqP_false, Option.bind_some, Value.cells_agg, cells_int, cells_bool, intB_add, intB_sub, intB_mul, intB_quo, intB_rem, intB_shr_u64, intB_shl1_u64, intB_and64, intB_or64, intB_xor64, wr_i64, wr_u8, wr_u64, convI_int, unV_not, boolB_eql, boolB_neq, pickV_true, pickV_false, lenSl_slice, ptr_at, fwdP_at, ixArr_at, load1_own, loadA_own, storeN_own, T.get_upd_same, T.get_upd_ne, cellsIn_some, putIn_cells, tl, ts, if_pos, Nat.zero_add, Nat.mul_one, Nat.add_zero, Int.toNat_natCast, ↓reduceIte, Nat.reduceLeDiff, Nat.reduceAdd, Nat.le_refl] <;> rfl) ?_ | refine newP_mk ?_ | refine optP_mk ?_ | with_reducible refine condP_t ?_ | with_reducible refine condP_f ?_ | with_reducible refine ifP_tt' ?_ | with_reducible refine ifP_ff' ?_ | with_reducible refine ifP_tf' ?_ | with_reducible refine ifP_ft' ?_ | with_reducible refine ifP_u' ?_ | refine optP_mk0 ?_))
      exact hq (j - 1) _ _ _ _ (by omega) ⟨k + 1, cs2, by omega, by omega, s1, s2.mono (by omega), s3, f1, f2, f3, f7, f8, rfl⟩ (Sub.refl _)
    refine eql_s (fun he => ?_) (fun he => ?_)
    · have he := eq_len he
      obtain ⟨pv, -, -, p3, -, p5, p6⟩ := P_at (hP.sub hS'.base (RPos.sub hS'.base)) (i := q) (by omega) (by omega)
      have p7 := P_set (hP.sub hS'.base (RPos.sub hS'.base)) (i := q) (by omega) (by omega)
      (repeat (first | refine lss_t (by omega) ?_ | refine lss_f (by omega) ?_ | refine leq_t (by omega) ?_ | refine leq_f (by omega) ?_ | refine gtr_t (by omega) ?_ | refine gtr_f (by omega) ?_ | refine geq_t (by omega) ?_ | refine geq_f (by omega) ?_ | refine eql_t (by omega) ?_ | refine eql_f (by omega) ?_ | refine neq_t (by omega) ?_ | refine neq_f (by omega) ?_ | refine bindP_mk (by simp (disch := first | omega | exact Int.natCast_nonneg _ | assumption) only [decide_true, decide_false, Bool.not_true, Bool.not_false, newP_eq, optP_some, optP_none, bindP_some', condP_true, condP_false, ifP_tt, ifP_ff, ifP_tf, ifP_ft, exP_normal, exP_exit, exP_ret, beqP_true, beqP_false, Option.bind_some, Value.cells_agg, cells_int, cells_bool, intB_add, intB_sub, intB_mul, intB_quo, intB_rem, intB_shr_u64, intB_shl1_u64, intB_and64, intB_or64, intB_xor64, wr_i64, wr_u8, wr_u64, convI_int, unV_not, boolB_eql, boolB_neq, pickV_true, pickV_false, lenSl_slice, ptr_at, fwdP_at, ixArr_at, load1_own, loadA_own, storeN_own, T.get_upd_same, T.get_upd_ne, cellsIn_some, putIn_cells, tl, ts, if_pos, Nat.zero_add, Nat.mul_one, Nat.add_zero, Int.toNat_natCast, ↓reduceIte, Nat.reduceLeDiff, Nat.reduceAdd, Nat.le_refl, gp, gb, p3, p5, p7] <;> rfl) ?_ | refine newP_mk ?_ | refine optP_mk ?_ | with_reducible refine condP_t ?_ | with_reducible refine condP_f ?_ | with_reducible refine ifP_tt' ?_ | with_reducible refine ifP_ff' ?_ | with_reducible refine ifP_tf' ?_ | with_reducible refine ifP_ft' ?_ | with_reducible refine ifP_u' ?_ | refine optP_mk0 ?_))
      refine bset_Has_c hby (hf'.mono (by omega)) fun n hn => ?_
      cases hb : (g.at q).s.testBit by_ with
      | false =>
        (repeat (first | refine lss_t (by omega) ?_ | refine lss_f (by omega) ?_ | refine leq_t (by omega) ?_ | refine leq_f (by omega) ?_ | refine gtr_t (by omega) ?_ | refine gtr_f (by omega) ?_ | refine geq_t (by omega) ?_ | refine geq_f (by omega) ?_ | refine eql_t (by omega) ?_ | refine eql_f (by omega) ?_ | refine neq_t (by omega) ?_ | refine neq_f (by omega) ?_ | refine bindP_mk (by simp (disch := first | omega | exact Int.natCast_nonneg _ | assumption) only [decide_true, decide_false, Bool.not_true, Bool.not_false, newP_eq, optP_some, optP_none, bindP_some', condP_true, condP_false, ifP_tt, ifP_ff, ifP_tf, ifP_ft, exP_normal, exP_exit, exP_ret, beqP_true, beqP_false, Option.bind_some, Value.cells_agg, cells_int, cells_bool, intB_add, intB_sub, intB_mul, intB_quo, intB_rem, intB_shr_u64, intB_shl1_u64, intB_and64, intB_or64, intB_xor64, wr_i64, wr_u8, wr_u64, convI_int, unV_not, boolB_eql, boolB_neq, pickV_true, pickV_false, lenSl_slice, ptr_at, fwdP_at, ixArr_at, load1_own, loadA_own, storeN_own, T.get_upd_same, T.get_upd_ne, cellsIn_some, putIn_cells, tl, ts, if_pos, Nat.zero_add, Nat.mul_one, Nat.add_zero, Int.toNat_natCast, ↓reduceIte, Nat.reduceLeDiff, Nat.reduceAdd, Nat.le_refl] <;> rfl) ?_ | refine newP_mk ?_ | refine optP_mk ?_ | with_reducible refine condP_t ?_ | with_reducible refine condP_f ?_ | with_reducible refine ifP_tt' ?_ | with_reducible refine ifP_ff' ?_ | with_reducible refine ifP_tf' ?_ | with_reducible refine ifP_ft' ?_ | with_reducible refine ifP_u' ?_ | refine optP_mk0 ?_))
        refine hok _ _ _ cs' hS' (hf'.mono (by omega)) ?_ e1 e2 e3 e7 e8 e9 (by omega)
        unfold ent1 at hst
        rwa [if_neg (by unfold hasD; rw [hb]; simp)] at hst
      | true =>
        (repeat (first | refine lss_t (by omega) ?_ | refine lss_f (by omega) ?_ | refine leq_t (by omega) ?_ | refine leq_f (by omega) ?_ | refine gtr_t (by omega) ?_ | refine gtr_f (by omega) ?_ | refine geq_t (by omega) ?_ | refine geq_f (by omega) ?_ | refine eql_t (by omega) ?_ | refine eql_f (by omega) ?_ | refine neq_t (by omega) ?_ | refine neq_f (by omega) ?_ | refine bindP_mk (by simp (disch := first | omega | exact Int.natCast_nonneg _ | assumption) only [decide_true, decide_false, Bool.not_true, Bool.not_false, newP_eq, optP_some, optP_none, bindP_some', condP_true, condP_false, ifP_tt, ifP_ff, ifP_tf, ifP_ft, exP_normal, exP_exit, exP_ret, beqP_true, beqP_false, Option.bind_some, Value.cells_agg, cells_int, cells_bool, intB_add, intB_sub, intB_mul, intB_quo, intB_rem, intB_shr_u64, intB_shl1_u64, intB_and64, intB_or64, intB_xor64, wr_i64, wr_u8, wr_u64, convI_int, unV_not, boolB_eql, boolB_neq, pickV_true, pickV_false, lenSl_slice, ptr_at, fwdP_at, ixArr_at, load1_own, loadA_own, storeN_own, T.get_upd_same, T.get_upd_ne, cellsIn_some, putIn_cells, tl, ts, if_pos, Nat.zero_add, Nat.mul_one, Nat.add_zero, Int.toNat_natCast, ↓reduceIte, Nat.reduceLeDiff, Nat.reduceAdd, Nat.le_refl, gv] <;> rfl) ?_ | refine newP_mk ?_ | refine optP_mk ?_ | with_reducible refine condP_t ?_ | with_reducible refine condP_f ?_ | with_reducible refine ifP_tt' ?_ | with_reducible refine ifP_ff' ?_ | with_reducible refine ifP_tf' ?_ | with_reducible refine ifP_ft' ?_ | with_reducible refine ifP_u' ?_ | refine optP_mk0 ?_))
        refine bindP_mk (lit_i64' _ _) (optP_mk ?_)
        (repeat (first | refine lss_t (by omega) ?_ | refine lss_f (by omega) ?_ | refine leq_t (by omega) ?_ | refine leq_f (by omega) ?_ | refine gtr_t (by omega) ?_ | refine gtr_f (by omega) ?_ | refine geq_t (by omega) ?_ | refine geq_f (by omega) ?_ | refine eql_t (by omega) ?_ | refine eql_f (by omega) ?_ | refine neq_t (by omega) ?_ | refine neq_f (by omega) ?_ | refine bindP_mk (by simp (disch := first | omega | exact Int.natCast_nonneg _ | assumption) only [decide_true, decide_false, Bool.not_true, Bool.not_false, newP_eq, optP_some, optP_none, bindP_some', condP_true, condP_false, ifP_tt, ifP_ff, ifP_tf, ifP_ft, exP_normal, exP_exit, exP_ret, beqP_true, beqP_false, Option.bind_some, Value.cells_agg, cells_int, cells_bool, intB_add, intB_sub, intB_mul, intB_quo, intB_rem, intB_shr_u64, intB_shl1_u64, intB_and64, intB_or64, intB_xor64, wr_i64, wr_u8, wr_u64, convI_int, unV_not, boolB_eql, boolB_neq, pickV_true, pickV_false, lenSl_slice, ptr_at, fwdP_at, ixArr_at, load1_own, loadA_own, storeN_own, T.get_upd_same, T.get_upd_ne, cellsIn_some, putIn_cells, tl, ts, if_pos, Nat.zero_add, Nat.mul_one, Nat.add_zero, Int.toNat_natCast, ↓reduceIte, Nat.reduceLeDiff, Nat.reduceAdd, Nat.le_refl, hir] <;> rfl) ?_ | refine newP_mk ?_ | refine optP_mk ?_ | with_reducible refine condP_t ?_ | with_reducible refine condP_f ?_ | with_reducible refine ifP_tt' ?_ | with_reducible refine ifP_ff' ?_ | with_reducible refine ifP_tf' ?_ | with_reducible refine ifP_ft' ?_ | with_reducible refine ifP_u' ?_ | refine optP_mk0 ?_))
        unfold ent1 at hst
        rw [if_pos ⟨he, by unfold hasD; rw [hb]⟩] at hst
        have hs2 : Sub h' (h'.upd (n + 2) (some (.cells #[.int .i64 1] y_int))) := (Sub.refl h').new hf' (by omega)
        have ho2 : OwnT (h'.upd (n + 2) (some (.cells #[.int .i64 1] y_int))) (.slice (some (own (n + 2) 1)) 1 1) 1 y_int (intsZ [1]) (n0 + 9) := .inr ⟨n + 2, by omega, rfl, by simp [intsZ], by rw [T.get_upd_same]; rfl⟩
        obtain ⟨h3, q1, q2, q3⟩ := w4 _ (n + 2) 1 [1] (hf' (n + 2) (by omega)) hs2.kp ho2
        refine bindP_mk q1 ?_
        refine hok _ _ _ _ q2 (fun i hi => ?_) hst e1 e2 e3 e7 e8 e9 (by omega)
        rw [q3 i (by omega), T.get_upd_ne _ _ (by omega)]
        exact hf' i (by omega)
    · (repeat (first | refine lss_t (by omega) ?_ | refine lss_f (by omega) ?_ | refine leq_t (by omega) ?_ | refine leq_f (by omega) ?_ | refine gtr_t (by omega) ?_ | refine gtr_f (by omega) ?_ | refine geq_t (by omega) ?_ | refine geq_f (by omega) ?_ | refine eql_t (by omega) ?_ | refine eql_f (by omega) ?_ | refine neq_t (by omega) ?_ | refine neq_f (by omega) ?_ | refine bindP_mk (by simp (disch := first | omega | exact Int.natCast_nonneg _ | assumption) only [decide_true, decide_false, Bool.not_true, Bool.not_false, newP_eq, optP_some, optP_none, bindP_some', condP_true, condP_false, ifP_tt, ifP_ff, ifP_tf, ifP_ft, exP_normal, exP_exit, exP_ret, beqP_true, beqP_false, Option.bind_some, Value.cells_agg, cells_int, cells_bool, intB_add, intB_sub, intB_mul, intB_quo, intB_rem, intB_shr_u64, intB_shl1_u64, intB_and64, intB_or64, intB_xor64, wr_i64, wr_u8, wr_u64, convI_int, unV_not, boolB_eql, boolB_neq, pickV_true, pickV_false, lenSl_slice, ptr_at, fwdP_at, ixArr_at, load1_own, loadA_own, storeN_own, T.get_upd_same, T.get_upd_ne, cellsIn_some, putIn_cells, tl, ts, if_pos, Nat.zero_add, Nat.mul_one, Nat.add_zero, Int.toNat_natCast, ↓reduceIte, Nat.reduceLeDiff, Nat.reduceAdd, Nat.le_refl] <;> rfl) ?_ | refine newP_mk ?_ | refine optP_mk ?_ | with_reducible refine condP_t ?_ | with_reducible refine condP_f ?_ | with_reducible refine ifP_tt' ?_ | with_reducible refine ifP_ff' ?_ | with_reducible refine ifP_tf' ?_ | with_reducible refine ifP_ft' ?_ | with_reducible refine ifP_u' ?_ | refine optP_mk0 ?_))
      refine hok _ _ _ cs' hS' (hf'.mono (by omega)) ?_ e1 e2 e3 e7 e8 e9 (by omega)
      unfold ent1 at hst
      rwa [if_neg (by rintro ⟨h1, _⟩; rw [h1] at he; exact he rfl)] at hst
  · (repeat (first | refine lss_t (by omega) ?_ | refine lss_f (by omega) ?_ | refine leq_t (by omega) ?_ | refine leq_f (by omega) ?_ | refine gtr_t (by omega) ?_ | refine gtr_f (by omega) ?_ | refine geq_t (by omega) ?_ | refine geq_f (by omega) ?_ | refine eql_t (by omega) ?_ | refine eql_f (by omega) ?_ | refine neq_t (by omega) ?_ | refine neq_f (by omega) ?_ | refine bindP_mk (by simp (disch := first | omega | exact Int.natCast_nonneg _ | assumption) only [decide_true, decide_false, Bool.not_true, Bool.not_false, newP_eq, optP_some, optP_none, bindP_some', condP_true, condP_false, ifP_tt, ifP_ff, ifP_tf, ifP_ft, exP_normal, exP_exit, exP_ret, beqP_true, beqP_false, Option.bind_some, Value.cells_agg, cells_int, cells_bool, intB_add, intB_sub, intB_mul, intB_quo, intB_rem, intB_shr_u64, intB_shl1_u64, intB_and64, intB_or64, intB_xor64, wr_i64, wr_u8, wr_u64, convI_int, unV_not, boolB_eql, boolB_neq, pickV_true, pickV_false, lenSl_slice, ptr_at, fwdP_at, ixArr_at, load1_own, loadA_own, storeN_own, T.get_upd_same, T.get_upd_ne, cellsIn_some, putIn_cells, tl, ts, if_pos, Nat.zero_add, Nat.mul_one, Nat.add_zero, Int.toNat_natCast, ↓reduceIte, Nat.reduceLeDiff, Nat.reduceAdd, Nat.le_refl] <;> rfl) ?_ | refine newP_mk ?_ | refine optP_mk ?_ | with_reducible refine condP_t ?_ | with_reducible refine condP_f ?_ | with_reducible refine ifP_tt' ?_ | with_reducible refine ifP_ff' ?_ | with_reducible refine ifP_tf' ?_ | with_reducible refine ifP_ft' ?_ | with_reducible refine ifP_u' ?_ | refine optP_mk0 ?_))
    refine hx _ _ _ _ (fun e => by cases e) (exP_e (beqP_t ?_))
    rw [List.take_of_length_le (by omega)] at hE'
    exact ⟨h', Sub.refl _, hK _ _ cs' (by omega) hS' (hf'.mono (by omega)) hE'⟩
end V
end Go.Proofs.Ytepbdkfkfcckoaa
