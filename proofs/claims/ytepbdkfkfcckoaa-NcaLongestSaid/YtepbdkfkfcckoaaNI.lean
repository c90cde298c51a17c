/- What nca's step hands back: all of it.
   No condition. -/
import Derived.Test.YtepbdkfkfcckoaaNH
set_option linter.unusedVariables false
set_option linter.unusedSimpArgs false
namespace Go.Proofs.Ytepbdkfkfcckoaa
namespace V
open PA
attribute [local irreducible] bindP ifP condP newP optP exP beqP
theorem OwnT.one {h : T Obj} {v : Value} {z : Nat} {e : TypeId} {l : List (List Value)} {lo : Nat} (ho : OwnT h v z e l lo) : v.cells = #[v] ∧ cellOk v = true := by
  rcases ho with ⟨rfl, _⟩ | ⟨id, _, rfl, _⟩ <;> exact ⟨rfl, rfl⟩
theorem SI.kp {h0 h h' : T Obj} {n0 m by_ : Nat} {a b a2 v : Value} {cb : Bool} {cs : List (List Int)} (hS : SI h0 n0 a b a2 cb by_ m h cs) (hf0 : Fr h0 n0) (hk : Kp v h h') (hlo : ∀ id, sblk v = some id → n0 + 9 ≤ id) (hne : ∀ id c f, sblk v = some id → h.get id = some (.cells c y_int f) → False) : SI h0 n0 a b a2 cb by_ m h' cs := by
  have hn : ∀ k, k < n0 + 9 → ∀ o, h.get k = some o → h'.get k = some o := fun k hk1 o hk3 => hk k o hk3 fun e => by have := hlo k e; omega
  refine ⟨fun k o hk0 => ?_, hn _ (by omega) _ hS.places, hn _ (by omega) _ hS.cfg, hn _ (by omega) _ hS.byte, hn _ (by omega) _ hS.res, hn _ (by omega) _ hS.var, ?_⟩
  · have := hf0.lt' hk0
    exact hn k (by omega) _ (hS.base k o hk0)
  · obtain ⟨row, h1, h2, h3, h4, h5⟩ := hS.row
    refine ⟨row, h1, hn _ (by omega) _ h2, h3, fun q w l' hw hl' => ?_, h5⟩
    refine (h4 q w l' hw hl').keep hk fun id hid e => ?_
    rcases h4 q w l' hw hl' with ⟨rfl, _⟩ | ⟨id', _, rfl, _, g5⟩
    · cases hid
    · have : id' = id := Option.some.inj hid
      subst this
      exact hne _ _ _ e g5
/-- But for one block all is as it was. -/
theorem kp_off {h h' : T Obj} {O : Nat} (hk : ∀ k, k ≠ O → h'.get k = h.get k) : Kp (.slice (some (own O 1)) 0 0) h h' := fun k o hk0 hne => by
  rw [hk k fun e => hne (by rw [e]; rfl)]; exact hk0
theorem SI.off {h0 h h' : T Obj} {n0 m by_ O : Nat} {a b a2 : Value} {cb : Bool} {cs : List (List Int)} {c : Array Value} {e : TypeId} {f : Nat × Nat} (hS : SI h0 n0 a b a2 cb by_ m h cs) (hf0 : Fr h0 n0) (hk : ∀ k, k ≠ O → h'.get k = h.get k) (hO : n0 + 9 ≤ O) (hg : h.get O = some (.cells c e f)) (he : e ≠ y_int) : SI h0 n0 a b a2 cb by_ m h' cs := by
  refine hS.kp hf0 (kp_off hk) (fun id hid => ?_) fun id c' f' hid hg' => ?_
  · have : O = id := Option.some.inj hid
    omega
  · have : O = id := Option.some.inj hid
    subst this
    rw [hg] at hg'
    simp only [Option.some.injEq, Obj.cells.injEq] at hg'
    exact he hg'.2.1
theorem OwnT.off {h h' : T Obj} {O z lo : Nat} {v : Value} {l : List (List Value)} {e e' : TypeId} {c : Array Value} {f : Nat × Nat} (ho : OwnT h v z e l lo) (hk : ∀ k, k ≠ O → h'.get k = h.get k) (hg : h.get O = some (.cells c e' f)) (he : e' ≠ e) : OwnT h' v z e l lo := by
  refine ho.keep (kp_off hk) fun id hid hO => ?_
  have : O = id := Option.some.inj hO
  subst this
  exact ho.ne hg he hid
/-- The elements of what is put together. -/
def EL (h : T Obj) (ys : List (List Value)) (Ds : List HeldD) (lo : Nat) : Prop := ys.length = Ds.length ∧ ∀ (i : Nat) y d, ys[i]? = some y → Ds[i]? = some d → ∃ w, y = [.int .i64 d.p, w] ∧ OwnT h w 1 y_int (intsZ d.n) lo
theorem EL.snoc {h : T Obj} {ys : List (List Value)} {Ds : List HeldD} {lo : Nat} {d : HeldD} {w : Value} (he : EL h ys Ds lo) (hw : OwnT h w 1 y_int (intsZ d.n) lo) : EL h (ys ++ [[.int .i64 d.p, w]]) (Ds ++ [d]) lo := by
  refine ⟨by simp [he.1], fun i y d' hy hd => ?_⟩
  rw [List.getElem?_append] at hy hd
  by_cases hi : i < ys.length
  · rw [if_pos hi] at hy
    rw [if_pos (by rw [← he.1]; exact hi)] at hd
    exact he.2 i y d' hy hd
  · rw [if_neg hi] at hy
    rw [if_neg (by rw [← he.1]; exact hi)] at hd
    have h1 : i - ys.length = 0 := by
      have := (List.getElem?_eq_some_iff.1 hy).1
      simp at this; omega
    rw [h1] at hy
    rw [← he.1, h1] at hd
    simp at hy hd
    subst hy; subst hd
    exact ⟨w, rfl, hw⟩
theorem EL.imp {h h' : T Obj} {ys : List (List Value)} {Ds : List HeldD} {lo : Nat} (he : EL h ys Ds lo) (hw : ∀ w l, OwnT h w 1 y_int l lo → OwnT h' w 1 y_int l lo) : EL h' ys Ds lo :=
  ⟨he.1, fun i y d hy hd => by obtain ⟨w, h1, h2⟩ := he.2 i y d hy hd; exact ⟨w, h1, hw _ _ h2⟩⟩
theorem EL.slr {ro : Ro} {h : T Obj} {v : Value} {ys : List (List Value)} {Ds : List HeldD} {lo : Nat} (he : EL h ys Ds lo) (hv : Sl ro h v 2 ys) : SlR ro h v 2 (RHeld ro h) Ds :=
  ⟨ys, hv, he.1, fun i y d hy hd => by obtain ⟨w, h1, h2⟩ := he.2 i y d hy hd; exact ⟨w, h1, h2.sl⟩⟩
theorem OwnT.hi {h h' : T Obj} {v : Value} {z : Nat} {e : TypeId} {l : List (List Value)} {lo : Nat} (ho : OwnT h v z e l lo) (hk : ∀ k, lo ≤ k → h'.get k = h.get k) : OwnT h' v z e l lo := by
  rcases ho with ho | ⟨id, h1, h2, h3, h4⟩
  · exact .inl ho
  · exact .inr ⟨id, h1, h2, h3, by rw [hk id h1]; exact h4⟩
/-- Where one may be, as a value whose blocks are no less than lo. -/
def RCfgS (ro : Ro) (h : T Obj) (v : Value) (c : CfgD) (lo : Nat) : Prop := ∀ h5 : T Obj, (∀ k, lo ≤ k → h5.get k = h.get k) → RCfg ro h5 v c
theorem RCfgS.now {ro : Ro} {h : T Obj} {v : Value} {c : CfgD} {lo : Nat} (hc : RCfgS ro h v c lo) : RCfg ro h v c := hc h fun _ _ => rfl
theorem two_ok {b : Bool} {v : Value} (h : cellOk v = true) : [Value.bool b, v].all cellOk = true := by
  have : [Value.bool b, v].all cellOk = (cellOk v && true) := rfl
  rw [this, h]; rfl
theorem tyne : y_int ≠ y_api_Held ∧ y_s_int ≠ y_api_Held ∧ y_api_Config ≠ y_api_Held ∧ y_api_Config ≠ y_int ∧ y_api_Held ≠ y_int ∧ y_s_int ≠ y_int := by decide
set_option maxRecDepth 4000 in
theorem nca_step_out {ro : Ro} {n0 m by_ : Nat} {a b a2 : Value} {cb : Bool} {cs : List (List Int)} (hcs : cs.length = m) (hm : m ≤ 512) {h0 h : T Obj} {e : Env} {nx : Nat} {K : KV} (hf0 : Fr h0 n0) (hf : Fr h nx) (hn0 : n0 + 9 ≤ nx) (hS : SI h0 n0 a b a2 cb by_ m h cs) (e6 : e 6 = ptr (n0 + 3)) (e7 : e 7 = ptr (n0 + 8))
    (hK : ∀ r h' nx', nx ≤ nx' → Sub h0 h' → Fr h' nx' → RCfgS ro h' r ⟨false, outL cs m⟩ (n0 + 9) → K r h' nx') : nca_step_j3 ro K e h nx := by
  unfold nca_step_j3
  refine bindP_mk zer_Config ?_
  refine obj_mk hf (Nat.le_refl _) fun h1 hs1 hf1 g1 _ => ?_
  have hS1 := hS.sub hs1
  have gv := hS1.var
  rw [e7]
  (repeat (first | refine lss_t (by omega) ?_ | refine lss_f (by omega) ?_ | refine leq_t (by omega) ?_ | refine leq_f (by omega) ?_ | refine gtr_t (by omega) ?_ | refine gtr_f (by omega) ?_ | refine geq_t (by omega) ?_ | refine geq_f (by omega) ?_ | refine eql_t (by omega) ?_ | refine eql_f (by omega) ?_ | refine neq_t (by omega) ?_ | refine neq_f (by omega) ?_ | refine bindP_mk (by simp (disch := first | omega | exact Int.natCast_nonneg _ | assumption) only [decide_true, decide_false, Bool.not_true, Bool.not_false, newP_eq, optP_some, optP_none, bindP_some', condP_true, condP_false, ifP_tt, ifP_ff, ifP_tf, ifP_ft, exP_normal, exP_exit, exP_ret, beqP_true, beqP_false, Option.bind_some, Value.cells_agg, cells_int, cells_bool, intB_add, intB_sub, intB_mul, intB_quo, intB_rem, intB_shr_u64, intB_shl1_u64, intB_and64, intB_or64, intB_xor64, wr_i64, wr_u8, wr_u64, convI_int, unV_not, boolB_eql, boolB_neq, pickV_true, pickV_false, lenSl_slice, ptr_at, fwdP_at, ixArr_at, load1_own, loadA_own, storeN_own, T.get_upd_same, T.get_upd_ne, cellsIn_some, putIn_cells, tl, ts, if_pos, Nat.zero_add, Nat.mul_one, Nat.add_zero, Int.toNat_natCast, ↓reduceIte, Nat.reduceLeDiff, Nat.reduceAdd, Nat.le_refl, gv] <;> rfl) ?_ | refine newP_mk ?_ | refine optP_mk ?_ | with_reducible refine condP_t ?_ | with_reducible refine condP_f ?_ | with_reducible refine ifP_tt' ?_ | with_reducible refine ifP_ff' ?_ | with_reducible refine ifP_tf' ?_ | with_reducible refine ifP_ft' ?_ | with_reducible refine ifP_u' ?_ | refine optP_mk0 ?_))
  refine loopP_rule (fun j e' h' nx' => ∃ (k : Nat) (Lv : Value) (ys : List (List Value)), k + j = m ∧ nx + 1 ≤ nx' ∧ SI h0 n0 a b a2 cb by_ m h' cs ∧ Fr h' nx' ∧ h'.get nx = some (.cells #[.bool false, Lv] y_api_Config) ∧ OwnT h' Lv 2 y_api_Held ys (n0 + 9) ∧ EL h' ys (outL cs k) (n0 + 9) ∧ e' 6 = ptr (n0 + 3) ∧ e' 15 = ptr nx ∧ e' 97 = .slice (some (own (n0 + 7) 1)) m m ∧ e' 98 = .int .i64 m ∧ e' 99 = .int .i64 k) ?_ (n := m)
    ⟨0, .slice none 0 0, [], by omega, by omega, hS1, hf1.mono (by omega), g1, OwnT.nil, ⟨rfl, fun i y d hy => by simp at hy⟩, e6, rfl, rfl, rfl, rfl⟩
  rintro j e' h' nx' ⟨k, Lv, ys, hj, hnx, hS', hf', gO, hL, hE, f6, f15, f97, f98, f99⟩ Q' hq hx
  unfold nca_step_L1
  rw [f15, f97, f98, f99]
  have hOlt := hf'.lt' gO
  refine lss_s (fun hk => ?_) (fun hk => ?_)
  · have hk : k < m := by omega
    obtain ⟨w, w1, w2, w3, _⟩ := hS'.cell hf0 (q := k) (by omega)
    have hir := ix_row (C := n0 + 7) (n := m) (k := .i64) (i := (k : Int)) (by omega) (by omega)
    rw [Int.toNat_natCast] at hir
    (repeat (first | refine lss_t (by omega) ?_ | refine lss_f (by omega) ?_ | refine leq_t (by omega) ?_ | refine leq_f (by omega) ?_ | refine gtr_t (by omega) ?_ | refine gtr_f (by omega) ?_ | refine geq_t (by omega) ?_ | refine geq_f (by omega) ?_ | refine eql_t (by omega) ?_ | refine eql_f (by omega) ?_ | refine neq_t (by omega) ?_ | refine neq_f (by omega) ?_ | refine bindP_mk (by simp (disch := first | omega | exact Int.natCast_nonneg _ | assumption) only [decide_true, decide_false, Bool.not_true, Bool.not_false, newP_eq, optP_some, optP_none, bindP_some', condP_true, condP_false, ifP_tt, ifP_ff, ifP_tf, ifP_ft, exP_normal, exP_exit, exP_ret, beqP_true, beqP_false, Option.bind_some, Value.cells_agg, cells_int, cells_bool, intB_add, intB_sub, intB_mul, intB_quo, intB_rem, intB_shr_u64, intB_shl1_u64, intB_and64, intB_or64, intB_xor64, wr_i64, wr_u8, wr_u64, convI_int, unV_not, boolB_eql, boolB_neq, pickV_true, pickV_false, lenSl_slice, ptr_at, fwdP_at, ixArr_at, load1_own, loadA_own, storeN_own, T.get_upd_same, T.get_upd_ne, cellsIn_some, putIn_cells, tl, ts, if_pos, Nat.zero_add, Nat.mul_one, Nat.add_zero, Int.toNat_natCast, ↓reduceIte, Nat.reduceLeDiff, Nat.reduceAdd, Nat.le_refl, hir, w2, w3] <;> rfl) ?_ | refine newP_mk ?_ | refine optP_mk ?_ | with_reducible refine condP_t ?_ | with_reducible refine condP_f ?_ | with_reducible refine ifP_tt' ?_ | with_reducible refine ifP_ff' ?_ | with_reducible refine ifP_tf' ?_ | with_reducible refine ifP_ft' ?_ | with_reducible refine ifP_u' ?_ | refine optP_mk0 ?_))
    have hok : ∀ (e2 : Env) h2 n Lv2 ys2, SI h0 n0 a b a2 cb by_ m h2 cs → Fr h2 n → h2.get nx = some (.cells #[.bool false, Lv2] y_api_Config) → OwnT h2 Lv2 2 y_api_Held ys2 (n0 + 9) → EL h2 ys2 (outL cs (k + 1)) (n0 + 9) → e2 6 = ptr (n0 + 3) → e2 15 = ptr nx → e2 97 = .slice (some (own (n0 + 7) 1)) m m → e2 98 = .int .i64 m → e2 99 = .int .i64 k → nx + 1 ≤ n → nca_step_j5 ro Q' e2 h2 n := by
      intro e2 h2 n Lv2 ys2 s1 s2 s3 s4 s5 t6 t15 t97 t98 t99 hn
      unfold nca_step_j5
      rw [t99]
      (repeat (first | refine lss_t (by omega) ?_ | refine lss_f (by omega) ?_ | refine leq_t (by omega) ?_ | refine leq_f (by omega) ?_ | refine gtr_t (by omega) ?_ | refine gtr_f (by omega) ?_ | refine geq_t (by omega) ?_ | refine geq_f (by omega) ?_ | refine eql_t (by omega) ?_ | refine eql_f (by omega) ?_ | refine neq_t (by omega) ?_ | refine neq_f (by omega) ?_ | refine bindP_mk (by simp (disch := first | omega | exact Int.natCast_nonneg _ | assumption) only [decide_true, decide_false, Bool.not_true, Bool.not_false, newP_eq, optP_some, optP_none, bindP_some', condP_true, condP_false, ifP_tt, ifP_ff, ifP_tf, ifP_ft, exP_normal, exP_exit, exP_ret, beqP_true, beqP_false, Option.bind_some, Value.cells_agg, cells_int, cells_bool, intB_add, intB_sub, intB_mul, intB_quo, intB_rem, intB_shr_u64, intB_shl1_u64, intB_and64, intB_or64, intB_xor64, wr_i64, wr_u8, wr_u64, convI_int, unV_not, boolB_eql, boolB_neq, pickV_true, pickV_false, lenSl_slice, ptr_at, fwdP_at, ixArr_at, load1_own, loadA_own, storeN_own, T.get_upd_same, T.get_upd_ne, cellsIn_some, putIn_cells, tl, ts, if_pos, Nat.zero_add, Nat.mul_one, Nat.add_zero, Int.toNat_natCast, ↓reduceIte, Nat.reduceLeDiff, Nat.reduceAdd, Nat.le_refl] <;> rfl) ?_ | refine newP_mk ?_ | refine optP_mk ?_ | with_reducible refine condP_t ?_ | with_reducible refine condP_f ?_ | with_reducible refine ifP_tt' ?_ | with_reducible refine ifP_ff' ?_ | with_reducible refine ifP_tf' ?_ | with_reducible refine ifP_ft' ?_ | with_reducible refine ifP_u' ?_ | refine optP_mk0 ?_))
      exact hq (j - 1) _ _ _ _ (by omega) ⟨k + 1, Lv2, ys2, by omega, by omega, s1, s2.mono (by omega), s3, s4, s5, t6, t15, t97, t98, rfl⟩ (Sub.refl _)
    refine gtr_s (fun he => ?_) (fun he => ?_)
    · have hne : cs.getD k [] ≠ [] := fun h => by rw [h] at he; simp at he
      obtain ⟨i, t1, t2, t3⟩ := tin_held
      have hyl : ys.length ≤ m := by rw [hE.1]; have := outL_len cs k; omega
      (repeat (first | refine lss_t (by omega) ?_ | refine lss_f (by omega) ?_ | refine leq_t (by omega) ?_ | refine leq_f (by omega) ?_ | refine gtr_t (by omega) ?_ | refine gtr_f (by omega) ?_ | refine geq_t (by omega) ?_ | refine geq_f (by omega) ?_ | refine eql_t (by omega) ?_ | refine eql_f (by omega) ?_ | refine neq_t (by omega) ?_ | refine neq_f (by omega) ?_ | refine bindP_mk (by simp (disch := first | omega | exact Int.natCast_nonneg _ | assumption) only [decide_true, decide_false, Bool.not_true, Bool.not_false, newP_eq, optP_some, optP_none, bindP_some', condP_true, condP_false, ifP_tt, ifP_ff, ifP_tf, ifP_ft, exP_normal, exP_exit, exP_ret, beqP_true, beqP_false, Option.bind_some, Value.cells_agg, cells_int, cells_bool, intB_add, intB_sub, intB_mul, intB_quo, intB_rem, intB_shr_u64, intB_shl1_u64, intB_and64, intB_or64, intB_xor64, wr_i64, wr_u8, wr_u64, convI_int, unV_not, boolB_eql, boolB_neq, pickV_true, pickV_false, lenSl_slice, ptr_at, fwdP_at, ixArr_at, load1_own, loadA_own, storeN_own, T.get_upd_same, T.get_upd_ne, cellsIn_some, putIn_cells, tl, ts, if_pos, Nat.zero_add, Nat.mul_one, Nat.add_zero, Int.toNat_natCast, ↓reduceIte, Nat.reduceLeDiff, Nat.reduceAdd, Nat.le_refl, gO] <;> rfl) ?_ | refine newP_mk ?_ | refine optP_mk ?_ | with_reducible refine condP_t ?_ | with_reducible refine condP_f ?_ | with_reducible refine ifP_tt' ?_ | with_reducible refine ifP_ff' ?_ | with_reducible refine ifP_tf' ?_ | with_reducible refine ifP_ft' ?_ | with_reducible refine ifP_u' ?_ | refine optP_mk0 ?_))
      refine bindP_mk (build_held _ _ w1.one.1 rfl) ?_
      refine append_lit (P := Try.prog) (z := 2) (e := y_api_Held) (i := i) (l := ys) (nx := nx') (n1 := nx' + 14) (n2 := nx' + 16) (lo := n0 + 9) (lit_held _ _ _) rfl hL und_helds t1 t2 (by omega) zer_Held rfl (held_ok w1.one.2) (by rw [t3]; unfold big; omega) (by unfold big; omega) hf' (by omega) (by omega) (by omega) fun h2 q1 q2 q3 => ?_
      dsimp only
      have gO2 := q2 _ _ gO (hL.ne gO tyne.2.2.1)
      have hLlo : ∀ id, sblk Lv = some id → n0 + 9 ≤ id := fun id hid => by
        rcases Nat.lt_or_ge id (n0 + 9) with h9 | h9
        · exact absurd hid (hL.lt h9)
        · exact h9
      have hS2 : SI h0 n0 a b a2 cb by_ m h2 cs := hS'.kp hf0 q2 hLlo fun id c f hid hg => hL.ne hg tyne.1 hid
      have hkeep : ∀ w l, OwnT h' w 1 y_int l (n0 + 9) → OwnT h2 w 1 y_int l (n0 + 9) := fun w l ho => ho.keep q2 fun id hid hL' => by
        rcases ho with ⟨rfl, _⟩ | ⟨id', _, rfl, _, g5⟩
        · cases hid
        · have : id' = id := Option.some.inj hid
          subst this
          exact hL.ne g5 tyne.1 hL'
      have hE2 := hE.imp hkeep
      have hw2 := hkeep _ _ w1
      (repeat (first | refine lss_t (by omega) ?_ | refine lss_f (by omega) ?_ | refine leq_t (by omega) ?_ | refine leq_f (by omega) ?_ | refine gtr_t (by omega) ?_ | refine gtr_f (by omega) ?_ | refine geq_t (by omega) ?_ | refine geq_f (by omega) ?_ | refine eql_t (by omega) ?_ | refine eql_f (by omega) ?_ | refine neq_t (by omega) ?_ | refine neq_f (by omega) ?_ | refine bindP_mk (by simp (disch := first | omega | exact Int.natCast_nonneg _ | assumption) only [decide_true, decide_false, Bool.not_true, Bool.not_false, newP_eq, optP_some, optP_none, bindP_some', condP_true, condP_false, ifP_tt, ifP_ff, ifP_tf, ifP_ft, exP_normal, exP_exit, exP_ret, beqP_true, beqP_false, Option.bind_some, Value.cells_agg, cells_int, cells_bool, intB_add, intB_sub, intB_mul, intB_quo, intB_rem, intB_shr_u64, intB_shl1_u64, intB_and64, intB_or64, intB_xor64, wr_i64, wr_u8, wr_u64, convI_int, unV_not, boolB_eql, boolB_neq, pickV_true, pickV_false, lenSl_slice, ptr_at, fwdP_at, ixArr_at, load1_own, loadA_own, storeN_own, T.get_upd_same, T.get_upd_ne, cellsIn_some, putIn_cells, tl, ts, if_pos, Nat.zero_add, Nat.mul_one, Nat.add_zero, Int.toNat_natCast, ↓reduceIte, Nat.reduceLeDiff, Nat.reduceAdd, Nat.le_refl] <;> rfl) ?_ | refine newP_mk ?_ | refine optP_mk ?_ | with_reducible refine condP_t ?_ | with_reducible refine condP_f ?_ | with_reducible refine ifP_tt' ?_ | with_reducible refine ifP_ff' ?_ | with_reducible refine ifP_tf' ?_ | with_reducible refine ifP_ft' ?_ | with_reducible refine ifP_u' ?_ | refine optP_mk0 ?_))
      refine bindP_mk (store1_own (l := [.bool false, Lv]) gO2 (by simp) rfl rfl) ?_
      have hoff : ∀ i, i ≠ nx → (h2.upd nx (some (.cells ([Value.bool false, Lv].set (0 + 1) (.slice (some (own (nx' + 16) 2)) (ys ++ [[.int .i64 (k : Int), w]]).length (ys ++ [[.int .i64 (k : Int), w]]).length)).toArray y_api_Config))).get i = h2.get i := fun i hi => T.get_upd_ne _ _ hi
      refine hok _ _ _ _ _ (hS2.off hf0 hoff (by omega) gO2 tyne.2.2.2.1) ((q3.mono (by omega)).upd (Nat.le_refl _) (by omega)) (by rw [T.get_upd_same]; rfl) (q1.off hoff gO2 tyne.2.2.1) ?_ f6 f15 f97 f98 f99 (by omega)
      rw [outL_succ]
      unfold heldOf
      rw [if_neg hne]
      exact (hE2.snoc (d := ⟨k, cs.getD k []⟩) hw2).imp fun w l ho => ho.off hoff gO2 tyne.2.2.2.1
    · have hem : cs.getD k [] = [] := eq_len (by omega)
      (repeat (first | refine lss_t (by omega) ?_ | refine lss_f (by omega) ?_ | refine leq_t (by omega) ?_ | refine leq_f (by omega) ?_ | refine gtr_t (by omega) ?_ | refine gtr_f (by omega) ?_ | refine geq_t (by omega) ?_ | refine geq_f (by omega) ?_ | refine eql_t (by omega) ?_ | refine eql_f (by omega) ?_ | refine neq_t (by omega) ?_ | refine neq_f (by omega) ?_ | refine bindP_mk (by simp (disch := first | omega | exact Int.natCast_nonneg _ | assumption) only [decide_true, decide_false, Bool.not_true, Bool.not_false, newP_eq, optP_some, optP_none, bindP_some', condP_true, condP_false, ifP_tt, ifP_ff, ifP_tf, ifP_ft, exP_normal, exP_exit, exP_ret, beqP_true, beqP_false, Option.bind_some, Value.cells_agg, cells_int, cells_bool, intB_add, intB_sub, intB_mul, intB_quo, intB_rem, intB_shr_u64, intB_shl1_u64, intB_and64, intB_or64, intB_xor64, wr_i64, wr_u8, wr_u64, convI_int, unV_not, boolB_eql, boolB_neq, pickV_true, pickV_false, lenSl_slice, ptr_at, fwdP_at, ixArr_at, load1_own, loadA_own, storeN_own, T.get_upd_same, T.get_upd_ne, cellsIn_some, putIn_cells, tl, ts, if_pos, Nat.zero_add, Nat.mul_one, Nat.add_zero, Int.toNat_natCast, ↓reduceIte, Nat.reduceLeDiff, Nat.reduceAdd, Nat.le_refl] <;> rfl) ?_ | refine newP_mk ?_ | refine optP_mk ?_ | with_reducible refine condP_t ?_ | with_reducible refine condP_f ?_ | with_reducible refine ifP_tt' ?_ | with_reducible refine ifP_ff' ?_ | with_reducible refine ifP_tf' ?_ | with_reducible refine ifP_ft' ?_ | with_reducible refine ifP_u' ?_ | refine optP_mk0 ?_))
      refine hok _ _ _ Lv ys hS' (hf'.mono (by omega)) gO hL ?_ f6 f15 f97 f98 f99 (by omega)
      rw [outL_succ]
      unfold heldOf
      rw [if_pos hem, List.append_nil]
      exact hE
  · (repeat (first | refine lss_t (by omega) ?_ | refine lss_f (by omega) ?_ | refine leq_t (by omega) ?_ | refine leq_f (by omega) ?_ | refine gtr_t (by omega) ?_ | refine gtr_f (by omega) ?_ | refine geq_t (by omega) ?_ | refine geq_f (by omega) ?_ | refine eql_t (by omega) ?_ | refine eql_f (by omega) ?_ | refine neq_t (by omega) ?_ | refine neq_f (by omega) ?_ | refine bindP_mk (by simp (disch := first | omega | exact Int.natCast_nonneg _ | assumption) only [decide_true, decide_false, Bool.not_true, Bool.not_false, newP_eq, optP_some, optP_none, bindP_some', condP_true, condP_false, ifP_tt, ifP_ff, ifP_tf, ifP_ft, exP_normal, exP_exit, exP_ret, beqP_true, beqP_false, Option.bind_some, Value.cells_agg, cells_int, cells_bool, intB_add, intB_sub, intB_mul, intB_quo, intB_rem, intB_shr_u64, intB_shl1_u64, intB_and64, intB_or64, intB_xor64, wr_i64, wr_u8, wr_u64, convI_int, unV_not, boolB_eql, boolB_neq, pickV_true, pickV_false, lenSl_slice, ptr_at, fwdP_at, ixArr_at, load1_own, loadA_own, storeN_own, T.get_upd_same, T.get_upd_ne, cellsIn_some, putIn_cells, tl, ts, if_pos, Nat.zero_add, Nat.mul_one, Nat.add_zero, Int.toNat_natCast, ↓reduceIte, Nat.reduceLeDiff, Nat.reduceAdd, Nat.le_refl] <;> rfl) ?_ | refine newP_mk ?_ | refine optP_mk ?_ | with_reducible refine condP_t ?_ | with_reducible refine condP_f ?_ | with_reducible refine ifP_tt' ?_ | with_reducible refine ifP_ff' ?_ | with_reducible refine ifP_tf' ?_ | with_reducible refine ifP_ft' ?_ | with_reducible refine ifP_u' ?_ | refine optP_mk0 ?_))
    refine hx _ _ _ _ (fun e => by cases e) (exP_e (beqP_t ?_))
    unfold nca_step_j4
    have hkm : k = m := by omega
    subst hkm
    have gR := hS'.res
    rw [show (puts e' [(100, Value.bool false)]) 15 = ptr nx from f15, show (puts e' [(100, Value.bool false)]) 6 = ptr (n0 + 3) from f6]
    refine bindP_mk (loadA_all (l := [.bool false, Lv]) gO rfl) ?_
    refine bindP_mk (storeA_own (l := [.bool false, .slice none 0 0]) (vs := [.bool false, Lv]) gR rfl rfl rfl (two_ok hL.one.2)) ?_
    refine bindP_mk (loadA_all (l := [.bool false, Lv]) (by rw [T.get_upd_same]) rfl) ?_
    have hoff : ∀ i, i ≠ n0 + 3 → (h'.upd (n0 + 3) (some (.cells [Value.bool false, Lv].toArray y_api_Config))).get i = h'.get i := fun i hi => T.get_upd_ne _ _ hi
    refine ⟨_, Sub.refl _, hK _ _ _ (by omega) (fun i o hi => ?_) ((hf'.mono (by omega)).upd (Nat.le_refl _) (by omega)) fun h5 h5k => ⟨Lv, rfl, ?_⟩⟩
    · have := hf0.lt' hi
      rw [hoff i (by omega)]
      exact hS'.base i o hi
    · have hh : ∀ k, n0 + 9 ≤ k → h5.get k = h'.get k := fun k hk => by rw [h5k k hk, hoff k (by omega)]
      exact (hE.imp fun w l ho => ho.hi hh).slr (hL.hi hh).sl
end V
end Go.Proofs.Ytepbdkfkfcckoaa
