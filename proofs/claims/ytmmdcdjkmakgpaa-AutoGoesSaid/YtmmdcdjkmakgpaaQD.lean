/- Texts laid one behind the other: JA, JB, JC, JD, JE, JF, JG, JH, LGoes.
   No condition. -/
import Derived.Test.YtmmdcdjkmakgpaaQD6
set_option linter.unusedVariables false
set_option linter.unusedSimpArgs false
set_option linter.unusedVariables false
set_option linter.unusedSimpArgs false
namespace Go.Proofs.Ytmmdcdjkmakgpaa
namespace V
open PA
attribute [local irreducible] bindP ifP condP newP optP exP beqP
def RHeld (ro : Ro) (h : T Obj) (x : List Value) (d : HeldD) : Prop := ∃ nv, x = [.int .i64 d.p, nv] ∧ ZI ro h nv d.n
theorem RHeld.sub {ro : Ro} {h h' : T Obj} (hs : Sub h h') : ∀ x d, RHeld ro h x d → RHeld ro h' x d := fun x d ⟨nv, h1, h2⟩ => ⟨nv, h1, h2.sub hs⟩
def RCfg (ro : Ro) (h : T Obj) (v : Value) (c : CfgD) : Prop := ∃ a, v = .agg #[.bool c.b, a] ∧ SlR ro h a 2 (RHeld ro h) c.l
theorem RCfg.sub {ro : Ro} {h h' : T Obj} {v : Value} {c : CfgD} (hs : Sub h h') (hg : RCfg ro h v c) : RCfg ro h' v c := by
  obtain ⟨a, h1, h3⟩ := hg
  exact ⟨a, h1, h3.sub hs (RHeld.sub hs)⟩
theorem zer_Held : zer Try.prog y_api_Held = some (.agg #[.int .i64 0, .slice none 0 0]) := by kernel_rfl
theorem held_ok {p : Int} {nv : Value} (h : cellOk nv = true) : [Value.int .i64 p, nv].all cellOk = true := by
  have : [Value.int .i64 p, nv].all cellOk = (cellOk nv && true) := rfl
  rw [this, h]; rfl
theorem P_at {ro : Ro} {h hr : T Obj} {b : Value} {g : GlD} (hb : SlR ro h b 9 (RPos ro hr) g.p) {i : Int} (h0 : 0 ≤ i) (h1 : i < g.p.length) : ∃ nv, ZI ro hr nv (g.at i).next ∧ (g.at i).s < 2 ^ 256 ∧ ixSl 9 b (.int .i64 i) = some (elPtr 9 b i.toNat) ∧
    loadA ro h 9 (elPtr 9 b i.toNat) = some (.agg (posL (g.at i) nv).toArray) ∧ (∀ k, fwdP k (elPtr 9 b i.toNat) = some (elPtrK 9 b i.toNat k)) ∧ ∀ k w, (posL (g.at i) nv)[k]? = some w → load1 ro h (elPtrK 9 b i.toNat k) = some w := by
  obtain ⟨x, ⟨nv, rfl, hn1, hn2⟩, hx2, hx3, hx4, hx5⟩ := hb.at (i := i.toNat) (by omega)
  rw [at_get h0 (by omega)] at hn1 hn2 hx3 hx5
  exact ⟨nv, hn1, hn2, hb.ixI _ h0 h1, hx3, hx4, hx5⟩
theorem P_set {ro : Ro} {h hr : T Obj} {b : Value} {g : GlD} (hb : SlR ro h b 9 (RPos ro hr) g.p) {i : Int} (h0 : 0 ≤ i) (h1 : i < g.p.length) : loadA ro h 4 (elPtrK 9 b i.toNat 0) = some (setV (g.at i).s) := by
  obtain ⟨x, ⟨nv, rfl, hn1, hn2⟩, hx⟩ := hb.loadAK (i := i.toNat) (by omega)
  rw [at_get h0 (by omega)] at hx
  exact hx 0 4 (by simp [posL, setL])
theorem rz_len : ∀ {l : List Int} {a m : Int}, rz a m l = true → a < m → (l.length : Int) + a + 1 ≤ m
  | [], a, m, h, ha => by simp; omega
  | y :: r, a, m, h, ha => by
    simp only [rz, Bool.and_eq_true, decide_eq_true_eq] at h
    have := rz_len h.2.2 (by omega)
    rw [List.length_cons]; omega
theorem held_len {g : GlD} {c : CfgD} (hg : rightD g = true) (hc : fitsD g c = true) {k : Nat} (hk : k < c.l.length) : (c.l[k]).n.length ≤ 4096 := by
  have h1 := fits_at hc hk
  have h2 := may_spec (right_at hg h1.1 h1.2.1)
  have := rz_len h1.2.2.2 (by omega)
  omega
set_option maxRecDepth 4000 in
theorem ref10_ripe_c {ro : Ro} {v nv : Value} {g : GlD} {d : HeldD} (h0 : 0 ≤ d.p) (h1 : d.p < g.p.length) (hne : d.n ≠ []) (hlen : d.n.length ≤ 1000000) {h : T Obj} {nx : Nat} {K : KV} (hf : Fr h nx) (hg : RG ro h v g) (hn : ZI ro h nv d.n) (hK : ∀ nx', nx ≤ nx' → K (.bool (ripeD g d)) h nx') : callP Try.prog ro i_ref10_ripe [v, .agg #[.int .i64 d.p, nv]] h nx K := by
  obtain ⟨a, b, rfl, ha, hP⟩ := hg
  apply ref10_ripe_of
  unfold ref10_ripe
  refine param_mk hf (Nat.le_refl _) fun h2 hs1 hf1 g1 _ => ?_
  refine param_mk hf1 (Nat.le_refl _) fun h3 hs2 hf2 g2 _ => ?_
  have g1 := hs2 _ _ g1
  have hs := hs1.trans hs2
  have hP := hP.sub hs (RPos.sub hs)
  have hn := hn.sub hs
  have hnl := hn.len
  have hl0 : 0 < d.n.length := List.length_pos_iff.2 hne
  obtain ⟨pv, -, -, p3, -, p5, p6⟩ := P_at hP (i := d.p) h0 h1
  have p7 := p6 4 _ rfl
  (repeat (first | refine bindP_mk (by simp (disch := first | omega | exact Int.natCast_nonneg _ | assumption) only [BB, B2, ↓reduceIte, Nat.reduceLeDiff, Nat.reduceAdd, CC, g1, g2, hnl] <;> rfl) ?_ | refine newP_mk ?_ | refine optP_mk ?_ | with_reducible first | refine condP_t ?_ | refine condP_f ?_ | refine ifP_tt' ?_ | refine ifP_ff' ?_ | refine ifP_tf' ?_ | refine ifP_ft' ?_ | refine ifP_u' ?_ | refine optP_mk0 ?_))
  refine bindP_mk (hn.ixI _ (by omega) (by omega)) ?_
  rw [show ((d.n.length : Int) - 1).toNat = d.n.length - 1 by omega]
  refine bindP_mk (hn.load' (last_get hne)) ?_
  (repeat (first | refine bindP_mk (by simp (disch := first | omega | exact Int.natCast_nonneg _ | assumption) only [BB, B2, ↓reduceIte, Nat.reduceLeDiff, Nat.reduceAdd, CC, g1, g2, p3, p5, p7] <;> rfl) ?_ | refine newP_mk ?_ | refine optP_mk ?_ | with_reducible first | refine condP_t ?_ | refine condP_f ?_ | refine ifP_tt' ?_ | refine ifP_ff' ?_ | refine ifP_tf' ?_ | refine ifP_ft' ?_ | refine ifP_u' ?_ | refine optP_mk0 ?_))
  unfold ripeD at hK
  (first | refine lss_s (fun hb => ?_) (fun hb => ?_) | refine leq_s (fun hb => ?_) (fun hb => ?_) | refine gtr_s (fun hb => ?_) (fun hb => ?_) | refine geq_s (fun hb => ?_) (fun hb => ?_) | refine eql_s (fun hb => ?_) (fun hb => ?_) | refine neq_s (fun hb => ?_) (fun hb => ?_))
  · exact ⟨h, hs, kb hK (decide_eq_true (by omega)) (by omega)⟩
  · exact ⟨h, hs, kb hK (decide_eq_false (by omega)) (by omega)⟩
set_option maxRecDepth 4000 in
theorem ref10_rule_c {ro : Ro} {v w : Value} {g : GlD} {c : CfgD} (hr : rightD g = true) (hft : fitsD g c = true) {h : T Obj} {nx : Nat} {K : KV} (hf : Fr h nx) (hg : RG ro h v g) (hc : RCfg ro h w c) (hK : ∀ nx', nx ≤ nx' → K (.int .i64 (ruleD g c)) h nx') : callP Try.prog ro i_ref10_rule [v, w] h nx K := by
  obtain ⟨a, b, rfl, ha, hP⟩ := hg
  obtain ⟨a2, rfl, hl⟩ := hc
  apply ref10_rule_of
  unfold ref10_rule
  refine param_mk hf (Nat.le_refl _) fun h1 hs1 hf1 g1 _ => ?_
  refine param_mk hf1 (Nat.le_refl _) fun h2 hs2 hf2 g2 _ => ?_
  have g1 := hs2 _ _ g1
  have hs := hs1.trans hs2
  have hP := hP.sub hs (RPos.sub hs)
  have ha := ha.sub hs
  have hl := hl.sub hs (RHeld.sub hs)
  have hll := hl.len
  have hlen := right_len hr
  have hlen2 := fits_len hft
  unfold ruleD at hK
  generalize hR : rul g (-1) c.l = R at hK
  refine loopP_rule (fun j e h' nx' => ∃ (k : Nat) (best : Int), k + j = c.l.length ∧ nx + 2 ≤ nx' ∧ h' = h2 ∧ e 2 = ptr nx ∧ e 3 = ptr (nx + 1) ∧ e 5 = .int .i64 best ∧ e 6 = .int .i64 k ∧ rul g best (c.l.drop k) = R) ?_ (n := c.l.length) ⟨0, -1, by omega, by omega, rfl, rfl, rfl, rfl, rfl, hR⟩
  rintro j e h' nx' ⟨k, best, hj, hnx, rfl, e2, e3, e5, e6, hr2⟩ Q' hq hx
  unfold ref10_rule_L1
  rw [e2, e3, e5, e6]
  (repeat (first | refine bindP_mk (by simp (disch := first | omega | exact Int.natCast_nonneg _ | assumption) only [BB, B2, ↓reduceIte, Nat.reduceLeDiff, Nat.reduceAdd, CC, g1, g2, hll] <;> rfl) ?_ | refine newP_mk ?_ | refine optP_mk ?_ | with_reducible first | refine condP_t ?_ | refine condP_f ?_ | refine ifP_tt' ?_ | refine ifP_ff' ?_ | refine ifP_tf' ?_ | refine ifP_ft' ?_ | refine ifP_u' ?_ | refine optP_mk0 ?_))
  refine lss_s (fun hk => ?_) (fun hk => ?_)
  · have hk : k < c.l.length := by omega
    have hin := fits_at hft hk
    have hdl := held_len hr hft hk
    rw [drop_cons hk, rul_cons] at hr2
    obtain ⟨x, ⟨nv, rfl, hn1⟩, hx2, hx3, hx4, hx5⟩ := hl.at hk
    generalize c.l[k] = d at hr2 hx2 hx3 hx5 hn1 hin hdl
    obtain ⟨i1, i2, i3, i4⟩ := hin
    have hix := hl.ix .i64 hk
    have hp0 := hx5 0 _ rfl
    obtain ⟨pv, q1, q2, p3, p4, p5, p6⟩ := P_at hP (i := d.p) i1 i2
    (repeat (first | refine bindP_mk (by simp (disch := first | omega | exact Int.natCast_nonneg _ | assumption) only [BB, B2, ↓reduceIte, Nat.reduceLeDiff, Nat.reduceAdd, CC, g1, g2, hix, hx4, hp0, p3, p4] <;> rfl) ?_ | refine newP_mk ?_ | refine optP_mk ?_ | with_reducible first | refine condP_t ?_ | refine condP_f ?_ | refine ifP_tt' ?_ | refine ifP_ff' ?_ | refine ifP_tf' ?_ | refine ifP_ft' ?_ | refine ifP_u' ?_ | refine optP_mk0 ?_))
    refine local_mk zer_Pos rfl rfl rfl (posL_ok q1.ok) hf2 (by omega) fun h4 hs4 hf4 g4 _ => ?_
    have g14 := hs4 _ _ g1
    have g24 := hs4 _ _ g2
    have hn4 := hn1.sub hs4
    have hl4 := hl.sub hs4 (RHeld.sub hs4)
    have hG4 : RG ro h4 (.agg #[a, b]) g := ⟨a, b, rfl, ha.sub hs4, hP.sub hs4 (RPos.sub hs4)⟩
    have hx34 : loadA ro h4 2 (elPtr 2 a2 k) = some (.agg #[.int .i64 d.p, nv]) := by
      unfold V.loadA at hx3 ⊢
      obtain ⟨ad, y1, y2⟩ := bind_some' hx3
      obtain ⟨l9, y3, y4⟩ := bind_some' y2
      rw [y1, Option.bind_some, cellsAt_sub hs4 y3, Option.bind_some, y4]
    have hok : ∀ (e' : Env) n (best' : Int), e' 2 = ptr nx → e' 3 = ptr (nx + 1) → e' 5 = .int .i64 best' → e' 6 = .int .i64 k → (if (g.at d.p).last && (ripeD g d && (decide (best < 0) || decide ((g.at d.p).rule < best))) then (g.at d.p).rule else best) = best' → nx + 2 ≤ n → ref10_rule_j2 ro Q' e' h4 n := by
      intro e' n best' f2 f3 f5 f6 hb hn
      unfold ref10_rule_j2
      rw [f6]
      (repeat (first | refine bindP_mk (by simp (disch := first | omega | exact Int.natCast_nonneg _ | assumption) only [BB, B2, ↓reduceIte, Nat.reduceLeDiff, Nat.reduceAdd, CC] <;> rfl) ?_ | refine newP_mk ?_ | refine optP_mk ?_ | with_reducible first | refine condP_t ?_ | refine condP_f ?_ | refine ifP_tt' ?_ | refine ifP_ff' ?_ | refine ifP_tf' ?_ | refine ifP_ft' ?_ | refine ifP_u' ?_ | refine optP_mk0 ?_))
      rw [hb] at hr2
      exact hq (j - 1) _ h' _ _ (by omega) ⟨k + 1, best', by omega, by omega, rfl, f2, f3, f5, rfl, hr2⟩ hs4
    (repeat (first | refine bindP_mk (by simp (disch := first | omega | exact Int.natCast_nonneg _ | assumption) only [BB, B2, ↓reduceIte, Nat.reduceLeDiff, Nat.reduceAdd, CC, g4] <;> rfl) ?_ | refine newP_mk ?_ | refine optP_mk ?_ | with_reducible first | refine condP_t ?_ | refine condP_f ?_ | refine ifP_tt' ?_ | refine ifP_ff' ?_ | refine ifP_tf' ?_ | refine ifP_ft' ?_ | refine ifP_u' ?_ | refine optP_mk0 ?_))
    cases hla : (g.at d.p).last with
    | false =>
      rw [hla] at hok
      (repeat (first | refine bindP_mk (by simp (disch := first | omega | exact Int.natCast_nonneg _ | assumption) only [BB, B2, ↓reduceIte, Nat.reduceLeDiff, Nat.reduceAdd, CC] <;> rfl) ?_ | refine newP_mk ?_ | refine optP_mk ?_ | with_reducible first | refine condP_t ?_ | refine condP_f ?_ | refine ifP_tt' ?_ | refine ifP_ff' ?_ | refine ifP_tf' ?_ | refine ifP_ft' ?_ | refine ifP_u' ?_ | refine optP_mk0 ?_))
      exact hok _ _ best e2 e3 e5 e6 (if_neg (by simp)) (by omega)
    | true =>
      rw [hla] at hok
      (repeat (first | refine bindP_mk (by simp (disch := first | omega | exact Int.natCast_nonneg _ | assumption) only [BB, B2, ↓reduceIte, Nat.reduceLeDiff, Nat.reduceAdd, CC] <;> rfl) ?_ | refine newP_mk ?_ | refine optP_mk ?_ | with_reducible first | refine condP_t ?_ | refine condP_f ?_ | refine ifP_tt' ?_ | refine ifP_ff' ?_ | refine ifP_tf' ?_ | refine ifP_ft' ?_ | refine ifP_u' ?_ | refine optP_mk0 ?_))
      refine bindP_mk (loadA_all (l := [a, b]) g14 rfl) ?_
      (repeat (first | refine bindP_mk (by simp (disch := first | omega | exact Int.natCast_nonneg _ | assumption) only [BB, B2, ↓reduceIte, Nat.reduceLeDiff, Nat.reduceAdd, CC, g24, hix] <;> rfl) ?_ | refine newP_mk ?_ | refine optP_mk ?_ | with_reducible first | refine condP_t ?_ | refine condP_f ?_ | refine ifP_tt' ?_ | refine ifP_ff' ?_ | refine ifP_tf' ?_ | refine ifP_ft' ?_ | refine ifP_u' ?_ | refine optP_mk0 ?_))
      refine bindP_mk hx34 ?_
      (repeat (first | refine bindP_mk (by simp (disch := first | omega | exact Int.natCast_nonneg _ | assumption) only [BB, B2, ↓reduceIte, Nat.reduceLeDiff, Nat.reduceAdd, CC] <;> rfl) ?_ | refine newP_mk ?_ | refine optP_mk ?_ | with_reducible first | refine condP_t ?_ | refine condP_f ?_ | refine ifP_tt' ?_ | refine ifP_ff' ?_ | refine ifP_tf' ?_ | refine ifP_ft' ?_ | refine ifP_u' ?_ | refine optP_mk0 ?_))
      refine ref10_ripe_c i1 i2 i3 (by omega) (hf4.mono (by omega)) hG4 hn4 fun n hn => ?_
      cases hri : ripeD g d with
      | false =>
        rw [hri] at hok
        (repeat (first | refine bindP_mk (by simp (disch := first | omega | exact Int.natCast_nonneg _ | assumption) only [BB, B2, ↓reduceIte, Nat.reduceLeDiff, Nat.reduceAdd, CC] <;> rfl) ?_ | refine newP_mk ?_ | refine optP_mk ?_ | with_reducible first | refine condP_t ?_ | refine condP_f ?_ | refine ifP_tt' ?_ | refine ifP_ff' ?_ | refine ifP_tf' ?_ | refine ifP_ft' ?_ | refine ifP_u' ?_ | refine optP_mk0 ?_))
        exact hok _ _ best e2 e3 e5 e6 (if_neg (by simp)) (by omega)
      | true =>
        rw [hri] at hok
        (repeat (first | refine bindP_mk (by simp (disch := first | omega | exact Int.natCast_nonneg _ | assumption) only [BB, B2, ↓reduceIte, Nat.reduceLeDiff, Nat.reduceAdd, CC] <;> rfl) ?_ | refine newP_mk ?_ | refine optP_mk ?_ | with_reducible first | refine condP_t ?_ | refine condP_f ?_ | refine ifP_tt' ?_ | refine ifP_ff' ?_ | refine ifP_tf' ?_ | refine ifP_ft' ?_ | refine ifP_u' ?_ | refine optP_mk0 ?_))
        (first | refine lss_s (fun hb => ?_) (fun hb => ?_) | refine leq_s (fun hb => ?_) (fun hb => ?_) | refine gtr_s (fun hb => ?_) (fun hb => ?_) | refine geq_s (fun hb => ?_) (fun hb => ?_) | refine eql_s (fun hb => ?_) (fun hb => ?_) | refine neq_s (fun hb => ?_) (fun hb => ?_))
        · (repeat (first | refine bindP_mk (by simp (disch := first | omega | exact Int.natCast_nonneg _ | assumption) only [BB, B2, ↓reduceIte, Nat.reduceLeDiff, Nat.reduceAdd, CC, g4] <;> rfl) ?_ | refine newP_mk ?_ | refine optP_mk ?_ | with_reducible first | refine condP_t ?_ | refine condP_f ?_ | refine ifP_tt' ?_ | refine ifP_ff' ?_ | refine ifP_tf' ?_ | refine ifP_ft' ?_ | refine ifP_u' ?_ | refine optP_mk0 ?_))
          exact hok _ _ _ e2 e3 rfl e6 (if_pos (by rw [decide_eq_true (by omega)]; rfl)) (by omega)
        · (repeat (first | refine bindP_mk (by simp (disch := first | omega | exact Int.natCast_nonneg _ | assumption) only [BB, B2, ↓reduceIte, Nat.reduceLeDiff, Nat.reduceAdd, CC, g4] <;> rfl) ?_ | refine newP_mk ?_ | refine optP_mk ?_ | with_reducible first | refine condP_t ?_ | refine condP_f ?_ | refine ifP_tt' ?_ | refine ifP_ff' ?_ | refine ifP_tf' ?_ | refine ifP_ft' ?_ | refine ifP_u' ?_ | refine optP_mk0 ?_))
          (first | refine lss_s (fun hb => ?_) (fun hb => ?_) | refine leq_s (fun hb => ?_) (fun hb => ?_) | refine gtr_s (fun hb => ?_) (fun hb => ?_) | refine geq_s (fun hb => ?_) (fun hb => ?_) | refine eql_s (fun hb => ?_) (fun hb => ?_) | refine neq_s (fun hb => ?_) (fun hb => ?_))
          · (repeat (first | refine bindP_mk (by simp (disch := first | omega | exact Int.natCast_nonneg _ | assumption) only [BB, B2, ↓reduceIte, Nat.reduceLeDiff, Nat.reduceAdd, CC, g4] <;> rfl) ?_ | refine newP_mk ?_ | refine optP_mk ?_ | with_reducible first | refine condP_t ?_ | refine condP_f ?_ | refine ifP_tt' ?_ | refine ifP_ff' ?_ | refine ifP_tf' ?_ | refine ifP_ft' ?_ | refine ifP_u' ?_ | refine optP_mk0 ?_))
            exact hok _ _ _ e2 e3 rfl e6 (if_pos (by rw [decide_eq_true (show (g.at d.p).rule < best by omega)]; simp)) (by omega)
          · (repeat (first | refine bindP_mk (by simp (disch := first | omega | exact Int.natCast_nonneg _ | assumption) only [BB, B2, ↓reduceIte, Nat.reduceLeDiff, Nat.reduceAdd, CC, g4] <;> rfl) ?_ | refine newP_mk ?_ | refine optP_mk ?_ | with_reducible first | refine condP_t ?_ | refine condP_f ?_ | refine ifP_tt' ?_ | refine ifP_ff' ?_ | refine ifP_tf' ?_ | refine ifP_ft' ?_ | refine ifP_u' ?_ | refine optP_mk0 ?_))
            exact hok _ _ best e2 e3 e5 e6 (if_neg (by rw [decide_eq_false (show ¬ best < 0 by omega), decide_eq_false (show ¬ (g.at d.p).rule < best by omega)]; simp)) (by omega)
  · (repeat (first | refine bindP_mk (by simp (disch := first | omega | exact Int.natCast_nonneg _ | assumption) only [BB, B2, ↓reduceIte, Nat.reduceLeDiff, Nat.reduceAdd, CC] <;> rfl) ?_ | refine newP_mk ?_ | refine optP_mk ?_ | with_reducible first | refine condP_t ?_ | refine condP_f ?_ | refine ifP_tt' ?_ | refine ifP_ff' ?_ | refine ifP_tf' ?_ | refine ifP_ft' ?_ | refine ifP_u' ?_ | refine optP_mk0 ?_))
    refine hx _ _ _ _ (fun e => by cases e) (exP_e (beqP_t ?_))
    unfold ref10_rule_j1
    rw [drop_all (by omega)] at hr2
    refine ⟨h, hs, ?_⟩
    show K (e 5) h _
    rw [e5]
    exact ki hK hr2.symm (by omega)
theorem stays_snoc (g : GlD) (q : Int) (L : List HeldD) (d : HeldD) : staysL g q (L ++ [d]) = staysL g q L ++ (if d.p = q then upD (g.at q).hi d.n else []) := by simp [staysL]
theorem upD_snoc (hi : Int) (l : List Int) (x : Int) : upD hi (l ++ [x]) = upD hi l ++ (if x < hi then [x + 1] else []) := by
  unfold upD
  rw [List.filter_append, List.map_append]
  by_cases h : x < hi
  · rw [if_pos h, List.filter_cons_of_pos (by simpa using h)]; rfl
  · rw [if_neg h, List.filter_cons_of_neg (by simpa using h)]; rfl
theorem lit_i64' (aid : Nat) (b : Int) : sliceLitV Try.prog y_s_int aid 1 [(0, .int .i64 b)] = some (.slice (some (own aid 1)) 1 1, some (.cells #[.int .i64 b] y_int)) := by kernel_rfl
theorem und_ints : und Try.prog y_s_int = some (.slice y_int) := by kernel_rfl
theorem und_helds : und Try.prog y_s_api_Held = some (.slice y_api_Held) := by kernel_rfl
theorem tin_of {t : TypeId} {s b : Nat} (h : (tin Try.prog t).map (fun i => (i.size, i.bytes)) = some (s, b)) : ∃ i, tin Try.prog t = some i ∧ i.size = s ∧ i.bytes = b := by
  cases hi : tin Try.prog t with
  | none => rw [hi] at h; cases h
  | some i => rw [hi] at h; simp at h; exact ⟨i, rfl, h.1, h.2⟩
theorem tin_int : ∃ i, tin Try.prog y_int = some i ∧ i.size = 1 ∧ i.bytes = 8 := tin_of (by kernel_rfl)
theorem tin_held : ∃ i, tin Try.prog y_api_Held = some i ∧ i.size = 2 ∧ i.bytes = 32 := tin_of (by kernel_rfl)
theorem zer_int : zer Try.prog y_int = some (.int .i64 0) := by kernel_rfl
theorem zer_Config : zer Try.prog y_api_Config = some (.agg #[.bool false, .slice none 0 0]) := by kernel_rfl
theorem lit_held (aid : Nat) (q w : Value) : sliceLitV Try.prog y_s_api_Held aid 1 [(0, .agg #[q, w])] = some (.slice (some (own aid 2)) 1 1, some (.cells #[q, w] y_api_Held)) := by kernel_rfl
theorem build_held (q w : Value) (hw : w.cells = #[w]) (hq : q.cells = #[q]) : buildV Try.prog y_api_Held [(0, q), (1, w)] = some (.agg #[q, w]) := by
  have hz := zer_Held
  have hp : (match und Try.prog y_api_Held with | some (.struct fs) => placesV Try.prog fs.toList | _ => none) = some [(0, 1), (1, 1)] := by kernel_rfl
  unfold buildV
  rw [hz]
  simp only [Option.bind]
  cases hu : und Try.prog y_api_Held with
  | none => rw [hu] at hp; cases hp
  | some d =>
    rw [hu] at hp
    cases d <;> try (cases hp; done)
    rename_i fs
    simp only at hp ⊢
    rw [hp]
    simp only [fillV, hq, hw]
    rfl
theorem OwnT.one {h : T Obj} {v : Value} {z : Nat} {e : TypeId} {l : List (List Value)} {lo : Nat} (ho : OwnT h v z e l lo) : v.cells = #[v] ∧ cellOk v = true := by
  rcases ho with ⟨rfl, _⟩ | ⟨id, _, rfl, _⟩ <;> exact ⟨rfl, rfl⟩
theorem kp_off {h h' : T Obj} {O : Nat} (hk : ∀ k, k ≠ O → h'.get k = h.get k) : Kp (.slice (some (own O 1)) 0 0) h h' := fun k o hk0 hne => by
  rw [hk k fun e => hne (by rw [e]; rfl)]; exact hk0
theorem OwnT.off {h h' : T Obj} {O z lo : Nat} {v : Value} {l : List (List Value)} {e e' : TypeId} {c : Array Value} {f : Nat × Nat} (ho : OwnT h v z e l lo) (hk : ∀ k, k ≠ O → h'.get k = h.get k) (hg : h.get O = some (.cells c e' f)) (he : e' ≠ e) : OwnT h' v z e l lo := by
  refine ho.keep (kp_off hk) fun id hid hO => ?_
  have : O = id := Option.some.inj hO
  subst this
  exact ho.ne hg he hid
def EL (h : T Obj) (ys : List (List Value)) (Ds : List HeldD) (lo : Nat) : Prop := ys.length = Ds.length ∧ ∀ (i : Nat) y d, ys[i]? = some y → Ds[i]? = some d → ∃ w, y = [.int .i64 d.p, w] ∧ OwnT h w 1 y_int (intsZ d.n) lo
theorem EL.snoc {h : T Obj} {ys : List (List Value)} {Ds : List HeldD} {lo : Nat} {d : HeldD} {w : Value} (he : EL h ys Ds lo) (hw : OwnT h w 1 y_int (intsZ d.n) lo) : EL h (ys ++ [[.int .i64 d.p, w]]) (Ds ++ [d]) lo := by
  refine ⟨by simp [he.1], fun i y d' hy hd => ?_⟩
  rw [List.getElem?_append] at hy hd
  by_cases hi : i < ys.length
  · rw [if_pos hi] at hy
    rw [if_pos (by rw [← he.1]; exact hi)] at hd
    exact he.2 i y d' hy hd
  · rw [if_neg hi] at hy
    rw [if_neg (by rw [← he.1]; exact hi)] at hd
    have h1 : i - ys.length = 0 := by
      have := (List.getElem?_eq_some_iff.1 hy).1
      simp at this; omega
    rw [h1] at hy
    rw [← he.1, h1] at hd
    simp at hy hd
    subst hy; subst hd
    exact ⟨w, rfl, hw⟩
theorem EL.imp {h h' : T Obj} {ys : List (List Value)} {Ds : List HeldD} {lo : Nat} (he : EL h ys Ds lo) (hw : ∀ w l, OwnT h w 1 y_int l lo → OwnT h' w 1 y_int l lo) : EL h' ys Ds lo :=
  ⟨he.1, fun i y d hy hd => by obtain ⟨w, h1, h2⟩ := he.2 i y d hy hd; exact ⟨w, h1, hw _ _ h2⟩⟩
theorem EL.slr {ro : Ro} {h : T Obj} {v : Value} {ys : List (List Value)} {Ds : List HeldD} {lo : Nat} (he : EL h ys Ds lo) (hv : Sl ro h v 2 ys) : SlR ro h v 2 (RHeld ro h) Ds :=
  ⟨ys, hv, he.1, fun i y d hy hd => by obtain ⟨w, h1, h2⟩ := he.2 i y d hy hd; exact ⟨w, h1, h2.sl⟩⟩
theorem OwnT.hi {h h' : T Obj} {v : Value} {z : Nat} {e : TypeId} {l : List (List Value)} {lo : Nat} (ho : OwnT h v z e l lo) (hk : ∀ k, lo ≤ k → h'.get k = h.get k) : OwnT h' v z e l lo := by
  rcases ho with ho | ⟨id, h1, h2, h3, h4⟩
  · exact .inl ho
  · exact .inr ⟨id, h1, h2, h3, by rw [hk id h1]; exact h4⟩
def RCfgS (ro : Ro) (h : T Obj) (v : Value) (c : CfgD) (lo : Nat) : Prop := ∀ h5 : T Obj, (∀ k, lo ≤ k → h5.get k = h.get k) → RCfg ro h5 v c
theorem RCfgS.now {ro : Ro} {h : T Obj} {v : Value} {c : CfgD} {lo : Nat} (hc : RCfgS ro h v c lo) : RCfg ro h v c := hc h fun _ _ => rfl
theorem two_ok {b : Bool} {v : Value} (h : cellOk v = true) : [Value.bool b, v].all cellOk = true := by
  have : [Value.bool b, v].all cellOk = (cellOk v && true) := rfl
  rw [this, h]; rfl
theorem tyne : y_int ≠ y_api_Held ∧ y_s_int ≠ y_api_Held ∧ y_api_Config ≠ y_api_Held ∧ y_api_Config ≠ y_int ∧ y_api_Held ≠ y_int ∧ y_s_int ≠ y_int := by decide
theorem upD_len (hi : Int) (l : List Int) : (upD hi l).length ≤ l.length := by
  unfold upD
  rw [List.length_map]; exact List.length_filter_le _ _
theorem stays_len {g : GlD} {q : Int} : ∀ {l : List HeldD}, (∀ x ∈ l, x.n.length ≤ 4096) → (staysL g q l).length ≤ l.length * 4096
  | [], _ => by simp [staysL]
  | d :: r, h => by
    have h1 := stays_len (g := g) (q := q) (l := r) fun x hx => h x (by simp [hx])
    have h2 := h d (by simp)
    have e : staysL g q (d :: r) = (if d.p = q then upD (g.at q).hi d.n else []) ++ staysL g q r := by simp [staysL]
    rw [e, List.length_append, List.length_cons, Nat.add_mul]
    have h3 := upD_len (g.at q).hi d.n
    by_cases e : d.p = q
    · rw [if_pos e]; omega
    · rw [if_neg e, List.length_nil]; omega
theorem held_all {g : GlD} {c : CfgD} (hg : rightD g = true) (hc : fitsD g c = true) : ∀ x ∈ c.l, x.n.length ≤ 4096 := fun x hx => by
  obtain ⟨k, hk, rfl⟩ := List.getElem_of_mem hx
  exact held_len hg hc hk
theorem build_Config0 : buildV Try.prog y_api_Config [] = some (.agg #[.bool false, .slice none 0 0]) := by kernel_rfl
theorem ref10_in_c {ro : Ro} {v : Value} {l : List Int} {p : Int} (hlen : l.length ≤ 1000000) {h : T Obj} {nx : Nat} {K : KV} (hv : ZI ro h v l) (hK : ∀ nx', nx ≤ nx' → K (.bool (l.contains p)) h nx') : callP Try.prog ro i_ref10_in [v, .int .i64 p] h nx K := by
  apply ref10_in_of
  unfold ref10_in
  generalize hR : l.contains p = R at hK
  refine loopP_rule (fun j e h' nx' => ∃ (k : Nat), k + j = l.length ∧ nx ≤ nx' ∧ h' = h ∧ e 0 = v ∧ e 1 = .int .i64 p ∧ e 5 = .int .i64 k ∧ (l.drop k).contains p = R) ?_ (n := l.length) ⟨0, by omega, by omega, rfl, rfl, rfl, rfl, hR⟩
  rintro j e h' nx' ⟨k, hj, hnx, rfl, e0, e1, e5, hr⟩ Q' hq hx
  unfold ref10_in_L1
  rw [e0, e1, e5]
  refine bindP_mk hv.len ?_
  refine lss_s (fun hk => ?_) (fun hk => ?_)
  · have hk : k < l.length := by omega
    rw [drop_cons hk] at hr
    (repeat (first | refine bindP_mk (by simp (disch := first | omega | exact Int.natCast_nonneg _ | assumption) only [BB, B2, ↓reduceIte, Nat.reduceLeDiff, Nat.reduceAdd, CC] <;> rfl) ?_ | refine newP_mk ?_ | refine optP_mk ?_ | with_reducible first | refine condP_t ?_ | refine condP_f ?_ | refine ifP_tt' ?_ | refine ifP_ff' ?_ | refine ifP_tf' ?_ | refine ifP_ft' ?_ | refine ifP_u' ?_ | refine optP_mk0 ?_))
    refine bindP_mk (hv.ix _ hk) (bindP_mk (hv.load hk) ?_)
    generalize l[k] = x at hr
    refine eql_s (fun he => ?_) (fun he => ?_)
    · (repeat (first | refine bindP_mk (by simp (disch := first | omega | exact Int.natCast_nonneg _ | assumption) only [BB, B2, ↓reduceIte, Nat.reduceLeDiff, Nat.reduceAdd, CC] <;> rfl) ?_ | refine newP_mk ?_ | refine optP_mk ?_ | with_reducible first | refine condP_t ?_ | refine condP_f ?_ | refine ifP_tt' ?_ | refine ifP_ff' ?_ | refine ifP_tf' ?_ | refine ifP_ft' ?_ | refine ifP_u' ?_ | refine optP_mk0 ?_))
      refine hx _ _ _ _ (fun e => by cases e) (exP_r ?_)
      exact ⟨_, Sub.refl _, kb hK (by rw [← hr, he]; simp) (by omega)⟩
    · (repeat (first | refine bindP_mk (by simp (disch := first | omega | exact Int.natCast_nonneg _ | assumption) only [BB, B2, ↓reduceIte, Nat.reduceLeDiff, Nat.reduceAdd, CC] <;> rfl) ?_ | refine newP_mk ?_ | refine optP_mk ?_ | with_reducible first | refine condP_t ?_ | refine condP_f ?_ | refine ifP_tt' ?_ | refine ifP_ff' ?_ | refine ifP_tf' ?_ | refine ifP_ft' ?_ | refine ifP_u' ?_ | refine optP_mk0 ?_))
      refine hq (j - 1) _ _ _ _ (by omega) ⟨k + 1, by omega, by omega, rfl, e0, e1, rfl, ?_⟩ (Sub.refl _)
      rw [← hr, List.contains_cons, beq_eq_false_iff_ne.2 (Ne.symm he), Bool.false_or]
  · (repeat (first | refine bindP_mk (by simp (disch := first | omega | exact Int.natCast_nonneg _ | assumption) only [BB, B2, ↓reduceIte, Nat.reduceLeDiff, Nat.reduceAdd, CC] <;> rfl) ?_ | refine newP_mk ?_ | refine optP_mk ?_ | with_reducible first | refine condP_t ?_ | refine condP_f ?_ | refine ifP_tt' ?_ | refine ifP_ff' ?_ | refine ifP_tf' ?_ | refine ifP_ft' ?_ | refine ifP_u' ?_ | refine optP_mk0 ?_))
    refine hx _ _ _ _ (fun e => by cases e) (exP_e (beqP_t ?_))
    unfold ref10_in_j1
    rw [drop_all (by omega)] at hr
    exact ⟨_, Sub.refl _, kb hK hr.symm (by omega)⟩
theorem next_len {g : GlD} (hr : rightD g = true) {i : Int} (h0 : 0 ≤ i) (h1 : i < g.p.length) : (g.at i).next.length ≤ 512 := by
  have h2 := may_spec (right_at hr h0 h1)
  have h3 := rz_len h2.2.2.2.2.2.2 (by omega)
  have := right_len hr
  omega
theorem first_rz {g : GlD} (hr : rightD g = true) : rz (-1) g.p.length g.first = true := by
  unfold rightD at hr
  simp only [Bool.and_eq_true] at hr
  exact hr.2.1
theorem first_lenq {g : GlD} (hr : rightD g = true) : g.first.length ≤ 512 := by
  have h3 := rz_len (first_rz hr) (by omega)
  have := right_len hr
  omega
set_option maxRecDepth 4000 in
theorem ref10_enters_c {ro : Ro} {v w : Value} {g : GlD} {c : CfgD} {q : Int} (hr : rightD g = true) (hft : fitsD g c = true) {h : T Obj} {nx : Nat} {K : KV} (hf : Fr h nx) (hg : RG ro h v g) (hc : RCfg ro h w c) (hK : ∀ nx', nx ≤ nx' → K (.bool (entersD g c q)) h nx') : callP Try.prog ro i_ref10_enters [v, w, .int .i64 q] h nx K := by
  obtain ⟨a, b, rfl, ha, hP⟩ := hg
  obtain ⟨a2, rfl, hl⟩ := hc
  apply ref10_enters_of
  unfold ref10_enters
  refine param_mk hf (Nat.le_refl _) fun h1 hs1 hf1 g1 _ => ?_
  refine param_mk hf1 (Nat.le_refl _) fun h2 hs2 hf2 g2 _ => ?_
  have g1 := hs2 _ _ g1
  have hs := hs1.trans hs2
  have hP := hP.sub hs (RPos.sub hs)
  have ha := ha.sub hs
  have hl := hl.sub hs (RHeld.sub hs)
  have hll := hl.len
  have hlen := right_len hr
  have hlen2 := fits_len hft
  have hG : RG ro h2 (.agg #[a, b]) g := ⟨a, b, rfl, ha, hP⟩
  unfold entersD at hK
  (repeat (first | refine bindP_mk (by simp (disch := first | omega | exact Int.natCast_nonneg _ | assumption) only [BB, B2, ↓reduceIte, Nat.reduceLeDiff, Nat.reduceAdd, CC, g1, g2] <;> rfl) ?_ | refine newP_mk ?_ | refine optP_mk ?_ | with_reducible first | refine condP_t ?_ | refine condP_f ?_ | refine ifP_tt' ?_ | refine ifP_ff' ?_ | refine ifP_tf' ?_ | refine ifP_ft' ?_ | refine ifP_u' ?_ | refine optP_mk0 ?_))
  cases hcb : c.b with
  | true =>
    rw [hcb, if_pos rfl] at hK
    (repeat (first | refine bindP_mk (by simp (disch := first | omega | exact Int.natCast_nonneg _ | assumption) only [BB, B2, ↓reduceIte, Nat.reduceLeDiff, Nat.reduceAdd, CC, g1] <;> rfl) ?_ | refine newP_mk ?_ | refine optP_mk ?_ | with_reducible first | refine condP_t ?_ | refine condP_f ?_ | refine ifP_tt' ?_ | refine ifP_ff' ?_ | refine ifP_tf' ?_ | refine ifP_ft' ?_ | refine ifP_u' ?_ | refine optP_mk0 ?_))
    have := first_lenq hr
    exact ref10_in_c (by omega) ha fun n hn => ⟨h, hs, hK _ (by omega)⟩
  | false =>
    rw [hcb, if_neg (by decide)] at hK
    (repeat (first | refine bindP_mk (by simp (disch := first | omega | exact Int.natCast_nonneg _ | assumption) only [BB, B2, ↓reduceIte, Nat.reduceLeDiff, Nat.reduceAdd, CC] <;> rfl) ?_ | refine newP_mk ?_ | refine optP_mk ?_ | with_reducible first | refine condP_t ?_ | refine condP_f ?_ | refine ifP_tt' ?_ | refine ifP_ff' ?_ | refine ifP_tf' ?_ | refine ifP_ft' ?_ | refine ifP_u' ?_ | refine optP_mk0 ?_))
    generalize hR : (c.l.any fun h => ripeD g h && (g.at h.p).next.contains q) = R at hK
    refine loopP_rule (fun j e h' nx' => ∃ (k : Nat), k + j = c.l.length ∧ nx + 2 ≤ nx' ∧ h' = h2 ∧ e 2 = .int .i64 q ∧ e 3 = ptr nx ∧ e 4 = ptr (nx + 1) ∧ e 7 = .int .i64 k ∧ ((c.l.drop k).any fun h => ripeD g h && (g.at h.p).next.contains q) = R) ?_ (n := c.l.length) ⟨0, by omega, by omega, rfl, rfl, rfl, rfl, rfl, hR⟩
    rintro j e h' nx' ⟨k, hj, hnx, rfl, e2, e3, e4, e7, hr2⟩ Q' hq hx
    unfold ref10_enters_L1
    rw [e2, e3, e4, e7]
    (repeat (first | refine bindP_mk (by simp (disch := first | omega | exact Int.natCast_nonneg _ | assumption) only [BB, B2, ↓reduceIte, Nat.reduceLeDiff, Nat.reduceAdd, CC, g2, hll] <;> rfl) ?_ | refine newP_mk ?_ | refine optP_mk ?_ | with_reducible first | refine condP_t ?_ | refine condP_f ?_ | refine ifP_tt' ?_ | refine ifP_ff' ?_ | refine ifP_tf' ?_ | refine ifP_ft' ?_ | refine ifP_u' ?_ | refine optP_mk0 ?_))
    refine lss_s (fun hk => ?_) (fun hk => ?_)
    · have hk : k < c.l.length := by omega
      have hin := fits_at hft hk
      have hdl := held_len hr hft hk
      rw [drop_cons hk, List.any_cons] at hr2
      obtain ⟨x, ⟨nv, rfl, hn1⟩, hx2, hx3, hx4, hx5⟩ := hl.at hk
      generalize c.l[k] = d at hr2 hx2 hx3 hx5 hn1 hin hdl
      obtain ⟨i1, i2, i3, i4⟩ := hin
      have hix := hl.ix .i64 hk
      have hp0 := hx5 0 _ rfl
      have hnl := next_len hr i1 i2
      obtain ⟨pv, q1, q2, p3, p4, p5, p6⟩ := P_at hP (i := d.p) i1 i2
      have p7 := p6 8 _ rfl
      (repeat (first | refine bindP_mk (by simp (disch := first | omega | exact Int.natCast_nonneg _ | assumption) only [BB, B2, ↓reduceIte, Nat.reduceLeDiff, Nat.reduceAdd, CC] <;> rfl) ?_ | refine newP_mk ?_ | refine optP_mk ?_ | with_reducible first | refine condP_t ?_ | refine condP_f ?_ | refine ifP_tt' ?_ | refine ifP_ff' ?_ | refine ifP_tf' ?_ | refine ifP_ft' ?_ | refine ifP_u' ?_ | refine optP_mk0 ?_))
      refine bindP_mk (loadA_all (l := [a, b]) g1 rfl) ?_
      (repeat (first | refine bindP_mk (by simp (disch := first | omega | exact Int.natCast_nonneg _ | assumption) only [BB, B2, ↓reduceIte, Nat.reduceLeDiff, Nat.reduceAdd, CC, g2, hix, hx3] <;> rfl) ?_ | refine newP_mk ?_ | refine optP_mk ?_ | with_reducible first | refine condP_t ?_ | refine condP_f ?_ | refine ifP_tt' ?_ | refine ifP_ff' ?_ | refine ifP_tf' ?_ | refine ifP_ft' ?_ | refine ifP_u' ?_ | refine optP_mk0 ?_))
      refine ref10_ripe_c i1 i2 i3 (by omega) (hf2.mono (by omega)) hG hn1 fun n hn => ?_
      have hno : ∀ (e' : Env) n, e' 2 = .int .i64 q → e' 3 = ptr nx → e' 4 = ptr (nx + 1) → e' 7 = .int .i64 ((k : Int) + 1) → (ripeD g d && (g.at d.p).next.contains q) = false → nx + 2 ≤ n → Q' .normal e' h' n := fun e' n f2 f3 f4 f7 hc hn => by
        rw [hc, Bool.false_or] at hr2
        exact hq (j - 1) _ _ _ _ (by omega) ⟨k + 1, by omega, hn, rfl, f2, f3, f4, f7, hr2⟩ (Sub.refl _)
      cases hri : ripeD g d with
      | false =>
        (repeat (first | refine bindP_mk (by simp (disch := first | omega | exact Int.natCast_nonneg _ | assumption) only [BB, B2, ↓reduceIte, Nat.reduceLeDiff, Nat.reduceAdd, CC] <;> rfl) ?_ | refine newP_mk ?_ | refine optP_mk ?_ | with_reducible first | refine condP_t ?_ | refine condP_f ?_ | refine ifP_tt' ?_ | refine ifP_ff' ?_ | refine ifP_tf' ?_ | refine ifP_ft' ?_ | refine ifP_u' ?_ | refine optP_mk0 ?_))
        exact hno _ _ e2 e3 e4 rfl (by rw [hri]; rfl) (by omega)
      | true =>
        (repeat (first | refine bindP_mk (by simp (disch := first | omega | exact Int.natCast_nonneg _ | assumption) only [BB, B2, ↓reduceIte, Nat.reduceLeDiff, Nat.reduceAdd, CC, g1, g2, hix, hx4, hp0, p3, p5, p7] <;> rfl) ?_ | refine newP_mk ?_ | refine optP_mk ?_ | with_reducible first | refine condP_t ?_ | refine condP_f ?_ | refine ifP_tt' ?_ | refine ifP_ff' ?_ | refine ifP_tf' ?_ | refine ifP_ft' ?_ | refine ifP_u' ?_ | refine optP_mk0 ?_))
        refine ref10_in_c (by omega) q1 fun n2 hn2 => ?_
        cases hct : (g.at d.p).next.contains q with
        | true =>
          (repeat (first | refine bindP_mk (by simp (disch := first | omega | exact Int.natCast_nonneg _ | assumption) only [BB, B2, ↓reduceIte, Nat.reduceLeDiff, Nat.reduceAdd, CC] <;> rfl) ?_ | refine newP_mk ?_ | refine optP_mk ?_ | with_reducible first | refine condP_t ?_ | refine condP_f ?_ | refine ifP_tt' ?_ | refine ifP_ff' ?_ | refine ifP_tf' ?_ | refine ifP_ft' ?_ | refine ifP_u' ?_ | refine optP_mk0 ?_))
          refine hx _ _ _ _ (fun e => by cases e) (exP_r ?_)
          exact ⟨h, hs, kb hK (by rw [← hr2, hri, hct]; rfl) (by omega)⟩
        | false =>
          (repeat (first | refine bindP_mk (by simp (disch := first | omega | exact Int.natCast_nonneg _ | assumption) only [BB, B2, ↓reduceIte, Nat.reduceLeDiff, Nat.reduceAdd, CC] <;> rfl) ?_ | refine newP_mk ?_ | refine optP_mk ?_ | with_reducible first | refine condP_t ?_ | refine condP_f ?_ | refine ifP_tt' ?_ | refine ifP_ff' ?_ | refine ifP_tf' ?_ | refine ifP_ft' ?_ | refine ifP_u' ?_ | refine optP_mk0 ?_))
          exact hno _ _ e2 e3 e4 rfl (by rw [hri, hct]; rfl) (by omega)
    · (repeat (first | refine bindP_mk (by simp (disch := first | omega | exact Int.natCast_nonneg _ | assumption) only [BB, B2, ↓reduceIte, Nat.reduceLeDiff, Nat.reduceAdd, CC] <;> rfl) ?_ | refine newP_mk ?_ | refine optP_mk ?_ | with_reducible first | refine condP_t ?_ | refine condP_f ?_ | refine ifP_tt' ?_ | refine ifP_ff' ?_ | refine ifP_tf' ?_ | refine ifP_ft' ?_ | refine ifP_u' ?_ | refine optP_mk0 ?_))
      refine hx _ _ _ _ (fun e => by cases e) (exP_e (beqP_t ?_))
      unfold ref10_enters_j1
      rw [drop_all (by omega)] at hr2
      exact ⟨h, hs, kb hK hr2.symm (by omega)⟩
set_option maxRecDepth 4000 in
theorem ref10_stays_c {ro : Ro} {v w : Value} {g : GlD} {c : CfgD} {q : Int} (hr : rightD g = true) (hft : fitsD g c = true) (hq0 : 0 ≤ q) (hq1 : q < g.p.length) {h : T Obj} {nx : Nat} {K : KV} (hf : Fr h nx) (hg : RG ro h v g) (hc : RCfg ro h w c)
    (hK : ∀ r h' nx', nx ≤ nx' → Sub h h' → Fr h' nx' → OwnT h' r 1 y_int (intsZ (staysL g q c.l)) nx → K r h' nx') : callP Try.prog ro i_ref10_stays [v, w, .int .i64 q] h nx K := by
  obtain ⟨a, b, rfl, ha, hP0⟩ := hg
  obtain ⟨a2, rfl, hl0⟩ := hc
  apply ref10_stays_of
  unfold ref10_stays
  refine param_mk hf (Nat.le_refl _) fun h1 hs1 hf1 g1 _ => ?_
  refine param_mk hf1 (Nat.le_refl _) fun h2 hs2 hf2 g2 _ => ?_
  have g1 := hs2 _ _ g1
  have hs := hs1.trans hs2
  have hP0 := hP0.sub hs (RPos.sub hs)
  have hl0 := hl0.sub hs (RHeld.sub hs)
  have hlen := right_len hr
  have hlen2 := fits_len hft
  have hmay := may_spec (right_at hr hq0 hq1)
  have hbound : ∀ k, (staysL g q (c.l.take k)).length ≤ 2500000 := fun k => by
    have h1 := stays_len (g := g) (q := q) (l := c.l.take k) fun x hx => held_all hr hft x (List.mem_of_mem_take hx)
    have h2 : (c.l.take k).length ≤ 512 := by rw [List.length_take]; omega
    have h3 : (c.l.take k).length * 4096 ≤ 512 * 4096 := Nat.mul_le_mul_right _ h2
    omega
  refine loopP_rule (fun j e h' nx' => ∃ (k : Nat) (ov : Value), k + j = c.l.length ∧ nx + 2 ≤ nx' ∧ Sub h2 h' ∧ Fr h' nx' ∧ OwnT h' ov 1 y_int (intsZ (staysL g q (c.l.take k))) (nx + 2) ∧ e 2 = .int .i64 q ∧ e 3 = ptr nx ∧ e 4 = ptr (nx + 1) ∧ e 7 = ov ∧ e 8 = .int .i64 k) ?_ (n := c.l.length) ⟨0, _, by omega, by omega, Sub.refl _, hf2.mono (by omega), OwnT.nil, rfl, rfl, rfl, rfl, rfl⟩
  rintro j e h' nx' ⟨k, ov, hj, hnx, hsb, hf', hO, e2, e3, e4, e7, e8⟩ Q' hq hx
  unfold ref10_stays_L1
  rw [e2, e4, e8]
  have hP := hP0.sub hsb (RPos.sub hsb)
  have hl := hl0.sub hsb (RHeld.sub hsb)
  have hll := hl.len
  have k1 := hsb _ _ g1
  have k2 := hsb _ _ g2
  (repeat (first | refine bindP_mk (by simp (disch := first | omega | exact Int.natCast_nonneg _ | assumption) only [BB, B2, ↓reduceIte, Nat.reduceLeDiff, Nat.reduceAdd, CC, k2, hll] <;> rfl) ?_ | refine newP_mk ?_ | refine optP_mk ?_ | with_reducible first | refine condP_t ?_ | refine condP_f ?_ | refine ifP_tt' ?_ | refine ifP_ff' ?_ | refine ifP_tf' ?_ | refine ifP_ft' ?_ | refine ifP_u' ?_ | refine optP_mk0 ?_))
  refine lss_s (fun hk => ?_) (fun hk => ?_)
  · have hk : k < c.l.length := by omega
    have hin := fits_at hft hk
    have hdl := held_len hr hft hk
    have htk : c.l.take (k + 1) = c.l.take k ++ [c.l[k]] := List.take_succ_eq_append_getElem hk
    obtain ⟨x, ⟨nv, rfl, hn1⟩, hx2, hx3, hx4, hx5⟩ := hl0.at hk
    generalize c.l[k] = d at hx2 hx3 hx5 hn1 hin hdl htk
    obtain ⟨i1, i2, i3, i4⟩ := hin
    have hix := hl.ix .i64 hk
    have hp0 := load1_sub hsb (hx5 0 _ rfl)
    have hb0 := hbound k
    have hok : ∀ (e' : Env) h4 n ov', Sub h2 h4 → Fr h4 n → OwnT h4 ov' 1 y_int (intsZ (staysL g q (c.l.take (k + 1)))) (nx + 2) → e' 2 = .int .i64 q → e' 3 = ptr nx → e' 4 = ptr (nx + 1) → e' 7 = ov' → e' 8 = .int .i64 k → nx + 2 ≤ n → ref10_stays_j2 ro Q' e' h4 n := by
      intro e' h4 n ov' s1 s2 s3 f2 f3 f4 f7 f8 hn
      unfold ref10_stays_j2
      rw [f8]
      (repeat (first | refine bindP_mk (by simp (disch := first | omega | exact Int.natCast_nonneg _ | assumption) only [BB, B2, ↓reduceIte, Nat.reduceLeDiff, Nat.reduceAdd, CC] <;> rfl) ?_ | refine newP_mk ?_ | refine optP_mk ?_ | with_reducible first | refine condP_t ?_ | refine condP_f ?_ | refine ifP_tt' ?_ | refine ifP_ff' ?_ | refine ifP_tf' ?_ | refine ifP_ft' ?_ | refine ifP_u' ?_ | refine optP_mk0 ?_))
      exact hq (j - 1) _ _ _ _ (by omega) ⟨k + 1, ov', by omega, by omega, s1, s2.mono (by omega), s3, f2, f3, f4, f7, rfl⟩ (Sub.refl _)
    rw [htk, stays_snoc] at hok
    (repeat (first | refine bindP_mk (by simp (disch := first | omega | exact Int.natCast_nonneg _ | assumption) only [BB, B2, ↓reduceIte, Nat.reduceLeDiff, Nat.reduceAdd, CC, k2, hix, hx4, hp0] <;> rfl) ?_ | refine newP_mk ?_ | refine optP_mk ?_ | with_reducible first | refine condP_t ?_ | refine condP_f ?_ | refine ifP_tt' ?_ | refine ifP_ff' ?_ | refine ifP_tf' ?_ | refine ifP_ft' ?_ | refine ifP_u' ?_ | refine optP_mk0 ?_))
    refine neq_s (fun he => ?_) (fun he => ?_)
    · (repeat (first | refine bindP_mk (by simp (disch := first | omega | exact Int.natCast_nonneg _ | assumption) only [BB, B2, ↓reduceIte, Nat.reduceLeDiff, Nat.reduceAdd, CC] <;> rfl) ?_ | refine newP_mk ?_ | refine optP_mk ?_ | with_reducible first | refine condP_t ?_ | refine condP_f ?_ | refine ifP_tt' ?_ | refine ifP_ff' ?_ | refine ifP_tf' ?_ | refine ifP_ft' ?_ | refine ifP_u' ?_ | refine optP_mk0 ?_))
      exact hok _ _ _ ov hsb (hf'.mono (by omega)) (by rw [if_neg he, List.append_nil]; exact hO) e2 e3 e4 e7 e8 (by omega)
    · rw [if_pos he] at hok
      (repeat (first | refine bindP_mk (by simp (disch := first | omega | exact Int.natCast_nonneg _ | assumption) only [BB, B2, ↓reduceIte, Nat.reduceLeDiff, Nat.reduceAdd, CC] <;> rfl) ?_ | refine newP_mk ?_ | refine optP_mk ?_ | with_reducible first | refine condP_t ?_ | refine condP_f ?_ | refine ifP_tt' ?_ | refine ifP_ff' ?_ | refine ifP_tf' ?_ | refine ifP_ft' ?_ | refine ifP_u' ?_ | refine optP_mk0 ?_))
      refine loopP_rule (fun j2 e' h4 n4 => ∃ (k2 : Nat) (ov2 : Value), k2 + j2 = d.n.length ∧ nx + 2 ≤ n4 ∧ Sub h2 h4 ∧ Fr h4 n4 ∧ OwnT h4 ov2 1 y_int (intsZ (staysL g q (c.l.take k) ++ upD (g.at q).hi (d.n.take k2))) (nx + 2) ∧ e' 2 = .int .i64 q ∧ e' 3 = ptr nx ∧ e' 4 = ptr (nx + 1) ∧ e' 7 = ov2 ∧ e' 8 = .int .i64 k ∧ e' 9 = .int .i64 k2) ?_ (n := d.n.length) ⟨0, ov, by omega, by omega, hsb, hf'.mono (by omega), by simpa [upD] using hO, e2, e3, e4, e7, e8, rfl⟩
      rintro j2 e' h4 n4 ⟨k3, ov2, hj2, hn4, hsb4, hf4, hO4, f2, f3, f4, f7, f8, f9⟩ Q2 hq2 hx2'
      unfold ref10_stays_L2
      rw [f2, f3, f4, f7, f8, f9]
      have hp1 := load1_sub hsb4 (hx5 1 _ rfl)
      have hn4' := hn1.sub hsb4
      have hnl := hn4'.len
      have j1 := hsb4 _ _ g1
      have j2' := hsb4 _ _ g2
      obtain ⟨pv, q1, q2, p3, p4, p5, p6⟩ := P_at (hP0.sub hsb4 (RPos.sub hsb4)) (i := q) hq0 hq1
      have p7 := p6 5 _ rfl
      (repeat (first | refine bindP_mk (by simp (disch := first | omega | exact Int.natCast_nonneg _ | assumption) only [BB, B2, ↓reduceIte, Nat.reduceLeDiff, Nat.reduceAdd, CC, j2', hix, hx4, hp1, hnl] <;> rfl) ?_ | refine newP_mk ?_ | refine optP_mk ?_ | with_reducible first | refine condP_t ?_ | refine condP_f ?_ | refine ifP_tt' ?_ | refine ifP_ff' ?_ | refine ifP_tf' ?_ | refine ifP_ft' ?_ | refine ifP_u' ?_ | refine optP_mk0 ?_))
      refine lss_s (fun hk3 => ?_) (fun hk3 => ?_)
      · have hk3 : k3 < d.n.length := by omega
        have hym := rz_mem i4 _ (List.getElem_mem hk3)
        have hyx := hn4'.ix .i64 hk3
        have hy1 := hn4'.load hk3
        have htk2 : d.n.take (k3 + 1) = d.n.take k3 ++ [d.n[k3]] := List.take_succ_eq_append_getElem hk3
        generalize d.n[k3] = y at hym hy1 htk2
        have hok2 : ∀ (e5 : Env) h5 n5 ov5, Sub h2 h5 → Fr h5 n5 → OwnT h5 ov5 1 y_int (intsZ (staysL g q (c.l.take k) ++ upD (g.at q).hi (d.n.take (k3 + 1)))) (nx + 2) → e5 2 = .int .i64 q → e5 3 = ptr nx → e5 4 = ptr (nx + 1) → e5 7 = ov5 → e5 8 = .int .i64 k → e5 9 = .int .i64 k3 → nx + 2 ≤ n5 → ref10_stays_j3 ro Q2 e5 h5 n5 := by
          intro e5 h5 n5 ov5 s1 s2 s3 t2 t3 t4 t7 t8 t9 hn
          unfold ref10_stays_j3
          rw [t9]
          (repeat (first | refine bindP_mk (by simp (disch := first | omega | exact Int.natCast_nonneg _ | assumption) only [BB, B2, ↓reduceIte, Nat.reduceLeDiff, Nat.reduceAdd, CC] <;> rfl) ?_ | refine newP_mk ?_ | refine optP_mk ?_ | with_reducible first | refine condP_t ?_ | refine condP_f ?_ | refine ifP_tt' ?_ | refine ifP_ff' ?_ | refine ifP_tf' ?_ | refine ifP_ft' ?_ | refine ifP_u' ?_ | refine optP_mk0 ?_))
          exact hq2 (j2 - 1) _ _ _ _ (by omega) ⟨k3 + 1, ov5, by omega, by omega, s1, s2.mono (by omega), s3, t2, t3, t4, t7, t8, rfl⟩ (Sub.refl _)
        rw [htk2, upD_snoc] at hok2
        (repeat (first | refine bindP_mk (by simp (disch := first | omega | exact Int.natCast_nonneg _ | assumption) only [BB, B2, ↓reduceIte, Nat.reduceLeDiff, Nat.reduceAdd, CC, j2', hix, hx4, hp1, hyx, hy1, j1, p3, p5, p7] <;> rfl) ?_ | refine newP_mk ?_ | refine optP_mk ?_ | with_reducible first | refine condP_t ?_ | refine condP_f ?_ | refine ifP_tt' ?_ | refine ifP_ff' ?_ | refine ifP_tf' ?_ | refine ifP_ft' ?_ | refine ifP_u' ?_ | refine optP_mk0 ?_))
        rw [he] at hym
        refine lss_s (fun hlt => ?_) (fun hlt => ?_)
        · obtain ⟨i, z1, z2, z3⟩ := tin_int
          rw [if_pos hlt, ← List.append_assoc] at hok2
          (repeat (first | refine bindP_mk (by simp (disch := first | omega | exact Int.natCast_nonneg _ | assumption) only [BB, B2, ↓reduceIte, Nat.reduceLeDiff, Nat.reduceAdd, CC, j2', hix, hx4, hp1, hyx, hy1] <;> rfl) ?_ | refine newP_mk ?_ | refine optP_mk ?_ | with_reducible first | refine condP_t ?_ | refine condP_f ?_ | refine ifP_tt' ?_ | refine ifP_ff' ?_ | refine ifP_tf' ?_ | refine ifP_ft' ?_ | refine ifP_u' ?_ | refine optP_mk0 ?_))
          have hul := upD_len (g.at q).hi (d.n.take k3)
          have hul2 : (d.n.take k3).length ≤ d.n.length := by rw [List.length_take]; omega
          have hlw : (intsZ (staysL g q (c.l.take k) ++ upD (g.at q).hi (d.n.take k3))).length ≤ 3100000 := by rw [intsZ_len, List.length_append]; omega
          refine append_lit (P := Try.prog) (z := 1) (e := y_int) (i := i) (nx := n4) (n1 := n4 + 36) (n2 := n4 + 38) (lo := nx + 2) (lit_i64' _ _) rfl hO4 und_ints z1 z2 (by omega) zer_int rfl rfl (by rw [z3]; unfold big; omega) (by unfold big; omega) hf4 (by omega) (by omega) (by omega) fun h5 q1 q2 q3 => ?_
          dsimp only
          have hcat : intsZ (staysL g q (c.l.take k) ++ upD (g.at q).hi (d.n.take k3)) ++ [[Value.int .i64 (y + 1)]] = intsZ (staysL g q (c.l.take k) ++ upD (g.at q).hi (d.n.take k3) ++ [y + 1]) := by simp [intsZ]
          rw [hcat] at q1 ⊢
          exact hok2 _ _ _ _ (hO4.sub q2 hf2 (Nat.le_refl _) hsb4) (q3.mono (by omega)) q1 f2 f3 f4 rfl f8 f9 (by omega)
        · (repeat (first | refine bindP_mk (by simp (disch := first | omega | exact Int.natCast_nonneg _ | assumption) only [BB, B2, ↓reduceIte, Nat.reduceLeDiff, Nat.reduceAdd, CC] <;> rfl) ?_ | refine newP_mk ?_ | refine optP_mk ?_ | with_reducible first | refine condP_t ?_ | refine condP_f ?_ | refine ifP_tt' ?_ | refine ifP_ff' ?_ | refine ifP_tf' ?_ | refine ifP_ft' ?_ | refine ifP_u' ?_ | refine optP_mk0 ?_))
          exact hok2 _ _ _ ov2 hsb4 (hf4.mono (by omega)) (by rw [if_neg (by omega), List.append_nil]; exact hO4) f2 f3 f4 f7 f8 f9 (by omega)
      · (repeat (first | refine bindP_mk (by simp (disch := first | omega | exact Int.natCast_nonneg _ | assumption) only [BB, B2, ↓reduceIte, Nat.reduceLeDiff, Nat.reduceAdd, CC] <;> rfl) ?_ | refine newP_mk ?_ | refine optP_mk ?_ | with_reducible first | refine condP_t ?_ | refine condP_f ?_ | refine ifP_tt' ?_ | refine ifP_ff' ?_ | refine ifP_tf' ?_ | refine ifP_ft' ?_ | refine ifP_u' ?_ | refine optP_mk0 ?_))
        refine hx2' _ _ _ _ (fun e => by cases e) (exP_e (beqP_t ?_))
        rw [List.take_of_length_le (show d.n.length ≤ k3 by omega)] at hO4
        exact hok _ _ _ ov2 hsb4 (hf4.mono (by omega)) (by rw [he] at *; exact hO4) f2 f3 f4 f7 f8 (by omega)
  · (repeat (first | refine bindP_mk (by simp (disch := first | omega | exact Int.natCast_nonneg _ | assumption) only [BB, B2, ↓reduceIte, Nat.reduceLeDiff, Nat.reduceAdd, CC] <;> rfl) ?_ | refine newP_mk ?_ | refine optP_mk ?_ | with_reducible first | refine condP_t ?_ | refine condP_f ?_ | refine ifP_tt' ?_ | refine ifP_ff' ?_ | refine ifP_tf' ?_ | refine ifP_ft' ?_ | refine ifP_u' ?_ | refine optP_mk0 ?_))
    refine hx _ _ _ _ (fun e => by cases e) (exP_e (beqP_t ?_))
    unfold ref10_stays_j1
    rw [List.take_of_length_le (by omega)] at hO
    refine ⟨h', Sub.refl _, ?_⟩
    show K (e 7) h' _
    rw [e7]
    exact hK _ _ _ (by omega) (hs.trans hsb) (hf'.mono (by omega)) (hO.mono (by omega))
def stepK (g : GlD) (c : CfgD) (b k : Nat) : List HeldD := (List.range k).flatMap fun q : Nat => heldOf q (cntD g c b q)
theorem stepK_succ (g : GlD) (c : CfgD) (b k : Nat) : stepK g c b (k + 1) = stepK g c b k ++ heldOf k (cntD g c b k) := by simp [stepK, List.range_succ]
theorem stepK_len (g : GlD) (c : CfgD) (b : Nat) : ∀ k, (stepK g c b k).length ≤ k
  | 0 => by simp [stepK]
  | k + 1 => by
    rw [stepK_succ, List.length_append]
    have := stepK_len g c b k
    unfold heldOf
    split <;> simp <;> omega
theorem flat_ints_ok (l : List Int) : (intsZ l).flatten.all cellOk = true := by
  induction l with
  | nil => rfl
  | cons x r ih => simp [intsZ, cellOk]
structure RS (h0 : T Obj) (n0 : Nat) (a b a2 : Value) (cb : Bool) (h : T Obj) (Lv : Value) (ys : List (List Value)) (Ds : List HeldD) : Prop where
  base : Sub h0 h
  places : h.get n0 = some (.cells #[a, b] y_api_Glush)
  cfg : h.get (n0 + 1) = some (.cells #[.bool cb, a2] y_api_Config)
  res : h.get (n0 + 2) = some (.cells #[.bool false, .slice none 0 0] y_api_Config)
  out : h.get (n0 + 4) = some (.cells #[.bool false, Lv] y_api_Config)
  own : OwnT h Lv 2 y_api_Held ys (n0 + 5)
  els : EL h ys Ds (n0 + 5)
theorem RS.sub {h0 h h' : T Obj} {n0 : Nat} {a b a2 Lv : Value} {cb : Bool} {ys : List (List Value)} {Ds : List HeldD} (hS : RS h0 n0 a b a2 cb h Lv ys Ds) (hs : Sub h h') : RS h0 n0 a b a2 cb h' Lv ys Ds :=
  ⟨hS.base.trans hs, hs _ _ hS.places, hs _ _ hS.cfg, hs _ _ hS.res, hs _ _ hS.out, hS.own.keepS hs, hS.els.imp fun w l ho => ho.keepS hs⟩
theorem ref10_step_end {ro : Ro} {h0 h : T Obj} {n0 nx : Nat} {a b a2 Lv : Value} {cb : Bool} {ys : List (List Value)} {Ds : List HeldD} {e : Env} {K : KV} (hf0 : Fr h0 n0) (hf : Fr h nx) (hn : n0 + 5 ≤ nx) (hS : RS h0 n0 a b a2 cb h Lv ys Ds) (e6 : e 6 = ptr (n0 + 2)) (e7 : e 7 = ptr (n0 + 4))
    (hK : ∀ r h' nx', nx ≤ nx' → Sub h0 h' → Fr h' nx' → RCfgS ro h' r ⟨false, Ds⟩ (n0 + 5) → K r h' nx') : ref10_step_j1 ro K e h nx := by
  unfold ref10_step_j1
  rw [e6, e7]
  refine bindP_mk (loadA_all (l := [.bool false, Lv]) hS.out rfl) ?_
  refine bindP_mk (storeA_own (l := [.bool false, .slice none 0 0]) (vs := [.bool false, Lv]) hS.res rfl rfl rfl (two_ok hS.own.one.2)) ?_
  refine bindP_mk (loadA_all (l := [.bool false, Lv]) (by rw [T.get_upd_same]) rfl) ?_
  have hoff : ∀ i, i ≠ n0 + 2 → (h.upd (n0 + 2) (some (.cells [Value.bool false, Lv].toArray y_api_Config))).get i = h.get i := fun i hi => T.get_upd_ne _ _ hi
  refine ⟨_, Sub.refl _, hK _ _ _ (by omega) (fun i o hi => ?_) ((hf.mono (by omega)).upd (Nat.le_refl _) (by omega)) fun h5 h5k => ⟨Lv, rfl, ?_⟩⟩
  · have := hf0.lt' hi
    rw [hoff i (by omega)]
    exact hS.base i o hi
  · have hh : ∀ k, n0 + 5 ≤ k → h5.get k = h.get k := fun k hk => by rw [h5k k hk, hoff k (by omega)]
    exact (hS.els.imp fun w l ho => ho.hi hh).slr (hS.own.hi hh).sl
set_option maxRecDepth 4000 in
set_option maxHeartbeats 1000000 in
theorem ref10_step_c {ro : Ro} {v w : Value} {g : GlD} {c : CfgD} {by_ : Nat} (hr : rightD g = true) (hft : fitsD g c = true) (hby : by_ < 256) {h : T Obj} {nx : Nat} {K : KV} (hf : Fr h nx) (hg : RG ro h v g) (hc : RCfg ro h w c)
    (hK : ∀ r h' nx', nx ≤ nx' → Sub h h' → Fr h' nx' → RCfgS ro h' r (stepD g c by_) nx → K r h' nx') : callP Try.prog ro i_ref10_step [v, w, .int .u8 (by_ : Int)] h nx K := by
  obtain ⟨a, b, rfl, ha, hP⟩ := hg
  obtain ⟨a2, rfl, hl⟩ := hc
  apply ref10_step_of
  unfold ref10_step
  have hlen := right_len hr
  have hlen2 := fits_len hft
  refine param_mk hf (Nat.le_refl _) fun h1 hs1 hf1 g1 _ => ?_
  refine param_mk hf1 (Nat.le_refl _) fun h2 hs2 hf2 g2 _ => ?_
  refine bindP_mk zer_Config ?_
  refine obj_mk hf2 (Nat.le_refl _) fun h3 hs3 hf3 g3 _ => ?_
  refine bindP_mk build_Config0 ?_
  refine local_mk (x := [.bool false, .slice none 0 0]) zer_Config rfl rfl rfl rfl hf3 (by omega) fun h4 hs4 hf4 g4 _ => ?_
  have hS0 : RS h nx a b a2 c.b h4 (.slice none 0 0) [] [] := ⟨((hs1.trans hs2).trans hs3).trans hs4, hs4 _ _ (hs3 _ _ (hs2 _ _ g1)), hs4 _ _ (hs3 _ _ g2), hs4 _ _ g3, g4, OwnT.nil, ⟨rfl, fun i y d hy => by simp at hy⟩⟩
  refine loopP_rule (fun j e h' nx' => ∃ (k : Nat) (Lv : Value) (ys : List (List Value)), k + j = g.p.length ∧ nx + 5 ≤ nx' ∧ Fr h' nx' ∧ RS h nx a b a2 c.b h' Lv ys (stepK g c by_ k) ∧ e 2 = .int .u8 (by_ : Int) ∧ e 3 = ptr nx ∧ e 4 = ptr (nx + 1) ∧ e 6 = ptr (nx + 2) ∧ e 7 = ptr (nx + 4) ∧ e 8 = .int .i64 k) ?_ (n := g.p.length)
    ⟨0, _, [], by omega, by omega, hf4.mono (by omega), hS0, rfl, rfl, rfl, rfl, rfl, rfl⟩
  rintro j e h' nx' ⟨k, Lv, ys, hj, hnx, hf', hS, e2, e3, e4, e6, e7, e8⟩ Q' hq hx
  unfold ref10_step_L1
  rw [e2, e3, e4, e8]
  have gp := hS.places
  have hPp := hP.sub hS.base (RPos.sub hS.base)
  have hpl := hPp.len
  (repeat (first | refine bindP_mk (by simp (disch := first | omega | exact Int.natCast_nonneg _ | assumption) only [BB, B2, ↓reduceIte, Nat.reduceLeDiff, Nat.reduceAdd, CC, gp, hpl] <;> rfl) ?_ | refine newP_mk ?_ | refine optP_mk ?_ | with_reducible first | refine condP_t ?_ | refine condP_f ?_ | refine ifP_tt' ?_ | refine ifP_ff' ?_ | refine ifP_tf' ?_ | refine ifP_ft' ?_ | refine ifP_u' ?_ | refine optP_mk0 ?_))
  refine lss_s (fun hk => ?_) (fun hk => ?_)
  · have hk : k < g.p.length := by omega
    have hix := hPp.ixI .i64 (i := (k : Int)) (by omega) (by omega)
    obtain ⟨pv, -, -, p3, -, p5, p6⟩ := P_at hPp (i := (k : Int)) (by omega) (by omega)
    have p7 := P_set hPp (i := (k : Int)) (by omega) (by omega)
    simp only [Int.toNat_natCast] at hix p3 p5 p7
    have hok : ∀ (e' : Env) h5 n Lv' ys', RS h nx a b a2 c.b h5 Lv' ys' (stepK g c by_ (k + 1)) → Fr h5 n → e' 2 = .int .u8 (by_ : Int) → e' 3 = ptr nx → e' 4 = ptr (nx + 1) → e' 6 = ptr (nx + 2) → e' 7 = ptr (nx + 4) → e' 8 = .int .i64 k → nx + 5 ≤ n → ref10_step_j2 ro Q' e' h5 n := by
      intro e' h5 n Lv' ys' s1 s2 f2 f3 f4 f6 f7 f8 hn
      unfold ref10_step_j2
      rw [f8]
      (repeat (first | refine bindP_mk (by simp (disch := first | omega | exact Int.natCast_nonneg _ | assumption) only [BB, B2, ↓reduceIte, Nat.reduceLeDiff, Nat.reduceAdd, CC] <;> rfl) ?_ | refine newP_mk ?_ | refine optP_mk ?_ | with_reducible first | refine condP_t ?_ | refine condP_f ?_ | refine ifP_tt' ?_ | refine ifP_ff' ?_ | refine ifP_tf' ?_ | refine ifP_ft' ?_ | refine ifP_u' ?_ | refine optP_mk0 ?_))
      exact hq (j - 1) _ _ _ _ (by omega) ⟨k + 1, Lv', ys', by omega, by omega, s2.mono (by omega), s1, f2, f3, f4, f6, f7, rfl⟩ (Sub.refl _)
    rw [stepK_succ] at hok
    (repeat (first | refine bindP_mk (by simp (disch := first | omega | exact Int.natCast_nonneg _ | assumption) only [BB, B2, ↓reduceIte, Nat.reduceLeDiff, Nat.reduceAdd, CC, gp, hix, p3, p5, p7] <;> rfl) ?_ | refine newP_mk ?_ | refine optP_mk ?_ | with_reducible first | refine condP_t ?_ | refine condP_f ?_ | refine ifP_tt' ?_ | refine ifP_ff' ?_ | refine ifP_tf' ?_ | refine ifP_ft' ?_ | refine ifP_u' ?_ | refine optP_mk0 ?_))
    refine ref01_Has_c hby (hf'.mono (by omega)) fun n hn => ?_
    cases hb : (g.at (k : Int)).s.testBit by_ with
    | false =>
      (repeat (first | refine bindP_mk (by simp (disch := first | omega | exact Int.natCast_nonneg _ | assumption) only [BB, B2, ↓reduceIte, Nat.reduceLeDiff, Nat.reduceAdd, CC] <;> rfl) ?_ | refine newP_mk ?_ | refine optP_mk ?_ | with_reducible first | refine condP_t ?_ | refine condP_f ?_ | refine ifP_tt' ?_ | refine ifP_ff' ?_ | refine ifP_tf' ?_ | refine ifP_ft' ?_ | refine ifP_u' ?_ | refine optP_mk0 ?_))
      refine hok _ _ _ Lv ys ?_ (hf'.mono (by omega)) e2 e3 e4 e6 e7 e8 (by omega)
      have : cntD g c by_ k = [] := by unfold cntD hasD; rw [hb]; rfl
      rw [this]
      unfold heldOf
      rw [if_pos rfl, List.append_nil]; exact hS
    | true =>
      have hcnt : cntD g c by_ k = (if entersD g c k then [1] else []) ++ staysL g k c.l := by unfold cntD hasD; rw [hb]; rfl
      have gc := hS.cfg
      have hG : RG ro h' (.agg #[a, b]) g := ⟨a, b, rfl, ha.sub hS.base, hPp⟩
      have hC : RCfg ro h' (.agg #[.bool c.b, a2]) c := ⟨a2, rfl, hl.sub hS.base (RHeld.sub hS.base)⟩
      (repeat (first | refine bindP_mk (by simp (disch := first | omega | exact Int.natCast_nonneg _ | assumption) only [BB, B2, ↓reduceIte, Nat.reduceLeDiff, Nat.reduceAdd, CC] <;> rfl) ?_ | refine newP_mk ?_ | refine optP_mk ?_ | with_reducible first | refine condP_t ?_ | refine condP_f ?_ | refine ifP_tt' ?_ | refine ifP_ff' ?_ | refine ifP_tf' ?_ | refine ifP_ft' ?_ | refine ifP_u' ?_ | refine optP_mk0 ?_))
      refine bindP_mk (loadA_all (l := [a, b]) gp rfl) ?_
      refine bindP_mk (loadA_all (l := [.bool c.b, a2]) gc rfl) ?_
      refine ref10_enters_c hr hft (hf'.mono (by omega)) hG hC fun n2 hn2 => ?_
      obtain ⟨i, z1, z2, z3⟩ := tin_int
      obtain ⟨i2, t1, t2, t3⟩ := tin_held
      have hyl : ys.length ≤ g.p.length := by rw [hS.els.1]; have := stepK_len g c by_ k; omega
      -- what stands behind the first count
      have hj3 : ∀ (e' : Env) h5 n5 (ev : Value) (E : List Int), Sub h' h5 → Fr h5 n5 → OwnT h5 ev 1 y_int (intsZ E) (nx + 5) → (∀ id, sblk ev = some id → h'.get id = none) → E.length ≤ 1 → E ++ staysL g k c.l = cntD g c by_ k → e' 2 = .int .u8 (by_ : Int) → e' 3 = ptr nx → e' 4 = ptr (nx + 1) → e' 6 = ptr (nx + 2) → e' 7 = ptr (nx + 4) → e' 8 = .int .i64 k → e' 9 = ev → nx' ≤ n5 → ref10_step_j3 ro Q' e' h5 n5 := by
        intro e' h5 n5 ev E s1 s2 s3 s4 s5 s6 f2 f3 f4 f6 f7 f8 f9 hn5
        unfold ref10_step_j3
        rw [f3, f4, f7, f8, f9]
        refine bindP_mk (loadA_all (l := [a, b]) (s1 _ _ gp) rfl) ?_
        refine bindP_mk (loadA_all (l := [.bool c.b, a2]) (s1 _ _ gc) rfl) ?_
        refine ref10_stays_c hr hft (by omega) (by omega) (s2.mono (by omega)) (hG.sub s1) (hC.sub s1) fun r6 h6 n6 hn6 q1 q2 q3 => ?_
        have hsl : (staysL g (k : Int) c.l).length ≤ 2500000 := by
          have h1 := stays_len (g := g) (q := (k : Int)) (l := c.l) fun x hx => held_all hr hft x hx
          have h3 : c.l.length * 4096 ≤ 512 * 4096 := Nat.mul_le_mul_right _ (by omega)
          omega
        obtain ⟨r7, h7, n7, y1, y2, y3, y4, y5, y6⟩ := append_any (P := Try.prog) (t := y_s_int) (nx := n6 + 1) (lo := nx + 5) (s3.keepS q1) (q3.sl (ro := ro)) und_ints z1 z2 (by omega) zer_int rfl (flat_ints_ok _) (by rw [intsZ_len, intsZ_len, z3]; unfold big; omega) (by rw [intsZ_len, intsZ_len]; unfold big; omega) (by omega) (q2.mono (by omega))
        have hcat : intsZ E ++ intsZ (staysL g k c.l) = intsZ (cntD g c by_ k) := by rw [← s6]; simp [intsZ]
        rw [hcat] at y2
        refine bindP_mk y1 ?_
        dsimp only
        have s67 : Sub h' h7 := fun i o hi => y3 i o (q1 _ _ (s1 _ _ hi)) fun hv => by rw [s4 _ hv] at hi; cases hi
        have hS7 := hS.sub s67
        have gO := hS7.out
        have hlr := (y2.sl (ro := ro)).len
        rw [intsZ_len] at hlr
        refine bindP_mk hlr ?_
        refine gtr_s (fun hgt => ?_) (fun hgt => ?_)
        · have hne : cntD g c by_ k ≠ [] := fun h => by rw [h] at hgt; simp at hgt
          (repeat (first | refine bindP_mk (by simp (disch := first | omega | exact Int.natCast_nonneg _ | assumption) only [BB, B2, ↓reduceIte, Nat.reduceLeDiff, Nat.reduceAdd, CC, gO] <;> rfl) ?_ | refine newP_mk ?_ | refine optP_mk ?_ | with_reducible first | refine condP_t ?_ | refine condP_f ?_ | refine ifP_tt' ?_ | refine ifP_ff' ?_ | refine ifP_tf' ?_ | refine ifP_ft' ?_ | refine ifP_u' ?_ | refine optP_mk0 ?_))
          refine bindP_mk (build_held _ _ y2.one.1 rfl) ?_
          refine append_lit (P := Try.prog) (z := 2) (e := y_api_Held) (i := i2) (l := ys) (nx := n7) (n1 := n7 + 9) (n2 := n7 + 11) (lo := nx + 5) (lit_held _ _ _) rfl hS7.own und_helds t1 t2 (by omega) zer_Held rfl (held_ok y2.one.2) (by rw [t3]; unfold big; omega) (by unfold big; omega) y5 (by omega) (by omega) (by omega) fun h8 u1 u2 u3 => ?_
          dsimp only
          have hlo : ∀ i o, h7.get i = some o → i < nx + 5 → h8.get i = some o := fun i o hi hlt => u2 i o hi (hS7.own.lt hlt)
          have gO8 := hlo _ _ gO (by omega)
          have hkeep : ∀ w l, OwnT h7 w 1 y_int l (nx + 5) → OwnT h8 w 1 y_int l (nx + 5) := fun w l ho => ho.keep u2 fun id hid hL' => by
            rcases ho with ⟨rfl, _⟩ | ⟨id', _, rfl, _, g5⟩
            · cases hid
            · have : id' = id := Option.some.inj hid
              subst this
              exact hS7.own.ne g5 tyne.1 hL'
          (repeat (first | refine bindP_mk (by simp (disch := first | omega | exact Int.natCast_nonneg _ | assumption) only [BB, B2, ↓reduceIte, Nat.reduceLeDiff, Nat.reduceAdd, CC] <;> rfl) ?_ | refine newP_mk ?_ | refine optP_mk ?_ | with_reducible first | refine condP_t ?_ | refine condP_f ?_ | refine ifP_tt' ?_ | refine ifP_ff' ?_ | refine ifP_tf' ?_ | refine ifP_ft' ?_ | refine ifP_u' ?_ | refine optP_mk0 ?_))
          refine bindP_mk (store1_own (l := [.bool false, Lv]) gO8 (by simp) rfl rfl) ?_
          have hoff : ∀ i, i ≠ nx + 4 → (h8.upd (nx + 4) (some (.cells ([Value.bool false, Lv].set (0 + 1) (.slice (some (V.own (n7 + 11) 2)) (ys ++ [[.int .i64 (k : Int), r7]]).length (ys ++ [[.int .i64 (k : Int), r7]]).length)).toArray y_api_Config))).get i = h8.get i := fun i hi => T.get_upd_ne _ _ hi
          refine hok _ _ _ _ _ ⟨fun i o hi => ?_, ?_, ?_, ?_, by rw [T.get_upd_same]; rfl, u1.off hoff gO8 tyne.2.2.1, ?_⟩ ((u3.mono (by omega)).upd (Nat.le_refl _) (by omega)) f2 f3 f4 f6 f7 f8 (by omega)
          · have := hf.lt' hi
            rw [hoff i (by omega)]
            exact hlo _ _ (hS7.base _ _ hi) (by omega)
          · rw [hoff _ (by omega)]; exact hlo _ _ hS7.places (by omega)
          · rw [hoff _ (by omega)]; exact hlo _ _ hS7.cfg (by omega)
          · rw [hoff _ (by omega)]; exact hlo _ _ hS7.res (by omega)
          · unfold heldOf
            rw [if_neg hne]
            exact ((hS7.els.imp hkeep).snoc (d := ⟨k, cntD g c by_ k⟩) (hkeep _ _ y2)).imp fun w l ho => ho.off hoff gO8 tyne.2.2.2.1
        · have hem : cntD g c by_ k = [] := eq_len (by omega)
          (repeat (first | refine bindP_mk (by simp (disch := first | omega | exact Int.natCast_nonneg _ | assumption) only [BB, B2, ↓reduceIte, Nat.reduceLeDiff, Nat.reduceAdd, CC] <;> rfl) ?_ | refine newP_mk ?_ | refine optP_mk ?_ | with_reducible first | refine condP_t ?_ | refine condP_f ?_ | refine ifP_tt' ?_ | refine ifP_ff' ?_ | refine ifP_tf' ?_ | refine ifP_ft' ?_ | refine ifP_u' ?_ | refine optP_mk0 ?_))
          refine hok _ _ _ Lv ys ?_ (y5.mono (by omega)) f2 f3 f4 f6 f7 f8 (by omega)
          unfold heldOf
          rw [if_pos hem, List.append_nil]; exact hS7
      cases hen : entersD g c (k : Int) with
      | true =>
        (repeat (first | refine bindP_mk (by simp (disch := first | omega | exact Int.natCast_nonneg _ | assumption) only [BB, B2, ↓reduceIte, Nat.reduceLeDiff, Nat.reduceAdd, CC] <;> rfl) ?_ | refine newP_mk ?_ | refine optP_mk ?_ | with_reducible first | refine condP_t ?_ | refine condP_f ?_ | refine ifP_tt' ?_ | refine ifP_ff' ?_ | refine ifP_tf' ?_ | refine ifP_ft' ?_ | refine ifP_u' ?_ | refine optP_mk0 ?_))
        refine append_lit (P := Try.prog) (z := 1) (e := y_int) (i := i) (l := []) (nx := nx') (n1 := n2 + 1) (n2 := n2 + 3) (lo := nx + 5) (lit_i64' _ _) rfl OwnT.nil und_ints z1 z2 (by omega) zer_int rfl rfl (by rw [z3]; decide) (by decide) hf' (by omega) (by omega) (by omega) fun h5 u1 u2 u3 => ?_
        dsimp only
        refine hj3 _ _ _ (.slice (some (V.own (n2 + 3) 1)) 1 1) [1] (fun i o hi => u2 i o hi (by intro h; cases h)) (u3.mono (by omega)) (by simpa [intsZ] using u1) (fun id hid => ?_) (by simp) (by rw [hcnt, hen]; rfl) e2 e3 e4 e6 e7 e8 rfl (by omega)
        have : n2 + 3 = id := Option.some.inj hid
        subst this
        exact hf' _ (by omega)
      | false =>
        (repeat (first | refine bindP_mk (by simp (disch := first | omega | exact Int.natCast_nonneg _ | assumption) only [BB, B2, ↓reduceIte, Nat.reduceLeDiff, Nat.reduceAdd, CC] <;> rfl) ?_ | refine newP_mk ?_ | refine optP_mk ?_ | with_reducible first | refine condP_t ?_ | refine condP_f ?_ | refine ifP_tt' ?_ | refine ifP_ff' ?_ | refine ifP_tf' ?_ | refine ifP_ft' ?_ | refine ifP_u' ?_ | refine optP_mk0 ?_))
        exact hj3 _ _ _ (.slice none 0 0) [] (Sub.refl _) (hf'.mono (by omega)) OwnT.nil (fun id hid => by cases hid) (by simp) (by rw [hcnt, hen]; rfl) e2 e3 e4 e6 e7 e8 rfl (by omega)
  · (repeat (first | refine bindP_mk (by simp (disch := first | omega | exact Int.natCast_nonneg _ | assumption) only [BB, B2, ↓reduceIte, Nat.reduceLeDiff, Nat.reduceAdd, CC] <;> rfl) ?_ | refine newP_mk ?_ | refine optP_mk ?_ | with_reducible first | refine condP_t ?_ | refine condP_f ?_ | refine ifP_tt' ?_ | refine ifP_ff' ?_ | refine ifP_tf' ?_ | refine ifP_ft' ?_ | refine ifP_u' ?_ | refine optP_mk0 ?_))
    refine hx _ _ _ _ (fun e => by cases e) (exP_e (beqP_t ?_))
    have hkm : k = g.p.length := by omega
    subst hkm
    exact ref10_step_end hf (hf'.mono (by omega)) (by omega) hS e6 e7 fun r h5 n5 hn5 q1 q2 q3 => hK r h5 n5 (by omega) q1 q2 fun h6 h6k => by
      have := q3 h6 fun k hk => h6k k (by omega)
      unfold stepD
      exact this
set_option maxRecDepth 4000 in
set_option maxHeartbeats 2000000 in
theorem ref10_Right_c {ro : Ro} {v w : Value} {g : GlD} {c : CfgD} {h : T Obj} {nx : Nat} {K : KV} (hf : Fr h nx) (hg : RG ro h v g) (hc : RCfg ro h w c) (hK : ∀ nx', nx ≤ nx' → K (.bool (rightC g c)) h nx') : callP Try.prog ro i_ref10_Right [v, w] h nx K := by
  obtain ⟨a, b, rfl, ha, hP⟩ := hg
  obtain ⟨a2, rfl, hl⟩ := hc
  apply ref10_Right_of
  unfold ref10_Right
  refine param_mk hf (Nat.le_refl _) fun h1 hs1 hf1 g1 _ => ?_
  refine param_mk hf1 (Nat.le_refl _) fun h2 hs2 hf2 g2 _ => ?_
  have g1 := hs2 _ _ g1
  have hs := hs1.trans hs2
  have hG : RG ro h2 (.agg #[a, b]) g := ⟨a, b, rfl, ha.sub hs, hP.sub hs (RPos.sub hs)⟩
  have hP := hP.sub hs (RPos.sub hs)
  have hl := hl.sub hs (RHeld.sub hs)
  have hll := hl.len
  unfold rightC at hK
  refine bindP_mk (loadA_all (l := [a, b]) g1 rfl) ?_
  refine ref09_Right_c (hf2.mono (by omega)) hG fun n hn => ?_
  cases hr : rightD g with
  | false =>
    (repeat (first | refine bindP_mk (by simp (disch := first | omega | exact Int.natCast_nonneg _ | assumption) only [BB, B2, ↓reduceIte, Nat.reduceLeDiff, Nat.reduceAdd, CC] <;> rfl) ?_ | refine newP_mk ?_ | refine optP_mk ?_ | with_reducible first | refine condP_t ?_ | refine condP_f ?_ | refine ifP_tt' ?_ | refine ifP_ff' ?_ | refine ifP_tf' ?_ | refine ifP_ft' ?_ | refine ifP_u' ?_ | refine optP_mk0 ?_))
    exact ⟨h, hs, kb hK (by rw [hr]; rfl) (by omega)⟩
  | true =>
    rw [hr] at hK
    simp only [Bool.true_and] at hK
    have hlen := right_len hr
    have hbl := hP.len
    have hK' : ∀ (c' : Bool) n, fitsD g c = c' → nx ≤ n → ∃ h', Sub h' h2 ∧ K (.bool c') h' n := fun c' n e hn => ⟨h, hs, kb hK e hn⟩
    -- the loop
    have hloop : (c.b = true → c.l = []) → ∀ (e0 : Env) n0, e0 2 = ptr nx → e0 3 = ptr (nx + 1) → e0 5 = .int .i64 0 → nx + 2 ≤ n0 → loopP (ref10_Right_L1 ro) e0 h2 n0 fun x345 e342 h343 n344 => exP x345 (ref10_Right_j1 ro K e342 h343 n344) (fun i346 => beqP (Nat.beq i346 0) (ref10_Right_j1 ro K e342 h343 n344) (False)) (∃ h347, Sub h347 h343 ∧ K (e342 4) h347 n344) := by
      intro hcb e0 n0 u2 u3 u5 hn0
      have hfit : fitsD g c = fitsL g (-1) c.l := by
        unfold fitsD
        by_cases hb : c.b = true
        · rw [if_pos hb, hcb hb]; rfl
        · rw [if_neg hb]
      rw [hfit] at hK'
      generalize hR : fitsL g (-1) c.l = R at hK'
      refine loopP_rule (fun j e h' nx' => ∃ (k : Nat) (last : Int), k + j = c.l.length ∧ nx + 2 ≤ nx' ∧ h' = h2 ∧ e 2 = ptr nx ∧ e 3 = ptr (nx + 1) ∧ e 5 = .int .i64 k ∧ (k : Int) ≤ last + 1 ∧ last ≤ 1000000 ∧ (k = 0 → last = -1) ∧ (∀ q, q + 1 = k → ∃ hq : q < c.l.length, (c.l[q]).p = last) ∧ fitsL g last (c.l.drop k) = R) ?_ (n := c.l.length) ⟨0, -1, by omega, hn0, rfl, u2, u3, u5, by omega, by omega, fun _ => rfl, fun q hq => by omega, hR⟩
      rintro j e h' nx' ⟨k, last, hj, hnx, rfl, e2, e3, e5, hk1, hk2, hk0, hkp, hr2⟩ Q' hq hx
      unfold ref10_Right_L1
      rw [e2, e3, e5]
      (repeat (first | refine bindP_mk (by simp (disch := first | omega | exact Int.natCast_nonneg _ | assumption) only [BB, B2, ↓reduceIte, Nat.reduceLeDiff, Nat.reduceAdd, CC, g2, hll] <;> rfl) ?_ | refine newP_mk ?_ | refine optP_mk ?_ | with_reducible first | refine condP_t ?_ | refine condP_f ?_ | refine ifP_tt' ?_ | refine ifP_ff' ?_ | refine ifP_tf' ?_ | refine ifP_ft' ?_ | refine ifP_u' ?_ | refine optP_mk0 ?_))
      refine lss_s (fun hk => ?_) (fun hk => ?_)
      · have hk : k < c.l.length := by omega
        rw [drop_cons hk, fitsL_cons] at hr2
        obtain ⟨x, ⟨nv, rfl, hn1⟩, hx2, hx3, hx4, hx5⟩ := hl.at hk
        have hix := hl.ix .i64 hk
        have hkk : ∀ q, q + 1 = k + 1 → ∃ hq : q < c.l.length, (c.l[q]).p = (c.l[k]).p := fun q hq => by
          have : q = k := by omega
          subst this; exact ⟨hk, rfl⟩
        generalize c.l[k] = d at hr2 hx2 hx3 hx5 hn1 hkk
        (repeat (first | refine bindP_mk (by simp (disch := first | omega | exact Int.natCast_nonneg _ | assumption) only [BB, B2, ↓reduceIte, Nat.reduceLeDiff, Nat.reduceAdd, CC, g2, hix, hx3] <;> rfl) ?_ | refine newP_mk ?_ | refine optP_mk ?_ | with_reducible first | refine condP_t ?_ | refine condP_f ?_ | refine ifP_tt' ?_ | refine ifP_ff' ?_ | refine ifP_tf' ?_ | refine ifP_ft' ?_ | refine ifP_u' ?_ | refine optP_mk0 ?_))
        refine local_mk zer_Held rfl rfl rfl (held_ok hn1.ok) hf2 (by omega) fun h3 hs3 hf3 g3 _ => ?_
        have g13 := hs3 _ _ g1
        have g23 := hs3 _ _ g2
        have hP3 := hP.sub hs3 (RPos.sub hs3)
        have hl3 := hl.sub hs3 (RHeld.sub hs3)
        have hn1 := hn1.sub hs3
        have hnl := hn1.len
        have hfin : ∀ (e' : Env) n, e' 4 = .bool false → R = false → nx ≤ n → Q' .ret e' h3 n := fun e' n h4 hc hn => by
          refine hx _ _ _ _ (fun e => by cases e) (exP_r ?_)
          rw [h4]
          obtain ⟨h9, q1, q2⟩ := hK' false n hc hn
          exact ⟨h9, q1.trans hs3, q2⟩
        -- behind the first checks
        have hrest : 0 ≤ d.p → last < d.p → d.p < g.p.length → d.n ≠ [] → ∀ (e0 : Env) n0, e0 2 = ptr nx → e0 3 = ptr (nx + 1) → e0 5 = .int .i64 k → e0 6 = ptr (nx' + 10) → e0 7 = .int .i64 0 → nx + 2 ≤ n0 → loopP (ref10_Right_L2 ro) e0 h3 n0 fun x340 e337 h338 n339 => exP x340 (ref10_Right_j2 ro Q' e337 h338 n339) (fun i341 => beqP (Nat.beq i341 2) (ref10_Right_j2 ro Q' e337 h338 n339) (beqP (Nat.beq i341 1) (ref10_Right_j2 ro Q' e337 h338 n339) (Q' (.exit i341) e337 h338 n339))) (Q' .ret e337 h338 n339) := by
          intro c0 c1 c2 c3 e0 n0 u2 u3 u5 u6 u7 hn0
          rw [decide_eq_true c1, decide_eq_true c2, ne_len (by intro h; exact c3 (eq_len h))] at hr2
          simp only [Bool.true_and, Bool.not_false] at hr2
          have hmay := may_spec (right_at hr c0 c2)
          obtain ⟨pv, -, -, p3, -, p5, p6⟩ := P_at hP3 (i := d.p) c0 c2
          have p7 := p6 5 _ rfl
          generalize hR3 : rz 0 ((g.at d.p).hi + 1) d.n = R3 at hr2
          refine loopP_rule (fun j2 e' h'' n'' => ∃ (k2 : Nat) (cnt : Int), k2 + j2 = d.n.length ∧ nx + 2 ≤ n'' ∧ h'' = h3 ∧ e' 2 = ptr nx ∧ e' 3 = ptr (nx + 1) ∧ e' 5 = .int .i64 k ∧ e' 6 = ptr (nx' + 10) ∧ e' 7 = .int .i64 k2 ∧ (k2 : Int) ≤ cnt ∧ cnt ≤ 1000000 ∧ (k2 = 0 → cnt = 0) ∧ (∀ q, q + 1 = k2 → d.n[q]? = some cnt) ∧ rz cnt ((g.at d.p).hi + 1) (d.n.drop k2) = R3) ?_ (n := d.n.length) ⟨0, 0, by omega, hn0, rfl, u2, u3, u5, u6, u7, by omega, by omega, fun _ => rfl, fun q hq => by omega, hR3⟩
          rintro j2 e' h'' n'' ⟨k2, cnt, hj2, hn'', rfl, f2, f3, f5, f6, f7, hc1, hc2, hc0, hcp, hr4⟩ Q2 hq2 hx2
          unfold ref10_Right_L2
          rw [f2, f6, f7]
          (repeat (first | refine bindP_mk (by simp (disch := first | omega | exact Int.natCast_nonneg _ | assumption) only [BB, B2, ↓reduceIte, Nat.reduceLeDiff, Nat.reduceAdd, CC, g3, hnl] <;> rfl) ?_ | refine newP_mk ?_ | refine optP_mk ?_ | with_reducible first | refine condP_t ?_ | refine condP_f ?_ | refine ifP_tt' ?_ | refine ifP_ff' ?_ | refine ifP_tf' ?_ | refine ifP_ft' ?_ | refine ifP_u' ?_ | refine optP_mk0 ?_))
          refine lss_s (fun hk3 => ?_) (fun hk3 => ?_)
          · have hk3 : k2 < d.n.length := by omega
            rw [drop_cons hk3, rz_cons] at hr4
            have hyx := hn1.ix .i64 hk3
            have hy1 := hn1.load hk3
            have hyk : d.n[k2]? = some d.n[k2] := List.getElem?_eq_getElem hk3
            generalize d.n[k2] = y at hr4 hy1 hyk
            have hfin2 : ∀ (e' : Env) n, e' 4 = .bool false → (¬ cnt < y ∨ ¬ y < (g.at d.p).hi + 1) → nx ≤ n → Q2 .ret e' h'' n := fun e' n h4 hc hn => by
              refine hx2 _ _ _ _ (fun e => by cases e) (exP_r ?_)
              refine hfin _ _ h4 ?_ hn
              have : R3 = false := by
                rw [← hr4]
                rcases hc with hc | hc
                · rw [decide_eq_false hc]; rfl
                · rw [decide_eq_false hc]; simp
              rw [← hr2, this]; rfl
            have hok2 : ∀ (e' : Env) n, e' 2 = ptr nx → e' 3 = ptr (nx + 1) → e' 5 = .int .i64 k → e' 6 = ptr (nx' + 10) → e' 7 = .int .i64 ((k2 : Int) + 1) → cnt < y → y < (g.at d.p).hi + 1 → nx + 2 ≤ n → Q2 .normal e' h'' n := fun e' n t2 t3 t5 t6 t7 c1 c2 hn => by
              refine hq2 (j2 - 1) _ _ _ _ (by omega) ⟨k2 + 1, y, by omega, hn, rfl, t2, t3, t5, t6, t7, by omega, by omega, fun h => by omega, fun q hq => ?_, ?_⟩ (Sub.refl _)
              · have : q = k2 := by omega
                subst this; exact hyk
              · rw [← hr4, decide_eq_true c1, decide_eq_true c2]; rfl
            (repeat (first | refine bindP_mk (by simp (disch := first | omega | exact Int.natCast_nonneg _ | assumption) only [BB, B2, ↓reduceIte, Nat.reduceLeDiff, Nat.reduceAdd, CC, g3, hyx, hy1] <;> rfl) ?_ | refine newP_mk ?_ | refine optP_mk ?_ | with_reducible first | refine condP_t ?_ | refine condP_f ?_ | refine ifP_tt' ?_ | refine ifP_ff' ?_ | refine ifP_tf' ?_ | refine ifP_ft' ?_ | refine ifP_u' ?_ | refine optP_mk0 ?_))
            refine lss_s (fun hlt => ?_) (fun hlt => ?_)
            · (repeat (first | refine bindP_mk (by simp (disch := first | omega | exact Int.natCast_nonneg _ | assumption) only [BB, B2, ↓reduceIte, Nat.reduceLeDiff, Nat.reduceAdd, CC] <;> rfl) ?_ | refine newP_mk ?_ | refine optP_mk ?_ | with_reducible first | refine condP_t ?_ | refine condP_f ?_ | refine ifP_tt' ?_ | refine ifP_ff' ?_ | refine ifP_tf' ?_ | refine ifP_ft' ?_ | refine ifP_u' ?_ | refine optP_mk0 ?_))
              exact hfin2 _ _ rfl (.inl (by omega)) (by omega)
            · (repeat (first | refine bindP_mk (by simp (disch := first | omega | exact Int.natCast_nonneg _ | assumption) only [BB, B2, ↓reduceIte, Nat.reduceLeDiff, Nat.reduceAdd, CC, g13, g3, hyx, hy1, p3, p5, p7] <;> rfl) ?_ | refine newP_mk ?_ | refine optP_mk ?_ | with_reducible first | refine condP_t ?_ | refine condP_f ?_ | refine ifP_tt' ?_ | refine ifP_ff' ?_ | refine ifP_tf' ?_ | refine ifP_ft' ?_ | refine ifP_u' ?_ | refine optP_mk0 ?_))
              refine gtr_s (fun hgt => ?_) (fun hgt => ?_)
              · (repeat (first | refine bindP_mk (by simp (disch := first | omega | exact Int.natCast_nonneg _ | assumption) only [BB, B2, ↓reduceIte, Nat.reduceLeDiff, Nat.reduceAdd, CC] <;> rfl) ?_ | refine newP_mk ?_ | refine optP_mk ?_ | with_reducible first | refine condP_t ?_ | refine condP_f ?_ | refine ifP_tt' ?_ | refine ifP_ff' ?_ | refine ifP_tf' ?_ | refine ifP_ft' ?_ | refine ifP_u' ?_ | refine optP_mk0 ?_))
                exact hfin2 _ _ rfl (.inr (by omega)) (by omega)
              · (repeat (first | refine bindP_mk (by simp (disch := first | omega | exact Int.natCast_nonneg _ | assumption) only [BB, B2, ↓reduceIte, Nat.reduceLeDiff, Nat.reduceAdd, CC] <;> rfl) ?_ | refine newP_mk ?_ | refine optP_mk ?_ | with_reducible first | refine condP_t ?_ | refine condP_f ?_ | refine ifP_tt' ?_ | refine ifP_ff' ?_ | refine ifP_tf' ?_ | refine ifP_ft' ?_ | refine ifP_u' ?_ | refine optP_mk0 ?_))
                refine gtr_s (fun hk4 => ?_) (fun hk4 => ?_)
                · have h2 := hcp (k2 - 1) (by omega)
                  have h3' := (List.getElem?_eq_some_iff.1 h2).1
                  have h4 : ((k2 : Int) - 1).toNat = k2 - 1 := by omega
                  have hpx := hn1.ixI .i64 (i := (k2 : Int) - 1) (by omega) (by omega)
                  have hp1 := hn1.load' h2
                  rw [h4] at hpx
                  (repeat (first | refine bindP_mk (by simp (disch := first | omega | exact Int.natCast_nonneg _ | assumption) only [BB, B2, ↓reduceIte, Nat.reduceLeDiff, Nat.reduceAdd, CC, g3, hpx, hp1, hyx, hy1] <;> rfl) ?_ | refine newP_mk ?_ | refine optP_mk ?_ | with_reducible first | refine condP_t ?_ | refine condP_f ?_ | refine ifP_tt' ?_ | refine ifP_ff' ?_ | refine ifP_tf' ?_ | refine ifP_ft' ?_ | refine ifP_u' ?_ | refine optP_mk0 ?_))
                  refine geq_s (fun hge => ?_) (fun hge => ?_)
                  · (repeat (first | refine bindP_mk (by simp (disch := first | omega | exact Int.natCast_nonneg _ | assumption) only [BB, B2, ↓reduceIte, Nat.reduceLeDiff, Nat.reduceAdd, CC] <;> rfl) ?_ | refine newP_mk ?_ | refine optP_mk ?_ | with_reducible first | refine condP_t ?_ | refine condP_f ?_ | refine ifP_tt' ?_ | refine ifP_ff' ?_ | refine ifP_tf' ?_ | refine ifP_ft' ?_ | refine ifP_u' ?_ | refine optP_mk0 ?_))
                    exact hfin2 _ _ rfl (.inl (by omega)) (by omega)
                  · (repeat (first | refine bindP_mk (by simp (disch := first | omega | exact Int.natCast_nonneg _ | assumption) only [BB, B2, ↓reduceIte, Nat.reduceLeDiff, Nat.reduceAdd, CC] <;> rfl) ?_ | refine newP_mk ?_ | refine optP_mk ?_ | with_reducible first | refine condP_t ?_ | refine condP_f ?_ | refine ifP_tt' ?_ | refine ifP_ff' ?_ | refine ifP_tf' ?_ | refine ifP_ft' ?_ | refine ifP_u' ?_ | refine optP_mk0 ?_))
                    exact hok2 _ _ f2 f3 f5 f6 rfl (by omega) (by omega) (by omega)
                · (repeat (first | refine bindP_mk (by simp (disch := first | omega | exact Int.natCast_nonneg _ | assumption) only [BB, B2, ↓reduceIte, Nat.reduceLeDiff, Nat.reduceAdd, CC] <;> rfl) ?_ | refine newP_mk ?_ | refine optP_mk ?_ | with_reducible first | refine condP_t ?_ | refine condP_f ?_ | refine ifP_tt' ?_ | refine ifP_ff' ?_ | refine ifP_tf' ?_ | refine ifP_ft' ?_ | refine ifP_u' ?_ | refine optP_mk0 ?_))
                  have := hc0 (by omega)
                  exact hok2 _ _ f2 f3 f5 f6 rfl (by omega) (by omega) (by omega)
          · (repeat (first | refine bindP_mk (by simp (disch := first | omega | exact Int.natCast_nonneg _ | assumption) only [BB, B2, ↓reduceIte, Nat.reduceLeDiff, Nat.reduceAdd, CC] <;> rfl) ?_ | refine newP_mk ?_ | refine optP_mk ?_ | with_reducible first | refine condP_t ?_ | refine condP_f ?_ | refine ifP_tt' ?_ | refine ifP_ff' ?_ | refine ifP_tf' ?_ | refine ifP_ft' ?_ | refine ifP_u' ?_ | refine optP_mk0 ?_))
            refine hx2 _ _ _ _ (fun e => by cases e) (exP_e (beqP_t ?_))
            rw [drop_all (by omega)] at hr4
            have hr4 : R3 = true := hr4.symm
            rw [hr4, Bool.true_and] at hr2
            have hj2 : ∀ (e' : Env) n, e' 2 = ptr nx → e' 3 = ptr (nx + 1) → e' 5 = .int .i64 k → nx + 2 ≤ n → ref10_Right_j2 ro Q' e' h'' n := fun e' n t2 t3 t5 hn => by
              unfold ref10_Right_j2
              rw [t5]
              (repeat (first | refine bindP_mk (by simp (disch := first | omega | exact Int.natCast_nonneg _ | assumption) only [BB, B2, ↓reduceIte, Nat.reduceLeDiff, Nat.reduceAdd, CC] <;> rfl) ?_ | refine newP_mk ?_ | refine optP_mk ?_ | with_reducible first | refine condP_t ?_ | refine condP_f ?_ | refine ifP_tt' ?_ | refine ifP_ff' ?_ | refine ifP_tf' ?_ | refine ifP_ft' ?_ | refine ifP_u' ?_ | refine optP_mk0 ?_))
              exact hq (j - 1) _ h' _ _ (by omega) ⟨k + 1, d.p, by omega, by omega, rfl, t2, t3, rfl, by omega, by omega, fun h => by omega, hkk, hr2⟩ hs3
            exact hj2 _ _ f2 f3 f5 (by omega)
        (repeat (first | refine bindP_mk (by simp (disch := first | omega | exact Int.natCast_nonneg _ | assumption) only [BB, B2, ↓reduceIte, Nat.reduceLeDiff, Nat.reduceAdd, CC, g3] <;> rfl) ?_ | refine newP_mk ?_ | refine optP_mk ?_ | with_reducible first | refine condP_t ?_ | refine condP_f ?_ | refine ifP_tt' ?_ | refine ifP_ff' ?_ | refine ifP_tf' ?_ | refine ifP_ft' ?_ | refine ifP_u' ?_ | refine optP_mk0 ?_))
        refine lss_s (fun hlt => ?_) (fun hlt => ?_)
        · (repeat (first | refine bindP_mk (by simp (disch := first | omega | exact Int.natCast_nonneg _ | assumption) only [BB, B2, ↓reduceIte, Nat.reduceLeDiff, Nat.reduceAdd, CC, g13, g23, g3, hbl, hnl] <;> rfl) ?_ | refine newP_mk ?_ | refine optP_mk ?_ | with_reducible first | refine condP_t ?_ | refine condP_f ?_ | refine ifP_tt' ?_ | refine ifP_ff' ?_ | refine ifP_tf' ?_ | refine ifP_ft' ?_ | refine ifP_u' ?_ | refine optP_mk0 ?_))
          exact hfin _ _ rfl (by rw [← hr2, decide_eq_false (by omega)]; rfl) (by omega)
        · (repeat (first | refine bindP_mk (by simp (disch := first | omega | exact Int.natCast_nonneg _ | assumption) only [BB, B2, ↓reduceIte, Nat.reduceLeDiff, Nat.reduceAdd, CC, g13, g23, g3, hbl, hnl] <;> rfl) ?_ | refine newP_mk ?_ | refine optP_mk ?_ | with_reducible first | refine condP_t ?_ | refine condP_f ?_ | refine ifP_tt' ?_ | refine ifP_ff' ?_ | refine ifP_tf' ?_ | refine ifP_ft' ?_ | refine ifP_u' ?_ | refine optP_mk0 ?_))
          refine geq_s (fun hge => ?_) (fun hge => ?_)
          · (repeat (first | refine bindP_mk (by simp (disch := first | omega | exact Int.natCast_nonneg _ | assumption) only [BB, B2, ↓reduceIte, Nat.reduceLeDiff, Nat.reduceAdd, CC, g13, g23, g3, hbl, hnl] <;> rfl) ?_ | refine newP_mk ?_ | refine optP_mk ?_ | with_reducible first | refine condP_t ?_ | refine condP_f ?_ | refine ifP_tt' ?_ | refine ifP_ff' ?_ | refine ifP_tf' ?_ | refine ifP_ft' ?_ | refine ifP_u' ?_ | refine optP_mk0 ?_))
            exact hfin _ _ rfl (by rw [← hr2, decide_eq_false (show ¬ d.p < (g.p.length : Int) by omega)]; simp) (by omega)
          · (repeat (first | refine bindP_mk (by simp (disch := first | omega | exact Int.natCast_nonneg _ | assumption) only [BB, B2, ↓reduceIte, Nat.reduceLeDiff, Nat.reduceAdd, CC, g13, g23, g3, hbl, hnl] <;> rfl) ?_ | refine newP_mk ?_ | refine optP_mk ?_ | with_reducible first | refine condP_t ?_ | refine condP_f ?_ | refine ifP_tt' ?_ | refine ifP_ff' ?_ | refine ifP_tf' ?_ | refine ifP_ft' ?_ | refine ifP_u' ?_ | refine optP_mk0 ?_))
            have hend : last < d.p → ∀ n0, nx + 2 ≤ n0 → True := fun _ _ _ => trivial
            refine gtr_s (fun hk4 => ?_) (fun hk4 => ?_)
            · obtain ⟨hql, hqp⟩ := hkp (k - 1) (by omega)
              have h4 : ((k : Int) - 1).toNat = k - 1 := by omega
              have hpx := hl3.ixI .i64 (i := (k : Int) - 1) (by omega) (by omega)
              rw [h4] at hpx
              obtain ⟨xp, ⟨nvp, rfl, _⟩, _, _, hp4, hp5⟩ := hl3.at hql
              have hp0 := hp5 0 _ rfl
              rw [hqp] at hp0
              (repeat (first | refine bindP_mk (by simp (disch := first | omega | exact Int.natCast_nonneg _ | assumption) only [BB, B2, ↓reduceIte, Nat.reduceLeDiff, Nat.reduceAdd, CC, g13, g23, g3, hpx, hp4, hp0] <;> rfl) ?_ | refine newP_mk ?_ | refine optP_mk ?_ | with_reducible first | refine condP_t ?_ | refine condP_f ?_ | refine ifP_tt' ?_ | refine ifP_ff' ?_ | refine ifP_tf' ?_ | refine ifP_ft' ?_ | refine ifP_u' ?_ | refine optP_mk0 ?_))
              refine geq_s (fun hge2 => ?_) (fun hge2 => ?_)
              · (repeat (first | refine bindP_mk (by simp (disch := first | omega | exact Int.natCast_nonneg _ | assumption) only [BB, B2, ↓reduceIte, Nat.reduceLeDiff, Nat.reduceAdd, CC] <;> rfl) ?_ | refine newP_mk ?_ | refine optP_mk ?_ | with_reducible first | refine condP_t ?_ | refine condP_f ?_ | refine ifP_tt' ?_ | refine ifP_ff' ?_ | refine ifP_tf' ?_ | refine ifP_ft' ?_ | refine ifP_u' ?_ | refine optP_mk0 ?_))
                exact hfin _ _ rfl (by rw [← hr2, decide_eq_false (by omega)]; rfl) (by omega)
              · (repeat (first | refine bindP_mk (by simp (disch := first | omega | exact Int.natCast_nonneg _ | assumption) only [BB, B2, ↓reduceIte, Nat.reduceLeDiff, Nat.reduceAdd, CC, g3, hnl] <;> rfl) ?_ | refine newP_mk ?_ | refine optP_mk ?_ | with_reducible first | refine condP_t ?_ | refine condP_f ?_ | refine ifP_tt' ?_ | refine ifP_ff' ?_ | refine ifP_tf' ?_ | refine ifP_ft' ?_ | refine ifP_u' ?_ | refine optP_mk0 ?_))
                refine eql_s (fun he => ?_) (fun he => ?_)
                · (repeat (first | refine bindP_mk (by simp (disch := first | omega | exact Int.natCast_nonneg _ | assumption) only [BB, B2, ↓reduceIte, Nat.reduceLeDiff, Nat.reduceAdd, CC] <;> rfl) ?_ | refine newP_mk ?_ | refine optP_mk ?_ | with_reducible first | refine condP_t ?_ | refine condP_f ?_ | refine ifP_tt' ?_ | refine ifP_ff' ?_ | refine ifP_tf' ?_ | refine ifP_ft' ?_ | refine ifP_u' ?_ | refine optP_mk0 ?_))
                  exact hfin _ _ rfl (by rw [← hr2, eq_len he]; simp) (by omega)
                · (repeat (first | refine bindP_mk (by simp (disch := first | omega | exact Int.natCast_nonneg _ | assumption) only [BB, B2, ↓reduceIte, Nat.reduceLeDiff, Nat.reduceAdd, CC] <;> rfl) ?_ | refine newP_mk ?_ | refine optP_mk ?_ | with_reducible first | refine condP_t ?_ | refine condP_f ?_ | refine ifP_tt' ?_ | refine ifP_ff' ?_ | refine ifP_tf' ?_ | refine ifP_ft' ?_ | refine ifP_u' ?_ | refine optP_mk0 ?_))
                  exact hrest (by omega) (by omega) (by omega) (fun h => by rw [h] at he; exact he rfl) _ _ e2 e3 e5 rfl rfl (by omega)
            · (repeat (first | refine bindP_mk (by simp (disch := first | omega | exact Int.natCast_nonneg _ | assumption) only [BB, B2, ↓reduceIte, Nat.reduceLeDiff, Nat.reduceAdd, CC, g3, hnl] <;> rfl) ?_ | refine newP_mk ?_ | refine optP_mk ?_ | with_reducible first | refine condP_t ?_ | refine condP_f ?_ | refine ifP_tt' ?_ | refine ifP_ff' ?_ | refine ifP_tf' ?_ | refine ifP_ft' ?_ | refine ifP_u' ?_ | refine optP_mk0 ?_))
              have := hk0 (by omega)
              refine eql_s (fun he => ?_) (fun he => ?_)
              · (repeat (first | refine bindP_mk (by simp (disch := first | omega | exact Int.natCast_nonneg _ | assumption) only [BB, B2, ↓reduceIte, Nat.reduceLeDiff, Nat.reduceAdd, CC] <;> rfl) ?_ | refine newP_mk ?_ | refine optP_mk ?_ | with_reducible first | refine condP_t ?_ | refine condP_f ?_ | refine ifP_tt' ?_ | refine ifP_ff' ?_ | refine ifP_tf' ?_ | refine ifP_ft' ?_ | refine ifP_u' ?_ | refine optP_mk0 ?_))
                exact hfin _ _ rfl (by rw [← hr2, eq_len he]; simp) (by omega)
              · (repeat (first | refine bindP_mk (by simp (disch := first | omega | exact Int.natCast_nonneg _ | assumption) only [BB, B2, ↓reduceIte, Nat.reduceLeDiff, Nat.reduceAdd, CC] <;> rfl) ?_ | refine newP_mk ?_ | refine optP_mk ?_ | with_reducible first | refine condP_t ?_ | refine condP_f ?_ | refine ifP_tt' ?_ | refine ifP_ff' ?_ | refine ifP_tf' ?_ | refine ifP_ft' ?_ | refine ifP_u' ?_ | refine optP_mk0 ?_))
                exact hrest (by omega) (by omega) (by omega) (fun h => by rw [h] at he; exact he rfl) _ _ e2 e3 e5 rfl rfl (by omega)
      · (repeat (first | refine bindP_mk (by simp (disch := first | omega | exact Int.natCast_nonneg _ | assumption) only [BB, B2, ↓reduceIte, Nat.reduceLeDiff, Nat.reduceAdd, CC] <;> rfl) ?_ | refine newP_mk ?_ | refine optP_mk ?_ | with_reducible first | refine condP_t ?_ | refine condP_f ?_ | refine ifP_tt' ?_ | refine ifP_ff' ?_ | refine ifP_tf' ?_ | refine ifP_ft' ?_ | refine ifP_u' ?_ | refine optP_mk0 ?_))
        refine hx _ _ _ _ (fun e => by cases e) (exP_e (beqP_t ?_))
        unfold ref10_Right_j1
        rw [drop_all (by omega)] at hr2
        exact hK' _ _ hr2.symm (by omega)
    (repeat (first | refine bindP_mk (by simp (disch := first | omega | exact Int.natCast_nonneg _ | assumption) only [BB, B2, ↓reduceIte, Nat.reduceLeDiff, Nat.reduceAdd, CC, g2] <;> rfl) ?_ | refine newP_mk ?_ | refine optP_mk ?_ | with_reducible first | refine condP_t ?_ | refine condP_f ?_ | refine ifP_tt' ?_ | refine ifP_ff' ?_ | refine ifP_tf' ?_ | refine ifP_ft' ?_ | refine ifP_u' ?_ | refine optP_mk0 ?_))
    cases hcb : c.b with
    | true =>
      (repeat (first | refine bindP_mk (by simp (disch := first | omega | exact Int.natCast_nonneg _ | assumption) only [BB, B2, ↓reduceIte, Nat.reduceLeDiff, Nat.reduceAdd, CC, g2, hll] <;> rfl) ?_ | refine newP_mk ?_ | refine optP_mk ?_ | with_reducible first | refine condP_t ?_ | refine condP_f ?_ | refine ifP_tt' ?_ | refine ifP_ff' ?_ | refine ifP_tf' ?_ | refine ifP_ft' ?_ | refine ifP_u' ?_ | refine optP_mk0 ?_))
      refine gtr_s (fun hgt => ?_) (fun hgt => ?_)
      · (repeat (first | refine bindP_mk (by simp (disch := first | omega | exact Int.natCast_nonneg _ | assumption) only [BB, B2, ↓reduceIte, Nat.reduceLeDiff, Nat.reduceAdd, CC] <;> rfl) ?_ | refine newP_mk ?_ | refine optP_mk ?_ | with_reducible first | refine condP_t ?_ | refine condP_f ?_ | refine ifP_tt' ?_ | refine ifP_ff' ?_ | refine ifP_tf' ?_ | refine ifP_ft' ?_ | refine ifP_u' ?_ | refine optP_mk0 ?_))
        refine hK' _ _ ?_ (by omega)
        unfold fitsD
        rw [hcb, if_pos rfl]
        exact ne_len (by omega)
      · (repeat (first | refine bindP_mk (by simp (disch := first | omega | exact Int.natCast_nonneg _ | assumption) only [BB, B2, ↓reduceIte, Nat.reduceLeDiff, Nat.reduceAdd, CC] <;> rfl) ?_ | refine newP_mk ?_ | refine optP_mk ?_ | with_reducible first | refine condP_t ?_ | refine condP_f ?_ | refine ifP_tt' ?_ | refine ifP_ff' ?_ | refine ifP_tf' ?_ | refine ifP_ft' ?_ | refine ifP_u' ?_ | refine optP_mk0 ?_))
        exact hloop (fun _ => eq_len (by omega)) _ _ rfl rfl rfl (by omega)
    | false =>
      (repeat (first | refine bindP_mk (by simp (disch := first | omega | exact Int.natCast_nonneg _ | assumption) only [BB, B2, ↓reduceIte, Nat.reduceLeDiff, Nat.reduceAdd, CC] <;> rfl) ?_ | refine newP_mk ?_ | refine optP_mk ?_ | with_reducible first | refine condP_t ?_ | refine condP_f ?_ | refine ifP_tt' ?_ | refine ifP_ff' ?_ | refine ifP_tf' ?_ | refine ifP_ft' ?_ | refine ifP_u' ?_ | refine optP_mk0 ?_))
      exact hloop (fun h => by rw [hcb] at h; cases h) _ _ rfl rfl rfl (by omega)
theorem ref10_Rule_c {ro : Ro} {v w : Value} {g : GlD} {c : CfgD} {h : T Obj} {nx : Nat} {K : KV} (hf : Fr h nx) (hg : RG ro h v g) (hc : RCfg ro h w c) (hK : ∀ nx', nx ≤ nx' → K (.int .i64 (RuleC g c)) h nx') : callP Try.prog ro i_ref10_Rule [v, w] h nx K := by
  obtain ⟨a, b, rfl, ha, hP⟩ := hg
  obtain ⟨a2, rfl, hl⟩ := hc
  apply ref10_Rule_of
  unfold ref10_Rule
  refine param_mk hf (Nat.le_refl _) fun h1 hs1 hf1 g1 _ => ?_
  refine param_mk hf1 (Nat.le_refl _) fun h2 hs2 hf2 g2 _ => ?_
  have g1 := hs2 _ _ g1
  have hs := hs1.trans hs2
  have hG : RG ro h2 (.agg #[a, b]) g := ⟨a, b, rfl, ha.sub hs, hP.sub hs (RPos.sub hs)⟩
  have hC : RCfg ro h2 (.agg #[.bool c.b, a2]) c := ⟨a2, rfl, hl.sub hs (RHeld.sub hs)⟩
  refine bindP_mk (loadA_all (l := [a, b]) g1 rfl) ?_
  refine bindP_mk (loadA_all (l := [.bool c.b, a2]) g2 rfl) ?_
  refine ref10_Right_c (hf2.mono (by omega)) hG hC fun n hn => ?_
  unfold RuleC at hK
  cases hrc : rightC g c with
  | false =>
    (repeat (first | refine bindP_mk (by simp (disch := first | omega | exact Int.natCast_nonneg _ | assumption) only [BB, B2, ↓reduceIte, Nat.reduceLeDiff, Nat.reduceAdd, CC] <;> rfl) ?_ | refine newP_mk ?_ | refine optP_mk ?_ | with_reducible first | refine condP_t ?_ | refine condP_f ?_ | refine ifP_tt' ?_ | refine ifP_ff' ?_ | refine ifP_tf' ?_ | refine ifP_ft' ?_ | refine ifP_u' ?_ | refine optP_mk0 ?_))
    exact ⟨h, hs, ki hK (by rw [hrc]; rfl) (by omega)⟩
  | true =>
    have hrc2 := hrc
    unfold rightC at hrc2
    simp only [Bool.and_eq_true] at hrc2
    (repeat (first | refine bindP_mk (by simp (disch := first | omega | exact Int.natCast_nonneg _ | assumption) only [BB, B2, ↓reduceIte, Nat.reduceLeDiff, Nat.reduceAdd, CC] <;> rfl) ?_ | refine newP_mk ?_ | refine optP_mk ?_ | with_reducible first | refine condP_t ?_ | refine condP_f ?_ | refine ifP_tt' ?_ | refine ifP_ff' ?_ | refine ifP_tf' ?_ | refine ifP_ft' ?_ | refine ifP_u' ?_ | refine optP_mk0 ?_))
    refine bindP_mk (loadA_all (l := [a, b]) g1 rfl) ?_
    refine bindP_mk (loadA_all (l := [.bool c.b, a2]) g2 rfl) ?_
    refine ref10_rule_c hrc2.1 hrc2.2 (hf2.mono (by omega)) hG hC fun n3 hn3 => ?_
    exact ⟨h, hs, ki hK (by rw [hrc]; rfl) (by omega)⟩
end V
end Go.Proofs.Ytmmdcdjkmakgpaa
set_option linter.unusedVariables false
set_option linter.unusedSimpArgs false
namespace Go.Proofs.Ytmmdcdjkmakgpaa
namespace V
open PA
def digitD (g : GlD) (h : HeldD) : Int := if h.n.getLastD 0 < (g.at h.p).lo then 0 else if h.n.headD 0 < (g.at h.p).hi then 2 else 1
def cod (g : GlD) : List HeldD → Int
  | [] => 0
  | h :: r => if ctd g h.p then digitD g h + 3 * cod g r else cod g r
theorem cod_cons (g : GlD) (h : HeldD) (r : List HeldD) : cod g (h :: r) = if ctd g h.p then digitD g h + 3 * cod g r else cod g r := rfl
def dgH (g : GlD) (h : HeldD) : Int := if ctd g h.p then digitD g h else -1
theorem digit_range (g : GlD) (h : HeldD) : 0 ≤ digitD g h ∧ digitD g h < 3 := by
  unfold digitD
  split
  · omega
  · split <;> omega
theorem cod_pos (g : GlD) : ∀ l : List HeldD, 0 ≤ cod g l
  | [] => Int.le_refl _
  | h :: r => by
    rw [cod_cons]
    have := cod_pos g r
    have := digit_range g h
    split <;> omega
theorem digs_cod (g : GlD) : ∀ l : List HeldD, digs g (l.map (·.p)) (cod g l) = l.map fun h => (h.p, dgH g h)
  | [] => rfl
  | h :: r => by
    have hd := digit_range g h
    rw [List.map_cons, digs_cons, List.map_cons, cod_cons]
    cases hc : ctd g h.p with
    | true =>
      rw [if_pos rfl, if_pos rfl]
      have e1 : (digitD g h + 3 * cod g r) % 3 = digitD g h := by omega
      have e2 : (digitD g h + 3 * cod g r) / 3 = cod g r := by omega
      rw [e1, e2, digs_cod g r]
      have : dgH g h = digitD g h := by unfold dgH; rw [if_pos hc]
      rw [this]
    | false =>
      rw [if_neg (by decide), if_neg (by decide), digs_cod g r]
      have : dgH g h = -1 := by unfold dgH; rw [hc]; rfl
      rw [this]
theorem cod_lt (g : GlD) : ∀ l : List HeldD, cod g l < 3 ^ (regsZ g (l.map (·.p))).length
  | [] => by show (0 : Int) < 3 ^ 0; decide
  | h :: r => by
    have h1 := cod_lt g r
    have h2 := digit_range g h
    rw [cod_cons, List.map_cons]
    have e : regsZ g (h.p :: r.map (·.p)) = if ctd g h.p then numZ g h.p :: regsZ g (r.map (·.p)) else regsZ g (r.map (·.p)) := by
      unfold regsZ
      cases hc : ctd g h.p with
      | true => rw [List.filter_cons_of_pos hc]; rfl
      | false => rw [List.filter_cons_of_neg (by simp [hc])]; rfl
    rw [e]
    cases hc : ctd g h.p with
    | true =>
      rw [if_pos rfl, if_pos rfl, List.length_cons, Int.pow_succ]
      generalize (3 : Int) ^ (regsZ g (r.map (·.p))).length = X at h1
      omega
    | false => rw [if_neg (by decide), if_neg (by decide)]; exact h1
theorem codes_pow {m : Nat} (h : m ≤ 3) : codesD (m : Int) = 3 ^ m := by
  have : m = 0 ∨ m = 1 ∨ m = 2 ∨ m = 3 := by omega
  rcases this with rfl | rfl | rfl | rfl <;> decide
theorem head_last {m : Int} : ∀ {l : List Int} {a : Int}, rz a m l = true → l ≠ [] → a < l.headD 0 ∧ l.headD 0 ≤ l.getLastD 0 ∧ l.getLastD 0 < m ∧ ∀ x ∈ l, l.headD 0 ≤ x
  | [], _, _, h => absurd rfl h
  | [x], a, h, _ => by
    simp only [rz, Bool.and_eq_true, decide_eq_true_eq] at h
    refine ⟨h.1, Int.le_refl _, h.2.1, fun y hy => ?_⟩
    simp at hy; subst hy; exact Int.le_refl _
  | x :: y :: r, a, h, _ => by
    rw [rz_cons] at h
    simp only [Bool.and_eq_true, decide_eq_true_eq] at h
    obtain ⟨h1, h2, h3, h4⟩ := head_last h.2.2 (by simp)
    have e1 : (y :: r).headD 0 = y := rfl
    have e2 : (x :: y :: r).getLastD 0 = (y :: r).getLastD 0 := by simp [List.getLastD]
    rw [e1] at h1 h2 h4
    refine ⟨h.1, ?_, by rw [e2]; exact h3, fun z hz => ?_⟩
    · rw [e2]
      show x ≤ _
      omega
    · show x ≤ z
      rcases List.mem_cons.1 hz with rfl | hz
      · exact Int.le_refl _
      · have := h4 z hz; omega
theorem up_ne {hi a m : Int} {l : List Int} (h : rz a m l = true) (hne : l ≠ []) : upD hi l ≠ [] ↔ l.headD 0 < hi := by
  obtain ⟨h1, h2, h3, h4⟩ := head_last h hne
  unfold upD
  constructor
  · intro hn
    cases hf : l.filter fun x => decide (x < hi) with
    | nil => rw [hf] at hn; exact absurd rfl hn
    | cons x r =>
      have hx : x ∈ l.filter fun x => decide (x < hi) := by rw [hf]; simp
      obtain ⟨m1, m2⟩ := List.mem_filter.1 hx
      have m2 : x < hi := of_decide_eq_true m2
      have := h4 x m1
      omega
  · intro hlt hn
    cases l with
    | nil => exact hne rfl
    | cons x r =>
      have hx : x < hi := hlt
      rw [List.filter_cons_of_pos (by simpa using hx)] at hn
      simp at hn
section
variable {g : GlD} {h : HeldD}
structure HOk (g : GlD) (h : HeldD) : Prop where
  p0 : 0 ≤ h.p
  p1 : h.p < g.p.length
  ne : h.n ≠ []
  rz : rz 0 ((g.at h.p).hi + 1) h.n = true
theorem fits_ok : ∀ {l : List HeldD} {a : Int}, -1 ≤ a → fitsL g a l = true → ∀ h ∈ l, HOk g h
  | [], _, _, _, h, hh => by cases hh
  | x :: r, a, ha, hf, h, hh => by
    rw [fitsL_cons] at hf
    simp only [Bool.and_eq_true, decide_eq_true_eq, Bool.not_eq_true', List.isEmpty_eq_false_iff] at hf
    rcases List.mem_cons.1 hh with rfl | hh
    · exact ⟨by omega, hf.2.1, hf.2.2.1, hf.2.2.2.1⟩
    · exact fits_ok (a := x.p) (by omega) hf.2.2.2.2 h hh
theorem dg_ripe (hr : rightD g = true) (ho : HOk g h) : decide (dgH g h ≠ 0) = ripeD g h := by
  obtain ⟨hgl, hfr, hmay⟩ := right_parts hr
  obtain ⟨m1, m2, m3, _⟩ := may_parts (hmay _ (at_mem ho.p0 ho.p1).1)
  obtain ⟨h1, h2, h3, h4⟩ := head_last ho.rz ho.ne
  unfold ripeD
  rw [decide_eq_decide]
  unfold dgH digitD ctd
  split
  · split
    · omega
    · split <;> omega
  · rename_i hc
    have hc : ¬ 1 < (g.at h.p).hi := by simpa using hc
    omega
theorem dg_stays (hr : rightD g = true) (ho : HOk g h) : (decide (dgH g h = 0) || decide (dgH g h = 2)) = decide (upD (g.at h.p).hi h.n ≠ []) := by
  obtain ⟨hgl, hfr, hmay⟩ := right_parts hr
  obtain ⟨m1, m2, m3, _⟩ := may_parts (hmay _ (at_mem ho.p0 ho.p1).1)
  obtain ⟨h1, h2, h3, h4⟩ := head_last ho.rz ho.ne
  have hu : decide (upD (g.at h.p).hi h.n ≠ []) = decide (h.n.headD 0 < (g.at h.p).hi) := by rw [decide_eq_decide]; exact up_ne ho.rz ho.ne
  rw [hu, Bool.eq_iff_iff, Bool.or_eq_true, decide_eq_true_eq, decide_eq_true_eq, decide_eq_true_eq]
  unfold dgH digitD ctd
  split
  · split
    · omega
    · split <;> omega
  · rename_i hc
    have hc : ¬ 1 < (g.at h.p).hi := by simpa using hc
    omega
end
section
variable {g : GlD} {l : List HeldD}
theorem rul_cod (hr : rightD g = true) : ∀ {l : List HeldD} {b : Int}, (∀ h ∈ l, HOk g h) → ruleZ g b (l.map fun h => (h.p, dgH g h)) = rul g b l
  | [], _, _ => rfl
  | h :: r, b, ho => by
    rw [List.map_cons, ruleZ_cons, rul_cons]
    have := dg_ripe hr (ho h (by simp))
    dsimp only
    rw [this]
    have e : (ripeD g h && ((g.at h.p).last && (decide (b < 0) || decide ((g.at h.p).rule < b)))) = ((g.at h.p).last && (ripeD g h && (decide (b < 0) || decide ((g.at h.p).rule < b)))) := by
      cases ripeD g h <;> cases (g.at h.p).last <;> rfl
    rw [e]
    exact rul_cod hr fun x hx => ho x (by simp [hx])
theorem enters_cod {c : CfgD} {k : Nat} {q : Int} (hr : rightD g = true) (ho : ∀ h ∈ c.l, HOk g h) (hb : c.b = true ↔ k = 0) (hbl : c.b = true → c.l = []) : entersZ g k (c.l.map fun h => (h.p, dgH g h)) q = entersD g c q := by
  unfold entersZ entersD
  cases hcb : c.b with
  | true =>
    have hk := hb.1 hcb
    rw [hbl hcb, hk]
    simp
  | false =>
    have hk : ¬ k = 0 := fun e => by have := hb.2 e; rw [hcb] at this; cases this
    rw [decide_eq_false hk, Bool.false_and, Bool.false_or, List.any_map, if_neg (by decide), Bool.eq_iff_iff, List.any_eq_true, List.any_eq_true]
    constructor
    · rintro ⟨h, h1, h2⟩
      refine ⟨h, h1, ?_⟩
      rw [← dg_ripe hr (ho h h1)]; exact h2
    · rintro ⟨h, h1, h2⟩
      refine ⟨h, h1, ?_⟩
      rw [← dg_ripe hr (ho h h1)] at h2; exact h2
theorem stays_cod {q : Int} (hr : rightD g = true) (ho : ∀ h ∈ l, HOk g h) : staysZ (l.map fun h => (h.p, dgH g h)) q = decide (staysL g q l ≠ []) := by
  unfold staysZ staysL
  rw [List.any_map, Bool.eq_iff_iff, List.any_eq_true, decide_eq_true_eq]
  have hn : (l.flatMap fun h => if h.p = q then upD (g.at q).hi h.n else []) ≠ [] ↔ ∃ h ∈ l, h.p = q ∧ upD (g.at q).hi h.n ≠ [] := by
    rw [Ne, List.flatMap_eq_nil_iff]
    constructor
    · intro hno
      refine Classical.byContradiction fun hne => hno fun h hh => ?_
      by_cases hq : h.p = q
      · rw [if_pos hq]
        exact Classical.byContradiction fun h9 => hne ⟨h, hh, hq, h9⟩
      · rw [if_neg hq]
    · rintro ⟨h, hh, hq, hu⟩ hall
      have := hall h hh
      rw [if_pos hq] at this
      exact hu this
  rw [hn]
  constructor
  · rintro ⟨h, h1, h2⟩
    simp only [Function.comp, Bool.and_eq_true, decide_eq_true_eq] at h2
    obtain ⟨rfl, h3⟩ := h2
    rw [dg_stays hr (ho h h1)] at h3
    exact ⟨h, h1, rfl, of_decide_eq_true h3⟩
  · rintro ⟨h, h1, rfl, h2⟩
    refine ⟨h, h1, ?_⟩
    simp only [Function.comp, Bool.and_eq_true, decide_eq_true_eq]
    refine ⟨trivial, ?_⟩
    rw [dg_stays hr (ho h h1)]
    exact decide_eq_true h2
end
end V
end Go.Proofs.Ytmmdcdjkmakgpaa
set_option linter.unusedVariables false
set_option linter.unusedSimpArgs false
namespace Go.Proofs.Ytmmdcdjkmakgpaa
namespace V
open PA
def stD (g : GlD) (c : CfgD) (q : Int) : Bool := decide (staysL g q c.l ≠ [])
theorem cnt_takes (g : GlD) (c : CfgD) (b : Nat) (q : Int) : takesZ g (entersD g c) (stD g c) b q = decide (cntD g c b q ≠ []) := by
  unfold takesZ cntD hasD stD
  cases (g.at q).s.testBit b with
  | false => simp
  | true =>
    cases entersD g c q with
    | true => simp
    | false => simp
theorem stepL_map (g : GlD) (c : CfgD) (b : Nat) : ∀ n : Nat, ((List.range n).flatMap fun q : Nat => heldOf q (cntD g c b q)).map (·.p) = (placesZ n).filter (takesZ g (entersD g c) (stD g c) b)
  | 0 => rfl
  | n + 1 => by
    rw [List.range_succ, List.flatMap_append, List.map_append, stepL_map g c b n, placesZ_succ, List.filter_append]
    congr 1
    rw [List.flatMap_cons, List.flatMap_nil, List.append_nil]
    unfold heldOf
    have hc := cnt_takes g c b (n : Int)
    by_cases h : cntD g c b (n : Int) = []
    · rw [if_pos h]
      rw [decide_eq_false (fun h9 => h9 h)] at hc
      rw [List.filter_cons_of_neg (by rw [hc]; decide)]; rfl
    · rw [if_neg h]
      rw [decide_eq_true h] at hc
      rw [List.filter_cons_of_pos hc]; rfl
theorem step_map (g : GlD) (c : CfgD) (b : Nat) : (stepL g c b).map (·.p) = lZ g (entersD g c) (stD g c) b := stepL_map g c b g.p.length
theorem stays_ge {g : GlD} {c : CfgD} {q : Int} (ho : ∀ h ∈ c.l, HOk g h) : ∀ x ∈ staysL g q c.l, 2 ≤ x := by
  intro x hx
  unfold staysL at hx
  obtain ⟨h, hh, hx⟩ := List.mem_flatMap.1 hx
  split at hx
  · unfold upD at hx
    obtain ⟨y, hy, rfl⟩ := List.mem_map.1 hx
    have := (rz_mem (ho h hh).rz y (List.mem_filter.1 hy).1).1
    omega
  · cases hx
theorem op_says {g : GlD} {c : CfgD} {b : Nat} {q : Int} (ho : ∀ h ∈ c.l, HOk g h) (hne : cntD g c b q ≠ []) : (decide (opZ (entersD g c) (stD g c) q = 1) = decide (1 < (cntD g c b q).headD 0)) ∧ (decide (opZ (entersD g c) (stD g c) q = 3) = (decide ((cntD g c b q).length = 1) && decide ((cntD g c b q).headD 0 = 1))) := by
  have hg := stays_ge (q := q) ho
  unfold cntD at hne ⊢
  by_cases hh : hasD g b q = true
  · rw [if_pos hh] at hne ⊢
    unfold opZ stD
    generalize staysL g q c.l = L at hg hne
    generalize entersD g c q = E at hne
    cases E with
    | true =>
      cases L with
      | nil => exact ⟨rfl, rfl⟩
      | cons x r => exact ⟨by simp, by simp⟩
    | false =>
      cases L with
      | nil => exact absurd rfl hne
      | cons x r =>
        have hx := hg x (by simp)
        refine ⟨?_, ?_⟩
        · have : (1 : Int) < x := by omega
          simp [this]
        · have : ¬ x = 1 := by omega
          simp [this]
  · rw [if_neg hh] at hne
    exact absurd rfl hne
structure SimA (g : GlD) (S : List StateD) (c : CfgD) (k : Nat) (s : StateD) : Prop where
  fits : fitsD g c = true
  st : S[k]? = some s
  l : c.l.map (·.p) = s.l
  b : c.b = true ↔ k = 0
theorem SimA.ok {g : GlD} {S : List StateD} {c : CfgD} {k : Nat} {s : StateD} (h : SimA g S c k s) : ∀ x ∈ c.l, HOk g x := by
  have hf := h.fits
  unfold fitsD at hf
  cases hb : c.b with
  | true =>
    rw [hb, if_pos rfl] at hf
    rw [List.isEmpty_iff.1 hf]
    intro x hx; cases hx
  | false =>
    rw [hb, if_neg (by decide)] at hf
    exact fits_ok (Int.le_refl _) hf
theorem SimA.begin {g : GlD} {S : List StateD} {c : CfgD} {k : Nat} {s : StateD} (h : SimA g S c k s) : c.b = true → c.l = [] := fun hb => by
  have hf := h.fits
  unfold fitsD at hf
  rw [hb, if_pos rfl] at hf
  exact List.isEmpty_iff.1 hf
theorem SimA.code {g : GlD} {S : List StateD} {c : CfgD} {k : Nat} {s : StateD} (hr : rightD g = true) (hm : Made g (ofB g) S S.length 0) (h : SimA g S c k s) : (cod g c.l).toNat < s.rule.length ∧ (cod g c.l).toNat < s.next.length ∧ s.rule[(cod g c.l).toNat]? = some (ruleD g c) := by
  obtain ⟨c1, c2⟩ := hm.codes h.st
  obtain ⟨o1, o2, o3⟩ := hm.base.ok s (List.mem_of_getElem? h.st)
  have hp := cod_pos g c.l
  have hlt := cod_lt g c.l
  rw [h.l, ← o2, ← codes_pow o3] at hlt
  have e1 : (cod g c.l).toNat < s.rule.length := by omega
  refine ⟨e1, by omega, ?_⟩
  have hru := hm.rule k s (cod g c.l).toNat _ h.st (List.getElem?_eq_getElem e1)
  rw [List.getElem?_eq_getElem e1, hru, Int.toNat_of_nonneg hp, ← h.l, digs_cod, rul_cod hr h.ok]; rfl
theorem SimA.move {g : GlD} {S : List StateD} {c : CfgD} {k b : Nat} {s : StateD} (hr : rightD g = true) (hm : Made g (ofB g) S S.length 0) (hb : b < 256) (h : SimA g S c k s) :
    ∃ kc row m, (cls (setsL g.p))[b]? = some kc ∧ s.next[(cod g c.l).toNat]? = some row ∧ row[kc]? = some m ∧ row.length = many (setsL g.p) ∧ kc < many (setsL g.p) ∧
      ((m.to = -1 ∧ stepL g c b = []) ∨ ∃ (k' : Nat) (t : StateD), m.to = (k' : Int) ∧ k' < S.length ∧ stepL g c b ≠ [] ∧ SimA g S (stepD g c b) k' t ∧ m.ops = opsZ g (entersD g c) (stD g c) ((stepL g c b).map (·.p))) := by
  obtain ⟨q1, q2, q3⟩ := h.code hr hm
  obtain ⟨kc, b', k1, k2, k3, k4, k5⟩ := class_byte g hb
  have hp := cod_pos g c.l
  obtain ⟨row, hrow⟩ : ∃ row, s.next[(cod g c.l).toNat]? = some row := ⟨_, List.getElem?_eq_getElem q2⟩
  obtain ⟨n1, n2⟩ := hm.next k s _ row h.st hrow
  rw [ofB_many] at n1
  obtain ⟨m, hmm⟩ : ∃ m, row[kc]? = some m := ⟨_, List.getElem?_eq_getElem (by omega)⟩
  have hmv := n2 kc b' m k3 hmm
  rw [Int.toNat_of_nonneg hp, ← h.l, digs_cod] at hmv
  have hen : entersZ g k (c.l.map fun h => (h.p, dgH g h)) = entersD g c := funext fun q => enters_cod hr h.ok h.b h.begin
  have hst : staysZ (c.l.map fun h => (h.p, dgH g h)) = stD g c := funext fun q => stays_cod hr h.ok
  rw [hen, hst] at hmv
  have hz := step_map g c b
  rw [← k5 (entersD g c) (stD g c)] at hz
  refine ⟨kc, row, m, k1, hrow, hmm, n1, k2, ?_⟩
  unfold MvOk at hmv
  rw [← hz] at hmv
  rcases hmv with ⟨h1, h2, h3⟩ | ⟨h1, k', t, h2, h3, h4, h5⟩
  · exact .inl ⟨h2, List.map_eq_nil_iff.1 h1⟩
  · have hne : stepL g c b ≠ [] := fun e => h1 (by rw [e]; rfl)
    refine .inr ⟨k', t, h2, (List.getElem?_eq_some_iff.1 h3).1, hne, ⟨step_fits hr h.fits, h3, h4.symm, ?_⟩, h5⟩
    constructor
    · intro hb9; cases hb9
    · rintro rfl
      obtain ⟨z, z1, z2⟩ := hm.base.zero
      rw [h3] at z1; cases z1
      rw [z2] at h4
      exact absurd h4.symm h1
end V
end Go.Proofs.Ytmmdcdjkmakgpaa
set_option linter.unusedVariables false
set_option linter.unusedSimpArgs false
namespace Go.Proofs.Ytmmdcdjkmakgpaa
namespace V
open PA
attribute [local irreducible] bindP ifP condP newP optP exP beqP
section
variable {ro : Ro}
set_option maxRecDepth 4000 in
theorem law11_digit_c {P : PosD} {pv nv : Value} {d : HeldD} (hne : d.n ≠ []) (hlen : d.n.length ≤ 1000000) {h : T Obj} {nx : Nat} {K : KV} (hf : Fr h nx) (hn : ZI ro h nv d.n) (hK : ∀ nx', nx ≤ nx' → K (.int .i64 (if d.n.getLastD 0 < P.lo then 0 else if d.n.headD 0 < P.hi then 2 else 1)) h nx') : callP Try.prog ro i_law11_digit [.agg (posL P pv).toArray, .agg [.int .i64 d.p, nv].toArray] h nx K := by
  apply law11_digit_of
  unfold law11_digit
  refine param_mk hf (Nat.le_refl _) fun h2 hs1 hf1 g1 _ => ?_
  refine param_mk hf1 (Nat.le_refl _) fun h3 hs2 hf2 g2 _ => ?_
  have g1 : h3.get nx = some (.cells (posL P pv).toArray y_api_Pos) := hs2 _ _ g1
  have g2 : h3.get (nx + 1) = some (.cells [.int .i64 d.p, nv].toArray y_api_Held) := g2
  have hs := hs1.trans hs2
  have hn := hn.sub hs
  have hnl := hn.len
  have hl0 : 0 < d.n.length := List.length_pos_iff.2 hne
  have c1 : ([.int .i64 d.p, nv] : List Value)[1]? = some nv := rfl
  have p4 : (posL P pv)[4]? = some (.int .i64 P.lo) := rfl
  have p5 : (posL P pv)[5]? = some (.int .i64 P.hi) := rfl
  have i0 := hn.ix .i64 hl0
  have l0 := hn.load' (x := d.n.headD 0) (i := 0) (by
    cases hd : d.n with
    | nil => exact absurd hd hne
    | cons x r => rfl)
  have hz0 : ((0 : Nat) : Int) = 0 := rfl
  rw [hz0] at i0
  (repeat (first | refine bindP_mk (by simp (disch := first | omega | exact Int.natCast_nonneg _ | assumption) only [BB, B2, ↓reduceIte, Nat.reduceLeDiff, Nat.reduceAdd, CC, g2, c1, hnl] <;> rfl) ?_ | refine newP_mk ?_ | refine optP_mk ?_ | with_reducible first | refine condP_t ?_ | refine condP_f ?_ | refine ifP_tt' ?_ | refine ifP_ff' ?_ | refine ifP_tf' ?_ | refine ifP_ft' ?_ | refine ifP_u' ?_ | refine optP_mk0 ?_))
  refine bindP_mk (hn.ixI _ (by omega) (by omega)) ?_
  rw [show ((d.n.length : Int) - 1).toNat = d.n.length - 1 by omega]
  refine bindP_mk (hn.load' (last_get hne)) ?_
  (repeat (first | refine bindP_mk (by simp (disch := first | omega | exact Int.natCast_nonneg _ | assumption) only [BB, B2, ↓reduceIte, Nat.reduceLeDiff, Nat.reduceAdd, CC, g1, p4] <;> rfl) ?_ | refine newP_mk ?_ | refine optP_mk ?_ | with_reducible first | refine condP_t ?_ | refine condP_f ?_ | refine ifP_tt' ?_ | refine ifP_ff' ?_ | refine ifP_tf' ?_ | refine ifP_ft' ?_ | refine ifP_u' ?_ | refine optP_mk0 ?_))
  refine lss_s (fun u => ?_) (fun u => ?_)
  · rw [if_pos u] at hK
    exact condP_t ⟨h, hs, hK _ (by omega)⟩
  · rw [if_neg (by omega)] at hK
    (repeat (first | refine bindP_mk (by simp (disch := first | omega | exact Int.natCast_nonneg _ | assumption) only [BB, B2, ↓reduceIte, Nat.reduceLeDiff, Nat.reduceAdd, CC, g1, g2, c1, i0, l0, p5] <;> rfl) ?_ | refine newP_mk ?_ | refine optP_mk ?_ | with_reducible first | refine condP_t ?_ | refine condP_f ?_ | refine ifP_tt' ?_ | refine ifP_ff' ?_ | refine ifP_tf' ?_ | refine ifP_ft' ?_ | refine ifP_u' ?_ | refine optP_mk0 ?_))
    refine lss_s (fun w => ?_) (fun w => ?_)
    · rw [if_pos w] at hK
      exact condP_t ⟨h, hs, hK _ (by omega)⟩
    · rw [if_neg (by omega)] at hK
      exact condP_f ⟨h, hs, hK _ (by omega)⟩
theorem codes_27' {m : Nat} (h : m ≤ 3) : codesD (m : Int) ≤ 27 := by
  have : m = 0 ∨ m = 1 ∨ m = 2 ∨ m = 3 := by omega
  rcases this with rfl | rfl | rfl | rfl <;> decide
theorem pow3_pos : ∀ E : Nat, (1 : Int) ≤ 3 ^ E
  | 0 => by decide
  | E + 1 => by
    have := pow3_pos E
    rw [Int.pow_succ]; omega
theorem cod_le {g : GlD} {l : List HeldD} (h3 : (regsZ g (l.map (·.p))).length ≤ 3) : cod g l < 27 := by
  have := cod_lt g l
  have e := codes_pow h3
  have := codes_27' h3
  omega
theorem regs_drop {g : GlD} {h : HeldD} {r : List HeldD} : (regsZ g ((h :: r).map (·.p))).length = (if ctd g h.p then 1 else 0) + (regsZ g (r.map (·.p))).length := by
  rw [List.map_cons]
  unfold regsZ
  cases hc : ctd g h.p with
  | true => rw [List.filter_cons_of_pos hc]; simp; omega
  | false => rw [List.filter_cons_of_neg (by simp [hc])]; simp
set_option maxRecDepth 8000 in
set_option maxHeartbeats 1000000 in
theorem law11_code_c {v w : Value} {g : GlD} {c : CfgD} (ho : ∀ x ∈ c.l, HOk g x) (h3 : (regsZ g (c.l.map (·.p))).length ≤ 3) (hll : c.l.length ≤ 1000000) (hnl : ∀ x ∈ c.l, x.n.length ≤ 1000000) {h : T Obj} {nx : Nat} {K : KV} (hf : Fr h nx) (hg : RG ro h v g) (hc : RCfg ro h w c) (hK : ∀ nx', nx ≤ nx' → K (.int .i64 (cod g c.l)) h nx') : callP Try.prog ro i_law11_code [v, w] h nx K := by
  obtain ⟨a, b, rfl, ha, hb⟩ := hg
  obtain ⟨lv, rfl, hl⟩ := hc
  apply law11_code_of
  unfold law11_code
  refine param_mk hf (Nat.le_refl _) fun h1 hs1 hf1 g1 _ => ?_
  refine param_mk hf1 (Nat.le_refl _) fun h2 hs2 hf2 g2 _ => ?_
  have g1 : h2.get nx = some (.cells [a, b].toArray y_api_Glush) := hs2 _ _ g1
  have g2 : h2.get (nx + 1) = some (.cells [.bool c.b, lv].toArray y_api_Config) := g2
  have hs := hs1.trans hs2
  have hl2 := hl.sub hs (RHeld.sub hs)
  have hb2 := hb.sub hs (RPos.sub hs)
  have c1 : ([a, b] : List Value)[1]? = some b := rfl
  have c2 : ([.bool c.b, lv] : List Value)[1]? = some lv := rfl
  have hln := hl2.len
  have h27 := cod_le h3
  generalize hD : cod g c.l = D at hK h27
  (repeat (first | refine bindP_mk (by simp (disch := first | omega | exact Int.natCast_nonneg _ | assumption) only [BB, B2, ↓reduceIte, Nat.reduceLeDiff, Nat.reduceAdd, CC, g2, c2, hln] <;> rfl) ?_ | refine newP_mk ?_ | refine optP_mk ?_ | with_reducible first | refine condP_t ?_ | refine condP_f ?_ | refine ifP_tt' ?_ | refine ifP_ff' ?_ | refine ifP_tf' ?_ | refine ifP_ft' ?_ | refine ifP_u' ?_ | refine optP_mk0 ?_))
  refine loopP_rule (fun j e h' nx' => ∃ (k : Nat) (m wt : Int), k + j = c.l.length ∧ nx + 2 ≤ nx' ∧ h' = h2 ∧ 0 ≤ m ∧ (wt = 1 ∨ wt = 3 ∨ wt = 9 ∨ wt = 27) ∧ wt * 3 ^ (regsZ g ((c.l.drop k).map (·.p))).length ≤ 27 ∧ m + wt * cod g (c.l.drop k) = D ∧ e 2 = ptr nx ∧ e 5 = .int .i64 m ∧ e 6 = .int .i64 wt ∧ e 11 = lv ∧ e 12 = .int .i64 c.l.length ∧ e 13 = .int .i64 k) ?_ (n := c.l.length)
    ⟨0, 0, 1, by omega, by omega, rfl, by omega, by omega, by
      have e := codes_pow h3
      have := codes_27' h3
      rw [List.drop_zero]
      omega, by rw [List.drop_zero]; omega, rfl, rfl, rfl, rfl, rfl, rfl⟩
  rintro j e h' nx' ⟨k, m, wt, hj, hnx, rfl, hm, hwt, hpw, hr, e2, e5, e6, e11, e12, e13⟩ Q' hq hx
  unfold law11_code_L1
  rw [e2, e5, e6, e11, e12, e13]
  refine lss_s (fun hk => ?_) (fun hk => ?_)
  · have hk : k < c.l.length := by omega
    have hmem := List.getElem_mem hk
    have hok := ho _ hmem
    have hnl' := hnl _ hmem
    rw [drop_cons hk, cod_cons] at hr
    rw [drop_cons hk, regs_drop] at hpw
    obtain ⟨y, ⟨nv, rfl, y1⟩, y2, y3, y4, y5⟩ := hl2.at hk
    have hix := hl2.ix .i64 hk
    have hcp := cod_pos g (c.l.drop (k + 1))
    generalize c.l[k] = d at hr hpw y1 y3 hok hnl'
    have hpl : d.p.toNat < g.p.length := by have := hok.p0; have := hok.p1; omega
    obtain ⟨hat, hat2⟩ := at_mem hok.p0 hok.p1
    obtain ⟨y', ⟨pv, rfl, z1, z2⟩, z3, z4, z5, z6⟩ := hb2.at hpl
    have hge : g.p[d.p.toNat] = g.at d.p := by
      have := List.getElem?_eq_getElem hpl
      rw [hat2] at this
      exact (Option.some.inj this).symm
    rw [hge] at z1 z4
    have ixp := hb2.ixI .i64 hok.p0 hok.p1
    have hyk := y1.ok
    have hzk := z1.ok
    refine condP_t (bindP_mk hix (bindP_mk y3 ?_))
    refine local_mk zer_Held rfl (x := [.int .i64 d.p, nv]) rfl rfl (by simp only [List.all_cons, List.all_nil, hyk]; rfl) hf2 (show nx + 1 + 1 ≤ nx' + 3 by omega) fun h4 hs4 hf4 g4 _ => ?_
    have g14 := hs4 _ _ g1
    have d0 : ([.int .i64 d.p, nv] : List Value)[0]? = some (.int .i64 d.p) := rfl
    have z44 := loadA_sub hs4 z4
    (repeat (first | refine bindP_mk (by simp (disch := first | omega | exact Int.natCast_nonneg _ | assumption) only [BB, B2, ↓reduceIte, Nat.reduceLeDiff, Nat.reduceAdd, CC, g14, c1, g4, d0, ixp, z44] <;> rfl) ?_ | refine newP_mk ?_ | refine optP_mk ?_ | with_reducible first | refine condP_t ?_ | refine condP_f ?_ | refine ifP_tt' ?_ | refine ifP_ff' ?_ | refine ifP_tf' ?_ | refine ifP_ft' ?_ | refine ifP_u' ?_ | refine optP_mk0 ?_))
    refine local_mk zer_PosZ rfl (x := posL (g.at d.p) pv) rfl rfl (posL_ok hzk) hf4 (show nx' + 3 + 1 ≤ nx' + 11 by omega) fun h5 hs5 hf5 g5 _ => ?_
    have g45 := hs5 _ _ g4
    have hs45 := hs4.trans hs5
    have p5 : (posL (g.at d.p) pv)[5]? = some (.int .i64 (g.at d.p).hi) := rfl
    have hj2 : ∀ (e' : Env) n' (m' w' : Int), e' 2 = ptr nx → e' 5 = .int .i64 m' → e' 6 = .int .i64 w' → e' 11 = lv → e' 12 = .int .i64 c.l.length → e' 13 = .int .i64 k → nx + 2 ≤ n' → 0 ≤ m' → (w' = 1 ∨ w' = 3 ∨ w' = 9 ∨ w' = 27) → w' * 3 ^ (regsZ g ((c.l.drop (k + 1)).map (·.p))).length ≤ 27 → m' + w' * cod g (c.l.drop (k + 1)) = D → law11_code_j2 ro Q' e' h5 n' := fun e' n' m' w' f2 f5 f6 f11 f12 f13 hn' hm' hw' hp' hd' => by
      unfold law11_code_j2
      rw [f13]
      (repeat (first | refine bindP_mk (by simp (disch := first | omega | exact Int.natCast_nonneg _ | assumption) only [BB, B2, ↓reduceIte, Nat.reduceLeDiff, Nat.reduceAdd, CC] <;> rfl) ?_ | refine newP_mk ?_ | refine optP_mk ?_ | with_reducible first | refine condP_t ?_ | refine condP_f ?_ | refine ifP_tt' ?_ | refine ifP_ff' ?_ | refine ifP_tf' ?_ | refine ifP_ft' ?_ | refine ifP_u' ?_ | refine optP_mk0 ?_))
      exact hq (j - 1) _ h' _ _ (by omega) ⟨k + 1, m', w', by omega, by omega, rfl, hm', hw', hp', hd', f2, f5, f6, f11, f12, rfl⟩ hs45
    (repeat (first | refine bindP_mk (by simp (disch := first | omega | exact Int.natCast_nonneg _ | assumption) only [BB, B2, ↓reduceIte, Nat.reduceLeDiff, Nat.reduceAdd, CC, g5, p5] <;> rfl) ?_ | refine newP_mk ?_ | refine optP_mk ?_ | with_reducible first | refine condP_t ?_ | refine condP_f ?_ | refine ifP_tt' ?_ | refine ifP_ff' ?_ | refine ifP_tf' ?_ | refine ifP_ft' ?_ | refine ifP_u' ?_ | refine optP_mk0 ?_))
    refine gtr_s (fun u => ?_) (fun u => ?_)
    · have hct : ctd g d.p = true := decide_eq_true u
      rw [hct, if_pos rfl] at hr hpw
      refine condP_t (bindP_mk (loadA_all (l := posL (g.at d.p) pv) g5 rfl) (bindP_mk (loadA_all (l := [.int .i64 d.p, nv]) g45 rfl) ?_))
      refine law11_digit_c (d := d) hok.ne hnl' (hf5.mono (show nx' + 11 + 1 ≤ nx' + 21 by omega)) ((y1.sub hs4).sub hs5) fun n6 hn6 => ?_
      have hdr := digit_range g d
      have hdd : (if d.n.getLastD 0 < (g.at d.p).lo then (0 : Int) else if d.n.headD 0 < (g.at d.p).hi then 2 else 1) = digitD g d := rfl
      rw [hdd]
      generalize digitD g d = dg at hr hdr
      generalize cod g (c.l.drop (k + 1)) = C at hr hcp hj2
      generalize hE : (regsZ g ((c.l.drop (k + 1)).map (·.p))).length = E at hpw hj2
      have hpe : (3 : Int) ^ (1 + E) = 3 * 3 ^ E := by rw [Int.pow_add]; simp
      have hE1 : (1 : Int) ≤ 3 ^ E := pow3_pos E
      rw [hpe] at hpw
      generalize (3 : Int) ^ E = X at hpw hE1 hj2
      have hb1 : 0 ≤ wt * dg ∧ wt * dg ≤ 54 := by
        have : dg = 0 ∨ dg = 1 ∨ dg = 2 := by omega
        rcases hwt with rfl | rfl | rfl | rfl <;> omega
      have hw9 : wt = 1 ∨ wt = 3 ∨ wt = 9 := by
        rcases hwt with rfl | rfl | rfl | rfl <;> omega
      have hcm : 0 ≤ wt * 3 * C := Int.mul_nonneg (by omega) hcp
      have hre : m + wt * dg + wt * 3 * C = D := by rw [← hr, Int.mul_add, Int.mul_assoc]; omega
      refine bindP_mk (intB_mul _ _ _) ?_
      rw [wr_i64 (by omega) (by omega)]
      refine bindP_mk (intB_add _ _ _) ?_
      rw [wr_i64 (by omega) (by omega)]
      refine bindP_mk (intB_mul _ _ _) ?_
      rw [wr_i64 (by omega) (by omega)]
      refine hj2 _ _ (m + wt * dg) (wt * 3) e2 rfl rfl e11 e12 e13 (by omega) (by omega) (by omega) ?_ hre
      rw [Int.mul_assoc]; exact hpw
    · have hct : ctd g d.p = false := decide_eq_false (by omega)
      rw [hct, if_neg (by decide)] at hr hpw
      rw [Nat.zero_add] at hpw
      refine condP_f ?_
      exact hj2 _ _ m wt e2 e5 e6 e11 e12 e13 (by omega) hm hwt hpw hr
  · rw [List.drop_eq_nil_of_le (by omega)] at hr
    have hr : m + wt * 0 = D := hr
    have hr : m = D := by omega
    subst hr
    refine condP_f ?_
    refine hx _ _ _ _ (fun e => by cases e) (exP_e (beqP_t ?_))
    unfold law11_code_j1
    have e5' : ∀ e9 : Env, e9 5 = .int .i64 m → ∃ h3, Sub h3 h' ∧ K (e9 5) h3 (nx' + 1 + 2) := fun e9 h9 => by
      rw [h9]
      exact ⟨h, hs, hK _ (by omega)⟩
    exact e5' _ e5
end
end V
end Go.Proofs.Ytmmdcdjkmakgpaa
set_option linter.unusedVariables false
set_option linter.unusedSimpArgs false
namespace Go.Proofs.Ytmmdcdjkmakgpaa
namespace V
open PA
attribute [local irreducible] bindP ifP condP newP optP exP beqP
def KpL (e' e : Env) : Prop := e' 1 = e 1 ∧ e' 5 = e 5 ∧ e' 6 = e 6 ∧ e' 7 = e 7 ∧ e' 9 = e 9 ∧ e' 10 = e 10 ∧ e' 14 = e 14 ∧ e' 15 = e 15 ∧ e' 38 = e 38 ∧ e' 39 = e 39
def regN (g : GlD) (dl : List HeldD) (k : Nat) : Nat := (((dl.take k).map (·.p)).filter (ctd g)).length
theorem regN_succ {g : GlD} {dl : List HeldD} {k : Nat} (hk : k < dl.length) : regN g dl (k + 1) = regN g dl k + if ctd g dl[k].p then 1 else 0 := by
  unfold regN
  rw [List.take_succ_eq_append_getElem hk, List.map_append, List.filter_append, List.length_append]
  congr 1
  rw [List.map_cons, List.map_nil]
  cases hc : ctd g dl[k].p with
  | true => rw [List.filter_cons_of_pos hc]; rfl
  | false => rw [List.filter_cons_of_neg (by simp [hc])]; rfl
theorem ops_at {g : GlD} {en st : Int → Bool} {dl : List HeldD} {k : Nat} (hk : k < dl.length) (hc : ctd g dl[k].p = true) : (opsZ g en st (dl.map (·.p)))[regN g dl k]? = some (opZ en st dl[k].p) := by
  unfold opsZ regN
  have e : dl.map (·.p) = (dl.take k).map (·.p) ++ dl[k].p :: (dl.drop (k + 1)).map (·.p) := by
    rw [← List.map_cons, ← drop_cons hk, ← List.map_append, List.take_append_drop]
  rw [e, List.filter_append, List.filter_cons_of_pos hc, List.map_append, List.map_cons, List.getElem?_append_right (by rw [List.length_map]; exact Nat.le_refl _), List.length_map, Nat.sub_self]
  rfl
section
variable {ro : Ro}
set_option maxRecDepth 8000 in
set_option maxHeartbeats 2000000 in
theorem goes_L2_c {g : GlD} {en st : Int → Bool} {dl : List HeldD} {tl : List Int} {ops : List Nat} {dv lv t1 t2 t3 ov a b : Value} {to : Int} {gid mid tid : Nat} {e0 : Env} {h : T Obj} {nx : Nat} {Q : KE} (hf : Fr h nx) (hdl : SlR ro h dv 2 (RHeld ro h) dl) (htl : ZI ro h lv tl) (htl' : dl.map (·.p) = tl) (hops : SlR ro h ov 1 RU8 ops) (hopsE : ops = opsZ g en st (dl.map (·.p)))
    (hsay : ∀ x ∈ dl, decide (opZ en st x.p = 1) = decide (1 < x.n.headD 0) ∧ decide (opZ en st x.p = 3) = (decide (x.n.length = 1) && decide (x.n.headD 0 = 1))) (hok : ∀ x ∈ dl, HOk g x) (hlen : dl.length ≤ 1000000) (hnl : ∀ x ∈ dl, x.n.length ≤ 1000000)
    (gt : h.get tid = some (.cells [lv, t1, t2, t3].toArray y_api_State)) (gm : h.get mid = some (.cells [.int .i64 to, ov].toArray y_api_Move)) (gg : h.get gid = some (.cells [a, b].toArray y_api_Glush)) (hP : SlR ro h b 9 (RPos ro h) g.p)
    (e6 : e0 6 = ptr gid) (e14 : e0 14 = ptr mid) (e16 : e0 16 = ptr tid) (e17 : e0 17 = .int .i64 0) (e112 : e0 112 = dv) (e113 : e0 113 = .int .i64 dl.length) (e114 : e0 114 = .int .i64 0)
    (hQ : ∀ e' n', nx ≤ n' → KpL e' e0 → Q (.exit 2) e' h n') : loopP (law11_AutoGoes_L2 ro) e0 h nx Q := by
  refine loopP_rule (fun j e h' nx' => ∃ (k : Nat), k + j = dl.length ∧ nx ≤ nx' ∧ h' = h ∧ e 16 = ptr tid ∧ e 17 = .int .i64 (regN g dl k : Int) ∧ e 112 = dv ∧ e 113 = .int .i64 dl.length ∧ e 114 = .int .i64 k ∧ KpL e e0) ?_ (n := dl.length)
    ⟨0, by omega, by omega, rfl, e16, e17, e112, e113, e114, rfl, rfl, rfl, rfl, rfl, rfl, rfl, rfl, rfl, rfl⟩
  rintro j e h' nx' ⟨k, hj, hnx, rfl, e16, e17, e112, e113, e114, hkp⟩ Q' hq hx
  have e6' : e 6 = ptr gid := hkp.2.2.1.trans e6
  have e14' : e 14 = ptr mid := hkp.2.2.2.2.2.2.1.trans e14
  unfold law11_AutoGoes_L2
  rw [e6', e14', e16, e17, e112, e113, e114]
  refine lss_s (fun hk => ?_) (fun hk => ?_)
  · have hk : k < dl.length := by omega
    have hmem := List.getElem_mem hk
    have hokx := hok _ hmem
    have hnx' := hnl _ hmem
    obtain ⟨s1, s2⟩ := hsay _ hmem
    have hrs := regN_succ (g := g) hk
    have hrl : regN g dl k ≤ k := by
      unfold regN
      have := List.length_filter_le (ctd g) ((dl.take k).map (·.p))
      rw [List.length_map, List.length_take] at this
      omega
    have hopa := @ops_at g en st dl k hk
    have htk : tl[k]? = some dl[k].p := by rw [← htl', List.getElem?_map, List.getElem?_eq_getElem hk]; rfl
    have hktl : k < tl.length := (List.getElem?_eq_some_iff.1 htk).1
    obtain ⟨y, ⟨nv, rfl, y1⟩, y2, y3, y4, y5⟩ := hdl.at hk
    have hix := hdl.ix .i64 hk
    generalize dl[k] = d at hokx hnx' s1 s2 hrs hopa htk y1 y3
    have hpl : d.p.toNat < g.p.length := by have := hokx.p0; have := hokx.p1; omega
    obtain ⟨hat, hat2⟩ := at_mem hokx.p0 hokx.p1
    have hyk := y1.ok
    refine condP_t (bindP_mk hix (bindP_mk y3 ?_))
    refine local_mk zer_Held rfl (x := [.int .i64 d.p, nv]) rfl rfl (by simp only [List.all_cons, List.all_nil, hyk]; rfl) hf (show nx ≤ nx' + 4 by omega) fun h4 hs4 hf4 g4 _ => ?_
    have gt4 := hs4 _ _ gt
    have gm4 := hs4 _ _ gm
    have gg4 := hs4 _ _ gg
    have hP4 := hP.sub hs4 (RPos.sub hs4)
    have ht4 := htl.sub hs4
    have tix := ht4.ix .i64 hktl
    have tld := ht4.load' htk
    have c0 : ([lv, t1, t2, t3] : List Value)[0]? = some lv := rfl
    have d0 : ([.int .i64 d.p, nv] : List Value)[0]? = some (.int .i64 d.p) := rfl
    have d1 : ([.int .i64 d.p, nv] : List Value)[1]? = some nv := rfl
    have m1 : ([.int .i64 to, ov] : List Value)[1]? = some ov := rfl
    have a1 : ([a, b] : List Value)[1]? = some b := rfl
    obtain ⟨y', ⟨pv, rfl, z1, z2⟩, z3, z4, z5, z6⟩ := hP4.at hpl
    have hge : g.p[d.p.toNat] = g.at d.p := by
      have := List.getElem?_eq_getElem hpl
      rw [hat2] at this
      exact (Option.some.inj this).symm
    rw [hge] at z1 z4 z6
    have ixp := hP4.ixI .i64 hokx.p0 hokx.p1
    have fw5 := z5 5
    have ld5 := z6 5 (.int .i64 (g.at d.p).hi) rfl
    have hj4 : ∀ (e' : Env) n', e' 16 = ptr tid → e' 17 = .int .i64 (regN g dl (k + 1) : Int) → e' 112 = dv → e' 113 = .int .i64 dl.length → e' 114 = .int .i64 k → KpL e' e0 → nx ≤ n' → law11_AutoGoes_j4 ro Q' e' h4 n' := fun e' n' f16 f17 f112 f113 f114 hkp' hn' => by
      unfold law11_AutoGoes_j4
      rw [f114]
      (repeat (first | refine bindP_mk (by simp (disch := first | omega | exact Int.natCast_nonneg _ | assumption) only [BB, B2, ↓reduceIte, Nat.reduceLeDiff, Nat.reduceAdd, CC] <;> rfl) ?_ | refine newP_mk ?_ | refine optP_mk ?_ | with_reducible first | refine condP_t ?_ | refine condP_f ?_ | refine ifP_tt' ?_ | refine ifP_ff' ?_ | refine ifP_tf' ?_ | refine ifP_ft' ?_ | refine ifP_u' ?_ | refine optP_mk0 ?_))
      exact hq (j - 1) _ h' _ _ (by omega) ⟨k + 1, by omega, by omega, rfl, f16, f17, f112, f113, rfl, hkp'⟩ hs4
    (repeat (first | refine bindP_mk (by simp (disch := first | omega | exact Int.natCast_nonneg _ | assumption) only [BB, B2, ↓reduceIte, Nat.reduceLeDiff, Nat.reduceAdd, CC, gt4, c0, tix, tld, g4, d0, gg4, a1, ixp, fw5, ld5] <;> rfl) ?_ | refine newP_mk ?_ | refine optP_mk ?_ | with_reducible first | refine condP_t ?_ | refine condP_f ?_ | refine ifP_tt' ?_ | refine ifP_ff' ?_ | refine ifP_tf' ?_ | refine ifP_ft' ?_ | refine ifP_u' ?_ | refine optP_mk0 ?_))
    refine lss_s (fun u => ?_) (fun u => ?_)
    · have hct : ctd g d.p = false := decide_eq_false (by omega)
      rw [hct, if_neg (by decide), Nat.add_zero] at hrs
      refine condP_t (hj4 _ _ e16 ?_ e112 e113 e114 hkp (by omega))
      rw [hrs]; exact e17
    · have hct : ctd g d.p = true := decide_eq_true (by omega)
      rw [hct, if_pos rfl] at hrs
      have hop := hopa hct
      rw [← hopsE] at hop
      obtain ⟨hol, hoe⟩ := List.getElem?_eq_some_iff.1 hop
      have hops4 := hops.sub hs4 fun _ _ h => h
      have oln := hops4.len
      have oix := hops4.ix .i64 hol
      obtain ⟨w, ⟨w1, w2⟩, w3⟩ := hops4.at1 hol
      rw [hoe] at w1 w2
      have w1 : w = .int .u8 (opZ en st d.p : Int) := by simpa using w1
      subst w1
      have hn4 := y1.sub hs4
      have hnl4 := hn4.len
      have hl0 : 0 < d.n.length := List.length_pos_iff.2 hokx.ne
      have i0 := hn4.ix .i64 hl0
      have hz0 : ((0 : Nat) : Int) = 0 := rfl
      rw [hz0] at i0
      have l0 := hn4.load' (x := d.n.headD 0) (i := 0) (by
        cases hd : d.n with
        | nil => exact absurd hd hokx.ne
        | cons x r => rfl)
      generalize opZ en st d.p = op at s1 s2 w2 w3 hoe
      have q1 : decide ((op : Int) = 1) = decide (1 < d.n.headD 0) := by
        rw [← s1, decide_eq_decide]; omega
      have q3 : decide ((op : Int) = 3) = (decide (d.n.length = 1) && decide (d.n.headD 0 = 1)) := by
        rw [← s2, decide_eq_decide]; omega
      have hol' : regN g dl k < ops.length := hol
      have hself : ∀ B : Bool, boolB .neq (.bool B) (.bool B) = some (.bool false) := fun B => by cases B <;> rfl
      refine condP_f ?_
      (repeat (first | refine bindP_mk (by simp (disch := first | omega | exact Int.natCast_nonneg _ | assumption) only [BB, B2, ↓reduceIte, Nat.reduceLeDiff, Nat.reduceAdd, CC, gm4, m1, oln, oix, w3] <;> rfl) ?_ | refine newP_mk ?_ | refine optP_mk ?_ | with_reducible first | refine condP_t ?_ | refine condP_f ?_ | refine ifP_tt' ?_ | refine ifP_ff' ?_ | refine ifP_tf' ?_ | refine ifP_ft' ?_ | refine ifP_u' ?_ | refine optP_mk0 ?_))
      refine bindP_mk (intB_eql _ _ _) ?_
      (repeat (first | refine bindP_mk (by simp (disch := first | omega | exact Int.natCast_nonneg _ | assumption) only [BB, B2, ↓reduceIte, Nat.reduceLeDiff, Nat.reduceAdd, CC, g4, d1, i0, l0] <;> rfl) ?_ | refine newP_mk ?_ | refine optP_mk ?_ | with_reducible first | refine condP_t ?_ | refine condP_f ?_ | refine ifP_tt' ?_ | refine ifP_ff' ?_ | refine ifP_tf' ?_ | refine ifP_ft' ?_ | refine ifP_u' ?_ | refine optP_mk0 ?_))
      refine bindP_mk (intB_gtr _ _ _) ?_
      rw [q1]
      (repeat (first | refine bindP_mk (by simp (disch := first | omega | exact Int.natCast_nonneg _ | assumption) only [BB, B2, ↓reduceIte, Nat.reduceLeDiff, Nat.reduceAdd, CC, hself] <;> rfl) ?_ | refine newP_mk ?_ | refine optP_mk ?_ | with_reducible first | refine condP_t ?_ | refine condP_f ?_ | refine ifP_tt' ?_ | refine ifP_ff' ?_ | refine ifP_tf' ?_ | refine ifP_ft' ?_ | refine ifP_u' ?_ | refine optP_mk0 ?_))
      (repeat (first | refine bindP_mk (by simp (disch := first | omega | exact Int.natCast_nonneg _ | assumption) only [BB, B2, ↓reduceIte, Nat.reduceLeDiff, Nat.reduceAdd, CC, gm4, m1, oln, oix, w3] <;> rfl) ?_ | refine newP_mk ?_ | refine optP_mk ?_ | with_reducible first | refine condP_t ?_ | refine condP_f ?_ | refine ifP_tt' ?_ | refine ifP_ff' ?_ | refine ifP_tf' ?_ | refine ifP_ft' ?_ | refine ifP_u' ?_ | refine optP_mk0 ?_))
      refine bindP_mk (intB_eql _ _ _) ?_
      rw [q3]
      (repeat (first | refine bindP_mk (by simp (disch := first | omega | exact Int.natCast_nonneg _ | assumption) only [BB, B2, ↓reduceIte, Nat.reduceLeDiff, Nat.reduceAdd, CC, g4, d1, hnl4] <;> rfl) ?_ | refine newP_mk ?_ | refine optP_mk ?_ | with_reducible first | refine condP_t ?_ | refine condP_f ?_ | refine ifP_tt' ?_ | refine ifP_ff' ?_ | refine ifP_tf' ?_ | refine ifP_ft' ?_ | refine ifP_u' ?_ | refine optP_mk0 ?_))
      refine eql_s (fun u1 => ?_) (fun u1 => ?_)
      · rw [decide_eq_true (show d.n.length = 1 by omega), Bool.true_and]
        (repeat (first | refine bindP_mk (by simp (disch := first | omega | exact Int.natCast_nonneg _ | assumption) only [BB, B2, ↓reduceIte, Nat.reduceLeDiff, Nat.reduceAdd, CC, g4, d1, i0, l0] <;> rfl) ?_ | refine newP_mk ?_ | refine optP_mk ?_ | with_reducible first | refine condP_t ?_ | refine condP_f ?_ | refine ifP_tt' ?_ | refine ifP_ff' ?_ | refine ifP_tf' ?_ | refine ifP_ft' ?_ | refine ifP_u' ?_ | refine optP_mk0 ?_))
        refine bindP_mk (intB_eql _ _ _) ?_
        (repeat (first | refine bindP_mk (by simp (disch := first | omega | exact Int.natCast_nonneg _ | assumption) only [BB, B2, ↓reduceIte, Nat.reduceLeDiff, Nat.reduceAdd, CC, hself] <;> rfl) ?_ | refine newP_mk ?_ | refine optP_mk ?_ | with_reducible first | refine condP_t ?_ | refine condP_f ?_ | refine ifP_tt' ?_ | refine ifP_ff' ?_ | refine ifP_tf' ?_ | refine ifP_ft' ?_ | refine ifP_u' ?_ | refine optP_mk0 ?_))
        refine hj4 _ _ e16 ?_ e112 e113 e114 hkp (by omega)
        rw [hrs]; rfl
      · rw [decide_eq_false (show ¬ d.n.length = 1 by omega), Bool.false_and]
        (repeat (first | refine bindP_mk (by simp (disch := first | omega | exact Int.natCast_nonneg _ | assumption) only [BB, B2, ↓reduceIte, Nat.reduceLeDiff, Nat.reduceAdd, CC, hself] <;> rfl) ?_ | refine newP_mk ?_ | refine optP_mk ?_ | with_reducible first | refine condP_t ?_ | refine condP_f ?_ | refine ifP_tt' ?_ | refine ifP_ff' ?_ | refine ifP_tf' ?_ | refine ifP_ft' ?_ | refine ifP_u' ?_ | refine optP_mk0 ?_))
        refine hj4 _ _ e16 ?_ e112 e113 e114 hkp (by omega)
        rw [hrs]; rfl
  · exact condP_f (hx _ _ _ _ (fun e => by cases e) (hQ _ _ (by omega) hkp))
end
end V
end Go.Proofs.Ytmmdcdjkmakgpaa
set_option linter.unusedVariables false
set_option linter.unusedSimpArgs false
namespace Go.Proofs.Ytmmdcdjkmakgpaa
namespace V
open PA
attribute [local irreducible] bindP ifP condP newP optP exP beqP
set_option maxRecDepth 4000 in
theorem ref10_StepS_c {ro : Ro} {v w : Value} {g : GlD} {c : CfgD} {by_ : Nat} (hby : by_ < 256) {h : T Obj} {nx : Nat} {K : KV} (hf : Fr h nx) (hg : RG ro h v g) (hc : RCfg ro h w c)
    (hK : ∀ r h' nx', nx ≤ nx' → Sub h h' → Fr h' nx' → RCfgS ro h' r (StepC g c by_) nx → K r h' nx') : callP Try.prog ro i_ref10_Step [v, w, .int .u8 (by_ : Int)] h nx K := by
  obtain ⟨a, b, rfl, ha, hP⟩ := hg
  obtain ⟨a2, rfl, hl⟩ := hc
  apply ref10_Step_of
  unfold ref10_Step
  refine param_mk hf (Nat.le_refl _) fun h1 hs1 hf1 g1 _ => ?_
  refine param_mk hf1 (Nat.le_refl _) fun h2 hs2 hf2 g2 _ => ?_
  refine bindP_mk zer_Config ?_
  refine obj_mk hf2 (Nat.le_refl _) fun h3 hs3 hf3 g3 _ => ?_
  have g1 := hs3 _ _ (hs2 _ _ g1)
  have g2 := hs3 _ _ g2
  have hs := (hs1.trans hs2).trans hs3
  have hG : RG ro h3 (.agg #[a, b]) g := ⟨a, b, rfl, ha.sub hs, hP.sub hs (RPos.sub hs)⟩
  have hC : RCfg ro h3 (.agg #[.bool c.b, a2]) c := ⟨a2, rfl, hl.sub hs (RHeld.sub hs)⟩
  refine bindP_mk (loadA_all (l := [a, b]) g1 rfl) ?_
  refine bindP_mk (loadA_all (l := [.bool c.b, a2]) g2 rfl) ?_
  refine ref10_Right_c (hf3.mono (by omega)) hG hC fun n hn => ?_
  cases hrc : rightC g c with
  | false =>
    have hst : StepC g c by_ = ⟨false, []⟩ := by unfold StepC; rw [hrc]; rfl
    rw [hst] at hK
    (repeat (first | refine bindP_mk (by simp (disch := first | omega | exact Int.natCast_nonneg _ | assumption) only [BB, B2, ↓reduceIte, Nat.reduceLeDiff, Nat.reduceAdd, CC] <;> rfl) ?_ | refine newP_mk ?_ | refine optP_mk ?_ | with_reducible first | refine condP_t ?_ | refine condP_f ?_ | refine ifP_tt' ?_ | refine ifP_ff' ?_ | refine ifP_tf' ?_ | refine ifP_ft' ?_ | refine ifP_u' ?_ | refine optP_mk0 ?_))
    refine bindP_mk build_Config0 ?_
    refine bindP_mk (storeA_own (l := [.bool false, .slice none 0 0]) (vs := [.bool false, .slice none 0 0]) g3 rfl rfl rfl rfl) ?_
    refine bindP_mk (loadA_all (l := [.bool false, .slice none 0 0]) (by rw [T.get_upd_same]) rfl) ?_
    exact ⟨h, hs.new hf (by omega), hK _ _ _ (by omega) (Sub.refl _) (hf.mono (by omega)) fun h5 _ => ⟨_, rfl, SlR.nil⟩⟩
  | true =>
    have hst : StepC g c by_ = stepD g c by_ := by unfold StepC; rw [hrc]; rfl
    rw [hst] at hK
    unfold rightC at hrc
    simp only [Bool.and_eq_true] at hrc
    (repeat (first | refine bindP_mk (by simp (disch := first | omega | exact Int.natCast_nonneg _ | assumption) only [BB, B2, ↓reduceIte, Nat.reduceLeDiff, Nat.reduceAdd, CC] <;> rfl) ?_ | refine newP_mk ?_ | refine optP_mk ?_ | with_reducible first | refine condP_t ?_ | refine condP_f ?_ | refine ifP_tt' ?_ | refine ifP_ff' ?_ | refine ifP_tf' ?_ | refine ifP_ft' ?_ | refine ifP_u' ?_ | refine optP_mk0 ?_))
    refine bindP_mk (loadA_all (l := [a, b]) g1 rfl) ?_
    refine bindP_mk (loadA_all (l := [.bool c.b, a2]) g2 rfl) ?_
    refine ref10_step_c hrc.1 hrc.2 hby (hf3.mono (by omega)) hG hC fun r h4 n4 hn4 q1 q2 q3 => ?_
    have q4 := q3
    obtain ⟨a3, rfl, hl3⟩ := q4.now
    have hok3 : cellOk a3 = true := by obtain ⟨cs, h9, _⟩ := hl3; exact h9.ok
    refine bindP_mk (storeA_own (l := [.bool false, .slice none 0 0]) (vs := [.bool (stepD g c by_).b, a3]) (q1 _ _ g3) rfl rfl rfl (two_ok hok3)) ?_
    refine bindP_mk (loadA_all (l := [.bool (stepD g c by_).b, a3]) (by rw [T.get_upd_same]) rfl) ?_
    refine ⟨(h4.upd (nx + 2) (some (.cells [Value.bool (stepD g c by_).b, a3].toArray y_api_Config))), Sub.refl _, hK _ _ _ (by omega) (fun k o hk => ?_) ((q2.mono (by omega)).upd (Nat.le_refl _) (by omega)) ?_⟩
    · have := hf.lt' hk
      rw [T.get_upd_ne _ _ (by omega)]
      exact q1 _ _ (hs _ _ hk)
    · exact fun h5 hh => q3 h5 fun k hk => (hh k (by omega)).trans (T.get_upd_ne _ _ (by omega))
end V
end Go.Proofs.Ytmmdcdjkmakgpaa
set_option linter.unusedVariables false
set_option linter.unusedSimpArgs false
namespace Go.Proofs.Ytmmdcdjkmakgpaa
namespace V
open PA
attribute [local irreducible] bindP ifP condP newP optP exP beqP
def bts (s : ByteArray) : List Nat := s.data.toList.map (·.toNat)
theorem bts_len (s : ByteArray) : (bts s).length = s.size := by unfold bts; rw [List.length_map]; rfl
theorem bts_lt {s : ByteArray} : ∀ b ∈ bts s, b < 256 := fun b hb => by
  unfold bts at hb
  rw [List.mem_map] at hb
  obtain ⟨x, _, rfl⟩ := hb
  exact x.toNat_lt
theorem lenStr_bts (s : ByteArray) : lenStr (.string s) = some (.int .i64 (bts s).length) := by rw [bts_len]; rfl
theorem ixStr_bts {s : ByteArray} {k : IntKind} {i : Nat} (hi : i < (bts s).length) : ixStr (.string s) (.int k (i : Int)) = some (.int .u8 ((bts s)[i] : Nat)) := by
  have hn : natV (.int k (i : Int)) = some i := by simp [natV]
  have hl : i < s.data.toList.length := by simpa [bts] using hi
  unfold ixStr
  rw [hn]
  simp only [Option.bind]
  rw [List.getElem?_eq_getElem hl]
  simp [bts]
structure AutoM (ro : Ro) (hb : T Obj) (x : GlD) (S : List StateD) (a b sv : Value) : Prop where
  r : rightD x = true
  m : Made x (ofB x) S S.length 0
  s : SlR ro hb sv 4 (RState ro hb) S
  a : ZI ro hb a x.first
  p : SlR ro hb b 9 (RPos ro hb) x.p
section
variable {ro : Ro} {x : GlD} {S : List StateD} {a b sv cv0 : Value} {gid aid cid : Nat} {w : ByteArray} {hb : T Obj}
structure GInv (ro : Ro) (hb : T Obj) (x : GlD) (S : List StateD) (a b sv cvA : Value) (gid aid cid : Nat) (w : ByteArray) (M : Nat) (h : T Obj) (e : Env) (c : CfgD) (cv : Value) (k : Nat) (s : StateD) : Prop where
  sub : Sub hb h
  gc : h.get cid = some (.cells [.bool c.b, cv].toArray y_api_Config)
  cl : SlR ro h cv 2 (RHeld ro h) c.l
  sim : SimA x S c k s
  e1 : e 1 = .string w
  e5 : e 5 = .bool true
  e6 : e 6 = ptr gid
  e7 : e 7 = ptr aid
  e9 : e 9 = ptr cid
  e10 : e 10 = .int .i64 (k : Int)
  e38 : e 38 = .int .i64 (M : Int)
theorem held_few {c : CfgD} {k : Nat} {s : StateD} (hm : Made x (ofB x) S S.length 0) (hr : rightD x = true) (h : SimA x S c k s) : (regsZ x (c.l.map (·.p))).length ≤ 3 ∧ c.l.length ≤ 512 ∧ ∀ d ∈ c.l, d.n.length ≤ 4096 := by
  obtain ⟨o1, o2, o3⟩ := hm.base.ok s (List.mem_of_getElem? h.st)
  obtain ⟨hgl, hfr, hmay⟩ := right_parts hr
  refine ⟨by rw [h.l, ← o2]; exact o3, ?_, fun d hd => ?_⟩
  · have := rz_many o1
    have e : c.l.length = s.l.length := by rw [← h.l, List.length_map]
    omega
  · have ho := h.ok d hd
    obtain ⟨m1, m2, m3, _⟩ := may_parts (hmay _ (at_mem ho.p0 ho.p1).1)
    have := rz_many ho.rz
    omega
theorem cfg_mk {h : T Obj} {A : Nat} {r : Value} {cb : Bool} {a3 : Value} {K : T Obj → Prop} (hr : r = .agg [.bool cb, a3].toArray) (hok : cellOk a3 = true) (hK : ∀ h', h'.get A = some (.cells [.bool cb, a3].toArray y_api_Config) → (∀ k, k ≠ A → h'.get k = h.get k) → K h') : bindP (zer Try.prog y_api_Config) fun z => newP h A (.cells z.cells y_api_Config) fun h1 => bindP (storeN 2 h1 (ptr A) r) K := by
  subst hr
  refine bindP_mk zer_Config (newP_mk (bindP_mk (storeA_own (l := [.bool false, .slice none 0 0]) (vs := [.bool cb, a3]) (e := y_api_Config) (f := (0, 0)) (by rw [T.get_upd_same]; rfl) rfl rfl rfl (two_ok hok)) ?_))
  exact hK _ (by rw [T.get_upd_same]) fun k hk => by rw [T.get_upd_ne _ _ hk, T.get_upd_ne _ _ hk]
set_option maxRecDepth 8000 in
set_option maxHeartbeats 4000000 in
theorem goes_L1_c {c0 : List Nat} {n0 : Int} {cvA : Value} {M : Nat} {e0 : Env} (hA : AutoM ro hb x S a b sv) (hfew : S.length ≤ 256) (hcls : c0 = cls (setsL x.p)) (hM : M ≤ (bts w).length) (hM60 : M ≤ 60) (hsc : gid ≠ cid) (hac : aid ≠ cid) (hbc : hb.get cid = none)
    {h : T Obj} {nx : Nat} {Q : KE} (hf : Fr h nx) (hsb : Sub hb h) (gg : hb.get gid = some (.cells [a, b].toArray y_api_Glush)) (ga : hb.get aid = some (.cells (autL c0 n0 cvA sv).toArray y_api_Auto)) {s0 : StateD} (hI : GInv ro hb x S a b sv cvA gid aid cid w M h e0 startD nilS 0 s0) (e39 : e0 39 = .int .i64 0)
    (hQ1 : ∀ e' h' n', e' 4 = .bool true → Q .ret e' h' n')
    (hQ2 : ∀ e' h' n' c cv k s, nx ≤ n' → Fr h' n' → GInv ro hb x S a b sv cvA gid aid cid w M h' e' c cv k s → Q (.exit 0) e' h' n') : loopP (law11_AutoGoes_L1 ro) e0 h nx Q := by
  have hc0 : c0.length = 256 := by rw [hcls]; exact cls_length _
  have hcid := hf.lt' hI.gc
  refine loopP_rule (fun j e h' nx' => ∃ (i : Nat) (c : CfgD) (cv : Value) (k : Nat) (s : StateD), i + j = M ∧ nx ≤ nx' ∧ Fr h' nx' ∧ GInv ro hb x S a b sv cvA gid aid cid w M h' e c cv k s ∧ e 39 = .int .i64 i) ?_ (n := M)
    ⟨0, startD, nilS, 0, s0, by omega, by omega, hf, hI, e39⟩
  rintro j e h' nx' ⟨i, c, cv, k, s, hj, hnx, hf', hI, e39⟩ Q' hq hx
  obtain ⟨hsub, gc, hcl, hsim, e1, e5, e6, e7, e9, e10, e38⟩ := hI
  have gg' := hsub _ _ gg
  have ga' := hsub _ _ ga
  have hsl := hA.s.sub hsub (RState.sub hsub)
  obtain ⟨f1, f2, f3⟩ := held_few hA.m hA.r hsim
  have hkl := (List.getElem?_eq_some_iff.1 hsim.st).1
  have hke := (List.getElem?_eq_some_iff.1 hsim.st).2
  have a258 := autL_states (n := n0) (cv := cvA) (sv := sv) hc0
  unfold law11_AutoGoes_L1
  rw [e1, e5, e6, e7, e9, e10, e38, e39]
  refine lss_s (fun hi => ?_) (fun hi => ?_)
  · have hi : i < (bts w).length := by omega
    have hbl := bts_lt _ (List.getElem_mem hi)
    have hxs := ixStr_bts (k := .i64) hi
    generalize (bts w)[i] = by_ at hbl hxs
    obtain ⟨y, ⟨lv, rv, uv, nv, rfl, y1, y2, y3, y4, y5⟩, w2, w3, w4, w5⟩ := hsl.at hkl
    rw [hke] at y1 y2 y3 y4
    have six := hsl.ix .i64 hkl
    have hcvk : cellOk cv = true := hcl.okC
    refine condP_t ?_
    (repeat (first | refine bindP_mk (by simp (disch := first | omega | exact Int.natCast_nonneg _ | assumption) only [BB, B2, ↓reduceIte, Nat.reduceLeDiff, Nat.reduceAdd, CC, ga', a258, six, w3] <;> rfl) ?_ | refine newP_mk ?_ | refine optP_mk ?_ | with_reducible first | refine condP_t ?_ | refine condP_f ?_ | refine ifP_tt' ?_ | refine ifP_ff' ?_ | refine ifP_tf' ?_ | refine ifP_ft' ?_ | refine ifP_u' ?_ | refine optP_mk0 ?_))
    refine local_mk zer_State rfl (x := [lv, rv, uv, nv]) rfl rfl (st_ok y1 y2 y3 y4) hf' (show nx' ≤ nx' + 8 by omega) fun h1 hs1 hf1 g1 _ => ?_
    have gg1 := hs1 _ _ gg'
    have gc1 := hs1 _ _ gc
    have hb1 := hsub.trans hs1
    have hG1 : RG ro h1 (.agg [a, b].toArray) x := ⟨a, b, rfl, hA.a.sub hb1, hA.p.sub hb1 (RPos.sub hb1)⟩
    have hC1 : RCfg ro h1 (.agg [.bool c.b, cv].toArray) c := ⟨cv, rfl, hcl.sub hs1 (RHeld.sub hs1)⟩
    refine bindP_mk (loadA_all (l := [a, b]) gg1 rfl) ?_
    refine bindP_mk (loadA_all (l := [.bool c.b, cv]) gc1 rfl) ?_
    refine law11_code_c hsim.ok f1 (by omega) (fun d hd => by have := f3 d hd; omega) (hf1.mono (show nx' + 8 + 1 ≤ nx' + 13 by omega)) hG1 hC1 fun n2 hn2 => ?_
    obtain ⟨q1, q2, q3⟩ := hsim.code hA.r hA.m
    have hcp := cod_pos x c.l
    have hcl' : cod x c.l < (s.next.length : Int) := by omega
    have hcr : cod x c.l < (s.rule.length : Int) := by omega
    have y31 := y3.sub hs1
    have y41 := y4.sub hs1 (RRow.sub hs1)
    have nln := y41.len
    have d3 : ([lv, rv, uv, nv] : List Value)[3]? = some nv := rfl
    have d2 : ([lv, rv, uv, nv] : List Value)[2]? = some uv := rfl
    have rix := y31.ixI .i64 hcp hcr
    have rld := y31.load' q3
    (repeat (first | refine bindP_mk (by simp (disch := first | omega | exact Int.natCast_nonneg _ | assumption) only [BB, B2, ↓reduceIte, Nat.reduceLeDiff, Nat.reduceAdd, CC, g1, d3, nln, d2, rix, rld] <;> rfl) ?_ | refine newP_mk ?_ | refine optP_mk ?_ | with_reducible first | refine condP_t ?_ | refine condP_f ?_ | refine ifP_tt' ?_ | refine ifP_ff' ?_ | refine ifP_tf' ?_ | refine ifP_ft' ?_ | refine ifP_u' ?_ | refine optP_mk0 ?_))
    refine bindP_mk (loadA_all (l := [a, b]) gg1 rfl) ?_
    (repeat (first | refine bindP_mk (by simp (disch := first | omega | exact Int.natCast_nonneg _ | assumption) only [BB, B2, ↓reduceIte, Nat.reduceLeDiff, Nat.reduceAdd, CC] <;> rfl) ?_ | refine newP_mk ?_ | refine optP_mk ?_ | with_reducible first | refine condP_t ?_ | refine condP_f ?_ | refine ifP_tt' ?_ | refine ifP_ff' ?_ | refine ifP_tf' ?_ | refine ifP_ft' ?_ | refine ifP_u' ?_ | refine optP_mk0 ?_))
    refine bindP_mk (loadA_all (l := [.bool c.b, cv]) gc1 rfl) ?_
    (repeat (first | refine bindP_mk (by simp (disch := first | omega | exact Int.natCast_nonneg _ | assumption) only [BB, B2, ↓reduceIte, Nat.reduceLeDiff, Nat.reduceAdd, CC] <;> rfl) ?_ | refine newP_mk ?_ | refine optP_mk ?_ | with_reducible first | refine condP_t ?_ | refine condP_f ?_ | refine ifP_tt' ?_ | refine ifP_ff' ?_ | refine ifP_tf' ?_ | refine ifP_ft' ?_ | refine ifP_u' ?_ | refine optP_mk0 ?_))
    refine ref10_Rule_c (hf1.mono (show nx' + 8 + 1 ≤ _ by omega)) hG1 hC1 fun n3 hn3 => ?_
    have hru : RuleC x c = ruleD x c := by unfold RuleC rightC; rw [hA.r, hsim.fits]; rfl
    rw [hru]
    refine ⟨fun _ => Sl.same (Sub.refl _) y31 (by rw [intsZ_len]; omega), fun _ => sameV_own g1 g1, ?_⟩
    obtain ⟨kc, row, m, k1, k2, k3, k4, k5, k6⟩ := hsim.move hA.r hA.m hbl
    have hnl : (cod x c.l).toNat < s.next.length := by omega
    have nix := y41.ixI .i64 hcp hcl'
    obtain ⟨v, ⟨v', r1, r2, r3⟩, r4⟩ := y41.at1 hnl
    simp only [List.cons.injEq, and_true] at r1
    subst r1
    have hne : s.next[(cod x c.l).toNat] = row := (List.getElem?_eq_some_iff.1 k2).2
    rw [hne] at r2
    have ga1 := hs1 _ _ ga'
    have acl := autL_cls (n := n0) (cv := cvA) (sv := sv) hc0 (by rw [hcls]; exact k1)
    have hkr : kc < row.length := (List.getElem?_eq_some_iff.1 k3).1
    have hkm : row[kc] = m := (List.getElem?_eq_some_iff.1 k3).2
    have mix := r2.ix .u8 hkr
    obtain ⟨zz, ⟨ov, rfl, o1, o2⟩, z2, z3, z4, z5⟩ := r2.at hkr
    rw [hkm] at o1 o2 z3
    have hovk := o1.okC
    have hby : (by_ : Int) < (256 : Nat) := by omega
    (repeat (first | refine bindP_mk (by simp (disch := first | omega | exact Int.natCast_nonneg _ | assumption) only [BB, B2, ↓reduceIte, Nat.reduceLeDiff, Nat.reduceAdd, CC, g1, d3, nix, r4, hxs, ga1, acl, mix, z3] <;> rfl) ?_ | refine newP_mk ?_ | refine optP_mk ?_ | with_reducible first | refine condP_t ?_ | refine condP_f ?_ | refine ifP_tt' ?_ | refine ifP_ff' ?_ | refine ifP_tf' ?_ | refine ifP_ft' ?_ | refine ifP_u' ?_ | refine optP_mk0 ?_))
    refine local_mk zer_Move rfl (x := [.int .i64 m.to, ov]) rfl rfl (by simp only [List.all_cons, List.all_nil, hovk]; rfl) hf1 (show nx' + 8 + 1 ≤ _ by omega) fun h2 hs2 hf2 g2 _ => ?_
    have gg2 := hs2 _ _ gg1
    have gc2 := hs2 _ _ gc1
    have hb2 := hb1.trans hs2
    have hG2 : RG ro h2 (.agg [a, b].toArray) x := ⟨a, b, rfl, hA.a.sub hb2, hA.p.sub hb2 (RPos.sub hb2)⟩
    have hC2 : RCfg ro h2 (.agg [.bool c.b, cv].toArray) c := ⟨cv, rfl, hcl.sub (hs1.trans hs2) (RHeld.sub (hs1.trans hs2))⟩
    refine bindP_mk (loadA_all (l := [a, b]) gg2 rfl) ?_
    refine bindP_mk (loadA_all (l := [.bool c.b, cv]) gc2 rfl) ?_
    (repeat (first | refine bindP_mk (by simp (disch := first | omega | exact Int.natCast_nonneg _ | assumption) only [BB, B2, ↓reduceIte, Nat.reduceLeDiff, Nat.reduceAdd, CC, hxs] <;> rfl) ?_ | refine newP_mk ?_ | refine optP_mk ?_ | with_reducible first | refine condP_t ?_ | refine condP_f ?_ | refine ifP_tt' ?_ | refine ifP_ff' ?_ | refine ifP_tf' ?_ | refine ifP_ft' ?_ | refine ifP_u' ?_ | refine optP_mk0 ?_))
    refine ref10_StepS_c hbl (hf2.mono (by omega)) hG2 hC2 fun r h3 n4 hn4 hs3 hf3 hr3 => ?_
    have hst : StepC x c by_ = stepD x c by_ := by unfold StepC rightC; rw [hA.r, hsim.fits]; rfl
    rw [hst] at hr3
    obtain ⟨a3, rfl, hl3⟩ := hr3.now
    have hok3 : cellOk a3 = true := hl3.okC
    refine cfg_mk rfl hok3 fun h5 g5 hne5 => ?_
    have hC5 := hr3 h5 fun k hk => hne5 k (by omega)
    obtain ⟨a3', e3', hl5⟩ := hC5
    have e3' : a3 = a3' := by simpa using e3'
    subst e3'
    have hf5 : Fr h5 n4 := fun k hk => by rw [hne5 k (by omega)]; exact hf3 k hk
    have hlow : ∀ q o, hb.get q = some o → h5.get q = some o := fun q o hq9 => by
      have := hf'.lt' (hsub _ _ hq9)
      rw [hne5 q (by omega)]
      exact hs3 _ _ (hb2 _ _ hq9)
    have g25 := (hne5 _ (by omega)).trans (hs3 _ _ g2)
    have gc5 : h5.get cid = _ := (hne5 _ (by have := hf'.lt' gc; omega)).trans (hs3 _ _ gc2)
    have m0 : ([.int .i64 m.to, ov] : List Value)[0]? = some (.int .i64 m.to) := rfl
    have f1' : ([.bool (stepD x c by_).b, a3] : List Value)[1]? = some a3 := rfl
    have dln := hl5.len
    have hsdl : (stepD x c by_).l = stepL x c by_ := rfl
    have hself : ∀ B : Bool, boolB .neq (.bool B) (.bool B) = some (.bool false) := fun B => by cases B <;> rfl
    rcases k6 with ⟨hto, hnil⟩ | ⟨k', t, hto, hk', hnn, hsim', hopsE⟩
    · rw [hsdl, hnil] at dln
      have dln : lenSl a3 = some (.int .i64 0) := dln
      rw [hto] at m0 g25
      (repeat (first | refine bindP_mk (by simp (disch := first | omega | exact Int.natCast_nonneg _ | assumption) only [BB, B2, ↓reduceIte, Nat.reduceLeDiff, Nat.reduceAdd, CC, g25, m0, g5, f1', dln, hself] <;> rfl) ?_ | refine newP_mk ?_ | refine optP_mk ?_ | with_reducible first | refine condP_t ?_ | refine condP_f ?_ | refine ifP_tt' ?_ | refine ifP_ff' ?_ | refine ifP_tf' ?_ | refine ifP_ft' ?_ | refine ifP_u' ?_ | refine optP_mk0 ?_))
      exact hx _ _ _ _ (fun e => by cases e) (by exact hQ1 _ _ _ rfl)
    · have hdl0 : 0 < (stepL x c by_).length := List.length_pos_iff.2 hnn
      rw [hto] at m0 g25
      rw [hsdl] at dln
      have htk := (List.getElem?_eq_some_iff.1 hsim'.st).2
      have hb5 : Sub hb h5 := hlow
      have hsl5 := hA.s.sub hb5 (RState.sub hb5)
      have ga5 := hlow _ _ ga
      have gg5 := hlow _ _ gg
      obtain ⟨y', ⟨lv', rv', uv', nv', rfl, u1, u2, u3, u4, u5⟩, x2, x3, x4, x5⟩ := hsl5.at hk'
      rw [htk] at u1 u2 u3 u4
      have tix := hsl5.ix .i64 hk'
      have tln : lenSl lv' = some (.int .i64 ((stepL x c by_).length : Int)) := by
        have := u1.len
        rw [← hsim'.l, List.length_map] at this
        exact this
      have ld0 : ([lv', rv', uv', nv'] : List Value)[0]? = some lv' := rfl
      (repeat (first | refine bindP_mk (by simp (disch := first | omega | exact Int.natCast_nonneg _ | assumption) only [BB, B2, ↓reduceIte, Nat.reduceLeDiff, Nat.reduceAdd, CC, g25, m0, g5, f1', dln, boolB_neq, ga5, a258, tix, x3] <;> rfl) ?_ | refine newP_mk ?_ | refine optP_mk ?_ | with_reducible first | refine condP_t ?_ | refine condP_f ?_ | refine ifP_tt' ?_ | refine ifP_ff' ?_ | refine ifP_tf' ?_ | refine ifP_ft' ?_ | refine ifP_u' ?_ | refine optP_mk0 ?_))
      refine condP_f ?_
      (repeat (first | refine bindP_mk (by simp (disch := first | omega | exact Int.natCast_nonneg _ | assumption) only [BB, B2, ↓reduceIte, Nat.reduceLeDiff, Nat.reduceAdd, CC, g25, m0, g5, f1', dln, ga5, a258, tix, x3] <;> rfl) ?_ | refine newP_mk ?_ | refine optP_mk ?_ | with_reducible first | refine condP_t ?_ | refine condP_f ?_ | refine ifP_tt' ?_ | refine ifP_ff' ?_ | refine ifP_tf' ?_ | refine ifP_ft' ?_ | refine ifP_u' ?_ | refine optP_mk0 ?_))
      refine local_mk zer_State rfl (x := [lv', rv', uv', nv']) rfl rfl (st_ok u1 u2 u3 u4) hf5 (show n4 ≤ _ by omega) fun h6 hs6 hf6 g6 hne6 => ?_
      have g56 := hs6 _ _ g5
      have g26 := hs6 _ _ g25
      have gg6 := hs6 _ _ gg5
      have hl6 := hl5.sub hs6 (RHeld.sub hs6)
      have hb6 := hb5.trans hs6
      (repeat (first | refine bindP_mk (by simp (disch := first | omega | exact Int.natCast_nonneg _ | assumption) only [BB, B2, ↓reduceIte, Nat.reduceLeDiff, Nat.reduceAdd, CC, g6, ld0, tln, g56, f1', dln] <;> rfl) ?_ | refine newP_mk ?_ | refine optP_mk ?_ | with_reducible first | refine condP_t ?_ | refine condP_f ?_ | refine ifP_tt' ?_ | refine ifP_ff' ?_ | refine ifP_tf' ?_ | refine ifP_ft' ?_ | refine ifP_u' ?_ | refine optP_mk0 ?_))
      obtain ⟨v1, v2, v3⟩ := held_few hA.m hA.r hsim'
      have h15 : Sub h1 h5 := fun q o hq9 => by
        have := hf1.lt' hq9
        rw [hne5 q (by omega)]
        exact hs3 _ _ (hs2 _ _ hq9)
      have o16 := o1.sub (h15.trans hs6) fun _ _ h => h
      have gc6 := hs6 _ _ gc5
      refine goes_L2_c (g := x) (en := entersD x c) (st := stD x c) (dl := stepL x c by_) (to := (k' : Int)) (gid := gid) (a := a) (b := b) (hf6.mono (by omega)) hl6 (u1.sub hs6) hsim'.l o16 hopsE (fun d hd => ?_) hsim'.ok (by have : (stepL x c by_).length ≤ 512 := v2; omega) (fun d hd => by have := v3 d hd; omega) g6 g26 gg6 (hA.p.sub hb6 (RPos.sub hb6)) ?_ ?_ ?_ ?_ ?_ ?_ ?_ fun e' n' hn' hkl => ?_
      · obtain ⟨q, q1, q2, q3⟩ := mem_stepL hd
        rw [q2]
        exact op_says hsim.ok q3
      · exact e6
      · rfl
      · rfl
      · rfl
      · rfl
      · rfl
      · rfl
      obtain ⟨l1, l5, l6, l7, l9, l10, l14, l15, l38, l39⟩ := hkl
      have l1 : e' 1 = .string w := l1.trans e1
      have l5 : e' 5 = .bool true := l5.trans e5
      have l6 : e' 6 = ptr gid := l6.trans e6
      have l7 : e' 7 = ptr aid := l7.trans e7
      have l9 : e' 9 = ptr cid := l9.trans e9
      have l38 : e' 38 = .int .i64 (M : Int) := l38.trans e38
      have l39 : e' 39 = .int .i64 (i : Int) := l39.trans e39
      have l14 : e' 14 = ptr (n3 + 14) := l14
      have l15 : e' 15 = ptr (n3 + 22) := l15
      refine exP_e (beqP_t ?_)
      unfold law11_AutoGoes_j3
      rw [l9, l14, l15]
      refine bindP_mk (loadA_all (l := [.bool (stepD x c by_).b, a3]) g56 rfl) ?_
      (repeat (first | refine bindP_mk (by simp (disch := first | omega | exact Int.natCast_nonneg _ | assumption) only [BB, B2, ↓reduceIte, Nat.reduceLeDiff, Nat.reduceAdd, CC, g26, m0] <;> rfl) ?_ | refine newP_mk ?_ | refine optP_mk ?_ | with_reducible first | refine condP_t ?_ | refine condP_f ?_ | refine ifP_tt' ?_ | refine ifP_ff' ?_ | refine ifP_tf' ?_ | refine ifP_ft' ?_ | refine ifP_u' ?_ | refine optP_mk0 ?_))
      refine bindP_mk (storeA_own (l := [.bool c.b, cv]) (vs := [.bool (stepD x c by_).b, a3]) gc6 rfl rfl rfl (two_ok hok3)) ?_
      refine ⟨sameV_own g26 ((T.get_upd_ne _ _ (by omega)).trans g26), ?_⟩
      unfold law11_AutoGoes_j2
      have hadd : intB .add (e' 39) (.int .i64 1) = some (.int .i64 ((i : Int) + 1)) := by rw [l39, intB_add, wr_i64 (by omega) (by omega)]
      refine bindP_mk hadd ?_
      refine hq (j - 1) _ _ _ _ (by omega) ⟨i + 1, stepD x c by_, a3, k', t, by omega, by omega, (hf6.upd (Nat.le_refl _) (by omega)).mono (by omega), ⟨fun q o hq9 => ?_, by rw [T.get_upd_same], ?_, hsim', l1, l5, l6, l7, l9, rfl, l38⟩, rfl⟩ (Sub.refl _)
      · rw [T.get_upd_ne _ _ (by rintro rfl; rw [hbc] at hq9; cases hq9)]
        exact hb6 _ _ hq9
      · have hC7 := hr3 (h5.upd cid (some (.cells [.bool (stepD x c by_).b, a3].toArray y_api_Config))) fun k hk => by
          rw [T.get_upd_ne _ _ (by omega)]
          exact hne5 k (by omega)
        obtain ⟨a4, e4, hl7⟩ := hC7
        have e4 : a3 = a4 := by simpa using e4
        subst e4
        refine hl7.sub ?_ (RHeld.sub ?_) <;>
        · intro q o hq9
          by_cases hqc : q = cid
          · subst hqc
            rw [T.get_upd_same] at hq9 ⊢
            exact hq9
          · rw [T.get_upd_ne _ _ hqc] at hq9 ⊢
            exact hs6 _ _ hq9
  · have hIn : GInv ro hb x S a b sv cvA gid aid cid w M h' (puts e [(40, .bool false)]) c cv k s := ⟨hsub, gc, hcl, hsim, e1, e5, e6, e7, e9, e10, e38⟩
    exact condP_f (hx _ _ _ _ (fun e => by cases e) (hQ2 _ _ _ c cv k s (by omega) (hf'.mono (by omega)) hIn))
end
end V
end Go.Proofs.Ytmmdcdjkmakgpaa
set_option linter.unusedVariables false
set_option linter.unusedSimpArgs false
namespace Go.Proofs.Ytmmdcdjkmakgpaa
namespace V
open PA
attribute [local irreducible] bindP ifP condP newP optP exP beqP
theorem build_ConfigT : buildV Try.prog y_api_Config [(0, .bool true)] = some (.agg #[.bool true, nilS]) := by kernel_rfl
theorem sameV_load {ro : Ro} {h : T Obj} {v w : Value} (hl : load1 ro h v = some w) : sameV v h h := by
  unfold load1 at hl
  cases v <;> try (cases hl; done)
  rename_i a
  cases a with
  | none => cases hl
  | some a =>
    simp only [asP, Option.bind] at hl
    cases hc : cellsAt ro h a 1 with
    | none => rw [hc] at hl; cases hl
    | some x => exact sameV_ptr (Sub.refl _) hc
theorem min_g (h : T Obj) (t : Array TypeId) (a b : Int) : builtinQ Try.prog h .min t [.int .i64 a, .int .i64 b] = some (.int .i64 (min a b)) := by
  unfold builtinQ
  simp only [minL_eq, minL, minB]
  by_cases e : b < a
  · simp only [e, decide_true]; congr 2; omega
  · simp only [e, decide_false]; congr 2; omega
section
variable {ro : Ro}
set_option maxRecDepth 8000 in
set_option maxHeartbeats 4000000 in
theorem law11_AutoGoes_c {v : Value} {g : GlD} {w : ByteArray} {h : T Obj} {nx : Nat} {K : KV} (hf : Fr h nx) (hg : RG ro h v g) (hK : ∀ h' nx', K (.bool true) h' nx') : callP Try.prog ro i_law11_AutoGoes [v, .string w] h nx K := by
  have hg0 := hg
  obtain ⟨a, b, rfl, ha, hb⟩ := hg
  apply law11_AutoGoes_of
  unfold law11_AutoGoes
  refine param_mk hf (Nat.le_refl _) fun h1 hs1 hf1 g1 _ => ?_
  have g1 : h1.get nx = some (.cells [a, b].toArray y_api_Glush) := g1
  refine shown_c ?_
  refine bindP_mk (loadA_all (l := [a, b]) g1 rfl) ?_
  refine law11_few_c2 (hf1.mono (show nx + 1 ≤ _ by omega)) (hg0.sub hs1) fun n8 hn8 => ?_
  have hx := fewV_R (hg0.sub hs1)
  obtain ⟨a', b', hv', hxa, hxb⟩ := hx
  have hv' : fewV (.agg [a, b].toArray) g = .agg #[a', b'] := hv'
  rw [hv']
  have hak := hxa.ok
  have hbk : cellOk b' = true := hxb.okC
  refine local_mk zer_Gl rfl (x := [a', b']) rfl rfl (by simp [hak, hbk]) hf1 (show nx + 1 ≤ n8 by omega) fun h2 hs2 hf2 g2 _ => ?_
  refine bindP_mk (loadA_all (l := [a', b']) g2 rfl) ?_
  refine auto_Of_c (hf2.mono (show n8 + 1 ≤ n8 + 4 by omega)) ⟨a', b', rfl, hxa.sub hs2, hxb.sub hs2 (RPos.sub hs2)⟩ fun h5 n5 xs hn5 hs5 hf5 hR => ?_
  (repeat (first | refine bindP_mk (by simp (disch := first | omega | exact Int.natCast_nonneg _ | assumption) only [BB, B2, ↓reduceIte, Nat.reduceLeDiff, Nat.reduceAdd, CC, nth0, nth1] <;> rfl) ?_ | refine newP_mk ?_ | refine optP_mk ?_ | with_reducible first | refine condP_t ?_ | refine condP_f ?_ | refine ifP_tt' ?_ | refine ifP_ff' ?_ | refine ifP_tf' ?_ | refine ifP_ft' ?_ | refine ifP_u' ?_ | refine optP_mk0 ?_))
  obtain ⟨cv, sv, rfl, hc, hcb, hcv, hsv, hc1, hc2⟩ := hR
  have hcvk : cellOk cv = true := by obtain ⟨cs, h1, _⟩ := hcv; exact h1.ok
  have hsvk : cellOk sv = true := by obtain ⟨cs, h1, _⟩ := hsv; exact h1.ok
  refine local_mk zer_Auto (by rw [Value.cells_agg, ts]; exact autZ_len) (x := autL (ofZ (fewD g)).2.c (ofZ (fewD g)).2.many cv sv) rfl (autL_len hc) (autL_ok hcvk hsvk) hf5 (show n5 ≤ n5 + 3 by omega) fun h6 hs6 hf6 g6 _ => ?_
  have hs26 := hs5.trans hs6
  have g26 := hs26 _ _ g2
  refine neq_s (fun u => ?_) (fun u => ?_)
  · exact condP_t ⟨_, Sub.refl _, hK _ _⟩
  · refine condP_f ?_
    obtain ⟨hr, S, hS, hm, hall⟩ := ofZ_ok u
    have hri := right_of u
    have hcv6 := hcv.sub hs6 fun _ _ h => h
    have hsv6 := hsv.sub hs6 (RState.sub hs6)
    have hRA : RAuto ro h6 (autL (ofZ (fewD g)).2.c (ofZ (fewD g)).2.many cv sv) (ofZ (fewD g)).2 := ⟨cv, sv, rfl, hc, hcb, hcv6, hsv6, hc1, hc2⟩
    have hlo := loadA_all (ro := ro) (z := 0) (n := 259) (l := autL (ofZ (fewD g)).2.c (ofZ (fewD g)).2.many cv sv) g6 (autL_len hc)
    refine bindP_mk hlo ?_
    refine ref11_Right_c (hf6.mono (show n5 + 3 + 1 ≤ _ by omega)) hRA fun n7 hn7 => ?_
    rw [hri]
    (repeat (first | refine bindP_mk (by simp (disch := first | omega | exact Int.natCast_nonneg _ | assumption) only [BB, B2, ↓reduceIte, Nat.reduceLeDiff, Nat.reduceAdd, CC] <;> rfl) ?_ | refine newP_mk ?_ | refine optP_mk ?_ | with_reducible first | refine condP_t ?_ | refine condP_f ?_ | refine ifP_tt' ?_ | refine ifP_ff' ?_ | refine ifP_tf' ?_ | refine ifP_ft' ?_ | refine ifP_u' ?_ | refine optP_mk0 ?_))
    refine bindP_mk build_ConfigT ?_
    refine local_mk zer_Config rfl (x := [.bool true, nilS]) rfl rfl rfl (hf6.mono (show n5 + 3 + 1 ≤ n7 + 2 by omega)) (Nat.le_refl _) fun h7 hs7 hf7 g7 _ => ?_
    refine bindP_mk (lenStr_bts w) ?_
    refine bindP_mk (min_g _ _ _ _) ?_
    rw [hS] at hc g6 hsv6
    have hsm : (ofD (fewD g) S).states = S := rfl
    have hcls : (ofD (fewD g) S).c = cls (setsL (fewD g).p) := rfl
    generalize hx9 : fewD g = x at *
    obtain ⟨z, z1, z2⟩ := hm.base.zero
    have hAM : AutoM ro h6 x S a' b' sv := ⟨hr, hm, hsv6, (hxa.sub hs2).sub hs26, (hxb.sub hs2 (RPos.sub hs2)).sub hs26 (RPos.sub hs26)⟩
    have hM : ((min ((bts w).length : Int) 60).toNat : Int) = min ((bts w).length : Int) 60 := by omega
    refine goes_L1_c (M := (min ((bts w).length : Int) 60).toNat) (c0 := (ofD x S).c) (n0 := (ofD x S).many) (cvA := cv) (hb := h6) (w := w) (gid := n8) (aid := n5 + 3) (cid := n7 + 2) (s0 := z) hAM hm.base.few rfl (by omega) (by omega) (by omega) (by omega) (hf6 _ (by omega)) (hf7.mono (show n7 + 2 + 1 ≤ n7 + 9 by omega)) hs7 g26 g6 ⟨hs7, g7, SlR.nil, ⟨rfl, z1, z2.symm, ⟨fun _ => rfl, fun _ => rfl⟩⟩, rfl, rfl, rfl, rfl, rfl, rfl, ?_⟩ rfl (fun e' h' n' e4 => ?_) fun e' h' n' c cv' k s hn' hf' hI => ?_
    · exact congrArg (Value.int IntKind.i64) hM.symm
    · refine exP_r ?_
      rw [e4]
      exact ⟨_, Sub.refl _, hK _ _⟩
    · obtain ⟨hsub, gc, hcl, hsim, e1, e5, e6, e7, e9, e10, e38⟩ := hI
      refine exP_e (beqP_t ?_)
      unfold law11_AutoGoes_j1
      rw [e5, e6, e7, e9, e10]
      have gg' := hsub _ _ g26
      have ga' := hsub _ _ g6
      have hsl := hAM.s.sub hsub (RState.sub hsub)
      obtain ⟨f1, f2, f3⟩ := held_few hm hr hsim
      have hkl := (List.getElem?_eq_some_iff.1 hsim.st).1
      have hke := (List.getElem?_eq_some_iff.1 hsim.st).2
      have a258 := autL_states (n := (ofD x S).many) (cv := cv) (sv := sv) hc
      obtain ⟨y, ⟨lv, rv, uv, nv, rfl, y1, y2, y3, y4, y5⟩, w2, w3, w4, w5⟩ := hsl.at hkl
      rw [hke] at y1 y2 y3 y4
      have six := hsl.ix .i64 hkl
      have hG1 : RG ro h' (.agg [a', b'].toArray) x := ⟨a', b', rfl, hAM.a.sub hsub, hAM.p.sub hsub (RPos.sub hsub)⟩
      have hC1 : RCfg ro h' (.agg [.bool c.b, cv'].toArray) c := ⟨cv', rfl, hcl⟩
      refine bindP_mk (loadA_all (l := [a', b']) gg' rfl) ?_
      refine bindP_mk (loadA_all (l := [.bool c.b, cv']) gc rfl) ?_
      refine law11_code_c hsim.ok f1 (by omega) (fun d hd => by have := f3 d hd; omega) (hf'.mono (show n' ≤ n' + 3 by omega)) hG1 hC1 fun n2 hn2 => ?_
      obtain ⟨q1, q2, q3⟩ := hsim.code hr hm
      have hcp := cod_pos x c.l
      have hcr : cod x c.l < (s.rule.length : Int) := by omega
      have f2w := w4 2
      have l2 := w5 2 uv rfl
      have uln := y3.len
      have rix := y3.ixI .i64 hcp hcr
      have rld := y3.load' q3
      (repeat (first | refine bindP_mk (by simp (disch := first | omega | exact Int.natCast_nonneg _ | assumption) only [BB, B2, ↓reduceIte, Nat.reduceLeDiff, Nat.reduceAdd, CC, ga', a258, six, f2w, l2, uln, rix, rld] <;> rfl) ?_ | refine newP_mk ?_ | refine optP_mk ?_ | with_reducible first | refine condP_t ?_ | refine condP_f ?_ | refine ifP_tt' ?_ | refine ifP_ff' ?_ | refine ifP_tf' ?_ | refine ifP_ft' ?_ | refine ifP_u' ?_ | refine optP_mk0 ?_))
      refine bindP_mk (loadA_all (l := [a', b']) gg' rfl) ?_
      (repeat (first | refine bindP_mk (by simp (disch := first | omega | exact Int.natCast_nonneg _ | assumption) only [BB, B2, ↓reduceIte, Nat.reduceLeDiff, Nat.reduceAdd, CC] <;> rfl) ?_ | refine newP_mk ?_ | refine optP_mk ?_ | with_reducible first | refine condP_t ?_ | refine condP_f ?_ | refine ifP_tt' ?_ | refine ifP_ff' ?_ | refine ifP_tf' ?_ | refine ifP_ft' ?_ | refine ifP_u' ?_ | refine optP_mk0 ?_))
      refine bindP_mk (loadA_all (l := [.bool c.b, cv']) gc rfl) ?_
      (repeat (first | refine bindP_mk (by simp (disch := first | omega | exact Int.natCast_nonneg _ | assumption) only [BB, B2, ↓reduceIte, Nat.reduceLeDiff, Nat.reduceAdd, CC] <;> rfl) ?_ | refine newP_mk ?_ | refine optP_mk ?_ | with_reducible first | refine condP_t ?_ | refine condP_f ?_ | refine ifP_tt' ?_ | refine ifP_ff' ?_ | refine ifP_tf' ?_ | refine ifP_ft' ?_ | refine ifP_u' ?_ | refine optP_mk0 ?_))
      refine ref10_Rule_c (hf'.mono (show n' ≤ _ by omega)) hG1 hC1 fun n3 hn3 => ?_
      have hru : RuleC x c = ruleD x c := by unfold RuleC rightC; rw [hr, hsim.fits]; rfl
      rw [hru]
      refine ⟨fun _ => Sl.same (Sub.refl _) y3 (by rw [intsZ_len]; omega), fun _ => sameV_load l2, fun _ => sameV_own ga' ga', ?_⟩
      (repeat (first | refine bindP_mk (by simp (disch := first | omega | exact Int.natCast_nonneg _ | assumption) only [BB, B2, ↓reduceIte, Nat.reduceLeDiff, Nat.reduceAdd, CC] <;> rfl) ?_ | refine newP_mk ?_ | refine optP_mk ?_ | with_reducible first | refine condP_t ?_ | refine condP_f ?_ | refine ifP_tt' ?_ | refine ifP_ff' ?_ | refine ifP_tf' ?_ | refine ifP_ft' ?_ | refine ifP_u' ?_ | refine optP_mk0 ?_))
      exact ⟨_, Sub.refl _, hK _ _⟩
end
end V
end Go.Proofs.Ytmmdcdjkmakgpaa
set_option linter.unusedVariables false
set_option linter.unusedSimpArgs false
set_option maxRecDepth 16000
namespace Go.Proofs.Ytmmdcdjkmakgpaa
namespace V
open Go.ChangeShapes Go.WideShapes Go.ChangeAt Go.RowKit
theorem autoGoes_lifted (os : Os) (started : os.Started) (H : Type) (enc : TypeId × Value → H) :
    ReturnsInHanded {} Try.checked os 4 .any (Rows.autoGoesSpec.pre6 enc Try.prog Try.f4 Rows.autoGoesRow.domain false) (Rows.autoGoesSpec.post enc Try.prog Try.f4 false true false false) := by
  refine returnsInHanded_of_change_sized (C := Try.checked) okOwn started (by kernel_rfl) (by kernel_rfl)
    (ChangeSpec.witness6 (enc := enc) (C := Try.checked) false ⟨#[], #[.agg #[.slice none 0 0, .slice none 0 0], .string .empty], []⟩ 8 (by kernel_rfl) (by kernel_rfl) (by kernel_rfl) (by kernel_rfl)) ?_
  intro W base args ds gs before hval hW _ _ _
  have hW' := hW
  obtain ⟨p, q, hA0, hV, rfl, hfz, hnd⟩ := hW
  have hA : DataW.TrodAll enc Try.prog W 0 (fun _ => true) true [y_api_Glush, y_string] args.toList ds p := hA0
  obtain ⟨v0, v1, d0, d1, p0, p1, rfl, rfl, rfl, h0, h1⟩ := trodAll_two hA
  obtain ⟨rfl, rfl⟩ := trodVars_none hV
  obtain ⟨w0, g0, a0, hg0⟩ := open_glush h0 (hval 0 y_api_Glush v0 rfl rfl)
  obtain ⟨s1, a1⟩ := open_str h1 (hval 1 y_string v1 rfl rfl)
  have hsay : Says Try.prog W 4 [w0, .string s1] := law11_AutoGoes_c Fr.e hg0 fun _ _ => rfl
  refine (says_calls okZ okN okM (args := #[v0, v1]) (.cons a0 (.cons a1 .nil)) hsay).mono fun e W' ⟨he, hb⟩ => ?_
  subst he
  exact ⟨_, rfl, law_post (tb := y_bool) okLaid (by kernel_rfl) (by kernel_rfl) (by kernel_rfl) rfl hW' hb rfl⟩
end V
theorem autoGoes_holds : Rows.AutoGoesSaid :=
  OpenClaim.holds_of_wide 4 Try.f4 rfl rfl rfl rfl rfl rfl rfl ⟨rfl, rfl, rfl, rfl, rfl⟩ rfl rfl rfl rfl rfl (by kernel_rfl) (by kernel_rfl) (by kernel_rfl)
    (of_decide_eq_true (by kernel_rfl)) (by unfold Func.isWrapper; rw [if_neg (of_decide_eq_false (by kernel_rfl))]; exact ⟨rfl, rfl⟩)
    (fun os started H enc _ => V.autoGoes_lifted os started H enc)
end Go.Proofs.Ytmmdcdjkmakgpaa