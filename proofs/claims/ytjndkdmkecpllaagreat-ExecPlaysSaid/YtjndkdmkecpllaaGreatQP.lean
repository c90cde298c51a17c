/- Texts laid one behind the other: YC, XO, LPlays.
   No condition. -/
import Derived.Test.YtjndkdmkecpllaaGreatQP6
set_option linter.unusedVariables false
set_option linter.unusedSimpArgs false
set_option linter.unusedVariables false
set_option linter.unusedSimpArgs false
namespace Go.Proofs.YtjndkdmkecpllaaGreat
namespace V
attribute [local irreducible] bindP ifP condP newP optP exP beqP
theorem min_int (h : T Obj) (ts : Array TypeId) (a b : Int) : builtinQ Tryz.prog h .min ts [.int .i64 a, .int .i64 b] = some (.int .i64 (min a b)) := by
  unfold builtinQ
  simp only [minL_eq, minL, minB]
  by_cases e : b < a
  · simp only [e, decide_true]; congr 2; omega
  · simp only [e, decide_false]; congr 2; omega
theorem RAuto.len {ro : Ro} {h : T Obj} {x : List Value} {d : AutoD} (hd : RAuto ro h x d) : x.length = 259 := by
  obtain ⟨cv, sv, rfl, hc, _⟩ := hd; exact autL_len hc
theorem RAuto.okL {ro : Ro} {h : T Obj} {x : List Value} {d : AutoD} (hd : RAuto ro h x d) : x.all cellOk = true := by
  obtain ⟨cv, sv, rfl, hc, _, h1, h2, _⟩ := hd; exact autL_ok (SlR.okC h1) (SlR.okC h2)
def boolsC (l : List Bool) : List (List Value) := l.map fun b => [Value.bool b]
theorem boolsC_len (l : List Bool) : (boolsC l).length = l.length := by simp [boolsC]
theorem boolsC_get {l : List Bool} {i : Nat} (hi : i < l.length) : (boolsC l)[i]? = some [.bool l[i]] := by simp [boolsC, hi]
theorem Sub.e' (h : T Obj) : Sub .e h := fun k o e => by rw [T.get_e] at e; cases e
theorem pNil (id off z : Nat) : ptrB .eql (at_ id off z) (.pointer none) = some (.bool false) := rfl
theorem pNil0 : ptrB .eql (.pointer none) (.pointer none) = some (.bool true) := rfl
section
variable {ro : Ro} {h : T Obj} {nx : Nat} {K : KV}
set_option maxRecDepth 8000 in
set_option maxHeartbeats 2000000 in
theorem law13_ExecPlays_c {x : List Value} {d : AutoD} {s : ByteArray} {bv : Value} {bl : List Bool} (hf : Fr h nx) (hd : RAuto ro h x d) (hb : Sl ro .e bv 1 (boolsC bl)) (hK : ∀ h' nx', nx ≤ nx' → K (.bool true) h' nx') : callP Tryz.prog ro i_law13_ExecPlays [.agg x.toArray, .string s, bv] h nx K := by
  apply law13_ExecPlays_of
  unfold law13_ExecPlays
  refine param_mk hf (Nat.le_refl _) fun h1 hs1 hf1 g1 _ => ?_
  have g1 : h1.get nx = some (.cells x.toArray y_api_Auto) := g1
  refine shown_c ?_
  refine bindP_mk (loadA_all g1 hd.len) ?_
  refine law13_few_c (hf1.mono (by omega)) (hd.sub hs1) fun x' n2 hn2 hd2 => ?_
  generalize fewA d = d' at hd2
  refine local_mk (x := x') zer_Auto (by show autZ.toArray.size = 259; simp [autZ_len]) rfl hd2.len hd2.okL (hf1.mono (by omega)) (Nat.le_refl _) fun h2 hs2 hf2 g2 _ => ?_
  have hd3 := hd2.sub hs2
  have L2 := loadA_all (ro := ro) (z := 0) (n := 259) (l := x') g2 hd2.len
  refine bindP_mk L2 ?_
  have hln := lenStr_bts s
  refine exec_New_c (X0 := []) (hf2.mono (by omega)) hd3 (fun hno n3 hn3 => ?_) (fun k hk => by cases hk) fun hok pE psE X1 h3 n3 hn3 hf3 hs3 hX1 hE => ?_
  · -- refused by both
    refine bindP_mk (nth0 _ _) (bindP_mk (nth1 _ _) ?_)
    refine bindP_mk L2 ?_
    refine ref13_New_c (X0 := []) (hf2.mono (by omega)) hd3 (fun _ n4 hn4 => ?_) (fun k hk => by cases hk) fun hok => absurd hok (by rw [hno]; decide)
    refine bindP_mk (nth0 _ _) (bindP_mk (nth1 _ _) ?_)
    refine neq_f rfl ?_
    (repeat (first | refine bindP_mk (by simp (disch := first | omega | exact Int.natCast_nonneg _ | assumption) only [BB, B2, ↓reduceIte, Nat.reduceLeDiff, Nat.reduceAdd, CC, pNil0] <;> rfl) ?_ | refine newP_mk ?_ | refine optP_mk ?_ | with_reducible first | refine condP_t ?_ | refine condP_f ?_ | refine ifP_tt' ?_ | refine ifP_ff' ?_ | refine ifP_tf' ?_ | refine ifP_ft' ?_ | refine ifP_u' ?_ | refine optP_mk0 ?_))
    first
    | rw [show (true != true) = false from rfl]
    | simp only [beq_self_eq_true, Bool.not_true]
    | skip
    (repeat (first | refine bindP_mk (by simp (disch := first | omega | exact Int.natCast_nonneg _ | assumption) only [BB, B2, ↓reduceIte, Nat.reduceLeDiff, Nat.reduceAdd, CC, pNil0] <;> rfl) ?_ | refine newP_mk ?_ | refine optP_mk ?_ | with_reducible first | refine condP_t ?_ | refine condP_f ?_ | refine ifP_tt' ?_ | refine ifP_ff' ?_ | refine ifP_tf' ?_ | refine ifP_ft' ?_ | refine ifP_u' ?_ | refine optP_mk0 ?_))
    exact ⟨_, Sub.refl _, hK _ _ (by omega)⟩
  · refine bindP_mk (nth0 _ _) (bindP_mk (nth1 _ _) ?_)
    have g3 := hs3 _ _ g2
    refine bindP_mk (loadA_all (l := x') g3 hd2.len) ?_
    have hd4 : RAuto ro (del h3 X1) x' d' := hd3.sub (hs3.delN (hf2.mono (show n2 + 1 ≤ n2 + 4 by omega)) fun k hk => (hX1 k hk).1)
    refine ref13_New_c (X0 := X1) (hf3.mono (by omega)) hd4 (fun hno => absurd hok (by rw [hno]; decide)) (fun k hk => by have := hX1 k hk; omega) fun _ pR psR X2 h4 n4 hn4 hf4 hs4 hX2 hR => ?_
    have hE4 : MI ro h4 (X1 ++ X2) pE psE (er d') (newM d') := hE.sub RI_ok hs4 (fun k hk => by
      rcases List.mem_append.1 hk with h9 | h9
      · exact .inl (by simpa using h9)
      · exact .inr (hf3 _ (by have := hX2 k h9; omega))) fun k hk => List.mem_append.2 (.inl (by simpa using hk))
    have g4 := hs4 _ _ g3
    have hC512 := (autoOk_parts hok).2.1
    obtain ⟨cv', sv', hxe, hc, hclt, hcv, hS, _, _⟩ := id hd3
    have m7 := autL_counts (n := d'.many) (cv := cv') (sv := sv') hc
    have hcl := hcv.len
    refine bindP_mk (nth0 _ _) (bindP_mk (nth1 _ _) ?_)
    refine neq_f rfl ?_
    (repeat (first | refine bindP_mk (by simp (disch := first | omega | exact Int.natCast_nonneg _ | assumption) only [BB, B2, ↓reduceIte, Nat.reduceLeDiff, Nat.reduceAdd, CC, pNil] <;> rfl) ?_ | refine newP_mk ?_ | refine optP_mk ?_ | with_reducible first | refine condP_t ?_ | refine condP_f ?_ | refine ifP_tt' ?_ | refine ifP_ff' ?_ | refine ifP_tf' ?_ | refine ifP_ft' ?_ | refine ifP_u' ?_ | refine optP_mk0 ?_))
    simp only [beq_self_eq_true, Bool.not_true]
    (repeat (first | refine bindP_mk (by simp (disch := first | omega | exact Int.natCast_nonneg _ | assumption) only [BB, B2, ↓reduceIte, Nat.reduceLeDiff, Nat.reduceAdd, CC, pNil] <;> rfl) ?_ | refine newP_mk ?_ | refine optP_mk ?_ | with_reducible first | refine condP_t ?_ | refine condP_f ?_ | refine ifP_tt' ?_ | refine ifP_ff' ?_ | refine ifP_tf' ?_ | refine ifP_ft' ?_ | refine ifP_u' ?_ | refine optP_mk0 ?_))
    refine bindP_mk hln ?_
    refine bindP_mk (min_int _ _ _ _) ?_
    rw [show min ((bts s).length : Int) 60 = ((min (bts s).length 60 : Nat) : Int) by omega]
    generalize hN : min (bts s).length 60 = N
    have hokE := autoOk_er hok
    refine loopP_rule (fun j e h' nx' => ∃ (k : Nat) (m : MacD) (X : List Nat) (psR' : List (Nat × Nat)), k + j = N ∧ nx ≤ nx' ∧ e 1 = .string s ∧ e 2 = bv ∧ e 7 = .bool true ∧ e 8 = ptr n2 ∧ e 9 = ptr pE ∧ e 11 = ptr pR ∧ e 43 = .int .i64 N ∧ e 44 = .int .i64 k ∧ Fr h' nx' ∧
      h'.get n2 = some (.cells (autL d'.c d'.many cv' sv').toArray y_api_Auto) ∧ MI ro h' X pE psE (er d') m ∧ MW ro h' X pR psR' d' m ∧ MOk d' m ∧ WLe (10 * k) m.rs ∧ m.steps ≤ 4 * k) ?_ (n := N)
      ⟨0, newM d', X1 ++ X2, psR, by omega, by omega, rfl, rfl, rfl, rfl, rfl, rfl, rfl, rfl, hf4.mono (by omega), by rw [← hxe]; exact g4, hE4, hR, new_ok hok, fun r hr => by
        obtain ⟨c9, _, rfl⟩ := List.mem_map.1 hr
        exact Nat.zero_le _, Nat.zero_le _⟩
    rintro j e h' nx' ⟨k, m, X, psR', hj, hnx, e1, e2, e7, e8, e9, e11, e43, e44, hf', gx, hE, hR, hm, hw, hst⟩ Q' hq hx
    have hj3 : ∀ (e' : Env) h2 n2' m2 X2 ps2, e' 1 = .string s → e' 2 = bv → e' 7 = .bool true → e' 8 = ptr n2 → e' 9 = ptr pE → e' 11 = ptr pR → e' 43 = .int .i64 N → e' 44 = .int .i64 k → e' 13 = .int .i64 k → k < N → nx ≤ n2' → Fr h2 n2' → h2.get n2 = some (.cells (autL d'.c d'.many cv' sv').toArray y_api_Auto) → MI ro h2 X2 pE psE (er d') m2 → MW ro h2 X2 pR ps2 d' m2 → MOk d' m2 → WLe (10 * k + 1) m2.rs → m2.steps ≤ 4 * k → law13_ExecPlays_j3 ro Q' e' h2 n2' := by
      intro e' h2 n2' m2 X2 ps2 f1 f2 f7 f8 f9 f11 f43 f44 f13 hkN hn2' hf2' gx2 hE2 hR2 hm2 hw2 hst2
      have hkb : k < (bts s).length := by omega
      have hbb := bts_lt _ (List.getElem_mem hkb)
      have hix := ixStr_bts (s := s) (k := .i64) hkb
      generalize (bts s)[k] = b at hbb hix
      unfold law13_ExecPlays_j3
      rw [f1, f9, f11, f13]
      refine bindP_mk hix ?_
      refine exec_Step_c hE2 hokE (MOk_er hm2) hbb (hf2'.mono (by omega)) hw2 (by omega) (by omega) fun h5 n5 hn5 hf5 hk5 hE5 => ?_
      rw [onM_er]
      rw [stepM_er] at hE5
      have hR5 := two_exec hE2 hR2 hk5
      have gx5 := hk5 _ _ gx2 (hE2.notin RI_ok gx2 (by decide) (by decide) (by decide))
      refine bindP_mk hix ?_
      refine ref13_Step_c hR5 hok hm2 hbb hf5 hw2 (by omega) (by omega) fun h6 n6 X6 ps6 hL6 => ?_
      have hE6 := two_ref hE5 hR5 hL6
      have gx6 := hL6.2.2.1 _ _ gx5 (hR5.notin WJ_ok gx5 (by decide) (by decide) (by decide))
      obtain ⟨l1, l2, l3, l4, l5, l6, hR6⟩ := hL6
      have hm6 := step_ok hok hm2 hc hbb
      have hw6 := step_w hok hm2 hc hbb hw2
      have hs6 := step_steps (b := b) hok hm2
      generalize stepM d' m2 b = m3 at hE6 hR6 hm6 hw6 hs6
      have gq : ∃ cv9 sv9 rv9, h6.get pR = some (.cells (machL d'.c d'.many cv9 sv9 m3.cur rv9 m3.steps).toArray y_raddleref13_Machine) := by
        obtain ⟨cv9, sv9, rv9, g9, _⟩ := id hR6
        exact ⟨cv9, sv9, rv9, g9⟩
      obtain ⟨cv9, sv9, rv9, gq⟩ := gq
      have m99 := machL_259 (n := d'.many) (cv := cv9) (sv := sv9) (cur := m3.cur) (rv := rv9) (steps := m3.steps) hc
      (repeat (first | refine bindP_mk (by simp (disch := first | omega | exact Int.natCast_nonneg _ | assumption) only [BB, B2, ↓reduceIte, Nat.reduceLeDiff, Nat.reduceAdd, CC] <;> rfl) ?_ | refine newP_mk ?_ | refine optP_mk ?_ | with_reducible first | refine condP_t ?_ | refine condP_f ?_ | refine ifP_tt' ?_ | refine ifP_ff' ?_ | refine ifP_tf' ?_ | refine ifP_ft' ?_ | refine ifP_u' ?_ | refine optP_mk0 ?_))
      simp only [beq_self_eq_true, Bool.not_true]
      (repeat (first | refine bindP_mk (by simp (disch := first | omega | exact Int.natCast_nonneg _ | assumption) only [BB, B2, ↓reduceIte, Nat.reduceLeDiff, Nat.reduceAdd, CC] <;> rfl) ?_ | refine newP_mk ?_ | refine optP_mk ?_ | with_reducible first | refine condP_t ?_ | refine condP_f ?_ | refine ifP_tt' ?_ | refine ifP_ff' ?_ | refine ifP_tf' ?_ | refine ifP_ft' ?_ | refine ifP_u' ?_ | refine optP_mk0 ?_))
      refine exec_State_c hE6 fun n7 hn7 => ?_
      (repeat (first | refine bindP_mk (by simp (disch := first | omega | exact Int.natCast_nonneg _ | assumption) only [BB, B2, ↓reduceIte, Nat.reduceLeDiff, Nat.reduceAdd, CC, nilCk_at, gq, m99] <;> rfl) ?_ | refine newP_mk ?_ | refine optP_mk ?_ | with_reducible first | refine condP_t ?_ | refine condP_f ?_ | refine ifP_tt' ?_ | refine ifP_ff' ?_ | refine ifP_tf' ?_ | refine ifP_ft' ?_ | refine ifP_u' ?_ | refine optP_mk0 ?_))
      refine ⟨fun _ => sameV_own gq gq, ?_⟩
      (repeat (first | refine bindP_mk (by simp (disch := first | omega | exact Int.natCast_nonneg _ | assumption) only [BB, B2, ↓reduceIte, Nat.reduceLeDiff, Nat.reduceAdd, CC] <;> rfl) ?_ | refine newP_mk ?_ | refine optP_mk ?_ | with_reducible first | refine condP_t ?_ | refine condP_f ?_ | refine ifP_tt' ?_ | refine ifP_ff' ?_ | refine ifP_tf' ?_ | refine ifP_ft' ?_ | refine ifP_u' ?_ | refine optP_mk0 ?_))
      refine exec_Rule_c hE6 hokE (MOk_er hm6) (l2.mono (by omega)) fun n8 hn8 => ?_
      rw [ruleM_er]
      (repeat (first | refine bindP_mk (by simp (disch := first | omega | exact Int.natCast_nonneg _ | assumption) only [BB, B2, ↓reduceIte, Nat.reduceLeDiff, Nat.reduceAdd, CC] <;> rfl) ?_ | refine newP_mk ?_ | refine optP_mk ?_ | with_reducible first | refine condP_t ?_ | refine condP_f ?_ | refine ifP_tt' ?_ | refine ifP_ff' ?_ | refine ifP_tf' ?_ | refine ifP_ft' ?_ | refine ifP_u' ?_ | refine optP_mk0 ?_))
      refine ref13_Rule_c hR6 hok hm6 (l2.mono (by omega)) fun n9 hn9 => ?_
      (repeat (first | refine bindP_mk (by simp (disch := first | omega | exact Int.natCast_nonneg _ | assumption) only [BB, B2, ↓reduceIte, Nat.reduceLeDiff, Nat.reduceAdd, CC] <;> rfl) ?_ | refine newP_mk ?_ | refine optP_mk ?_ | with_reducible first | refine condP_t ?_ | refine condP_f ?_ | refine ifP_tt' ?_ | refine ifP_ff' ?_ | refine ifP_tf' ?_ | refine ifP_ft' ?_ | refine ifP_u' ?_ | refine optP_mk0 ?_))
      refine exec_Work_c hE6 (MOk_er hm6) hC512 hw6 (by omega) (by omega) fun n10 hn10 => ?_
      (repeat (first | refine bindP_mk (by simp (disch := first | omega | exact Int.natCast_nonneg _ | assumption) only [BB, B2, ↓reduceIte, Nat.reduceLeDiff, Nat.reduceAdd, CC] <;> rfl) ?_ | refine newP_mk ?_ | refine optP_mk ?_ | with_reducible first | refine condP_t ?_ | refine condP_f ?_ | refine ifP_tt' ?_ | refine ifP_ff' ?_ | refine ifP_tf' ?_ | refine ifP_ft' ?_ | refine ifP_u' ?_ | refine optP_mk0 ?_))
      refine ref13_Work_c hR6 hm6 hC512 hw6 (by omega) (by omega) fun n11 hn11 => ?_
      (repeat (first | refine bindP_mk (by simp (disch := first | omega | exact Int.natCast_nonneg _ | assumption) only [BB, B2, ↓reduceIte, Nat.reduceLeDiff, Nat.reduceAdd, CC] <;> rfl) ?_ | refine newP_mk ?_ | refine optP_mk ?_ | with_reducible first | refine condP_t ?_ | refine condP_f ?_ | refine ifP_tt' ?_ | refine ifP_ff' ?_ | refine ifP_tf' ?_ | refine ifP_ft' ?_ | refine ifP_u' ?_ | refine optP_mk0 ?_))
      -- the counts, from -1 on
      have hj2 : ∀ (e2' : Env) h8 n12, e2' 1 = .string s → e2' 2 = bv → e2' 7 = .bool true → e2' 8 = ptr n2 → e2' 9 = ptr pE → e2' 11 = ptr pR → e2' 43 = .int .i64 N → e2' 44 = .int .i64 k → n6 ≤ n12 → Fr h8 n12 → Sub h6 h8 → law13_ExecPlays_j2 ro Q' e2' h8 n12 := by
        intro e2' h8 n12 u1 u2 u7 u8 u9 u11 u43 u44 hn12 hf8 hs8
        unfold law13_ExecPlays_j2
        rw [u44]
        (repeat (first | refine bindP_mk (by simp (disch := first | omega | exact Int.natCast_nonneg _ | assumption) only [BB, B2, ↓reduceIte, Nat.reduceLeDiff, Nat.reduceAdd, CC] <;> rfl) ?_ | refine newP_mk ?_ | refine optP_mk ?_ | with_reducible first | refine condP_t ?_ | refine condP_f ?_ | refine ifP_tt' ?_ | refine ifP_ff' ?_ | refine ifP_tf' ?_ | refine ifP_ft' ?_ | refine ifP_u' ?_ | refine optP_mk0 ?_))
        exact hq (j - 1) _ _ _ _ (by omega) ⟨k + 1, m3, X6, ps6, by omega, by omega, u1, u2, u7, u8, u9, u11, u43, rfl, hf8.mono (by omega), hs8 _ _ gx6, hE6.subX RI_ok hs8, hR6.subX WJ_ok hs8, hm6, hw6.mono (by omega), by omega⟩ (Sub.refl _)
      refine loopP_rule (fun j' e' h8 nx8 => ∃ (i : Int), i + j' = (d'.counts.length : Int) + 1 ∧ -1 ≤ i ∧ n6 ≤ nx8 ∧ e' 1 = .string s ∧ e' 2 = bv ∧ e' 7 = .bool true ∧ e' 8 = ptr n2 ∧ e' 9 = ptr pE ∧ e' 11 = ptr pR ∧ e' 43 = .int .i64 N ∧ e' 44 = .int .i64 k ∧ e' 14 = .int .i64 i ∧ Fr h8 nx8 ∧ Sub h6 h8) ?_ (n := d'.counts.length + 2)
        ⟨-1, by omega, by omega, by omega, f1, f2, f7, f8, f9, f11, f43, f44, rfl, l2.mono (by omega), Sub.refl _⟩
      rintro j' e' h8 nx8 ⟨i, hj', hi0, hnx8, f1, f2, f7, f8, f9, f11, f43, f44, f14, hf8, hs8⟩ Q2 hq2 hx2
      have gx8 := hs8 _ _ gx6
      unfold law13_ExecPlays_L2
      rw [f8, f9, f11, f14]
      (repeat (first | refine bindP_mk (by simp (disch := first | omega | exact Int.natCast_nonneg _ | assumption) only [BB, B2, ↓reduceIte, Nat.reduceLeDiff, Nat.reduceAdd, CC] <;> rfl) ?_ | refine newP_mk ?_ | refine optP_mk ?_ | with_reducible first | refine condP_t ?_ | refine condP_f ?_ | refine ifP_tt' ?_ | refine ifP_ff' ?_ | refine ifP_tf' ?_ | refine ifP_ft' ?_ | refine ifP_u' ?_ | refine optP_mk0 ?_))
      refine bindP_mk (load1_get gx8 m7) (bindP_mk hcl ?_)
      refine leq_s (fun hi => ?_) (fun hi => ?_)
      · (repeat (first | refine bindP_mk (by simp (disch := first | omega | exact Int.natCast_nonneg _ | assumption) only [BB, B2, ↓reduceIte, Nat.reduceLeDiff, Nat.reduceAdd, CC] <;> rfl) ?_ | refine newP_mk ?_ | refine optP_mk ?_ | with_reducible first | refine condP_t ?_ | refine condP_f ?_ | refine ifP_tt' ?_ | refine ifP_ff' ?_ | refine ifP_tf' ?_ | refine ifP_ft' ?_ | refine ifP_u' ?_ | refine optP_mk0 ?_))
        refine exec_Count_c (hE6.subX RI_ok hs8) hC512 (hf8.mono (by omega)) fun r1 h9 n13 hn13 hf9 hs9 hr1 => ?_
        rw [cntL_er] at hr1
        refine ref13_Count_c (hR6.subX WJ_ok (hs8.trans hs9)) hC512 (hf9.mono (by omega)) fun r2 h10 n14 hn14 hf10 hs10 hr2 => ?_
        have hcl2 : (cntL d' m3 i).length ≤ 1000000 := by
          unfold cntL
          split
          · simp
          · rename_i hni
            rw [List.length_reverse]
            obtain ⟨_, _, _, _, _, _, g4, _⟩ := id hE6
            obtain ⟨q, hq9, hri⟩ := g4.at (c := i) (by omega) (by show i < (d'.counts.length : Int); omega)
            have := hri.len
            have := (RI_ok.L hri).2.2.2
            omega
        refine law13_ints_c hcl2 (hr1.sub hs10) hr2 fun n15 hn15 => ?_
        rw [decide_eq_true rfl]
        (repeat (first | refine bindP_mk (by simp (disch := first | omega | exact Int.natCast_nonneg _ | assumption) only [BB, B2, ↓reduceIte, Nat.reduceLeDiff, Nat.reduceAdd, CC] <;> rfl) ?_ | refine newP_mk ?_ | refine optP_mk ?_ | with_reducible first | refine condP_t ?_ | refine condP_f ?_ | refine ifP_tt' ?_ | refine ifP_ff' ?_ | refine ifP_tf' ?_ | refine ifP_ft' ?_ | refine ifP_u' ?_ | refine optP_mk0 ?_))
        exact hq2 (j' - 1) _ _ _ _ (by omega) ⟨i + 1, by omega, by omega, by omega, f1, f2, f7, f8, f9, f11, f43, f44, rfl, hf10.mono (by omega), (hs8.trans hs9).trans hs10⟩ (Sub.refl _)
      · (repeat (first | refine bindP_mk (by simp (disch := first | omega | exact Int.natCast_nonneg _ | assumption) only [BB, B2, ↓reduceIte, Nat.reduceLeDiff, Nat.reduceAdd, CC] <;> rfl) ?_ | refine newP_mk ?_ | refine optP_mk ?_ | with_reducible first | refine condP_t ?_ | refine condP_f ?_ | refine ifP_tt' ?_ | refine ifP_ff' ?_ | refine ifP_tf' ?_ | refine ifP_ft' ?_ | refine ifP_u' ?_ | refine optP_mk0 ?_))
        refine hx2 _ _ _ _ (fun e => by cases e) (exP_e (beqP_t ?_))
        exact hj2 _ _ _ f1 f2 f7 f8 f9 f11 f43 f44 (by omega) (hf8.mono (by omega)) hs8
    unfold law13_ExecPlays_L1
    rw [e2, e9, e11, e43, e44]
    refine lss_s (fun hk => ?_) (fun hk => ?_)
    · have hk : k < N := by omega
      have hbs := hb.sub (Sub.e' h')
      have hbl := hbs.len
      rw [boolsC_len] at hbl
      (repeat (first | refine bindP_mk (by simp (disch := first | omega | exact Int.natCast_nonneg _ | assumption) only [BB, B2, ↓reduceIte, Nat.reduceLeDiff, Nat.reduceAdd, CC] <;> rfl) ?_ | refine newP_mk ?_ | refine optP_mk ?_ | with_reducible first | refine condP_t ?_ | refine condP_f ?_ | refine ifP_tt' ?_ | refine ifP_ff' ?_ | refine ifP_tf' ?_ | refine ifP_ft' ?_ | refine ifP_u' ?_ | refine optP_mk0 ?_))
      refine bindP_mk hbl ?_
      refine lss_s (fun hkb => ?_) (fun hkb => ?_)
      · have hkb : k < bl.length := by omega
        have bix := hbs.ix .i64 (i := k) (by rw [boolsC_len]; exact hkb)
        have bld := hbs.load1 (boolsC_get hkb)
        (repeat (first | refine bindP_mk (by simp (disch := first | omega | exact Int.natCast_nonneg _ | assumption) only [BB, B2, ↓reduceIte, Nat.reduceLeDiff, Nat.reduceAdd, CC, bix, bld] <;> rfl) ?_ | refine newP_mk ?_ | refine optP_mk ?_ | with_reducible first | refine condP_t ?_ | refine condP_f ?_ | refine ifP_tt' ?_ | refine ifP_ff' ?_ | refine ifP_tf' ?_ | refine ifP_ft' ?_ | refine ifP_u' ?_ | refine optP_mk0 ?_))
        cases hv : bl[k] with
        | true =>
          rw [hv] at bld
          (repeat (first | refine bindP_mk (by simp (disch := first | omega | exact Int.natCast_nonneg _ | assumption) only [BB, B2, ↓reduceIte, Nat.reduceLeDiff, Nat.reduceAdd, CC] <;> rfl) ?_ | refine newP_mk ?_ | refine optP_mk ?_ | with_reducible first | refine condP_t ?_ | refine condP_f ?_ | refine ifP_tt' ?_ | refine ifP_ff' ?_ | refine ifP_tf' ?_ | refine ifP_ft' ?_ | refine ifP_u' ?_ | refine optP_mk0 ?_))
          refine exec_Reset_c hE (MOk_er hm) hC512 (hf'.mono (by omega)) hw (by omega) fun h5 n5 hn5 hf5 hk5 hE5 => ?_
          have hR5 := two_exec hE hR hk5
          have gx5 := hk5 _ _ gx (hE.notin RI_ok gx (by decide) (by decide) (by decide))
          refine ref13_Reset_c hR5 hm hC512 (hf5.mono (by omega)) hw (by omega) fun h6 n6 X6 ps6 hL6 => ?_
          have hE6 := two_ref hE5 hR5 hL6
          have gx6 := hL6.2.2.1 _ _ gx5 (hR5.notin WJ_ok gx5 (by decide) (by decide) (by decide))
          obtain ⟨l1, l2, l3, l4, l5, l6, hR6⟩ := hL6
          exact hj3 _ _ _ (resetM m) X6 ps6 e1 e2 e7 e8 e9 e11 e43 e44 rfl hk (by omega) l2 gx6 hE6 hR6 (reset_ok hok hm) (reset_w hw) hst
        | false =>
          (repeat (first | refine bindP_mk (by simp (disch := first | omega | exact Int.natCast_nonneg _ | assumption) only [BB, B2, ↓reduceIte, Nat.reduceLeDiff, Nat.reduceAdd, CC] <;> rfl) ?_ | refine newP_mk ?_ | refine optP_mk ?_ | with_reducible first | refine condP_t ?_ | refine condP_f ?_ | refine ifP_tt' ?_ | refine ifP_ff' ?_ | refine ifP_tf' ?_ | refine ifP_ft' ?_ | refine ifP_u' ?_ | refine optP_mk0 ?_))
          exact hj3 _ _ _ m X psR' e1 e2 e7 e8 e9 e11 e43 e44 rfl hk (by omega) (hf'.mono (by omega)) gx hE hR hm (hw.mono (by omega)) hst
      · (repeat (first | refine bindP_mk (by simp (disch := first | omega | exact Int.natCast_nonneg _ | assumption) only [BB, B2, ↓reduceIte, Nat.reduceLeDiff, Nat.reduceAdd, CC] <;> rfl) ?_ | refine newP_mk ?_ | refine optP_mk ?_ | with_reducible first | refine condP_t ?_ | refine condP_f ?_ | refine ifP_tt' ?_ | refine ifP_ff' ?_ | refine ifP_tf' ?_ | refine ifP_ft' ?_ | refine ifP_u' ?_ | refine optP_mk0 ?_))
        exact hj3 _ _ _ m X psR' e1 e2 e7 e8 e9 e11 e43 e44 rfl hk (by omega) (hf'.mono (by omega)) gx hE hR hm (hw.mono (by omega)) hst
    · (repeat (first | refine bindP_mk (by simp (disch := first | omega | exact Int.natCast_nonneg _ | assumption) only [BB, B2, ↓reduceIte, Nat.reduceLeDiff, Nat.reduceAdd, CC] <;> rfl) ?_ | refine newP_mk ?_ | refine optP_mk ?_ | with_reducible first | refine condP_t ?_ | refine condP_f ?_ | refine ifP_tt' ?_ | refine ifP_ff' ?_ | refine ifP_tf' ?_ | refine ifP_ft' ?_ | refine ifP_u' ?_ | refine optP_mk0 ?_))
      refine hx _ _ _ _ (fun e => by cases e) (exP_e (beqP_t ?_))
      have hend : ∀ (e' : Env) n', e' 7 = .bool true → nx ≤ n' → law13_ExecPlays_j1 ro K e' h' n' := by
        intro e' n' f7 hn
        unfold law13_ExecPlays_j1
        rw [f7]
        exact ⟨h', Sub.refl _, hK _ _ (by omega)⟩
      exact hend _ _ e7 (by omega)
end
end V
end Go.Proofs.YtjndkdmkecpllaaGreat
set_option linter.unusedVariables false
set_option linter.unusedSimpArgs false
set_option maxRecDepth 8000
namespace Go.Proofs.YtjndkdmkecpllaaGreat
namespace V
open Go.ChangeShapes Go.WideShapes Go.ChangeAt Go.RowKit Go.Deep
set_option maxRecDepth 8000
section
variable {H : Type} {enc : TypeId × Value → H} {W : World}
def fieldsOf (P : Program) (t : TypeId) : Option (List (Nat × TypeId)) := match und P t with
  | some (.struct fs) => some (fs.toList.map fun f => (f.offset, f.type))
  | _ => none
theorem trod_fields {t : TypeId} {L : List (Nat × TypeId)} (hL : fieldsOf Tryz.prog t = some L) {fuel : Nat} {cs : List Value} {x : DataW H × List MemPlace} (h : DataW.trod enc Tryz.prog W 0 (fun _ => true) true fuel t cs = some x) :
    cs.length = Tryz.prog.cellsOf t ∧ ∃ n, ∀ (i o : Nat) (ty : TypeId), L[i]? = some (o, ty) → ∃ y, DataW.trod enc Tryz.prog W 0 (fun _ => true) true n ty ((cs.drop o).take (Tryz.prog.cellsOf ty)) = some y := by
  unfold fieldsOf at hL
  split at hL
  · rename_i fs hu
    cases hL
    obtain ⟨xs, n, _, _, hlen, hxs, hf⟩ := DataW.trod_struct (und_under hu) h
    refine ⟨hlen, n, fun i o ty hi => ?_⟩
    rw [List.getElem?_map] at hi
    cases hq : fs.toList[i]? with
    | none => rw [hq] at hi; cases hi
    | some f =>
      rw [hq] at hi
      cases hi
      have hfs : fs[i]? = some f := by simpa using hq
      have hil := (List.getElem?_eq_some_iff.1 hq).1
      have hx : xs[i]? = some (xs[i]'(by rw [hxs]; simpa using hil)) := List.getElem?_eq_getElem _
      exact ⟨_, by rw [hf i f hfs, hx]⟩
  · cases hL
theorem okWide_agg {t : TypeId} {L : List (Nat × TypeId)} (hL : fieldsOf Tryz.prog t = some L) {v : Value} {base : Nat} (hval : Value.okWide Tryz.prog W .any base t v) : ∃ cs, v = .agg cs := by
  unfold fieldsOf at hL
  split at hL
  · rename_i fs hu
    unfold Value.okWide at hval
    rw [und_under hu] at hval
    obtain ⟨cs, e, _⟩ := hval
    exact ⟨cs, e⟩
  · cases hL
theorem int_cell {n : Nat} {cs : List Value} {y : DataW H × List MemPlace} (h : DataW.trod enc Tryz.prog W 0 (fun _ => true) true n y_int cs = some y) : ∃ a : Int, cs = [.int .i64 a] := by
  have hu : Tryz.prog.underlying y_int = some (.int .i64) := by kernel_rfl
  obtain ⟨a, rfl, _⟩ := DataW.trod_int hu h
  exact ⟨a, rfl⟩
theorem bool_cell {n : Nat} {cs : List Value} {y : DataW H × List MemPlace} (h : DataW.trod enc Tryz.prog W 0 (fun _ => true) true n y_bool cs = some y) : ∃ a : Bool, cs = [.bool a] := by
  have hu : Tryz.prog.underlying y_bool = some .bool := by kernel_rfl
  obtain ⟨a, rfl, _⟩ := DataW.trod_bool hu h
  exact ⟨a, rfl⟩
theorem u8_cell {n : Nat} {cs : List Value} {y : DataW H × List MemPlace} (h : DataW.trod enc Tryz.prog W 0 (fun _ => true) true n y_uint8 cs = some y) : ∃ a : Nat, cs = [.int .u8 (a : Int)] ∧ a < 256 := by
  have hu : Tryz.prog.underlying y_uint8 = some (.int .u8) := by kernel_rfl
  obtain ⟨a, rfl, _, hw⟩ := DataW.trod_int hu h
  have := wf_u8 hw
  exact ⟨a.toNat, by rw [Int.toNat_of_nonneg this.1], by omega⟩
theorem norm_len {N : Nat} {v v' : Value} {o : Option Addr} {l c : Nat} (hv : v = .slice o l c) (h : norm N v = some v') : lenSl v' = some (.int .i64 l) := by
  subst hv
  unfold norm at h
  split at h
  · rename_i h1
    cases h
    cases h1
    rfl
  · rename_i h1
    cases h1
    split at h
    · cases h; rfl
    · cases h
  · rename_i h1; cases h1
  · split at h
    · cases h; rfl
    · cases h
theorem open_slB {D : Type} {t e : TypeId} {z : Nat} {R : List Value → D → Prop} (ht : Tryz.prog.underlying t = some (.slice e)) (hz : Tryz.prog.cellsOf e = z) (hz0 : 0 < z) {fuel : Nat} {cs : List Value} {x : DataW H × List MemPlace} (h : DataW.trod enc Tryz.prog W 0 (fun _ => true) true fuel t cs = some x)
    (hel : ∀ n cs' y, DataW.trod enc Tryz.prog W 0 (fun _ => true) true n e cs' = some y → ∃ cs'', normL W.heap.size cs' = some cs'' ∧ ∃ d, R cs'' d) : ∃ v v' l, cs = [v] ∧ norm W.heap.size v = some v' ∧ SlR (roOf W) .e v' z R l ∧ l.length ≤ maxB := by
  obtain ⟨v, v', hv, hn, l, hl, hall⟩ := open_sl ht hz hz0 h (El := fun x => ∃ d, R x d) hel
  have hbound : l.length ≤ maxB := by
    have hlen := hl.len
    rcases open_slice ht h with ⟨h1, _⟩ | ⟨a, len, cap, m, n, D, Pl, h1, _, hle, hm, _⟩
    · rw [hv] at h1
      have h2 := norm_len (List.cons.inj h1).1 hn
      rw [hlen] at h2
      simp only [Option.some.injEq, Value.int.injEq, true_and] at h2
      have : l.length = 0 := by omega
      rw [this]; unfold maxB; omega
    · rw [hv] at h1
      have h2 := norm_len (List.cons.inj h1).1 hn
      rw [hlen] at h2
      simp only [Option.some.injEq, Value.int.injEq, true_and] at h2
      unfold maxLen at hm
      unfold maxB
      omega
  refine ⟨v, v', ?_⟩
  have e : ∃ ds : List D, l.length = ds.length ∧ ∀ (i : Nat) x d, l[i]? = some x → ds[i]? = some d → R x d := by
    clear hl hbound
    induction l with
    | nil => exact ⟨[], rfl, fun i x d hx => by simp at hx⟩
    | cons x l ih =>
      obtain ⟨ds, h1, h2⟩ := ih fun y hy => hall y (by simp [hy])
      obtain ⟨d, hd⟩ := hall x (by simp)
      refine ⟨d :: ds, by simp [h1], fun i x' d' hx hd' => ?_⟩
      cases i with
      | zero => simp at hx hd'; subst hx; subst hd'; exact hd
      | succ i => exact h2 i x' d' (by simpa using hx) (by simpa using hd')
  obtain ⟨ds, h1, h2⟩ := e
  exact ⟨ds, hv, hn, ⟨l, hl, h1, h2⟩, by rw [← h1]; exact hbound⟩
theorem ints_cellB {n : Nat} {cs : List Value} {y : DataW H × List MemPlace} (h : DataW.trod enc Tryz.prog W 0 (fun _ => true) true n y_s_int cs = some y) : ∃ v v' l, cs = [v] ∧ norm W.heap.size v = some v' ∧ ZI (roOf W) .e v' l ∧ l.length ≤ maxB := by
  have hu : Tryz.prog.underlying y_s_int = some (.slice y_int) := by kernel_rfl
  have hc : Tryz.prog.cellsOf y_int = 1 := by kernel_rfl
  obtain ⟨v, v', l, hv, hn, ⟨cs, h1, h2, h3⟩, hb⟩ := open_slB (R := fun x (a : Int) => x = [Value.int .i64 a]) hu hc (by omega) h fun n cs' y hy => by
    obtain ⟨a, rfl⟩ := int_cell hy
    exact ⟨_, rfl, a, rfl⟩
  refine ⟨v, v', l, hv, hn, ?_, hb⟩
  have e : cs = intsZ l := by
    refine List.ext_getElem? fun i => ?_
    unfold intsZ
    rw [List.getElem?_map]
    cases hi : l[i]? with
    | none =>
      have := List.getElem?_eq_none_iff.1 hi
      rw [List.getElem?_eq_none (by omega)]; rfl
    | some a =>
      have hil := (List.getElem?_eq_some_iff.1 hi).1
      have hx : cs[i]? = some (cs[i]'(by omega)) := List.getElem?_eq_getElem (by omega)
      rw [hx, h3 i _ a hx hi]; rfl
  unfold ZI
  rw [← e]; exact h1
theorem one_norm {W : World} {v v' : Value} (hn : norm W.heap.size v = some v') : normL W.heap.size [v] = some [v'] := by
  simp only [normL, hn]; rfl
theorem ops_cells {n : Nat} {cs : List Value} {y : DataW H × List MemPlace} (h : DataW.trod enc Tryz.prog W 0 (fun _ => true) true n y_s_uint8 cs = some y) : ∃ v v' l, cs = [v] ∧ norm W.heap.size v = some v' ∧ SlR (roOf W) .e v' 1 RU8 l ∧ l.length ≤ maxB := by
  have hu : Tryz.prog.underlying y_s_uint8 = some (.slice y_uint8) := by kernel_rfl
  have hc : Tryz.prog.cellsOf y_uint8 = 1 := by kernel_rfl
  exact open_slB hu hc (by omega) h fun n cs' y hy => by
    obtain ⟨a, rfl, ha⟩ := u8_cell hy
    exact ⟨_, rfl, a, rfl, ha⟩
theorem move_cells {n : Nat} {cs : List Value} {y : DataW H × List MemPlace} (h : DataW.trod enc Tryz.prog W 0 (fun _ => true) true n y_api_Move cs = some y) : ∃ cs'', normL W.heap.size cs = some cs'' ∧ ∃ d, RMove (roOf W) .e cs'' d := by
  have hL : fieldsOf Tryz.prog y_api_Move = some [(0, y_int), (1, y_s_uint8)] := by kernel_rfl
  have c0 : Tryz.prog.cellsOf y_api_Move = 2 := by kernel_rfl
  have c2 : Tryz.prog.cellsOf y_int = 1 := by kernel_rfl
  have c4 : Tryz.prog.cellsOf y_s_uint8 = 1 := by kernel_rfl
  obtain ⟨hlen, m, hf⟩ := trod_fields hL h
  obtain ⟨_, f0⟩ := hf 0 _ _ rfl
  obtain ⟨_, f1⟩ := hf 1 _ _ rfl
  rw [c0] at hlen
  rw [c2] at f0
  rw [c4] at f1
  obtain ⟨p, g0⟩ := int_cell f0
  obtain ⟨v, v', l, g1, hn, hz, hb⟩ := ops_cells f1
  match cs, hlen with
  | [a0, a1], _ =>
    simp at g0 g1
    subst g0 g1
    refine ⟨[.int .i64 p, v'], ?_, ⟨p, l⟩, v', rfl, hz, hb⟩
    simp only [normL, hn]; rfl
theorem row_cells {n : Nat} {cs : List Value} {y : DataW H × List MemPlace} (h : DataW.trod enc Tryz.prog W 0 (fun _ => true) true n y_s_api_Move cs = some y) : ∃ cs'', normL W.heap.size cs = some cs'' ∧ ∃ d, RRow (roOf W) .e cs'' d := by
  have hu : Tryz.prog.underlying y_s_api_Move = some (.slice y_api_Move) := by kernel_rfl
  have hc : Tryz.prog.cellsOf y_api_Move = 2 := by kernel_rfl
  obtain ⟨v, v', l, rfl, hn, hl, hb⟩ := open_slB hu hc (by omega) h fun n cs' y hy => move_cells hy
  exact ⟨[v'], one_norm hn, l, v', rfl, hl, hb⟩
theorem rows_cells {n : Nat} {cs : List Value} {y : DataW H × List MemPlace} (h : DataW.trod enc Tryz.prog W 0 (fun _ => true) true n y_s_s_api_Move cs = some y) : ∃ v v' l, cs = [v] ∧ norm W.heap.size v = some v' ∧ SlR (roOf W) .e v' 1 (RRow (roOf W) .e) l ∧ l.length ≤ maxB := by
  have hu : Tryz.prog.underlying y_s_s_api_Move = some (.slice y_s_api_Move) := by kernel_rfl
  have hc : Tryz.prog.cellsOf y_s_api_Move = 1 := by kernel_rfl
  exact open_slB hu hc (by omega) h fun n cs' y hy => row_cells hy
theorem state_cells {n : Nat} {cs : List Value} {y : DataW H × List MemPlace} (h : DataW.trod enc Tryz.prog W 0 (fun _ => true) true n y_api_State cs = some y) : ∃ cs'', normL W.heap.size cs = some cs'' ∧ ∃ d, RState (roOf W) .e cs'' d := by
  have hL : fieldsOf Tryz.prog y_api_State = some [(0, y_s_int), (1, y_s_int), (2, y_s_int), (3, y_s_s_api_Move)] := by kernel_rfl
  have c0 : Tryz.prog.cellsOf y_api_State = 4 := by kernel_rfl
  have c2 : Tryz.prog.cellsOf y_s_int = 1 := by kernel_rfl
  have c4 : Tryz.prog.cellsOf y_s_s_api_Move = 1 := by kernel_rfl
  obtain ⟨hlen, m, hf⟩ := trod_fields hL h
  obtain ⟨_, f0⟩ := hf 0 _ _ rfl
  obtain ⟨_, f1⟩ := hf 1 _ _ rfl
  obtain ⟨_, f2⟩ := hf 2 _ _ rfl
  obtain ⟨_, f3⟩ := hf 3 _ _ rfl
  rw [c0] at hlen
  rw [c2] at f0 f1 f2
  rw [c4] at f3
  obtain ⟨v0, w0, l0, g0, n0, z0, b0⟩ := ints_cellB f0
  obtain ⟨v1, w1, l1, g1, n1, z1, b1⟩ := ints_cellB f1
  obtain ⟨v2, w2, l2, g2, n2, z2, b2⟩ := ints_cellB f2
  obtain ⟨v3, w3, l3, g3, n3, z3, b3⟩ := rows_cells f3
  match cs, hlen with
  | [a0, a1, a2, a3], _ =>
    simp at g0 g1 g2 g3
    subst g0 g1 g2 g3
    refine ⟨[w0, w1, w2, w3], ?_, ⟨l0, l1, l2, l3⟩, w0, w1, w2, w3, rfl, z0, z1, z2, z3, b1⟩
    simp only [normL, n0, n1, n2, n3]; rfl
theorem count_cells {n : Nat} {cs : List Value} {y : DataW H × List MemPlace} (h : DataW.trod enc Tryz.prog W 0 (fun _ => true) true n y_a2_int cs = some y) : ∃ cs'', normL W.heap.size cs = some cs'' ∧ ∃ d, RCount cs'' d := by
  have hu : Tryz.prog.underlying y_a2_int = some (.array 2 y_int) := by kernel_rfl
  have hc : Tryz.prog.cellsOf y_a2_int = 2 := by kernel_rfl
  have hc1 : Tryz.prog.cellsOf y_int = 1 := by kernel_rfl
  obtain ⟨xs, m, _, _, hlen, hxs, hel⟩ := DataW.trod_array hu h
  rw [hc] at hlen
  have el : ∀ i, i < 2 → ∃ a : Int, (cs.drop i).take 1 = [.int .i64 a] := by
    intro i hi
    have := hel i hi
    rw [hc1, Nat.mul_one] at this
    have hx : xs[i]? = some xs[i] := List.getElem?_eq_getElem (by omega)
    rw [hx] at this
    exact int_cell this
  match cs, hlen with
  | [a0, a1], _ =>
    obtain ⟨x0, g0⟩ := el 0 (by omega)
    obtain ⟨x1, g1⟩ := el 1 (by omega)
    simp at g0 g1
    subst g0 g1
    exact ⟨_, rfl, (x0, x1), rfl⟩
theorem split_cells {n : Nat} {cs : List Value} {y : DataW H × List MemPlace} (h : DataW.trod enc Tryz.prog W 0 (fun _ => true) true n y_api_Split cs = some y) : ∃ (c : List Nat) (k : Int), c.length = 256 ∧ (∀ x ∈ c, x < 256) ∧ cs = splitLI c k := by
  have hL : fieldsOf Tryz.prog y_api_Split = some [(0, y_a256_uint8), (256, y_int)] := by kernel_rfl
  have c0 : Tryz.prog.cellsOf y_api_Split = 257 := by kernel_rfl
  have c2 : Tryz.prog.cellsOf y_a256_uint8 = 256 := by kernel_rfl
  have c4 : Tryz.prog.cellsOf y_int = 1 := by kernel_rfl
  have hc8 : Tryz.prog.cellsOf y_uint8 = 1 := by kernel_rfl
  have hua : Tryz.prog.underlying y_a256_uint8 = some (.array 256 y_uint8) := by kernel_rfl
  obtain ⟨hlen, m, hf⟩ := trod_fields hL h
  obtain ⟨_, f0⟩ := hf 0 _ _ rfl
  obtain ⟨_, f1⟩ := hf 1 _ _ rfl
  rw [c0] at hlen
  rw [c2, List.drop_zero] at f0
  rw [c4] at f1
  obtain ⟨k, hk⟩ := int_cell f1
  obtain ⟨xs, m, _, _, hl0, hxs, hel⟩ := DataW.trod_array hua f0
  have el : ∀ i, i < 256 → ∃ a : Nat, cs[i]? = some (.int .u8 (a : Int)) ∧ a < 256 := by
    intro i hi
    have h1 := hel i hi
    rw [hc8, Nat.mul_one, List.drop_take, List.take_take] at h1
    have hx : xs[i]? = some xs[i] := List.getElem?_eq_getElem (by omega)
    rw [hx, show min 1 (256 - i) = 1 by omega] at h1
    obtain ⟨a, h2, h3⟩ := u8_cell h1
    refine ⟨a, ?_, h3⟩
    have h4 : ((cs.drop i).take 1)[0]? = some (.int .u8 (a : Int)) := by rw [h2]; rfl
    rw [List.getElem?_take] at h4
    simpa using h4
  have key : ∀ i, i ≤ 256 → ∃ c : List Nat, c.length = i ∧ (∀ x ∈ c, x < 256) ∧ cs.take i = u8s c := by
    intro i
    induction i with
    | zero => intro _; exact ⟨[], rfl, by simp, by simp [u8s]⟩
    | succ i ih =>
      intro hi
      obtain ⟨c, c1, c2, c3⟩ := ih (by omega)
      obtain ⟨a, h1, h2⟩ := el i (by omega)
      refine ⟨c ++ [a], by simp [c1], ?_, ?_⟩
      · intro x hx
        rcases List.mem_append.1 hx with h | h
        · exact c2 x h
        · simp at h; omega
      · have hil : i < cs.length := by omega
        rw [List.getElem?_eq_getElem hil] at h1
        rw [List.take_succ_eq_append_getElem hil, Option.some.inj h1, c3]
        simp [u8s]
  obtain ⟨c, c1, c2, c3⟩ := key 256 (Nat.le_refl _)
  refine ⟨c, k, c1, c2, ?_⟩
  unfold splitLI
  rw [← List.take_append_drop 256 cs, c3]
  congr 1
  rw [← hk, List.take_of_length_le (by rw [List.length_drop]; omega)]
theorem normL_split {N : Nat} (k : Int) {v w v' w' : Value} (h1 : norm N v = some v') (h2 : norm N w = some w') : ∀ c : List Nat, normL N (autL c k v w) = some (autL c k v' w')
  | [] => by
    show normL N [.int .i64 k, v, w] = some [.int .i64 k, v', w']
    simp only [normL, h1, h2]; rfl
  | a :: c => by
    have e : ∀ x y, autL (a :: c) k x y = .int .u8 (a : Int) :: autL c k x y := fun _ _ => rfl
    rw [e, e]
    simp only [normL, normL_split k h1 h2 c]; rfl
theorem open_auto {v : Value} {d : DataW H} {p : List MemPlace} (h : DataW.Trod enc Tryz.prog W 0 (fun _ => true) true y_api_Auto v d p) {base : Nat} (hval : Value.okWide Tryz.prog W .any base y_api_Auto v) : ∃ x a, Arg W.heap.size (.agg x.toArray) v ∧ RAuto (roOf W) .e x a := by
  have hL : fieldsOf Tryz.prog y_api_Auto = some [(0, y_api_Split), (257, y_s_a2_int), (258, y_s_api_State)] := by kernel_rfl
  have c0 : Tryz.prog.cellsOf y_api_Auto = 259 := by kernel_rfl
  have c2 : Tryz.prog.cellsOf y_api_Split = 257 := by kernel_rfl
  have c4 : Tryz.prog.cellsOf y_s_a2_int = 1 := by kernel_rfl
  have c5 : Tryz.prog.cellsOf y_s_api_State = 1 := by kernel_rfl
  have hu1 : Tryz.prog.underlying y_s_a2_int = some (.slice y_a2_int) := by kernel_rfl
  have hu2 : Tryz.prog.underlying y_s_api_State = some (.slice y_api_State) := by kernel_rfl
  have hc1 : Tryz.prog.cellsOf y_a2_int = 2 := by kernel_rfl
  have hc2 : Tryz.prog.cellsOf y_api_State = 4 := by kernel_rfl
  obtain ⟨cs, rfl⟩ := okWide_agg hL hval
  obtain ⟨fuel, hf⟩ := h
  have ecs : (Value.agg cs).cells.toList = cs.toList := rfl
  rw [ecs] at hf
  obtain ⟨hlen, m, hf⟩ := trod_fields hL hf
  obtain ⟨_, f0⟩ := hf 0 _ _ rfl
  obtain ⟨_, f1⟩ := hf 1 _ _ rfl
  obtain ⟨_, f2⟩ := hf 2 _ _ rfl
  rw [c0] at hlen
  rw [c2, List.drop_zero] at f0
  rw [c4] at f1
  rw [c5] at f2
  obtain ⟨c, k, hc, hcl, g0⟩ := split_cells f0
  obtain ⟨v, v', C, g1, n1, z1, b1⟩ := open_slB hu1 hc1 (by omega) f1 fun n cs' y hy => count_cells hy
  obtain ⟨w, w', S, g2, n2, z2, b2⟩ := open_slB hu2 hc2 (by omega) f2 fun n cs' y hy => state_cells hy
  have hcs : cs.toList = autL c k v w := by
    unfold autL
    rw [← List.take_append_drop 257 cs.toList, g0]
    congr 1
    have h1 : cs.toList.drop 257 = (cs.toList.drop 257).take 1 ++ (cs.toList.drop 257).drop 1 := (List.take_append_drop 1 _).symm
    rw [h1, g1, List.drop_drop, ← List.take_of_length_le (i := 1) (l := cs.toList.drop (257 + 1)) (by rw [List.length_drop]; omega)]
    show [v] ++ (cs.toList.drop 258).take 1 = _
    rw [g2]; rfl
  refine ⟨autL c k v' w', ⟨c, k, C, S⟩, .agg ?_, v', w', rfl, hc, hcl, z1, z2, b1, b2⟩
  rw [hcs]
  exact normL_split k n1 n2 c
end
section
variable {H : Type} {enc : TypeId × Value → H} {W : World}
theorem norm_bool (N : Nat) (a : Bool) : normL N [.bool a] = some [.bool a] := rfl
theorem open_bools {v : Value} {d : DataW H} {p : List MemPlace} (h : DataW.Trod enc Tryz.prog W 0 (fun _ => true) true y_s_bool v d p) {base : Nat} (hval : Value.okWide Tryz.prog W .any base y_s_bool v) : ∃ v' l, Arg W.heap.size v' v ∧ Sl (roOf W) .e v' 1 (boolsC l) := by
  have hu : Tryz.prog.underlying y_s_bool = some (.slice y_bool) := by kernel_rfl
  have hc : Tryz.prog.cellsOf y_bool = 1 := by kernel_rfl
  obtain ⟨fuel, hf⟩ := h
  obtain ⟨v1, v', hv, hn, l, hl, hall⟩ := open_sl hu hc (by omega) hf (El := fun x => ∃ m : Bool, x = [.bool m]) (fun n cs' y hy => by
    obtain ⟨m, rfl⟩ := bool_cell hy
    exact ⟨_, norm_bool _ _, m, rfl⟩)
  have e : ∃ ms : List Bool, l = boolsC ms := by
    clear hl
    induction l with
    | nil => exact ⟨[], rfl⟩
    | cons x l ih =>
      obtain ⟨ms, h1⟩ := ih fun y hy => hall y (by simp [hy])
      obtain ⟨m, rfl⟩ := hall x (by simp)
      exact ⟨m :: ms, by simp [boolsC, h1]⟩
  obtain ⟨ms, rfl⟩ := e
  have hvv : v.cells.toList = [v1] := hv
  have hv1 : v = v1 := by
    obtain ⟨a, len, cap, rfl⟩ := okWide_slice hu hval
    simpa [Value.cells] using hvv
  subst hv1
  exact ⟨v', ms, .one hn, hl⟩
end
end V
end Go.Proofs.YtjndkdmkecpllaaGreat
set_option linter.unusedVariables false
set_option linter.unusedSimpArgs false
set_option maxRecDepth 16000
namespace Go.Proofs.YtjndkdmkecpllaaGreat
namespace V
open Go.ChangeShapes Go.WideShapes Go.ChangeAt Go.RowKit
theorem execPlays_lifted (os : Os) (started : os.Started) (H : Type) (enc : TypeId × Value → H) :
    ReturnsInHanded {} Tryz.checked os 8 .any (Rows.execPlaysSpec.pre6 enc Tryz.prog Tryz.f8 Rows.execPlaysRow.domain false) (Rows.execPlaysSpec.post enc Tryz.prog Tryz.f8 false true false false) := by
  refine returnsInHanded_of_change_sized (C := Tryz.checked) okOwn started (by kernel_rfl) (by kernel_rfl)
    (ChangeSpec.witness6 (enc := enc) (C := Tryz.checked) false ⟨#[], #[.agg (List.replicate 256 (Value.int .u8 0) ++ [Value.int .i64 0, .slice none 0 0, .slice none 0 0]).toArray, .string .empty, .slice none 0 0], []⟩ 8 (by kernel_rfl) (by kernel_rfl) (by kernel_rfl) (by kernel_rfl)) ?_
  intro W base args ds gs before hval hW _ _ _
  have hW' := hW
  obtain ⟨p, q, hA0, hV, rfl, hfz, hnd⟩ := hW
  have hA : DataW.TrodAll enc Tryz.prog W 0 (fun _ => true) true [y_api_Auto, y_string, y_s_bool] args.toList ds p := hA0
  obtain ⟨v0, v1, v2, d0, d1, d2, p0, p1, p2, rfl, rfl, rfl, h0, h1, h2⟩ := trodAll_three hA
  obtain ⟨rfl, rfl⟩ := trodVars_none hV
  obtain ⟨w0, d0, a0, hd0⟩ := open_auto h0 (hval 0 y_api_Auto v0 rfl rfl)
  obtain ⟨s1, a1⟩ := open_str h1 (hval 1 y_string v1 rfl rfl)
  obtain ⟨w2, l2, a2, hl2⟩ := open_bools h2 (hval 2 y_s_bool v2 rfl rfl)
  have hsay : Says Tryz.prog W 8 [.agg w0.toArray, .string s1, w2] := law13_ExecPlays_c Fr.e hd0 hl2 fun _ _ _ => rfl
  refine (says_calls okZ okN okM (args := #[v0, v1, v2]) (.cons a0 (.cons a1 (.cons a2 .nil))) hsay).mono fun e W' ⟨he, hb⟩ => ?_
  subst he
  exact ⟨_, rfl, law_post (tb := y_bool) okLaid (by kernel_rfl) (by kernel_rfl) (by kernel_rfl) rfl hW' hb rfl⟩
end V
theorem execPlays_holds : Rows.ExecPlaysSaid :=
  OpenClaim.holds_of_wide 8 Tryz.f8 rfl rfl rfl rfl rfl rfl rfl ⟨rfl, rfl, rfl, rfl, rfl⟩ rfl rfl rfl rfl rfl (by kernel_rfl) (by kernel_rfl) (by kernel_rfl)
    (of_decide_eq_true (by kernel_rfl)) (by unfold Func.isWrapper; rw [if_neg (of_decide_eq_false (by kernel_rfl))]; exact ⟨rfl, rfl⟩)
    (fun os started H enc _ => V.execPlays_lifted os started H enc)
end Go.Proofs.YtjndkdmkecpllaaGreat