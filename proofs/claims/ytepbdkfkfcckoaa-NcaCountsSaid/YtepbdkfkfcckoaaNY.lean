/- The law NcaCounts as the machine runs it.
   No condition. -/
import Derived.Test.YtepbdkfkfcckoaaN4
set_option linter.unusedVariables false
set_option linter.unusedSimpArgs false
namespace Go.Proofs.Ytepbdkfkfcckoaa
namespace V
open PA
attribute [local irreducible] bindP ifP condP newP optP exP beqP
/-! ### Plain -/
def onePos (a b : Int) : PosD := ⟨2, a, b, 0, true, []⟩
def gOne (a b : Int) : GlD := ⟨[0], [onePos a b]⟩
/-- Behind so many bytes. -/
def cOne (b : Int) (i : Nat) : CfgD := if i = 0 then startD else if (i : Int) ≤ b then ⟨false, [⟨0, [(i : Int)]⟩]⟩ else ⟨false, []⟩
theorem one_right {a b : Int} (h1 : 1 ≤ a) (h2 : a ≤ b) (h3 : b ≤ 4096) : rightD (gOne a b) = true := by
  simp [rightD, gOne, onePos, mayD, rz, h1, h2, h3]
theorem one_fits {a b : Int} (i : Nat) (hb : 1 ≤ b) : fitsD (gOne a b) (cOne b i) = true := by
  unfold cOne
  by_cases h0 : i = 0
  · rw [if_pos h0]; rfl
  · rw [if_neg h0]
    by_cases h1 : (i : Int) ≤ b
    · rw [if_pos h1]
      simp [fitsD, fitsL, gOne, GlD.at, onePos, rz]
      omega
    · rw [if_neg h1]; rfl
theorem one_step {a b : Int} (i : Nat) (hb : 1 ≤ b) : stepD (gOne a b) (cOne b i) 1 = cOne b (i + 1) := by
  have hh : hasD (gOne a b) 1 0 = true := by show Nat.testBit 2 1 = true; decide
  have hs : stepL (gOne a b) (cOne b i) 1 = heldOf 0 (cntD (gOne a b) (cOne b i) 1 0) := by
    unfold stepL
    show (List.range 1).flatMap _ = _
    simp [List.range_succ]
  unfold stepD
  rw [hs]
  unfold cntD
  rw [if_pos hh]
  by_cases h0 : i = 0
  · subst h0
    have : cOne b 1 = ⟨false, [⟨0, [1]⟩]⟩ := by unfold cOne; rw [if_neg (by decide), if_pos (by simpa using hb)]; rfl
    rw [this]; rfl
  · have hc : cOne b (i + 1) = if (i : Int) < b then ⟨false, [⟨0, [(i : Int) + 1]⟩]⟩ else ⟨false, []⟩ := by
      unfold cOne
      rw [if_neg (by omega)]
      by_cases h : (i : Int) < b
      · rw [if_pos (by omega), if_pos h]; simp
      · rw [if_neg (by omega), if_neg h]
    rw [hc]
    by_cases h1 : (i : Int) ≤ b
    · have e : cOne b i = ⟨false, [⟨0, [(i : Int)]⟩]⟩ := by unfold cOne; rw [if_neg h0, if_pos h1]
      rw [e]
      have en : entersD (gOne a b) ⟨false, [⟨0, [(i : Int)]⟩]⟩ 0 = false := by simp [entersD, gOne, GlD.at, onePos]
      have es : staysL (gOne a b) 0 [⟨0, [(i : Int)]⟩] = if (i : Int) < b then [(i : Int) + 1] else [] := by
        simp only [staysL, List.flatMap_cons, List.flatMap_nil, List.append_nil]
        simp only [if_true]
        show upD b [(i : Int)] = _
        unfold upD
        by_cases h : (i : Int) < b
        · rw [if_pos h, List.filter_cons_of_pos (by simpa using h)]; rfl
        · rw [if_neg h, List.filter_cons_of_neg (by simpa using h)]; rfl
      rw [en, es]
      by_cases h : (i : Int) < b
      · rw [if_pos h, if_pos h]; rfl
      · rw [if_neg h, if_neg h]; rfl
    · have e : cOne b i = ⟨false, []⟩ := by unfold cOne; rw [if_neg h0, if_neg h1]
      rw [e, if_neg (show ¬ (i : Int) < b by omega)]; rfl
theorem one_rule {a b : Int} (i : Nat) (h0 : i ≠ 0) : ruleD (gOne a b) (cOne b i) = if a ≤ i ∧ (i : Int) ≤ b then 0 else -1 := by
  unfold cOne
  rw [if_neg h0]
  by_cases h1 : (i : Int) ≤ b
  · rw [if_pos h1]
    show rul (gOne a b) (-1) [⟨0, [(i : Int)]⟩] = _
    have hnil : ∀ z, rul (gOne a b) z [] = z := fun z => rfl
    have hl : (GlD.at (gOne a b) 0) = onePos a b := rfl
    rw [rul_cons, hl]
    have hr : ripeD (gOne a b) ⟨0, [(i : Int)]⟩ = decide (a ≤ i) := rfl
    rw [hr]
    by_cases h2 : a ≤ (i : Int)
    · have hcnd : ((onePos a b).last && (decide (a ≤ (i : Int)) && (decide ((-1 : Int) < 0) || decide ((onePos a b).rule < -1)))) = true := by simp [onePos, h2]
      have hcnd2 : a ≤ (i : Int) ∧ (i : Int) ≤ b := ⟨h2, h1⟩
      simp only [hcnd, hcnd2, if_true, and_self]; rfl
    · have hcnd : ((onePos a b).last && (decide (a ≤ (i : Int)) && (decide ((-1 : Int) < 0) || decide ((onePos a b).rule < -1)))) = false := by simp [onePos, h2]
      rw [hcnd, if_neg (fun h : a ≤ (i : Int) ∧ (i : Int) ≤ b => h2 h.1)]; rfl
  · rw [if_neg h1, if_neg (fun h => h1 h.2)]; rfl
theorem one_lon {a b : Int} (h1 : 1 ≤ a) (h2 : a ≤ b) : ∀ (m i : Nat) (to best : Int), (to, best) = (if a ≤ (i : Int) then (min (i : Int) b, 0) else (0, -1)) →
    lon (gOne a b) (cOne b i) to best i (List.replicate m 1) = if a ≤ ((i + m : Nat) : Int) then (min ((i + m : Nat) : Int) b, 0) else (0, -1)
  | 0, i, to, best, h => by rw [Nat.add_zero, ← h]; rfl
  | m + 1, i, to, best, h => by
    rw [List.replicate_succ, lon_cons, one_step i (by omega), one_rule (i + 1) (by omega)]
    have e : i + (m + 1) = i + 1 + m := by omega
    rw [e]
    by_cases hc : a ≤ ((i + 1 : Nat) : Int) ∧ ((i + 1 : Nat) : Int) ≤ b
    · rw [if_pos hc, if_pos (Int.le_refl _)]
      refine one_lon h1 h2 m (i + 1) _ _ ?_
      rw [if_pos hc.1, Int.min_eq_left hc.2]; simp
    · rw [if_neg hc, if_neg (by decide)]
      refine one_lon h1 h2 m (i + 1) _ _ ?_
      rw [h]
      by_cases ha : a ≤ ((i + 1 : Nat) : Int)
      · have hb : ¬ ((i + 1 : Nat) : Int) ≤ b := fun h => hc ⟨ha, h⟩
        rw [if_pos ha, if_pos (by omega)]
        rw [Int.min_eq_right (by omega), Int.min_eq_right (by omega)]
      · rw [if_neg ha, if_neg (by omega)]
theorem one_longest {a b : Int} (h1 : 1 ≤ a) (h2 : a ≤ b) (h3 : b ≤ 4096) (n : Nat) : longF (gOne a b) (List.replicate n 1) 0 = if a ≤ (n : Int) then (min (n : Int) b, 0, true) else (0, 0, false) := by
  unfold longF
  rw [if_pos ⟨one_right h1 h2 h3, by omega, by omega⟩]
  unfold longD
  rw [show (0 : Int).toNat = 0 from rfl, List.drop_zero]
  have := one_lon (a := a) (b := b) h1 h2 n 0 0 (-1) (by rw [if_neg (by omega)])
  rw [show cOne b 0 = startD from rfl, Nat.zero_add] at this
  rw [this]
  unfold resD
  by_cases h : a ≤ (n : Int)
  · rw [if_pos h, if_pos h]; rfl
  · rw [if_neg h, if_neg h]; rfl
/-! ### The machine -/
theorem build_Set2 : buildV Try.prog y_api_Set [(0, .int .u64 2)] = some (setV 2) := by kernel_rfl
theorem build_One (a b : Int) : buildV Try.prog y_api_Pos [(0, setV 2), (1, .int .i64 a), (2, .int .i64 b), (4, .bool true)] = some (.agg (posL (onePos a b) (.slice none 0 0)).toArray) := by kernel_rfl
theorem lit_pos (aid : Nat) (p : PosD) (nv : Value) : sliceLitV Try.prog y_s_api_Pos aid 1 [(0, .agg (posL p nv).toArray)] = some (.slice (some (own aid 9)) 1 1, some (.cells (posL p nv).toArray y_api_Pos)) := by kernel_rfl
theorem build_Glush2 (i j : Nat) : buildV Try.prog y_api_Glush [(0, .slice (some (own i 1)) 1 1), (1, .slice (some (own j 9)) 1 1)] = some (.agg #[.slice (some (own i 1)) 1 1, .slice (some (own j 9)) 1 1]) := by kernel_rfl
theorem bts_append (s t : ByteArray) : bts (s ++ t) = bts s ++ bts t := by simp [bts]
theorem str_add {s t : ByteArray} (h : s.size + t.size ≤ 1000000) : strB .add (.string s) (.string t) = some (.string (s ++ t)) := by
  have : decide (((s.size + t.size : Nat) : Int) ≤ 9223372036854775807) = true := decide_eq_true (by omega)
  unfold strB strV
  simp only [this]
theorem opt_mk {h : T Obj} {nx m : Nat} {o : Obj} {K : T Obj → Prop} (hf : Fr h m) (hm : m ≤ nx) (hK : ∀ h', Sub h h' → Fr h' (nx + 1) → h'.get nx = some o → K h') : optP h nx (some o) K :=
  optP_mk (hK _ ((Sub.refl h).new hf hm) ((hf.mono (show m ≤ nx + 1 by omega)).upd (Nat.le_refl _) (by omega)) (by rw [T.get_upd_same]))
set_option maxRecDepth 4000 in
theorem nca_Step_S {ro : Ro} {v w : Value} {g : GlD} {c : CfgD} {by_ : Nat} (hby : by_ < 256) {h : T Obj} {nx : Nat} {K : KV} (hf : Fr h nx) (hg : RG ro h v g) (hc : RCfg ro h w c)
    (hK : ∀ r h' nx', nx ≤ nx' → Sub h h' → Fr h' nx' → RCfgS ro h' r (StepC g c by_) nx → K r h' nx') : callP Try.prog ro i_nca_Step [v, w, .int .u8 (by_ : Int)] h nx K := by
  obtain ⟨a, b, rfl, ha, hP⟩ := hg
  obtain ⟨a2, rfl, hl⟩ := hc
  apply nca_Step_of
  unfold nca_Step
  refine param_mk hf (Nat.le_refl _) fun h1 hs1 hf1 g1 _ => ?_
  refine param_mk hf1 (Nat.le_refl _) fun h2 hs2 hf2 g2 _ => ?_
  refine bindP_mk zer_Config ?_
  refine obj_mk hf2 (Nat.le_refl _) fun h3 hs3 hf3 g3 _ => ?_
  have g1 := hs3 _ _ (hs2 _ _ g1)
  have g2 := hs3 _ _ g2
  have hs := (hs1.trans hs2).trans hs3
  have hG : RG ro h3 (.agg #[a, b]) g := ⟨a, b, rfl, ha.sub hs, hP.sub hs (RPos.sub hs)⟩
  have hC : RCfg ro h3 (.agg #[.bool c.b, a2]) c := ⟨a2, rfl, hl.sub hs (RHeld.sub hs)⟩
  refine bindP_mk (loadA_all (l := [a, b]) g1 rfl) ?_
  refine bindP_mk (loadA_all (l := [.bool c.b, a2]) g2 rfl) ?_
  refine nca_Right_c (hf3.mono (by omega)) hG hC fun n hn => ?_
  cases hrc : rightC g c with
  | false =>
    have hst : StepC g c by_ = ⟨false, []⟩ := by unfold StepC; rw [hrc]; rfl
    rw [hst] at hK
    (repeat (first | refine lss_t (by omega) ?_ | refine lss_f (by omega) ?_ | refine leq_t (by omega) ?_ | refine leq_f (by omega) ?_ | refine gtr_t (by omega) ?_ | refine gtr_f (by omega) ?_ | refine geq_t (by omega) ?_ | refine geq_f (by omega) ?_ | refine eql_t (by omega) ?_ | refine eql_f (by omega) ?_ | refine neq_t (by omega) ?_ | refine neq_f (by omega) ?_ | refine bindP_mk (by simp (disch := first | omega | exact Int.natCast_nonneg _ | assumption) only [BB, decide_true, decide_false, Bool.not_true, Bool.not_false, Option.bind_some, T.get_upd_same, T.get_upd_ne, if_pos, Nat.zero_add, Nat.mul_one, Nat.add_zero, Int.toNat_natCast, ↓reduceIte, Nat.reduceLeDiff, Nat.reduceAdd, Nat.le_refl] <;> rfl) ?_ | refine newP_mk ?_ | refine optP_mk ?_ | with_reducible refine condP_t ?_ | with_reducible refine condP_f ?_ | with_reducible refine ifP_tt' ?_ | with_reducible refine ifP_ff' ?_ | with_reducible refine ifP_tf' ?_ | with_reducible refine ifP_ft' ?_ | with_reducible refine ifP_u' ?_ | refine optP_mk0 ?_))
    refine bindP_mk build_Config0 ?_
    refine bindP_mk (storeA_own (l := [.bool false, .slice none 0 0]) (vs := [.bool false, .slice none 0 0]) g3 rfl rfl rfl rfl) ?_
    refine bindP_mk (loadA_all (l := [.bool false, .slice none 0 0]) (by rw [T.get_upd_same]) rfl) ?_
    exact ⟨h, hs.new hf (by omega), hK _ _ _ (by omega) (Sub.refl _) (hf.mono (by omega)) fun _ _ => ⟨_, rfl, SlR.nil⟩⟩
  | true =>
    have hst : StepC g c by_ = stepD g c by_ := by unfold StepC; rw [hrc]; rfl
    rw [hst] at hK
    unfold rightC at hrc
    simp only [Bool.and_eq_true] at hrc
    (repeat (first | refine lss_t (by omega) ?_ | refine lss_f (by omega) ?_ | refine leq_t (by omega) ?_ | refine leq_f (by omega) ?_ | refine gtr_t (by omega) ?_ | refine gtr_f (by omega) ?_ | refine geq_t (by omega) ?_ | refine geq_f (by omega) ?_ | refine eql_t (by omega) ?_ | refine eql_f (by omega) ?_ | refine neq_t (by omega) ?_ | refine neq_f (by omega) ?_ | refine bindP_mk (by simp (disch := first | omega | exact Int.natCast_nonneg _ | assumption) only [BB, decide_true, decide_false, Bool.not_true, Bool.not_false, Option.bind_some, T.get_upd_same, T.get_upd_ne, if_pos, Nat.zero_add, Nat.mul_one, Nat.add_zero, Int.toNat_natCast, ↓reduceIte, Nat.reduceLeDiff, Nat.reduceAdd, Nat.le_refl] <;> rfl) ?_ | refine newP_mk ?_ | refine optP_mk ?_ | with_reducible refine condP_t ?_ | with_reducible refine condP_f ?_ | with_reducible refine ifP_tt' ?_ | with_reducible refine ifP_ff' ?_ | with_reducible refine ifP_tf' ?_ | with_reducible refine ifP_ft' ?_ | with_reducible refine ifP_u' ?_ | refine optP_mk0 ?_))
    refine bindP_mk (loadA_all (l := [a, b]) g1 rfl) ?_
    refine bindP_mk (loadA_all (l := [.bool c.b, a2]) g2 rfl) ?_
    refine nca_step_c hrc.1 hrc.2 hby (hf3.mono (by omega)) hG hC fun r h4 n4 hn4 q1 q2 q3 => ?_
    have q4 := q3
    obtain ⟨a3, rfl, hl3⟩ := q4.now
    have hok3 : cellOk a3 = true := by obtain ⟨cs, h9, _⟩ := hl3; exact h9.ok
    refine bindP_mk (storeA_own (l := [.bool false, .slice none 0 0]) (vs := [.bool (stepD g c by_).b, a3]) (q1 _ _ g3) rfl rfl rfl (two_ok hok3)) ?_
    refine bindP_mk (loadA_all (l := [.bool (stepD g c by_).b, a3]) (by rw [T.get_upd_same]) rfl) ?_
    refine ⟨(h4.upd (nx + 2) (some (.cells [Value.bool (stepD g c by_).b, a3].toArray y_api_Config))), Sub.refl _, hK _ _ _ (by omega) (fun k o hk => ?_) ((q2.mono (by omega)).upd (Nat.le_refl _) (by omega)) fun h5 h6 => ?_⟩
    · have := hf.lt' hk
      rw [T.get_upd_ne _ _ (by omega)]
      exact q1 _ _ (hs _ _ hk)
    · exact q3 _ fun k hk => by rw [h6 k (by omega)]; exact T.get_upd_ne _ _ (by omega)
theorem bts_len1 {s : ByteArray} {k : Nat} (h : bts s = List.replicate k 1) : s.size = k := by
  rw [← bts_len, h, List.length_replicate]
theorem bts_one : bts { data := #[1] } = [1] := rfl
set_option maxRecDepth 8000 in
set_option maxHeartbeats 4000000 in
theorem law10_NcaCounts_c {ro : Ro} {lo hi many : Nat} (hlo : lo < 256) (hhi : hi < 256) (hmany : many < 256) {h : T Obj} {nx : Nat} {K : KV} (hf : Fr h nx) (hK : ∀ h' nx', nx ≤ nx' → K (.bool true) h' nx') : callP Try.prog ro i_law10_NcaCounts [.int .u8 (lo : Int), .int .u8 (hi : Int), .int .u8 (many : Int)] h nx K := by
  apply law10_NcaCounts_of
  unfold law10_NcaCounts
  refine shown_c ?_
  have hB0 : (2 : Int) ≤ (hi : Int) % 59 + 2 := by omega
  have hB1 : (hi : Int) % 59 + 2 ≤ 60 := by omega
  have hA0 : (1 : Int) ≤ (lo : Int) % ((hi : Int) % 59 + 2) + 1 := by have := Int.emod_nonneg (lo : Int) (show (hi : Int) % 59 + 2 ≠ 0 by omega); omega
  have hA1 : (lo : Int) % ((hi : Int) % 59 + 2) + 1 ≤ (hi : Int) % 59 + 2 := by have := Int.emod_lt_of_pos (lo : Int) (show 0 < (hi : Int) % 59 + 2 by omega); omega
  (repeat (first | refine lss_t (by omega) ?_ | refine lss_f (by omega) ?_ | refine leq_t (by omega) ?_ | refine leq_f (by omega) ?_ | refine gtr_t (by omega) ?_ | refine gtr_f (by omega) ?_ | refine geq_t (by omega) ?_ | refine geq_f (by omega) ?_ | refine eql_t (by omega) ?_ | refine eql_f (by omega) ?_ | refine neq_t (by omega) ?_ | refine neq_f (by omega) ?_ | refine bindP_mk (by simp (disch := first | omega | exact Int.natCast_nonneg _ | assumption) only [BB, decide_true, decide_false, Bool.not_true, Bool.not_false, Option.bind_some, T.get_upd_same, T.get_upd_ne, if_pos, Nat.zero_add, Nat.mul_one, Nat.add_zero, Int.toNat_natCast, ↓reduceIte, Nat.reduceLeDiff, Nat.reduceAdd, Nat.le_refl] <;> rfl) ?_ | refine newP_mk ?_ | refine optP_mk ?_ | with_reducible refine condP_t ?_ | with_reducible refine condP_f ?_ | with_reducible refine ifP_tt' ?_ | with_reducible refine ifP_ff' ?_ | with_reducible refine ifP_tf' ?_ | with_reducible refine ifP_ft' ?_ | with_reducible refine ifP_u' ?_ | refine optP_mk0 ?_))
  generalize (lo : Int) % ((hi : Int) % 59 + 2) + 1 = A at hA0 hA1
  generalize (hi : Int) % 59 + 2 = B at hB0 hB1 hA1
  refine bindP_mk (lit_i64' _ _) ?_
  refine opt_mk hf (by omega) fun h1 hs1 hf1 g1 => ?_
  refine bindP_mk build_Set2 (bindP_mk (build_One A B) (bindP_mk (lit_pos _ _ _) ?_))
  refine opt_mk hf1 (by omega) fun h2 hs2 hf2 g2 => ?_
  refine bindP_mk (build_Glush2 _ _) ?_
  have z1 : ∀ {h2 : T Obj}, h2.get (nx + 2 + 12) = some (.cells #[.int .i64 0] y_int) → ZI ro h2 (.slice (some (own (nx + 2 + 12) 1)) 1 1) [0] := fun g => Sl.own (l := [[.int .i64 0]]) (e := y_int) (f := (0, 0)) g (by simp) (Nat.le_refl _)
  have z2 : ∀ {h2 : T Obj}, h2.get (nx + 2 + 17) = some (.cells (posL (onePos A B) (.slice none 0 0)).toArray y_api_Pos) → SlR ro h2 (.slice (some (own (nx + 2 + 17) 9)) 1 1) 9 (RPos ro h2) [onePos A B] := fun g => ⟨[posL (onePos A B) (.slice none 0 0)], Sl.own (l := [posL (onePos A B) (.slice none 0 0)]) (e := y_api_Pos) (f := (0, 0)) g (by intro x hx; rw [List.mem_singleton] at hx; subst hx; rfl) (Nat.le_refl _), rfl, fun i x d hx hd => by
    cases i with
    | succ i => simp at hx
    | zero =>
      simp at hx hd; subst hx; subst hd
      exact ⟨_, rfl, Sl.nil, by show (2:Nat) < 2 ^ 256; decide⟩⟩
  have g12 := hs2 _ _ g1
  generalize Value.slice (some (own (nx + 2 + 12) 1)) 1 1 = av at z1
  generalize Value.slice (some (own (nx + 2 + 17) 9)) 1 1 = pv at z2
  refine local_mk (x := [av, pv]) zer_Glush rfl rfl rfl (two_ok' (z1 g12).ok (z2 g2).ok) hf2 (by omega) fun h3 hs3 hf3 g3 _ => ?_
  refine nca_Start_c (hf3.mono (by omega)) fun n4 hn4 => ?_
  refine local_mk (x := [.bool true, .slice none 0 0]) zer_Config rfl rfl rfl rfl (hf3.mono (by omega)) (Nat.le_refl _) fun h5 hs5 hf5 g5 _ => ?_
  have g35 := hs5 _ _ g3
  have g15 := hs5 _ _ (hs3 _ _ g12)
  have g25 := hs5 _ _ (hs3 _ _ g2)
  have hrt : rightD (gOne A B) = true := one_right hA0 hA1 (by omega)
  refine loopP_rule (fun j e h' nx' => ∃ (k : Nat) (s : ByteArray) (cv : Value), k + j = many % 81 ∧ n4 + 4 ≤ nx' ∧ Fr h' nx' ∧ (∀ i o, i ≠ n4 → h5.get i = some o → h'.get i = some o) ∧ h'.get n4 = some (.cells #[.bool (cOne B k).b, cv] y_api_Config) ∧ SlR ro h' cv 2 (RHeld ro h') (cOne B k).l ∧ bts s = List.replicate k 1 ∧
    e 2 = .int .u8 (many : Int) ∧ e 7 = .bool true ∧ e 8 = .int .i64 B ∧ e 9 = .int .i64 A ∧ e 10 = ptr (nx + 2 + 19) ∧ e 11 = ptr n4 ∧ e 12 = .string s ∧ e 13 = .int .i64 ((k : Int) + 1)) ?_ (n := many % 81) ⟨0, _, .slice none 0 0, by omega, by omega, hf5.mono (by omega), fun i o _ hi => hi, g5, SlR.nil, rfl, rfl, rfl, rfl, rfl, rfl, rfl, rfl, rfl⟩
  rintro j e h' nx' ⟨k, s, cv, hj, hnx, hf', hoff, gc, hsl, hbt, e2, e7, e8, e9, e10, e11, e12, e13⟩ Q' hq hx
  have gG := hoff (nx + 2 + 19) _ (by omega) g35
  have LG := loadA_all (ro := ro) (z := 0) (n := 2) (l := [av, pv]) gG rfl
  have LC := loadA_all (ro := ro) (z := 0) (n := 2) (l := [.bool (cOne B k).b, cv]) gc rfl
  have hG : RG ro h' (.agg #[av, pv]) (gOne A B) := ⟨av, pv, rfl, z1 (hoff _ _ (by omega) g15), z2 (hoff _ _ (by omega) g25)⟩
  have hC : RCfg ro h' (.agg #[.bool (cOne B k).b, cv]) (cOne B k) := ⟨cv, rfl, hsl⟩
  unfold law10_NcaCounts_L1
  rw [e2, e8, e9, e10, e11, e12, e13]
  (repeat (first | refine lss_t (by omega) ?_ | refine lss_f (by omega) ?_ | refine leq_t (by omega) ?_ | refine leq_f (by omega) ?_ | refine gtr_t (by omega) ?_ | refine gtr_f (by omega) ?_ | refine geq_t (by omega) ?_ | refine geq_f (by omega) ?_ | refine eql_t (by omega) ?_ | refine eql_f (by omega) ?_ | refine neq_t (by omega) ?_ | refine neq_f (by omega) ?_ | refine bindP_mk (by simp (disch := first | omega | exact Int.natCast_nonneg _ | assumption) only [BB, decide_true, decide_false, Bool.not_true, Bool.not_false, Option.bind_some, T.get_upd_same, T.get_upd_ne, if_pos, Nat.zero_add, Nat.mul_one, Nat.add_zero, Int.toNat_natCast, ↓reduceIte, Nat.reduceLeDiff, Nat.reduceAdd, Nat.le_refl] <;> rfl) ?_ | refine newP_mk ?_ | refine optP_mk ?_ | with_reducible refine condP_t ?_ | with_reducible refine condP_f ?_ | with_reducible refine ifP_tt' ?_ | with_reducible refine ifP_ff' ?_ | with_reducible refine ifP_tf' ?_ | with_reducible refine ifP_ft' ?_ | with_reducible refine ifP_u' ?_ | refine optP_mk0 ?_))
  refine leq_s (fun hk => ?_) (fun hk => ?_)
  · (repeat (first | refine lss_t (by omega) ?_ | refine lss_f (by omega) ?_ | refine leq_t (by omega) ?_ | refine leq_f (by omega) ?_ | refine gtr_t (by omega) ?_ | refine gtr_f (by omega) ?_ | refine geq_t (by omega) ?_ | refine geq_f (by omega) ?_ | refine eql_t (by omega) ?_ | refine eql_f (by omega) ?_ | refine neq_t (by omega) ?_ | refine neq_f (by omega) ?_ | refine bindP_mk (by simp (disch := first | omega | exact Int.natCast_nonneg _ | assumption) only [BB, decide_true, decide_false, Bool.not_true, Bool.not_false, Option.bind_some, T.get_upd_same, T.get_upd_ne, if_pos, Nat.zero_add, Nat.mul_one, Nat.add_zero, Int.toNat_natCast, ↓reduceIte, Nat.reduceLeDiff, Nat.reduceAdd, Nat.le_refl, LG, LC] <;> rfl) ?_ | refine newP_mk ?_ | refine optP_mk ?_ | with_reducible refine condP_t ?_ | with_reducible refine condP_f ?_ | with_reducible refine ifP_tt' ?_ | with_reducible refine ifP_ff' ?_ | with_reducible refine ifP_tf' ?_ | with_reducible refine ifP_ft' ?_ | with_reducible refine ifP_u' ?_ | refine optP_mk0 ?_))
    refine nca_Step_S (c := cOne B k) (by_ := 1) (by decide) (hf'.mono (by omega)) hG hC fun r h6 n6 hn6 q1 q2 q3 => ?_
    have hst : StepC (gOne A B) (cOne B k) 1 = cOne B (k + 1) := by
      unfold StepC rightC
      rw [hrt, one_fits k (by omega), ← one_step k (by omega : (1:Int) ≤ B)]; rfl
    rw [hst] at q3
    obtain ⟨a3, rfl, hl3⟩ := q3.now
    have hok3 := hl3.ok
    refine bindP_mk (storeA_own (l := [.bool (cOne B k).b, cv]) (vs := [.bool (cOne B (k + 1)).b, a3]) (q1 _ _ gc) rfl rfl rfl (two_ok hok3)) ?_
    have hoff7 : ∀ i o, i ≠ n4 → h5.get i = some o → (h6.upd n4 (some (.cells [Value.bool (cOne B (k + 1)).b, a3].toArray y_api_Config))).get i = some o := fun i o hi hg => by
      rw [T.get_upd_ne _ _ hi]; exact q1 _ _ (hoff i o hi hg)
    have g7 : (h6.upd n4 (some (.cells [Value.bool (cOne B (k + 1)).b, a3].toArray y_api_Config))).get n4 = some (.cells #[Value.bool (cOne B (k + 1)).b, a3] y_api_Config) := by rw [T.get_upd_same]
    have hC7 := q3 (h6.upd n4 (some (.cells [Value.bool (cOne B (k + 1)).b, a3].toArray y_api_Config))) fun k hk => T.get_upd_ne _ _ (by omega)
    have hf7 : Fr (h6.upd n4 (some (.cells [Value.bool (cOne B (k + 1)).b, a3].toArray y_api_Config))) n6 := (q2.upd (Nat.le_refl _) (by omega))
    generalize h6.upd n4 (some (.cells [Value.bool (cOne B (k + 1)).b, a3].toArray y_api_Config)) = h7 at hoff7 g7 hC7 hf7
    have gG7 := hoff7 (nx + 2 + 19) _ (by omega) g35
    have LG7 := loadA_all (ro := ro) (z := 0) (n := 2) (l := [av, pv]) gG7 rfl
    have LC7 := loadA_all (ro := ro) (z := 0) (n := 2) (l := [.bool (cOne B (k + 1)).b, a3]) g7 rfl
    have hG7 : RG ro h7 (.agg #[av, pv]) (gOne A B) := ⟨av, pv, rfl, z1 (hoff7 _ _ (by omega) g15), z2 (hoff7 _ _ (by omega) g25)⟩
    have hsz := bts_len1 hbt
    refine bindP_mk (str_add (t := { data := #[1] }) (by show s.size + 1 ≤ _; omega)) ?_
    refine bindP_mk LG7 (bindP_mk LC7 ?_)
    refine nca_Rule_c (hf7.mono (by omega)) hG7 hC7 fun n8 hn8 => ?_
    have hru : RuleC (gOne A B) (cOne B (k + 1)) = if A ≤ ((k + 1 : Nat) : Int) ∧ ((k + 1 : Nat) : Int) ≤ B then 0 else -1 := by
      unfold RuleC rightC
      rw [hrt, one_fits (k + 1) (by omega)]; exact one_rule (k + 1) (by omega)
    obtain ⟨a4, e4, hl4⟩ := hC7
    simp only [Value.agg.injEq] at e4
    have e5 := congrArg (fun x : Array Value => x[1]?) e4
    simp at e5
    subst e5
    have hlen := hl4.len
    have hbt7 : bts (s ++ { data := #[1] }) = List.replicate (k + 1) 1 := by rw [bts_append, hbt, bts_one, List.replicate_succ']
    have hok : ∀ (e' : Env) n, e' 2 = .int .u8 (many : Int) → e' 7 = .bool true → e' 8 = .int .i64 B → e' 9 = .int .i64 A → e' 10 = ptr (nx + 2 + 19) → e' 11 = ptr n4 → e' 12 = .string (s ++ { data := #[1] }) → e' 13 = .int .i64 ((k : Int) + 1 + 1) → n8 ≤ n → Q' .normal e' h7 n := fun e' n f2 f7 f8 f9 f10 f11 f12 f13 hn =>
      hq (j - 1) _ h7 _ _ (by omega) ⟨k + 1, s ++ { data := #[1] }, a3, by omega, by omega, hf7.mono (by omega), hoff7, g7, hl4, hbt7, f2, f7, f8, f9, f10, f11, f12, f13⟩ (Sub.refl _)
    rw [hru]
    have hln : (cOne B (k + 1)).l.length = if ((k + 1 : Nat) : Int) ≤ B then 1 else 0 := by
      unfold cOne
      rw [if_neg (by omega)]
      split <;> rfl
    rw [hln] at hlen
    generalize s ++ { data := #[1] } = s7 at hok
    by_cases h1 : A ≤ ((k + 1 : Nat) : Int)
    · by_cases h2 : ((k + 1 : Nat) : Int) ≤ B
      · rw [if_pos h2] at hlen
        rw [if_pos ⟨h1, h2⟩]
        (repeat (first | refine lss_t (by omega) ?_ | refine lss_f (by omega) ?_ | refine leq_t (by omega) ?_ | refine leq_f (by omega) ?_ | refine gtr_t (by omega) ?_ | refine gtr_f (by omega) ?_ | refine geq_t (by omega) ?_ | refine geq_f (by omega) ?_ | refine eql_t (by omega) ?_ | refine eql_f (by omega) ?_ | refine neq_t (by omega) ?_ | refine neq_f (by omega) ?_ | refine bindP_mk (by simp (disch := first | omega | exact Int.natCast_nonneg _ | assumption) only [BB, decide_true, decide_false, Bool.not_true, Bool.not_false, Option.bind_some, T.get_upd_same, T.get_upd_ne, if_pos, Nat.zero_add, Nat.mul_one, Nat.add_zero, Int.toNat_natCast, ↓reduceIte, Nat.reduceLeDiff, Nat.reduceAdd, Nat.le_refl, g7, hlen] <;> rfl) ?_ | refine newP_mk ?_ | refine optP_mk ?_ | with_reducible refine condP_t ?_ | with_reducible refine condP_f ?_ | with_reducible refine ifP_tt' ?_ | with_reducible refine ifP_ff' ?_ | with_reducible refine ifP_tf' ?_ | with_reducible refine ifP_ft' ?_ | with_reducible refine ifP_u' ?_ | refine optP_mk0 ?_))
        rw [show (!(true == true)) = false from rfl]
        (repeat (first | refine lss_t (by omega) ?_ | refine lss_f (by omega) ?_ | refine leq_t (by omega) ?_ | refine leq_f (by omega) ?_ | refine gtr_t (by omega) ?_ | refine gtr_f (by omega) ?_ | refine geq_t (by omega) ?_ | refine geq_f (by omega) ?_ | refine eql_t (by omega) ?_ | refine eql_f (by omega) ?_ | refine neq_t (by omega) ?_ | refine neq_f (by omega) ?_ | refine bindP_mk (by simp (disch := first | omega | exact Int.natCast_nonneg _ | assumption) only [BB, decide_true, decide_false, Bool.not_true, Bool.not_false, Option.bind_some, T.get_upd_same, T.get_upd_ne, if_pos, Nat.zero_add, Nat.mul_one, Nat.add_zero, Int.toNat_natCast, ↓reduceIte, Nat.reduceLeDiff, Nat.reduceAdd, Nat.le_refl, g7, hlen] <;> rfl) ?_ | refine newP_mk ?_ | refine optP_mk ?_ | with_reducible refine condP_t ?_ | with_reducible refine condP_f ?_ | with_reducible refine ifP_tt' ?_ | with_reducible refine ifP_ff' ?_ | with_reducible refine ifP_tf' ?_ | with_reducible refine ifP_ft' ?_ | with_reducible refine ifP_u' ?_ | refine optP_mk0 ?_))
        rw [show (!(true == true)) = false from rfl]
        (repeat (first | refine lss_t (by omega) ?_ | refine lss_f (by omega) ?_ | refine leq_t (by omega) ?_ | refine leq_f (by omega) ?_ | refine gtr_t (by omega) ?_ | refine gtr_f (by omega) ?_ | refine geq_t (by omega) ?_ | refine geq_f (by omega) ?_ | refine eql_t (by omega) ?_ | refine eql_f (by omega) ?_ | refine neq_t (by omega) ?_ | refine neq_f (by omega) ?_ | refine bindP_mk (by simp (disch := first | omega | exact Int.natCast_nonneg _ | assumption) only [BB, decide_true, decide_false, Bool.not_true, Bool.not_false, Option.bind_some, T.get_upd_same, T.get_upd_ne, if_pos, Nat.zero_add, Nat.mul_one, Nat.add_zero, Int.toNat_natCast, ↓reduceIte, Nat.reduceLeDiff, Nat.reduceAdd, Nat.le_refl, g7, hlen] <;> rfl) ?_ | refine newP_mk ?_ | refine optP_mk ?_ | with_reducible refine condP_t ?_ | with_reducible refine condP_f ?_ | with_reducible refine ifP_tt' ?_ | with_reducible refine ifP_ff' ?_ | with_reducible refine ifP_tf' ?_ | with_reducible refine ifP_ft' ?_ | with_reducible refine ifP_u' ?_ | refine optP_mk0 ?_))
        exact hok _ _ e2 e7 e8 e9 e10 e11 rfl rfl (by omega)
      · rw [if_neg h2] at hlen
        rw [if_neg (fun h => h2 h.2)]
        (repeat (first | refine lss_t (by omega) ?_ | refine lss_f (by omega) ?_ | refine leq_t (by omega) ?_ | refine leq_f (by omega) ?_ | refine gtr_t (by omega) ?_ | refine gtr_f (by omega) ?_ | refine geq_t (by omega) ?_ | refine geq_f (by omega) ?_ | refine eql_t (by omega) ?_ | refine eql_f (by omega) ?_ | refine neq_t (by omega) ?_ | refine neq_f (by omega) ?_ | refine bindP_mk (by simp (disch := first | omega | exact Int.natCast_nonneg _ | assumption) only [BB, decide_true, decide_false, Bool.not_true, Bool.not_false, Option.bind_some, T.get_upd_same, T.get_upd_ne, if_pos, Nat.zero_add, Nat.mul_one, Nat.add_zero, Int.toNat_natCast, ↓reduceIte, Nat.reduceLeDiff, Nat.reduceAdd, Nat.le_refl, g7, hlen] <;> rfl) ?_ | refine newP_mk ?_ | refine optP_mk ?_ | with_reducible refine condP_t ?_ | with_reducible refine condP_f ?_ | with_reducible refine ifP_tt' ?_ | with_reducible refine ifP_ff' ?_ | with_reducible refine ifP_tf' ?_ | with_reducible refine ifP_ft' ?_ | with_reducible refine ifP_u' ?_ | refine optP_mk0 ?_))
        rw [show (!(false == false)) = false from rfl]
        (repeat (first | refine lss_t (by omega) ?_ | refine lss_f (by omega) ?_ | refine leq_t (by omega) ?_ | refine leq_f (by omega) ?_ | refine gtr_t (by omega) ?_ | refine gtr_f (by omega) ?_ | refine geq_t (by omega) ?_ | refine geq_f (by omega) ?_ | refine eql_t (by omega) ?_ | refine eql_f (by omega) ?_ | refine neq_t (by omega) ?_ | refine neq_f (by omega) ?_ | refine bindP_mk (by simp (disch := first | omega | exact Int.natCast_nonneg _ | assumption) only [BB, decide_true, decide_false, Bool.not_true, Bool.not_false, Option.bind_some, T.get_upd_same, T.get_upd_ne, if_pos, Nat.zero_add, Nat.mul_one, Nat.add_zero, Int.toNat_natCast, ↓reduceIte, Nat.reduceLeDiff, Nat.reduceAdd, Nat.le_refl, g7, hlen] <;> rfl) ?_ | refine newP_mk ?_ | refine optP_mk ?_ | with_reducible refine condP_t ?_ | with_reducible refine condP_f ?_ | with_reducible refine ifP_tt' ?_ | with_reducible refine ifP_ff' ?_ | with_reducible refine ifP_tf' ?_ | with_reducible refine ifP_ft' ?_ | with_reducible refine ifP_u' ?_ | refine optP_mk0 ?_))
        rw [show (!(false == false)) = false from rfl]
        (repeat (first | refine lss_t (by omega) ?_ | refine lss_f (by omega) ?_ | refine leq_t (by omega) ?_ | refine leq_f (by omega) ?_ | refine gtr_t (by omega) ?_ | refine gtr_f (by omega) ?_ | refine geq_t (by omega) ?_ | refine geq_f (by omega) ?_ | refine eql_t (by omega) ?_ | refine eql_f (by omega) ?_ | refine neq_t (by omega) ?_ | refine neq_f (by omega) ?_ | refine bindP_mk (by simp (disch := first | omega | exact Int.natCast_nonneg _ | assumption) only [BB, decide_true, decide_false, Bool.not_true, Bool.not_false, Option.bind_some, T.get_upd_same, T.get_upd_ne, if_pos, Nat.zero_add, Nat.mul_one, Nat.add_zero, Int.toNat_natCast, ↓reduceIte, Nat.reduceLeDiff, Nat.reduceAdd, Nat.le_refl, g7, hlen] <;> rfl) ?_ | refine newP_mk ?_ | refine optP_mk ?_ | with_reducible refine condP_t ?_ | with_reducible refine condP_f ?_ | with_reducible refine ifP_tt' ?_ | with_reducible refine ifP_ff' ?_ | with_reducible refine ifP_tf' ?_ | with_reducible refine ifP_ft' ?_ | with_reducible refine ifP_u' ?_ | refine optP_mk0 ?_))
        exact hok _ _ e2 e7 e8 e9 e10 e11 rfl rfl (by omega)
    · have h2 : ((k + 1 : Nat) : Int) ≤ B := by omega
      rw [if_pos h2] at hlen
      rw [if_neg (fun h => h1 h.1)]
      (repeat (first | refine lss_t (by omega) ?_ | refine lss_f (by omega) ?_ | refine leq_t (by omega) ?_ | refine leq_f (by omega) ?_ | refine gtr_t (by omega) ?_ | refine gtr_f (by omega) ?_ | refine geq_t (by omega) ?_ | refine geq_f (by omega) ?_ | refine eql_t (by omega) ?_ | refine eql_f (by omega) ?_ | refine neq_t (by omega) ?_ | refine neq_f (by omega) ?_ | refine bindP_mk (by simp (disch := first | omega | exact Int.natCast_nonneg _ | assumption) only [BB, decide_true, decide_false, Bool.not_true, Bool.not_false, Option.bind_some, T.get_upd_same, T.get_upd_ne, if_pos, Nat.zero_add, Nat.mul_one, Nat.add_zero, Int.toNat_natCast, ↓reduceIte, Nat.reduceLeDiff, Nat.reduceAdd, Nat.le_refl, g7, hlen] <;> rfl) ?_ | refine newP_mk ?_ | refine optP_mk ?_ | with_reducible refine condP_t ?_ | with_reducible refine condP_f ?_ | with_reducible refine ifP_tt' ?_ | with_reducible refine ifP_ff' ?_ | with_reducible refine ifP_tf' ?_ | with_reducible refine ifP_ft' ?_ | with_reducible refine ifP_u' ?_ | refine optP_mk0 ?_))
      rw [show (!(false == false)) = false from rfl]
      (repeat (first | refine lss_t (by omega) ?_ | refine lss_f (by omega) ?_ | refine leq_t (by omega) ?_ | refine leq_f (by omega) ?_ | refine gtr_t (by omega) ?_ | refine gtr_f (by omega) ?_ | refine geq_t (by omega) ?_ | refine geq_f (by omega) ?_ | refine eql_t (by omega) ?_ | refine eql_f (by omega) ?_ | refine neq_t (by omega) ?_ | refine neq_f (by omega) ?_ | refine bindP_mk (by simp (disch := first | omega | exact Int.natCast_nonneg _ | assumption) only [BB, decide_true, decide_false, Bool.not_true, Bool.not_false, Option.bind_some, T.get_upd_same, T.get_upd_ne, if_pos, Nat.zero_add, Nat.mul_one, Nat.add_zero, Int.toNat_natCast, ↓reduceIte, Nat.reduceLeDiff, Nat.reduceAdd, Nat.le_refl, g7, hlen] <;> rfl) ?_ | refine newP_mk ?_ | refine optP_mk ?_ | with_reducible refine condP_t ?_ | with_reducible refine condP_f ?_ | with_reducible refine ifP_tt' ?_ | with_reducible refine ifP_ff' ?_ | with_reducible refine ifP_tf' ?_ | with_reducible refine ifP_ft' ?_ | with_reducible refine ifP_u' ?_ | refine optP_mk0 ?_))
      rw [show (!(true == true)) = false from rfl]
      (repeat (first | refine lss_t (by omega) ?_ | refine lss_f (by omega) ?_ | refine leq_t (by omega) ?_ | refine leq_f (by omega) ?_ | refine gtr_t (by omega) ?_ | refine gtr_f (by omega) ?_ | refine geq_t (by omega) ?_ | refine geq_f (by omega) ?_ | refine eql_t (by omega) ?_ | refine eql_f (by omega) ?_ | refine neq_t (by omega) ?_ | refine neq_f (by omega) ?_ | refine bindP_mk (by simp (disch := first | omega | exact Int.natCast_nonneg _ | assumption) only [BB, decide_true, decide_false, Bool.not_true, Bool.not_false, Option.bind_some, T.get_upd_same, T.get_upd_ne, if_pos, Nat.zero_add, Nat.mul_one, Nat.add_zero, Int.toNat_natCast, ↓reduceIte, Nat.reduceLeDiff, Nat.reduceAdd, Nat.le_refl, g7, hlen] <;> rfl) ?_ | refine newP_mk ?_ | refine optP_mk ?_ | with_reducible refine condP_t ?_ | with_reducible refine condP_f ?_ | with_reducible refine ifP_tt' ?_ | with_reducible refine ifP_ff' ?_ | with_reducible refine ifP_tf' ?_ | with_reducible refine ifP_ft' ?_ | with_reducible refine ifP_u' ?_ | refine optP_mk0 ?_))
      exact hok _ _ e2 e7 e8 e9 e10 e11 rfl rfl (by omega)
  · (repeat (first | refine lss_t (by omega) ?_ | refine lss_f (by omega) ?_ | refine leq_t (by omega) ?_ | refine leq_f (by omega) ?_ | refine gtr_t (by omega) ?_ | refine gtr_f (by omega) ?_ | refine geq_t (by omega) ?_ | refine geq_f (by omega) ?_ | refine eql_t (by omega) ?_ | refine eql_f (by omega) ?_ | refine neq_t (by omega) ?_ | refine neq_f (by omega) ?_ | refine bindP_mk (by simp (disch := first | omega | exact Int.natCast_nonneg _ | assumption) only [BB, decide_true, decide_false, Bool.not_true, Bool.not_false, Option.bind_some, T.get_upd_same, T.get_upd_ne, if_pos, Nat.zero_add, Nat.mul_one, Nat.add_zero, Int.toNat_natCast, ↓reduceIte, Nat.reduceLeDiff, Nat.reduceAdd, Nat.le_refl] <;> rfl) ?_ | refine newP_mk ?_ | refine optP_mk ?_ | with_reducible refine condP_t ?_ | with_reducible refine condP_f ?_ | with_reducible refine ifP_tt' ?_ | with_reducible refine ifP_ff' ?_ | with_reducible refine ifP_tf' ?_ | with_reducible refine ifP_ft' ?_ | with_reducible refine ifP_u' ?_ | refine optP_mk0 ?_))
    refine hx _ _ _ _ (fun e => by cases e) (exP_e (beqP_t ?_))
    have hend : ∀ (e' : Env) n, e' 7 = .bool true → e' 8 = .int .i64 B → e' 9 = .int .i64 A → e' 10 = ptr (nx + 2 + 19) → e' 12 = .string s → nx' ≤ n → law10_NcaCounts_j1 ro K e' h' n := by
      intro e' n f7 f8 f9 f10 f12 hn
      unfold law10_NcaCounts_j1
      rw [f7, f8, f9, f10, f12]
      refine bindP_mk LG ?_
      refine nca_Longest_c (by rw [hbt, List.length_replicate]; omega) (hf'.mono (by omega)) hG fun n8 hn8 => ?_
      rw [hbt, one_longest hA0 hA1 (by omega)]
      have hls : lenStr (.string s) = some (.int .i64 (k : Int)) := by rw [lenStr_bts, hbt, List.length_replicate]
      by_cases h1 : A ≤ (k : Int)
      · rw [if_pos h1]
        refine bindP_mk (a := .int .i64 (min (k : Int) B)) rfl (bindP_mk (a := .int .i64 0) rfl (bindP_mk (a := .bool true) rfl ?_))
        (repeat (first | refine lss_t (by omega) ?_ | refine lss_f (by omega) ?_ | refine leq_t (by omega) ?_ | refine leq_f (by omega) ?_ | refine gtr_t (by omega) ?_ | refine gtr_f (by omega) ?_ | refine geq_t (by omega) ?_ | refine geq_f (by omega) ?_ | refine eql_t (by omega) ?_ | refine eql_f (by omega) ?_ | refine neq_t (by omega) ?_ | refine neq_f (by omega) ?_ | refine bindP_mk (by simp (disch := first | omega | exact Int.natCast_nonneg _ | assumption) only [BB, decide_true, decide_false, Bool.not_true, Bool.not_false, Option.bind_some, T.get_upd_same, T.get_upd_ne, if_pos, Nat.zero_add, Nat.mul_one, Nat.add_zero, Int.toNat_natCast, ↓reduceIte, Nat.reduceLeDiff, Nat.reduceAdd, Nat.le_refl, hls] <;> rfl) ?_ | refine newP_mk ?_ | refine optP_mk ?_ | with_reducible refine condP_t ?_ | with_reducible refine condP_f ?_ | with_reducible refine ifP_tt' ?_ | with_reducible refine ifP_ff' ?_ | with_reducible refine ifP_tf' ?_ | with_reducible refine ifP_ft' ?_ | with_reducible refine ifP_u' ?_ | refine optP_mk0 ?_))
        rw [show (true == true) = true from rfl]
        (repeat (first | refine lss_t (by omega) ?_ | refine lss_f (by omega) ?_ | refine leq_t (by omega) ?_ | refine leq_f (by omega) ?_ | refine gtr_t (by omega) ?_ | refine gtr_f (by omega) ?_ | refine geq_t (by omega) ?_ | refine geq_f (by omega) ?_ | refine eql_t (by omega) ?_ | refine eql_f (by omega) ?_ | refine neq_t (by omega) ?_ | refine neq_f (by omega) ?_ | refine bindP_mk (by simp (disch := first | omega | exact Int.natCast_nonneg _ | assumption) only [BB, decide_true, decide_false, Bool.not_true, Bool.not_false, Option.bind_some, T.get_upd_same, T.get_upd_ne, if_pos, Nat.zero_add, Nat.mul_one, Nat.add_zero, Int.toNat_natCast, ↓reduceIte, Nat.reduceLeDiff, Nat.reduceAdd, Nat.le_refl, hls] <;> rfl) ?_ | refine newP_mk ?_ | refine optP_mk ?_ | with_reducible refine condP_t ?_ | with_reducible refine condP_f ?_ | with_reducible refine ifP_tt' ?_ | with_reducible refine ifP_ff' ?_ | with_reducible refine ifP_tf' ?_ | with_reducible refine ifP_ft' ?_ | with_reducible refine ifP_u' ?_ | refine optP_mk0 ?_))
        refine bindP_mk (min_int _ _ _ _) ?_
        (repeat (first | refine lss_t (by omega) ?_ | refine lss_f (by omega) ?_ | refine leq_t (by omega) ?_ | refine leq_f (by omega) ?_ | refine gtr_t (by omega) ?_ | refine gtr_f (by omega) ?_ | refine geq_t (by omega) ?_ | refine geq_f (by omega) ?_ | refine eql_t (by omega) ?_ | refine eql_f (by omega) ?_ | refine neq_t (by omega) ?_ | refine neq_f (by omega) ?_ | refine bindP_mk (by simp (disch := first | omega | exact Int.natCast_nonneg _ | assumption) only [BB, decide_true, decide_false, Bool.not_true, Bool.not_false, Option.bind_some, T.get_upd_same, T.get_upd_ne, if_pos, Nat.zero_add, Nat.mul_one, Nat.add_zero, Int.toNat_natCast, ↓reduceIte, Nat.reduceLeDiff, Nat.reduceAdd, Nat.le_refl, hls] <;> rfl) ?_ | refine newP_mk ?_ | refine optP_mk ?_ | with_reducible refine condP_t ?_ | with_reducible refine condP_f ?_ | with_reducible refine ifP_tt' ?_ | with_reducible refine ifP_ff' ?_ | with_reducible refine ifP_tf' ?_ | with_reducible refine ifP_ft' ?_ | with_reducible refine ifP_u' ?_ | refine optP_mk0 ?_))
        exact ⟨_, Sub.refl _, hK _ _ (by omega)⟩
      · rw [if_neg h1]
        refine bindP_mk (a := .int .i64 0) rfl (bindP_mk (a := .int .i64 0) rfl (bindP_mk (a := .bool false) rfl ?_))
        (repeat (first | refine lss_t (by omega) ?_ | refine lss_f (by omega) ?_ | refine leq_t (by omega) ?_ | refine leq_f (by omega) ?_ | refine gtr_t (by omega) ?_ | refine gtr_f (by omega) ?_ | refine geq_t (by omega) ?_ | refine geq_f (by omega) ?_ | refine eql_t (by omega) ?_ | refine eql_f (by omega) ?_ | refine neq_t (by omega) ?_ | refine neq_f (by omega) ?_ | refine bindP_mk (by simp (disch := first | omega | exact Int.natCast_nonneg _ | assumption) only [BB, decide_true, decide_false, Bool.not_true, Bool.not_false, Option.bind_some, T.get_upd_same, T.get_upd_ne, if_pos, Nat.zero_add, Nat.mul_one, Nat.add_zero, Int.toNat_natCast, ↓reduceIte, Nat.reduceLeDiff, Nat.reduceAdd, Nat.le_refl, hls] <;> rfl) ?_ | refine newP_mk ?_ | refine optP_mk ?_ | with_reducible refine condP_t ?_ | with_reducible refine condP_f ?_ | with_reducible refine ifP_tt' ?_ | with_reducible refine ifP_ff' ?_ | with_reducible refine ifP_tf' ?_ | with_reducible refine ifP_ft' ?_ | with_reducible refine ifP_u' ?_ | refine optP_mk0 ?_))
        rw [show (false == false) = true from rfl]
        (repeat (first | refine lss_t (by omega) ?_ | refine lss_f (by omega) ?_ | refine leq_t (by omega) ?_ | refine leq_f (by omega) ?_ | refine gtr_t (by omega) ?_ | refine gtr_f (by omega) ?_ | refine geq_t (by omega) ?_ | refine geq_f (by omega) ?_ | refine eql_t (by omega) ?_ | refine eql_f (by omega) ?_ | refine neq_t (by omega) ?_ | refine neq_f (by omega) ?_ | refine bindP_mk (by simp (disch := first | omega | exact Int.natCast_nonneg _ | assumption) only [BB, decide_true, decide_false, Bool.not_true, Bool.not_false, Option.bind_some, T.get_upd_same, T.get_upd_ne, if_pos, Nat.zero_add, Nat.mul_one, Nat.add_zero, Int.toNat_natCast, ↓reduceIte, Nat.reduceLeDiff, Nat.reduceAdd, Nat.le_refl, hls] <;> rfl) ?_ | refine newP_mk ?_ | refine optP_mk ?_ | with_reducible refine condP_t ?_ | with_reducible refine condP_f ?_ | with_reducible refine ifP_tt' ?_ | with_reducible refine ifP_ff' ?_ | with_reducible refine ifP_tf' ?_ | with_reducible refine ifP_ft' ?_ | with_reducible refine ifP_u' ?_ | refine optP_mk0 ?_))
        exact ⟨_, Sub.refl _, hK _ _ (by omega)⟩
    exact hend _ _ e7 e8 e9 e10 e12 (by omega)
end V
end Go.Proofs.Ytepbdkfkfcckoaa
