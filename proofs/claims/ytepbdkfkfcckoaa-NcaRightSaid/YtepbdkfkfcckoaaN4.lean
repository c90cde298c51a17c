/- Texts laid one behind the other: NQ, NS, NT.
   No condition. -/
import Derived.Test.YtepbdkfkfcckoaaN3
import Derived.Test.YtepbdkfkfcckoaaV3
/- How far one comes: what Longest (both) hands back.
   No condition. -/
set_option linter.unusedVariables false
set_option linter.unusedSimpArgs false
namespace Go.Proofs.Ytepbdkfkfcckoaa
namespace V
open PA
attribute [local irreducible] bindP ifP condP newP optP exP beqP
/-- A text's bytes. -/
def bts (s : ByteArray) : List Nat := s.data.toList.map (·.toNat)
theorem bts_len (s : ByteArray) : (bts s).length = s.size := by unfold bts; rw [List.length_map]; rfl
theorem bts_lt {s : ByteArray} : ∀ b ∈ bts s, b < 256 := fun b hb => by
  unfold bts at hb
  rw [List.mem_map] at hb
  obtain ⟨x, _, rfl⟩ := hb
  exact x.toNat_lt
theorem lenStr_bts (s : ByteArray) : lenStr (.string s) = some (.int .i64 (bts s).length) := by rw [bts_len]; rfl
theorem ixStr_bts {s : ByteArray} {k : IntKind} {i : Nat} (hi : i < (bts s).length) : ixStr (.string s) (.int k (i : Int)) = some (.int .u8 ((bts s)[i] : Nat)) := by
  have hn : natV (.int k (i : Int)) = some i := by simp [natV]
  have hl : i < s.data.toList.length := by simpa [bts] using hi
  unfold ixStr
  rw [hn]
  simp only [Option.bind]
  rw [List.getElem?_eq_getElem hl]
  simp [bts]
/-- What Longest tells. -/
def resD (r : Int × Int) : Int × Int × Bool := if r.2 < 0 then (0, 0, false) else (r.1, r.2, true)
def longD (g : GlD) (w : List Nat) (i : Nat) : Int × Int × Bool := resD (lon g startD 0 (-1) i (w.drop i))
def longF (g : GlD) (w : List Nat) (from_ : Int) : Int × Int × Bool := if rightD g ∧ 0 ≤ from_ ∧ from_ ≤ w.length then longD g w from_.toNat else (0, 0, false)
def tripV (r : Int × Int × Bool) : Value := .tuple #[.int .i64 r.1, .int .i64 r.2.1, .bool r.2.2]
theorem lon_cons (g : GlD) (c : CfgD) (to best : Int) (i b : Nat) (w : List Nat) : lon g c to best i (b :: w) = if 0 ≤ ruleD g (stepD g c b) then lon g (stepD g c b) ((i : Int) + 1) (ruleD g (stepD g c b)) (i + 1) w else lon g (stepD g c b) to best (i + 1) w := rfl
theorem rul_ge {g : GlD} (hr : rightD g = true) : ∀ {l : List HeldD} {best : Int}, (∀ x ∈ l, 0 ≤ x.p ∧ x.p < g.p.length) → -1 ≤ best → -1 ≤ rul g best l
  | [], best, _, hb => hb
  | d :: r, best, h, hb => by
    rw [rul_cons]
    refine rul_ge hr (fun x hx => h x (by simp [hx])) ?_
    have h1 := h d (by simp)
    have h2 := may_spec (right_at hr h1.1 h1.2)
    split
    · omega
    · exact hb
theorem rule_ge {g : GlD} {c : CfgD} (hr : rightD g = true) (hc : fitsD g c = true) : -1 ≤ ruleD g c := rul_ge hr (fun x hx => ⟨(fits_mem hc x hx).1, (fits_mem hc x hx).2.1⟩) (by omega)
set_option maxRecDepth 4000 in
set_option maxHeartbeats 1000000 in
theorem nca_Longest_c {ro : Ro} {v : Value} {g : GlD} {s : ByteArray} {from_ : Int} (hw : (bts s).length ≤ 1000000) {h : T Obj} {nx : Nat} {K : KV} (hf : Fr h nx) (hg : RG ro h v g) (hK : ∀ nx', nx ≤ nx' → K (tripV (longF g (bts s) from_)) h nx') : callP Try.prog ro i_nca_Longest [v, .string s, .int .i64 from_] h nx K := by
  obtain ⟨a, b, rfl, ha, hP⟩ := hg
  apply nca_Longest_of
  unfold nca_Longest
  refine param_mk hf (Nat.le_refl _) fun h1 hs1 hf1 g1 _ => ?_
  have hls := lenStr_bts s
  have hG1 : RG ro h1 (.agg #[a, b]) g := ⟨a, b, rfl, ha.sub hs1, hP.sub hs1 (RPos.sub hs1)⟩
  have hno : ∀ n, (¬ (rightD g = true ∧ 0 ≤ from_ ∧ from_ ≤ (bts s).length)) → nx ≤ n → ∃ h', Sub h' h1 ∧ K (.tuple #[.int .i64 0, .int .i64 0, .bool false]) h' n := fun n hc hn => by
    refine ⟨h, hs1, ?_⟩
    have := hK n hn
    unfold longF at this
    rwa [if_neg hc] at this
  refine lss_s (fun hlt => ?_) (fun hlt => ?_)
  · (repeat (first | refine lss_t (by omega) ?_ | refine lss_f (by omega) ?_ | refine leq_t (by omega) ?_ | refine leq_f (by omega) ?_ | refine gtr_t (by omega) ?_ | refine gtr_f (by omega) ?_ | refine geq_t (by omega) ?_ | refine geq_f (by omega) ?_ | refine eql_t (by omega) ?_ | refine eql_f (by omega) ?_ | refine neq_t (by omega) ?_ | refine neq_f (by omega) ?_ | refine bindP_mk (by simp (disch := first | omega | exact Int.natCast_nonneg _ | assumption) only [BB, decide_true, decide_false, Bool.not_true, Bool.not_false, Option.bind_some, T.get_upd_same, T.get_upd_ne, if_pos, Nat.zero_add, Nat.mul_one, Nat.add_zero, Int.toNat_natCast, ↓reduceIte, Nat.reduceLeDiff, Nat.reduceAdd, Nat.le_refl, hls] <;> rfl) ?_ | refine newP_mk ?_ | refine optP_mk ?_ | with_reducible refine condP_t ?_ | with_reducible refine condP_f ?_ | with_reducible refine ifP_tt' ?_ | with_reducible refine ifP_ff' ?_ | with_reducible refine ifP_tf' ?_ | with_reducible refine ifP_ft' ?_ | with_reducible refine ifP_u' ?_ | refine optP_mk0 ?_))
    exact hno _ (by omega) (by omega)
  · (repeat (first | refine lss_t (by omega) ?_ | refine lss_f (by omega) ?_ | refine leq_t (by omega) ?_ | refine leq_f (by omega) ?_ | refine gtr_t (by omega) ?_ | refine gtr_f (by omega) ?_ | refine geq_t (by omega) ?_ | refine geq_f (by omega) ?_ | refine eql_t (by omega) ?_ | refine eql_f (by omega) ?_ | refine neq_t (by omega) ?_ | refine neq_f (by omega) ?_ | refine bindP_mk (by simp (disch := first | omega | exact Int.natCast_nonneg _ | assumption) only [BB, decide_true, decide_false, Bool.not_true, Bool.not_false, Option.bind_some, T.get_upd_same, T.get_upd_ne, if_pos, Nat.zero_add, Nat.mul_one, Nat.add_zero, Int.toNat_natCast, ↓reduceIte, Nat.reduceLeDiff, Nat.reduceAdd, Nat.le_refl, hls] <;> rfl) ?_ | refine newP_mk ?_ | refine optP_mk ?_ | with_reducible refine condP_t ?_ | with_reducible refine condP_f ?_ | with_reducible refine ifP_tt' ?_ | with_reducible refine ifP_ff' ?_ | with_reducible refine ifP_tf' ?_ | with_reducible refine ifP_ft' ?_ | with_reducible refine ifP_u' ?_ | refine optP_mk0 ?_))
    refine gtr_s (fun hgt => ?_) (fun hgt => ?_)
    · (repeat (first | refine lss_t (by omega) ?_ | refine lss_f (by omega) ?_ | refine leq_t (by omega) ?_ | refine leq_f (by omega) ?_ | refine gtr_t (by omega) ?_ | refine gtr_f (by omega) ?_ | refine geq_t (by omega) ?_ | refine geq_f (by omega) ?_ | refine eql_t (by omega) ?_ | refine eql_f (by omega) ?_ | refine neq_t (by omega) ?_ | refine neq_f (by omega) ?_ | refine bindP_mk (by simp (disch := first | omega | exact Int.natCast_nonneg _ | assumption) only [BB, decide_true, decide_false, Bool.not_true, Bool.not_false, Option.bind_some, T.get_upd_same, T.get_upd_ne, if_pos, Nat.zero_add, Nat.mul_one, Nat.add_zero, Int.toNat_natCast, ↓reduceIte, Nat.reduceLeDiff, Nat.reduceAdd, Nat.le_refl] <;> rfl) ?_ | refine newP_mk ?_ | refine optP_mk ?_ | with_reducible refine condP_t ?_ | with_reducible refine condP_f ?_ | with_reducible refine ifP_tt' ?_ | with_reducible refine ifP_ff' ?_ | with_reducible refine ifP_tf' ?_ | with_reducible refine ifP_ft' ?_ | with_reducible refine ifP_u' ?_ | refine optP_mk0 ?_))
      exact hno _ (by omega) (by omega)
    · (repeat (first | refine lss_t (by omega) ?_ | refine lss_f (by omega) ?_ | refine leq_t (by omega) ?_ | refine leq_f (by omega) ?_ | refine gtr_t (by omega) ?_ | refine gtr_f (by omega) ?_ | refine geq_t (by omega) ?_ | refine geq_f (by omega) ?_ | refine eql_t (by omega) ?_ | refine eql_f (by omega) ?_ | refine neq_t (by omega) ?_ | refine neq_f (by omega) ?_ | refine bindP_mk (by simp (disch := first | omega | exact Int.natCast_nonneg _ | assumption) only [BB, decide_true, decide_false, Bool.not_true, Bool.not_false, Option.bind_some, T.get_upd_same, T.get_upd_ne, if_pos, Nat.zero_add, Nat.mul_one, Nat.add_zero, Int.toNat_natCast, ↓reduceIte, Nat.reduceLeDiff, Nat.reduceAdd, Nat.le_refl] <;> rfl) ?_ | refine newP_mk ?_ | refine optP_mk ?_ | with_reducible refine condP_t ?_ | with_reducible refine condP_f ?_ | with_reducible refine ifP_tt' ?_ | with_reducible refine ifP_ff' ?_ | with_reducible refine ifP_tf' ?_ | with_reducible refine ifP_ft' ?_ | with_reducible refine ifP_u' ?_ | refine optP_mk0 ?_))
      refine bindP_mk (loadA_all (l := [a, b]) g1 rfl) ?_
      (repeat (first | refine lss_t (by omega) ?_ | refine lss_f (by omega) ?_ | refine leq_t (by omega) ?_ | refine leq_f (by omega) ?_ | refine gtr_t (by omega) ?_ | refine gtr_f (by omega) ?_ | refine geq_t (by omega) ?_ | refine geq_f (by omega) ?_ | refine eql_t (by omega) ?_ | refine eql_f (by omega) ?_ | refine neq_t (by omega) ?_ | refine neq_f (by omega) ?_ | refine bindP_mk (by simp (disch := first | omega | exact Int.natCast_nonneg _ | assumption) only [BB, decide_true, decide_false, Bool.not_true, Bool.not_false, Option.bind_some, T.get_upd_same, T.get_upd_ne, if_pos, Nat.zero_add, Nat.mul_one, Nat.add_zero, Int.toNat_natCast, ↓reduceIte, Nat.reduceLeDiff, Nat.reduceAdd, Nat.le_refl] <;> rfl) ?_ | refine newP_mk ?_ | refine optP_mk ?_ | with_reducible refine condP_t ?_ | with_reducible refine condP_f ?_ | with_reducible refine ifP_tt' ?_ | with_reducible refine ifP_ff' ?_ | with_reducible refine ifP_tf' ?_ | with_reducible refine ifP_ft' ?_ | with_reducible refine ifP_u' ?_ | refine optP_mk0 ?_))
      refine glush_Right_c (hf1.mono (by omega)) hG1 fun n1 hn1 => ?_
      cases hr : rightD g with
      | false =>
        (repeat (first | refine lss_t (by omega) ?_ | refine lss_f (by omega) ?_ | refine leq_t (by omega) ?_ | refine leq_f (by omega) ?_ | refine gtr_t (by omega) ?_ | refine gtr_f (by omega) ?_ | refine geq_t (by omega) ?_ | refine geq_f (by omega) ?_ | refine eql_t (by omega) ?_ | refine eql_f (by omega) ?_ | refine neq_t (by omega) ?_ | refine neq_f (by omega) ?_ | refine bindP_mk (by simp (disch := first | omega | exact Int.natCast_nonneg _ | assumption) only [BB, decide_true, decide_false, Bool.not_true, Bool.not_false, Option.bind_some, T.get_upd_same, T.get_upd_ne, if_pos, Nat.zero_add, Nat.mul_one, Nat.add_zero, Int.toNat_natCast, ↓reduceIte, Nat.reduceLeDiff, Nat.reduceAdd, Nat.le_refl] <;> rfl) ?_ | refine newP_mk ?_ | refine optP_mk ?_ | with_reducible refine condP_t ?_ | with_reducible refine condP_f ?_ | with_reducible refine ifP_tt' ?_ | with_reducible refine ifP_ff' ?_ | with_reducible refine ifP_tf' ?_ | with_reducible refine ifP_ft' ?_ | with_reducible refine ifP_u' ?_ | refine optP_mk0 ?_))
        exact hno _ (by rw [hr]; simp) (by omega)
      | true =>
        (repeat (first | refine lss_t (by omega) ?_ | refine lss_f (by omega) ?_ | refine leq_t (by omega) ?_ | refine leq_f (by omega) ?_ | refine gtr_t (by omega) ?_ | refine gtr_f (by omega) ?_ | refine geq_t (by omega) ?_ | refine geq_f (by omega) ?_ | refine eql_t (by omega) ?_ | refine eql_f (by omega) ?_ | refine neq_t (by omega) ?_ | refine neq_f (by omega) ?_ | refine bindP_mk (by simp (disch := first | omega | exact Int.natCast_nonneg _ | assumption) only [BB, decide_true, decide_false, Bool.not_true, Bool.not_false, Option.bind_some, T.get_upd_same, T.get_upd_ne, if_pos, Nat.zero_add, Nat.mul_one, Nat.add_zero, Int.toNat_natCast, ↓reduceIte, Nat.reduceLeDiff, Nat.reduceAdd, Nat.le_refl] <;> rfl) ?_ | refine newP_mk ?_ | refine optP_mk ?_ | with_reducible refine condP_t ?_ | with_reducible refine condP_f ?_ | with_reducible refine ifP_tt' ?_ | with_reducible refine ifP_ff' ?_ | with_reducible refine ifP_tf' ?_ | with_reducible refine ifP_ft' ?_ | with_reducible refine ifP_u' ?_ | refine optP_mk0 ?_))
        unfold longF at hK
        rw [if_pos ⟨hr, hlt, by omega⟩] at hK
        obtain ⟨i, rfl⟩ : ∃ i : Nat, from_ = i := ⟨from_.toNat, by omega⟩
        rw [Int.toNat_natCast] at hK
        refine nca_Start_c (hf1.mono (by omega)) fun n2 hn2 => ?_
        refine local_mk (x := [.bool true, .slice none 0 0]) zer_Config rfl rfl rfl rfl (hf1.mono (by omega)) (Nat.le_refl _) fun h3 hs3 hf3 g3 _ => ?_
        unfold longD at hK
        refine loopP_rule (fun j e h' nx' => ∃ (k : Nat) (c : CfgD) (cv : Value) (to best : Int), k + j = (bts s).length ∧ n2 + 1 ≤ nx' ∧ Sub h h' ∧ Fr h' nx' ∧ h'.get nx = some (.cells #[a, b] y_api_Glush) ∧ h'.get n2 = some (.cells #[.bool c.b, cv] y_api_Config) ∧ SlR ro h' cv 2 (RHeld ro h') c.l ∧ fitsD g c = true ∧ -1 ≤ best ∧
          e 1 = .string s ∧ e 3 = ptr nx ∧ e 6 = .int .i64 (resD (to, best)).1 ∧ e 7 = .int .i64 (resD (to, best)).2.1 ∧ e 8 = .bool (resD (to, best)).2.2 ∧ e 9 = ptr n2 ∧ e 10 = .int .i64 k ∧ lon g c to best k ((bts s).drop k) = lon g startD 0 (-1) i ((bts s).drop i)) ?_ (n := (bts s).length - i)
          ⟨i, startD, .slice none 0 0, 0, -1, by omega, by omega, hs1.trans hs3, hf3.mono (by omega), hs3 _ _ g1, g3, SlR.nil, rfl, by omega, rfl, rfl, rfl, rfl, rfl, rfl, rfl, rfl⟩
        rintro j e h' nx' ⟨k, c, cv, to, best, hj, hnx, hsb, hf', gp, gc, hsl, hft, hbest, e1, e3, e6, e7, e8, e9, e10, hlon⟩ Q' hq hx
        unfold nca_Longest_L1
        rw [e1, e3, e9, e10]
        have hexit : ∀ (e' : Env) n, e' 6 = .int .i64 (resD (to, best)).1 → e' 7 = .int .i64 (resD (to, best)).2.1 → e' 8 = .bool (resD (to, best)).2.2 → lon g c to best k ((bts s).drop k) = (to, best) → nx ≤ n → Q' (.exit 0) e' h' n := fun e' n f6 f7 f8 hl hn => by
          refine hx _ _ _ _ (fun e => by cases e) (exP_e (beqP_t ?_))
          unfold nca_Longest_j1
          rw [f6, f7, f8]
          refine ⟨h, hsb, ?_⟩
          have := hK (n + 6) (by omega)
          rw [← hlon, hl] at this
          exact this
        (repeat (first | refine lss_t (by omega) ?_ | refine lss_f (by omega) ?_ | refine leq_t (by omega) ?_ | refine leq_f (by omega) ?_ | refine gtr_t (by omega) ?_ | refine gtr_f (by omega) ?_ | refine geq_t (by omega) ?_ | refine geq_f (by omega) ?_ | refine eql_t (by omega) ?_ | refine eql_f (by omega) ?_ | refine neq_t (by omega) ?_ | refine neq_f (by omega) ?_ | refine bindP_mk (by simp (disch := first | omega | exact Int.natCast_nonneg _ | assumption) only [BB, decide_true, decide_false, Bool.not_true, Bool.not_false, Option.bind_some, T.get_upd_same, T.get_upd_ne, if_pos, Nat.zero_add, Nat.mul_one, Nat.add_zero, Int.toNat_natCast, ↓reduceIte, Nat.reduceLeDiff, Nat.reduceAdd, Nat.le_refl, hls] <;> rfl) ?_ | refine newP_mk ?_ | refine optP_mk ?_ | with_reducible refine condP_t ?_ | with_reducible refine condP_f ?_ | with_reducible refine ifP_tt' ?_ | with_reducible refine ifP_ff' ?_ | with_reducible refine ifP_tf' ?_ | with_reducible refine ifP_ft' ?_ | with_reducible refine ifP_u' ?_ | refine optP_mk0 ?_))
        refine lss_s (fun hk => ?_) (fun hk => ?_)
        · have hk : k < (bts s).length := by omega
          have hbl := bts_lt _ (List.getElem_mem hk)
          have hxs := ixStr_bts (k := .i64) hk
          have hll := hsl.len
          have hcl := fits_len hft
          have hG : RG ro h' (.agg #[a, b]) g := ⟨a, b, rfl, ha.sub hsb, hP.sub hsb (RPos.sub hsb)⟩
          have hC : RCfg ro h' (.agg #[.bool c.b, cv]) c := ⟨cv, rfl, hsl⟩
          have hstop : c.b = false → c.l = [] → lon g c to best k ((bts s).drop k) = (to, best) := fun h1 h2 => by
            have : c = ⟨false, []⟩ := by cases c; simp at h1 h2; subst h1; subst h2; rfl
            rw [this]; exact lon_none _ _ _ _
          have hdr := drop_cons hk
          generalize (bts s)[k] = by_ at hbl hxs hdr
          have hlon2 := hlon
          rw [hdr, lon_cons] at hlon2
          have hfs := step_fits (b := by_) hr hft
          -- what stands behind the condition, when one goes on
          have hstep : ∀ n, nx' ≤ n → ∀ {KK : Value → Value → Value → Value → T Obj → Nat → Prop}, (∀ (r1 r2 r3 : Value) (cv2 : Value) h5 n5, nx' ≤ n5 → Sub h h5 → Fr h5 n5 → h5.get nx = some (.cells #[a, b] y_api_Glush) → h5.get n2 = some (.cells #[.bool (stepD g c by_).b, cv2] y_api_Config) → SlR ro h5 cv2 2 (RHeld ro h5) (stepD g c by_).l → KK r1 r2 r3 (.int .i64 (ruleD g (stepD g c by_))) h5 n5) →
              callP Try.prog ro i_nca_step [.agg #[a, b], .agg #[.bool c.b, cv], .int .u8 (by_ : Nat)] h' n fun t48 h95 n96 => bindP (storeN 2 h95 (ptr n2) t48) fun h97 => bindP (loadA ro h97 2 (ptr nx)) fun t49 => bindP (loadA ro h97 2 (ptr n2)) fun t50 => callP Try.prog ro i_nca_rule [t49, t50] h97 (n96 + 3) (KK t48 t49 t50) := by
            intro n hn KK hKK
            refine nca_step_c hr hft hbl (hf'.mono (by omega)) hG hC fun r h5 n5 hn5 q1 q2 q3 => ?_
            obtain ⟨a3, rfl, hl3⟩ := q3.now
            have hok3 : cellOk a3 = true := by obtain ⟨cs, h9, _⟩ := hl3; exact h9.ok
            refine bindP_mk (storeA_own (l := [.bool c.b, cv]) (vs := [.bool (stepD g c by_).b, a3]) (q1 _ _ gc) rfl rfl rfl (two_ok hok3)) ?_
            have hoff : ∀ i, i ≠ n2 → (h5.upd n2 (some (.cells [Value.bool (stepD g c by_).b, a3].toArray y_api_Config))).get i = h5.get i := fun i hi => T.get_upd_ne _ _ hi
            have gp6 : (h5.upd n2 (some (.cells [Value.bool (stepD g c by_).b, a3].toArray y_api_Config))).get nx = some (.cells #[a, b] y_api_Glush) := by rw [hoff _ (by omega)]; exact q1 _ _ gp
            have gc6 : (h5.upd n2 (some (.cells [Value.bool (stepD g c by_).b, a3].toArray y_api_Config))).get n2 = some (.cells #[.bool (stepD g c by_).b, a3] y_api_Config) := by rw [T.get_upd_same]
            have hC6 := q3 (h5.upd n2 (some (.cells [Value.bool (stepD g c by_).b, a3].toArray y_api_Config))) fun k hk => hoff k (by omega)
            have hf6 : Fr (h5.upd n2 (some (.cells [Value.bool (stepD g c by_).b, a3].toArray y_api_Config))) n5 := (q2.upd (Nat.le_refl _) (by omega))
            have hs6 : Sub h (h5.upd n2 (some (.cells [Value.bool (stepD g c by_).b, a3].toArray y_api_Config))) := fun i o hi => by
              have := hf.lt' hi
              rw [hoff i (by omega)]
              exact q1 _ _ (hsb _ _ hi)
            generalize h5.upd n2 (some (.cells [Value.bool (stepD g c by_).b, a3].toArray y_api_Config)) = h6 at hoff gp6 gc6 hC6 hf6 hs6
            refine bindP_mk (loadA_all (l := [a, b]) gp6 rfl) ?_
            refine bindP_mk (loadA_all (l := [.bool (stepD g c by_).b, a3]) gc6 rfl) ?_
            have hG6 : RG ro h6 (.agg #[a, b]) g := ⟨a, b, rfl, ha.sub hs6, hP.sub hs6 (RPos.sub hs6)⟩
            refine nca_rule_c hr hfs (hf6.mono (by omega)) hG6 hC6 fun n7 hn7 => ?_
            obtain ⟨a4, e4, hl4⟩ := hC6
            simp only [Value.agg.injEq] at e4
            have e5 := congrArg (fun x : Array Value => x[1]?) e4
            simp at e5
            subst e5
            exact hKK _ _ _ a3 h6 n7 (by omega) hs6 (hf6.mono (by omega)) gp6 gc6 hl4
          have hj2 : ∀ (e' : Env) h5 n5 (to2 best2 : Int) (cv2 : Value), nx' ≤ n5 → Sub h h5 → Fr h5 n5 → h5.get nx = some (.cells #[a, b] y_api_Glush) → h5.get n2 = some (.cells #[.bool (stepD g c by_).b, cv2] y_api_Config) → SlR ro h5 cv2 2 (RHeld ro h5) (stepD g c by_).l → -1 ≤ best2 → lon g (stepD g c by_) to2 best2 (k + 1) ((bts s).drop (k + 1)) = lon g startD 0 (-1) i ((bts s).drop i) →
              e' 1 = .string s → e' 3 = ptr nx → e' 6 = .int .i64 (resD (to2, best2)).1 → e' 7 = .int .i64 (resD (to2, best2)).2.1 → e' 8 = .bool (resD (to2, best2)).2.2 → e' 9 = ptr n2 → e' 10 = .int .i64 k → nca_Longest_j2 ro Q' e' h5 n5 := by
            intro e' h5 n5 to2 best2 cv2 y1 y2 y3 y4 y5 y6 y7 y8 f1 f3 f6 f7 f8 f9 f10
            unfold nca_Longest_j2
            rw [f10]
            (repeat (first | refine lss_t (by omega) ?_ | refine lss_f (by omega) ?_ | refine leq_t (by omega) ?_ | refine leq_f (by omega) ?_ | refine gtr_t (by omega) ?_ | refine gtr_f (by omega) ?_ | refine geq_t (by omega) ?_ | refine geq_f (by omega) ?_ | refine eql_t (by omega) ?_ | refine eql_f (by omega) ?_ | refine neq_t (by omega) ?_ | refine neq_f (by omega) ?_ | refine bindP_mk (by simp (disch := first | omega | exact Int.natCast_nonneg _ | assumption) only [BB, decide_true, decide_false, Bool.not_true, Bool.not_false, Option.bind_some, T.get_upd_same, T.get_upd_ne, if_pos, Nat.zero_add, Nat.mul_one, Nat.add_zero, Int.toNat_natCast, ↓reduceIte, Nat.reduceLeDiff, Nat.reduceAdd, Nat.le_refl] <;> rfl) ?_ | refine newP_mk ?_ | refine optP_mk ?_ | with_reducible refine condP_t ?_ | with_reducible refine condP_f ?_ | with_reducible refine ifP_tt' ?_ | with_reducible refine ifP_ff' ?_ | with_reducible refine ifP_tf' ?_ | with_reducible refine ifP_ft' ?_ | with_reducible refine ifP_u' ?_ | refine optP_mk0 ?_))
            exact hq (j - 1) _ _ _ _ (by omega) ⟨k + 1, stepD g c by_, cv2, to2, best2, by omega, by omega, y2, y3.mono (by omega), y4, y5, y6, hfs, y7, f1, f3, f6, f7, f8, f9, rfl, y8⟩ (Sub.refl _)
          (repeat (first | refine lss_t (by omega) ?_ | refine lss_f (by omega) ?_ | refine leq_t (by omega) ?_ | refine leq_f (by omega) ?_ | refine gtr_t (by omega) ?_ | refine gtr_f (by omega) ?_ | refine geq_t (by omega) ?_ | refine geq_f (by omega) ?_ | refine eql_t (by omega) ?_ | refine eql_f (by omega) ?_ | refine neq_t (by omega) ?_ | refine neq_f (by omega) ?_ | refine bindP_mk (by simp (disch := first | omega | exact Int.natCast_nonneg _ | assumption) only [BB, decide_true, decide_false, Bool.not_true, Bool.not_false, Option.bind_some, T.get_upd_same, T.get_upd_ne, if_pos, Nat.zero_add, Nat.mul_one, Nat.add_zero, Int.toNat_natCast, ↓reduceIte, Nat.reduceLeDiff, Nat.reduceAdd, Nat.le_refl, gc] <;> rfl) ?_ | refine newP_mk ?_ | refine optP_mk ?_ | with_reducible refine condP_t ?_ | with_reducible refine condP_f ?_ | with_reducible refine ifP_tt' ?_ | with_reducible refine ifP_ff' ?_ | with_reducible refine ifP_tf' ?_ | with_reducible refine ifP_ft' ?_ | with_reducible refine ifP_u' ?_ | refine optP_mk0 ?_))
          cases hcb : c.b with
          | true =>
            rw [hcb] at gc hstep
            try rw [hcb] at hC
            (repeat (first | refine lss_t (by omega) ?_ | refine lss_f (by omega) ?_ | refine leq_t (by omega) ?_ | refine leq_f (by omega) ?_ | refine gtr_t (by omega) ?_ | refine gtr_f (by omega) ?_ | refine geq_t (by omega) ?_ | refine geq_f (by omega) ?_ | refine eql_t (by omega) ?_ | refine eql_f (by omega) ?_ | refine neq_t (by omega) ?_ | refine neq_f (by omega) ?_ | refine bindP_mk (by simp (disch := first | omega | exact Int.natCast_nonneg _ | assumption) only [BB, decide_true, decide_false, Bool.not_true, Bool.not_false, Option.bind_some, T.get_upd_same, T.get_upd_ne, if_pos, Nat.zero_add, Nat.mul_one, Nat.add_zero, Int.toNat_natCast, ↓reduceIte, Nat.reduceLeDiff, Nat.reduceAdd, Nat.le_refl] <;> rfl) ?_ | refine newP_mk ?_ | refine optP_mk ?_ | with_reducible refine condP_t ?_ | with_reducible refine condP_f ?_ | with_reducible refine ifP_tt' ?_ | with_reducible refine ifP_ff' ?_ | with_reducible refine ifP_tf' ?_ | with_reducible refine ifP_ft' ?_ | with_reducible refine ifP_u' ?_ | refine optP_mk0 ?_))
            refine bindP_mk (loadA_all (l := [a, b]) gp rfl) ?_
            refine bindP_mk (loadA_all (l := [.bool true, cv]) gc rfl) ?_
            (repeat (first | refine lss_t (by omega) ?_ | refine lss_f (by omega) ?_ | refine leq_t (by omega) ?_ | refine leq_f (by omega) ?_ | refine gtr_t (by omega) ?_ | refine gtr_f (by omega) ?_ | refine geq_t (by omega) ?_ | refine geq_f (by omega) ?_ | refine eql_t (by omega) ?_ | refine eql_f (by omega) ?_ | refine neq_t (by omega) ?_ | refine neq_f (by omega) ?_ | refine bindP_mk (by simp (disch := first | omega | exact Int.natCast_nonneg _ | assumption) only [BB, decide_true, decide_false, Bool.not_true, Bool.not_false, Option.bind_some, T.get_upd_same, T.get_upd_ne, if_pos, Nat.zero_add, Nat.mul_one, Nat.add_zero, Int.toNat_natCast, ↓reduceIte, Nat.reduceLeDiff, Nat.reduceAdd, Nat.le_refl, hxs] <;> rfl) ?_ | refine newP_mk ?_ | refine optP_mk ?_ | with_reducible refine condP_t ?_ | with_reducible refine condP_f ?_ | with_reducible refine ifP_tt' ?_ | with_reducible refine ifP_ff' ?_ | with_reducible refine ifP_tf' ?_ | with_reducible refine ifP_ft' ?_ | with_reducible refine ifP_u' ?_ | refine optP_mk0 ?_))
            refine hstep _ (by omega) fun _ _ _ cv2 h5 n5 y1 y2 y3 y4 y5 y6 => ?_
            refine geq_s (fun hge => ?_) (fun hge => ?_)
            · rw [if_pos hge] at hlon2
              (repeat (first | refine lss_t (by omega) ?_ | refine lss_f (by omega) ?_ | refine leq_t (by omega) ?_ | refine leq_f (by omega) ?_ | refine gtr_t (by omega) ?_ | refine gtr_f (by omega) ?_ | refine geq_t (by omega) ?_ | refine geq_f (by omega) ?_ | refine eql_t (by omega) ?_ | refine eql_f (by omega) ?_ | refine neq_t (by omega) ?_ | refine neq_f (by omega) ?_ | refine bindP_mk (by simp (disch := first | omega | exact Int.natCast_nonneg _ | assumption) only [BB, decide_true, decide_false, Bool.not_true, Bool.not_false, Option.bind_some, T.get_upd_same, T.get_upd_ne, if_pos, Nat.zero_add, Nat.mul_one, Nat.add_zero, Int.toNat_natCast, ↓reduceIte, Nat.reduceLeDiff, Nat.reduceAdd, Nat.le_refl] <;> rfl) ?_ | refine newP_mk ?_ | refine optP_mk ?_ | with_reducible refine condP_t ?_ | with_reducible refine condP_f ?_ | with_reducible refine ifP_tt' ?_ | with_reducible refine ifP_ff' ?_ | with_reducible refine ifP_tf' ?_ | with_reducible refine ifP_ft' ?_ | with_reducible refine ifP_u' ?_ | refine optP_mk0 ?_))
              exact hj2 _ _ _ ((k : Int) + 1) (ruleD g (stepD g c by_)) cv2 (by omega) y2 (y3.mono (by omega)) y4 y5 y6 (by omega) hlon2 e1 e3 (by unfold resD; rw [if_neg (by omega)]; rfl) (by unfold resD; rw [if_neg (by omega)]; rfl) (by unfold resD; rw [if_neg (by omega)]; rfl) e9 e10
            · rw [if_neg (by omega)] at hlon2
              (repeat (first | refine lss_t (by omega) ?_ | refine lss_f (by omega) ?_ | refine leq_t (by omega) ?_ | refine leq_f (by omega) ?_ | refine gtr_t (by omega) ?_ | refine gtr_f (by omega) ?_ | refine geq_t (by omega) ?_ | refine geq_f (by omega) ?_ | refine eql_t (by omega) ?_ | refine eql_f (by omega) ?_ | refine neq_t (by omega) ?_ | refine neq_f (by omega) ?_ | refine bindP_mk (by simp (disch := first | omega | exact Int.natCast_nonneg _ | assumption) only [BB, decide_true, decide_false, Bool.not_true, Bool.not_false, Option.bind_some, T.get_upd_same, T.get_upd_ne, if_pos, Nat.zero_add, Nat.mul_one, Nat.add_zero, Int.toNat_natCast, ↓reduceIte, Nat.reduceLeDiff, Nat.reduceAdd, Nat.le_refl] <;> rfl) ?_ | refine newP_mk ?_ | refine optP_mk ?_ | with_reducible refine condP_t ?_ | with_reducible refine condP_f ?_ | with_reducible refine ifP_tt' ?_ | with_reducible refine ifP_ff' ?_ | with_reducible refine ifP_tf' ?_ | with_reducible refine ifP_ft' ?_ | with_reducible refine ifP_u' ?_ | refine optP_mk0 ?_))
              exact hj2 _ _ _ to best cv2 (by omega) y2 (y3.mono (by omega)) y4 y5 y6 hbest hlon2 e1 e3 e6 e7 e8 e9 e10
          | false =>
            rw [hcb] at gc hstep
            (repeat (first | refine lss_t (by omega) ?_ | refine lss_f (by omega) ?_ | refine leq_t (by omega) ?_ | refine leq_f (by omega) ?_ | refine gtr_t (by omega) ?_ | refine gtr_f (by omega) ?_ | refine geq_t (by omega) ?_ | refine geq_f (by omega) ?_ | refine eql_t (by omega) ?_ | refine eql_f (by omega) ?_ | refine neq_t (by omega) ?_ | refine neq_f (by omega) ?_ | refine bindP_mk (by simp (disch := first | omega | exact Int.natCast_nonneg _ | assumption) only [BB, decide_true, decide_false, Bool.not_true, Bool.not_false, Option.bind_some, T.get_upd_same, T.get_upd_ne, if_pos, Nat.zero_add, Nat.mul_one, Nat.add_zero, Int.toNat_natCast, ↓reduceIte, Nat.reduceLeDiff, Nat.reduceAdd, Nat.le_refl, gc, hll] <;> rfl) ?_ | refine newP_mk ?_ | refine optP_mk ?_ | with_reducible refine condP_t ?_ | with_reducible refine condP_f ?_ | with_reducible refine ifP_tt' ?_ | with_reducible refine ifP_ff' ?_ | with_reducible refine ifP_tf' ?_ | with_reducible refine ifP_ft' ?_ | with_reducible refine ifP_u' ?_ | refine optP_mk0 ?_))
            refine gtr_s (fun hgt2 => ?_) (fun hgt2 => ?_)
            · skip
              (repeat (first | refine lss_t (by omega) ?_ | refine lss_f (by omega) ?_ | refine leq_t (by omega) ?_ | refine leq_f (by omega) ?_ | refine gtr_t (by omega) ?_ | refine gtr_f (by omega) ?_ | refine geq_t (by omega) ?_ | refine geq_f (by omega) ?_ | refine eql_t (by omega) ?_ | refine eql_f (by omega) ?_ | refine neq_t (by omega) ?_ | refine neq_f (by omega) ?_ | refine bindP_mk (by simp (disch := first | omega | exact Int.natCast_nonneg _ | assumption) only [BB, decide_true, decide_false, Bool.not_true, Bool.not_false, Option.bind_some, T.get_upd_same, T.get_upd_ne, if_pos, Nat.zero_add, Nat.mul_one, Nat.add_zero, Int.toNat_natCast, ↓reduceIte, Nat.reduceLeDiff, Nat.reduceAdd, Nat.le_refl] <;> rfl) ?_ | refine newP_mk ?_ | refine optP_mk ?_ | with_reducible refine condP_t ?_ | with_reducible refine condP_f ?_ | with_reducible refine ifP_tt' ?_ | with_reducible refine ifP_ff' ?_ | with_reducible refine ifP_tf' ?_ | with_reducible refine ifP_ft' ?_ | with_reducible refine ifP_u' ?_ | refine optP_mk0 ?_))
              refine bindP_mk (loadA_all (l := [a, b]) gp rfl) ?_
              refine bindP_mk (loadA_all (l := [.bool false, cv]) gc rfl) ?_
              (repeat (first | refine lss_t (by omega) ?_ | refine lss_f (by omega) ?_ | refine leq_t (by omega) ?_ | refine leq_f (by omega) ?_ | refine gtr_t (by omega) ?_ | refine gtr_f (by omega) ?_ | refine geq_t (by omega) ?_ | refine geq_f (by omega) ?_ | refine eql_t (by omega) ?_ | refine eql_f (by omega) ?_ | refine neq_t (by omega) ?_ | refine neq_f (by omega) ?_ | refine bindP_mk (by simp (disch := first | omega | exact Int.natCast_nonneg _ | assumption) only [BB, decide_true, decide_false, Bool.not_true, Bool.not_false, Option.bind_some, T.get_upd_same, T.get_upd_ne, if_pos, Nat.zero_add, Nat.mul_one, Nat.add_zero, Int.toNat_natCast, ↓reduceIte, Nat.reduceLeDiff, Nat.reduceAdd, Nat.le_refl, hxs] <;> rfl) ?_ | refine newP_mk ?_ | refine optP_mk ?_ | with_reducible refine condP_t ?_ | with_reducible refine condP_f ?_ | with_reducible refine ifP_tt' ?_ | with_reducible refine ifP_ff' ?_ | with_reducible refine ifP_tf' ?_ | with_reducible refine ifP_ft' ?_ | with_reducible refine ifP_u' ?_ | refine optP_mk0 ?_))
              refine hstep _ (by omega) fun _ _ _ cv2 h5 n5 y1 y2 y3 y4 y5 y6 => ?_
              refine geq_s (fun hge => ?_) (fun hge => ?_)
              · rw [if_pos hge] at hlon2
                (repeat (first | refine lss_t (by omega) ?_ | refine lss_f (by omega) ?_ | refine leq_t (by omega) ?_ | refine leq_f (by omega) ?_ | refine gtr_t (by omega) ?_ | refine gtr_f (by omega) ?_ | refine geq_t (by omega) ?_ | refine geq_f (by omega) ?_ | refine eql_t (by omega) ?_ | refine eql_f (by omega) ?_ | refine neq_t (by omega) ?_ | refine neq_f (by omega) ?_ | refine bindP_mk (by simp (disch := first | omega | exact Int.natCast_nonneg _ | assumption) only [BB, decide_true, decide_false, Bool.not_true, Bool.not_false, Option.bind_some, T.get_upd_same, T.get_upd_ne, if_pos, Nat.zero_add, Nat.mul_one, Nat.add_zero, Int.toNat_natCast, ↓reduceIte, Nat.reduceLeDiff, Nat.reduceAdd, Nat.le_refl] <;> rfl) ?_ | refine newP_mk ?_ | refine optP_mk ?_ | with_reducible refine condP_t ?_ | with_reducible refine condP_f ?_ | with_reducible refine ifP_tt' ?_ | with_reducible refine ifP_ff' ?_ | with_reducible refine ifP_tf' ?_ | with_reducible refine ifP_ft' ?_ | with_reducible refine ifP_u' ?_ | refine optP_mk0 ?_))
                exact hj2 _ _ _ ((k : Int) + 1) (ruleD g (stepD g c by_)) cv2 (by omega) y2 (y3.mono (by omega)) y4 y5 y6 (by omega) hlon2 e1 e3 (by unfold resD; rw [if_neg (by omega)]; rfl) (by unfold resD; rw [if_neg (by omega)]; rfl) (by unfold resD; rw [if_neg (by omega)]; rfl) e9 e10
              · rw [if_neg (by omega)] at hlon2
                (repeat (first | refine lss_t (by omega) ?_ | refine lss_f (by omega) ?_ | refine leq_t (by omega) ?_ | refine leq_f (by omega) ?_ | refine gtr_t (by omega) ?_ | refine gtr_f (by omega) ?_ | refine geq_t (by omega) ?_ | refine geq_f (by omega) ?_ | refine eql_t (by omega) ?_ | refine eql_f (by omega) ?_ | refine neq_t (by omega) ?_ | refine neq_f (by omega) ?_ | refine bindP_mk (by simp (disch := first | omega | exact Int.natCast_nonneg _ | assumption) only [BB, decide_true, decide_false, Bool.not_true, Bool.not_false, Option.bind_some, T.get_upd_same, T.get_upd_ne, if_pos, Nat.zero_add, Nat.mul_one, Nat.add_zero, Int.toNat_natCast, ↓reduceIte, Nat.reduceLeDiff, Nat.reduceAdd, Nat.le_refl] <;> rfl) ?_ | refine newP_mk ?_ | refine optP_mk ?_ | with_reducible refine condP_t ?_ | with_reducible refine condP_f ?_ | with_reducible refine ifP_tt' ?_ | with_reducible refine ifP_ff' ?_ | with_reducible refine ifP_tf' ?_ | with_reducible refine ifP_ft' ?_ | with_reducible refine ifP_u' ?_ | refine optP_mk0 ?_))
                exact hj2 _ _ _ to best cv2 (by omega) y2 (y3.mono (by omega)) y4 y5 y6 hbest hlon2 e1 e3 e6 e7 e8 e9 e10
            · (repeat (first | refine lss_t (by omega) ?_ | refine lss_f (by omega) ?_ | refine leq_t (by omega) ?_ | refine leq_f (by omega) ?_ | refine gtr_t (by omega) ?_ | refine gtr_f (by omega) ?_ | refine geq_t (by omega) ?_ | refine geq_f (by omega) ?_ | refine eql_t (by omega) ?_ | refine eql_f (by omega) ?_ | refine neq_t (by omega) ?_ | refine neq_f (by omega) ?_ | refine bindP_mk (by simp (disch := first | omega | exact Int.natCast_nonneg _ | assumption) only [BB, decide_true, decide_false, Bool.not_true, Bool.not_false, Option.bind_some, T.get_upd_same, T.get_upd_ne, if_pos, Nat.zero_add, Nat.mul_one, Nat.add_zero, Int.toNat_natCast, ↓reduceIte, Nat.reduceLeDiff, Nat.reduceAdd, Nat.le_refl] <;> rfl) ?_ | refine newP_mk ?_ | refine optP_mk ?_ | with_reducible refine condP_t ?_ | with_reducible refine condP_f ?_ | with_reducible refine ifP_tt' ?_ | with_reducible refine ifP_ff' ?_ | with_reducible refine ifP_tf' ?_ | with_reducible refine ifP_ft' ?_ | with_reducible refine ifP_u' ?_ | refine optP_mk0 ?_))
              exact hexit _ _ e6 e7 e8 (hstop hcb (eq_len (by omega))) (by omega)
        · (repeat (first | refine lss_t (by omega) ?_ | refine lss_f (by omega) ?_ | refine leq_t (by omega) ?_ | refine leq_f (by omega) ?_ | refine gtr_t (by omega) ?_ | refine gtr_f (by omega) ?_ | refine geq_t (by omega) ?_ | refine geq_f (by omega) ?_ | refine eql_t (by omega) ?_ | refine eql_f (by omega) ?_ | refine neq_t (by omega) ?_ | refine neq_f (by omega) ?_ | refine bindP_mk (by simp (disch := first | omega | exact Int.natCast_nonneg _ | assumption) only [BB, decide_true, decide_false, Bool.not_true, Bool.not_false, Option.bind_some, T.get_upd_same, T.get_upd_ne, if_pos, Nat.zero_add, Nat.mul_one, Nat.add_zero, Int.toNat_natCast, ↓reduceIte, Nat.reduceLeDiff, Nat.reduceAdd, Nat.le_refl] <;> rfl) ?_ | refine newP_mk ?_ | refine optP_mk ?_ | with_reducible refine condP_t ?_ | with_reducible refine condP_f ?_ | with_reducible refine ifP_tt' ?_ | with_reducible refine ifP_ff' ?_ | with_reducible refine ifP_tf' ?_ | with_reducible refine ifP_ft' ?_ | with_reducible refine ifP_u' ?_ | refine optP_mk0 ?_))
          exact hexit _ _ e6 e7 e8 (by rw [drop_all (by omega)]; rfl) (by omega)
end V
end Go.Proofs.Ytepbdkfkfcckoaa

/- How far one comes: what the reference's Longest hands back.
   No condition. -/
set_option linter.unusedVariables false
set_option linter.unusedSimpArgs false
namespace Go.Proofs.Ytepbdkfkfcckoaa
namespace V
open PA
attribute [local irreducible] bindP ifP condP newP optP exP beqP
set_option maxRecDepth 4000 in
set_option maxHeartbeats 1000000 in
theorem ref10_Longest_c {ro : Ro} {v : Value} {g : GlD} {s : ByteArray} {from_ : Int} (hw : (bts s).length ≤ 1000000) {h : T Obj} {nx : Nat} {K : KV} (hf : Fr h nx) (hg : RG ro h v g) (hK : ∀ nx', nx ≤ nx' → K (tripV (longF g (bts s) from_)) h nx') : callP Try.prog ro i_ref10_Longest [v, .string s, .int .i64 from_] h nx K := by
  obtain ⟨a, b, rfl, ha, hP⟩ := hg
  apply ref10_Longest_of
  unfold ref10_Longest
  refine param_mk hf (Nat.le_refl _) fun h1 hs1 hf1 g1 _ => ?_
  have hls := lenStr_bts s
  have hG1 : RG ro h1 (.agg #[a, b]) g := ⟨a, b, rfl, ha.sub hs1, hP.sub hs1 (RPos.sub hs1)⟩
  have hno : ∀ n, (¬ (rightD g = true ∧ 0 ≤ from_ ∧ from_ ≤ (bts s).length)) → nx ≤ n → ∃ h', Sub h' h1 ∧ K (.tuple #[.int .i64 0, .int .i64 0, .bool false]) h' n := fun n hc hn => by
    refine ⟨h, hs1, ?_⟩
    have := hK n hn
    unfold longF at this
    rwa [if_neg hc] at this
  refine bindP_mk (loadA_all (l := [a, b]) g1 rfl) ?_
  refine ref09_Right_c (hf1.mono (by omega)) hG1 fun n1 hn1 => ?_
  cases hr : rightD g with
  | false =>
    (repeat (first | refine lss_t (by omega) ?_ | refine lss_f (by omega) ?_ | refine leq_t (by omega) ?_ | refine leq_f (by omega) ?_ | refine gtr_t (by omega) ?_ | refine gtr_f (by omega) ?_ | refine geq_t (by omega) ?_ | refine geq_f (by omega) ?_ | refine eql_t (by omega) ?_ | refine eql_f (by omega) ?_ | refine neq_t (by omega) ?_ | refine neq_f (by omega) ?_ | refine bindP_mk (by simp (disch := first | omega | exact Int.natCast_nonneg _ | assumption) only [BB, decide_true, decide_false, Bool.not_true, Bool.not_false, Option.bind_some, T.get_upd_same, T.get_upd_ne, if_pos, Nat.zero_add, Nat.mul_one, Nat.add_zero, Int.toNat_natCast, ↓reduceIte, Nat.reduceLeDiff, Nat.reduceAdd, Nat.le_refl] <;> rfl) ?_ | refine newP_mk ?_ | refine optP_mk ?_ | with_reducible refine condP_t ?_ | with_reducible refine condP_f ?_ | with_reducible refine ifP_tt' ?_ | with_reducible refine ifP_ff' ?_ | with_reducible refine ifP_tf' ?_ | with_reducible refine ifP_ft' ?_ | with_reducible refine ifP_u' ?_ | refine optP_mk0 ?_))
    exact hno _ (by rw [hr]; simp) (by omega)
  | true =>
    (repeat (first | refine lss_t (by omega) ?_ | refine lss_f (by omega) ?_ | refine leq_t (by omega) ?_ | refine leq_f (by omega) ?_ | refine gtr_t (by omega) ?_ | refine gtr_f (by omega) ?_ | refine geq_t (by omega) ?_ | refine geq_f (by omega) ?_ | refine eql_t (by omega) ?_ | refine eql_f (by omega) ?_ | refine neq_t (by omega) ?_ | refine neq_f (by omega) ?_ | refine bindP_mk (by simp (disch := first | omega | exact Int.natCast_nonneg _ | assumption) only [BB, decide_true, decide_false, Bool.not_true, Bool.not_false, Option.bind_some, T.get_upd_same, T.get_upd_ne, if_pos, Nat.zero_add, Nat.mul_one, Nat.add_zero, Int.toNat_natCast, ↓reduceIte, Nat.reduceLeDiff, Nat.reduceAdd, Nat.le_refl] <;> rfl) ?_ | refine newP_mk ?_ | refine optP_mk ?_ | with_reducible refine condP_t ?_ | with_reducible refine condP_f ?_ | with_reducible refine ifP_tt' ?_ | with_reducible refine ifP_ff' ?_ | with_reducible refine ifP_tf' ?_ | with_reducible refine ifP_ft' ?_ | with_reducible refine ifP_u' ?_ | refine optP_mk0 ?_))
    refine lss_s (fun hlt => ?_) (fun hlt => ?_)
    · (repeat (first | refine lss_t (by omega) ?_ | refine lss_f (by omega) ?_ | refine leq_t (by omega) ?_ | refine leq_f (by omega) ?_ | refine gtr_t (by omega) ?_ | refine gtr_f (by omega) ?_ | refine geq_t (by omega) ?_ | refine geq_f (by omega) ?_ | refine eql_t (by omega) ?_ | refine eql_f (by omega) ?_ | refine neq_t (by omega) ?_ | refine neq_f (by omega) ?_ | refine bindP_mk (by simp (disch := first | omega | exact Int.natCast_nonneg _ | assumption) only [BB, decide_true, decide_false, Bool.not_true, Bool.not_false, Option.bind_some, T.get_upd_same, T.get_upd_ne, if_pos, Nat.zero_add, Nat.mul_one, Nat.add_zero, Int.toNat_natCast, ↓reduceIte, Nat.reduceLeDiff, Nat.reduceAdd, Nat.le_refl, hls] <;> rfl) ?_ | refine newP_mk ?_ | refine optP_mk ?_ | with_reducible refine condP_t ?_ | with_reducible refine condP_f ?_ | with_reducible refine ifP_tt' ?_ | with_reducible refine ifP_ff' ?_ | with_reducible refine ifP_tf' ?_ | with_reducible refine ifP_ft' ?_ | with_reducible refine ifP_u' ?_ | refine optP_mk0 ?_))
      exact hno _ (by omega) (by omega)
    · (repeat (first | refine lss_t (by omega) ?_ | refine lss_f (by omega) ?_ | refine leq_t (by omega) ?_ | refine leq_f (by omega) ?_ | refine gtr_t (by omega) ?_ | refine gtr_f (by omega) ?_ | refine geq_t (by omega) ?_ | refine geq_f (by omega) ?_ | refine eql_t (by omega) ?_ | refine eql_f (by omega) ?_ | refine neq_t (by omega) ?_ | refine neq_f (by omega) ?_ | refine bindP_mk (by simp (disch := first | omega | exact Int.natCast_nonneg _ | assumption) only [BB, decide_true, decide_false, Bool.not_true, Bool.not_false, Option.bind_some, T.get_upd_same, T.get_upd_ne, if_pos, Nat.zero_add, Nat.mul_one, Nat.add_zero, Int.toNat_natCast, ↓reduceIte, Nat.reduceLeDiff, Nat.reduceAdd, Nat.le_refl, hls] <;> rfl) ?_ | refine newP_mk ?_ | refine optP_mk ?_ | with_reducible refine condP_t ?_ | with_reducible refine condP_f ?_ | with_reducible refine ifP_tt' ?_ | with_reducible refine ifP_ff' ?_ | with_reducible refine ifP_tf' ?_ | with_reducible refine ifP_ft' ?_ | with_reducible refine ifP_u' ?_ | refine optP_mk0 ?_))
      refine gtr_s (fun hgt => ?_) (fun hgt => ?_)
      · (repeat (first | refine lss_t (by omega) ?_ | refine lss_f (by omega) ?_ | refine leq_t (by omega) ?_ | refine leq_f (by omega) ?_ | refine gtr_t (by omega) ?_ | refine gtr_f (by omega) ?_ | refine geq_t (by omega) ?_ | refine geq_f (by omega) ?_ | refine eql_t (by omega) ?_ | refine eql_f (by omega) ?_ | refine neq_t (by omega) ?_ | refine neq_f (by omega) ?_ | refine bindP_mk (by simp (disch := first | omega | exact Int.natCast_nonneg _ | assumption) only [BB, decide_true, decide_false, Bool.not_true, Bool.not_false, Option.bind_some, T.get_upd_same, T.get_upd_ne, if_pos, Nat.zero_add, Nat.mul_one, Nat.add_zero, Int.toNat_natCast, ↓reduceIte, Nat.reduceLeDiff, Nat.reduceAdd, Nat.le_refl] <;> rfl) ?_ | refine newP_mk ?_ | refine optP_mk ?_ | with_reducible refine condP_t ?_ | with_reducible refine condP_f ?_ | with_reducible refine ifP_tt' ?_ | with_reducible refine ifP_ff' ?_ | with_reducible refine ifP_tf' ?_ | with_reducible refine ifP_ft' ?_ | with_reducible refine ifP_u' ?_ | refine optP_mk0 ?_))
        exact hno _ (by omega) (by omega)
      · (repeat (first | refine lss_t (by omega) ?_ | refine lss_f (by omega) ?_ | refine leq_t (by omega) ?_ | refine leq_f (by omega) ?_ | refine gtr_t (by omega) ?_ | refine gtr_f (by omega) ?_ | refine geq_t (by omega) ?_ | refine geq_f (by omega) ?_ | refine eql_t (by omega) ?_ | refine eql_f (by omega) ?_ | refine neq_t (by omega) ?_ | refine neq_f (by omega) ?_ | refine bindP_mk (by simp (disch := first | omega | exact Int.natCast_nonneg _ | assumption) only [BB, decide_true, decide_false, Bool.not_true, Bool.not_false, Option.bind_some, T.get_upd_same, T.get_upd_ne, if_pos, Nat.zero_add, Nat.mul_one, Nat.add_zero, Int.toNat_natCast, ↓reduceIte, Nat.reduceLeDiff, Nat.reduceAdd, Nat.le_refl] <;> rfl) ?_ | refine newP_mk ?_ | refine optP_mk ?_ | with_reducible refine condP_t ?_ | with_reducible refine condP_f ?_ | with_reducible refine ifP_tt' ?_ | with_reducible refine ifP_ff' ?_ | with_reducible refine ifP_tf' ?_ | with_reducible refine ifP_ft' ?_ | with_reducible refine ifP_u' ?_ | refine optP_mk0 ?_))
        unfold longF at hK
        rw [if_pos ⟨hr, hlt, by omega⟩] at hK
        obtain ⟨i, rfl⟩ : ∃ i : Nat, from_ = i := ⟨from_.toNat, by omega⟩
        rw [Int.toNat_natCast] at hK
        refine bindP_mk build_Config1 ?_
        generalize hn2' : n1 + 3 + 1 + 3 + 1 + 1 + 1 + 2 = n2
        refine local_mk (x := [.bool true, .slice none 0 0]) zer_Config rfl rfl rfl rfl (hf1.mono (by omega)) (Nat.le_refl _) fun h3 hs3 hf3 g3 _ => ?_
        unfold longD at hK
        refine loopP_rule (fun j e h' nx' => ∃ (k : Nat) (c : CfgD) (cv : Value) (to best : Int), k + j = (bts s).length ∧ n2 + 1 ≤ nx' ∧ Sub h h' ∧ Fr h' nx' ∧ h'.get nx = some (.cells #[a, b] y_api_Glush) ∧ h'.get n2 = some (.cells #[.bool c.b, cv] y_api_Config) ∧ SlR ro h' cv 2 (RHeld ro h') c.l ∧ fitsD g c = true ∧ -1 ≤ best ∧
          e 1 = .string s ∧ e 3 = ptr nx ∧ e 10 = .int .i64 to ∧ e 11 = .int .i64 best ∧ e 9 = ptr n2 ∧ e 12 = .int .i64 k ∧ lon g c to best k ((bts s).drop k) = lon g startD 0 (-1) i ((bts s).drop i)) ?_ (n := (bts s).length - i)
          ⟨i, startD, .slice none 0 0, 0, -1, by omega, by omega, hs1.trans hs3, hf3.mono (by omega), hs3 _ _ g1, g3, SlR.nil, rfl, by omega, rfl, rfl, rfl, rfl, rfl, rfl, rfl⟩
        rintro j e h' nx' ⟨k, c, cv, to, best, hj, hnx, hsb, hf', gp, gc, hsl, hft, hbest, e1, e3, e10, e11, e9, e12, hlon⟩ Q' hq hx
        unfold ref10_Longest_L1
        rw [e1, e3, e9, e12]
        (repeat (first | refine lss_t (by omega) ?_ | refine lss_f (by omega) ?_ | refine leq_t (by omega) ?_ | refine leq_f (by omega) ?_ | refine gtr_t (by omega) ?_ | refine gtr_f (by omega) ?_ | refine geq_t (by omega) ?_ | refine geq_f (by omega) ?_ | refine eql_t (by omega) ?_ | refine eql_f (by omega) ?_ | refine neq_t (by omega) ?_ | refine neq_f (by omega) ?_ | refine bindP_mk (by simp (disch := first | omega | exact Int.natCast_nonneg _ | assumption) only [BB, decide_true, decide_false, Bool.not_true, Bool.not_false, Option.bind_some, T.get_upd_same, T.get_upd_ne, if_pos, Nat.zero_add, Nat.mul_one, Nat.add_zero, Int.toNat_natCast, ↓reduceIte, Nat.reduceLeDiff, Nat.reduceAdd, Nat.le_refl, hls] <;> rfl) ?_ | refine newP_mk ?_ | refine optP_mk ?_ | with_reducible refine condP_t ?_ | with_reducible refine condP_f ?_ | with_reducible refine ifP_tt' ?_ | with_reducible refine ifP_ff' ?_ | with_reducible refine ifP_tf' ?_ | with_reducible refine ifP_ft' ?_ | with_reducible refine ifP_u' ?_ | refine optP_mk0 ?_))
        refine lss_s (fun hk => ?_) (fun hk => ?_)
        · have hk : k < (bts s).length := by omega
          have hbl := bts_lt _ (List.getElem_mem hk)
          have hxs := ixStr_bts (k := .i64) hk
          have hll := hsl.len
          have hcl := fits_len hft
          have hG : RG ro h' (.agg #[a, b]) g := ⟨a, b, rfl, ha.sub hsb, hP.sub hsb (RPos.sub hsb)⟩
          have hC : RCfg ro h' (.agg #[.bool c.b, cv]) c := ⟨cv, rfl, hsl⟩
          have hdr := drop_cons hk
          generalize (bts s)[k] = by_ at hbl hxs hdr
          have hlon2 := hlon
          rw [hdr, lon_cons] at hlon2
          have hfs := step_fits (b := by_) hr hft
          -- what stands behind the condition, when one goes on
          have hstep : ∀ n, nx' ≤ n → ∀ {KK : Value → Value → Value → Value → T Obj → Nat → Prop}, (∀ (r1 r2 r3 : Value) (cv2 : Value) h5 n5, nx' ≤ n5 → Sub h h5 → Fr h5 n5 → h5.get nx = some (.cells #[a, b] y_api_Glush) → h5.get n2 = some (.cells #[.bool (stepD g c by_).b, cv2] y_api_Config) → SlR ro h5 cv2 2 (RHeld ro h5) (stepD g c by_).l → KK r1 r2 r3 (.int .i64 (ruleD g (stepD g c by_))) h5 n5) →
              callP Try.prog ro i_ref10_step [.agg #[a, b], .agg #[.bool c.b, cv], .int .u8 (by_ : Nat)] h' n fun t48 h95 n96 => bindP (storeN 2 h95 (ptr n2) t48) fun h97 => bindP (loadA ro h97 2 (ptr nx)) fun t49 => bindP (loadA ro h97 2 (ptr n2)) fun t50 => callP Try.prog ro i_ref10_rule [t49, t50] h97 (n96 + 3) (KK t48 t49 t50) := by
            intro n hn KK hKK
            refine ref10_step_c hr hft hbl (hf'.mono (by omega)) hG hC fun r h5 n5 hn5 q1 q2 q3 => ?_
            obtain ⟨a3, rfl, hl3⟩ := q3.now
            have hok3 : cellOk a3 = true := by obtain ⟨cs, h9, _⟩ := hl3; exact h9.ok
            refine bindP_mk (storeA_own (l := [.bool c.b, cv]) (vs := [.bool (stepD g c by_).b, a3]) (q1 _ _ gc) rfl rfl rfl (two_ok hok3)) ?_
            have hoff : ∀ i, i ≠ n2 → (h5.upd n2 (some (.cells [Value.bool (stepD g c by_).b, a3].toArray y_api_Config))).get i = h5.get i := fun i hi => T.get_upd_ne _ _ hi
            have gp6 : (h5.upd n2 (some (.cells [Value.bool (stepD g c by_).b, a3].toArray y_api_Config))).get nx = some (.cells #[a, b] y_api_Glush) := by rw [hoff _ (by omega)]; exact q1 _ _ gp
            have gc6 : (h5.upd n2 (some (.cells [Value.bool (stepD g c by_).b, a3].toArray y_api_Config))).get n2 = some (.cells #[.bool (stepD g c by_).b, a3] y_api_Config) := by rw [T.get_upd_same]
            have hC6 := q3 (h5.upd n2 (some (.cells [Value.bool (stepD g c by_).b, a3].toArray y_api_Config))) fun k hk => hoff k (by omega)
            have hf6 : Fr (h5.upd n2 (some (.cells [Value.bool (stepD g c by_).b, a3].toArray y_api_Config))) n5 := (q2.upd (Nat.le_refl _) (by omega))
            have hs6 : Sub h (h5.upd n2 (some (.cells [Value.bool (stepD g c by_).b, a3].toArray y_api_Config))) := fun i o hi => by
              have := hf.lt' hi
              rw [hoff i (by omega)]
              exact q1 _ _ (hsb _ _ hi)
            generalize h5.upd n2 (some (.cells [Value.bool (stepD g c by_).b, a3].toArray y_api_Config)) = h6 at hoff gp6 gc6 hC6 hf6 hs6
            refine bindP_mk (loadA_all (l := [a, b]) gp6 rfl) ?_
            refine bindP_mk (loadA_all (l := [.bool (stepD g c by_).b, a3]) gc6 rfl) ?_
            have hG6 : RG ro h6 (.agg #[a, b]) g := ⟨a, b, rfl, ha.sub hs6, hP.sub hs6 (RPos.sub hs6)⟩
            refine ref10_rule_c hr hfs (hf6.mono (by omega)) hG6 hC6 fun n7 hn7 => ?_
            obtain ⟨a4, e4, hl4⟩ := hC6
            simp only [Value.agg.injEq] at e4
            have e5 := congrArg (fun x : Array Value => x[1]?) e4
            simp at e5
            subst e5
            exact hKK _ _ _ a3 h6 n7 (by omega) hs6 (hf6.mono (by omega)) gp6 gc6 hl4
          have hj2 : ∀ (e' : Env) h5 n5 (to2 best2 : Int) (cv2 : Value), nx' ≤ n5 → Sub h h5 → Fr h5 n5 → h5.get nx = some (.cells #[a, b] y_api_Glush) → h5.get n2 = some (.cells #[.bool (stepD g c by_).b, cv2] y_api_Config) → SlR ro h5 cv2 2 (RHeld ro h5) (stepD g c by_).l → -1 ≤ best2 → lon g (stepD g c by_) to2 best2 (k + 1) ((bts s).drop (k + 1)) = lon g startD 0 (-1) i ((bts s).drop i) →
              e' 1 = .string s → e' 3 = ptr nx → e' 10 = .int .i64 to2 → e' 11 = .int .i64 best2 → e' 9 = ptr n2 → e' 12 = .int .i64 k → ref10_Longest_j2 ro Q' e' h5 n5 := by
            intro e' h5 n5 to2 best2 cv2 y1 y2 y3 y4 y5 y6 y7 y8 f1 f3 f10 f11 f9 f12
            unfold ref10_Longest_j2
            rw [f12]
            (repeat (first | refine lss_t (by omega) ?_ | refine lss_f (by omega) ?_ | refine leq_t (by omega) ?_ | refine leq_f (by omega) ?_ | refine gtr_t (by omega) ?_ | refine gtr_f (by omega) ?_ | refine geq_t (by omega) ?_ | refine geq_f (by omega) ?_ | refine eql_t (by omega) ?_ | refine eql_f (by omega) ?_ | refine neq_t (by omega) ?_ | refine neq_f (by omega) ?_ | refine bindP_mk (by simp (disch := first | omega | exact Int.natCast_nonneg _ | assumption) only [BB, decide_true, decide_false, Bool.not_true, Bool.not_false, Option.bind_some, T.get_upd_same, T.get_upd_ne, if_pos, Nat.zero_add, Nat.mul_one, Nat.add_zero, Int.toNat_natCast, ↓reduceIte, Nat.reduceLeDiff, Nat.reduceAdd, Nat.le_refl] <;> rfl) ?_ | refine newP_mk ?_ | refine optP_mk ?_ | with_reducible refine condP_t ?_ | with_reducible refine condP_f ?_ | with_reducible refine ifP_tt' ?_ | with_reducible refine ifP_ff' ?_ | with_reducible refine ifP_tf' ?_ | with_reducible refine ifP_ft' ?_ | with_reducible refine ifP_u' ?_ | refine optP_mk0 ?_))
            exact hq (j - 1) _ _ _ _ (by omega) ⟨k + 1, stepD g c by_, cv2, to2, best2, by omega, by omega, y2, y3.mono (by omega), y4, y5, y6, hfs, y7, f1, f3, f10, f11, f9, rfl, y8⟩ (Sub.refl _)
          (repeat (first | refine lss_t (by omega) ?_ | refine lss_f (by omega) ?_ | refine leq_t (by omega) ?_ | refine leq_f (by omega) ?_ | refine gtr_t (by omega) ?_ | refine gtr_f (by omega) ?_ | refine geq_t (by omega) ?_ | refine geq_f (by omega) ?_ | refine eql_t (by omega) ?_ | refine eql_f (by omega) ?_ | refine neq_t (by omega) ?_ | refine neq_f (by omega) ?_ | refine bindP_mk (by simp (disch := first | omega | exact Int.natCast_nonneg _ | assumption) only [BB, decide_true, decide_false, Bool.not_true, Bool.not_false, Option.bind_some, T.get_upd_same, T.get_upd_ne, if_pos, Nat.zero_add, Nat.mul_one, Nat.add_zero, Int.toNat_natCast, ↓reduceIte, Nat.reduceLeDiff, Nat.reduceAdd, Nat.le_refl] <;> rfl) ?_ | refine newP_mk ?_ | refine optP_mk ?_ | with_reducible refine condP_t ?_ | with_reducible refine condP_f ?_ | with_reducible refine ifP_tt' ?_ | with_reducible refine ifP_ff' ?_ | with_reducible refine ifP_tf' ?_ | with_reducible refine ifP_ft' ?_ | with_reducible refine ifP_u' ?_ | refine optP_mk0 ?_))
          refine bindP_mk (loadA_all (l := [a, b]) gp rfl) ?_
          refine bindP_mk (loadA_all (l := [.bool c.b, cv]) gc rfl) ?_
          (repeat (first | refine lss_t (by omega) ?_ | refine lss_f (by omega) ?_ | refine leq_t (by omega) ?_ | refine leq_f (by omega) ?_ | refine gtr_t (by omega) ?_ | refine gtr_f (by omega) ?_ | refine geq_t (by omega) ?_ | refine geq_f (by omega) ?_ | refine eql_t (by omega) ?_ | refine eql_f (by omega) ?_ | refine neq_t (by omega) ?_ | refine neq_f (by omega) ?_ | refine bindP_mk (by simp (disch := first | omega | exact Int.natCast_nonneg _ | assumption) only [BB, decide_true, decide_false, Bool.not_true, Bool.not_false, Option.bind_some, T.get_upd_same, T.get_upd_ne, if_pos, Nat.zero_add, Nat.mul_one, Nat.add_zero, Int.toNat_natCast, ↓reduceIte, Nat.reduceLeDiff, Nat.reduceAdd, Nat.le_refl, hxs] <;> rfl) ?_ | refine newP_mk ?_ | refine optP_mk ?_ | with_reducible refine condP_t ?_ | with_reducible refine condP_f ?_ | with_reducible refine ifP_tt' ?_ | with_reducible refine ifP_ff' ?_ | with_reducible refine ifP_tf' ?_ | with_reducible refine ifP_ft' ?_ | with_reducible refine ifP_u' ?_ | refine optP_mk0 ?_))
          refine hstep _ (by omega) fun _ _ _ cv2 h5 n5 y1 y2 y3 y4 y5 y6 => ?_
          refine geq_s (fun hge => ?_) (fun hge => ?_)
          · rw [if_pos hge] at hlon2
            (repeat (first | refine lss_t (by omega) ?_ | refine lss_f (by omega) ?_ | refine leq_t (by omega) ?_ | refine leq_f (by omega) ?_ | refine gtr_t (by omega) ?_ | refine gtr_f (by omega) ?_ | refine geq_t (by omega) ?_ | refine geq_f (by omega) ?_ | refine eql_t (by omega) ?_ | refine eql_f (by omega) ?_ | refine neq_t (by omega) ?_ | refine neq_f (by omega) ?_ | refine bindP_mk (by simp (disch := first | omega | exact Int.natCast_nonneg _ | assumption) only [BB, decide_true, decide_false, Bool.not_true, Bool.not_false, Option.bind_some, T.get_upd_same, T.get_upd_ne, if_pos, Nat.zero_add, Nat.mul_one, Nat.add_zero, Int.toNat_natCast, ↓reduceIte, Nat.reduceLeDiff, Nat.reduceAdd, Nat.le_refl] <;> rfl) ?_ | refine newP_mk ?_ | refine optP_mk ?_ | with_reducible refine condP_t ?_ | with_reducible refine condP_f ?_ | with_reducible refine ifP_tt' ?_ | with_reducible refine ifP_ff' ?_ | with_reducible refine ifP_tf' ?_ | with_reducible refine ifP_ft' ?_ | with_reducible refine ifP_u' ?_ | refine optP_mk0 ?_))
            exact hj2 _ _ _ ((k : Int) + 1) (ruleD g (stepD g c by_)) cv2 (by omega) y2 (y3.mono (by omega)) y4 y5 y6 (by omega) hlon2 e1 e3 rfl rfl e9 e12
          · rw [if_neg (by omega)] at hlon2
            (repeat (first | refine lss_t (by omega) ?_ | refine lss_f (by omega) ?_ | refine leq_t (by omega) ?_ | refine leq_f (by omega) ?_ | refine gtr_t (by omega) ?_ | refine gtr_f (by omega) ?_ | refine geq_t (by omega) ?_ | refine geq_f (by omega) ?_ | refine eql_t (by omega) ?_ | refine eql_f (by omega) ?_ | refine neq_t (by omega) ?_ | refine neq_f (by omega) ?_ | refine bindP_mk (by simp (disch := first | omega | exact Int.natCast_nonneg _ | assumption) only [BB, decide_true, decide_false, Bool.not_true, Bool.not_false, Option.bind_some, T.get_upd_same, T.get_upd_ne, if_pos, Nat.zero_add, Nat.mul_one, Nat.add_zero, Int.toNat_natCast, ↓reduceIte, Nat.reduceLeDiff, Nat.reduceAdd, Nat.le_refl] <;> rfl) ?_ | refine newP_mk ?_ | refine optP_mk ?_ | with_reducible refine condP_t ?_ | with_reducible refine condP_f ?_ | with_reducible refine ifP_tt' ?_ | with_reducible refine ifP_ff' ?_ | with_reducible refine ifP_tf' ?_ | with_reducible refine ifP_ft' ?_ | with_reducible refine ifP_u' ?_ | refine optP_mk0 ?_))
            exact hj2 _ _ _ to best cv2 (by omega) y2 (y3.mono (by omega)) y4 y5 y6 hbest hlon2 e1 e3 e10 e11 e9 e12
        · (repeat (first | refine lss_t (by omega) ?_ | refine lss_f (by omega) ?_ | refine leq_t (by omega) ?_ | refine leq_f (by omega) ?_ | refine gtr_t (by omega) ?_ | refine gtr_f (by omega) ?_ | refine geq_t (by omega) ?_ | refine geq_f (by omega) ?_ | refine eql_t (by omega) ?_ | refine eql_f (by omega) ?_ | refine neq_t (by omega) ?_ | refine neq_f (by omega) ?_ | refine bindP_mk (by simp (disch := first | omega | exact Int.natCast_nonneg _ | assumption) only [BB, decide_true, decide_false, Bool.not_true, Bool.not_false, Option.bind_some, T.get_upd_same, T.get_upd_ne, if_pos, Nat.zero_add, Nat.mul_one, Nat.add_zero, Int.toNat_natCast, ↓reduceIte, Nat.reduceLeDiff, Nat.reduceAdd, Nat.le_refl] <;> rfl) ?_ | refine newP_mk ?_ | refine optP_mk ?_ | with_reducible refine condP_t ?_ | with_reducible refine condP_f ?_ | with_reducible refine ifP_tt' ?_ | with_reducible refine ifP_ff' ?_ | with_reducible refine ifP_tf' ?_ | with_reducible refine ifP_ft' ?_ | with_reducible refine ifP_u' ?_ | refine optP_mk0 ?_))
          have hend : ∀ (e' : Env) n, e' 10 = .int .i64 to → e' 11 = .int .i64 best → nx ≤ n → ref10_Longest_j1 ro K e' h' n := fun e' n f10 f11 hn => by
            unfold ref10_Longest_j1
            rw [f10, f11]
            rw [drop_all (by omega)] at hlon
            have hl : lon g startD 0 (-1) i ((bts s).drop i) = (to, best) := hlon.symm
            rw [hl] at hK
            unfold resD at hK
            refine lss_s (fun hb => ?_) (fun hb => ?_)
            · refine condP_t ⟨h, hsb, ?_⟩
              have := hK (n + 5) (by omega)
              rwa [if_pos hb] at this
            · refine condP_f ⟨h, hsb, ?_⟩
              have := hK (n + 7) (by omega)
              rwa [if_neg (by simp; omega)] at this
          refine hx _ _ _ _ (fun e => by cases e) (exP_e (beqP_t ?_))
          exact hend _ _ e10 e11 (by omega)
end V
end Go.Proofs.Ytepbdkfkfcckoaa

/- The laws NcaSteps, NcaLongest as the machine runs them.
   No condition. -/
set_option linter.unusedVariables false
set_option linter.unusedSimpArgs false
namespace Go.Proofs.Ytepbdkfkfcckoaa
namespace V
open PA
attribute [local irreducible] bindP ifP condP newP optP exP beqP
theorem okZ : zerosOk Try.prog = true := by kernel_rfl
theorem okN : namesOk Try.prog = true := by kernel_rfl
theorem okM : Try.prog.follows .mixedOrders = true := by kernel_rfl
theorem shown_orc : Orc Try.prog i_law10_shown (.bool true) := orc_ev okZ okN okM (k := 60) rfl (by kernel_rfl) fun ro => by kernel_rfl
theorem shown_c {ro : Ro} {h : T Obj} {nx : Nat} {K : KV} (hK : K (.bool true) h nx) : callP Try.prog ro i_law10_shown [] h nx K := callP_orc shown_orc hK
def fewD (g : GlD) : GlD := if 60 < g.p.length then ⟨[], []⟩ else g
theorem few_len (g : GlD) : (fewD g).p.length ≤ 60 := by
  unfold fewD
  split
  · simp
  · omega
theorem zer_Glush : zer Try.prog y_api_Glush = some (.agg #[.slice none 0 0, .slice none 0 0]) := by kernel_rfl
theorem build_Glush0 : buildV Try.prog y_api_Glush [] = some (.agg #[.slice none 0 0, .slice none 0 0]) := by kernel_rfl
theorem SlR.ok {D : Type} {ro : Ro} {h : T Obj} {v : Value} {z : Nat} {R : List Value → D → Prop} {l : List D} (hl : SlR ro h v z R l) : cellOk v = true := by obtain ⟨cs, h9, _⟩ := hl; exact h9.ok
theorem two_ok' {a b : Value} (h1 : cellOk a = true) (h2 : cellOk b = true) : [a, b].all cellOk = true := by simp [h1, h2]
set_option maxRecDepth 8000 in
theorem law10_few_c {ro : Ro} {v : Value} {g : GlD} {h : T Obj} {nx : Nat} {K : KV} (hf : Fr h nx) (hg : RG ro h v g) (hK : ∀ r nx', nx ≤ nx' → RG ro h r (fewD g) → K r h nx') : callP Try.prog ro i_law10_few [v] h nx K := by
  obtain ⟨a, b, rfl, ha, hP⟩ := hg
  apply law10_few_of
  unfold law10_few
  refine param_mk hf (Nat.le_refl _) fun h1 hs1 hf1 g1 _ => ?_
  refine bindP_mk zer_Glush ?_
  refine obj_mk hf1 (Nat.le_refl _) fun h2 hs2 hf2 g2 _ => ?_
  have g1 := hs2 _ _ g1
  have hl := hP.len
  unfold fewD at hK
  (repeat (first | refine lss_t (by omega) ?_ | refine lss_f (by omega) ?_ | refine leq_t (by omega) ?_ | refine leq_f (by omega) ?_ | refine gtr_t (by omega) ?_ | refine gtr_f (by omega) ?_ | refine geq_t (by omega) ?_ | refine geq_f (by omega) ?_ | refine eql_t (by omega) ?_ | refine eql_f (by omega) ?_ | refine neq_t (by omega) ?_ | refine neq_f (by omega) ?_ | refine bindP_mk (by simp (disch := first | omega | exact Int.natCast_nonneg _ | assumption) only [BB, decide_true, decide_false, Bool.not_true, Bool.not_false, Option.bind_some, T.get_upd_same, T.get_upd_ne, if_pos, Nat.zero_add, Nat.mul_one, Nat.add_zero, Int.toNat_natCast, ↓reduceIte, Nat.reduceLeDiff, Nat.reduceAdd, Nat.le_refl, g1, hl] <;> rfl) ?_ | refine newP_mk ?_ | refine optP_mk ?_ | with_reducible refine condP_t ?_ | with_reducible refine condP_f ?_ | with_reducible refine ifP_tt' ?_ | with_reducible refine ifP_ff' ?_ | with_reducible refine ifP_tf' ?_ | with_reducible refine ifP_ft' ?_ | with_reducible refine ifP_u' ?_ | refine optP_mk0 ?_))
  refine gtr_s (fun hgt => ?_) (fun hgt => ?_)
  · rw [if_pos (show 60 < g.p.length by omega)] at hK
    (repeat (first | refine lss_t (by omega) ?_ | refine lss_f (by omega) ?_ | refine leq_t (by omega) ?_ | refine leq_f (by omega) ?_ | refine gtr_t (by omega) ?_ | refine gtr_f (by omega) ?_ | refine geq_t (by omega) ?_ | refine geq_f (by omega) ?_ | refine eql_t (by omega) ?_ | refine eql_f (by omega) ?_ | refine neq_t (by omega) ?_ | refine neq_f (by omega) ?_ | refine bindP_mk (by simp (disch := first | omega | exact Int.natCast_nonneg _ | assumption) only [BB, decide_true, decide_false, Bool.not_true, Bool.not_false, Option.bind_some, T.get_upd_same, T.get_upd_ne, if_pos, Nat.zero_add, Nat.mul_one, Nat.add_zero, Int.toNat_natCast, ↓reduceIte, Nat.reduceLeDiff, Nat.reduceAdd, Nat.le_refl] <;> rfl) ?_ | refine newP_mk ?_ | refine optP_mk ?_ | with_reducible refine condP_t ?_ | with_reducible refine condP_f ?_ | with_reducible refine ifP_tt' ?_ | with_reducible refine ifP_ff' ?_ | with_reducible refine ifP_tf' ?_ | with_reducible refine ifP_ft' ?_ | with_reducible refine ifP_u' ?_ | refine optP_mk0 ?_))
    refine bindP_mk build_Glush0 ?_
    refine bindP_mk (storeA_own (l := [.slice none 0 0, .slice none 0 0]) (vs := [.slice none 0 0, .slice none 0 0]) g2 rfl rfl rfl rfl) ?_
    refine bindP_mk (loadA_all (l := [.slice none 0 0, .slice none 0 0]) (by rw [T.get_upd_same]) rfl) ?_
    exact ⟨h, (hs1.trans hs2).new hf (by omega), hK _ _ (by omega) ⟨_, _, rfl, Sl.nil, SlR.nil⟩⟩
  · rw [if_neg (show ¬ 60 < g.p.length by omega)] at hK
    (repeat (first | refine lss_t (by omega) ?_ | refine lss_f (by omega) ?_ | refine leq_t (by omega) ?_ | refine leq_f (by omega) ?_ | refine gtr_t (by omega) ?_ | refine gtr_f (by omega) ?_ | refine geq_t (by omega) ?_ | refine geq_f (by omega) ?_ | refine eql_t (by omega) ?_ | refine eql_f (by omega) ?_ | refine neq_t (by omega) ?_ | refine neq_f (by omega) ?_ | refine bindP_mk (by simp (disch := first | omega | exact Int.natCast_nonneg _ | assumption) only [BB, decide_true, decide_false, Bool.not_true, Bool.not_false, Option.bind_some, T.get_upd_same, T.get_upd_ne, if_pos, Nat.zero_add, Nat.mul_one, Nat.add_zero, Int.toNat_natCast, ↓reduceIte, Nat.reduceLeDiff, Nat.reduceAdd, Nat.le_refl] <;> rfl) ?_ | refine newP_mk ?_ | refine optP_mk ?_ | with_reducible refine condP_t ?_ | with_reducible refine condP_f ?_ | with_reducible refine ifP_tt' ?_ | with_reducible refine ifP_ff' ?_ | with_reducible refine ifP_tf' ?_ | with_reducible refine ifP_ft' ?_ | with_reducible refine ifP_u' ?_ | refine optP_mk0 ?_))
    refine bindP_mk (loadA_all (l := [a, b]) g1 rfl) ?_
    refine bindP_mk (storeA_own (l := [.slice none 0 0, .slice none 0 0]) (vs := [a, b]) g2 rfl rfl rfl (two_ok' ha.ok hP.ok)) ?_
    refine bindP_mk (loadA_all (l := [a, b]) (by rw [T.get_upd_same]) rfl) ?_
    exact ⟨h, (hs1.trans hs2).new hf (by omega), hK _ _ (by omega) ⟨_, _, rfl, ha, hP⟩⟩
theorem stepC_small (g : GlD) (c : CfgD) (b : Nat) : (StepC g c b).l.length ≤ 1000000 ∧ ∀ d ∈ (StepC g c b).l, d.n.length ≤ 1000000 := by
  unfold StepC
  by_cases h : rightC g c = true
  · rw [if_pos h]
    unfold rightC at h
    simp only [Bool.and_eq_true] at h
    have hs := step_fits (b := b) h.1 h.2
    have h1 := fits_len hs
    have h2 := right_len h.1
    exact ⟨by omega, fun d hd => by have := held_all h.1 hs d hd; omega⟩
  · rw [if_neg h]; simp
set_option maxRecDepth 8000 in
set_option maxHeartbeats 2000000 in
theorem law10_NcaSteps_c {ro : Ro} {v w : Value} {g : GlD} {c : CfgD} {b : Nat} (hb : b < 256) {h : T Obj} {nx : Nat} {K : KV} (hf : Fr h nx) (hg : RG ro h v g) (hc : RCfg ro h w c) (hK : ∀ h' nx', nx ≤ nx' → K (.bool true) h' nx') : callP Try.prog ro i_law10_NcaSteps [v, w, .int .u8 (b : Int)] h nx K := by
  obtain ⟨a, p, rfl, ha, hP⟩ := hg
  obtain ⟨a2, rfl, hl⟩ := hc
  apply law10_NcaSteps_of
  unfold law10_NcaSteps
  refine param_mk hf (Nat.le_refl _) fun h1 hs1 hf1 g1 _ => ?_
  refine param_mk hf1 (Nat.le_refl _) fun h2 hs2 hf2 g2 _ => ?_
  have g1 := hs2 _ _ g1
  have hs := hs1.trans hs2
  have hG : RG ro h2 (.agg #[a, p]) g := ⟨a, p, rfl, ha.sub hs, hP.sub hs (RPos.sub hs)⟩
  have hC : RCfg ro h2 (.agg #[.bool c.b, a2]) c := ⟨a2, rfl, hl.sub hs (RHeld.sub hs)⟩
  refine bindP_mk (loadA_all (l := [a, p]) g1 rfl) ?_
  refine law10_few_c (hf2.mono (by omega)) hG fun r n6 hn6 hG6 => ?_
  generalize fewD g = x at hG6
  obtain ⟨a6, p6, rfl, ha6, hP6⟩ := hG6
  refine local_mk (x := [a6, p6]) zer_Glush rfl rfl rfl (two_ok' ha6.ok hP6.ok) (hf2.mono (by omega)) (Nat.le_refl _) fun h3 hs3 hf3 g3 _ => ?_
  have g2 := hs3 _ _ g2
  have hG3 : RG ro h3 (.agg #[a6, p6]) x := ⟨a6, p6, rfl, ha6.sub hs3, hP6.sub hs3 (RPos.sub hs3)⟩
  have hC3 := hC.sub hs3
  have L3 := loadA_all (ro := ro) (z := 0) (n := 2) (l := [a6, p6]) g3 rfl
  have L2 := loadA_all (ro := ro) (z := 0) (n := 2) (l := [.bool c.b, a2]) g2 rfl
  refine shown_c ?_
  (repeat (first | refine lss_t (by omega) ?_ | refine lss_f (by omega) ?_ | refine leq_t (by omega) ?_ | refine leq_f (by omega) ?_ | refine gtr_t (by omega) ?_ | refine gtr_f (by omega) ?_ | refine geq_t (by omega) ?_ | refine geq_f (by omega) ?_ | refine eql_t (by omega) ?_ | refine eql_f (by omega) ?_ | refine neq_t (by omega) ?_ | refine neq_f (by omega) ?_ | refine bindP_mk (by simp (disch := first | omega | exact Int.natCast_nonneg _ | assumption) only [BB, decide_true, decide_false, Bool.not_true, Bool.not_false, Option.bind_some, T.get_upd_same, T.get_upd_ne, if_pos, Nat.zero_add, Nat.mul_one, Nat.add_zero, Int.toNat_natCast, ↓reduceIte, Nat.reduceLeDiff, Nat.reduceAdd, Nat.le_refl, L3, L2] <;> rfl) ?_ | refine newP_mk ?_ | refine optP_mk ?_ | with_reducible refine condP_t ?_ | with_reducible refine condP_f ?_ | with_reducible refine ifP_tt' ?_ | with_reducible refine ifP_ff' ?_ | with_reducible refine ifP_tf' ?_ | with_reducible refine ifP_ft' ?_ | with_reducible refine ifP_u' ?_ | refine optP_mk0 ?_))
  refine nca_Right_c (hf3.mono (by omega)) hG3 hC3 fun n7 hn7 => ?_
  (repeat (first | refine lss_t (by omega) ?_ | refine lss_f (by omega) ?_ | refine leq_t (by omega) ?_ | refine leq_f (by omega) ?_ | refine gtr_t (by omega) ?_ | refine gtr_f (by omega) ?_ | refine geq_t (by omega) ?_ | refine geq_f (by omega) ?_ | refine eql_t (by omega) ?_ | refine eql_f (by omega) ?_ | refine neq_t (by omega) ?_ | refine neq_f (by omega) ?_ | refine bindP_mk (by simp (disch := first | omega | exact Int.natCast_nonneg _ | assumption) only [BB, decide_true, decide_false, Bool.not_true, Bool.not_false, Option.bind_some, T.get_upd_same, T.get_upd_ne, if_pos, Nat.zero_add, Nat.mul_one, Nat.add_zero, Int.toNat_natCast, ↓reduceIte, Nat.reduceLeDiff, Nat.reduceAdd, Nat.le_refl, L3, L2] <;> rfl) ?_ | refine newP_mk ?_ | refine optP_mk ?_ | with_reducible refine condP_t ?_ | with_reducible refine condP_f ?_ | with_reducible refine ifP_tt' ?_ | with_reducible refine ifP_ff' ?_ | with_reducible refine ifP_tf' ?_ | with_reducible refine ifP_ft' ?_ | with_reducible refine ifP_u' ?_ | refine optP_mk0 ?_))
  refine ⟨fun _ => sameV_own g3 g3, ?_⟩
  (repeat (first | refine lss_t (by omega) ?_ | refine lss_f (by omega) ?_ | refine leq_t (by omega) ?_ | refine leq_f (by omega) ?_ | refine gtr_t (by omega) ?_ | refine gtr_f (by omega) ?_ | refine geq_t (by omega) ?_ | refine geq_f (by omega) ?_ | refine eql_t (by omega) ?_ | refine eql_f (by omega) ?_ | refine neq_t (by omega) ?_ | refine neq_f (by omega) ?_ | refine bindP_mk (by simp (disch := first | omega | exact Int.natCast_nonneg _ | assumption) only [BB, decide_true, decide_false, Bool.not_true, Bool.not_false, Option.bind_some, T.get_upd_same, T.get_upd_ne, if_pos, Nat.zero_add, Nat.mul_one, Nat.add_zero, Int.toNat_natCast, ↓reduceIte, Nat.reduceLeDiff, Nat.reduceAdd, Nat.le_refl, L3, L2] <;> rfl) ?_ | refine newP_mk ?_ | refine optP_mk ?_ | with_reducible refine condP_t ?_ | with_reducible refine condP_f ?_ | with_reducible refine ifP_tt' ?_ | with_reducible refine ifP_ff' ?_ | with_reducible refine ifP_tf' ?_ | with_reducible refine ifP_ft' ?_ | with_reducible refine ifP_u' ?_ | refine optP_mk0 ?_))
  refine ⟨fun _ => sameV_own g2 g2, ?_⟩
  (repeat (first | refine lss_t (by omega) ?_ | refine lss_f (by omega) ?_ | refine leq_t (by omega) ?_ | refine leq_f (by omega) ?_ | refine gtr_t (by omega) ?_ | refine gtr_f (by omega) ?_ | refine geq_t (by omega) ?_ | refine geq_f (by omega) ?_ | refine eql_t (by omega) ?_ | refine eql_f (by omega) ?_ | refine neq_t (by omega) ?_ | refine neq_f (by omega) ?_ | refine bindP_mk (by simp (disch := first | omega | exact Int.natCast_nonneg _ | assumption) only [BB, decide_true, decide_false, Bool.not_true, Bool.not_false, Option.bind_some, T.get_upd_same, T.get_upd_ne, if_pos, Nat.zero_add, Nat.mul_one, Nat.add_zero, Int.toNat_natCast, ↓reduceIte, Nat.reduceLeDiff, Nat.reduceAdd, Nat.le_refl, L3, L2] <;> rfl) ?_ | refine newP_mk ?_ | refine optP_mk ?_ | with_reducible refine condP_t ?_ | with_reducible refine condP_f ?_ | with_reducible refine ifP_tt' ?_ | with_reducible refine ifP_ff' ?_ | with_reducible refine ifP_tf' ?_ | with_reducible refine ifP_ft' ?_ | with_reducible refine ifP_u' ?_ | refine optP_mk0 ?_))
  refine ref10_Right_c (hf3.mono (by omega)) hG3 hC3 fun n8 hn8 => ?_
  (repeat (first | refine lss_t (by omega) ?_ | refine lss_f (by omega) ?_ | refine leq_t (by omega) ?_ | refine leq_f (by omega) ?_ | refine gtr_t (by omega) ?_ | refine gtr_f (by omega) ?_ | refine geq_t (by omega) ?_ | refine geq_f (by omega) ?_ | refine eql_t (by omega) ?_ | refine eql_f (by omega) ?_ | refine neq_t (by omega) ?_ | refine neq_f (by omega) ?_ | refine bindP_mk (by simp (disch := first | omega | exact Int.natCast_nonneg _ | assumption) only [BB, decide_true, decide_false, Bool.not_true, Bool.not_false, Option.bind_some, T.get_upd_same, T.get_upd_ne, if_pos, Nat.zero_add, Nat.mul_one, Nat.add_zero, Int.toNat_natCast, ↓reduceIte, Nat.reduceLeDiff, Nat.reduceAdd, Nat.le_refl] <;> rfl) ?_ | refine newP_mk ?_ | refine optP_mk ?_ | with_reducible refine condP_t ?_ | with_reducible refine condP_f ?_ | with_reducible refine ifP_tt' ?_ | with_reducible refine ifP_ff' ?_ | with_reducible refine ifP_tf' ?_ | with_reducible refine ifP_ft' ?_ | with_reducible refine ifP_u' ?_ | refine optP_mk0 ?_))
  rw [show (rightC x c == rightC x c) = true by simp]
  (repeat (first | refine lss_t (by omega) ?_ | refine lss_f (by omega) ?_ | refine leq_t (by omega) ?_ | refine leq_f (by omega) ?_ | refine gtr_t (by omega) ?_ | refine gtr_f (by omega) ?_ | refine geq_t (by omega) ?_ | refine geq_f (by omega) ?_ | refine eql_t (by omega) ?_ | refine eql_f (by omega) ?_ | refine neq_t (by omega) ?_ | refine neq_f (by omega) ?_ | refine bindP_mk (by simp (disch := first | omega | exact Int.natCast_nonneg _ | assumption) only [BB, decide_true, decide_false, Bool.not_true, Bool.not_false, Option.bind_some, T.get_upd_same, T.get_upd_ne, if_pos, Nat.zero_add, Nat.mul_one, Nat.add_zero, Int.toNat_natCast, ↓reduceIte, Nat.reduceLeDiff, Nat.reduceAdd, Nat.le_refl, L3, L2] <;> rfl) ?_ | refine newP_mk ?_ | refine optP_mk ?_ | with_reducible refine condP_t ?_ | with_reducible refine condP_f ?_ | with_reducible refine ifP_tt' ?_ | with_reducible refine ifP_ff' ?_ | with_reducible refine ifP_tf' ?_ | with_reducible refine ifP_ft' ?_ | with_reducible refine ifP_u' ?_ | refine optP_mk0 ?_))
  refine nca_Step_c hb (hf3.mono (by omega)) hG3 hC3 fun r4 h4 n9 hn9 q1 q2 q3 => ?_
  have hG4 := hG3.sub q1
  have hC4 := hC3.sub q1
  have g24 := q1 _ _ g2
  have g34 := q1 _ _ g3
  have L34 := loadA_all (ro := ro) (z := 0) (n := 2) (l := [a6, p6]) g34 rfl
  have L24 := loadA_all (ro := ro) (z := 0) (n := 2) (l := [.bool c.b, a2]) g24 rfl
  (repeat (first | refine lss_t (by omega) ?_ | refine lss_f (by omega) ?_ | refine leq_t (by omega) ?_ | refine leq_f (by omega) ?_ | refine gtr_t (by omega) ?_ | refine gtr_f (by omega) ?_ | refine geq_t (by omega) ?_ | refine geq_f (by omega) ?_ | refine eql_t (by omega) ?_ | refine eql_f (by omega) ?_ | refine neq_t (by omega) ?_ | refine neq_f (by omega) ?_ | refine bindP_mk (by simp (disch := first | omega | exact Int.natCast_nonneg _ | assumption) only [BB, decide_true, decide_false, Bool.not_true, Bool.not_false, Option.bind_some, T.get_upd_same, T.get_upd_ne, if_pos, Nat.zero_add, Nat.mul_one, Nat.add_zero, Int.toNat_natCast, ↓reduceIte, Nat.reduceLeDiff, Nat.reduceAdd, Nat.le_refl, L34, L24] <;> rfl) ?_ | refine newP_mk ?_ | refine optP_mk ?_ | with_reducible refine condP_t ?_ | with_reducible refine condP_f ?_ | with_reducible refine ifP_tt' ?_ | with_reducible refine ifP_ff' ?_ | with_reducible refine ifP_tf' ?_ | with_reducible refine ifP_ft' ?_ | with_reducible refine ifP_u' ?_ | refine optP_mk0 ?_))
  refine ⟨fun _ => sameV_own g3 g34, ?_⟩
  (repeat (first | refine lss_t (by omega) ?_ | refine lss_f (by omega) ?_ | refine leq_t (by omega) ?_ | refine leq_f (by omega) ?_ | refine gtr_t (by omega) ?_ | refine gtr_f (by omega) ?_ | refine geq_t (by omega) ?_ | refine geq_f (by omega) ?_ | refine eql_t (by omega) ?_ | refine eql_f (by omega) ?_ | refine neq_t (by omega) ?_ | refine neq_f (by omega) ?_ | refine bindP_mk (by simp (disch := first | omega | exact Int.natCast_nonneg _ | assumption) only [BB, decide_true, decide_false, Bool.not_true, Bool.not_false, Option.bind_some, T.get_upd_same, T.get_upd_ne, if_pos, Nat.zero_add, Nat.mul_one, Nat.add_zero, Int.toNat_natCast, ↓reduceIte, Nat.reduceLeDiff, Nat.reduceAdd, Nat.le_refl, L34, L24] <;> rfl) ?_ | refine newP_mk ?_ | refine optP_mk ?_ | with_reducible refine condP_t ?_ | with_reducible refine condP_f ?_ | with_reducible refine ifP_tt' ?_ | with_reducible refine ifP_ff' ?_ | with_reducible refine ifP_tf' ?_ | with_reducible refine ifP_ft' ?_ | with_reducible refine ifP_u' ?_ | refine optP_mk0 ?_))
  refine ⟨fun _ => sameV_own g2 g24, ?_⟩
  (repeat (first | refine lss_t (by omega) ?_ | refine lss_f (by omega) ?_ | refine leq_t (by omega) ?_ | refine leq_f (by omega) ?_ | refine gtr_t (by omega) ?_ | refine gtr_f (by omega) ?_ | refine geq_t (by omega) ?_ | refine geq_f (by omega) ?_ | refine eql_t (by omega) ?_ | refine eql_f (by omega) ?_ | refine neq_t (by omega) ?_ | refine neq_f (by omega) ?_ | refine bindP_mk (by simp (disch := first | omega | exact Int.natCast_nonneg _ | assumption) only [BB, decide_true, decide_false, Bool.not_true, Bool.not_false, Option.bind_some, T.get_upd_same, T.get_upd_ne, if_pos, Nat.zero_add, Nat.mul_one, Nat.add_zero, Int.toNat_natCast, ↓reduceIte, Nat.reduceLeDiff, Nat.reduceAdd, Nat.le_refl, L34, L24] <;> rfl) ?_ | refine newP_mk ?_ | refine optP_mk ?_ | with_reducible refine condP_t ?_ | with_reducible refine condP_f ?_ | with_reducible refine ifP_tt' ?_ | with_reducible refine ifP_ff' ?_ | with_reducible refine ifP_tf' ?_ | with_reducible refine ifP_ft' ?_ | with_reducible refine ifP_u' ?_ | refine optP_mk0 ?_))
  refine ref10_Step_c hb (q2.mono (by omega)) hG4 hC4 fun r5 h5 n10 hn10 u1 u2 u3 => ?_
  obtain ⟨z1, z2⟩ := stepC_small x c b
  (repeat (first | refine lss_t (by omega) ?_ | refine lss_f (by omega) ?_ | refine leq_t (by omega) ?_ | refine leq_f (by omega) ?_ | refine gtr_t (by omega) ?_ | refine gtr_f (by omega) ?_ | refine geq_t (by omega) ?_ | refine geq_f (by omega) ?_ | refine eql_t (by omega) ?_ | refine eql_f (by omega) ?_ | refine neq_t (by omega) ?_ | refine neq_f (by omega) ?_ | refine bindP_mk (by simp (disch := first | omega | exact Int.natCast_nonneg _ | assumption) only [BB, decide_true, decide_false, Bool.not_true, Bool.not_false, Option.bind_some, T.get_upd_same, T.get_upd_ne, if_pos, Nat.zero_add, Nat.mul_one, Nat.add_zero, Int.toNat_natCast, ↓reduceIte, Nat.reduceLeDiff, Nat.reduceAdd, Nat.le_refl] <;> rfl) ?_ | refine newP_mk ?_ | refine optP_mk ?_ | with_reducible refine condP_t ?_ | with_reducible refine condP_f ?_ | with_reducible refine ifP_tt' ?_ | with_reducible refine ifP_ff' ?_ | with_reducible refine ifP_tf' ?_ | with_reducible refine ifP_ft' ?_ | with_reducible refine ifP_u' ?_ | refine optP_mk0 ?_))
  refine ref10_Same_c z1 z2 (u2.mono (by omega)) (q3.sub u1) u3 fun n11 hn11 => ?_
  have hG5 := hG4.sub u1
  have hC5 := hC4.sub u1
  have g25 := u1 _ _ g24
  have g35 := u1 _ _ g34
  have L35 := loadA_all (ro := ro) (z := 0) (n := 2) (l := [a6, p6]) g35 rfl
  have L25 := loadA_all (ro := ro) (z := 0) (n := 2) (l := [.bool c.b, a2]) g25 rfl
  (repeat (first | refine lss_t (by omega) ?_ | refine lss_f (by omega) ?_ | refine leq_t (by omega) ?_ | refine leq_f (by omega) ?_ | refine gtr_t (by omega) ?_ | refine gtr_f (by omega) ?_ | refine geq_t (by omega) ?_ | refine geq_f (by omega) ?_ | refine eql_t (by omega) ?_ | refine eql_f (by omega) ?_ | refine neq_t (by omega) ?_ | refine neq_f (by omega) ?_ | refine bindP_mk (by simp (disch := first | omega | exact Int.natCast_nonneg _ | assumption) only [BB, decide_true, decide_false, Bool.not_true, Bool.not_false, Option.bind_some, T.get_upd_same, T.get_upd_ne, if_pos, Nat.zero_add, Nat.mul_one, Nat.add_zero, Int.toNat_natCast, ↓reduceIte, Nat.reduceLeDiff, Nat.reduceAdd, Nat.le_refl, L35, L25] <;> rfl) ?_ | refine newP_mk ?_ | refine optP_mk ?_ | with_reducible refine condP_t ?_ | with_reducible refine condP_f ?_ | with_reducible refine ifP_tt' ?_ | with_reducible refine ifP_ff' ?_ | with_reducible refine ifP_tf' ?_ | with_reducible refine ifP_ft' ?_ | with_reducible refine ifP_u' ?_ | refine optP_mk0 ?_))
  refine nca_Rule_c (u2.mono (by omega)) hG5 hC5 fun n12 hn12 => ?_
  (repeat (first | refine lss_t (by omega) ?_ | refine lss_f (by omega) ?_ | refine leq_t (by omega) ?_ | refine leq_f (by omega) ?_ | refine gtr_t (by omega) ?_ | refine gtr_f (by omega) ?_ | refine geq_t (by omega) ?_ | refine geq_f (by omega) ?_ | refine eql_t (by omega) ?_ | refine eql_f (by omega) ?_ | refine neq_t (by omega) ?_ | refine neq_f (by omega) ?_ | refine bindP_mk (by simp (disch := first | omega | exact Int.natCast_nonneg _ | assumption) only [BB, decide_true, decide_false, Bool.not_true, Bool.not_false, Option.bind_some, T.get_upd_same, T.get_upd_ne, if_pos, Nat.zero_add, Nat.mul_one, Nat.add_zero, Int.toNat_natCast, ↓reduceIte, Nat.reduceLeDiff, Nat.reduceAdd, Nat.le_refl, L35, L25] <;> rfl) ?_ | refine newP_mk ?_ | refine optP_mk ?_ | with_reducible refine condP_t ?_ | with_reducible refine condP_f ?_ | with_reducible refine ifP_tt' ?_ | with_reducible refine ifP_ff' ?_ | with_reducible refine ifP_tf' ?_ | with_reducible refine ifP_ft' ?_ | with_reducible refine ifP_u' ?_ | refine optP_mk0 ?_))
  refine ⟨fun _ => sameV_own g35 g35, ?_⟩
  (repeat (first | refine lss_t (by omega) ?_ | refine lss_f (by omega) ?_ | refine leq_t (by omega) ?_ | refine leq_f (by omega) ?_ | refine gtr_t (by omega) ?_ | refine gtr_f (by omega) ?_ | refine geq_t (by omega) ?_ | refine geq_f (by omega) ?_ | refine eql_t (by omega) ?_ | refine eql_f (by omega) ?_ | refine neq_t (by omega) ?_ | refine neq_f (by omega) ?_ | refine bindP_mk (by simp (disch := first | omega | exact Int.natCast_nonneg _ | assumption) only [BB, decide_true, decide_false, Bool.not_true, Bool.not_false, Option.bind_some, T.get_upd_same, T.get_upd_ne, if_pos, Nat.zero_add, Nat.mul_one, Nat.add_zero, Int.toNat_natCast, ↓reduceIte, Nat.reduceLeDiff, Nat.reduceAdd, Nat.le_refl, L35, L25] <;> rfl) ?_ | refine newP_mk ?_ | refine optP_mk ?_ | with_reducible refine condP_t ?_ | with_reducible refine condP_f ?_ | with_reducible refine ifP_tt' ?_ | with_reducible refine ifP_ff' ?_ | with_reducible refine ifP_tf' ?_ | with_reducible refine ifP_ft' ?_ | with_reducible refine ifP_u' ?_ | refine optP_mk0 ?_))
  refine ⟨fun _ => sameV_own g25 g25, ?_⟩
  (repeat (first | refine lss_t (by omega) ?_ | refine lss_f (by omega) ?_ | refine leq_t (by omega) ?_ | refine leq_f (by omega) ?_ | refine gtr_t (by omega) ?_ | refine gtr_f (by omega) ?_ | refine geq_t (by omega) ?_ | refine geq_f (by omega) ?_ | refine eql_t (by omega) ?_ | refine eql_f (by omega) ?_ | refine neq_t (by omega) ?_ | refine neq_f (by omega) ?_ | refine bindP_mk (by simp (disch := first | omega | exact Int.natCast_nonneg _ | assumption) only [BB, decide_true, decide_false, Bool.not_true, Bool.not_false, Option.bind_some, T.get_upd_same, T.get_upd_ne, if_pos, Nat.zero_add, Nat.mul_one, Nat.add_zero, Int.toNat_natCast, ↓reduceIte, Nat.reduceLeDiff, Nat.reduceAdd, Nat.le_refl, L35, L25] <;> rfl) ?_ | refine newP_mk ?_ | refine optP_mk ?_ | with_reducible refine condP_t ?_ | with_reducible refine condP_f ?_ | with_reducible refine ifP_tt' ?_ | with_reducible refine ifP_ff' ?_ | with_reducible refine ifP_tf' ?_ | with_reducible refine ifP_ft' ?_ | with_reducible refine ifP_u' ?_ | refine optP_mk0 ?_))
  refine ref10_Rule_c (u2.mono (by omega)) hG5 hC5 fun n13 hn13 => ?_
  (repeat (first | refine lss_t (by omega) ?_ | refine lss_f (by omega) ?_ | refine leq_t (by omega) ?_ | refine leq_f (by omega) ?_ | refine gtr_t (by omega) ?_ | refine gtr_f (by omega) ?_ | refine geq_t (by omega) ?_ | refine geq_f (by omega) ?_ | refine eql_t (by omega) ?_ | refine eql_f (by omega) ?_ | refine neq_t (by omega) ?_ | refine neq_f (by omega) ?_ | refine bindP_mk (by simp (disch := first | omega | exact Int.natCast_nonneg _ | assumption) only [BB, decide_true, decide_false, Bool.not_true, Bool.not_false, Option.bind_some, T.get_upd_same, T.get_upd_ne, if_pos, Nat.zero_add, Nat.mul_one, Nat.add_zero, Int.toNat_natCast, ↓reduceIte, Nat.reduceLeDiff, Nat.reduceAdd, Nat.le_refl] <;> rfl) ?_ | refine newP_mk ?_ | refine optP_mk ?_ | with_reducible refine condP_t ?_ | with_reducible refine condP_f ?_ | with_reducible refine ifP_tt' ?_ | with_reducible refine ifP_ff' ?_ | with_reducible refine ifP_tf' ?_ | with_reducible refine ifP_ft' ?_ | with_reducible refine ifP_u' ?_ | refine optP_mk0 ?_))
  exact ⟨_, Sub.refl _, hK _ _ (by omega)⟩
theorem min_int (h : T Obj) (ts : Array TypeId) (a b : Int) : builtinQ Try.prog h .min ts [.int .i64 a, .int .i64 b] = some (.int .i64 (min a b)) := by
  unfold builtinQ
  simp only [minL_eq, minL, minB]
  by_cases e : b < a
  · simp only [e, decide_true]; congr 2; omega
  · simp only [e, decide_false]; congr 2; omega
theorem und_str : und Try.prog y_string = some .string := by kernel_rfl
theorem slice_str {s : ByteArray} {n : Nat} (hn : n ≤ s.size) : sliceV Try.prog y_string (.string s) none (some (.int .i64 (n : Int))) none = some (.string (s.extract 0 n)) := by
  have hb : Nat.ble n s.size = true := Nat.ble_eq_true_of_le hn
  have hnv : natV (.int .i64 (n : Int)) = some n := by simp [natV]
  unfold sliceV
  simp only [und_str, boundV, hnv, Option.bind, hb]
theorem bts_extract (s : ByteArray) (n : Nat) : bts (s.extract 0 n) = (bts s).take n := by
  unfold bts
  rw [← List.map_take]
  congr 1
  simp
def fewW (s : ByteArray) : ByteArray := s.extract 0 (min s.size 60)
theorem fewW_len (s : ByteArray) : (bts (fewW s)).length ≤ 60 := by
  unfold fewW
  rw [bts_extract, List.length_take]; omega
set_option maxRecDepth 8000 in
set_option maxHeartbeats 2000000 in
theorem law10_NcaLongest_c {ro : Ro} {v : Value} {g : GlD} {s : ByteArray} {from_ : Int} {h : T Obj} {nx : Nat} {K : KV} (hf : Fr h nx) (hg : RG ro h v g) (hK : ∀ h' nx', nx ≤ nx' → K (.bool true) h' nx') : callP Try.prog ro i_law10_NcaLongest [v, .string s, .int .i64 from_] h nx K := by
  obtain ⟨a, p, rfl, ha, hP⟩ := hg
  apply law10_NcaLongest_of
  unfold law10_NcaLongest
  refine param_mk hf (Nat.le_refl _) fun h1 hs1 hf1 g1 _ => ?_
  have hG : RG ro h1 (.agg #[a, p]) g := ⟨a, p, rfl, ha.sub hs1, hP.sub hs1 (RPos.sub hs1)⟩
  refine bindP_mk (loadA_all (l := [a, p]) g1 rfl) ?_
  refine law10_few_c (hf1.mono (by omega)) hG fun r n6 hn6 hG6 => ?_
  generalize fewD g = x at hG6
  obtain ⟨a6, p6, rfl, ha6, hP6⟩ := hG6
  refine bindP_mk (lenStr_bts s) ?_
  refine bindP_mk (min_int _ _ _ _) ?_
  rw [bts_len, show min ((s.size : Nat) : Int) 60 = ((min s.size 60 : Nat) : Int) by omega]
  refine bindP_mk (slice_str (by omega)) ?_
  have hw := fewW_len s
  change (bts (s.extract 0 (min s.size 60))).length ≤ 60 at hw
  generalize s.extract 0 (min s.size 60) = y at hw
  refine local_mk (x := [a6, p6]) zer_Glush rfl rfl rfl (two_ok' ha6.ok hP6.ok) hf1 (by omega) fun h3 hs3 hf3 g3 _ => ?_
  have hG3 : RG ro h3 (.agg #[a6, p6]) x := ⟨a6, p6, rfl, ha6.sub hs3, hP6.sub hs3 (RPos.sub hs3)⟩
  have L3 := loadA_all (ro := ro) (z := 0) (n := 2) (l := [a6, p6]) g3 rfl
  refine bindP_mk L3 ?_
  refine nca_Longest_c (by omega) (hf3.mono (by omega)) hG3 fun n7 hn7 => ?_
  generalize hR : longF x (bts y) from_ = R
  refine bindP_mk (a := .int .i64 R.1) rfl (bindP_mk (a := .int .i64 R.2.1) rfl (bindP_mk (a := .bool R.2.2) rfl ?_))
  refine bindP_mk L3 ?_
  refine ref10_Longest_c (by omega) (hf3.mono (by omega)) hG3 fun n8 hn8 => ?_
  rw [hR]
  refine bindP_mk (a := .int .i64 R.1) rfl (bindP_mk (a := .int .i64 R.2.1) rfl (bindP_mk (a := .bool R.2.2) rfl ?_))
  refine shown_c ?_
  (repeat (first | refine lss_t (by omega) ?_ | refine lss_f (by omega) ?_ | refine leq_t (by omega) ?_ | refine leq_f (by omega) ?_ | refine gtr_t (by omega) ?_ | refine gtr_f (by omega) ?_ | refine geq_t (by omega) ?_ | refine geq_f (by omega) ?_ | refine eql_t (by omega) ?_ | refine eql_f (by omega) ?_ | refine neq_t (by omega) ?_ | refine neq_f (by omega) ?_ | refine bindP_mk (by simp (disch := first | omega | exact Int.natCast_nonneg _ | assumption) only [BB, decide_true, decide_false, Bool.not_true, Bool.not_false, Option.bind_some, T.get_upd_same, T.get_upd_ne, if_pos, Nat.zero_add, Nat.mul_one, Nat.add_zero, Int.toNat_natCast, ↓reduceIte, Nat.reduceLeDiff, Nat.reduceAdd, Nat.le_refl] <;> rfl) ?_ | refine newP_mk ?_ | refine optP_mk ?_ | with_reducible refine condP_t ?_ | with_reducible refine condP_f ?_ | with_reducible refine ifP_tt' ?_ | with_reducible refine ifP_ff' ?_ | with_reducible refine ifP_tf' ?_ | with_reducible refine ifP_ft' ?_ | with_reducible refine ifP_u' ?_ | refine optP_mk0 ?_))
  rw [show (R.2.2 == R.2.2) = true by simp]
  exact ⟨_, Sub.refl _, hK _ _ (by omega)⟩
end V
end Go.Proofs.Ytepbdkfkfcckoaa
