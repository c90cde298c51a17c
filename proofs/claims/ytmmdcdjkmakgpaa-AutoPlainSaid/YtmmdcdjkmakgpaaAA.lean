/- Bytes dealt to classes, as the machine reads them; what Right (both) hands back.
   No condition. -/
import Derived.Test.YtmmdcdjkmakgpaaG
import Derived.Test.YtmmdcdjkmakgpaaW1
import Derived.Test.YtmmdcdjkmakgpaaNA
set_option linter.unusedVariables false
set_option linter.unusedSimpArgs false
namespace Go.Proofs.Ytmmdcdjkmakgpaa
namespace V
attribute [local irreducible] bindP ifP condP newP optP exP beqP
def u8s (l : List Nat) : List Value := l.map fun b : Nat => Value.int .u8 (b : Int)
theorem u8s_len (l : List Nat) : (u8s l).length = l.length := by simp [u8s]
def splitLI (c : List Nat) (n : Int) : List Value := u8s c ++ [.int .i64 n]
def splitI (c : List Nat) (n : Int) : Value := .agg (splitLI c n).toArray
theorem splitI_cells (c : List Nat) (n : Int) : (splitI c n).cells = (splitLI c n).toArray := rfl
theorem splitLI_len {c : List Nat} {n : Int} (hc : c.length = 256) : (splitLI c n).length = 257 := by simp [splitLI, u8s_len, hc]
theorem splitLI_ok (c : List Nat) (n : Int) : (splitLI c n).all cellOk = true := by simp [splitLI, u8s, cellOk]
theorem splitLI_get {c : List Nat} {n : Int} {i : Nat} (hi : i < c.length) : (splitLI c n)[i]? = some (.int .u8 (c[i] : Nat)) := by
  unfold splitLI
  rw [List.getElem?_append_left (by rw [u8s_len]; exact hi)]
  simp [u8s, hi]
theorem splitLI_many {c : List Nat} {n : Int} (hc : c.length = 256) : (splitLI c n)[256]? = some (.int .i64 n) := by
  unfold splitLI
  rw [List.getElem?_append_right (by rw [u8s_len]; omega)]
  simp [u8s_len, hc]
theorem loadA_of {ro : Ro} {h : T Obj} {id z n : Nat} {c : List Nat} {m : Int} {e : TypeId} {f : Nat × Nat} (hg : h.get id = some (.cells (splitLI c m).toArray e f)) (hc : c.length = 256) : loadA ro h 256 (at_ id 0 z) = some (.agg (u8s c).toArray) := by
  rw [loadA_own, hg, cellsIn_some]
  simp only [Option.bind_some, tl]
  rw [if_pos (by rw [splitLI_len hc]; omega), List.drop_zero]
  unfold splitLI
  rw [List.take_append_of_le_length (by rw [u8s_len]; omega), List.take_of_length_le (by rw [u8s_len]; omega)]
theorem ixA1_u8s {c : List Nat} {i : Nat} (k : IntKind) (hi : i < c.length) (hc : c.length = 256) : ixA1 256 1 (.agg (u8s c).toArray) (.int k (i : Int)) = some (.int .u8 (c[i] : Nat)) := by
  have hn : natV (.int k (i : Int)) = some i := by simp [natV]
  have hb : Nat.blt i 256 = true := by simp [Nat.blt]; omega
  unfold ixA1
  rw [hn]
  simp only [Option.bind_some, asAgg, hb, Nat.mul_one, List.getElem?_toArray]
  simp [u8s, hi]
/-- Are bytes dealt in the order of their classes? Below one: how many classes. -/
def rt (c : List Nat) : Nat → Option Nat
  | 0 => some 0
  | i + 1 => (rt c i).bind fun m => if m < c.getD i 0 then none else if c.getD i 0 = m then some (m + 1) else some m
def rightB (c : List Nat) (n : Int) : Bool := match rt c 256 with
  | some m => decide ((m : Int) = n)
  | none => false
theorem rt_le {c : List Nat} : ∀ {i m : Nat}, rt c i = some m → m ≤ i
  | 0, m, h => by cases h; exact Nat.le_refl _
  | i + 1, m, h => by
    obtain ⟨m0, h1, h2⟩ := bind_some' h
    have := rt_le h1
    split at h2
    · cases h2
    · split at h2 <;> cases h2 <;> omega
theorem rt_none {c : List Nat} {i : Nat} (h : rt c i = none) : ∀ j, i ≤ j → rt c j = none := by
  intro j hj
  induction hj with
  | refl => exact h
  | step _ ih => simp only [rt, ih, Option.bind]
set_option maxRecDepth 4000 in
theorem split_Right_c {ro : Ro} {c : List Nat} {n : Int} (hc : c.length = 256) (hcl : ∀ x ∈ c, x < 256) {h : T Obj} {nx : Nat} {K : KV} (hf : Fr h nx) (hK : ∀ nx', nx ≤ nx' → K (.bool (rightB c n)) h nx') : callP Try.prog ro i_split_Right [splitI c n] h nx K := by
  apply split_Right_of
  unfold split_Right
  refine newP_mk ?_
  (repeat (first | refine bindP_mk (by simp (disch := first | omega | exact Int.natCast_nonneg _ | assumption) only [BB, B2, ↓reduceIte, Nat.reduceLeDiff, Nat.reduceAdd, intB_eql, intB_neq, intB_lss, intB_leq, intB_gtr, intB_geq] <;> rfl) ?_ | refine newP_mk ?_ | refine optP_mk ?_ | with_reducible first | refine condP_t ?_ | refine condP_f ?_ | refine ifP_tt' ?_ | refine ifP_ff' ?_ | refine ifP_tf' ?_ | refine ifP_ft' ?_ | refine ifP_u' ?_ | refine optP_mk0 ?_))
  refine bindP_mk (loadA_of (n := 0) (c := c) (m := n) (e := y_api_Split) (f := (0, 0)) (by simp (disch := first | omega | exact Int.natCast_nonneg _ | assumption) only [BB, B2, ↓reduceIte, Nat.reduceLeDiff, Nat.reduceAdd, intB_eql, intB_neq, intB_lss, intB_leq, intB_gtr, intB_geq, splitI_cells]) hc) ?_
  refine loopP_rule (fun j e h' nx' => ∃ (i m : Nat), i + j = 256 ∧ nx + 1 ≤ nx' ∧ e 1 = ptr nx ∧ e 3 = .int .i64 m ∧ e 7 = .agg (u8s c).toArray ∧ e 8 = .int .i64 i ∧ Sub h h' ∧ Fr h' nx' ∧
    h'.get nx = some (.cells (splitLI c n).toArray y_api_Split) ∧ rt c i = some m) ?_ (n := 256) ⟨0, 0, by omega, by omega, rfl, rfl, rfl, rfl, ?_, ?_, ?_, rfl⟩
  · rintro j e h' nx' ⟨i, m, hij, hnx, e1, e3, e7, e8, hs, hf', g0, hr⟩ Q' hq hx
    have hm := rt_le hr
    unfold split_Right_L1
    rw [e3, e7, e8]
    (repeat (first | refine bindP_mk (by simp (disch := first | omega | exact Int.natCast_nonneg _ | assumption) only [BB, B2, ↓reduceIte, Nat.reduceLeDiff, Nat.reduceAdd, intB_eql, intB_neq, intB_lss, intB_leq, intB_gtr, intB_geq] <;> rfl) ?_ | refine newP_mk ?_ | refine optP_mk ?_ | with_reducible first | refine condP_t ?_ | refine condP_f ?_ | refine ifP_tt' ?_ | refine ifP_ff' ?_ | refine ifP_tf' ?_ | refine ifP_ft' ?_ | refine ifP_u' ?_ | refine optP_mk0 ?_))
    by_cases hi : i < 256
    · refine condP_tr (by simp; omega) ?_
      have hic : i < c.length := by omega
      refine bindP_mk (ixA1_u8s _ hic hc) ?_
      have hci := hcl _ (List.getElem_mem hic)
      have hgd : c.getD i 0 = c[i] := by rw [List.getD_eq_getElem?_getD, List.getElem?_eq_getElem hic]; rfl
      have hrs : rt c (i + 1) = if m < c[i] then none else if c[i] = m then some (m + 1) else some m := by simp only [rt, hr, Option.bind_some, hgd]
      (repeat (first | refine bindP_mk (by simp (disch := first | omega | exact Int.natCast_nonneg _ | assumption) only [BB, B2, ↓reduceIte, Nat.reduceLeDiff, Nat.reduceAdd, intB_eql, intB_neq, intB_lss, intB_leq, intB_gtr, intB_geq] <;> rfl) ?_ | refine newP_mk ?_ | refine optP_mk ?_ | with_reducible first | refine condP_t ?_ | refine condP_f ?_ | refine ifP_tt' ?_ | refine ifP_ff' ?_ | refine ifP_tf' ?_ | refine ifP_ft' ?_ | refine ifP_u' ?_ | refine optP_mk0 ?_))
      by_cases h1 : m < c[i]
      · refine condP_tr (by simp; omega) ?_
        refine hx _ _ _ _ (fun e => by cases e) (exP_r ?_)
        refine ⟨h, hs, ?_⟩
        have hn : rt c 256 = none := rt_none (i := i + 1) (by rw [hrs, if_pos h1]) 256 (by omega)
        have := hK (nx' + 9) (by omega)
        unfold rightB at this
        rw [hn] at this
        exact this
      · refine condP_fa (by simp; omega) ?_
        rw [if_neg h1] at hrs
        (repeat (first | refine bindP_mk (by simp (disch := first | omega | exact Int.natCast_nonneg _ | assumption) only [BB, B2, ↓reduceIte, Nat.reduceLeDiff, Nat.reduceAdd, intB_eql, intB_neq, intB_lss, intB_leq, intB_gtr, intB_geq] <;> rfl) ?_ | refine newP_mk ?_ | refine optP_mk ?_ | with_reducible first | refine condP_t ?_ | refine condP_f ?_ | refine ifP_tt' ?_ | refine ifP_ff' ?_ | refine ifP_tf' ?_ | refine ifP_ft' ?_ | refine ifP_u' ?_ | refine optP_mk0 ?_))
        have hj2 : ∀ (e : Env) (n2 m' : Nat), nx' ≤ n2 → e 1 = ptr nx → e 3 = .int .i64 m' → e 7 = .agg (u8s c).toArray → e 8 = .int .i64 i → rt c (i + 1) = some m' → split_Right_j2 ro Q' e h' n2 := by
          intro e n2 m' hn2 e1 e3 e7 e8 hr'
          unfold split_Right_j2
          rw [e8]
          (repeat (first | refine bindP_mk (by simp (disch := first | omega | exact Int.natCast_nonneg _ | assumption) only [BB, B2, ↓reduceIte, Nat.reduceLeDiff, Nat.reduceAdd, intB_eql, intB_neq, intB_lss, intB_leq, intB_gtr, intB_geq] <;> rfl) ?_ | refine newP_mk ?_ | refine optP_mk ?_ | with_reducible first | refine condP_t ?_ | refine condP_f ?_ | refine ifP_tt' ?_ | refine ifP_ff' ?_ | refine ifP_tf' ?_ | refine ifP_ft' ?_ | refine ifP_u' ?_ | refine optP_mk0 ?_))
          exact hq (j - 1) _ _ _ _ (by omega) ⟨i + 1, m', by omega, by omega, e1, e3, e7, rfl, hs, hf'.mono (by omega), g0, hr'⟩ (Sub.refl _)
        by_cases h2 : c[i] = m
        · refine condP_tr (by simp; omega) ?_
          (repeat (first | refine bindP_mk (by simp (disch := first | omega | exact Int.natCast_nonneg _ | assumption) only [BB, B2, ↓reduceIte, Nat.reduceLeDiff, Nat.reduceAdd, intB_eql, intB_neq, intB_lss, intB_leq, intB_gtr, intB_geq] <;> rfl) ?_ | refine newP_mk ?_ | refine optP_mk ?_ | with_reducible first | refine condP_t ?_ | refine condP_f ?_ | refine ifP_tt' ?_ | refine ifP_ff' ?_ | refine ifP_tf' ?_ | refine ifP_ft' ?_ | refine ifP_u' ?_ | refine optP_mk0 ?_))
          rw [if_pos h2] at hrs
          exact hj2 _ _ (m + 1) (by omega) e1 rfl e7 e8 hrs
        · refine condP_fa (by simp; omega) ?_
          rw [if_neg h2] at hrs
          exact hj2 _ _ m (by omega) e1 e3 e7 e8 hrs
    · refine condP_fa (by simp; omega) ?_
      refine hx _ _ _ _ (fun e => by cases e) (exP_e (beqP_t ?_))
      have hi2 : i = 256 := by omega
      subst hi2
      unfold split_Right_j1
      have f1 : ∀ a, Env.put e 9 a 1 = ptr nx := fun a => e1
      have f3 : ∀ a, Env.put e 9 a 3 = .int .i64 m := fun a => e3
      simp only [puts, f1, f3]
      have hg := splitLI_many (n := n) hc
      (repeat (first | refine bindP_mk (by simp (disch := first | omega | exact Int.natCast_nonneg _ | assumption) only [BB, B2, ↓reduceIte, Nat.reduceLeDiff, Nat.reduceAdd, intB_eql, intB_neq, intB_lss, intB_leq, intB_gtr, intB_geq, g0, hg] <;> rfl) ?_ | refine newP_mk ?_ | refine optP_mk ?_ | with_reducible first | refine condP_t ?_ | refine condP_f ?_ | refine ifP_tt' ?_ | refine ifP_ff' ?_ | refine ifP_tf' ?_ | refine ifP_ft' ?_ | refine ifP_u' ?_ | refine optP_mk0 ?_))
      refine ⟨h, hs, ?_⟩
      have := hK (nx' + 1 + 5) (by omega)
      unfold rightB at this
      rw [hr] at this
      exact this
  · exact (Sub.refl h).new hf (Nat.le_refl _)
  · exact hf.upd (m := nx + 6) (by omega) (by omega)
  · simp (disch := first | omega | exact Int.natCast_nonneg _ | assumption) only [BB, B2, ↓reduceIte, Nat.reduceLeDiff, Nat.reduceAdd, intB_eql, intB_neq, intB_lss, intB_leq, intB_gtr, intB_geq, splitI_cells]
set_option maxRecDepth 4000 in
theorem ref02_Right_c {ro : Ro} {c : List Nat} {n : Int} (hc : c.length = 256) (hcl : ∀ x ∈ c, x < 256) {h : T Obj} {nx : Nat} {K : KV} (hf : Fr h nx) (hK : ∀ nx', nx ≤ nx' → K (.bool (rightB c n)) h nx') : callP Try.prog ro i_ref02_Right [splitI c n] h nx K := by
  apply ref02_Right_of
  unfold ref02_Right
  refine newP_mk ?_
  refine loopP_rule (fun j e h' nx' => ∃ (i m : Nat), i + j = 256 ∧ nx + 1 ≤ nx' ∧ e 1 = ptr nx ∧ e 3 = .int .i64 m ∧ e 4 = .int .i64 i ∧ Sub h h' ∧ Fr h' nx' ∧
    h'.get nx = some (.cells (splitLI c n).toArray y_api_Split) ∧ rt c i = some m) ?_ (n := 256) ⟨0, 0, by omega, by omega, rfl, rfl, rfl, ?_, ?_, ?_, rfl⟩
  · rintro j e h' nx' ⟨i, m, hij, hnx, e1, e3, e4, hs, hf', g0, hr⟩ Q' hq hx
    have hm := rt_le hr
    unfold ref02_Right_L1
    rw [e1, e3, e4]
    (repeat (first | refine bindP_mk (by simp (disch := first | omega | exact Int.natCast_nonneg _ | assumption) only [BB, B2, ↓reduceIte, Nat.reduceLeDiff, Nat.reduceAdd, intB_eql, intB_neq, intB_lss, intB_leq, intB_gtr, intB_geq] <;> rfl) ?_ | refine newP_mk ?_ | refine optP_mk ?_ | with_reducible first | refine condP_t ?_ | refine condP_f ?_ | refine ifP_tt' ?_ | refine ifP_ff' ?_ | refine ifP_tf' ?_ | refine ifP_ft' ?_ | refine ifP_u' ?_ | refine optP_mk0 ?_))
    by_cases hi : i < 256
    · refine condP_tr (by simp; omega) ?_
      have hic : i < c.length := by omega
      have hci := hcl _ (List.getElem_mem hic)
      have hg := splitLI_get (n := n) hic
      have hgd : c.getD i 0 = c[i] := by rw [List.getD_eq_getElem?_getD, List.getElem?_eq_getElem hic]; rfl
      have hrs : rt c (i + 1) = if m < c[i] then none else if c[i] = m then some (m + 1) else some m := by simp only [rt, hr, Option.bind_some, hgd]
      (repeat (first | refine bindP_mk (by simp (disch := first | omega | exact Int.natCast_nonneg _ | assumption) only [BB, B2, ↓reduceIte, Nat.reduceLeDiff, Nat.reduceAdd, intB_eql, intB_neq, intB_lss, intB_leq, intB_gtr, intB_geq, g0, hg] <;> rfl) ?_ | refine newP_mk ?_ | refine optP_mk ?_ | with_reducible first | refine condP_t ?_ | refine condP_f ?_ | refine ifP_tt' ?_ | refine ifP_ff' ?_ | refine ifP_tf' ?_ | refine ifP_ft' ?_ | refine ifP_u' ?_ | refine optP_mk0 ?_))
      by_cases h1 : m < c[i]
      · refine condP_tr (by simp; omega) ?_
        refine hx _ _ _ _ (fun e => by cases e) (exP_r ?_)
        refine ⟨h, hs, ?_⟩
        have hn : rt c 256 = none := rt_none (i := i + 1) (by rw [hrs, if_pos h1]) 256 (by omega)
        have := hK (nx' + 10) (by omega)
        unfold rightB at this
        rw [hn] at this
        exact this
      · refine condP_fa (by simp; omega) ?_
        rw [if_neg h1] at hrs
        (repeat (first | refine bindP_mk (by simp (disch := first | omega | exact Int.natCast_nonneg _ | assumption) only [BB, B2, ↓reduceIte, Nat.reduceLeDiff, Nat.reduceAdd, intB_eql, intB_neq, intB_lss, intB_leq, intB_gtr, intB_geq, g0, hg] <;> rfl) ?_ | refine newP_mk ?_ | refine optP_mk ?_ | with_reducible first | refine condP_t ?_ | refine condP_f ?_ | refine ifP_tt' ?_ | refine ifP_ff' ?_ | refine ifP_tf' ?_ | refine ifP_ft' ?_ | refine ifP_u' ?_ | refine optP_mk0 ?_))
        have hj2 : ∀ (e : Env) (n2 m' : Nat), nx' ≤ n2 → e 1 = ptr nx → e 3 = .int .i64 m' → e 4 = .int .i64 i → rt c (i + 1) = some m' → ref02_Right_j2 ro Q' e h' n2 := by
          intro e n2 m' hn2 e1 e3 e4 hr'
          unfold ref02_Right_j2
          rw [e4]
          (repeat (first | refine bindP_mk (by simp (disch := first | omega | exact Int.natCast_nonneg _ | assumption) only [BB, B2, ↓reduceIte, Nat.reduceLeDiff, Nat.reduceAdd, intB_eql, intB_neq, intB_lss, intB_leq, intB_gtr, intB_geq] <;> rfl) ?_ | refine newP_mk ?_ | refine optP_mk ?_ | with_reducible first | refine condP_t ?_ | refine condP_f ?_ | refine ifP_tt' ?_ | refine ifP_ff' ?_ | refine ifP_tf' ?_ | refine ifP_ft' ?_ | refine ifP_u' ?_ | refine optP_mk0 ?_))
          exact hq (j - 1) _ _ _ _ (by omega) ⟨i + 1, m', by omega, by omega, e1, e3, rfl, hs, hf'.mono (by omega), g0, hr'⟩ (Sub.refl _)
        by_cases h2 : c[i] = m
        · refine condP_tr (by simp; omega) ?_
          (repeat (first | refine bindP_mk (by simp (disch := first | omega | exact Int.natCast_nonneg _ | assumption) only [BB, B2, ↓reduceIte, Nat.reduceLeDiff, Nat.reduceAdd, intB_eql, intB_neq, intB_lss, intB_leq, intB_gtr, intB_geq] <;> rfl) ?_ | refine newP_mk ?_ | refine optP_mk ?_ | with_reducible first | refine condP_t ?_ | refine condP_f ?_ | refine ifP_tt' ?_ | refine ifP_ff' ?_ | refine ifP_tf' ?_ | refine ifP_ft' ?_ | refine ifP_u' ?_ | refine optP_mk0 ?_))
          rw [if_pos h2] at hrs
          exact hj2 _ _ (m + 1) (by omega) e1 rfl e4 hrs
        · refine condP_fa (by simp; omega) ?_
          rw [if_neg h2] at hrs
          exact hj2 _ _ m (by omega) e1 e3 e4 hrs
    · refine condP_fa (by simp; omega) ?_
      refine hx _ _ _ _ (fun e => by cases e) (exP_e (beqP_t ?_))
      have hi2 : i = 256 := by omega
      subst hi2
      unfold ref02_Right_j1
      have f1 : ∀ a b, Env.put (Env.put e 5 a) 6 b 1 = ptr nx := fun a b => e1
      have f3 : ∀ a b, Env.put (Env.put e 5 a) 6 b 3 = .int .i64 m := fun a b => e3
      simp only [puts, f1, f3]
      have hg := splitLI_many (n := n) hc
      (repeat (first | refine bindP_mk (by simp (disch := first | omega | exact Int.natCast_nonneg _ | assumption) only [BB, B2, ↓reduceIte, Nat.reduceLeDiff, Nat.reduceAdd, intB_eql, intB_neq, intB_lss, intB_leq, intB_gtr, intB_geq, g0, hg] <;> rfl) ?_ | refine newP_mk ?_ | refine optP_mk ?_ | with_reducible first | refine condP_t ?_ | refine condP_f ?_ | refine ifP_tt' ?_ | refine ifP_ff' ?_ | refine ifP_tf' ?_ | refine ifP_ft' ?_ | refine ifP_u' ?_ | refine optP_mk0 ?_))
      refine ⟨h, hs, ?_⟩
      have := hK (nx' + 2 + 5) (by omega)
      unfold rightB at this
      rw [hr] at this
      exact this
  · exact (Sub.refl h).new hf (Nat.le_refl _)
  · exact hf.upd (m := nx + 4) (by omega) (by omega)
  · simp (disch := first | omega | exact Int.natCast_nonneg _ | assumption) only [BB, B2, ↓reduceIte, Nat.reduceLeDiff, Nat.reduceAdd, intB_eql, intB_neq, intB_lss, intB_leq, intB_gtr, intB_geq, splitI_cells]
end V
end Go.Proofs.Ytmmdcdjkmakgpaa
