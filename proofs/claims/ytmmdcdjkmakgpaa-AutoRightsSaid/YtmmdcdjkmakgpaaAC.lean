/- Automata, as the machine reads them; what move (both) hands back.
   No condition. -/
import Derived.Test.YtmmdcdjkmakgpaaAB
set_option linter.unusedVariables false
set_option linter.unusedSimpArgs false
namespace Go.Proofs.Ytmmdcdjkmakgpaa
namespace V
attribute [local irreducible] bindP ifP condP newP optP exP beqP
structure MoveD where
  to : Int
  ops : List Nat
structure StateD where
  l : List Int
  r : List Int
  rule : List Int
  next : List (List MoveD)
structure AutoD where
  c : List Nat
  many : Int
  counts : List (Int × Int)
  states : List StateD
def noS : StateD := ⟨[], [], [], []⟩
/-! ### What may be so -/
def opOk (R : List Int) (o : Nat) (r : Int) : Bool := decide (1 ≤ o) && (decide (o ≤ 3) && (decide (o = 3) || R.contains r))
def opsOk (R : List Int) : List Nat → List Int → Bool
  | o :: os, r :: rs => opOk R o r && opsOk R os rs
  | _, _ => true
def moveOk (S : List StateD) (R : List Int) (m : MoveD) : Bool :=
  if m.to = -1 then decide (m.ops.length = 0) else decide (1 ≤ m.to) && (decide (m.to < S.length) && (decide (m.ops.length = (S.getD m.to.toNat noS).r.length) && opsOk R m.ops (S.getD m.to.toNat noS).r))
/-! ### How it is read -/
def maxB : Nat := 9223372036854775807
def RU8 (x : List Value) (d : Nat) : Prop := x = [.int .u8 (d : Int)] ∧ d < 256
def RMove (ro : Ro) (h : T Obj) (x : List Value) (d : MoveD) : Prop := ∃ ov, x = [.int .i64 d.to, ov] ∧ SlR ro h ov 1 RU8 d.ops ∧ d.ops.length ≤ maxB
def RRow (ro : Ro) (h : T Obj) (x : List Value) (d : List MoveD) : Prop := ∃ w, x = [w] ∧ SlR ro h w 2 (RMove ro h) d ∧ d.length ≤ maxB
def RState (ro : Ro) (h : T Obj) (x : List Value) (d : StateD) : Prop := ∃ lv rv uv nv, x = [lv, rv, uv, nv] ∧ ZI ro h lv d.l ∧ ZI ro h rv d.r ∧ ZI ro h uv d.rule ∧ SlR ro h nv 1 (RRow ro h) d.next ∧ d.r.length ≤ maxB
def RCount (x : List Value) (d : Int × Int) : Prop := x = [.int .i64 d.1, .int .i64 d.2]
theorem RMove.sub {ro : Ro} {h h' : T Obj} (hs : Sub h h') : ∀ x d, RMove ro h x d → RMove ro h' x d := fun x d ⟨ov, h1, h2, h3⟩ => ⟨ov, h1, h2.sub hs fun _ _ h => h, h3⟩
theorem RRow.sub {ro : Ro} {h h' : T Obj} (hs : Sub h h') : ∀ x d, RRow ro h x d → RRow ro h' x d := fun x d ⟨ov, h1, h2, h3⟩ => ⟨ov, h1, h2.sub hs (RMove.sub hs), h3⟩
theorem RState.sub {ro : Ro} {h h' : T Obj} (hs : Sub h h') : ∀ x d, RState ro h x d → RState ro h' x d := fun x d ⟨lv, rv, uv, nv, h1, h2, h3, h4, h5, h6⟩ => ⟨lv, rv, uv, nv, h1, h2.sub hs, h3.sub hs, h4.sub hs, h5.sub hs (RRow.sub hs), h6⟩
def autL (c : List Nat) (n : Int) (cv sv : Value) : List Value := splitLI c n ++ [cv, sv]
section
variable {c : List Nat} {n : Int} {cv sv : Value}
theorem autL_len (hc : c.length = 256) : (autL c n cv sv).length = 259 := by simp [autL, splitLI_len hc]
theorem autL_many (hc : c.length = 256) : (autL c n cv sv)[256]? = some (.int .i64 n) := by
  unfold autL
  rw [List.getElem?_append_left (by rw [splitLI_len hc]; omega)]
  exact splitLI_many hc
theorem autL_counts (hc : c.length = 256) : (autL c n cv sv)[257]? = some cv := by
  unfold autL
  rw [List.getElem?_append_right (by rw [splitLI_len hc]; omega), splitLI_len hc]; rfl
theorem autL_states (hc : c.length = 256) : (autL c n cv sv)[258]? = some sv := by
  unfold autL
  rw [List.getElem?_append_right (by rw [splitLI_len hc]; omega), splitLI_len hc]; rfl
theorem autL_ok (h1 : cellOk cv = true) (h2 : cellOk sv = true) : (autL c n cv sv).all cellOk = true := by
  unfold autL
  rw [List.all_append, splitLI_ok, Bool.true_and]
  simp [h1, h2]
theorem loadS {ro : Ro} {h : T Obj} {id z : Nat} {e : TypeId} {f : Nat × Nat} (hg : h.get id = some (.cells (autL c n cv sv).toArray e f)) (hc : c.length = 256) : loadA ro h 257 (at_ id 0 z) = some (splitI c n) := by
  rw [loadA_own, hg, cellsIn_some]
  simp only [Option.bind_some, tl]
  rw [if_pos (by rw [autL_len hc]; omega), List.drop_zero]
  unfold autL
  rw [List.take_append_of_le_length (by rw [splitLI_len hc]; omega), List.take_of_length_le (by rw [splitLI_len hc]; omega)]
  rfl
end
/-- An automaton's cells. -/
def RAuto (ro : Ro) (h : T Obj) (x : List Value) (d : AutoD) : Prop := ∃ cv sv, x = autL d.c d.many cv sv ∧ d.c.length = 256 ∧ (∀ x ∈ d.c, x < 256) ∧ SlR ro h cv 2 RCount d.counts ∧ SlR ro h sv 4 (RState ro h) d.states ∧ d.counts.length ≤ maxB ∧ d.states.length ≤ maxB
theorem opsOk_cons (R : List Int) (o : Nat) (os : List Nat) (r : Int) (rs : List Int) : opsOk R (o :: os) (r :: rs) = (opOk R o r && opsOk R os rs) := rfl
theorem opsOk_nil (R : List Int) (rs : List Int) : opsOk R [] rs = true := by cases rs <;> rfl
set_option maxRecDepth 8000 in
set_option maxHeartbeats 1000000 in
theorem checker_move_c {ro : Ro} {c : List Nat} {n : Int} {cv sv lv rv uv nv ov : Value} {S : List StateD} {R : List Int} {m : MoveD} (hc : c.length = 256) (hSl : S.length ≤ 256) (hR : R.length ≤ 3) (hmo : m.ops.length ≤ maxB) {h : T Obj} {nx : Nat} {K : KV} (hf : Fr h nx)
    (hS : SlR ro h sv 4 (RState ro h) S) (hrv : ZI ro h rv R) (hov : SlR ro h ov 1 RU8 m.ops) (hK : ∀ nx', nx ≤ nx' → K (.bool (moveOk S R m)) h nx') : callP Try.prog ro i_auto_checker_move [.agg (autL c n cv sv).toArray, .agg #[lv, rv, uv, nv], .agg #[.int .i64 m.to, ov]] h nx K := by
  apply auto_checker_move_of
  unfold auto_checker_move
  refine param_mk hf (Nat.le_refl _) fun h1 hs1 hf1 g1 _ => ?_
  refine param_mk hf1 (Nat.le_refl _) fun h2 hs2 hf2 g2 _ => ?_
  refine param_mk hf2 (Nat.le_refl _) fun h3 hs3 hf3 g3 _ => ?_
  have g1 : h3.get nx = some (.cells (autL c n cv sv).toArray y_auto_checker) := hs3 _ _ (hs2 _ _ g1)
  have g2 : h3.get (nx + 1) = some (.cells #[lv, rv, uv, nv] y_api_State) := hs3 _ _ g2
  have g3 : h3.get (nx + 2) = some (.cells #[.int .i64 m.to, ov] y_api_Move) := g3
  have hs := (hs1.trans hs2).trans hs3
  have hS := hS.sub hs (RState.sub hs)
  have hrv := hrv.sub hs
  have hov := hov.sub hs fun _ _ h => h
  have hsg := autL_states (n := n) (cv := cv) (sv := sv) hc
  have hol := hov.len
  have hsl := hS.len
  have hmb : m.ops.length ≤ 9223372036854775807 := hmo
  have hno : ∀ n, moveOk S R m = false → nx ≤ n → ∃ h', Sub h' h3 ∧ K (.bool false) h' n := fun n e hn => ⟨h, hs, kb hK e hn⟩
  (repeat (first | refine lss_t (by omega) ?_ | refine lss_f (by omega) ?_ | refine leq_t (by omega) ?_ | refine leq_f (by omega) ?_ | refine gtr_t (by omega) ?_ | refine gtr_f (by omega) ?_ | refine geq_t (by omega) ?_ | refine geq_f (by omega) ?_ | refine eql_t (by omega) ?_ | refine eql_f (by omega) ?_ | refine neq_t (by omega) ?_ | refine neq_f (by omega) ?_ | refine bindP_mk (by simp (disch := first | omega | exact Int.natCast_nonneg _ | assumption) only [BB, decide_true, decide_false, Bool.not_true, Bool.not_false, Option.bind_some, T.get_upd_same, T.get_upd_ne, if_pos, Nat.zero_add, Nat.mul_one, Nat.add_zero, Int.toNat_natCast, ↓reduceIte, Nat.reduceLeDiff, Nat.reduceAdd, Nat.le_refl, g3] <;> rfl) ?_ | refine newP_mk ?_ | refine optP_mk ?_ | with_reducible refine condP_t ?_ | with_reducible refine condP_f ?_ | with_reducible refine ifP_tt' ?_ | with_reducible refine ifP_ff' ?_ | with_reducible refine ifP_tf' ?_ | with_reducible refine ifP_ft' ?_ | with_reducible refine ifP_u' ?_ | refine optP_mk0 ?_))
  refine eql_s (fun ht => ?_) (fun ht => ?_)
  · (repeat (first | refine lss_t (by omega) ?_ | refine lss_f (by omega) ?_ | refine leq_t (by omega) ?_ | refine leq_f (by omega) ?_ | refine gtr_t (by omega) ?_ | refine gtr_f (by omega) ?_ | refine geq_t (by omega) ?_ | refine geq_f (by omega) ?_ | refine eql_t (by omega) ?_ | refine eql_f (by omega) ?_ | refine neq_t (by omega) ?_ | refine neq_f (by omega) ?_ | refine bindP_mk (by simp (disch := first | omega | exact Int.natCast_nonneg _ | assumption) only [BB, decide_true, decide_false, Bool.not_true, Bool.not_false, Option.bind_some, T.get_upd_same, T.get_upd_ne, if_pos, Nat.zero_add, Nat.mul_one, Nat.add_zero, Int.toNat_natCast, ↓reduceIte, Nat.reduceLeDiff, Nat.reduceAdd, Nat.le_refl, g3, hol] <;> rfl) ?_ | refine newP_mk ?_ | refine optP_mk ?_ | with_reducible refine condP_t ?_ | with_reducible refine condP_f ?_ | with_reducible refine ifP_tt' ?_ | with_reducible refine ifP_ff' ?_ | with_reducible refine ifP_tf' ?_ | with_reducible refine ifP_ft' ?_ | with_reducible refine ifP_u' ?_ | refine optP_mk0 ?_))
    refine bindP_mk (intB_eql _ _ _) ?_
    refine ⟨h, hs, kb hK ?_ (by omega)⟩
    unfold moveOk
    rw [if_pos ht, decide_eq_decide]
    omega
  · unfold moveOk at hno hK
    rw [if_neg ht] at hno hK
    (repeat (first | refine lss_t (by omega) ?_ | refine lss_f (by omega) ?_ | refine leq_t (by omega) ?_ | refine leq_f (by omega) ?_ | refine gtr_t (by omega) ?_ | refine gtr_f (by omega) ?_ | refine geq_t (by omega) ?_ | refine geq_f (by omega) ?_ | refine eql_t (by omega) ?_ | refine eql_f (by omega) ?_ | refine neq_t (by omega) ?_ | refine neq_f (by omega) ?_ | refine bindP_mk (by simp (disch := first | omega | exact Int.natCast_nonneg _ | assumption) only [BB, decide_true, decide_false, Bool.not_true, Bool.not_false, Option.bind_some, T.get_upd_same, T.get_upd_ne, if_pos, Nat.zero_add, Nat.mul_one, Nat.add_zero, Int.toNat_natCast, ↓reduceIte, Nat.reduceLeDiff, Nat.reduceAdd, Nat.le_refl, g3] <;> rfl) ?_ | refine newP_mk ?_ | refine optP_mk ?_ | with_reducible refine condP_t ?_ | with_reducible refine condP_f ?_ | with_reducible refine ifP_tt' ?_ | with_reducible refine ifP_ff' ?_ | with_reducible refine ifP_tf' ?_ | with_reducible refine ifP_ft' ?_ | with_reducible refine ifP_u' ?_ | refine optP_mk0 ?_))
    refine lss_s (fun h1 => ?_) (fun h1 => ?_)
    · (repeat (first | refine lss_t (by omega) ?_ | refine lss_f (by omega) ?_ | refine leq_t (by omega) ?_ | refine leq_f (by omega) ?_ | refine gtr_t (by omega) ?_ | refine gtr_f (by omega) ?_ | refine geq_t (by omega) ?_ | refine geq_f (by omega) ?_ | refine eql_t (by omega) ?_ | refine eql_f (by omega) ?_ | refine neq_t (by omega) ?_ | refine neq_f (by omega) ?_ | refine bindP_mk (by simp (disch := first | omega | exact Int.natCast_nonneg _ | assumption) only [BB, decide_true, decide_false, Bool.not_true, Bool.not_false, Option.bind_some, T.get_upd_same, T.get_upd_ne, if_pos, Nat.zero_add, Nat.mul_one, Nat.add_zero, Int.toNat_natCast, ↓reduceIte, Nat.reduceLeDiff, Nat.reduceAdd, Nat.le_refl] <;> rfl) ?_ | refine newP_mk ?_ | refine optP_mk ?_ | with_reducible refine condP_t ?_ | with_reducible refine condP_f ?_ | with_reducible refine ifP_tt' ?_ | with_reducible refine ifP_ff' ?_ | with_reducible refine ifP_tf' ?_ | with_reducible refine ifP_ft' ?_ | with_reducible refine ifP_u' ?_ | refine optP_mk0 ?_))
      exact hno _ (by rw [decide_eq_false (by omega)]; rfl) (by omega)
    · rw [decide_eq_true h1, Bool.true_and] at hno hK
      (repeat (first | refine lss_t (by omega) ?_ | refine lss_f (by omega) ?_ | refine leq_t (by omega) ?_ | refine leq_f (by omega) ?_ | refine gtr_t (by omega) ?_ | refine gtr_f (by omega) ?_ | refine geq_t (by omega) ?_ | refine geq_f (by omega) ?_ | refine eql_t (by omega) ?_ | refine eql_f (by omega) ?_ | refine neq_t (by omega) ?_ | refine neq_f (by omega) ?_ | refine bindP_mk (by simp (disch := first | omega | exact Int.natCast_nonneg _ | assumption) only [BB, decide_true, decide_false, Bool.not_true, Bool.not_false, Option.bind_some, T.get_upd_same, T.get_upd_ne, if_pos, Nat.zero_add, Nat.mul_one, Nat.add_zero, Int.toNat_natCast, ↓reduceIte, Nat.reduceLeDiff, Nat.reduceAdd, Nat.le_refl, g1, g3, hsg, hsl] <;> rfl) ?_ | refine newP_mk ?_ | refine optP_mk ?_ | with_reducible refine condP_t ?_ | with_reducible refine condP_f ?_ | with_reducible refine ifP_tt' ?_ | with_reducible refine ifP_ff' ?_ | with_reducible refine ifP_tf' ?_ | with_reducible refine ifP_ft' ?_ | with_reducible refine ifP_u' ?_ | refine optP_mk0 ?_))
      refine geq_s (fun h2 => ?_) (fun h2 => ?_)
      · (repeat (first | refine lss_t (by omega) ?_ | refine lss_f (by omega) ?_ | refine leq_t (by omega) ?_ | refine leq_f (by omega) ?_ | refine gtr_t (by omega) ?_ | refine gtr_f (by omega) ?_ | refine geq_t (by omega) ?_ | refine geq_f (by omega) ?_ | refine eql_t (by omega) ?_ | refine eql_f (by omega) ?_ | refine neq_t (by omega) ?_ | refine neq_f (by omega) ?_ | refine bindP_mk (by simp (disch := first | omega | exact Int.natCast_nonneg _ | assumption) only [BB, decide_true, decide_false, Bool.not_true, Bool.not_false, Option.bind_some, T.get_upd_same, T.get_upd_ne, if_pos, Nat.zero_add, Nat.mul_one, Nat.add_zero, Int.toNat_natCast, ↓reduceIte, Nat.reduceLeDiff, Nat.reduceAdd, Nat.le_refl] <;> rfl) ?_ | refine newP_mk ?_ | refine optP_mk ?_ | with_reducible refine condP_t ?_ | with_reducible refine condP_f ?_ | with_reducible refine ifP_tt' ?_ | with_reducible refine ifP_ff' ?_ | with_reducible refine ifP_tf' ?_ | with_reducible refine ifP_ft' ?_ | with_reducible refine ifP_u' ?_ | refine optP_mk0 ?_))
        exact hno _ (by rw [decide_eq_false (by omega)]; rfl) (by omega)
      · rw [decide_eq_true h2, Bool.true_and] at hno hK
        have hti : m.to.toNat < S.length := by omega
        have hgd : S.getD m.to.toNat noS = S[m.to.toNat] := by rw [List.getD_eq_getElem?_getD, List.getElem?_eq_getElem hti]; rfl
        rw [hgd] at hno hK
        have hix := hS.ixI .i64 (i := m.to) (by omega) h2
        obtain ⟨x, ⟨lv', rv', uv', nv', rfl, y1, y2, y3, y4, y5⟩, hx2, hx3, hx4, hx5⟩ := hS.at hti
        have hx1 := hx5 1 rv' rfl
        have hrl := y2.len
        generalize S[m.to.toNat] = s at hno hK y1 y2 y3 y4 y5 hrl
        have y5 : s.r.length ≤ 9223372036854775807 := y5
        (repeat (first | refine lss_t (by omega) ?_ | refine lss_f (by omega) ?_ | refine leq_t (by omega) ?_ | refine leq_f (by omega) ?_ | refine gtr_t (by omega) ?_ | refine gtr_f (by omega) ?_ | refine geq_t (by omega) ?_ | refine geq_f (by omega) ?_ | refine eql_t (by omega) ?_ | refine eql_f (by omega) ?_ | refine neq_t (by omega) ?_ | refine neq_f (by omega) ?_ | refine bindP_mk (by simp (disch := first | omega | exact Int.natCast_nonneg _ | assumption) only [BB, decide_true, decide_false, Bool.not_true, Bool.not_false, Option.bind_some, T.get_upd_same, T.get_upd_ne, if_pos, Nat.zero_add, Nat.mul_one, Nat.add_zero, Int.toNat_natCast, ↓reduceIte, Nat.reduceLeDiff, Nat.reduceAdd, Nat.le_refl, g1, g3, hsg, hol, hix, hx4, hx1, hrl] <;> rfl) ?_ | refine newP_mk ?_ | refine optP_mk ?_ | with_reducible refine condP_t ?_ | with_reducible refine condP_f ?_ | with_reducible refine ifP_tt' ?_ | with_reducible refine ifP_ff' ?_ | with_reducible refine ifP_tf' ?_ | with_reducible refine ifP_ft' ?_ | with_reducible refine ifP_u' ?_ | refine optP_mk0 ?_))
        refine neq_s (fun u9 => ?_) (fun u9 => ?_)
        · (repeat (first | refine lss_t (by omega) ?_ | refine lss_f (by omega) ?_ | refine leq_t (by omega) ?_ | refine leq_f (by omega) ?_ | refine gtr_t (by omega) ?_ | refine gtr_f (by omega) ?_ | refine geq_t (by omega) ?_ | refine geq_f (by omega) ?_ | refine eql_t (by omega) ?_ | refine eql_f (by omega) ?_ | refine neq_t (by omega) ?_ | refine neq_f (by omega) ?_ | refine bindP_mk (by simp (disch := first | omega | exact Int.natCast_nonneg _ | assumption) only [BB, decide_true, decide_false, Bool.not_true, Bool.not_false, Option.bind_some, T.get_upd_same, T.get_upd_ne, if_pos, Nat.zero_add, Nat.mul_one, Nat.add_zero, Int.toNat_natCast, ↓reduceIte, Nat.reduceLeDiff, Nat.reduceAdd, Nat.le_refl] <;> rfl) ?_ | refine newP_mk ?_ | refine optP_mk ?_ | with_reducible refine condP_t ?_ | with_reducible refine condP_f ?_ | with_reducible refine ifP_tt' ?_ | with_reducible refine ifP_ff' ?_ | with_reducible refine ifP_tf' ?_ | with_reducible refine ifP_ft' ?_ | with_reducible refine ifP_u' ?_ | refine optP_mk0 ?_))
          exact hno _ (by rw [decide_eq_false (by omega)]; rfl) (by omega)
        · have u9 : m.ops.length = s.r.length := by omega
          rw [decide_eq_true u9, Bool.true_and] at hno hK
          (repeat (first | refine lss_t (by omega) ?_ | refine lss_f (by omega) ?_ | refine leq_t (by omega) ?_ | refine leq_f (by omega) ?_ | refine gtr_t (by omega) ?_ | refine gtr_f (by omega) ?_ | refine geq_t (by omega) ?_ | refine geq_f (by omega) ?_ | refine eql_t (by omega) ?_ | refine eql_f (by omega) ?_ | refine neq_t (by omega) ?_ | refine neq_f (by omega) ?_ | refine bindP_mk (by simp (disch := first | omega | exact Int.natCast_nonneg _ | assumption) only [BB, decide_true, decide_false, Bool.not_true, Bool.not_false, Option.bind_some, T.get_upd_same, T.get_upd_ne, if_pos, Nat.zero_add, Nat.mul_one, Nat.add_zero, Int.toNat_natCast, ↓reduceIte, Nat.reduceLeDiff, Nat.reduceAdd, Nat.le_refl, g3, hol] <;> rfl) ?_ | refine newP_mk ?_ | refine optP_mk ?_ | with_reducible refine condP_t ?_ | with_reducible refine condP_f ?_ | with_reducible refine ifP_tt' ?_ | with_reducible refine ifP_ff' ?_ | with_reducible refine ifP_tf' ?_ | with_reducible refine ifP_ft' ?_ | with_reducible refine ifP_u' ?_ | refine optP_mk0 ?_))
          generalize hB : opsOk R m.ops s.r = B at hno hK
          refine loopP_rule (fun j e h' nx' => ∃ (k : Nat), k + j = m.ops.length ∧ nx ≤ nx' ∧ h' = h3 ∧ e 3 = ptr nx ∧ e 4 = ptr (nx + 1) ∧ e 5 = ptr (nx + 2) ∧ e 44 = ov ∧ e 45 = .int .i64 m.ops.length ∧ e 46 = .int .i64 k ∧ opsOk R (m.ops.drop k) (s.r.drop k) = B) ?_ (n := m.ops.length) ⟨0, by omega, by omega, rfl, rfl, rfl, rfl, rfl, rfl, rfl, hB⟩
          rintro j e h' nx' ⟨k, hj, hnx, rfl, e3, e4, e5, e44, e45, e46, hr⟩ Q' hq hx
          unfold auto_checker_move_L1
          rw [e3, e4, e5, e44, e45, e46]
          refine lss_s (fun hk => ?_) (fun hk => ?_)
          · have hk : k < m.ops.length := by omega
            have hk2 : k < s.r.length := by omega
            rw [drop_cons hk, drop_cons hk2, opsOk_cons] at hr
            have oix := hov.ix .i64 hk
            obtain ⟨w, ⟨ow, olt⟩, o1⟩ := hov.at1 hk
            simp only [List.cons.injEq, and_true] at ow
            subst ow
            have rix := y2.ix .i64 hk2
            have rld := y2.load hk2
            generalize m.ops[k] = o at hr o1 olt
            generalize s.r[k] = r at hr rld
            have hfin : ∀ (e' : Env) n, e' 6 = .bool false → opOk R o r = false → nx ≤ n → Q' .ret e' h' n := fun e' n h6 hc hn => by
              refine hx _ _ _ _ (fun e => by cases e) (exP_r ?_)
              rw [h6]
              refine ⟨h, hs, kb hK ?_ hn⟩
              rw [← hr, hc]; rfl
            have hok : ∀ (e' : Env) n, e' 3 = ptr nx → e' 4 = ptr (nx + 1) → e' 5 = ptr (nx + 2) → e' 44 = ov → e' 45 = .int .i64 m.ops.length → e' 46 = .int .i64 ((k : Int) + 1) → opOk R o r = true → nx ≤ n → Q' .normal e' h' n := fun e' n f3 f4 f5 f44 f45 f46 hc hn =>
              hq (j - 1) _ _ _ _ (by omega) ⟨k + 1, by omega, hn, rfl, f3, f4, f5, f44, f45, f46, by rw [← hr, hc]; rfl⟩ (Sub.refl _)
            unfold opOk at hfin hok
            (repeat (first | refine lss_t (by omega) ?_ | refine lss_f (by omega) ?_ | refine leq_t (by omega) ?_ | refine leq_f (by omega) ?_ | refine gtr_t (by omega) ?_ | refine gtr_f (by omega) ?_ | refine geq_t (by omega) ?_ | refine geq_f (by omega) ?_ | refine eql_t (by omega) ?_ | refine eql_f (by omega) ?_ | refine neq_t (by omega) ?_ | refine neq_f (by omega) ?_ | refine bindP_mk (by simp (disch := first | omega | exact Int.natCast_nonneg _ | assumption) only [BB, decide_true, decide_false, Bool.not_true, Bool.not_false, Option.bind_some, T.get_upd_same, T.get_upd_ne, if_pos, Nat.zero_add, Nat.mul_one, Nat.add_zero, Int.toNat_natCast, ↓reduceIte, Nat.reduceLeDiff, Nat.reduceAdd, Nat.le_refl, oix, o1] <;> rfl) ?_ | refine newP_mk ?_ | refine optP_mk ?_ | with_reducible refine condP_t ?_ | with_reducible refine condP_f ?_ | with_reducible refine ifP_tt' ?_ | with_reducible refine ifP_ff' ?_ | with_reducible refine ifP_tf' ?_ | with_reducible refine ifP_ft' ?_ | with_reducible refine ifP_u' ?_ | refine optP_mk0 ?_))
            refine lss_s (fun u1 => ?_) (fun u1 => ?_)
            · (repeat (first | refine lss_t (by omega) ?_ | refine lss_f (by omega) ?_ | refine leq_t (by omega) ?_ | refine leq_f (by omega) ?_ | refine gtr_t (by omega) ?_ | refine gtr_f (by omega) ?_ | refine geq_t (by omega) ?_ | refine geq_f (by omega) ?_ | refine eql_t (by omega) ?_ | refine eql_f (by omega) ?_ | refine neq_t (by omega) ?_ | refine neq_f (by omega) ?_ | refine bindP_mk (by simp (disch := first | omega | exact Int.natCast_nonneg _ | assumption) only [BB, decide_true, decide_false, Bool.not_true, Bool.not_false, Option.bind_some, T.get_upd_same, T.get_upd_ne, if_pos, Nat.zero_add, Nat.mul_one, Nat.add_zero, Int.toNat_natCast, ↓reduceIte, Nat.reduceLeDiff, Nat.reduceAdd, Nat.le_refl] <;> rfl) ?_ | refine newP_mk ?_ | refine optP_mk ?_ | with_reducible refine condP_t ?_ | with_reducible refine condP_f ?_ | with_reducible refine ifP_tt' ?_ | with_reducible refine ifP_ff' ?_ | with_reducible refine ifP_tf' ?_ | with_reducible refine ifP_ft' ?_ | with_reducible refine ifP_u' ?_ | refine optP_mk0 ?_))
              exact hfin _ _ rfl (by rw [decide_eq_false (by omega)]; rfl) (by omega)
            · rw [decide_eq_true (by omega), Bool.true_and] at hfin hok
              (repeat (first | refine lss_t (by omega) ?_ | refine lss_f (by omega) ?_ | refine leq_t (by omega) ?_ | refine leq_f (by omega) ?_ | refine gtr_t (by omega) ?_ | refine gtr_f (by omega) ?_ | refine geq_t (by omega) ?_ | refine geq_f (by omega) ?_ | refine eql_t (by omega) ?_ | refine eql_f (by omega) ?_ | refine neq_t (by omega) ?_ | refine neq_f (by omega) ?_ | refine bindP_mk (by simp (disch := first | omega | exact Int.natCast_nonneg _ | assumption) only [BB, decide_true, decide_false, Bool.not_true, Bool.not_false, Option.bind_some, T.get_upd_same, T.get_upd_ne, if_pos, Nat.zero_add, Nat.mul_one, Nat.add_zero, Int.toNat_natCast, ↓reduceIte, Nat.reduceLeDiff, Nat.reduceAdd, Nat.le_refl] <;> rfl) ?_ | refine newP_mk ?_ | refine optP_mk ?_ | with_reducible refine condP_t ?_ | with_reducible refine condP_f ?_ | with_reducible refine ifP_tt' ?_ | with_reducible refine ifP_ff' ?_ | with_reducible refine ifP_tf' ?_ | with_reducible refine ifP_ft' ?_ | with_reducible refine ifP_u' ?_ | refine optP_mk0 ?_))
              refine gtr_s (fun u2 => ?_) (fun u2 => ?_)
              · (repeat (first | refine lss_t (by omega) ?_ | refine lss_f (by omega) ?_ | refine leq_t (by omega) ?_ | refine leq_f (by omega) ?_ | refine gtr_t (by omega) ?_ | refine gtr_f (by omega) ?_ | refine geq_t (by omega) ?_ | refine geq_f (by omega) ?_ | refine eql_t (by omega) ?_ | refine eql_f (by omega) ?_ | refine neq_t (by omega) ?_ | refine neq_f (by omega) ?_ | refine bindP_mk (by simp (disch := first | omega | exact Int.natCast_nonneg _ | assumption) only [BB, decide_true, decide_false, Bool.not_true, Bool.not_false, Option.bind_some, T.get_upd_same, T.get_upd_ne, if_pos, Nat.zero_add, Nat.mul_one, Nat.add_zero, Int.toNat_natCast, ↓reduceIte, Nat.reduceLeDiff, Nat.reduceAdd, Nat.le_refl] <;> rfl) ?_ | refine newP_mk ?_ | refine optP_mk ?_ | with_reducible refine condP_t ?_ | with_reducible refine condP_f ?_ | with_reducible refine ifP_tt' ?_ | with_reducible refine ifP_ff' ?_ | with_reducible refine ifP_tf' ?_ | with_reducible refine ifP_ft' ?_ | with_reducible refine ifP_u' ?_ | refine optP_mk0 ?_))
                exact hfin _ _ rfl (by rw [decide_eq_false (by omega)]; rfl) (by omega)
              · rw [decide_eq_true (by omega), Bool.true_and] at hfin hok
                (repeat (first | refine lss_t (by omega) ?_ | refine lss_f (by omega) ?_ | refine leq_t (by omega) ?_ | refine leq_f (by omega) ?_ | refine gtr_t (by omega) ?_ | refine gtr_f (by omega) ?_ | refine geq_t (by omega) ?_ | refine geq_f (by omega) ?_ | refine eql_t (by omega) ?_ | refine eql_f (by omega) ?_ | refine neq_t (by omega) ?_ | refine neq_f (by omega) ?_ | refine bindP_mk (by simp (disch := first | omega | exact Int.natCast_nonneg _ | assumption) only [BB, decide_true, decide_false, Bool.not_true, Bool.not_false, Option.bind_some, T.get_upd_same, T.get_upd_ne, if_pos, Nat.zero_add, Nat.mul_one, Nat.add_zero, Int.toNat_natCast, ↓reduceIte, Nat.reduceLeDiff, Nat.reduceAdd, Nat.le_refl] <;> rfl) ?_ | refine newP_mk ?_ | refine optP_mk ?_ | with_reducible refine condP_t ?_ | with_reducible refine condP_f ?_ | with_reducible refine ifP_tt' ?_ | with_reducible refine ifP_ff' ?_ | with_reducible refine ifP_tf' ?_ | with_reducible refine ifP_ft' ?_ | with_reducible refine ifP_u' ?_ | refine optP_mk0 ?_))
                refine neq_s (fun u3 => ?_) (fun u3 => ?_)
                · rw [decide_eq_false (by omega), Bool.false_or] at hfin hok
                  (repeat (first | refine lss_t (by omega) ?_ | refine lss_f (by omega) ?_ | refine leq_t (by omega) ?_ | refine leq_f (by omega) ?_ | refine gtr_t (by omega) ?_ | refine gtr_f (by omega) ?_ | refine geq_t (by omega) ?_ | refine geq_f (by omega) ?_ | refine eql_t (by omega) ?_ | refine eql_f (by omega) ?_ | refine neq_t (by omega) ?_ | refine neq_f (by omega) ?_ | refine bindP_mk (by simp (disch := first | omega | exact Int.natCast_nonneg _ | assumption) only [BB, decide_true, decide_false, Bool.not_true, Bool.not_false, Option.bind_some, T.get_upd_same, T.get_upd_ne, if_pos, Nat.zero_add, Nat.mul_one, Nat.add_zero, Int.toNat_natCast, ↓reduceIte, Nat.reduceLeDiff, Nat.reduceAdd, Nat.le_refl, g1, g2, g3, hsg, hix, hx4, hx1, rix, rld] <;> rfl) ?_ | refine newP_mk ?_ | refine optP_mk ?_ | with_reducible refine condP_t ?_ | with_reducible refine condP_f ?_ | with_reducible refine ifP_tt' ?_ | with_reducible refine ifP_ff' ?_ | with_reducible refine ifP_tf' ?_ | with_reducible refine ifP_ft' ?_ | with_reducible refine ifP_u' ?_ | refine optP_mk0 ?_))
                  refine slices_Contains_c (by omega) hrv fun n9 hn9 => ?_
                  cases hcn : R.contains r with
                  | true =>
                    rw [hcn] at hok
                    (repeat (first | refine lss_t (by omega) ?_ | refine lss_f (by omega) ?_ | refine leq_t (by omega) ?_ | refine leq_f (by omega) ?_ | refine gtr_t (by omega) ?_ | refine gtr_f (by omega) ?_ | refine geq_t (by omega) ?_ | refine geq_f (by omega) ?_ | refine eql_t (by omega) ?_ | refine eql_f (by omega) ?_ | refine neq_t (by omega) ?_ | refine neq_f (by omega) ?_ | refine bindP_mk (by simp (disch := first | omega | exact Int.natCast_nonneg _ | assumption) only [BB, decide_true, decide_false, Bool.not_true, Bool.not_false, Option.bind_some, T.get_upd_same, T.get_upd_ne, if_pos, Nat.zero_add, Nat.mul_one, Nat.add_zero, Int.toNat_natCast, ↓reduceIte, Nat.reduceLeDiff, Nat.reduceAdd, Nat.le_refl] <;> rfl) ?_ | refine newP_mk ?_ | refine optP_mk ?_ | with_reducible refine condP_t ?_ | with_reducible refine condP_f ?_ | with_reducible refine ifP_tt' ?_ | with_reducible refine ifP_ff' ?_ | with_reducible refine ifP_tf' ?_ | with_reducible refine ifP_ft' ?_ | with_reducible refine ifP_u' ?_ | refine optP_mk0 ?_))
                    exact hok _ _ e3 e4 e5 e44 e45 rfl rfl (by omega)
                  | false =>
                    rw [hcn] at hfin
                    (repeat (first | refine lss_t (by omega) ?_ | refine lss_f (by omega) ?_ | refine leq_t (by omega) ?_ | refine leq_f (by omega) ?_ | refine gtr_t (by omega) ?_ | refine gtr_f (by omega) ?_ | refine geq_t (by omega) ?_ | refine geq_f (by omega) ?_ | refine eql_t (by omega) ?_ | refine eql_f (by omega) ?_ | refine neq_t (by omega) ?_ | refine neq_f (by omega) ?_ | refine bindP_mk (by simp (disch := first | omega | exact Int.natCast_nonneg _ | assumption) only [BB, decide_true, decide_false, Bool.not_true, Bool.not_false, Option.bind_some, T.get_upd_same, T.get_upd_ne, if_pos, Nat.zero_add, Nat.mul_one, Nat.add_zero, Int.toNat_natCast, ↓reduceIte, Nat.reduceLeDiff, Nat.reduceAdd, Nat.le_refl] <;> rfl) ?_ | refine newP_mk ?_ | refine optP_mk ?_ | with_reducible refine condP_t ?_ | with_reducible refine condP_f ?_ | with_reducible refine ifP_tt' ?_ | with_reducible refine ifP_ff' ?_ | with_reducible refine ifP_tf' ?_ | with_reducible refine ifP_ft' ?_ | with_reducible refine ifP_u' ?_ | refine optP_mk0 ?_))
                    exact hfin _ _ rfl rfl (by omega)
                · rw [decide_eq_true (by omega), Bool.true_or] at hfin hok
                  (repeat (first | refine lss_t (by omega) ?_ | refine lss_f (by omega) ?_ | refine leq_t (by omega) ?_ | refine leq_f (by omega) ?_ | refine gtr_t (by omega) ?_ | refine gtr_f (by omega) ?_ | refine geq_t (by omega) ?_ | refine geq_f (by omega) ?_ | refine eql_t (by omega) ?_ | refine eql_f (by omega) ?_ | refine neq_t (by omega) ?_ | refine neq_f (by omega) ?_ | refine bindP_mk (by simp (disch := first | omega | exact Int.natCast_nonneg _ | assumption) only [BB, decide_true, decide_false, Bool.not_true, Bool.not_false, Option.bind_some, T.get_upd_same, T.get_upd_ne, if_pos, Nat.zero_add, Nat.mul_one, Nat.add_zero, Int.toNat_natCast, ↓reduceIte, Nat.reduceLeDiff, Nat.reduceAdd, Nat.le_refl] <;> rfl) ?_ | refine newP_mk ?_ | refine optP_mk ?_ | with_reducible refine condP_t ?_ | with_reducible refine condP_f ?_ | with_reducible refine ifP_tt' ?_ | with_reducible refine ifP_ff' ?_ | with_reducible refine ifP_tf' ?_ | with_reducible refine ifP_ft' ?_ | with_reducible refine ifP_u' ?_ | refine optP_mk0 ?_))
                  exact hok _ _ e3 e4 e5 e44 e45 rfl rfl (by omega)
          · (repeat (first | refine lss_t (by omega) ?_ | refine lss_f (by omega) ?_ | refine leq_t (by omega) ?_ | refine leq_f (by omega) ?_ | refine gtr_t (by omega) ?_ | refine gtr_f (by omega) ?_ | refine geq_t (by omega) ?_ | refine geq_f (by omega) ?_ | refine eql_t (by omega) ?_ | refine eql_f (by omega) ?_ | refine neq_t (by omega) ?_ | refine neq_f (by omega) ?_ | refine bindP_mk (by simp (disch := first | omega | exact Int.natCast_nonneg _ | assumption) only [BB, decide_true, decide_false, Bool.not_true, Bool.not_false, Option.bind_some, T.get_upd_same, T.get_upd_ne, if_pos, Nat.zero_add, Nat.mul_one, Nat.add_zero, Int.toNat_natCast, ↓reduceIte, Nat.reduceLeDiff, Nat.reduceAdd, Nat.le_refl] <;> rfl) ?_ | refine newP_mk ?_ | refine optP_mk ?_ | with_reducible refine condP_t ?_ | with_reducible refine condP_f ?_ | with_reducible refine ifP_tt' ?_ | with_reducible refine ifP_ff' ?_ | with_reducible refine ifP_tf' ?_ | with_reducible refine ifP_ft' ?_ | with_reducible refine ifP_u' ?_ | refine optP_mk0 ?_))
            refine hx _ _ _ _ (fun e => by cases e) (exP_e (beqP_t ?_))
            unfold auto_checker_move_j1
            rw [drop_all (by omega), opsOk_nil] at hr
            exact ⟨h, hs, kb hK hr.symm (by omega)⟩
end V
end Go.Proofs.Ytmmdcdjkmakgpaa
