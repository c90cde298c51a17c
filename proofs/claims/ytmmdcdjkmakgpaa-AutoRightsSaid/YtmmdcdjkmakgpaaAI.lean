/- The law AutoRights as the machine runs it.
   No condition. -/
import Derived.Test.YtmmdcdjkmakgpaaAH
import Derived.Test.YtmmdcdjkmakgpaaAS
set_option linter.unusedVariables false
set_option linter.unusedSimpArgs false
namespace Go.Proofs.Ytmmdcdjkmakgpaa
namespace V
open PA
attribute [local irreducible] bindP ifP condP newP optP exP beqP
theorem min_int (h : T Obj) (t : Array TypeId) (a b : Int) : builtinQ Try.prog h .min t [.int .i64 a, .int .i64 b] = some (.int .i64 (min a b)) := by
  unfold builtinQ
  simp only [minL_eq, minL, minB]
  by_cases e : b < a
  · simp only [e, decide_true]; congr 2; omega
  · simp only [e, decide_false]; congr 2; omega
theorem SlR.cells {D : Type} {ro : Ro} {h : T Obj} {v : Value} {z : Nat} {R : List Value → D → Prop} {l : List D} (hl : SlR ro h v z R l) : v.cells = #[v] := by
  obtain ⟨cs, h9, _⟩ := hl
  rcases h9 with ⟨rfl, _⟩ | ⟨a, cap, rfl, _⟩ <;> rfl
theorem und_states : und Try.prog y_s_api_State = some (.slice y_api_State) := by kernel_rfl
theorem siz_State : siz Try.prog y_api_State = some 4 := by kernel_rfl
theorem SlR.take {D : Type} {P : Program} {t e : TypeId} {ro : Ro} {h : T Obj} {v : Value} {z : Nat} {R : List Value → D → Prop} {l : List D} (hl : SlR ro h v z R l) (hu : und P t = some (.slice e)) (hz : siz P e = some z) (hz0 : 0 < z) {n : Nat} (hn : n ≤ l.length) (k : IntKind) :
    ∃ r, sliceV P t v none (some (.int k (n : Int))) none = some r ∧ SlR ro h r z R (l.take n) := by
  obtain ⟨cs, h1, h2, h3⟩ := hl
  obtain ⟨r, h4, h5⟩ := h1.take hu hz hz0 (n := n) (by omega) k
  refine ⟨r, h4, cs.take n, h5, by simp [h2], fun i x d hx hd => ?_⟩
  rw [List.getElem?_take] at hx hd
  split at hx
  · rename_i hi
    rw [if_pos hi] at hd
    exact h3 i x d hx hd
  · cases hx
theorem autL_set {c : List Nat} {n : Int} {cv sv w : Value} (hc : c.length = 256) : (autL c n cv sv).set 258 w = autL c n cv w := by
  unfold autL
  rw [List.set_append_right _ _ (by rw [splitLI_len hc]; omega), splitLI_len hc]; rfl
set_option maxRecDepth 8000 in
set_option maxHeartbeats 2000000 in
theorem law11_AutoRights_c {ro : Ro} {x : List Value} {d : AutoD} {h : T Obj} {nx : Nat} {K : KV} (hf : Fr h nx) (hd : RAuto ro h x d) (hK : ∀ h' nx', nx ≤ nx' → K (.bool true) h' nx') : callP Try.prog ro i_law11_AutoRights [.agg x.toArray] h nx K := by
  obtain ⟨cv, sv, rfl, hc, hcl, hcv, hS, hb1, hb2⟩ := hd
  obtain ⟨c, n, C, S⟩ := d
  simp only at hc hcl hcv hS hb1 hb2
  dsimp only
  apply law11_AutoRights_of
  unfold law11_AutoRights
  refine param_mk hf (Nat.le_refl _) fun p1 hs hf1 g1 _ => ?_
  have g1 : p1.get nx = some (.cells (autL c n cv sv).toArray y_api_Auto) := g1
  have hsg := autL_states (n := n) (cv := cv) (sv := sv) hc
  have ls := hS.len
  (repeat (first | refine lss_t (by omega) ?_ | refine lss_f (by omega) ?_ | refine leq_t (by omega) ?_ | refine leq_f (by omega) ?_ | refine gtr_t (by omega) ?_ | refine gtr_f (by omega) ?_ | refine geq_t (by omega) ?_ | refine geq_f (by omega) ?_ | refine eql_t (by omega) ?_ | refine eql_f (by omega) ?_ | refine neq_t (by omega) ?_ | refine neq_f (by omega) ?_ | refine bindP_mk (by simp (disch := first | omega | exact Int.natCast_nonneg _ | assumption) only [BB, decide_true, decide_false, Bool.not_true, Bool.not_false, Option.bind_some, T.get_upd_same, T.get_upd_ne, if_pos, Nat.zero_add, Nat.mul_one, Nat.add_zero, Int.toNat_natCast, ↓reduceIte, Nat.reduceLeDiff, Nat.reduceAdd, Nat.le_refl, g1, hsg, ls] <;> rfl) ?_ | refine newP_mk ?_ | refine optP_mk ?_ | with_reducible refine condP_t ?_ | with_reducible refine condP_f ?_ | with_reducible refine ifP_tt' ?_ | with_reducible refine ifP_ff' ?_ | with_reducible refine ifP_tf' ?_ | with_reducible refine ifP_ft' ?_ | with_reducible refine ifP_u' ?_ | refine optP_mk0 ?_))
  refine bindP_mk (min_int _ _ _ _) ?_
  rw [show min ((S.length : Nat) : Int) 300 = ((min S.length 300 : Nat) : Int) by omega]
  obtain ⟨w, hw, hS2⟩ := hS.take (P := Try.prog) und_states siz_State (by omega) (n := min S.length 300) (by omega) .i64
  refine bindP_mk hw ?_
  (repeat (first | refine lss_t (by omega) ?_ | refine lss_f (by omega) ?_ | refine leq_t (by omega) ?_ | refine leq_f (by omega) ?_ | refine gtr_t (by omega) ?_ | refine gtr_f (by omega) ?_ | refine geq_t (by omega) ?_ | refine geq_f (by omega) ?_ | refine eql_t (by omega) ?_ | refine eql_f (by omega) ?_ | refine neq_t (by omega) ?_ | refine neq_f (by omega) ?_ | refine bindP_mk (by simp (disch := first | omega | exact Int.natCast_nonneg _ | assumption) only [BB, decide_true, decide_false, Bool.not_true, Bool.not_false, Option.bind_some, T.get_upd_same, T.get_upd_ne, if_pos, Nat.zero_add, Nat.mul_one, Nat.add_zero, Int.toNat_natCast, ↓reduceIte, Nat.reduceLeDiff, Nat.reduceAdd, Nat.le_refl] <;> rfl) ?_ | refine newP_mk ?_ | refine optP_mk ?_ | with_reducible refine condP_t ?_ | with_reducible refine condP_f ?_ | with_reducible refine ifP_tt' ?_ | with_reducible refine ifP_ff' ?_ | with_reducible refine ifP_tf' ?_ | with_reducible refine ifP_ft' ?_ | with_reducible refine ifP_u' ?_ | refine optP_mk0 ?_))
  refine bindP_mk (store1_own g1 (by rw [autL_len hc]; omega) (SlR.okC hS2) (SlR.cells hS2)) ?_
  rw [autL_set hc]
  have hs2 : Sub h (p1.upd nx (some (.cells (autL c n cv w).toArray y_api_Auto))) := fun i o hi => by
    have := hf.lt' hi
    rw [T.get_upd_ne _ _ (by omega)]; exact hs _ _ hi
  have hf2 : Fr (p1.upd nx (some (.cells (autL c n cv w).toArray y_api_Auto))) (nx + 1) := hf1.upd (Nat.le_refl _) (by omega)
  have g2 : (p1.upd nx (some (.cells (autL c n cv w).toArray y_api_Auto))).get nx = some (.cells (autL c n cv w).toArray y_api_Auto) := by rw [T.get_upd_same]
  generalize p1.upd nx (some (.cells (autL c n cv w).toArray y_api_Auto)) = p2 at hs2 hf2 g2
  refine shown_c ?_
  have hD : RAuto ro p2 (autL c n cv w) ⟨c, n, C, S.take (min S.length 300)⟩ := ⟨cv, w, rfl, hc, hcl, hcv.sub hs2 fun _ _ h => h, hS2.sub hs2 (RState.sub hs2), hb1, by rw [List.length_take]; exact Nat.le_trans (Nat.min_le_right _ _) hb2⟩
  have LA := loadA_all (ro := ro) (z := 0) (n := 259) (l := autL c n cv w) g2 (autL_len hc)
  (repeat (first | refine lss_t (by omega) ?_ | refine lss_f (by omega) ?_ | refine leq_t (by omega) ?_ | refine leq_f (by omega) ?_ | refine gtr_t (by omega) ?_ | refine gtr_f (by omega) ?_ | refine geq_t (by omega) ?_ | refine geq_f (by omega) ?_ | refine eql_t (by omega) ?_ | refine eql_f (by omega) ?_ | refine neq_t (by omega) ?_ | refine neq_f (by omega) ?_ | refine bindP_mk (by simp (disch := first | omega | exact Int.natCast_nonneg _ | assumption) only [BB, decide_true, decide_false, Bool.not_true, Bool.not_false, Option.bind_some, T.get_upd_same, T.get_upd_ne, if_pos, Nat.zero_add, Nat.mul_one, Nat.add_zero, Int.toNat_natCast, ↓reduceIte, Nat.reduceLeDiff, Nat.reduceAdd, Nat.le_refl, LA] <;> rfl) ?_ | refine newP_mk ?_ | refine optP_mk ?_ | with_reducible refine condP_t ?_ | with_reducible refine condP_f ?_ | with_reducible refine ifP_tt' ?_ | with_reducible refine ifP_ff' ?_ | with_reducible refine ifP_tf' ?_ | with_reducible refine ifP_ft' ?_ | with_reducible refine ifP_u' ?_ | refine optP_mk0 ?_))
  refine auto_Right_c (hf2.mono (by omega)) hD fun n1 hn1 => ?_
  (repeat (first | refine lss_t (by omega) ?_ | refine lss_f (by omega) ?_ | refine leq_t (by omega) ?_ | refine leq_f (by omega) ?_ | refine gtr_t (by omega) ?_ | refine gtr_f (by omega) ?_ | refine geq_t (by omega) ?_ | refine geq_f (by omega) ?_ | refine eql_t (by omega) ?_ | refine eql_f (by omega) ?_ | refine neq_t (by omega) ?_ | refine neq_f (by omega) ?_ | refine bindP_mk (by simp (disch := first | omega | exact Int.natCast_nonneg _ | assumption) only [BB, decide_true, decide_false, Bool.not_true, Bool.not_false, Option.bind_some, T.get_upd_same, T.get_upd_ne, if_pos, Nat.zero_add, Nat.mul_one, Nat.add_zero, Int.toNat_natCast, ↓reduceIte, Nat.reduceLeDiff, Nat.reduceAdd, Nat.le_refl, LA] <;> rfl) ?_ | refine newP_mk ?_ | refine optP_mk ?_ | with_reducible refine condP_t ?_ | with_reducible refine condP_f ?_ | with_reducible refine ifP_tt' ?_ | with_reducible refine ifP_ff' ?_ | with_reducible refine ifP_tf' ?_ | with_reducible refine ifP_ft' ?_ | with_reducible refine ifP_u' ?_ | refine optP_mk0 ?_))
  first
  | refine ⟨fun _ => sameV_own g2 g2, ?_⟩
  | skip
  (repeat (first | refine lss_t (by omega) ?_ | refine lss_f (by omega) ?_ | refine leq_t (by omega) ?_ | refine leq_f (by omega) ?_ | refine gtr_t (by omega) ?_ | refine gtr_f (by omega) ?_ | refine geq_t (by omega) ?_ | refine geq_f (by omega) ?_ | refine eql_t (by omega) ?_ | refine eql_f (by omega) ?_ | refine neq_t (by omega) ?_ | refine neq_f (by omega) ?_ | refine bindP_mk (by simp (disch := first | omega | exact Int.natCast_nonneg _ | assumption) only [BB, decide_true, decide_false, Bool.not_true, Bool.not_false, Option.bind_some, T.get_upd_same, T.get_upd_ne, if_pos, Nat.zero_add, Nat.mul_one, Nat.add_zero, Int.toNat_natCast, ↓reduceIte, Nat.reduceLeDiff, Nat.reduceAdd, Nat.le_refl, LA] <;> rfl) ?_ | refine newP_mk ?_ | refine optP_mk ?_ | with_reducible refine condP_t ?_ | with_reducible refine condP_f ?_ | with_reducible refine ifP_tt' ?_ | with_reducible refine ifP_ff' ?_ | with_reducible refine ifP_tf' ?_ | with_reducible refine ifP_ft' ?_ | with_reducible refine ifP_u' ?_ | refine optP_mk0 ?_))
  refine ref11_Right_c (hf2.mono (by omega)) hD fun n2 hn2 => ?_
  generalize autoOk ⟨c, n, C, S.take (min S.length 300)⟩ = b
  cases b with
  | false =>
    (repeat (first | refine lss_t (by omega) ?_ | refine lss_f (by omega) ?_ | refine leq_t (by omega) ?_ | refine leq_f (by omega) ?_ | refine gtr_t (by omega) ?_ | refine gtr_f (by omega) ?_ | refine geq_t (by omega) ?_ | refine geq_f (by omega) ?_ | refine eql_t (by omega) ?_ | refine eql_f (by omega) ?_ | refine neq_t (by omega) ?_ | refine neq_f (by omega) ?_ | refine bindP_mk (by simp (disch := first | omega | exact Int.natCast_nonneg _ | assumption) only [BB, decide_true, decide_false, Bool.not_true, Bool.not_false, Option.bind_some, T.get_upd_same, T.get_upd_ne, if_pos, Nat.zero_add, Nat.mul_one, Nat.add_zero, Int.toNat_natCast, ↓reduceIte, Nat.reduceLeDiff, Nat.reduceAdd, Nat.le_refl] <;> rfl) ?_ | refine newP_mk ?_ | refine optP_mk ?_ | with_reducible refine condP_t ?_ | with_reducible refine condP_f ?_ | with_reducible refine ifP_tt' ?_ | with_reducible refine ifP_ff' ?_ | with_reducible refine ifP_tf' ?_ | with_reducible refine ifP_ft' ?_ | with_reducible refine ifP_u' ?_ | refine optP_mk0 ?_))
    rw [show (false == false) = true from rfl]
    (repeat (first | refine lss_t (by omega) ?_ | refine lss_f (by omega) ?_ | refine leq_t (by omega) ?_ | refine leq_f (by omega) ?_ | refine gtr_t (by omega) ?_ | refine gtr_f (by omega) ?_ | refine geq_t (by omega) ?_ | refine geq_f (by omega) ?_ | refine eql_t (by omega) ?_ | refine eql_f (by omega) ?_ | refine neq_t (by omega) ?_ | refine neq_f (by omega) ?_ | refine bindP_mk (by simp (disch := first | omega | exact Int.natCast_nonneg _ | assumption) only [BB, decide_true, decide_false, Bool.not_true, Bool.not_false, Option.bind_some, T.get_upd_same, T.get_upd_ne, if_pos, Nat.zero_add, Nat.mul_one, Nat.add_zero, Int.toNat_natCast, ↓reduceIte, Nat.reduceLeDiff, Nat.reduceAdd, Nat.le_refl] <;> rfl) ?_ | refine newP_mk ?_ | refine optP_mk ?_ | with_reducible refine condP_t ?_ | with_reducible refine condP_f ?_ | with_reducible refine ifP_tt' ?_ | with_reducible refine ifP_ff' ?_ | with_reducible refine ifP_tf' ?_ | with_reducible refine ifP_ft' ?_ | with_reducible refine ifP_u' ?_ | refine optP_mk0 ?_))
    exact ⟨_, Sub.refl _, hK _ _ (by omega)⟩
  | true =>
    (repeat (first | refine lss_t (by omega) ?_ | refine lss_f (by omega) ?_ | refine leq_t (by omega) ?_ | refine leq_f (by omega) ?_ | refine gtr_t (by omega) ?_ | refine gtr_f (by omega) ?_ | refine geq_t (by omega) ?_ | refine geq_f (by omega) ?_ | refine eql_t (by omega) ?_ | refine eql_f (by omega) ?_ | refine neq_t (by omega) ?_ | refine neq_f (by omega) ?_ | refine bindP_mk (by simp (disch := first | omega | exact Int.natCast_nonneg _ | assumption) only [BB, decide_true, decide_false, Bool.not_true, Bool.not_false, Option.bind_some, T.get_upd_same, T.get_upd_ne, if_pos, Nat.zero_add, Nat.mul_one, Nat.add_zero, Int.toNat_natCast, ↓reduceIte, Nat.reduceLeDiff, Nat.reduceAdd, Nat.le_refl] <;> rfl) ?_ | refine newP_mk ?_ | refine optP_mk ?_ | with_reducible refine condP_t ?_ | with_reducible refine condP_f ?_ | with_reducible refine ifP_tt' ?_ | with_reducible refine ifP_ff' ?_ | with_reducible refine ifP_tf' ?_ | with_reducible refine ifP_ft' ?_ | with_reducible refine ifP_u' ?_ | refine optP_mk0 ?_))
    rw [show (true == true) = true from rfl]
    (repeat (first | refine lss_t (by omega) ?_ | refine lss_f (by omega) ?_ | refine leq_t (by omega) ?_ | refine leq_f (by omega) ?_ | refine gtr_t (by omega) ?_ | refine gtr_f (by omega) ?_ | refine geq_t (by omega) ?_ | refine geq_f (by omega) ?_ | refine eql_t (by omega) ?_ | refine eql_f (by omega) ?_ | refine neq_t (by omega) ?_ | refine neq_f (by omega) ?_ | refine bindP_mk (by simp (disch := first | omega | exact Int.natCast_nonneg _ | assumption) only [BB, decide_true, decide_false, Bool.not_true, Bool.not_false, Option.bind_some, T.get_upd_same, T.get_upd_ne, if_pos, Nat.zero_add, Nat.mul_one, Nat.add_zero, Int.toNat_natCast, ↓reduceIte, Nat.reduceLeDiff, Nat.reduceAdd, Nat.le_refl] <;> rfl) ?_ | refine newP_mk ?_ | refine optP_mk ?_ | with_reducible refine condP_t ?_ | with_reducible refine condP_f ?_ | with_reducible refine ifP_tt' ?_ | with_reducible refine ifP_ff' ?_ | with_reducible refine ifP_tf' ?_ | with_reducible refine ifP_ft' ?_ | with_reducible refine ifP_u' ?_ | refine optP_mk0 ?_))
    exact ⟨_, Sub.refl _, hK _ _ (by omega)⟩
end V
end Go.Proofs.Ytmmdcdjkmakgpaa
