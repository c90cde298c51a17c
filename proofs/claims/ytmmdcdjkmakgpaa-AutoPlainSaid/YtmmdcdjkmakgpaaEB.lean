/- What the reference's SameStates and Same hand back of like automata.
   No condition. -/
import Derived.Test.YtmmdcdjkmakgpaaEA
set_option linter.unusedVariables false
set_option linter.unusedSimpArgs false
namespace Go.Proofs.Ytmmdcdjkmakgpaa
namespace V
open PA
attribute [local irreducible] bindP ifP condP newP optP exP beqP
set_option maxRecDepth 8000 in
theorem plain_Spl : plainTy Try.prog 20 y_api_Split = some (List.replicate 257 1) := by kernel_rfl
theorem plain_cnt : plainTy Try.prog 20 y_a2_int = some [1, 1] := by kernel_rfl
theorem eqCells_ints : ∀ {l : List Value}, (∀ v ∈ l, ∃ k n, v = .int k n) → eqCells (List.replicate l.length 1) l l = some true
  | [], _ => rfl
  | v :: l, h => by
    obtain ⟨k, n, rfl⟩ := h v (by simp)
    have ih := eqCells_ints (l := l) fun w hw => h w (by simp [hw])
    rw [List.length_cons, List.replicate_succ]
    unfold eqCells
    rw [ih]
    simp [eqCell]
theorem neq_split {c : List Nat} {n : Int} (hc : c.length = 256) {K : Value → Prop} (hk : K (.bool false)) : bindP (plainTy Try.prog 20 y_api_Split) fun ks => bindP (aggB ks .neq (splitI c n) (splitI c n)) K := by
  refine bindP_mk plain_Spl (bindP_mk (a := .bool false) ?_ hk)
  unfold splitI aggB
  have : (splitLI c n).length = 257 := splitLI_len hc
  have h2 : eqCells (List.replicate 257 1) (splitLI c n) (splitLI c n) = some true := by
    rw [← this]
    refine eqCells_ints fun v hv => ?_
    unfold splitLI u8s at hv
    rcases List.mem_append.1 hv with hv | hv
    · obtain ⟨b, _, rfl⟩ := List.mem_map.1 hv
      exact ⟨_, _, rfl⟩
    · simp at hv; exact ⟨_, _, hv⟩
  simp only [tl, h2, Option.bind_some, Bool.not_true]
/-- States of a kind that may be held against each other. -/
def Small (S : List StateD) : Prop := S.length ≤ 1000000 ∧ ∀ s ∈ S, s.l.length ≤ 1000000 ∧ s.r.length ≤ 1000000 ∧ s.rule.length ≤ 1000000 ∧ s.next.length ≤ 1000000 ∧ ∀ row ∈ s.next, row.length ≤ 1000000
set_option maxRecDepth 8000 in
set_option maxHeartbeats 1000000 in
theorem ref11_SameStates_c {ro : Ro} {c : List Nat} {n m : Int} {cv sv cw sw : Value} {S : List StateD} (hS : Small S) (hc : c.length = 256) {h : T Obj} {nx : Nat} {K : KV} (hf : Fr h nx) (hcv : lenSl cv = some (.int .i64 m)) (hcw : lenSl cw = some (.int .i64 m)) (hsv : SlR ro h sv 4 (RState ro h) S) (hsw : SlR ro h sw 4 (RState ro h) S)
    (hK : ∀ nx', nx ≤ nx' → K (.bool true) h nx') : callP Try.prog ro i_ref11_SameStates [.agg (autL c n cv sv).toArray, .agg (autL c n cw sw).toArray] h nx K := by
  apply ref11_SameStates_of
  unfold ref11_SameStates
  refine param_mk hf (Nat.le_refl _) fun h1 hs1 hf1 g1 _ => ?_
  have g1 : h1.get nx = some (.cells (autL c n cv sv).toArray y_api_Auto) := g1
  refine param_mk hf1 (Nat.le_refl _) fun h2 hs2 hf2 g2 _ => ?_
  have g2 : h2.get (nx + 1) = some (.cells (autL c n cw sw).toArray y_api_Auto) := g2
  have g1 := hs2 _ _ g1
  have hs := hs1.trans hs2
  have hsv := hsv.sub hs (RState.sub hs)
  have hsw := hsw.sub hs (RState.sub hs)
  have a1 := autL_states (n := n) (cv := cv) (sv := sv) hc
  have a2 := autL_states (n := n) (cv := cw) (sv := sw) hc
  have a3 := autL_counts (n := n) (cv := cv) (sv := sv) hc
  have a4 := autL_counts (n := n) (cv := cw) (sv := sw) hc
  have l1 := loadS (ro := ro) (z := 0) g1 hc
  have l2 := loadS (ro := ro) (z := 0) g2 hc
  have n1 := hsv.len
  have n2 := hsw.len
  refine bindP_mk rfl (bindP_mk l1 (bindP_mk rfl (bindP_mk l2 (neq_split hc ?_))))
  (repeat (first | refine bindP_mk (by simp (disch := first | omega | exact Int.natCast_nonneg _ | assumption) only [BB, B2, ↓reduceIte, Nat.reduceLeDiff, Nat.reduceAdd, CC, g1, g2, a1, a2, n1, n2] <;> rfl) ?_ | refine newP_mk ?_ | refine optP_mk ?_ | with_reducible first | refine condP_t ?_ | refine condP_f ?_ | refine ifP_tt' ?_ | refine ifP_ff' ?_ | refine ifP_tf' ?_ | refine ifP_ft' ?_ | refine ifP_u' ?_ | refine optP_mk0 ?_))
  (repeat (first | refine bindP_mk (by simp (disch := first | omega | exact Int.natCast_nonneg _ | assumption) only [BB, B2, ↓reduceIte, Nat.reduceLeDiff, Nat.reduceAdd, CC, g1, g2, a3, a4, hcv, hcw] <;> rfl) ?_ | refine newP_mk ?_ | refine optP_mk ?_ | with_reducible first | refine condP_t ?_ | refine condP_f ?_ | refine ifP_tt' ?_ | refine ifP_ff' ?_ | refine ifP_tf' ?_ | refine ifP_ft' ?_ | refine ifP_u' ?_ | refine optP_mk0 ?_))
  refine loopP_rule (fun j e h' nx' => ∃ (k : Nat), k + j = S.length ∧ nx ≤ nx' ∧ h' = h2 ∧ e 2 = ptr nx ∧ e 3 = ptr (nx + 1) ∧ e 5 = .int .i64 k) ?_ (n := S.length) ⟨0, by omega, by omega, rfl, rfl, rfl, rfl⟩
  rintro j e h' nx' ⟨k, hj, hnx, rfl, e2, e3, e5⟩ Q' hq hx
  have hS1 := hS.1
  unfold ref11_SameStates_L1
  rw [e2, e3, e5]
  (repeat (first | refine bindP_mk (by simp (disch := first | omega | exact Int.natCast_nonneg _ | assumption) only [BB, B2, ↓reduceIte, Nat.reduceLeDiff, Nat.reduceAdd, CC, g1, a1, n1] <;> rfl) ?_ | refine newP_mk ?_ | refine optP_mk ?_ | with_reducible first | refine condP_t ?_ | refine condP_f ?_ | refine ifP_tt' ?_ | refine ifP_ff' ?_ | refine ifP_tf' ?_ | refine ifP_ft' ?_ | refine ifP_u' ?_ | refine optP_mk0 ?_))
  refine lss_s (fun hk => ?_) (fun hk => ?_)
  · have hk : k < S.length := by omega
    obtain ⟨q1, q2, q3, q4, q5⟩ := hS.2 _ (List.getElem_mem hk)
    obtain ⟨x, x1, x2, x3, x4, x5⟩ := hsv.at hk
    obtain ⟨y, y1, y2, y3, y4, y5⟩ := hsw.at hk
    have i1 := hsv.ix .i64 hk
    have i2 := hsw.ix .i64 hk
    (repeat (first | refine bindP_mk (by simp (disch := first | omega | exact Int.natCast_nonneg _ | assumption) only [BB, B2, ↓reduceIte, Nat.reduceLeDiff, Nat.reduceAdd, CC, g1, g2, a1, a2, i1, i2, x3, y3] <;> rfl) ?_ | refine newP_mk ?_ | refine optP_mk ?_ | with_reducible first | refine condP_t ?_ | refine condP_f ?_ | refine ifP_tt' ?_ | refine ifP_ff' ?_ | refine ifP_tf' ?_ | refine ifP_ft' ?_ | refine ifP_u' ?_ | refine optP_mk0 ?_))
    refine ref11_sameState_c q1 q2 q3 q4 q5 (hf2.mono (by omega)) x1 y1 fun n3 hn3 => ?_
    (repeat (first | refine bindP_mk (by simp (disch := first | omega | exact Int.natCast_nonneg _ | assumption) only [BB, B2, ↓reduceIte, Nat.reduceLeDiff, Nat.reduceAdd, CC] <;> rfl) ?_ | refine newP_mk ?_ | refine optP_mk ?_ | with_reducible first | refine condP_t ?_ | refine condP_f ?_ | refine ifP_tt' ?_ | refine ifP_ff' ?_ | refine ifP_tf' ?_ | refine ifP_ft' ?_ | refine ifP_u' ?_ | refine optP_mk0 ?_))
    exact hq (j - 1) _ _ _ _ (by omega) ⟨k + 1, by omega, by omega, rfl, e2, e3, rfl⟩ (Sub.refl _)
  · refine condP_f ?_
    refine hx _ _ _ _ (fun e => by cases e) (exP_e (beqP_t ?_))
    unfold ref11_SameStates_j1
    exact ⟨h, hs, hK _ (by omega)⟩
theorem neq_cnt (d : Int × Int) {K : Value → Prop} (hk : K (.bool false)) : bindP (plainTy Try.prog 20 y_a2_int) fun ks => bindP (aggB ks .neq (.agg [Value.int .i64 d.1, .int .i64 d.2].toArray) (.agg [Value.int .i64 d.1, .int .i64 d.2].toArray)) K := by
  refine bindP_mk plain_cnt (bindP_mk (a := .bool false) ?_ hk)
  unfold aggB
  simp [eqCells, eqCell]
set_option maxRecDepth 8000 in
set_option maxHeartbeats 1000000 in
theorem ref11_Same_c {ro : Ro} {x y : List Value} {d : AutoD} (hS : Small d.states) (hcl : d.counts.length ≤ 1000000) {h : T Obj} {nx : Nat} {K : KV} (hf : Fr h nx) (hx : RAuto ro h x d) (hy : RAuto ro h y d)
    (hK : ∀ nx', nx ≤ nx' → K (.bool true) h nx') : callP Try.prog ro i_ref11_Same [.agg x.toArray, .agg y.toArray] h nx K := by
  obtain ⟨cv, sv, rfl, hc, hcb, hcv, hsv, _, _⟩ := hx
  obtain ⟨cw, sw, rfl, _, _, hcw, hsw, _, _⟩ := hy
  apply ref11_Same_of
  unfold ref11_Same
  refine param_mk hf (Nat.le_refl _) fun h1 hs1 hf1 g1 _ => ?_
  have g1 : h1.get nx = some (.cells (autL d.c d.many cv sv).toArray y_api_Auto) := g1
  refine param_mk hf1 (Nat.le_refl _) fun h2 hs2 hf2 g2 _ => ?_
  have g2 : h2.get (nx + 1) = some (.cells (autL d.c d.many cw sw).toArray y_api_Auto) := g2
  have g1 := hs2 _ _ g1
  have hs := hs1.trans hs2
  have hsv := hsv.sub hs (RState.sub hs)
  have hsw := hsw.sub hs (RState.sub hs)
  have hcv := hcv.sub hs fun _ _ h => h
  have hcw := hcw.sub hs fun _ _ h => h
  have n1 := hcv.len
  have n2 := hcw.len
  have a3 := autL_counts (n := d.many) (cv := cv) (sv := sv) hc
  have a4 := autL_counts (n := d.many) (cv := cw) (sv := sw) hc
  refine bindP_mk (loadA_all (l := autL d.c d.many cv sv) g1 (autL_len hc)) (bindP_mk (loadA_all (l := autL d.c d.many cw sw) g2 (autL_len hc)) ?_)
  refine ref11_SameStates_c hS hc (hf2.mono (show nx + 1 + 1 ≤ nx + 6 by omega)) n1 n2 hsv hsw fun n3 hn3 => ?_
  (repeat (first | refine bindP_mk (by simp (disch := first | omega | exact Int.natCast_nonneg _ | assumption) only [BB, B2, ↓reduceIte, Nat.reduceLeDiff, Nat.reduceAdd, CC] <;> rfl) ?_ | refine newP_mk ?_ | refine optP_mk ?_ | with_reducible first | refine condP_t ?_ | refine condP_f ?_ | refine ifP_tt' ?_ | refine ifP_ff' ?_ | refine ifP_tf' ?_ | refine ifP_ft' ?_ | refine ifP_u' ?_ | refine optP_mk0 ?_))
  refine loopP_rule (fun j e h' nx' => ∃ (k : Nat), k + j = d.counts.length ∧ nx ≤ nx' ∧ h' = h2 ∧ e 2 = ptr nx ∧ e 3 = ptr (nx + 1) ∧ e 5 = .int .i64 k) ?_ (n := d.counts.length) ⟨0, by omega, by omega, rfl, rfl, rfl, rfl⟩
  rintro j e h' nx' ⟨k, hj, hnx, rfl, e2, e3, e5⟩ Q' hq hx
  unfold ref11_Same_L1
  rw [e2, e3, e5]
  (repeat (first | refine bindP_mk (by simp (disch := first | omega | exact Int.natCast_nonneg _ | assumption) only [BB, B2, ↓reduceIte, Nat.reduceLeDiff, Nat.reduceAdd, CC, g1, a3, n1] <;> rfl) ?_ | refine newP_mk ?_ | refine optP_mk ?_ | with_reducible first | refine condP_t ?_ | refine condP_f ?_ | refine ifP_tt' ?_ | refine ifP_ff' ?_ | refine ifP_tf' ?_ | refine ifP_ft' ?_ | refine ifP_u' ?_ | refine optP_mk0 ?_))
  refine lss_s (fun hk => ?_) (fun hk => ?_)
  · have hk : k < d.counts.length := by omega
    obtain ⟨x, x1, x2, x3, x4, x5⟩ := hcv.at hk
    obtain ⟨y, y1, y2, y3, y4, y5⟩ := hcw.at hk
    have x1 : x = [.int .i64 d.counts[k].1, .int .i64 d.counts[k].2] := x1
    have y1 : y = [.int .i64 d.counts[k].1, .int .i64 d.counts[k].2] := y1
    subst x1; subst y1
    have i1 := hcv.ix .i64 hk
    have i2 := hcw.ix .i64 hk
    (repeat (first | refine bindP_mk (by simp (disch := first | omega | exact Int.natCast_nonneg _ | assumption) only [BB, B2, ↓reduceIte, Nat.reduceLeDiff, Nat.reduceAdd, CC, g1, g2, a3, a4, i1, i2, x3, y3] <;> rfl) ?_ | refine newP_mk ?_ | refine optP_mk ?_ | with_reducible first | refine condP_t ?_ | refine condP_f ?_ | refine ifP_tt' ?_ | refine ifP_ff' ?_ | refine ifP_tf' ?_ | refine ifP_ft' ?_ | refine ifP_u' ?_ | refine optP_mk0 ?_))
    refine neq_cnt _ ?_
    (repeat (first | refine bindP_mk (by simp (disch := first | omega | exact Int.natCast_nonneg _ | assumption) only [BB, B2, ↓reduceIte, Nat.reduceLeDiff, Nat.reduceAdd, CC] <;> rfl) ?_ | refine newP_mk ?_ | refine optP_mk ?_ | with_reducible first | refine condP_t ?_ | refine condP_f ?_ | refine ifP_tt' ?_ | refine ifP_ff' ?_ | refine ifP_tf' ?_ | refine ifP_ft' ?_ | refine ifP_u' ?_ | refine optP_mk0 ?_))
    exact hq (j - 1) _ _ _ _ (by omega) ⟨k + 1, by omega, by omega, rfl, e2, e3, rfl⟩ (Sub.refl _)
  · refine condP_f ?_
    refine hx _ _ _ _ (fun e => by cases e) (exP_e (beqP_t ?_))
    unfold ref11_Same_j1
    exact ⟨h, hs, hK _ (by omega)⟩
end V
end Go.Proofs.Ytmmdcdjkmakgpaa
