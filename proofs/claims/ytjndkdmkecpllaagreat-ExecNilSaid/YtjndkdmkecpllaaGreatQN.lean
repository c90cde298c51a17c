/- Texts laid one behind the other: XN, LNil.
   No condition. -/
import Derived.Test.YtjndkdmkecpllaaGreatQN3
set_option linter.unusedVariables false
set_option linter.unusedSimpArgs false
set_option linter.unusedVariables false
set_option linter.unusedSimpArgs false
namespace Go.Proofs.YtjndkdmkecpllaaGreat
namespace V
attribute [local irreducible] bindP ifP condP newP optP exP beqP
theorem pNilEq : ptrB .eql (.pointer none) (.pointer none) = some (.bool true) := rfl
section
variable {ro : Ro} {h : T Obj} {nx : Nat} {K : KV}
theorem nil_State_c (hK : ∀ nx', nx ≤ nx' → K (.int .i64 (-1)) h nx') : callP Tryz.prog ro i_exec_Machine_State [.pointer none] h nx K := by
  apply exec_Machine_State_of
  unfold exec_Machine_State
  (repeat (first | refine bindP_mk (by simp (disch := first | omega | exact Int.natCast_nonneg _ | assumption) only [BB, B2, ↓reduceIte, Nat.reduceLeDiff, Nat.reduceAdd, CC, pNilEq] <;> rfl) ?_ | refine newP_mk ?_ | refine optP_mk ?_ | with_reducible first | refine condP_t ?_ | refine condP_f ?_ | refine ifP_tt' ?_ | refine ifP_ff' ?_ | refine ifP_tf' ?_ | refine ifP_ft' ?_ | refine ifP_u' ?_ | refine optP_mk0 ?_))
  exact ⟨h, Sub.refl _, hK _ (by omega)⟩
theorem nil_Reset_c (hK : ∀ nx', nx ≤ nx' → K (.tuple #[]) h nx') : callP Tryz.prog ro i_exec_Machine_Reset [.pointer none] h nx K := by
  apply exec_Machine_Reset_of
  unfold exec_Machine_Reset
  (repeat (first | refine bindP_mk (by simp (disch := first | omega | exact Int.natCast_nonneg _ | assumption) only [BB, B2, ↓reduceIte, Nat.reduceLeDiff, Nat.reduceAdd, CC, pNilEq] <;> rfl) ?_ | refine newP_mk ?_ | refine optP_mk ?_ | with_reducible first | refine condP_t ?_ | refine condP_f ?_ | refine ifP_tt' ?_ | refine ifP_ff' ?_ | refine ifP_tf' ?_ | refine ifP_ft' ?_ | refine ifP_u' ?_ | refine optP_mk0 ?_))
  exact ⟨h, Sub.refl _, hK _ (by omega)⟩
theorem nil_Longest_c {s : ByteArray} {x : Int} (hK : ∀ nx', nx ≤ nx' → K (.tuple #[.int .i64 0, .int .i64 0, .bool false]) h nx') : callP Tryz.prog ro i_exec_Machine_Longest [.pointer none, .string s, .int .i64 x] h nx K := by
  apply exec_Machine_Longest_of
  unfold exec_Machine_Longest
  (repeat (first | refine bindP_mk (by simp (disch := first | omega | exact Int.natCast_nonneg _ | assumption) only [BB, B2, ↓reduceIte, Nat.reduceLeDiff, Nat.reduceAdd, CC, pNilEq] <;> rfl) ?_ | refine newP_mk ?_ | refine optP_mk ?_ | with_reducible first | refine condP_t ?_ | refine condP_f ?_ | refine ifP_tt' ?_ | refine ifP_ff' ?_ | refine ifP_tf' ?_ | refine ifP_ft' ?_ | refine ifP_u' ?_ | refine optP_mk0 ?_))
  exact ⟨h, Sub.refl _, hK _ (by omega)⟩
theorem nil_Step_c {b : Value} (hK : ∀ nx', nx ≤ nx' → K (.bool false) h nx') : callP Tryz.prog ro i_exec_Machine_Step [.pointer none, b] h nx K := by
  apply exec_Machine_Step_of
  unfold exec_Machine_Step
  refine nil_State_c fun n hn => ?_
  (repeat (first | refine bindP_mk (by simp (disch := first | omega | exact Int.natCast_nonneg _ | assumption) only [BB, B2, ↓reduceIte, Nat.reduceLeDiff, Nat.reduceAdd, CC] <;> rfl) ?_ | refine newP_mk ?_ | refine optP_mk ?_ | with_reducible first | refine condP_t ?_ | refine condP_f ?_ | refine ifP_tt' ?_ | refine ifP_ff' ?_ | refine ifP_tf' ?_ | refine ifP_ft' ?_ | refine ifP_u' ?_ | refine optP_mk0 ?_))
  exact ⟨h, Sub.refl _, hK _ (by omega)⟩
theorem nil_Rule_c (hK : ∀ nx', nx ≤ nx' → K (.int .i64 (-1)) h nx') : callP Tryz.prog ro i_exec_Machine_Rule [.pointer none] h nx K := by
  apply exec_Machine_Rule_of
  unfold exec_Machine_Rule
  refine nil_State_c fun n hn => ?_
  (repeat (first | refine bindP_mk (by simp (disch := first | omega | exact Int.natCast_nonneg _ | assumption) only [BB, B2, ↓reduceIte, Nat.reduceLeDiff, Nat.reduceAdd, CC] <;> rfl) ?_ | refine newP_mk ?_ | refine optP_mk ?_ | with_reducible first | refine condP_t ?_ | refine condP_f ?_ | refine ifP_tt' ?_ | refine ifP_ff' ?_ | refine ifP_tf' ?_ | refine ifP_ft' ?_ | refine ifP_u' ?_ | refine optP_mk0 ?_))
  exact ⟨h, Sub.refl _, hK _ (by omega)⟩
theorem nil_Count_c {x : Int} (hK : ∀ nx', nx ≤ nx' → K (.slice none 0 0) h nx') : callP Tryz.prog ro i_exec_Machine_Count [.pointer none, .int .i64 x] h nx K := by
  apply exec_Machine_Count_of
  unfold exec_Machine_Count
  (repeat (first | refine bindP_mk (by simp (disch := first | omega | exact Int.natCast_nonneg _ | assumption) only [BB, B2, ↓reduceIte, Nat.reduceLeDiff, Nat.reduceAdd, CC, pNilEq] <;> rfl) ?_ | refine newP_mk ?_ | refine optP_mk ?_ | with_reducible first | refine condP_t ?_ | refine condP_f ?_ | refine ifP_tt' ?_ | refine ifP_ff' ?_ | refine ifP_tf' ?_ | refine ifP_ft' ?_ | refine ifP_u' ?_ | refine optP_mk0 ?_))
  exact ⟨h, Sub.refl _, hK _ (by omega)⟩
theorem nil_Work_c (hK : ∀ nx', nx ≤ nx' → K (.int .i64 0) h nx') : callP Tryz.prog ro i_exec_Machine_Work [.pointer none] h nx K := by
  apply exec_Machine_Work_of
  unfold exec_Machine_Work
  (repeat (first | refine bindP_mk (by simp (disch := first | omega | exact Int.natCast_nonneg _ | assumption) only [BB, B2, ↓reduceIte, Nat.reduceLeDiff, Nat.reduceAdd, CC, pNilEq] <;> rfl) ?_ | refine newP_mk ?_ | refine optP_mk ?_ | with_reducible first | refine condP_t ?_ | refine condP_f ?_ | refine ifP_tt' ?_ | refine ifP_ff' ?_ | refine ifP_tf' ?_ | refine ifP_ft' ?_ | refine ifP_u' ?_ | refine optP_mk0 ?_))
  exact ⟨h, Sub.refl _, hK _ (by omega)⟩
theorem law13_ExecNil_c {s : ByteArray} {x : Int} (hK : ∀ nx', nx ≤ nx' → K (.bool true) h nx') : callP Tryz.prog ro i_law13_ExecNil [.string s, .int .i64 x] h nx K := by
  apply law13_ExecNil_of
  unfold law13_ExecNil
  refine shown_c ?_
  refine nil_Reset_c fun n1 h1 => ?_
  refine nil_Longest_c fun n2 h2 => ?_
  refine bindP_mk (a := .int .i64 0) rfl (bindP_mk (a := .int .i64 0) rfl (bindP_mk (a := .bool false) rfl ?_))
  (repeat (first | refine bindP_mk (by simp (disch := first | omega | exact Int.natCast_nonneg _ | assumption) only [BB, B2, ↓reduceIte, Nat.reduceLeDiff, Nat.reduceAdd, CC] <;> rfl) ?_ | refine newP_mk ?_ | refine optP_mk ?_ | with_reducible first | refine condP_t ?_ | refine condP_f ?_ | refine ifP_tt' ?_ | refine ifP_ff' ?_ | refine ifP_tf' ?_ | refine ifP_ft' ?_ | refine ifP_u' ?_ | refine optP_mk0 ?_))
  refine nil_Step_c fun n3 h3 => ?_
  (repeat (first | refine bindP_mk (by simp (disch := first | omega | exact Int.natCast_nonneg _ | assumption) only [BB, B2, ↓reduceIte, Nat.reduceLeDiff, Nat.reduceAdd, CC] <;> rfl) ?_ | refine newP_mk ?_ | refine optP_mk ?_ | with_reducible first | refine condP_t ?_ | refine condP_f ?_ | refine ifP_tt' ?_ | refine ifP_ff' ?_ | refine ifP_tf' ?_ | refine ifP_ft' ?_ | refine ifP_u' ?_ | refine optP_mk0 ?_))
  refine nil_State_c fun n4 h4 => ?_
  (repeat (first | refine bindP_mk (by simp (disch := first | omega | exact Int.natCast_nonneg _ | assumption) only [BB, B2, ↓reduceIte, Nat.reduceLeDiff, Nat.reduceAdd, CC] <;> rfl) ?_ | refine newP_mk ?_ | refine optP_mk ?_ | with_reducible first | refine condP_t ?_ | refine condP_f ?_ | refine ifP_tt' ?_ | refine ifP_ff' ?_ | refine ifP_tf' ?_ | refine ifP_ft' ?_ | refine ifP_u' ?_ | refine optP_mk0 ?_))
  refine nil_Rule_c fun n5 h5 => ?_
  (repeat (first | refine bindP_mk (by simp (disch := first | omega | exact Int.natCast_nonneg _ | assumption) only [BB, B2, ↓reduceIte, Nat.reduceLeDiff, Nat.reduceAdd, CC] <;> rfl) ?_ | refine newP_mk ?_ | refine optP_mk ?_ | with_reducible first | refine condP_t ?_ | refine condP_f ?_ | refine ifP_tt' ?_ | refine ifP_ff' ?_ | refine ifP_tf' ?_ | refine ifP_ft' ?_ | refine ifP_u' ?_ | refine optP_mk0 ?_))
  refine nil_Count_c fun n6 h6 => ?_
  (repeat (first | refine bindP_mk (by simp (disch := first | omega | exact Int.natCast_nonneg _ | assumption) only [BB, B2, ↓reduceIte, Nat.reduceLeDiff, Nat.reduceAdd, CC] <;> rfl) ?_ | refine newP_mk ?_ | refine optP_mk ?_ | with_reducible first | refine condP_t ?_ | refine condP_f ?_ | refine ifP_tt' ?_ | refine ifP_ff' ?_ | refine ifP_tf' ?_ | refine ifP_ft' ?_ | refine ifP_u' ?_ | refine optP_mk0 ?_))
  first
  | (refine eql_t (by omega) ?_)
  | skip
  (repeat (first | refine bindP_mk (by simp (disch := first | omega | exact Int.natCast_nonneg _ | assumption) only [BB, B2, ↓reduceIte, Nat.reduceLeDiff, Nat.reduceAdd, CC] <;> rfl) ?_ | refine newP_mk ?_ | refine optP_mk ?_ | with_reducible first | refine condP_t ?_ | refine condP_f ?_ | refine ifP_tt' ?_ | refine ifP_ff' ?_ | refine ifP_tf' ?_ | refine ifP_ft' ?_ | refine ifP_u' ?_ | refine optP_mk0 ?_))
  refine nil_Work_c fun n7 h7 => ?_
  (repeat (first | refine bindP_mk (by simp (disch := first | omega | exact Int.natCast_nonneg _ | assumption) only [BB, B2, ↓reduceIte, Nat.reduceLeDiff, Nat.reduceAdd, CC] <;> rfl) ?_ | refine newP_mk ?_ | refine optP_mk ?_ | with_reducible first | refine condP_t ?_ | refine condP_f ?_ | refine ifP_tt' ?_ | refine ifP_ff' ?_ | refine ifP_tf' ?_ | refine ifP_ft' ?_ | refine ifP_u' ?_ | refine optP_mk0 ?_))
  exact ⟨h, Sub.refl _, hK _ (by omega)⟩
end
end V
end Go.Proofs.YtjndkdmkecpllaaGreat
set_option linter.unusedVariables false
set_option linter.unusedSimpArgs false
set_option maxRecDepth 16000
namespace Go.Proofs.YtjndkdmkecpllaaGreat
namespace V
open Go.ChangeShapes Go.WideShapes Go.ChangeAt Go.RowKit
theorem execNil_lifted (os : Os) (started : os.Started) (H : Type) (enc : TypeId × Value → H) :
    ReturnsInHanded {} Tryz.checked os 9 .any (Rows.execNilSpec.pre6 enc Tryz.prog Tryz.f9 Rows.execNilRow.domain false) (Rows.execNilSpec.post enc Tryz.prog Tryz.f9 false true false false) := by
  refine returnsInHanded_of_change_sized (C := Tryz.checked) okOwn started (by kernel_rfl) (by kernel_rfl)
    (ChangeSpec.witness6 (enc := enc) (C := Tryz.checked) false ⟨#[], #[.string .empty, .int .i64 0], []⟩ 8 (by kernel_rfl) (by kernel_rfl) (by kernel_rfl) (by kernel_rfl)) ?_
  intro W base args ds gs before hval hW _ _ _
  have hW' := hW
  obtain ⟨p, q, hA0, hV, rfl, hfz, hnd⟩ := hW
  have hA : DataW.TrodAll enc Tryz.prog W 0 (fun _ => true) true [y_string, y_int] args.toList ds p := hA0
  obtain ⟨v0, v1, d0, d1, p0, p1, rfl, rfl, rfl, h0, h1⟩ := trodAll_two hA
  obtain ⟨rfl, rfl⟩ := trodVars_none hV
  obtain ⟨s0, a0⟩ := open_str h0 (hval 0 y_string v0 rfl rfl)
  obtain ⟨x1, a1⟩ := open_i64 h1 (hval 1 y_int v1 rfl rfl)
  have hsay : Says Tryz.prog W 9 [.string s0, .int .i64 x1] := law13_ExecNil_c fun _ _ => rfl
  refine (says_calls okZ okN okM (args := #[v0, v1]) (.cons a0 (.cons a1 .nil)) hsay).mono fun e W' ⟨he, hb⟩ => ?_
  subst he
  exact ⟨_, rfl, law_post (tb := y_bool) okLaid (by kernel_rfl) (by kernel_rfl) (by kernel_rfl) rfl hW' hb rfl⟩
end V
theorem execNil_holds : Rows.ExecNilSaid :=
  OpenClaim.holds_of_wide 9 Tryz.f9 rfl rfl rfl rfl rfl rfl rfl ⟨rfl, rfl, rfl, rfl, rfl⟩ rfl rfl rfl rfl rfl (by kernel_rfl) (by kernel_rfl) (by kernel_rfl)
    (of_decide_eq_true (by kernel_rfl)) (by unfold Func.isWrapper; rw [if_neg (of_decide_eq_false (by kernel_rfl))]; exact ⟨rfl, rfl⟩)
    (fun os started H enc _ => V.execNil_lifted os started H enc)
end Go.Proofs.YtjndkdmkecpllaaGreat