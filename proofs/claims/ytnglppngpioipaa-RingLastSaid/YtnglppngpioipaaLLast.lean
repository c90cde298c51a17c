/- RingLast: whatever the input, true.
   No condition. -/
import Derived.Test.YtnglppngpioipaaLS
import Derived.Test.YtnglppngpioipaaRK
set_option linter.unusedVariables false
set_option linter.unusedSimpArgs false
namespace Go.Proofs.Ytnglppngpioipaa
namespace V
open Go.ChangeShapes Go.WideShapes Go.ChangeAt Go.RowKit
theorem ringLast_lifted (os : Os) (started : os.Started) (H : Type) (enc : TypeId × Value → H) :
    ReturnsInHanded {} Try.checked os 3 .any (Rows.ringLastSpec.pre6 enc Try.prog Try.f3 Rows.ringLastRow.domain false) (Rows.ringLastSpec.post enc Try.prog Try.f3 false true false false) := by
  refine returnsInHanded_of_change_sized (C := Try.checked) okOwn started (by kernel_rfl) (by kernel_rfl)
    (ChangeSpec.witness6 (enc := enc) (C := Try.checked) false ⟨#[], #[.int .u16 0, .slice none 0 0], []⟩ 8 (by kernel_rfl) (by kernel_rfl) (by kernel_rfl) (by kernel_rfl)) ?_
  intro W base args ds gs before hval hW _ _ _
  have hW' := hW
  obtain ⟨p, q, hA0, hV, rfl, hfz, hnd⟩ := hW
  have hA : DataW.TrodAll enc Try.prog W 0 (fun _ => true) true [y_uint16, y_s_bool] args.toList ds p := hA0
  obtain ⟨v0, v1, d0, d1, p0, p1, rfl, rfl, rfl, h0, h1⟩ := trodAll_two hA
  obtain ⟨rfl, rfl⟩ := trodVars_none hV
  obtain ⟨b0, hb0, a0⟩ := open_u16 h0 (hval 0 y_uint16 v0 rfl rfl)
  obtain ⟨w1, l1, a1, hl1⟩ := open_bools h1 (hval 1 y_s_bool v1 rfl rfl)
  have hsay : Says Try.prog W 3 [.int .u16 (b0 : Int), w1] := law03_RingLast_c Fr.e hl1 fun _ _ _ => rfl
  refine (says_calls okZ okN okM (args := #[v0, v1]) (.cons a0 (.cons a1 .nil)) hsay).mono fun e W' ⟨he, hb⟩ => ?_
  subst he
  exact ⟨_, rfl, law_post (tb := y_bool) okLaid (by kernel_rfl) (by kernel_rfl) (by kernel_rfl) rfl hW' hb rfl⟩
end V
theorem ringLast_holds : Rows.RingLastSaid :=
  OpenClaim.holds_of_wide 3 Try.f3 rfl rfl rfl rfl rfl rfl rfl ⟨rfl, rfl, rfl, rfl, rfl⟩ rfl rfl rfl rfl rfl (by kernel_rfl) (by kernel_rfl) (by kernel_rfl)
    (of_decide_eq_true (by kernel_rfl)) (by unfold Func.isWrapper; rw [if_neg (of_decide_eq_false (by kernel_rfl))]; exact ⟨rfl, rfl⟩)
    (fun os started H enc _ => V.ringLast_lifted os started H enc)
end Go.Proofs.Ytnglppngpioipaa
