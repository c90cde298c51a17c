/- AutoPlain: whatever the input, true.
   No condition. -/
import Derived.Test.YtmmdcdjkmakgpaaBT
import Derived.Test.YtmmdcdjkmakgpaaEH
set_option linter.unusedVariables false
set_option linter.unusedSimpArgs false
set_option maxRecDepth 16000
namespace Go.Proofs.Ytmmdcdjkmakgpaa
namespace V
open Go.ChangeShapes Go.WideShapes Go.ChangeAt Go.RowKit
theorem autoPlain_lifted (os : Os) (started : os.Started) (H : Type) (enc : TypeId × Value → H) :
    ReturnsInHanded {} Try.checked os 6 .any (Rows.autoPlainSpec.pre6 enc Try.prog Try.f6 Rows.autoPlainRow.domain false) (Rows.autoPlainSpec.post enc Try.prog Try.f6 false true false false) := by
  refine returnsInHanded_of_change_sized (C := Try.checked) okOwn started (by kernel_rfl) (by kernel_rfl)
    (ChangeSpec.witness6 (enc := enc) (C := Try.checked) false ⟨#[], #[.agg #[.slice none 0 0, .slice none 0 0], .int .u8 0], []⟩ 8 (by kernel_rfl) (by kernel_rfl) (by kernel_rfl) (by kernel_rfl)) ?_
  intro W base args ds gs before hval hW _ _ _
  have hW' := hW
  obtain ⟨p, q, hA0, hV, rfl, hfz, hnd⟩ := hW
  have hA : DataW.TrodAll enc Try.prog W 0 (fun _ => true) true [y_api_Glush, y_uint8] args.toList ds p := hA0
  obtain ⟨v0, v1, d0, d1, p0, p1, rfl, rfl, rfl, h0, h1⟩ := trodAll_two hA
  obtain ⟨rfl, rfl⟩ := trodVars_none hV
  obtain ⟨w0, g0, a0, hg0⟩ := open_glush h0 (hval 0 y_api_Glush v0 rfl rfl)
  obtain ⟨b1, hb1, a1⟩ := open_u8 h1 (hval 1 y_uint8 v1 rfl rfl)
  have hsay : Says Try.prog W 6 [w0, .int .u8 (b1 : Int)] := law11_AutoPlain_c hb1 Fr.e hg0 fun _ _ => rfl
  refine (says_calls okZ okN okM (args := #[v0, v1]) (.cons a0 (.cons a1 .nil)) hsay).mono fun e W' ⟨he, hb⟩ => ?_
  subst he
  exact ⟨_, rfl, law_post (tb := y_bool) okLaid (by kernel_rfl) (by kernel_rfl) (by kernel_rfl) rfl hW' hb rfl⟩
end V
theorem autoPlain_holds : Rows.AutoPlainSaid :=
  OpenClaim.holds_of_wide 6 Try.f6 rfl rfl rfl rfl rfl rfl rfl ⟨rfl, rfl, rfl, rfl, rfl⟩ rfl rfl rfl rfl rfl (by kernel_rfl) (by kernel_rfl) (by kernel_rfl)
    (of_decide_eq_true (by kernel_rfl)) (by unfold Func.isWrapper; rw [if_neg (of_decide_eq_false (by kernel_rfl))]; exact ⟨rfl, rfl⟩)
    (fun os started H enc _ => V.autoPlain_lifted os started H enc)
end Go.Proofs.Ytmmdcdjkmakgpaa
