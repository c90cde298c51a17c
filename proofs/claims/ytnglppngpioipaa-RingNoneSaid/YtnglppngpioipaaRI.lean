/- A ring that is none.
   No condition. -/
import Derived.Test.YtnglppngpioipaaRF
set_option linter.unusedVariables false
set_option linter.unusedSimpArgs false
namespace Go.Proofs.Ytnglppngpioipaa
namespace V
theorem ptrB_eql_nil : ptrB .eql (.pointer none) (.pointer none) = some (.bool true) := rfl
theorem ptrB_neq_nil : ptrB .neq (.pointer none) (.pointer none) = some (.bool false) := rfl
theorem nil_Put_c {ro : Ro} {h : T Obj} {nx : Nat} {K : KV} (hK : ∀ nx', nx ≤ nx' → K (.tuple #[]) h nx') : callP Try.prog ro i_ring_Ring_Put [.pointer none] h nx K := by
  apply ring_Ring_Put_of
  unfold ring_Ring_Put
  refine bindP_mk ptrB_eql_nil (condP_t ?_)
  exact ⟨_, Sub.refl _, hK _ (by omega)⟩
theorem nil_Inc_c {ro : Ro} {h : T Obj} {nx : Nat} {K : KV} (hK : ∀ nx', nx ≤ nx' → K (.tuple #[]) h nx') : callP Try.prog ro i_ring_Ring_Inc [.pointer none] h nx K := by
  apply ring_Ring_Inc_of
  unfold ring_Ring_Inc
  refine bindP_mk ptrB_eql_nil (condP_t ?_)
  exact ⟨_, Sub.refl _, hK _ (by omega)⟩
theorem nil_Clear_c {ro : Ro} {h : T Obj} {nx : Nat} {K : KV} (hK : ∀ nx', nx ≤ nx' → K (.tuple #[]) h nx') : callP Try.prog ro i_ring_Ring_Clear [.pointer none] h nx K := by
  apply ring_Ring_Clear_of
  unfold ring_Ring_Clear
  refine bindP_mk ptrB_neq_nil (condP_f ?_)
  exact ⟨_, Sub.refl _, hK _ (by omega)⟩
theorem nil_Len_c {ro : Ro} {h : T Obj} {nx : Nat} {K : KV} (hK : ∀ nx', nx ≤ nx' → K (.int .i64 0) h nx') : callP Try.prog ro i_ring_Ring_Len [.pointer none] h nx K := by
  apply ring_Ring_Len_of
  unfold ring_Ring_Len
  refine bindP_mk ptrB_eql_nil (condP_t ?_)
  exact ⟨_, Sub.refl _, hK _ (by omega)⟩
theorem nil_Work_c {ro : Ro} {h : T Obj} {nx : Nat} {K : KV} (hK : ∀ nx', nx ≤ nx' → K (.int .i64 0) h nx') : callP Try.prog ro i_ring_Ring_Work [.pointer none] h nx K := by
  apply ring_Ring_Work_of
  unfold ring_Ring_Work
  refine bindP_mk ptrB_eql_nil (condP_t ?_)
  exact ⟨_, Sub.refl _, hK _ (by omega)⟩
end V
end Go.Proofs.Ytnglppngpioipaa
