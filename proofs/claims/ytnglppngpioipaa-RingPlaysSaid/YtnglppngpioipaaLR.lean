/- What the laws' rows ask of the program; arguments opened (ring).
   No condition. -/
import Derived.Test.YtnglppngpioipaaRows
import Derived.Test.YtnglppngpioipaaWB
import Derived.Test.YtnglppngpioipaaRE
import Derived.OpenShut
set_option linter.unusedVariables false
set_option linter.unusedSimpArgs false
namespace Go.Proofs.Ytnglppngpioipaa
namespace V
open Go.ChangeShapes Go.WideShapes Go.ChangeAt Go.RowKit
theorem okZ : zerosOk Try.prog = true := by kernel_rfl
theorem okN : namesOk Try.prog = true := by kernel_rfl
theorem okM : Try.prog.follows .mixedOrders = true := by kernel_rfl
theorem okOwn : ownKnob Try.prog.godebug = none := by kernel_rfl
theorem okLaid : laidOutB Try.prog = true := by kernel_rfl
section
variable {H : Type} {enc : TypeId × Value → H} {W : World}
theorem wf_u8 {n : Int} (h : (Lit.int .u8 n).wf = true) : 0 ≤ n ∧ n ≤ 255 := by
  simp only [Lit.wf, Bool.and_eq_true, decide_eq_true_eq] at h
  have h1 : IntKind.u8.min = 0 := rfl
  have h2 : IntKind.u8.max = 255 := rfl
  rw [h1, h2] at h; exact h
theorem wf_i64 {n : Int} (h : (Lit.int .i64 n).wf = true) : -9223372036854775808 ≤ n ∧ n ≤ 9223372036854775807 := by
  simp only [Lit.wf, Bool.and_eq_true, decide_eq_true_eq] at h
  have h1 : IntKind.i64.min = -9223372036854775808 := rfl
  have h2 : IntKind.i64.max = 9223372036854775807 := rfl
  rw [h1, h2] at h; exact h
theorem open_u8 {v : Value} {d : DataW H} {p : List MemPlace} (h : DataW.Trod enc Try.prog W 0 (fun _ => true) true y_uint8 v d p) {base : Nat} (hval : Value.okWide Try.prog W .any base y_uint8 v) : ∃ b : Nat, b < 256 ∧ Arg W.heap.size (.int .u8 (b : Int)) v := by
  have hu : Try.prog.underlying y_uint8 = some (.int .u8) := by kernel_rfl
  obtain ⟨x, rfl, _, _, hw⟩ := open_int hu hval h
  have := wf_u8 hw
  refine ⟨x.toNat, by omega, .one ?_⟩
  rw [Int.toNat_of_nonneg this.1]; rfl
theorem open_i64 {v : Value} {d : DataW H} {p : List MemPlace} (h : DataW.Trod enc Try.prog W 0 (fun _ => true) true y_int v d p) {base : Nat} (hval : Value.okWide Try.prog W .any base y_int v) : ∃ x : Int, (-9223372036854775808 ≤ x ∧ x ≤ 9223372036854775807) ∧ Arg W.heap.size (.int .i64 x) v := by
  have hu : Try.prog.underlying y_int = some (.int .i64) := by kernel_rfl
  obtain ⟨x, rfl, _, _, hw⟩ := open_int hu hval h
  exact ⟨x, wf_i64 hw, .one rfl⟩
theorem u8_cell {n : Nat} {cs : List Value} {y : DataW H × List MemPlace} (h : DataW.trod enc Try.prog W 0 (fun _ => true) true n y_uint8 cs = some y) : ∃ a : Nat, cs = [.int .u8 (a : Int)] ∧ a < 256 := by
  have hu : Try.prog.underlying y_uint8 = some (.int .u8) := by kernel_rfl
  obtain ⟨a, rfl, _, hw⟩ := DataW.trod_int hu h
  have := wf_u8 hw
  exact ⟨a.toNat, by rw [Int.toNat_of_nonneg this.1], by omega⟩
/-- A dealing, as the machine has it. -/
theorem open_u16 {v : Value} {d : DataW H} {p : List MemPlace} (h : DataW.Trod enc Try.prog W 0 (fun _ => true) true y_uint16 v d p) {base : Nat} (hval : Value.okWide Try.prog W .any base y_uint16 v) : ∃ b : Nat, b < 65536 ∧ Arg W.heap.size (.int .u16 (b : Int)) v := by
  have hu : Try.prog.underlying y_uint16 = some (.int .u16) := by kernel_rfl
  obtain ⟨x, rfl, _, _, hw⟩ := open_int hu hval h
  have : 0 ≤ x ∧ x ≤ 65535 := by
    simp only [Lit.wf, Bool.and_eq_true, decide_eq_true_eq] at hw
    have h1 : IntKind.u16.min = 0 := rfl
    have h2 : IntKind.u16.max = 65535 := rfl
    rw [h1, h2] at hw; exact hw
  refine ⟨x.toNat, by omega, .one ?_⟩
  rw [Int.toNat_of_nonneg this.1]; rfl
theorem norm_u8 (N a : Nat) : normL N [.int .u8 (a : Int)] = some [.int .u8 (a : Int)] := rfl
theorem open_u8s {v : Value} {d : DataW H} {p : List MemPlace} (h : DataW.Trod enc Try.prog W 0 (fun _ => true) true y_s_uint8 v d p) {base : Nat} (hval : Value.okWide Try.prog W .any base y_s_uint8 v) : ∃ v' l, Arg W.heap.size v' v ∧ Sl (roOf W) .e v' 1 (bytesC l) ∧ ∀ m ∈ l, m < 256 := by
  have hu : Try.prog.underlying y_s_uint8 = some (.slice y_uint8) := by kernel_rfl
  have hc : Try.prog.cellsOf y_uint8 = 1 := by kernel_rfl
  obtain ⟨fuel, hf⟩ := h
  obtain ⟨v1, v', hv, hn, l, hl, hall⟩ := open_sl hu hc (by omega) hf (El := fun x => ∃ m : Nat, m < 256 ∧ x = [.int .u8 (m : Int)]) (fun n cs' y hy => by
    obtain ⟨m, rfl, hm⟩ := u8_cell hy
    exact ⟨_, norm_u8 _ _, m, hm, rfl⟩)
  have e : ∃ ms : List Nat, l = bytesC ms ∧ ∀ m ∈ ms, m < 256 := by
    clear hl
    induction l with
    | nil => exact ⟨[], rfl, by simp⟩
    | cons x l ih =>
      obtain ⟨ms, h1, h2⟩ := ih fun y hy => hall y (by simp [hy])
      obtain ⟨m, hm, rfl⟩ := hall x (by simp)
      exact ⟨m :: ms, by simp [bytesC, h1], by simpa using ⟨hm, h2⟩⟩
  obtain ⟨ms, rfl, hms⟩ := e
  have hvv : v.cells.toList = [v1] := hv
  have hv1 : v = v1 := by
    obtain ⟨a, len, cap, rfl⟩ := okWide_slice hu hval
    simpa [Value.cells] using hvv
  subst hv1
  exact ⟨v', ms, .one hn, hl, hms⟩
end
end V
end Go.Proofs.Ytnglppngpioipaa
