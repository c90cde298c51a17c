/- Arguments opened (ring): truth values.
   No condition. -/
import Derived.Test.YtnglppngpioipaaLR
import Derived.Test.YtnglppngpioipaaRK
set_option linter.unusedVariables false
set_option linter.unusedSimpArgs false
namespace Go.Proofs.Ytnglppngpioipaa
namespace V
open Go.ChangeShapes Go.WideShapes Go.ChangeAt Go.RowKit
section
variable {H : Type} {enc : TypeId × Value → H} {W : World}
theorem bool_cell {n : Nat} {cs : List Value} {y : DataW H × List MemPlace} (h : DataW.trod enc Try.prog W 0 (fun _ => true) true n y_bool cs = some y) : ∃ a : Bool, cs = [.bool a] := by
  have hu : Try.prog.underlying y_bool = some .bool := by kernel_rfl
  obtain ⟨a, rfl, _⟩ := DataW.trod_bool hu h
  exact ⟨a, rfl⟩
theorem norm_bool (N : Nat) (a : Bool) : normL N [.bool a] = some [.bool a] := rfl
theorem open_bools {v : Value} {d : DataW H} {p : List MemPlace} (h : DataW.Trod enc Try.prog W 0 (fun _ => true) true y_s_bool v d p) {base : Nat} (hval : Value.okWide Try.prog W .any base y_s_bool v) : ∃ v' l, Arg W.heap.size v' v ∧ Sl (roOf W) .e v' 1 (boolsC l) := by
  have hu : Try.prog.underlying y_s_bool = some (.slice y_bool) := by kernel_rfl
  have hc : Try.prog.cellsOf y_bool = 1 := by kernel_rfl
  obtain ⟨fuel, hf⟩ := h
  obtain ⟨v1, v', hv, hn, l, hl, hall⟩ := open_sl hu hc (by omega) hf (El := fun x => ∃ m : Bool, x = [.bool m]) (fun n cs' y hy => by
    obtain ⟨m, rfl⟩ := bool_cell hy
    exact ⟨_, norm_bool _ _, m, rfl⟩)
  have e : ∃ ms : List Bool, l = boolsC ms := by
    clear hl
    induction l with
    | nil => exact ⟨[], rfl⟩
    | cons x l ih =>
      obtain ⟨ms, h1⟩ := ih fun y hy => hall y (by simp [hy])
      obtain ⟨m, rfl⟩ := hall x (by simp)
      exact ⟨m :: ms, by simp [boolsC, h1]⟩
  obtain ⟨ms, rfl⟩ := e
  have hvv : v.cells.toList = [v1] := hv
  have hv1 : v = v1 := by
    obtain ⟨a, len, cap, rfl⟩ := okWide_slice hu hval
    simpa [Value.cells] using hvv
  subst hv1
  exact ⟨v', ms, .one hn, hl⟩
end
end V
end Go.Proofs.Ytnglppngpioipaa
