/- What the laws' rows ask of the program; arguments opened.
   No condition. -/
import Derived.Test.YtnjdhgbepoefiaaRows
import Derived.Test.YtnjdhgbepoefiaaWB
import Derived.Test.YtnjdhgbepoefiaaCL
import Derived.OpenShut
set_option linter.unusedVariables false
set_option linter.unusedSimpArgs false
namespace Go.Proofs.Ytnjdhgbepoefiaa
namespace V
open PA Go.ChangeShapes Go.WideShapes Go.ChangeAt Go.RowKit
theorem okZ : zerosOk Try.prog = true := by kernel_rfl
theorem okN : namesOk Try.prog = true := by kernel_rfl
theorem okM : Try.prog.follows .mixedOrders = true := by kernel_rfl
theorem okOwn : ownKnob Try.prog.godebug = none := by kernel_rfl
theorem okLaid : laidOutB Try.prog = true := by kernel_rfl
section
variable {H : Type} {enc : TypeId × Value → H} {W : World}
theorem u64_cell {n : Nat} {cs : List Value} {y : DataW H × List MemPlace} (h : DataW.trod enc Try.prog W 0 (fun _ => true) true n y_uint64 cs = some y) : ∃ a : Nat, cs = [.int .u64 (a : Int)] ∧ a < 2 ^ 64 := by
  have hu : Try.prog.underlying y_uint64 = some (.int .u64) := by kernel_rfl
  obtain ⟨a, rfl, _, hw⟩ := DataW.trod_int hu h
  simp only [Lit.wf, Bool.and_eq_true, decide_eq_true_eq] at hw
  have h1 : IntKind.u64.min = 0 := rfl
  have h2 : IntKind.u64.max = 18446744073709551615 := rfl
  rw [h1, h2] at hw
  refine ⟨a.toNat, ?_, by omega⟩
  rw [Int.toNat_of_nonneg hw.1]
/-- A set, as the machine has it. -/
theorem set_cells {n : Nat} {cs : List Value} {y : DataW H × List MemPlace} (h : DataW.trod enc Try.prog W 0 (fun _ => true) true n y_api_Set cs = some y) : ∃ m, m < 2 ^ 256 ∧ cs = setL m := by
  have hu : Try.prog.underlying y_api_Set = some (.array 4 y_uint64) := by kernel_rfl
  have hc : Try.prog.cellsOf y_api_Set = 4 := by kernel_rfl
  have hc1 : Try.prog.cellsOf y_uint64 = 1 := by kernel_rfl
  obtain ⟨xs, m, _, _, hlen, hxs, hel⟩ := DataW.trod_array hu h
  rw [hc] at hlen
  have el : ∀ i, i < 4 → ∃ a : Nat, (cs.drop i).take 1 = [.int .u64 (a : Int)] ∧ a < 2 ^ 64 := by
    intro i hi
    have := hel i hi
    rw [hc1, Nat.mul_one] at this
    have hx : xs[i]? = some xs[i] := List.getElem?_eq_getElem (by omega)
    rw [hx] at this
    exact u64_cell this
  match cs, hlen with
  | [c0, c1, c2, c3], _ =>
    obtain ⟨a0, h0, g0⟩ := el 0 (by omega)
    obtain ⟨a1, h1, g1⟩ := el 1 (by omega)
    obtain ⟨a2, h2, g2⟩ := el 2 (by omega)
    obtain ⟨a3, h3, g3⟩ := el 3 (by omega)
    simp at h0 h1 h2 h3
    subst h0 h1 h2 h3
    obtain ⟨w0, w1, w2, w3⟩ := word_ofWords g0 g1 g2 g3
    exact ⟨ofWords a0 a1 a2 a3, ofWords_lt g0 g1 g2 g3, by simp [setL, w0, w1, w2, w3]⟩
theorem norm_setL (N m : Nat) : normL N (setL m) = some (setL m) := rfl
theorem open_sets {v : Value} {d : DataW H} {p : List MemPlace} (h : DataW.Trod enc Try.prog W 0 (fun _ => true) true y_s_api_Set v d p) {base : Nat} (hval : Value.okWide Try.prog W .any base y_s_api_Set v) : ∃ v' l, Arg W.heap.size v' v ∧ Sl (roOf W) .e v' 4 (setsC l) ∧ ∀ m ∈ l, m < 2 ^ 256 := by
  have hu : Try.prog.underlying y_s_api_Set = some (.slice y_api_Set) := by kernel_rfl
  have hc : Try.prog.cellsOf y_api_Set = 4 := by kernel_rfl
  obtain ⟨fuel, hf⟩ := h
  obtain ⟨v1, v', hv, hn, l, hl, hall⟩ := open_sl hu hc (by omega) hf (El := fun x => ∃ m, m < 2 ^ 256 ∧ x = setL m) (fun n cs' y hy => by
    obtain ⟨m, hm, rfl⟩ := set_cells hy
    exact ⟨setL m, norm_setL _ _, m, hm, rfl⟩)
  have e : ∃ ms : List Nat, l = setsC ms ∧ ∀ m ∈ ms, m < 2 ^ 256 := by
    clear hl
    induction l with
    | nil => exact ⟨[], rfl, by simp⟩
    | cons x l ih =>
      obtain ⟨ms, h1, h2⟩ := ih fun y hy => hall y (by simp [hy])
      obtain ⟨m, hm, rfl⟩ := hall x (by simp)
      exact ⟨m :: ms, by simp [setsC, h1], by simpa using ⟨hm, h2⟩⟩
  obtain ⟨ms, rfl, hms⟩ := e
  have hvv : v.cells.toList = [v1] := hv
  have hv1 : v = v1 := by
    obtain ⟨a, len, cap, rfl⟩ := okWide_slice hu hval
    simpa [Value.cells] using hvv
  subst hv1
  exact ⟨v', ms, .one hn, hl, hms⟩
theorem wf_u8 {n : Int} (h : (Lit.int .u8 n).wf = true) : 0 ≤ n ∧ n ≤ 255 := by
  simp only [Lit.wf, Bool.and_eq_true, decide_eq_true_eq] at h
  have h1 : IntKind.u8.min = 0 := rfl
  have h2 : IntKind.u8.max = 255 := rfl
  rw [h1, h2] at h; exact h
theorem wf_i64 {n : Int} (h : (Lit.int .i64 n).wf = true) : -9223372036854775808 ≤ n ∧ n ≤ 9223372036854775807 := by
  simp only [Lit.wf, Bool.and_eq_true, decide_eq_true_eq] at h
  have h1 : IntKind.i64.min = -9223372036854775808 := rfl
  have h2 : IntKind.i64.max = 9223372036854775807 := rfl
  rw [h1, h2] at h; exact h
theorem open_u8 {v : Value} {d : DataW H} {p : List MemPlace} (h : DataW.Trod enc Try.prog W 0 (fun _ => true) true y_uint8 v d p) {base : Nat} (hval : Value.okWide Try.prog W .any base y_uint8 v) : ∃ b : Nat, b < 256 ∧ Arg W.heap.size (.int .u8 (b : Int)) v := by
  have hu : Try.prog.underlying y_uint8 = some (.int .u8) := by kernel_rfl
  obtain ⟨x, rfl, _, _, hw⟩ := open_int hu hval h
  have := wf_u8 hw
  refine ⟨x.toNat, by omega, .one ?_⟩
  rw [Int.toNat_of_nonneg this.1]; rfl
theorem open_i64 {v : Value} {d : DataW H} {p : List MemPlace} (h : DataW.Trod enc Try.prog W 0 (fun _ => true) true y_int v d p) {base : Nat} (hval : Value.okWide Try.prog W .any base y_int v) : ∃ x : Int, (-9223372036854775808 ≤ x ∧ x ≤ 9223372036854775807) ∧ Arg W.heap.size (.int .i64 x) v := by
  have hu : Try.prog.underlying y_int = some (.int .i64) := by kernel_rfl
  obtain ⟨x, rfl, _, _, hw⟩ := open_int hu hval h
  exact ⟨x, wf_i64 hw, .one rfl⟩
theorem u8_cell {n : Nat} {cs : List Value} {y : DataW H × List MemPlace} (h : DataW.trod enc Try.prog W 0 (fun _ => true) true n y_uint8 cs = some y) : ∃ a : Nat, cs = [.int .u8 (a : Int)] ∧ a < 256 := by
  have hu : Try.prog.underlying y_uint8 = some (.int .u8) := by kernel_rfl
  obtain ⟨a, rfl, _, hw⟩ := DataW.trod_int hu h
  have := wf_u8 hw
  exact ⟨a.toNat, by rw [Int.toNat_of_nonneg this.1], by omega⟩
/-- A dealing, as the machine has it. -/
theorem open_split {v : Value} {d : DataW H} {p : List MemPlace} (h : DataW.Trod enc Try.prog W 0 (fun _ => true) true y_api_Split v d p) {base : Nat} (hval : Value.okWide Try.prog W .any base y_api_Split v) :
    ∃ (c : List Nat) (n : Int), c.length = 256 ∧ (∀ x ∈ c, x < 256) ∧ (-9223372036854775808 ≤ n ∧ n ≤ 9223372036854775807) ∧ Arg W.heap.size (splitI c n) v := by
  have hu : ∃ f0 f1, Try.prog.underlying y_api_Split = some (.struct #[f0, f1]) ∧ f0.offset = 0 ∧ f0.type = y_a256_uint8 ∧ f1.offset = 256 ∧ f1.type = y_int := by
    have h1 : ((und Try.prog y_api_Split).bind fun d => match d with
      | .struct fs => (fs[0]?).bind fun a => (fs[1]?).bind fun b => if fs.size = 2 ∧ a.offset = 0 ∧ a.type = y_a256_uint8 ∧ b.offset = 256 ∧ b.type = y_int then some true else none
      | _ => none) = some true := by kernel_rfl
    obtain ⟨d, h2, h3⟩ := bind_some' h1
    cases d <;> try (cases h3; done)
    rename_i fs
    obtain ⟨f0, h4, h3⟩ := bind_some' h3
    obtain ⟨f1, h5, h3⟩ := bind_some' h3
    split at h3
    · rename_i h6
      refine ⟨f0, f1, ?_, h6.2.1, h6.2.2.1, h6.2.2.2.1, h6.2.2.2.2⟩
      rw [und_under h2]
      congr 2
      apply Array.ext_getElem?
      intro i
      match i with
      | 0 => rw [h4]; rfl
      | 1 => rw [h5]; rfl
      | i + 2 => rw [Array.getElem?_eq_none (by rw [h6.1]; omega)]; simp
    · cases h3
  obtain ⟨f0, f1, hu, o0, t0, o1, t1⟩ := hu
  have hct : Try.prog.cellsOf y_api_Split = 257 := by kernel_rfl
  have hca : Try.prog.cellsOf y_a256_uint8 = 256 := by kernel_rfl
  have hci : Try.prog.cellsOf y_int = 1 := by kernel_rfl
  have hc8 : Try.prog.cellsOf y_uint8 = 1 := by kernel_rfl
  have hua : Try.prog.underlying y_a256_uint8 = some (.array 256 y_uint8) := by kernel_rfl
  have hui : Try.prog.underlying y_int = some (.int .i64) := by kernel_rfl
  obtain ⟨fuel, hf⟩ := h
  obtain ⟨y0, y1, n, _, hlen, hy0, hy1⟩ := trod_struct2 hu hf
  rw [o0, t0, hca] at hy0
  rw [o1, t1, hci] at hy1
  rw [hct] at hlen
  obtain ⟨xs, m, _, _, hl0, hxs, hel⟩ := DataW.trod_array hua hy0
  obtain ⟨k, hk, _, hw⟩ := DataW.trod_int hui hy1
  have hcs : ∃ cs, v = .agg cs := by
    unfold Value.okWide at hval
    rw [hu] at hval
    obtain ⟨cs, e, _⟩ := hval
    exact ⟨cs, e⟩
  obtain ⟨cs, rfl⟩ := hcs
  have ecs : (Value.agg cs).cells.toList = cs.toList := rfl
  rw [ecs] at hlen hk hel hl0
  have el : ∀ i, i < 256 → ∃ a : Nat, cs.toList[i]? = some (.int .u8 (a : Int)) ∧ a < 256 := by
    intro i hi
    have h1 := hel i hi
    rw [hc8, Nat.mul_one, List.drop_zero, List.drop_take, List.take_take] at h1
    have hx : xs[i]? = some xs[i] := List.getElem?_eq_getElem (by omega)
    rw [hx, show min 1 (256 - i) = 1 by omega] at h1
    obtain ⟨a, h2, h3⟩ := u8_cell h1
    refine ⟨a, ?_, h3⟩
    have h4 : ((cs.toList.drop i).take 1)[0]? = some (.int .u8 (a : Int)) := by rw [h2]; rfl
    rw [List.getElem?_take] at h4
    simpa using h4
  have key : ∀ i, i ≤ 256 → ∃ c : List Nat, c.length = i ∧ (∀ x ∈ c, x < 256) ∧ cs.toList.take i = u8s c := by
    intro i
    induction i with
    | zero => intro _; exact ⟨[], rfl, by simp, by simp [u8s]⟩
    | succ i ih =>
      intro hi
      obtain ⟨c, c1, c2, c3⟩ := ih (by omega)
      obtain ⟨a, h1, h2⟩ := el i (by omega)
      refine ⟨c ++ [a], by simp [c1], ?_, ?_⟩
      · intro x hx
        rcases List.mem_append.1 hx with h | h
        · exact c2 x h
        · simp at h; omega
      · have hil : i < cs.toList.length := by omega
        rw [List.getElem?_eq_getElem hil] at h1
        rw [List.take_succ_eq_append_getElem hil, Option.some.inj h1, c3]
        simp [u8s]
  obtain ⟨c, c1, c2, c3⟩ := key 256 (Nat.le_refl _)
  have hall : cs.toList = splitLI c k := by
    unfold splitLI
    rw [← List.take_append_drop 256 cs.toList, c3]
    congr 1
    rw [← hk, List.take_of_length_le (by rw [List.length_drop]; omega)]
  refine ⟨c, k, c1, c2, wf_i64 hw, ?_⟩
  have hn : normL W.heap.size cs.toList = some (splitLI c k) := by
    rw [hall]
    unfold splitLI
    clear hall c3 c1 el hk hel hl0 hlen hval ecs hf hy0 hy1 hu key
    induction c with
    | nil => rfl
    | cons a c ih =>
      have e : u8s (a :: c) ++ [Value.int .i64 k] = .int .u8 (a : Int) :: (u8s c ++ [.int .i64 k]) := rfl
      rw [e]
      have ih := ih fun x hx => c2 x (by simp [hx])
      simp only [normL, ih]; rfl
  exact .agg hn
end
end V
end Go.Proofs.Ytnjdhgbepoefiaa
