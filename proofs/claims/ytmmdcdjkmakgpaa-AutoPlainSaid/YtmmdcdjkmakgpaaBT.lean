/- What the laws' rows ask of the program; arguments opened (places).
   No condition. -/
import Derived.Test.YtmmdcdjkmakgpaaRows
import Derived.Test.YtmmdcdjkmakgpaaW1
import Derived.Test.YtmmdcdjkmakgpaaNB
import Derived.OpenShut
import Derived.ChangeMaps5
set_option linter.unusedVariables false
set_option linter.unusedSimpArgs false
set_option maxRecDepth 8000
namespace Go.Proofs.Ytmmdcdjkmakgpaa
namespace V
open PA Go.ChangeShapes Go.WideShapes Go.ChangeAt Go.RowKit
theorem okOwn : ownKnob Try.prog.godebug = none := by kernel_rfl
theorem okLaid : laidOutB Try.prog = true := by kernel_rfl
section
variable {H : Type} {enc : TypeId × Value → H} {W : World}
theorem u64_cell {n : Nat} {cs : List Value} {y : DataW H × List MemPlace} (h : DataW.trod enc Try.prog W 0 (fun _ => true) true n y_uint64 cs = some y) : ∃ a : Nat, cs = [.int .u64 (a : Int)] ∧ a < 2 ^ 64 := by
  have hu : Try.prog.underlying y_uint64 = some (.int .u64) := by kernel_rfl
  obtain ⟨a, rfl, _, hw⟩ := DataW.trod_int hu h
  simp only [Lit.wf, Bool.and_eq_true, decide_eq_true_eq] at hw
  have h1 : IntKind.u64.min = 0 := rfl
  have h2 : IntKind.u64.max = 18446744073709551615 := rfl
  rw [h1, h2] at hw
  refine ⟨a.toNat, ?_, by omega⟩
  rw [Int.toNat_of_nonneg hw.1]
/-- A set, as the machine has it. -/
theorem set_cells {n : Nat} {cs : List Value} {y : DataW H × List MemPlace} (h : DataW.trod enc Try.prog W 0 (fun _ => true) true n y_api_Set cs = some y) : ∃ m, m < 2 ^ 256 ∧ cs = setL m := by
  have hu : Try.prog.underlying y_api_Set = some (.array 4 y_uint64) := by kernel_rfl
  have hc : Try.prog.cellsOf y_api_Set = 4 := by kernel_rfl
  have hc1 : Try.prog.cellsOf y_uint64 = 1 := by kernel_rfl
  obtain ⟨xs, m, _, _, hlen, hxs, hel⟩ := DataW.trod_array hu h
  rw [hc] at hlen
  have el : ∀ i, i < 4 → ∃ a : Nat, (cs.drop i).take 1 = [.int .u64 (a : Int)] ∧ a < 2 ^ 64 := by
    intro i hi
    have := hel i hi
    rw [hc1, Nat.mul_one] at this
    have hx : xs[i]? = some xs[i] := List.getElem?_eq_getElem (by omega)
    rw [hx] at this
    exact u64_cell this
  match cs, hlen with
  | [c0, c1, c2, c3], _ =>
    obtain ⟨a0, h0, g0⟩ := el 0 (by omega)
    obtain ⟨a1, h1, g1⟩ := el 1 (by omega)
    obtain ⟨a2, h2, g2⟩ := el 2 (by omega)
    obtain ⟨a3, h3, g3⟩ := el 3 (by omega)
    simp at h0 h1 h2 h3
    subst h0 h1 h2 h3
    obtain ⟨w0, w1, w2, w3⟩ := word_ofWords g0 g1 g2 g3
    exact ⟨ofWords a0 a1 a2 a3, ofWords_lt g0 g1 g2 g3, by simp [setL, w0, w1, w2, w3]⟩
theorem wf_u8 {n : Int} (h : (Lit.int .u8 n).wf = true) : 0 ≤ n ∧ n ≤ 255 := by
  simp only [Lit.wf, Bool.and_eq_true, decide_eq_true_eq] at h
  have h1 : IntKind.u8.min = 0 := rfl
  have h2 : IntKind.u8.max = 255 := rfl
  rw [h1, h2] at h; exact h
theorem open_u8 {v : Value} {d : DataW H} {p : List MemPlace} (h : DataW.Trod enc Try.prog W 0 (fun _ => true) true y_uint8 v d p) {base : Nat} (hval : Value.okWide Try.prog W .any base y_uint8 v) : ∃ b : Nat, b < 256 ∧ Arg W.heap.size (.int .u8 (b : Int)) v := by
  have hu : Try.prog.underlying y_uint8 = some (.int .u8) := by kernel_rfl
  obtain ⟨x, rfl, _, _, hw⟩ := open_int hu hval h
  have := wf_u8 hw
  refine ⟨x.toNat, by omega, .one ?_⟩
  rw [Int.toNat_of_nonneg this.1]; rfl
theorem open_i64 {v : Value} {d : DataW H} {p : List MemPlace} (h : DataW.Trod enc Try.prog W 0 (fun _ => true) true y_int v d p) {base : Nat} (hval : Value.okWide Try.prog W .any base y_int v) : ∃ x : Int, Arg W.heap.size (.int .i64 x) v := by
  have hu : Try.prog.underlying y_int = some (.int .i64) := by kernel_rfl
  obtain ⟨x, rfl, _, _, hw⟩ := open_int hu hval h
  exact ⟨x, .one rfl⟩
theorem open_str {v : Value} {d : DataW H} {p : List MemPlace} (h : DataW.Trod enc Try.prog W 0 (fun _ => true) true y_string v d p) {base : Nat} (hval : Value.okWide Try.prog W .any base y_string v) : ∃ s : ByteArray, Arg W.heap.size (.string s) v := by
  have hu : Try.prog.underlying y_string = some .string := by kernel_rfl
  obtain ⟨s, rfl, _⟩ := Go.ChangeMaps.open_string hu hval h
  exact ⟨s, .one rfl⟩
/-! ### Structs -/
def fieldsOf (P : Program) (t : TypeId) : Option (List (Nat × TypeId)) := match und P t with
  | some (.struct fs) => some (fs.toList.map fun f => (f.offset, f.type))
  | _ => none
theorem trod_fields {t : TypeId} {L : List (Nat × TypeId)} (hL : fieldsOf Try.prog t = some L) {fuel : Nat} {cs : List Value} {x : DataW H × List MemPlace} (h : DataW.trod enc Try.prog W 0 (fun _ => true) true fuel t cs = some x) :
    cs.length = Try.prog.cellsOf t ∧ ∃ n, ∀ (i o : Nat) (ty : TypeId), L[i]? = some (o, ty) → ∃ y, DataW.trod enc Try.prog W 0 (fun _ => true) true n ty ((cs.drop o).take (Try.prog.cellsOf ty)) = some y := by
  unfold fieldsOf at hL
  split at hL
  · rename_i fs hu
    cases hL
    obtain ⟨xs, n, _, _, hlen, hxs, hf⟩ := DataW.trod_struct (und_under hu) h
    refine ⟨hlen, n, fun i o ty hi => ?_⟩
    rw [List.getElem?_map] at hi
    cases hq : fs.toList[i]? with
    | none => rw [hq] at hi; cases hi
    | some f =>
      rw [hq] at hi
      cases hi
      have hfs : fs[i]? = some f := by simpa using hq
      have hil := (List.getElem?_eq_some_iff.1 hq).1
      have hx : xs[i]? = some (xs[i]'(by rw [hxs]; simpa using hil)) := List.getElem?_eq_getElem _
      exact ⟨_, by rw [hf i f hfs, hx]⟩
  · cases hL
theorem okWide_agg {t : TypeId} {L : List (Nat × TypeId)} (hL : fieldsOf Try.prog t = some L) {v : Value} {base : Nat} (hval : Value.okWide Try.prog W .any base t v) : ∃ cs, v = .agg cs := by
  unfold fieldsOf at hL
  split at hL
  · rename_i fs hu
    unfold Value.okWide at hval
    rw [und_under hu] at hval
    obtain ⟨cs, e, _⟩ := hval
    exact ⟨cs, e⟩
  · cases hL
theorem int_cell {n : Nat} {cs : List Value} {y : DataW H × List MemPlace} (h : DataW.trod enc Try.prog W 0 (fun _ => true) true n y_int cs = some y) : ∃ a : Int, cs = [.int .i64 a] := by
  have hu : Try.prog.underlying y_int = some (.int .i64) := by kernel_rfl
  obtain ⟨a, rfl, _⟩ := DataW.trod_int hu h
  exact ⟨a, rfl⟩
theorem bool_cell {n : Nat} {cs : List Value} {y : DataW H × List MemPlace} (h : DataW.trod enc Try.prog W 0 (fun _ => true) true n y_bool cs = some y) : ∃ a : Bool, cs = [.bool a] := by
  have hu : Try.prog.underlying y_bool = some .bool := by kernel_rfl
  obtain ⟨a, rfl, _⟩ := DataW.trod_bool hu h
  exact ⟨a, rfl⟩
/-- A slice of ints, as the machine has it. -/
theorem ints_cell {n : Nat} {cs : List Value} {y : DataW H × List MemPlace} (h : DataW.trod enc Try.prog W 0 (fun _ => true) true n y_s_int cs = some y) : ∃ v v' l, cs = [v] ∧ norm W.heap.size v = some v' ∧ ZI (roOf W) .e v' l := by
  have hu : Try.prog.underlying y_s_int = some (.slice y_int) := by kernel_rfl
  have hc : Try.prog.cellsOf y_int = 1 := by kernel_rfl
  obtain ⟨v, v', hv, hn, l, hl, hall⟩ := open_sl hu hc (by omega) h (El := fun x => ∃ a : Int, x = [.int .i64 a]) fun n cs' y hy => by
    obtain ⟨a, rfl⟩ := int_cell hy
    exact ⟨_, rfl, a, rfl⟩
  have e : ∃ ms : List Int, l = intsZ ms := by
    clear hl
    induction l with
    | nil => exact ⟨[], rfl⟩
    | cons x l ih =>
      obtain ⟨ms, h1⟩ := ih fun y hy => hall y (by simp [hy])
      obtain ⟨m, rfl⟩ := hall x (by simp)
      exact ⟨m :: ms, by simp [intsZ, h1]⟩
  obtain ⟨ms, rfl⟩ := e
  exact ⟨v, v', ms, hv, hn, hl⟩
/-- A slice of elements that are read as data, as the machine has it. -/
theorem open_slR {D : Type} {t e : TypeId} {z : Nat} {R : List Value → D → Prop} (ht : Try.prog.underlying t = some (.slice e)) (hz : Try.prog.cellsOf e = z) (hz0 : 0 < z) {fuel : Nat} {cs : List Value} {x : DataW H × List MemPlace} (h : DataW.trod enc Try.prog W 0 (fun _ => true) true fuel t cs = some x)
    (hel : ∀ n cs' y, DataW.trod enc Try.prog W 0 (fun _ => true) true n e cs' = some y → ∃ cs'', normL W.heap.size cs' = some cs'' ∧ ∃ d, R cs'' d) : ∃ v v' l, cs = [v] ∧ norm W.heap.size v = some v' ∧ SlR (roOf W) .e v' z R l := by
  obtain ⟨v, v', hv, hn, l, hl, hall⟩ := open_sl ht hz hz0 h (El := fun x => ∃ d, R x d) hel
  refine ⟨v, v', ?_⟩
  have e : ∃ ds : List D, l.length = ds.length ∧ ∀ (i : Nat) x d, l[i]? = some x → ds[i]? = some d → R x d := by
    clear hl
    induction l with
    | nil => exact ⟨[], rfl, fun i x d hx => by simp at hx⟩
    | cons x l ih =>
      obtain ⟨ds, h1, h2⟩ := ih fun y hy => hall y (by simp [hy])
      obtain ⟨d, hd⟩ := hall x (by simp)
      refine ⟨d :: ds, by simp [h1], fun i x' d' hx hd' => ?_⟩
      cases i with
      | zero => simp at hx hd'; subst hx; subst hd'; exact hd
      | succ i => exact h2 i x' d' (by simpa using hx) (by simpa using hd')
  obtain ⟨ds, h1, h2⟩ := e
  exact ⟨ds, hv, hn, l, hl, h1, h2⟩
theorem pos_cells {n : Nat} {cs : List Value} {y : DataW H × List MemPlace} (h : DataW.trod enc Try.prog W 0 (fun _ => true) true n y_api_Pos cs = some y) : ∃ cs'', normL W.heap.size cs = some cs'' ∧ ∃ d, RPos (roOf W) .e cs'' d := by
  have hL : fieldsOf Try.prog y_api_Pos = some [(0, y_api_Set), (4, y_int), (5, y_int), (6, y_int), (7, y_bool), (8, y_s_int)] := by kernel_rfl
  have c0 : Try.prog.cellsOf y_api_Pos = 9 := by kernel_rfl
  have c1 : Try.prog.cellsOf y_api_Set = 4 := by kernel_rfl
  have c2 : Try.prog.cellsOf y_int = 1 := by kernel_rfl
  have c3 : Try.prog.cellsOf y_bool = 1 := by kernel_rfl
  have c4 : Try.prog.cellsOf y_s_int = 1 := by kernel_rfl
  obtain ⟨hlen, m, hf⟩ := trod_fields hL h
  obtain ⟨_, f0⟩ := hf 0 _ _ rfl
  obtain ⟨_, f1⟩ := hf 1 _ _ rfl
  obtain ⟨_, f2⟩ := hf 2 _ _ rfl
  obtain ⟨_, f3⟩ := hf 3 _ _ rfl
  obtain ⟨_, f4⟩ := hf 4 _ _ rfl
  obtain ⟨_, f5⟩ := hf 5 _ _ rfl
  rw [c0] at hlen
  rw [c1] at f0
  rw [c2] at f1 f2 f3
  rw [c3] at f4
  rw [c4] at f5
  obtain ⟨s, hs, g0⟩ := set_cells f0
  obtain ⟨lo, g1⟩ := int_cell f1
  obtain ⟨hi, g2⟩ := int_cell f2
  obtain ⟨ru, g3⟩ := int_cell f3
  obtain ⟨la, g4⟩ := bool_cell f4
  obtain ⟨v, v', l, g5, hn, hz⟩ := ints_cell f5
  match cs, hlen with
  | [a0, a1, a2, a3, a4, a5, a6, a7, a8], _ =>
    simp at g0 g1 g2 g3 g4 g5
    subst g1 g2 g3 g4 g5
    have e : [a0, a1, a2, a3] = setL s := g0
    refine ⟨posL ⟨s, lo, hi, ru, la, l⟩ v', ?_, _, v', rfl, hz, hs⟩
    have e2 : [a0, a1, a2, a3, Value.int .i64 lo, .int .i64 hi, .int .i64 ru, .bool la, a8] = setL s ++ [.int .i64 lo, .int .i64 hi, .int .i64 ru, .bool la, a8] := by rw [← e]; rfl
    rw [e2]
    unfold setL posL
    simp only [setL, List.cons_append, List.nil_append, normL, hn]
    rfl
/-- Places, as the machine has them. -/
theorem open_glush {v : Value} {d : DataW H} {p : List MemPlace} (h : DataW.Trod enc Try.prog W 0 (fun _ => true) true y_api_Glush v d p) {base : Nat} (hval : Value.okWide Try.prog W .any base y_api_Glush v) : ∃ v' g, Arg W.heap.size v' v ∧ RG (roOf W) .e v' g := by
  have hL : fieldsOf Try.prog y_api_Glush = some [(0, y_s_int), (1, y_s_api_Pos)] := by kernel_rfl
  have c0 : Try.prog.cellsOf y_api_Glush = 2 := by kernel_rfl
  have c2 : Try.prog.cellsOf y_s_int = 1 := by kernel_rfl
  have c4 : Try.prog.cellsOf y_s_api_Pos = 1 := by kernel_rfl
  obtain ⟨cs, rfl⟩ := okWide_agg hL hval
  obtain ⟨fuel, hf⟩ := h
  have ecs : (Value.agg cs).cells.toList = cs.toList := rfl
  rw [ecs] at hf
  obtain ⟨hlen, m, hf⟩ := trod_fields hL hf
  obtain ⟨_, f0⟩ := hf 0 _ _ rfl
  obtain ⟨_, f1⟩ := hf 1 _ _ rfl
  rw [c0] at hlen
  rw [c2] at f0
  rw [c4] at f1
  obtain ⟨v, v', l, g0, hn, hz⟩ := ints_cell f0
  have hu : Try.prog.underlying y_s_api_Pos = some (.slice y_api_Pos) := by kernel_rfl
  have hc : Try.prog.cellsOf y_api_Pos = 9 := by kernel_rfl
  obtain ⟨w, w', ps, g1, hn1, hz1⟩ := open_slR hu hc (by omega) f1 fun n cs' y hy => pos_cells hy
  have hcs : cs.toList = [v, w] := by
    generalize cs.toList = L at *
    match L, hlen with
    | [a0, a1], _ =>
      simp at g0 g1
      subst g0 g1; rfl
  refine ⟨.agg #[v', w'], ⟨l, ps⟩, .agg (l := [v', w']) ?_, v', w', rfl, hz, hz1⟩
  rw [hcs]
  simp only [normL, hn, hn1]; rfl
theorem wf_u16 {n : Int} (h : (Lit.int .u16 n).wf = true) : 0 ≤ n ∧ n ≤ 65535 := by
  simp only [Lit.wf, Bool.and_eq_true, decide_eq_true_eq] at h
  have h1 : IntKind.u16.min = 0 := rfl
  have h2 : IntKind.u16.max = 65535 := rfl
  rw [h1, h2] at h; exact h
theorem open_u16 {v : Value} {d : DataW H} {p : List MemPlace} (h : DataW.Trod enc Try.prog W 0 (fun _ => true) true y_uint16 v d p) {base : Nat} (hval : Value.okWide Try.prog W .any base y_uint16 v) : ∃ b : Nat, b < 65536 ∧ Arg W.heap.size (.int .u16 (b : Int)) v := by
  have hu : Try.prog.underlying y_uint16 = some (.int .u16) := by kernel_rfl
  obtain ⟨x, rfl, _, _, hw⟩ := open_int hu hval h
  have := wf_u16 hw
  refine ⟨x.toNat, by omega, .one ?_⟩
  rw [Int.toNat_of_nonneg this.1]; rfl
theorem u16_cell {n : Nat} {cs : List Value} {y : DataW H × List MemPlace} (h : DataW.trod enc Try.prog W 0 (fun _ => true) true n y_uint16 cs = some y) : ∃ a : Nat, cs = [.int .u16 (a : Int)] ∧ a < 65536 := by
  have hu : Try.prog.underlying y_uint16 = some (.int .u16) := by kernel_rfl
  obtain ⟨a, rfl, _, hw⟩ := DataW.trod_int hu h
  have := wf_u16 hw
  exact ⟨a.toNat, by rw [Int.toNat_of_nonneg this.1], by omega⟩
def RPair (x : List Value) (d : Nat × Nat) : Prop := x = [.int .u16 (d.1 : Int), .int .u16 (d.2 : Int)] ∧ d.1 < 65536 ∧ d.2 < 65536
theorem pair_cells {n : Nat} {cs : List Value} {y : DataW H × List MemPlace} (h : DataW.trod enc Try.prog W 0 (fun _ => true) true n y_a2_uint16 cs = some y) : ∃ cs'', normL W.heap.size cs = some cs'' ∧ ∃ d, RPair cs'' d := by
  have hu : Try.prog.underlying y_a2_uint16 = some (.array 2 y_uint16) := by kernel_rfl
  have hc : Try.prog.cellsOf y_a2_uint16 = 2 := by kernel_rfl
  have hc1 : Try.prog.cellsOf y_uint16 = 1 := by kernel_rfl
  obtain ⟨xs, m, _, _, hlen, hxs, hel⟩ := DataW.trod_array hu h
  rw [hc] at hlen
  have el : ∀ i, i < 2 → ∃ a : Nat, (cs.drop i).take 1 = [.int .u16 (a : Int)] ∧ a < 65536 := by
    intro i hi
    have := hel i hi
    rw [hc1, Nat.mul_one] at this
    have hx : xs[i]? = some xs[i] := List.getElem?_eq_getElem (by omega)
    rw [hx] at this
    exact u16_cell this
  match cs, hlen with
  | [a0, a1], _ =>
    obtain ⟨x0, g0, l0⟩ := el 0 (by omega)
    obtain ⟨x1, g1, l1⟩ := el 1 (by omega)
    simp at g0 g1
    subst g0 g1
    exact ⟨_, rfl, (x0, x1), rfl, l0, l1⟩
/-- Pairs of numbers, as the machine has them. -/
theorem open_pairs {v : Value} {d : DataW H} {p : List MemPlace} (h : DataW.Trod enc Try.prog W 0 (fun _ => true) true y_s_a2_uint16 v d p) {base : Nat} (hval : Value.okWide Try.prog W .any base y_s_a2_uint16 v) : ∃ v' l, Arg W.heap.size v' v ∧ SlR (roOf W) .e v' 2 RPair l := by
  have hu : Try.prog.underlying y_s_a2_uint16 = some (.slice y_a2_uint16) := by kernel_rfl
  have hc : Try.prog.cellsOf y_a2_uint16 = 2 := by kernel_rfl
  obtain ⟨fuel, hf⟩ := h
  obtain ⟨v1, v', l, g0, hn, hz⟩ := open_slR hu hc (by omega) hf fun n cs' y hy => pair_cells hy
  obtain ⟨o, n, c, rfl⟩ := okWide_slice hu hval
  have : v1 = .slice o n c := by
    have e : (Value.slice o n c).cells.toList = [.slice o n c] := rfl
    rw [e] at g0
    simpa using g0.symm
  subst this
  exact ⟨v', l, .one hn, hz⟩
/-- A set, as an argument. -/
theorem open_setA {v : Value} {d : DataW H} {p : List MemPlace} (h : DataW.Trod enc Try.prog W 0 (fun _ => true) true y_api_Set v d p) {base : Nat} (hval : Value.okWide Try.prog W .any base y_api_Set v) : ∃ m : Nat, m < 2 ^ 256 ∧ Arg W.heap.size (setV m) v := by
  have hu : Try.prog.underlying y_api_Set = some (.array 4 y_uint64) := by kernel_rfl
  obtain ⟨fuel, hf⟩ := h
  obtain ⟨m, hm, hc⟩ := set_cells hf
  have hs : ∃ cs, v = .agg cs := by
    unfold Value.okWide at hval
    rw [hu] at hval
    obtain ⟨cs, e, _⟩ := hval
    exact ⟨cs, e⟩
  obtain ⟨cs, rfl⟩ := hs
  have e : (Value.agg cs).cells.toList = cs.toList := rfl
  rw [e] at hc
  exact ⟨m, hm, .agg (l := setL m) (by rw [hc]; rfl)⟩
end
end V
end Go.Proofs.Ytmmdcdjkmakgpaa
