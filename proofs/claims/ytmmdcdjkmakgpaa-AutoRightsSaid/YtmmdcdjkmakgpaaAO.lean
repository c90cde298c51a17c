/- What the laws' rows ask of the program; automata opened.
   No condition. -/
import Derived.Test.YtmmdcdjkmakgpaaRows
import Derived.Test.YtmmdcdjkmakgpaaW1
import Derived.Test.YtmmdcdjkmakgpaaAH
import Derived.OpenShut
import Derived.ChangeMaps5
set_option linter.unusedVariables false
set_option linter.unusedSimpArgs false
set_option maxRecDepth 8000
namespace Go.Proofs.Ytmmdcdjkmakgpaa
namespace V
open PA Go.ChangeShapes Go.WideShapes Go.ChangeAt Go.RowKit Go.Deep
theorem okOwn : ownKnob Try.prog.godebug = none := by kernel_rfl
theorem okLaid : laidOutB Try.prog = true := by kernel_rfl
section
variable {H : Type} {enc : TypeId × Value → H} {W : World}
theorem wf_u8 {n : Int} (h : (Lit.int .u8 n).wf = true) : 0 ≤ n ∧ n ≤ 255 := by
  simp only [Lit.wf, Bool.and_eq_true, decide_eq_true_eq] at h
  have h1 : IntKind.u8.min = 0 := rfl
  have h2 : IntKind.u8.max = 255 := rfl
  rw [h1, h2] at h; exact h
def fieldsOf (P : Program) (t : TypeId) : Option (List (Nat × TypeId)) := match und P t with
  | some (.struct fs) => some (fs.toList.map fun f => (f.offset, f.type))
  | _ => none
theorem trod_fields {t : TypeId} {L : List (Nat × TypeId)} (hL : fieldsOf Try.prog t = some L) {fuel : Nat} {cs : List Value} {x : DataW H × List MemPlace} (h : DataW.trod enc Try.prog W 0 (fun _ => true) true fuel t cs = some x) :
    cs.length = Try.prog.cellsOf t ∧ ∃ n, ∀ (i o : Nat) (ty : TypeId), L[i]? = some (o, ty) → ∃ y, DataW.trod enc Try.prog W 0 (fun _ => true) true n ty ((cs.drop o).take (Try.prog.cellsOf ty)) = some y := by
  unfold fieldsOf at hL
  split at hL
  · rename_i fs hu
    cases hL
    obtain ⟨xs, n, _, _, hlen, hxs, hf⟩ := DataW.trod_struct (und_under hu) h
    refine ⟨hlen, n, fun i o ty hi => ?_⟩
    rw [List.getElem?_map] at hi
    cases hq : fs.toList[i]? with
    | none => rw [hq] at hi; cases hi
    | some f =>
      rw [hq] at hi
      cases hi
      have hfs : fs[i]? = some f := by simpa using hq
      have hil := (List.getElem?_eq_some_iff.1 hq).1
      have hx : xs[i]? = some (xs[i]'(by rw [hxs]; simpa using hil)) := List.getElem?_eq_getElem _
      exact ⟨_, by rw [hf i f hfs, hx]⟩
  · cases hL
theorem okWide_agg {t : TypeId} {L : List (Nat × TypeId)} (hL : fieldsOf Try.prog t = some L) {v : Value} {base : Nat} (hval : Value.okWide Try.prog W .any base t v) : ∃ cs, v = .agg cs := by
  unfold fieldsOf at hL
  split at hL
  · rename_i fs hu
    unfold Value.okWide at hval
    rw [und_under hu] at hval
    obtain ⟨cs, e, _⟩ := hval
    exact ⟨cs, e⟩
  · cases hL
theorem int_cell {n : Nat} {cs : List Value} {y : DataW H × List MemPlace} (h : DataW.trod enc Try.prog W 0 (fun _ => true) true n y_int cs = some y) : ∃ a : Int, cs = [.int .i64 a] := by
  have hu : Try.prog.underlying y_int = some (.int .i64) := by kernel_rfl
  obtain ⟨a, rfl, _⟩ := DataW.trod_int hu h
  exact ⟨a, rfl⟩
theorem bool_cell {n : Nat} {cs : List Value} {y : DataW H × List MemPlace} (h : DataW.trod enc Try.prog W 0 (fun _ => true) true n y_bool cs = some y) : ∃ a : Bool, cs = [.bool a] := by
  have hu : Try.prog.underlying y_bool = some .bool := by kernel_rfl
  obtain ⟨a, rfl, _⟩ := DataW.trod_bool hu h
  exact ⟨a, rfl⟩
theorem u8_cell {n : Nat} {cs : List Value} {y : DataW H × List MemPlace} (h : DataW.trod enc Try.prog W 0 (fun _ => true) true n y_uint8 cs = some y) : ∃ a : Nat, cs = [.int .u8 (a : Int)] ∧ a < 256 := by
  have hu : Try.prog.underlying y_uint8 = some (.int .u8) := by kernel_rfl
  obtain ⟨a, rfl, _, hw⟩ := DataW.trod_int hu h
  have := wf_u8 hw
  exact ⟨a.toNat, by rw [Int.toNat_of_nonneg this.1], by omega⟩
theorem norm_len {N : Nat} {v v' : Value} {o : Option Addr} {l c : Nat} (hv : v = .slice o l c) (h : norm N v = some v') : lenSl v' = some (.int .i64 l) := by
  subst hv
  unfold norm at h
  split at h
  · rename_i h1
    cases h
    cases h1
    rfl
  · rename_i h1
    cases h1
    split at h
    · cases h; rfl
    · cases h
  · rename_i h1; cases h1
  · split at h
    · cases h; rfl
    · cases h
/-- A slice of elements that are read as data, as the machine has it. -/
theorem open_slB {D : Type} {t e : TypeId} {z : Nat} {R : List Value → D → Prop} (ht : Try.prog.underlying t = some (.slice e)) (hz : Try.prog.cellsOf e = z) (hz0 : 0 < z) {fuel : Nat} {cs : List Value} {x : DataW H × List MemPlace} (h : DataW.trod enc Try.prog W 0 (fun _ => true) true fuel t cs = some x)
    (hel : ∀ n cs' y, DataW.trod enc Try.prog W 0 (fun _ => true) true n e cs' = some y → ∃ cs'', normL W.heap.size cs' = some cs'' ∧ ∃ d, R cs'' d) : ∃ v v' l, cs = [v] ∧ norm W.heap.size v = some v' ∧ SlR (roOf W) .e v' z R l ∧ l.length ≤ maxB := by
  obtain ⟨v, v', hv, hn, l, hl, hall⟩ := open_sl ht hz hz0 h (El := fun x => ∃ d, R x d) hel
  have hbound : l.length ≤ maxB := by
    have hlen := hl.len
    rcases open_slice ht h with ⟨h1, _⟩ | ⟨a, len, cap, m, n, D, Pl, h1, _, hle, hm, _⟩
    · rw [hv] at h1
      have h2 := norm_len (List.cons.inj h1).1 hn
      rw [hlen] at h2
      simp only [Option.some.injEq, Value.int.injEq, true_and] at h2
      have : l.length = 0 := by omega
      rw [this]; unfold maxB; omega
    · rw [hv] at h1
      have h2 := norm_len (List.cons.inj h1).1 hn
      rw [hlen] at h2
      simp only [Option.some.injEq, Value.int.injEq, true_and] at h2
      unfold maxLen at hm
      unfold maxB
      omega
  refine ⟨v, v', ?_⟩
  have e : ∃ ds : List D, l.length = ds.length ∧ ∀ (i : Nat) x d, l[i]? = some x → ds[i]? = some d → R x d := by
    clear hl hbound
    induction l with
    | nil => exact ⟨[], rfl, fun i x d hx => by simp at hx⟩
    | cons x l ih =>
      obtain ⟨ds, h1, h2⟩ := ih fun y hy => hall y (by simp [hy])
      obtain ⟨d, hd⟩ := hall x (by simp)
      refine ⟨d :: ds, by simp [h1], fun i x' d' hx hd' => ?_⟩
      cases i with
      | zero => simp at hx hd'; subst hx; subst hd'; exact hd
      | succ i => exact h2 i x' d' (by simpa using hx) (by simpa using hd')
  obtain ⟨ds, h1, h2⟩ := e
  exact ⟨ds, hv, hn, ⟨l, hl, h1, h2⟩, by rw [← h1]; exact hbound⟩
theorem ints_cellB {n : Nat} {cs : List Value} {y : DataW H × List MemPlace} (h : DataW.trod enc Try.prog W 0 (fun _ => true) true n y_s_int cs = some y) : ∃ v v' l, cs = [v] ∧ norm W.heap.size v = some v' ∧ ZI (roOf W) .e v' l ∧ l.length ≤ maxB := by
  have hu : Try.prog.underlying y_s_int = some (.slice y_int) := by kernel_rfl
  have hc : Try.prog.cellsOf y_int = 1 := by kernel_rfl
  obtain ⟨v, v', l, hv, hn, ⟨cs, h1, h2, h3⟩, hb⟩ := open_slB (R := fun x (a : Int) => x = [Value.int .i64 a]) hu hc (by omega) h fun n cs' y hy => by
    obtain ⟨a, rfl⟩ := int_cell hy
    exact ⟨_, rfl, a, rfl⟩
  refine ⟨v, v', l, hv, hn, ?_, hb⟩
  have e : cs = intsZ l := by
    refine List.ext_getElem? fun i => ?_
    unfold intsZ
    rw [List.getElem?_map]
    cases hi : l[i]? with
    | none =>
      have := List.getElem?_eq_none_iff.1 hi
      rw [List.getElem?_eq_none (by omega)]; rfl
    | some a =>
      have hil := (List.getElem?_eq_some_iff.1 hi).1
      have hx : cs[i]? = some (cs[i]'(by omega)) := List.getElem?_eq_getElem (by omega)
      rw [hx, h3 i _ a hx hi]; rfl
  unfold ZI
  rw [← e]; exact h1
theorem one_norm {W : World} {v v' : Value} (hn : norm W.heap.size v = some v') : normL W.heap.size [v] = some [v'] := by
  simp only [normL, hn]; rfl
theorem ops_cells {n : Nat} {cs : List Value} {y : DataW H × List MemPlace} (h : DataW.trod enc Try.prog W 0 (fun _ => true) true n y_s_uint8 cs = some y) : ∃ v v' l, cs = [v] ∧ norm W.heap.size v = some v' ∧ SlR (roOf W) .e v' 1 RU8 l ∧ l.length ≤ maxB := by
  have hu : Try.prog.underlying y_s_uint8 = some (.slice y_uint8) := by kernel_rfl
  have hc : Try.prog.cellsOf y_uint8 = 1 := by kernel_rfl
  exact open_slB hu hc (by omega) h fun n cs' y hy => by
    obtain ⟨a, rfl, ha⟩ := u8_cell hy
    exact ⟨_, rfl, a, rfl, ha⟩
theorem move_cells {n : Nat} {cs : List Value} {y : DataW H × List MemPlace} (h : DataW.trod enc Try.prog W 0 (fun _ => true) true n y_api_Move cs = some y) : ∃ cs'', normL W.heap.size cs = some cs'' ∧ ∃ d, RMove (roOf W) .e cs'' d := by
  have hL : fieldsOf Try.prog y_api_Move = some [(0, y_int), (1, y_s_uint8)] := by kernel_rfl
  have c0 : Try.prog.cellsOf y_api_Move = 2 := by kernel_rfl
  have c2 : Try.prog.cellsOf y_int = 1 := by kernel_rfl
  have c4 : Try.prog.cellsOf y_s_uint8 = 1 := by kernel_rfl
  obtain ⟨hlen, m, hf⟩ := trod_fields hL h
  obtain ⟨_, f0⟩ := hf 0 _ _ rfl
  obtain ⟨_, f1⟩ := hf 1 _ _ rfl
  rw [c0] at hlen
  rw [c2] at f0
  rw [c4] at f1
  obtain ⟨p, g0⟩ := int_cell f0
  obtain ⟨v, v', l, g1, hn, hz, hb⟩ := ops_cells f1
  match cs, hlen with
  | [a0, a1], _ =>
    simp at g0 g1
    subst g0 g1
    refine ⟨[.int .i64 p, v'], ?_, ⟨p, l⟩, v', rfl, hz, hb⟩
    simp only [normL, hn]; rfl
theorem row_cells {n : Nat} {cs : List Value} {y : DataW H × List MemPlace} (h : DataW.trod enc Try.prog W 0 (fun _ => true) true n y_s_api_Move cs = some y) : ∃ cs'', normL W.heap.size cs = some cs'' ∧ ∃ d, RRow (roOf W) .e cs'' d := by
  have hu : Try.prog.underlying y_s_api_Move = some (.slice y_api_Move) := by kernel_rfl
  have hc : Try.prog.cellsOf y_api_Move = 2 := by kernel_rfl
  obtain ⟨v, v', l, rfl, hn, hl, hb⟩ := open_slB hu hc (by omega) h fun n cs' y hy => move_cells hy
  exact ⟨[v'], one_norm hn, l, v', rfl, hl, hb⟩
theorem rows_cells {n : Nat} {cs : List Value} {y : DataW H × List MemPlace} (h : DataW.trod enc Try.prog W 0 (fun _ => true) true n y_s_s_api_Move cs = some y) : ∃ v v' l, cs = [v] ∧ norm W.heap.size v = some v' ∧ SlR (roOf W) .e v' 1 (RRow (roOf W) .e) l ∧ l.length ≤ maxB := by
  have hu : Try.prog.underlying y_s_s_api_Move = some (.slice y_s_api_Move) := by kernel_rfl
  have hc : Try.prog.cellsOf y_s_api_Move = 1 := by kernel_rfl
  exact open_slB hu hc (by omega) h fun n cs' y hy => row_cells hy
theorem state_cells {n : Nat} {cs : List Value} {y : DataW H × List MemPlace} (h : DataW.trod enc Try.prog W 0 (fun _ => true) true n y_api_State cs = some y) : ∃ cs'', normL W.heap.size cs = some cs'' ∧ ∃ d, RState (roOf W) .e cs'' d := by
  have hL : fieldsOf Try.prog y_api_State = some [(0, y_s_int), (1, y_s_int), (2, y_s_int), (3, y_s_s_api_Move)] := by kernel_rfl
  have c0 : Try.prog.cellsOf y_api_State = 4 := by kernel_rfl
  have c2 : Try.prog.cellsOf y_s_int = 1 := by kernel_rfl
  have c4 : Try.prog.cellsOf y_s_s_api_Move = 1 := by kernel_rfl
  obtain ⟨hlen, m, hf⟩ := trod_fields hL h
  obtain ⟨_, f0⟩ := hf 0 _ _ rfl
  obtain ⟨_, f1⟩ := hf 1 _ _ rfl
  obtain ⟨_, f2⟩ := hf 2 _ _ rfl
  obtain ⟨_, f3⟩ := hf 3 _ _ rfl
  rw [c0] at hlen
  rw [c2] at f0 f1 f2
  rw [c4] at f3
  obtain ⟨v0, w0, l0, g0, n0, z0, b0⟩ := ints_cellB f0
  obtain ⟨v1, w1, l1, g1, n1, z1, b1⟩ := ints_cellB f1
  obtain ⟨v2, w2, l2, g2, n2, z2, b2⟩ := ints_cellB f2
  obtain ⟨v3, w3, l3, g3, n3, z3, b3⟩ := rows_cells f3
  match cs, hlen with
  | [a0, a1, a2, a3], _ =>
    simp at g0 g1 g2 g3
    subst g0 g1 g2 g3
    refine ⟨[w0, w1, w2, w3], ?_, ⟨l0, l1, l2, l3⟩, w0, w1, w2, w3, rfl, z0, z1, z2, z3, b1⟩
    simp only [normL, n0, n1, n2, n3]; rfl
theorem count_cells {n : Nat} {cs : List Value} {y : DataW H × List MemPlace} (h : DataW.trod enc Try.prog W 0 (fun _ => true) true n y_a2_int cs = some y) : ∃ cs'', normL W.heap.size cs = some cs'' ∧ ∃ d, RCount cs'' d := by
  have hu : Try.prog.underlying y_a2_int = some (.array 2 y_int) := by kernel_rfl
  have hc : Try.prog.cellsOf y_a2_int = 2 := by kernel_rfl
  have hc1 : Try.prog.cellsOf y_int = 1 := by kernel_rfl
  obtain ⟨xs, m, _, _, hlen, hxs, hel⟩ := DataW.trod_array hu h
  rw [hc] at hlen
  have el : ∀ i, i < 2 → ∃ a : Int, (cs.drop i).take 1 = [.int .i64 a] := by
    intro i hi
    have := hel i hi
    rw [hc1, Nat.mul_one] at this
    have hx : xs[i]? = some xs[i] := List.getElem?_eq_getElem (by omega)
    rw [hx] at this
    exact int_cell this
  match cs, hlen with
  | [a0, a1], _ =>
    obtain ⟨x0, g0⟩ := el 0 (by omega)
    obtain ⟨x1, g1⟩ := el 1 (by omega)
    simp at g0 g1
    subst g0 g1
    exact ⟨_, rfl, (x0, x1), rfl⟩
theorem split_cells {n : Nat} {cs : List Value} {y : DataW H × List MemPlace} (h : DataW.trod enc Try.prog W 0 (fun _ => true) true n y_api_Split cs = some y) : ∃ (c : List Nat) (k : Int), c.length = 256 ∧ (∀ x ∈ c, x < 256) ∧ cs = splitLI c k := by
  have hL : fieldsOf Try.prog y_api_Split = some [(0, y_a256_uint8), (256, y_int)] := by kernel_rfl
  have c0 : Try.prog.cellsOf y_api_Split = 257 := by kernel_rfl
  have c2 : Try.prog.cellsOf y_a256_uint8 = 256 := by kernel_rfl
  have c4 : Try.prog.cellsOf y_int = 1 := by kernel_rfl
  have hc8 : Try.prog.cellsOf y_uint8 = 1 := by kernel_rfl
  have hua : Try.prog.underlying y_a256_uint8 = some (.array 256 y_uint8) := by kernel_rfl
  obtain ⟨hlen, m, hf⟩ := trod_fields hL h
  obtain ⟨_, f0⟩ := hf 0 _ _ rfl
  obtain ⟨_, f1⟩ := hf 1 _ _ rfl
  rw [c0] at hlen
  rw [c2, List.drop_zero] at f0
  rw [c4] at f1
  obtain ⟨k, hk⟩ := int_cell f1
  obtain ⟨xs, m, _, _, hl0, hxs, hel⟩ := DataW.trod_array hua f0
  have el : ∀ i, i < 256 → ∃ a : Nat, cs[i]? = some (.int .u8 (a : Int)) ∧ a < 256 := by
    intro i hi
    have h1 := hel i hi
    rw [hc8, Nat.mul_one, List.drop_take, List.take_take] at h1
    have hx : xs[i]? = some xs[i] := List.getElem?_eq_getElem (by omega)
    rw [hx, show min 1 (256 - i) = 1 by omega] at h1
    obtain ⟨a, h2, h3⟩ := u8_cell h1
    refine ⟨a, ?_, h3⟩
    have h4 : ((cs.drop i).take 1)[0]? = some (.int .u8 (a : Int)) := by rw [h2]; rfl
    rw [List.getElem?_take] at h4
    simpa using h4
  have key : ∀ i, i ≤ 256 → ∃ c : List Nat, c.length = i ∧ (∀ x ∈ c, x < 256) ∧ cs.take i = u8s c := by
    intro i
    induction i with
    | zero => intro _; exact ⟨[], rfl, by simp, by simp [u8s]⟩
    | succ i ih =>
      intro hi
      obtain ⟨c, c1, c2, c3⟩ := ih (by omega)
      obtain ⟨a, h1, h2⟩ := el i (by omega)
      refine ⟨c ++ [a], by simp [c1], ?_, ?_⟩
      · intro x hx
        rcases List.mem_append.1 hx with h | h
        · exact c2 x h
        · simp at h; omega
      · have hil : i < cs.length := by omega
        rw [List.getElem?_eq_getElem hil] at h1
        rw [List.take_succ_eq_append_getElem hil, Option.some.inj h1, c3]
        simp [u8s]
  obtain ⟨c, c1, c2, c3⟩ := key 256 (Nat.le_refl _)
  refine ⟨c, k, c1, c2, ?_⟩
  unfold splitLI
  rw [← List.take_append_drop 256 cs, c3]
  congr 1
  rw [← hk, List.take_of_length_le (by rw [List.length_drop]; omega)]
theorem normL_split {N : Nat} (k : Int) {v w v' w' : Value} (h1 : norm N v = some v') (h2 : norm N w = some w') : ∀ c : List Nat, normL N (autL c k v w) = some (autL c k v' w')
  | [] => by
    show normL N [.int .i64 k, v, w] = some [.int .i64 k, v', w']
    simp only [normL, h1, h2]; rfl
  | a :: c => by
    have e : ∀ x y, autL (a :: c) k x y = .int .u8 (a : Int) :: autL c k x y := fun _ _ => rfl
    rw [e, e]
    simp only [normL, normL_split k h1 h2 c]; rfl
/-- An automaton, as the machine has it. -/
theorem open_auto {v : Value} {d : DataW H} {p : List MemPlace} (h : DataW.Trod enc Try.prog W 0 (fun _ => true) true y_api_Auto v d p) {base : Nat} (hval : Value.okWide Try.prog W .any base y_api_Auto v) : ∃ x a, Arg W.heap.size (.agg x.toArray) v ∧ RAuto (roOf W) .e x a := by
  have hL : fieldsOf Try.prog y_api_Auto = some [(0, y_api_Split), (257, y_s_a2_int), (258, y_s_api_State)] := by kernel_rfl
  have c0 : Try.prog.cellsOf y_api_Auto = 259 := by kernel_rfl
  have c2 : Try.prog.cellsOf y_api_Split = 257 := by kernel_rfl
  have c4 : Try.prog.cellsOf y_s_a2_int = 1 := by kernel_rfl
  have c5 : Try.prog.cellsOf y_s_api_State = 1 := by kernel_rfl
  have hu1 : Try.prog.underlying y_s_a2_int = some (.slice y_a2_int) := by kernel_rfl
  have hu2 : Try.prog.underlying y_s_api_State = some (.slice y_api_State) := by kernel_rfl
  have hc1 : Try.prog.cellsOf y_a2_int = 2 := by kernel_rfl
  have hc2 : Try.prog.cellsOf y_api_State = 4 := by kernel_rfl
  obtain ⟨cs, rfl⟩ := okWide_agg hL hval
  obtain ⟨fuel, hf⟩ := h
  have ecs : (Value.agg cs).cells.toList = cs.toList := rfl
  rw [ecs] at hf
  obtain ⟨hlen, m, hf⟩ := trod_fields hL hf
  obtain ⟨_, f0⟩ := hf 0 _ _ rfl
  obtain ⟨_, f1⟩ := hf 1 _ _ rfl
  obtain ⟨_, f2⟩ := hf 2 _ _ rfl
  rw [c0] at hlen
  rw [c2, List.drop_zero] at f0
  rw [c4] at f1
  rw [c5] at f2
  obtain ⟨c, k, hc, hcl, g0⟩ := split_cells f0
  obtain ⟨v, v', C, g1, n1, z1, b1⟩ := open_slB hu1 hc1 (by omega) f1 fun n cs' y hy => count_cells hy
  obtain ⟨w, w', S, g2, n2, z2, b2⟩ := open_slB hu2 hc2 (by omega) f2 fun n cs' y hy => state_cells hy
  have hcs : cs.toList = autL c k v w := by
    unfold autL
    rw [← List.take_append_drop 257 cs.toList, g0]
    congr 1
    have h1 : cs.toList.drop 257 = (cs.toList.drop 257).take 1 ++ (cs.toList.drop 257).drop 1 := (List.take_append_drop 1 _).symm
    rw [h1, g1, List.drop_drop, ← List.take_of_length_le (i := 1) (l := cs.toList.drop (257 + 1)) (by rw [List.length_drop]; omega)]
    show [v] ++ (cs.toList.drop 258).take 1 = _
    rw [g2]; rfl
  refine ⟨autL c k v' w', ⟨c, k, C, S⟩, .agg ?_, v', w', rfl, hc, hcl, z1, z2, b1, b2⟩
  rw [hcs]
  exact normL_split k n1 n2 c
end
end V
end Go.Proofs.Ytmmdcdjkmakgpaa
