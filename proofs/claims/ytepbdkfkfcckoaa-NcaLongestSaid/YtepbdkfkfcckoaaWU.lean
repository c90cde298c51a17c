/- More steps: branches, slices of elements that are read as data, numbers.
   No condition. -/
import Derived.Test.YtepbdkfkfcckoaaWT
set_option linter.unusedVariables false
set_option linter.unusedSimpArgs false
namespace Go.Proofs.Ytepbdkfkfcckoaa
namespace V
theorem condP_d {p : Prop} {dp : Decidable p} {A B : Prop} (h1 : p → A) (h2 : ¬ p → B) : condP (.bool (@decide p dp)) A B := by
  by_cases hp : p
  · rw [decide_eq_true hp]; exact h1 hp
  · rw [decide_eq_false hp]; exact h2 hp
theorem condP_nd {p : Prop} {dp : Decidable p} {A B : Prop} (h1 : ¬ p → A) (h2 : p → B) : condP (.bool (!(@decide p dp))) A B := by
  by_cases hp : p
  · rw [decide_eq_true hp]; exact h2 hp
  · rw [decide_eq_false hp]; exact h1 hp
/-- A result that is a bool. -/
theorem kb {K : KV} {h : T Obj} {nx n : Nat} {b c : Bool} (hK : ∀ n, nx ≤ n → K (.bool b) h n) (e : b = c) (hn : nx ≤ n) : K (.bool c) h n := by subst e; exact hK n hn
theorem ki {K : KV} {h : T Obj} {nx n : Nat} {k : IntKind} {b c : Int} (hK : ∀ n, nx ≤ n → K (.int k b) h n) (e : b = c) (hn : nx ≤ n) : K (.int k c) h n := by subst e; exact hK n hn
theorem at_put_ne (e : Env) {d i : Nat} (v : Value) (h : Nat.beq i d = false) : e.put d v i = e i := by unfold Env.put; rw [h]
/-! ### Comparisons, by what they come to -/
section
variable {k : IntKind} {a b : Int} {K : Value → Prop}
theorem lss_t (h : a < b) (hk : K (.bool true)) : bindP (intB .lss (.int k a) (.int k b)) K := by rw [intB_lss, decide_eq_true h]; exact hk
theorem lss_f (h : b ≤ a) (hk : K (.bool false)) : bindP (intB .lss (.int k a) (.int k b)) K := by rw [intB_lss, decide_eq_false (by omega)]; exact hk
theorem lss_s (h1 : a < b → K (.bool true)) (h2 : b ≤ a → K (.bool false)) : bindP (intB .lss (.int k a) (.int k b)) K := by
  by_cases h : a < b
  · exact lss_t h (h1 h)
  · exact lss_f (by omega) (h2 (by omega))
theorem leq_t (h : a ≤ b) (hk : K (.bool true)) : bindP (intB .leq (.int k a) (.int k b)) K := by rw [intB_leq, decide_eq_true h]; exact hk
theorem leq_f (h : b < a) (hk : K (.bool false)) : bindP (intB .leq (.int k a) (.int k b)) K := by rw [intB_leq, decide_eq_false (by omega)]; exact hk
theorem leq_s (h1 : a ≤ b → K (.bool true)) (h2 : b < a → K (.bool false)) : bindP (intB .leq (.int k a) (.int k b)) K := by
  by_cases h : a ≤ b
  · exact leq_t h (h1 h)
  · exact leq_f (by omega) (h2 (by omega))
theorem gtr_t (h : b < a) (hk : K (.bool true)) : bindP (intB .gtr (.int k a) (.int k b)) K := by rw [intB_gtr, decide_eq_true h]; exact hk
theorem gtr_f (h : a ≤ b) (hk : K (.bool false)) : bindP (intB .gtr (.int k a) (.int k b)) K := by rw [intB_gtr, decide_eq_false (by omega)]; exact hk
theorem gtr_s (h1 : b < a → K (.bool true)) (h2 : a ≤ b → K (.bool false)) : bindP (intB .gtr (.int k a) (.int k b)) K := by
  by_cases h : b < a
  · exact gtr_t h (h1 h)
  · exact gtr_f (by omega) (h2 (by omega))
theorem geq_t (h : b ≤ a) (hk : K (.bool true)) : bindP (intB .geq (.int k a) (.int k b)) K := by rw [intB_geq, decide_eq_true h]; exact hk
theorem geq_f (h : a < b) (hk : K (.bool false)) : bindP (intB .geq (.int k a) (.int k b)) K := by rw [intB_geq, decide_eq_false (by omega)]; exact hk
theorem geq_s (h1 : b ≤ a → K (.bool true)) (h2 : a < b → K (.bool false)) : bindP (intB .geq (.int k a) (.int k b)) K := by
  by_cases h : b ≤ a
  · exact geq_t h (h1 h)
  · exact geq_f (by omega) (h2 (by omega))
theorem eql_t (h : a = b) (hk : K (.bool true)) : bindP (intB .eql (.int k a) (.int k b)) K := by rw [intB_eql, decide_eq_true h]; exact hk
theorem eql_f (h : a ≠ b) (hk : K (.bool false)) : bindP (intB .eql (.int k a) (.int k b)) K := by rw [intB_eql, decide_eq_false h]; exact hk
theorem eql_s (h1 : a = b → K (.bool true)) (h2 : a ≠ b → K (.bool false)) : bindP (intB .eql (.int k a) (.int k b)) K := by
  by_cases h : a = b
  · exact eql_t h (h1 h)
  · exact eql_f h (h2 h)
theorem neq_t (h : a ≠ b) (hk : K (.bool true)) : bindP (intB .neq (.int k a) (.int k b)) K := by rw [intB_neq, decide_eq_false h]; exact hk
theorem neq_f (h : a = b) (hk : K (.bool false)) : bindP (intB .neq (.int k a) (.int k b)) K := by rw [intB_neq, decide_eq_true h]; exact hk
theorem neq_s (h1 : a ≠ b → K (.bool true)) (h2 : a = b → K (.bool false)) : bindP (intB .neq (.int k a) (.int k b)) K := by
  by_cases h : a = b
  · exact neq_f h (h2 h)
  · exact neq_t h (h1 h)
end
/-! ### Slices of elements that are read as data -/
theorem load1_sub {ro : Ro} {h h' : T Obj} {p v : Value} (hs : Sub h h') (hl : load1 ro h p = some v) : load1 ro h' p = some v := by
  unfold V.load1 at hl ⊢
  obtain ⟨ad, y1, y2⟩ := bind_some' hl
  rw [y1, Option.bind_some]
  cases hc : cellsAt ro h ad 1 with
  | none => rw [hc] at y2; cases y2
  | some l => rw [hc] at y2; rw [cellsAt_sub hs hc]; exact y2
theorem loadA_sub {ro : Ro} {h h' : T Obj} {p v : Value} {n : Nat} (hs : Sub h h') (hl : loadA ro h n p = some v) : loadA ro h' n p = some v := by
  unfold V.loadA at hl ⊢
  obtain ⟨ad, y1, y2⟩ := bind_some' hl
  obtain ⟨l9, y3, y4⟩ := bind_some' y2
  rw [y1, Option.bind_some, cellsAt_sub hs y3, Option.bind_some, y4]
def intsZ (l : List Int) : List (List Value) := l.map fun b : Int => [Value.int .i64 b]
theorem intsZ_len (l : List Int) : (intsZ l).length = l.length := by simp [intsZ]
theorem intsZ_get {l : List Int} {i : Nat} (hi : i < l.length) : (intsZ l)[i]? = some [.int .i64 l[i]] := by simp [intsZ, hi]
/-- A slice of ints. -/
def ZI (ro : Ro) (h : T Obj) (v : Value) (l : List Int) : Prop := Sl ro h v 1 (intsZ l)
section
variable {ro : Ro} {h h' : T Obj} {v : Value} {l : List Int}
theorem ZI.sub (hs : Sub h h') (hl : ZI ro h v l) : ZI ro h' v l := Sl.sub hs hl
theorem ZI.len (hl : ZI ro h v l) : lenSl v = some (.int .i64 l.length) := by have := Sl.len hl; rwa [intsZ_len] at this
theorem ZI.ix (hl : ZI ro h v l) (k : IntKind) {i : Nat} (hi : i < l.length) : ixSl 1 v (.int k (i : Int)) = some (elPtr 1 v i) := Sl.ix hl k (by rw [intsZ_len]; exact hi)
theorem ZI.ixI (hl : ZI ro h v l) (k : IntKind) {i : Int} (h0 : 0 ≤ i) (hi : i < l.length) : ixSl 1 v (.int k i) = some (elPtr 1 v i.toNat) := by
  have := hl.ix k (i := i.toNat) (by omega)
  rwa [Int.toNat_of_nonneg h0] at this
theorem ZI.load (hl : ZI ro h v l) {i : Nat} (hi : i < l.length) : load1 ro h (elPtr 1 v i) = some (.int .i64 l[i]) := Sl.load1 hl (intsZ_get hi)
end
theorem ZI.load' {ro : Ro} {h : T Obj} {v : Value} {l : List Int} (hl : ZI ro h v l) {i : Nat} {x : Int} (hx : l[i]? = some x) : load1 ro h (elPtr 1 v i) = some (.int .i64 x) := by
  obtain ⟨hi, he⟩ := List.getElem?_eq_some_iff.1 hx
  rw [hl.load hi, he]
theorem Sl.ok {ro : Ro} {h : T Obj} {v : Value} {z : Nat} {cs : List (List Value)} (hl : Sl ro h v z cs) : cellOk v = true := by
  rcases hl with ⟨rfl, _⟩ | ⟨a, cap, rfl, _⟩ <;> rfl
theorem ZI.ok {ro : Ro} {h : T Obj} {v : Value} {l : List Int} (hl : ZI ro h v l) : cellOk v = true := Sl.ok hl
theorem ne_len {α : Type} {l : List α} (h : (l.length : Int) ≠ 0) : l.isEmpty = false := by
  cases l with
  | nil => exact absurd rfl h
  | cons _ _ => rfl
theorem eq_len {α : Type} {l : List α} (h : (l.length : Int) = 0) : l = [] := List.eq_nil_iff_length_eq_zero.2 (by omega)
theorem drop_cons {α : Type} {l : List α} {k : Nat} (hk : k < l.length) : l.drop k = l[k] :: l.drop (k + 1) := List.drop_eq_getElem_cons hk
theorem drop_all {α : Type} {l : List α} {k : Nat} (hk : l.length ≤ k) : l.drop k = [] := List.drop_eq_nil_of_le hk
/-- A place within a slice's element. -/
def elPtrK (z : Nat) (v : Value) (i k : Nat) : Value := match v with
  | .slice (some a) _ _ => .pointer (some (elt a (i * z + k)))
  | _ => undef
/-- A slice of elements, each read as data. -/
def SlR {D : Type} (ro : Ro) (h : T Obj) (v : Value) (z : Nat) (R : List Value → D → Prop) (l : List D) : Prop := ∃ cs, Sl ro h v z cs ∧ cs.length = l.length ∧ ∀ (i : Nat) x d, cs[i]? = some x → l[i]? = some d → R x d
section
variable {D : Type} {ro : Ro} {h h' : T Obj} {v : Value} {z : Nat} {R R' : List Value → D → Prop} {l : List D}
theorem SlR.imp (hl : SlR ro h v z R l) (hR : ∀ x d, R x d → R' x d) : SlR ro h v z R' l := by
  obtain ⟨cs, h1, h2, h3⟩ := hl
  exact ⟨cs, h1, h2, fun i x d hx hd => hR _ _ (h3 i x d hx hd)⟩
theorem SlR.sub (hs : Sub h h') (hR : ∀ x d, R x d → R' x d) (hl : SlR ro h v z R l) : SlR ro h' v z R' l := by
  obtain ⟨cs, h1, h2, h3⟩ := hl
  exact ⟨cs, h1.sub hs, h2, fun i x d hx hd => hR _ _ (h3 i x d hx hd)⟩
theorem SlR.nil : SlR ro h (.slice none 0 0) z R ([] : List D) := ⟨[], Sl.nil, rfl, fun i x d hx => by simp at hx⟩
theorem SlR.len (hl : SlR ro h v z R l) : lenSl v = some (.int .i64 l.length) := by
  obtain ⟨cs, h1, h2, h3⟩ := hl
  have := h1.len
  rwa [h2] at this
theorem SlR.ix (hl : SlR ro h v z R l) (k : IntKind) {i : Nat} (hi : i < l.length) : ixSl z v (.int k (i : Int)) = some (elPtr z v i) := by
  obtain ⟨cs, h1, h2, h3⟩ := hl
  exact h1.ix k (by omega)
theorem SlR.ixI (hl : SlR ro h v z R l) (k : IntKind) {i : Int} (h0 : 0 ≤ i) (hi : i < l.length) : ixSl z v (.int k i) = some (elPtr z v i.toNat) := by
  have := hl.ix k (i := i.toNat) (by omega)
  rwa [Int.toNat_of_nonneg h0] at this
theorem elt_elt (a : Addr) (i j : Nat) : fwd (elt a i) j = elt a (i + j) := by
  obtain ⟨b, o, s⟩ := a
  cases s <;> simp [fwd, elt, Nat.add_assoc]
theorem Sl.fwd {cs : List (List Value)} (hl : Sl ro h v z cs) {i : Nat} (hi : i < cs.length) (k : Nat) : fwdP k (elPtr z v i) = some (elPtrK z v i k) := by
  rcases hl with ⟨rfl, rfl⟩ | ⟨a, cap, rfl, h2, h3, h4⟩
  · simp at hi
  · simp only [fwdP, elPtr, asP, Option.bind, elPtrK, elt_elt]
theorem Sl.load1K {cs : List (List Value)} (hl : Sl ro h v z cs) {i k : Nat} {x : List Value} {w : Value} (hx : cs[i]? = some x) (hk : x[k]? = some w) : V.load1 ro h (elPtrK z v i k) = some w := by
  rcases hl with ⟨rfl, rfl⟩ | ⟨a, cap, rfl, h2, h3, h4⟩
  · simp at hx
  · have h5 := (Sl.at h4.1 h4.2 i _ hx)
    have hkl := (List.getElem?_eq_some_iff.1 hk).1
    have hi := (List.getElem?_eq_some_iff.1 hx).1
    have h6 : i * z + k + 1 ≤ cs.length * z := by
      have : i * z + z ≤ cs.length * z := by rw [← Nat.succ_mul]; exact Nat.mul_le_mul_right _ hi
      omega
    have h7 := cellsAt_part h4.2 (off := i * z + k) (k := 1) h6
    have h8 := (flatten_part h4.1).2 i x hx
    have h9 : (cs.flatten.drop (i * z + k)).take 1 = [w] := by
      have : (cs.flatten.drop (i * z + k))[0]? = some w := by
        rw [← h8] at hk
        rw [List.getElem?_take, if_pos (by omega), List.getElem?_drop] at hk
        rw [List.getElem?_drop]; simpa using hk
      have h10 := take_drop_one (l := cs.flatten.drop (i * z + k)) (off := 0) this
      simpa using h10
    rw [h9] at h7
    simp only [V.load1, elPtrK, asP, Option.bind, h7]
/-- What an element of a slice is. -/
theorem SlR.at (hl : SlR ro h v z R l) {i : Nat} (hi : i < l.length) : ∃ x, R x l[i] ∧ x.length = z ∧ V.loadA ro h z (elPtr z v i) = some (.agg x.toArray) ∧ (∀ k, fwdP k (elPtr z v i) = some (elPtrK z v i k)) ∧ ∀ k w, x[k]? = some w → V.load1 ro h (elPtrK z v i k) = some w := by
  obtain ⟨cs, h1, h2, h3⟩ := hl
  have hx : cs[i]? = some (cs[i]'(by omega)) := List.getElem?_eq_getElem _
  refine ⟨_, h3 i _ _ hx (List.getElem?_eq_getElem hi), ?_, h1.loadA hx, fun k => h1.fwd (by omega) k, fun k w hk => h1.load1K hx hk⟩
  rcases h1 with ⟨rfl, rfl⟩ | ⟨a, cap, rfl, g2, g3, g4⟩
  · simp at hx
  · exact g4.1 _ (List.getElem_mem _)
/-- A slice whose elements are one cell each. -/
theorem SlR.at1 (hl : SlR ro h v 1 R l) {i : Nat} (hi : i < l.length) : ∃ w, R [w] l[i] ∧ V.load1 ro h (elPtr 1 v i) = some w := by
  obtain ⟨cs, h1, h2, h3⟩ := hl
  have hx : cs[i]? = some (cs[i]'(by omega)) := List.getElem?_eq_getElem _
  have hz : (cs[i]'(by omega)).length = 1 := by
    rcases h1 with ⟨rfl, rfl⟩ | ⟨a, cap, rfl, g2, g3, g4⟩
    · simp at hx
    · exact g4.1 _ (List.getElem_mem _)
  generalize cs[i]'(by omega) = x at hx hz
  match x, hz with
  | [w], _ => exact ⟨w, h3 i _ _ hx (List.getElem?_eq_getElem hi), h1.load1 hx⟩
end
theorem Sl.loadAK {ro : Ro} {h : T Obj} {v : Value} {z : Nat} {cs : List (List Value)} (hl : Sl ro h v z cs) {i k m : Nat} {x : List Value} (hx : cs[i]? = some x) (hk : k + m ≤ x.length) : V.loadA ro h m (elPtrK z v i k) = some (.agg ((x.drop k).take m).toArray) := by
  rcases hl with ⟨rfl, rfl⟩ | ⟨a, cap, rfl, h2, h3, h4⟩
  · simp at hx
  · have h5 := (Sl.at h4.1 h4.2 i _ hx)
    have hi := (List.getElem?_eq_some_iff.1 hx).1
    have h6 : i * z + k + m ≤ cs.length * z := by
      have : i * z + z ≤ cs.length * z := by rw [← Nat.succ_mul]; exact Nat.mul_le_mul_right _ hi
      omega
    have h7 := cellsAt_part h4.2 (off := i * z + k) (k := m) h6
    have h8 := (flatten_part h4.1).2 i x hx
    have h9 : (cs.flatten.drop (i * z + k)).take m = (x.drop k).take m := by
      rw [← h8, List.drop_take, List.take_take, List.drop_drop, Nat.min_eq_left (by omega)]
    rw [h9] at h7
    simp only [V.loadA, elPtrK, asP, Option.bind, h7]
theorem SlR.loadAK {D : Type} {ro : Ro} {h : T Obj} {v : Value} {z : Nat} {R : List Value → D → Prop} {l : List D} (hl : SlR ro h v z R l) {i : Nat} (hi : i < l.length) : ∃ x, R x l[i] ∧ ∀ k m, k + m ≤ x.length → V.loadA ro h m (elPtrK z v i k) = some (.agg ((x.drop k).take m).toArray) := by
  obtain ⟨cs, h1, h2, h3⟩ := hl
  have hx : cs[i]? = some (cs[i]'(by omega)) := List.getElem?_eq_getElem _
  exact ⟨_, h3 i _ _ hx (List.getElem?_eq_getElem hi), fun k m hk => h1.loadAK hx hk⟩
/-- Loads of elements are untouched by what only adds. -/
theorem SlR.same {D : Type} {ro : Ro} {h h' : T Obj} {v : Value} {z : Nat} {R : List Value → D → Prop} {l : List D} (hl : SlR ro h v z R l) (hs : Sub h h') {i : Nat} (hi : i < l.length) : sameV (elPtr z v i) h h' := by
  obtain ⟨cs, h1, h2, h3⟩ := hl
  exact h1.same hs (by omega)
/-! ### Blocks of variables -/
theorem param_mk {h : T Obj} {nx m : Nat} {v : Value} {ty : TypeId} {K : T Obj → Prop} (hf : Fr h m) (hm : m ≤ nx) (hK : ∀ h', Sub h h' → Fr h' (nx + 1) → h'.get nx = some (.cells (Value.cells v) ty) → (∀ k, k ≠ nx → h'.get k = h.get k) → K h') : newP h nx (.cells (Value.cells v) ty) K :=
  newP_mk (hK _ ((Sub.refl h).new hf hm) ((hf.mono (show m ≤ nx + 1 by omega)).upd (Nat.le_refl _) (by omega)) (by rw [T.get_upd_same]) fun k hk => T.get_upd_ne _ _ hk)
theorem obj_mk {h : T Obj} {nx m : Nat} {o : Obj} {K : T Obj → Prop} (hf : Fr h m) (hm : m ≤ nx) (hK : ∀ h', Sub h h' → Fr h' (nx + 1) → h'.get nx = some o → (∀ k, k ≠ nx → h'.get k = h.get k) → K h') : newP h nx o K :=
  newP_mk (hK _ ((Sub.refl h).new hf hm) ((hf.mono (show m ≤ nx + 1 by omega)).upd (Nat.le_refl _) (by omega)) (by rw [T.get_upd_same]) fun k hk => T.get_upd_ne _ _ hk)
theorem local_mk {P : Program} {h : T Obj} {a m n : Nat} {ty : TypeId} {zv v : Value} {x : List Value} {K : T Obj → Prop} (hz : zer P ty = some zv) (hzs : zv.cells.size = n) (hv : v.cells = x.toArray) (hx : x.length = n) (hok : x.all cellOk = true) (hf : Fr h m) (hm : m ≤ a)
    (hK : ∀ h', Sub h h' → Fr h' (a + 1) → h'.get a = some (.cells x.toArray ty) → (∀ k, k ≠ a → h'.get k = h.get k) → K h') :
    bindP (zer P ty) fun z => newP h a (.cells z.cells ty) fun h1 => bindP (storeN n h1 (ptr a) v) K := by
  refine bindP_mk hz (newP_mk (bindP_mk (storeA_own (l := zv.cells.toList) (vs := x) (e := ty) (f := (0, 0)) (by rw [T.get_upd_same]) hv hx (by simpa using hzs) hok) ?_))
  refine hK _ (((Sub.refl h).new hf hm).new hf hm) (((hf.mono (show m ≤ a + 1 by omega)).upd (Nat.le_refl _) (by omega)).upd (Nat.le_refl _) (by omega)) (by rw [T.get_upd_same]) fun k hk => ?_
  rw [T.get_upd_ne _ _ hk, T.get_upd_ne _ _ hk]
end V
end Go.Proofs.Ytepbdkfkfcckoaa
