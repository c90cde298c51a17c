/- Slices, by their elements' cells.
   No condition. -/
import Derived.Test.YtepbdkfkfcckoaaWS
set_option linter.unusedVariables false
set_option linter.unusedSimpArgs false
namespace Go.Proofs.Ytepbdkfkfcckoaa
namespace V
theorem cellsAt_sub {ro : Ro} {h h' : T Obj} {a : Addr} {n : Nat} {l : List Value} (hs : Sub h h') (hc : cellsAt ro h a n = some l) : cellsAt ro h' a n = some l := by
  unfold cellsAt at hc ⊢
  cases hsp : a.spot with
  | none => rw [hsp] at hc; exact hc
  | some z =>
    rw [hsp] at hc
    simp only at hc ⊢
    cases hg : h.get a.block with
    | none => rw [hg] at hc; cases hc
    | some o => rw [hg] at hc; rw [hs _ _ hg]; exact hc
theorem roCells_length {ro : Ro} : ∀ {n : Nat} {a : Addr} {l : List Value}, roCells ro a n = some l → l.length = n
  | 0, a, l, h => by cases h; rfl
  | n + 1, a, l, h => by
    obtain ⟨v, h1, h⟩ := bind_some' h
    obtain ⟨r, h2, h⟩ := bind_some' h
    cases h
    simp [roCells_length h2]
theorem roCells_part {ro : Ro} : ∀ {off n k : Nat} {a : Addr} {l : List Value}, roCells ro a n = some l → a.spot = none → off + k ≤ n → roCells ro ⟨a.block, a.off + off, none⟩ k = some ((l.drop off).take k)
  | 0, n, 0, a, l, h, hs, hk => by simp [roCells]
  | 0, 0, k + 1, a, l, h, hs, hk => by omega
  | 0, n + 1, k + 1, a, l, h, hs, hk => by
    obtain ⟨v, h1, h⟩ := bind_some' h
    obtain ⟨r, h2, h⟩ := bind_some' h
    cases h
    have ih := roCells_part (off := 0) (k := k) h2 rfl (by omega)
    have ha : (⟨a.block, a.off + 0, none⟩ : Addr) = a := by cases a; simp_all
    rw [ha]
    simp only [roCells, h1, Option.bind_some]
    simp only [Nat.add_zero] at ih
    rw [ih]; simp
  | off + 1, 0, k, a, l, h, hs, hk => by omega
  | off + 1, n + 1, k, a, l, h, hs, hk => by
    obtain ⟨v, h1, h⟩ := bind_some' h
    obtain ⟨r, h2, h⟩ := bind_some' h
    cases h
    have ih := roCells_part (off := off) (k := k) h2 rfl (by omega)
    rw [show a.off + (off + 1) = a.off + 1 + off by omega, List.drop_succ_cons]
    exact ih
theorem roCells_of {ro : Ro} : ∀ {l : List Value} {a : Addr}, a.spot = none → (∀ j x, l[j]? = some x → ro ⟨a.block, a.off + j, none⟩ = some x) → roCells ro a l.length = some l
  | [], a, hs, h => rfl
  | v :: l, a, hs, h => by
    have ha : (⟨a.block, a.off + 0, none⟩ : Addr) = a := by cases a; simp_all
    have h0 := h 0 v rfl
    rw [ha] at h0
    have ih := roCells_of (l := l) (a := ⟨a.block, a.off + 1, none⟩) rfl fun j x hx => by
      have := h (j + 1) x (by simpa using hx)
      rw [show a.off + 1 + j = a.off + (j + 1) by omega]; exact this
    simp [roCells, h0, ih]
theorem cellsAt_length {ro : Ro} {h : T Obj} {a : Addr} {n : Nat} {l : List Value} (hc : cellsAt ro h a n = some l) : l.length = n := by
  obtain ⟨b, o, s⟩ := a
  cases s with
  | none => exact roCells_length hc
  | some z =>
    rw [cellsAt_own] at hc
    obtain ⟨c, h1, h2⟩ := bind_some' hc
    split at h2
    · cases h2; simp; omega
    · cases h2
theorem cellsAt_part {ro : Ro} {h : T Obj} {a : Addr} {n off k : Nat} {l : List Value} (hc : cellsAt ro h a n = some l) (hk : off + k ≤ n) : cellsAt ro h (elt a off) k = some ((l.drop off).take k) := by
  obtain ⟨b, o, s⟩ := a
  cases s with
  | none => exact roCells_part (a := ⟨b, o, none⟩) hc rfl hk
  | some z =>
    rw [cellsAt_own] at hc
    obtain ⟨c, h1, h2⟩ := bind_some' hc
    split at h2
    · rename_i hle
      cases h2
      show cellsAt ro h ⟨b, o + off, some 0⟩ k = _
      rw [cellsAt_own, h1]
      simp only [Option.bind_some]
      rw [if_pos (by omega), List.drop_take, List.drop_drop, List.take_take, Nat.min_eq_left (by omega)]
    · cases h2
theorem flatten_part {z : Nat} : ∀ {l : List (List Value)}, (∀ x ∈ l, x.length = z) → l.flatten.length = l.length * z ∧ ∀ i x, l[i]? = some x → (l.flatten.drop (i * z)).take z = x
  | [], _ => ⟨by simp, fun i x hx => by simp at hx⟩
  | y :: r, hz => by
    have hy := hz y (by simp)
    obtain ⟨h1, h2⟩ := flatten_part (l := r) fun x hx => hz x (by simp [hx])
    refine ⟨by simp [h1, hy, Nat.add_mul]; omega, ?_⟩
    intro i x hx
    cases i with
    | zero => simp at hx; subst hx; subst hy; simp
    | succ i =>
      have := h2 i x (by simpa using hx)
      rw [Nat.succ_mul, show i * z + z = y.length + i * z by omega, List.flatten_cons, List.drop_append, List.drop_eq_nil_of_le (Nat.le_add_right _ _)]
      simpa using this
theorem flatten_take {z : Nat} : ∀ {l : List (List Value)} (n : Nat), (∀ x ∈ l, x.length = z) → l.flatten.take (n * z) = (l.take n).flatten
  | [], n, _ => by simp
  | y :: r, 0, _ => by simp
  | y :: r, n + 1, hz => by
    have hy := hz y (by simp)
    rw [List.take_succ_cons, List.flatten_cons, List.flatten_cons, Nat.succ_mul, show n * z + z = y.length + n * z by omega, List.take_append, List.take_of_length_le (Nat.le_add_right _ _), Nat.add_sub_cancel_left,
      flatten_take n fun x hx => hz x (by simp [hx])]
/-- A slice of these elements, each by its cells. -/
def Sl (ro : Ro) (h : T Obj) (v : Value) (z : Nat) (l : List (List Value)) : Prop :=
  (v = .slice none 0 0 ∧ l = []) ∨ ∃ a cap, v = .slice (some a) l.length cap ∧ l.length ≤ cap ∧ (a.spot = none ∨ a.spot = some z) ∧ (∀ x ∈ l, x.length = z) ∧ cellsAt ro h a (l.length * z) = some l.flatten
theorem Sl.at {ro : Ro} {h : T Obj} {a : Addr} {z : Nat} {l : List (List Value)} (hz : ∀ x ∈ l, x.length = z) (hc : cellsAt ro h a (l.length * z) = some l.flatten) : ∀ i x, l[i]? = some x → x.length = z ∧ cellsAt ro h (elt a (i * z)) z = some x := by
  intro i x hx
  refine ⟨hz x (List.mem_of_getElem? hx), ?_⟩
  have hi := (List.getElem?_eq_some_iff.1 hx).1
  have : i * z + z ≤ l.length * z := by rw [← Nat.succ_mul]; exact Nat.mul_le_mul_right _ hi
  rw [cellsAt_part hc this, (flatten_part hz).2 i x hx]
/-- A pointer to a slice's element. -/
def elPtr (z : Nat) (v : Value) (i : Nat) : Value := match v with
  | .slice (some a) _ _ => .pointer (some (elt a (i * z)))
  | _ => undef
section
variable {ro : Ro} {h h' : T Obj} {v : Value} {z : Nat} {l : List (List Value)}
theorem Sl.nil : Sl ro h (.slice none 0 0) z [] := .inl ⟨rfl, rfl⟩
theorem Sl.sub (hs : Sub h h') (hl : Sl ro h v z l) : Sl ro h' v z l := by
  rcases hl with hl | ⟨a, cap, h1, h2, h3, h4⟩
  · exact .inl hl
  · exact .inr ⟨a, cap, h1, h2, h3, h4.1, cellsAt_sub hs h4.2⟩
theorem Sl.len (hl : Sl ro h v z l) : lenSl v = some (.int .i64 l.length) := by
  rcases hl with ⟨rfl, rfl⟩ | ⟨a, cap, rfl, _⟩ <;> rfl
theorem Sl.ix (hl : Sl ro h v z l) (k : IntKind) {i : Nat} (hi : i < l.length) : ixSl z v (.int k (i : Int)) = some (elPtr z v i) := by
  rcases hl with ⟨rfl, rfl⟩ | ⟨a, cap, rfl, h2, h3, h4⟩
  · simp at hi
  · have hn : natV (.int k (i : Int)) = some i := by simp [natV]
    have hb : Nat.blt i l.length = true := by simp [Nat.blt]; omega
    unfold ixSl
    rw [hn]
    simp only [Option.bind, hb]
    rcases h3 with h3 | h3
    · rw [h3]; simp [elPtr, elt, fwd, h3]
    · rw [h3]; simp [elPtr, elt, h3]
theorem Sl.loadA (hl : Sl ro h v z l) {i : Nat} {x : List Value} (hx : l[i]? = some x) : loadA ro h z (elPtr z v i) = some (.agg x.toArray) := by
  rcases hl with ⟨rfl, rfl⟩ | ⟨a, cap, rfl, h2, h3, h4⟩
  · simp at hx
  · simp [V.loadA, elPtr, asP, (Sl.at h4.1 h4.2 i x hx).2]
theorem Sl.load1 (hl : Sl ro h v 1 l) {i : Nat} {x : Value} (hx : l[i]? = some [x]) : load1 ro h (elPtr 1 v i) = some x := by
  rcases hl with ⟨rfl, rfl⟩ | ⟨a, cap, rfl, h2, h3, h4⟩
  · simp at hx
  · have := (Sl.at h4.1 h4.2 i _ hx).2
    simp only [V.load1, elPtr, asP, Option.bind, this]
theorem sameV_ptr {a : Addr} {n : Nat} {x : List Value} (hs : Sub h h') (hx : cellsAt ro h a n = some x) : sameV (.pointer (some a)) h h' := by
  unfold sameV blk
  cases hz : a.spot with
  | none => simp only [hz]
  | some z =>
    simp only [hz]
    unfold cellsAt at hx
    rw [hz] at hx
    cases hg : h.get a.block with
    | none => rw [hg] at hx; cases hx
    | some o => exact ⟨by rw [hg, hs _ _ hg], by rw [hg]; rfl⟩
theorem Sl.same (hs : Sub h h') (hl : Sl ro h v z l) {i : Nat} (hi : i < l.length) : sameV (elPtr z v i) h h' := by
  rcases hl with ⟨rfl, rfl⟩ | ⟨b, cap, rfl, h2, h3, h4⟩
  · simp at hi
  · exact sameV_ptr hs (Sl.at h4.1 h4.2 i _ (List.getElem?_eq_getElem hi)).2
end
theorem sameV_own {h h' : T Obj} {id off z : Nat} {o : Obj} (hg : h.get id = some o) (hs : h'.get id = some o) : sameV (at_ id off z) h h' := ⟨by rw [hg, hs], by rw [hg]; rfl⟩
/-- An own slice out of a block. -/
theorem Sl.own {ro : Ro} {h : T Obj} {id z cap : Nat} {l : List (List Value)} {e : TypeId} {f : Nat × Nat} (hg : h.get id = some (.cells l.flatten.toArray e f)) (hz : ∀ x ∈ l, x.length = z) (hc : l.length ≤ cap) : Sl ro h (.slice (some (V.own id z)) l.length cap) z l := by
  refine .inr ⟨V.own id z, cap, rfl, hc, .inr rfl, hz, ?_⟩
  have h1 := (flatten_part hz).1
  show cellsAt ro h ⟨id, 0, some z⟩ _ = _
  rw [cellsAt_own, hg, cellsIn_some]
  simp only [Option.bind_some]
  rw [if_pos (by rw [h1]; omega), List.drop_zero, List.take_of_length_le (by rw [h1]; omega)]
/-- A result's block filled out of another, and handed back. -/
theorem ret_copy {ro : Ro} {n id1 id2 m n0 : Nat} {l1 l2 : List Value} {e1 e2 : TypeId} {f1 f2 : Nat × Nat} {h h0 : T Obj} {K : KV} (g1 : h.get id1 = some (.cells l1.toArray e1 f1)) (g2 : h.get id2 = some (.cells l2.toArray e2 f2))
    (q1 : l1.length = n) (q2 : l2.length = n) (q3 : l1.all cellOk = true) (hf : Fr h0 n0) (hs : Sub h0 h) (hid : n0 ≤ id2) (hK : K (.agg l1.toArray) h0 m) :
    bindP (loadA ro h n (at_ id1 0 0)) fun t => bindP (storeN n h (at_ id2 0 0) t) fun h8 => bindP (loadA ro h8 n (at_ id2 0 0)) fun r => ∃ h9, Sub h9 h8 ∧ K r h9 m := by
  refine bindP_mk (loadA_all g1 q1) ?_
  refine bindP_mk (storeA_own (l := l2) (vs := l1) g2 rfl q1 q2 q3) ?_
  refine bindP_mk (loadA_all (by rw [T.get_upd_same]) q1) ?_
  exact ⟨h0, hs.new hf hid, hK⟩
theorem exP_n {A : Prop} {B : Nat → Prop} {D : Prop} (h : A) : exP .normal A B D := h
theorem exP_e {i : Nat} {A : Prop} {B : Nat → Prop} {D : Prop} (h : B i) : exP (.exit i) A B D := h
theorem exP_r {A : Prop} {B : Nat → Prop} {D : Prop} (h : D) : exP .ret A B D := h
theorem beqP_t {A B : Prop} (h : A) : beqP true A B := h
/-- The first elements of a slice. -/
theorem Sl.take {P : Program} {t e : TypeId} {ro : Ro} {h : T Obj} {v : Value} {z : Nat} {l : List (List Value)} (hl : Sl ro h v z l) (hu : und P t = some (.slice e)) (hz : siz P e = some z) (hz0 : 0 < z) {n : Nat} (hn : n ≤ l.length) (k : IntKind) :
    ∃ r, sliceV P t v none (some (.int k (n : Int))) none = some r ∧ Sl ro h r z (l.take n) := by
  have hnv : natV (.int k (n : Int)) = some n := by simp [natV]
  rcases hl with ⟨rfl, rfl⟩ | ⟨a, cap, rfl, h2, h3, h4⟩
  · simp at hn; subst hn
    refine ⟨.slice none 0 0, ?_, .inl ⟨rfl, rfl⟩⟩
    unfold sliceV
    simp [hu, hz, boundV, natV]
  · have hb : Nat.ble n cap = true := Nat.ble_eq_true_of_le (by omega)
    have hlen : (l.take n).length = n := by rw [List.length_take]; omega
    refine ⟨.slice (some a) n cap, ?_, .inr ⟨a, cap, by rw [hlen], by rw [hlen]; omega, h3, fun x hx => h4.1 x (List.mem_of_mem_take hx), ?_⟩⟩
    · unfold sliceV
      have hb1 : Nat.ble n l.length = true := Nat.ble_eq_true_of_le hn
      have hb0 : Nat.ble 0 n = true := Nat.ble_eq_true_of_le (Nat.zero_le _)
      have e0 : fwd a (0 * z) = a := by simp [fwd]
      have e1 : boundV none cap cap = some cap := rfl
      have e2 : boundV (some (.int k (n : Int))) l.length cap = some n := by simp [boundV, hnv, hb]
      have e3 : boundV none 0 n = some 0 := rfl
      simp only [hu, hz, Option.bind, e1, e2, e3, hb, Option.isNone, Bool.true_or, Nat.sub_zero]
      rcases h3 with h3 | h3
      · simp only [h3]
        cases hc : Nat.beq cap 0 with
        | true => simp only
        | false => simp only [e0]
      · simp only [h3, Nat.beq_refl, e0]
    · have hk : 0 + n * z ≤ l.length * z := by rw [Nat.zero_add]; exact Nat.mul_le_mul_right _ hn
      have := cellsAt_part h4.2 hk
      rw [List.drop_zero, flatten_take n h4.1] at this
      rw [hlen]
      rcases h3 with h3 | h3
      · have e : elt a 0 = a := by obtain ⟨b, o, sp⟩ := a; change sp = none at h3; subst h3; rfl
        rw [e] at this; exact this
      · unfold cellsAt at this ⊢
        simp only [elt, h3, Option.map, Nat.add_zero] at this ⊢
        exact this
/-! ### Appending -/
/-- A slice of one's own, to which may be appended. -/
def Own (h : T Obj) (v : Value) (z : Nat) (e : TypeId) (l : List (List Value)) (lo hi : Nat) : Prop :=
  (v = .slice none 0 0 ∧ l = []) ∨ ∃ id, lo ≤ id ∧ id < hi ∧ v = .slice (some (own id z)) l.length l.length ∧ (∀ x ∈ l, x.length = z) ∧ h.get id = some (.cells l.flatten.toArray e)
theorem Own.sl {ro : Ro} {h : T Obj} {v : Value} {z : Nat} {e : TypeId} {l : List (List Value)} {lo hi : Nat} (ho : Own h v z e l lo hi) : Sl ro h v z l := by
  rcases ho with ho | ⟨id, _, _, rfl, h4, h5⟩
  · exact .inl ho
  · exact Sl.own h5 h4 (Nat.le_refl _)
theorem Own.nil {h : T Obj} {z : Nat} {e : TypeId} {lo hi : Nat} : Own h (.slice none 0 0) z e [] lo hi := .inl ⟨rfl, rfl⟩
/-- Where nothing but other blocks has turned. -/
theorem Own.keep {h h' : T Obj} {v : Value} {z : Nat} {e : TypeId} {l : List (List Value)} {lo hi hi' : Nat} (ho : Own h v z e l lo hi) (hh : hi ≤ hi') (hk : ∀ id, lo ≤ id → id < hi → ∀ o, h.get id = some o → h'.get id = some o) : Own h' v z e l lo hi' := by
  rcases ho with ho | ⟨id, h1, h2, h3, h4, h5⟩
  · exact .inl ho
  · exact .inr ⟨id, h1, by omega, h3, h4, hk id h1 h2 _ h5⟩
theorem append_own {P : Program} {ro : Ro} {h : T Obj} {v x : Value} {z nx lo hi : Nat} {t e : TypeId} {i : TypeInfo} {zv : Value} {l m : List (List Value)} (ho : Own h v z e l lo hi) (hx : Sl ro h x z m) (hu : und P t = some (.slice e)) (hi' : tin P e = some i) (hz : i.size = z) (hz0 : 0 < z) (hzer : zer P e = some zv) (hzs : zv.cells.size = z)
    (hm : m ≠ []) (hok : m.flatten.all cellOk = true) (hb : (l.length + m.length) * i.bytes ≤ big) (hb2 : l.length + m.length ≤ big) (hlo : lo ≤ nx) (hnx : hi ≤ nx) :
    ∃ h', appendV P ro h nx #[t, t] [v, x] = some (.slice (some (own nx z)) (l ++ m).length (l ++ m).length, h', nx + 1) ∧ Own h' (.slice (some (own nx z)) (l ++ m).length (l ++ m).length) z e (l ++ m) lo (nx + 1) ∧
      (∀ k, (k < lo ∨ hi ≤ k) → k ≠ nx → h'.get k = h.get k) ∧ (∀ k, k ≠ nx → h'.get k = h.get k ∨ h'.get k = none) := by
  have hml : 0 < m.length := List.length_pos_iff.2 hm
  obtain ⟨a, capx, rfl, hcx, hsx, hzx, hxc⟩ : ∃ a cap, x = .slice (some a) m.length cap ∧ m.length ≤ cap ∧ (a.spot = none ∨ a.spot = some z) ∧ (∀ x ∈ m, x.length = z) ∧ cellsAt ro h a (m.length * z) = some m.flatten := by
    rcases hx with ⟨_, hx⟩ | hx
    · exact absurd hx hm
    · exact hx
  have hb1 : Nat.ble ((l.length + m.length) * i.bytes) big = true := Nat.ble_eq_true_of_le hb
  have hb2' : Nat.ble (l.length + m.length) big = true := Nat.ble_eq_true_of_le hb2
  have hb3 : Nat.blt 0 z = true := by simp [Nat.blt]; omega
  have hfull : Nat.ble (l.length + m.length) l.length = false := by
    cases hq : Nat.ble (l.length + m.length) l.length with
    | false => rfl
    | true => have := Nat.le_of_ble_eq_true hq; omega
  rcases ho with ⟨rfl, rfl⟩ | ⟨id, h1, h2, rfl, h4, h5⟩
  · refine ⟨h.upd nx (some (.cells m.flatten.toArray e)), ?_, .inr ⟨nx, hlo, by omega, by simp, by simpa using hzx, by rw [T.get_upd_same]; simp⟩, fun k _ hk => T.get_upd_ne _ _ hk, fun k hk => .inl (T.get_upd_ne _ _ hk)⟩
    simp only [List.length_nil] at hb1 hb2' hfull
    simp only [appendV, List.getElem?_toArray, List.getElem?_cons_zero, List.getElem?_cons_succ, hu, hi', Option.bind_some, srcV, hz, hxc, hfull, hzer, hb1, hb2', hb3, hzs, Nat.beq_refl, hok, oldV]
    simp
  · have hl := (flatten_part h4).1
    have hcl : cellsAt ro h ⟨id, 0, some z⟩ (l.length * z) = some l.flatten := by
      rw [cellsAt_own, h5, cellsIn_some]
      simp only [Option.bind_some]
      rw [if_pos (by rw [hl]; omega), List.drop_zero, List.take_of_length_le (by rw [hl]; omega)]
    refine ⟨(h.upd id none).upd nx (some (.cells (l.flatten ++ m.flatten).toArray e)), ?_, .inr ⟨nx, hlo, by omega, by simp, ?_, by rw [T.get_upd_same]; simp⟩, ?_, ?_⟩
    · simp only [appendV, List.getElem?_toArray, List.getElem?_cons_zero, List.getElem?_cons_succ, hu, hi', Option.bind_some, srcV, hz, hxc, hfull, hzer, hb1, hb2', hb3, hzs, Nat.beq_refl, hok, oldV, own, hcl]
      simp
    · intro x hx
      rcases List.mem_append.1 hx with hx | hx
      · exact h4 x hx
      · exact hzx x hx
    · intro k hk hne
      rw [T.get_upd_ne _ _ hne, T.get_upd_ne _ _ (by omega)]
    · intro k hne
      rw [T.get_upd_ne _ _ hne]
      by_cases e : k = id
      · subst e; right; rw [T.get_upd_same]
      · left; rw [T.get_upd_ne _ _ e]
end V
end Go.Proofs.Ytepbdkfkfcckoaa
