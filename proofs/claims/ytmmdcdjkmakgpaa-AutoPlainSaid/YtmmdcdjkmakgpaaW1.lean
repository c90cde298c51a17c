/- Texts laid one behind the other: WT, WU, WV, WB.
   No condition. -/
import Derived.Test.YtmmdcdjkmakgpaaV3
import Derived.Deep.Slices
/- Slices, by their elements' cells.
   No condition. -/
set_option linter.unusedVariables false
set_option linter.unusedSimpArgs false
noncomputable section
namespace Go.Proofs.Ytmmdcdjkmakgpaa
namespace V
theorem cellsAt_sub {ro : Ro} {h h' : T Obj} {a : Addr} {n : Nat} {l : List Value} (hs : Sub h h') (hc : cellsAt ro h a n = some l) : cellsAt ro h' a n = some l := by
  unfold cellsAt at hc ⊢
  cases hsp : a.spot with
  | none => rw [hsp] at hc; exact hc
  | some z =>
    rw [hsp] at hc
    simp only at hc ⊢
    cases hg : h.get a.block with
    | none => rw [hg] at hc; cases hc
    | some o => rw [hg] at hc; rw [hs _ _ hg]; exact hc
theorem roCells_length {ro : Ro} : ∀ {n : Nat} {a : Addr} {l : List Value}, roCells ro a n = some l → l.length = n
  | 0, a, l, h => by cases h; rfl
  | n + 1, a, l, h => by
    obtain ⟨v, h1, h⟩ := bind_some' h
    obtain ⟨r, h2, h⟩ := bind_some' h
    cases h
    simp [roCells_length h2]
theorem roCells_part {ro : Ro} : ∀ {off n k : Nat} {a : Addr} {l : List Value}, roCells ro a n = some l → a.spot = none → off + k ≤ n → roCells ro ⟨a.block, a.off + off, none⟩ k = some ((l.drop off).take k)
  | 0, n, 0, a, l, h, hs, hk => by simp [roCells]
  | 0, 0, k + 1, a, l, h, hs, hk => by omega
  | 0, n + 1, k + 1, a, l, h, hs, hk => by
    obtain ⟨v, h1, h⟩ := bind_some' h
    obtain ⟨r, h2, h⟩ := bind_some' h
    cases h
    have ih := roCells_part (off := 0) (k := k) h2 rfl (by omega)
    have ha : (⟨a.block, a.off + 0, none⟩ : Addr) = a := by cases a; simp_all
    rw [ha]
    simp only [roCells, h1, Option.bind_some]
    simp only [Nat.add_zero] at ih
    rw [ih]; simp
  | off + 1, 0, k, a, l, h, hs, hk => by omega
  | off + 1, n + 1, k, a, l, h, hs, hk => by
    obtain ⟨v, h1, h⟩ := bind_some' h
    obtain ⟨r, h2, h⟩ := bind_some' h
    cases h
    have ih := roCells_part (off := off) (k := k) h2 rfl (by omega)
    rw [show a.off + (off + 1) = a.off + 1 + off by omega, List.drop_succ_cons]
    exact ih
theorem roCells_of {ro : Ro} : ∀ {l : List Value} {a : Addr}, a.spot = none → (∀ j x, l[j]? = some x → ro ⟨a.block, a.off + j, none⟩ = some x) → roCells ro a l.length = some l
  | [], a, hs, h => rfl
  | v :: l, a, hs, h => by
    have ha : (⟨a.block, a.off + 0, none⟩ : Addr) = a := by cases a; simp_all
    have h0 := h 0 v rfl
    rw [ha] at h0
    have ih := roCells_of (l := l) (a := ⟨a.block, a.off + 1, none⟩) rfl fun j x hx => by
      have := h (j + 1) x (by simpa using hx)
      rw [show a.off + 1 + j = a.off + (j + 1) by omega]; exact this
    simp [roCells, h0, ih]
theorem cellsAt_length {ro : Ro} {h : T Obj} {a : Addr} {n : Nat} {l : List Value} (hc : cellsAt ro h a n = some l) : l.length = n := by
  obtain ⟨b, o, s⟩ := a
  cases s with
  | none => exact roCells_length hc
  | some z =>
    rw [cellsAt_own] at hc
    obtain ⟨c, h1, h2⟩ := bind_some' hc
    split at h2
    · cases h2; simp; omega
    · cases h2
theorem cellsAt_part {ro : Ro} {h : T Obj} {a : Addr} {n off k : Nat} {l : List Value} (hc : cellsAt ro h a n = some l) (hk : off + k ≤ n) : cellsAt ro h (elt a off) k = some ((l.drop off).take k) := by
  obtain ⟨b, o, s⟩ := a
  cases s with
  | none => exact roCells_part (a := ⟨b, o, none⟩) hc rfl hk
  | some z =>
    rw [cellsAt_own] at hc
    obtain ⟨c, h1, h2⟩ := bind_some' hc
    split at h2
    · rename_i hle
      cases h2
      show cellsAt ro h ⟨b, o + off, some 0⟩ k = _
      rw [cellsAt_own, h1]
      simp only [Option.bind_some]
      rw [if_pos (by omega), List.drop_take, List.drop_drop, List.take_take, Nat.min_eq_left (by omega)]
    · cases h2
theorem flatten_part {z : Nat} : ∀ {l : List (List Value)}, (∀ x ∈ l, x.length = z) → l.flatten.length = l.length * z ∧ ∀ i x, l[i]? = some x → (l.flatten.drop (i * z)).take z = x
  | [], _ => ⟨by simp, fun i x hx => by simp at hx⟩
  | y :: r, hz => by
    have hy := hz y (by simp)
    obtain ⟨h1, h2⟩ := flatten_part (l := r) fun x hx => hz x (by simp [hx])
    refine ⟨by simp [h1, hy, Nat.add_mul]; omega, ?_⟩
    intro i x hx
    cases i with
    | zero => simp at hx; subst hx; subst hy; simp
    | succ i =>
      have := h2 i x (by simpa using hx)
      rw [Nat.succ_mul, show i * z + z = y.length + i * z by omega, List.flatten_cons, List.drop_append, List.drop_eq_nil_of_le (Nat.le_add_right _ _)]
      simpa using this
theorem flatten_take {z : Nat} : ∀ {l : List (List Value)} (n : Nat), (∀ x ∈ l, x.length = z) → l.flatten.take (n * z) = (l.take n).flatten
  | [], n, _ => by simp
  | y :: r, 0, _ => by simp
  | y :: r, n + 1, hz => by
    have hy := hz y (by simp)
    rw [List.take_succ_cons, List.flatten_cons, List.flatten_cons, Nat.succ_mul, show n * z + z = y.length + n * z by omega, List.take_append, List.take_of_length_le (Nat.le_add_right _ _), Nat.add_sub_cancel_left,
      flatten_take n fun x hx => hz x (by simp [hx])]
/-- A slice of these elements, each by its cells. -/
def Sl (ro : Ro) (h : T Obj) (v : Value) (z : Nat) (l : List (List Value)) : Prop :=
  (v = .slice none 0 0 ∧ l = []) ∨ ∃ a cap, v = .slice (some a) l.length cap ∧ l.length ≤ cap ∧ (a.spot = none ∨ a.spot = some z) ∧ (∀ x ∈ l, x.length = z) ∧ cellsAt ro h a (l.length * z) = some l.flatten
theorem Sl.at {ro : Ro} {h : T Obj} {a : Addr} {z : Nat} {l : List (List Value)} (hz : ∀ x ∈ l, x.length = z) (hc : cellsAt ro h a (l.length * z) = some l.flatten) : ∀ i x, l[i]? = some x → x.length = z ∧ cellsAt ro h (elt a (i * z)) z = some x := by
  intro i x hx
  refine ⟨hz x (List.mem_of_getElem? hx), ?_⟩
  have hi := (List.getElem?_eq_some_iff.1 hx).1
  have : i * z + z ≤ l.length * z := by rw [← Nat.succ_mul]; exact Nat.mul_le_mul_right _ hi
  rw [cellsAt_part hc this, (flatten_part hz).2 i x hx]
/-- A pointer to a slice's element. -/
def elPtr (z : Nat) (v : Value) (i : Nat) : Value := match v with
  | .slice (some a) _ _ => .pointer (some (elt a (i * z)))
  | _ => undef
section
variable {ro : Ro} {h h' : T Obj} {v : Value} {z : Nat} {l : List (List Value)}
theorem Sl.nil : Sl ro h (.slice none 0 0) z [] := .inl ⟨rfl, rfl⟩
theorem Sl.sub (hs : Sub h h') (hl : Sl ro h v z l) : Sl ro h' v z l := by
  rcases hl with hl | ⟨a, cap, h1, h2, h3, h4⟩
  · exact .inl hl
  · exact .inr ⟨a, cap, h1, h2, h3, h4.1, cellsAt_sub hs h4.2⟩
theorem Sl.len (hl : Sl ro h v z l) : lenSl v = some (.int .i64 l.length) := by
  rcases hl with ⟨rfl, rfl⟩ | ⟨a, cap, rfl, _⟩ <;> rfl
theorem Sl.ix (hl : Sl ro h v z l) (k : IntKind) {i : Nat} (hi : i < l.length) : ixSl z v (.int k (i : Int)) = some (elPtr z v i) := by
  rcases hl with ⟨rfl, rfl⟩ | ⟨a, cap, rfl, h2, h3, h4⟩
  · simp at hi
  · have hn : natV (.int k (i : Int)) = some i := by simp [natV]
    have hb : Nat.blt i l.length = true := by simp [Nat.blt]; omega
    unfold ixSl
    rw [hn]
    simp only [Option.bind, hb]
    rcases h3 with h3 | h3
    · rw [h3]; simp [elPtr, elt, fwd, h3]
    · rw [h3]; simp [elPtr, elt, h3]
theorem Sl.loadA (hl : Sl ro h v z l) {i : Nat} {x : List Value} (hx : l[i]? = some x) : loadA ro h z (elPtr z v i) = some (.agg x.toArray) := by
  rcases hl with ⟨rfl, rfl⟩ | ⟨a, cap, rfl, h2, h3, h4⟩
  · simp at hx
  · simp [V.loadA, elPtr, asP, (Sl.at h4.1 h4.2 i x hx).2]
theorem Sl.load1 (hl : Sl ro h v 1 l) {i : Nat} {x : Value} (hx : l[i]? = some [x]) : load1 ro h (elPtr 1 v i) = some x := by
  rcases hl with ⟨rfl, rfl⟩ | ⟨a, cap, rfl, h2, h3, h4⟩
  · simp at hx
  · have := (Sl.at h4.1 h4.2 i _ hx).2
    simp only [V.load1, elPtr, asP, Option.bind, this]
theorem sameV_ptr {a : Addr} {n : Nat} {x : List Value} (hs : Sub h h') (hx : cellsAt ro h a n = some x) : sameV (.pointer (some a)) h h' := by
  unfold sameV blk
  cases hz : a.spot with
  | none => simp only [hz]
  | some z =>
    simp only [hz]
    unfold cellsAt at hx
    rw [hz] at hx
    cases hg : h.get a.block with
    | none => rw [hg] at hx; cases hx
    | some o => exact ⟨by rw [hg, hs _ _ hg], by rw [hg]; rfl⟩
theorem Sl.same (hs : Sub h h') (hl : Sl ro h v z l) {i : Nat} (hi : i < l.length) : sameV (elPtr z v i) h h' := by
  rcases hl with ⟨rfl, rfl⟩ | ⟨b, cap, rfl, h2, h3, h4⟩
  · simp at hi
  · exact sameV_ptr hs (Sl.at h4.1 h4.2 i _ (List.getElem?_eq_getElem hi)).2
end
theorem sameV_own {h h' : T Obj} {id off z : Nat} {o : Obj} (hg : h.get id = some o) (hs : h'.get id = some o) : sameV (at_ id off z) h h' := ⟨by rw [hg, hs], by rw [hg]; rfl⟩
/-- An own slice out of a block. -/
theorem Sl.own {ro : Ro} {h : T Obj} {id z cap : Nat} {l : List (List Value)} {e : TypeId} {f : Nat × Nat} (hg : h.get id = some (.cells l.flatten.toArray e f)) (hz : ∀ x ∈ l, x.length = z) (hc : l.length ≤ cap) : Sl ro h (.slice (some (V.own id z)) l.length cap) z l := by
  refine .inr ⟨V.own id z, cap, rfl, hc, .inr rfl, hz, ?_⟩
  have h1 := (flatten_part hz).1
  show cellsAt ro h ⟨id, 0, some z⟩ _ = _
  rw [cellsAt_own, hg, cellsIn_some]
  simp only [Option.bind_some]
  rw [if_pos (by rw [h1]; omega), List.drop_zero, List.take_of_length_le (by rw [h1]; omega)]
/-- A result's block filled out of another, and handed back. -/
theorem ret_copy {ro : Ro} {n id1 id2 m n0 : Nat} {l1 l2 : List Value} {e1 e2 : TypeId} {f1 f2 : Nat × Nat} {h h0 : T Obj} {K : KV} (g1 : h.get id1 = some (.cells l1.toArray e1 f1)) (g2 : h.get id2 = some (.cells l2.toArray e2 f2))
    (q1 : l1.length = n) (q2 : l2.length = n) (q3 : l1.all cellOk = true) (hf : Fr h0 n0) (hs : Sub h0 h) (hid : n0 ≤ id2) (hK : K (.agg l1.toArray) h0 m) :
    bindP (loadA ro h n (at_ id1 0 0)) fun t => bindP (storeN n h (at_ id2 0 0) t) fun h8 => bindP (loadA ro h8 n (at_ id2 0 0)) fun r => ∃ h9, Sub h9 h8 ∧ K r h9 m := by
  refine bindP_mk (loadA_all g1 q1) ?_
  refine bindP_mk (storeA_own (l := l2) (vs := l1) g2 rfl q1 q2 q3) ?_
  refine bindP_mk (loadA_all (by rw [T.get_upd_same]) q1) ?_
  exact ⟨h0, hs.new hf hid, hK⟩
theorem exP_n {A : Prop} {B : Nat → Prop} {D : Prop} (h : A) : exP .normal A B D := h
theorem exP_e {i : Nat} {A : Prop} {B : Nat → Prop} {D : Prop} (h : B i) : exP (.exit i) A B D := h
theorem exP_r {A : Prop} {B : Nat → Prop} {D : Prop} (h : D) : exP .ret A B D := h
theorem beqP_t {A B : Prop} (h : A) : beqP true A B := h
/-- The first elements of a slice. -/
theorem Sl.take {P : Program} {t e : TypeId} {ro : Ro} {h : T Obj} {v : Value} {z : Nat} {l : List (List Value)} (hl : Sl ro h v z l) (hu : und P t = some (.slice e)) (hz : siz P e = some z) (hz0 : 0 < z) {n : Nat} (hn : n ≤ l.length) (k : IntKind) :
    ∃ r, sliceV P t v none (some (.int k (n : Int))) none = some r ∧ Sl ro h r z (l.take n) := by
  have hnv : natV (.int k (n : Int)) = some n := by simp [natV]
  rcases hl with ⟨rfl, rfl⟩ | ⟨a, cap, rfl, h2, h3, h4⟩
  · simp at hn; subst hn
    refine ⟨.slice none 0 0, ?_, .inl ⟨rfl, rfl⟩⟩
    unfold sliceV
    simp [hu, hz, boundV, natV]
  · have hb : Nat.ble n cap = true := Nat.ble_eq_true_of_le (by omega)
    have hlen : (l.take n).length = n := by rw [List.length_take]; omega
    refine ⟨.slice (some a) n cap, ?_, .inr ⟨a, cap, by rw [hlen], by rw [hlen]; omega, h3, fun x hx => h4.1 x (List.mem_of_mem_take hx), ?_⟩⟩
    · unfold sliceV
      have hb1 : Nat.ble n l.length = true := Nat.ble_eq_true_of_le hn
      have hb0 : Nat.ble 0 n = true := Nat.ble_eq_true_of_le (Nat.zero_le _)
      have e0 : fwd a (0 * z) = a := by simp [fwd]
      have e1 : boundV none cap cap = some cap := rfl
      have e2 : boundV (some (.int k (n : Int))) l.length cap = some n := by simp [boundV, hnv, hb]
      have e3 : boundV none 0 n = some 0 := rfl
      simp only [hu, hz, Option.bind, e1, e2, e3, hb, Option.isNone, Bool.true_or, Nat.sub_zero]
      rcases h3 with h3 | h3
      · simp only [h3]
        cases hc : Nat.beq cap 0 with
        | true => simp only
        | false => simp only [e0]
      · simp only [h3, Nat.beq_refl, e0]
    · have hk : 0 + n * z ≤ l.length * z := by rw [Nat.zero_add]; exact Nat.mul_le_mul_right _ hn
      have := cellsAt_part h4.2 hk
      rw [List.drop_zero, flatten_take n h4.1] at this
      rw [hlen]
      rcases h3 with h3 | h3
      · have e : elt a 0 = a := by obtain ⟨b, o, sp⟩ := a; change sp = none at h3; subst h3; rfl
        rw [e] at this; exact this
      · unfold cellsAt at this ⊢
        simp only [elt, h3, Option.map, Nat.add_zero] at this ⊢
        exact this
/-! ### Appending -/
/-- A slice of one's own, to which may be appended. -/
def Own (h : T Obj) (v : Value) (z : Nat) (e : TypeId) (l : List (List Value)) (lo hi : Nat) : Prop :=
  (v = .slice none 0 0 ∧ l = []) ∨ ∃ id, lo ≤ id ∧ id < hi ∧ v = .slice (some (own id z)) l.length l.length ∧ (∀ x ∈ l, x.length = z) ∧ h.get id = some (.cells l.flatten.toArray e)
theorem Own.sl {ro : Ro} {h : T Obj} {v : Value} {z : Nat} {e : TypeId} {l : List (List Value)} {lo hi : Nat} (ho : Own h v z e l lo hi) : Sl ro h v z l := by
  rcases ho with ho | ⟨id, _, _, rfl, h4, h5⟩
  · exact .inl ho
  · exact Sl.own h5 h4 (Nat.le_refl _)
theorem Own.nil {h : T Obj} {z : Nat} {e : TypeId} {lo hi : Nat} : Own h (.slice none 0 0) z e [] lo hi := .inl ⟨rfl, rfl⟩
/-- Where nothing but other blocks has turned. -/
theorem Own.keep {h h' : T Obj} {v : Value} {z : Nat} {e : TypeId} {l : List (List Value)} {lo hi hi' : Nat} (ho : Own h v z e l lo hi) (hh : hi ≤ hi') (hk : ∀ id, lo ≤ id → id < hi → ∀ o, h.get id = some o → h'.get id = some o) : Own h' v z e l lo hi' := by
  rcases ho with ho | ⟨id, h1, h2, h3, h4, h5⟩
  · exact .inl ho
  · exact .inr ⟨id, h1, by omega, h3, h4, hk id h1 h2 _ h5⟩
theorem append_own {P : Program} {ro : Ro} {h : T Obj} {v x : Value} {z nx lo hi : Nat} {t e : TypeId} {i : TypeInfo} {zv : Value} {l m : List (List Value)} (ho : Own h v z e l lo hi) (hx : Sl ro h x z m) (hu : und P t = some (.slice e)) (hi' : tin P e = some i) (hz : i.size = z) (hz0 : 0 < z) (hzer : zer P e = some zv) (hzs : zv.cells.size = z)
    (hm : m ≠ []) (hok : m.flatten.all cellOk = true) (hb : (l.length + m.length) * i.bytes ≤ big) (hb2 : l.length + m.length ≤ big) (hlo : lo ≤ nx) (hnx : hi ≤ nx) :
    ∃ h', appendV P ro h nx #[t, t] [v, x] = some (.slice (some (own nx z)) (l ++ m).length (l ++ m).length, h', nx + 1) ∧ Own h' (.slice (some (own nx z)) (l ++ m).length (l ++ m).length) z e (l ++ m) lo (nx + 1) ∧
      (∀ k, (k < lo ∨ hi ≤ k) → k ≠ nx → h'.get k = h.get k) ∧ (∀ k, k ≠ nx → h'.get k = h.get k ∨ h'.get k = none) := by
  have hml : 0 < m.length := List.length_pos_iff.2 hm
  obtain ⟨a, capx, rfl, hcx, hsx, hzx, hxc⟩ : ∃ a cap, x = .slice (some a) m.length cap ∧ m.length ≤ cap ∧ (a.spot = none ∨ a.spot = some z) ∧ (∀ x ∈ m, x.length = z) ∧ cellsAt ro h a (m.length * z) = some m.flatten := by
    rcases hx with ⟨_, hx⟩ | hx
    · exact absurd hx hm
    · exact hx
  have hb1 : Nat.ble ((l.length + m.length) * i.bytes) big = true := Nat.ble_eq_true_of_le hb
  have hb2' : Nat.ble (l.length + m.length) big = true := Nat.ble_eq_true_of_le hb2
  have hb3 : Nat.blt 0 z = true := by simp [Nat.blt]; omega
  have hfull : Nat.ble (l.length + m.length) l.length = false := by
    cases hq : Nat.ble (l.length + m.length) l.length with
    | false => rfl
    | true => have := Nat.le_of_ble_eq_true hq; omega
  rcases ho with ⟨rfl, rfl⟩ | ⟨id, h1, h2, rfl, h4, h5⟩
  · refine ⟨h.upd nx (some (.cells m.flatten.toArray e)), ?_, .inr ⟨nx, hlo, by omega, by simp, by simpa using hzx, by rw [T.get_upd_same]; simp⟩, fun k _ hk => T.get_upd_ne _ _ hk, fun k hk => .inl (T.get_upd_ne _ _ hk)⟩
    simp only [List.length_nil] at hb1 hb2' hfull
    simp only [appendV, List.getElem?_toArray, List.getElem?_cons_zero, List.getElem?_cons_succ, hu, hi', Option.bind_some, srcV, hz, hxc, hfull, hzer, hb1, hb2', hb3, hzs, Nat.beq_refl, hok, oldV]
    simp
  · have hl := (flatten_part h4).1
    have hcl : cellsAt ro h ⟨id, 0, some z⟩ (l.length * z) = some l.flatten := by
      rw [cellsAt_own, h5, cellsIn_some]
      simp only [Option.bind_some]
      rw [if_pos (by rw [hl]; omega), List.drop_zero, List.take_of_length_le (by rw [hl]; omega)]
    refine ⟨(h.upd id none).upd nx (some (.cells (l.flatten ++ m.flatten).toArray e)), ?_, .inr ⟨nx, hlo, by omega, by simp, ?_, by rw [T.get_upd_same]; simp⟩, ?_, ?_⟩
    · simp only [appendV, List.getElem?_toArray, List.getElem?_cons_zero, List.getElem?_cons_succ, hu, hi', Option.bind_some, srcV, hz, hxc, hfull, hzer, hb1, hb2', hb3, hzs, Nat.beq_refl, hok, oldV, own, hcl]
      simp
    · intro x hx
      rcases List.mem_append.1 hx with hx | hx
      · exact h4 x hx
      · exact hzx x hx
    · intro k hk hne
      rw [T.get_upd_ne _ _ hne, T.get_upd_ne _ _ (by omega)]
    · intro k hne
      rw [T.get_upd_ne _ _ hne]
      by_cases e : k = id
      · subst e; right; rw [T.get_upd_same]
      · left; rw [T.get_upd_ne _ _ e]
end V
end Go.Proofs.Ytmmdcdjkmakgpaa

/- More steps: branches, slices of elements that are read as data, numbers.
   No condition. -/
set_option linter.unusedVariables false
set_option linter.unusedSimpArgs false
noncomputable section
namespace Go.Proofs.Ytmmdcdjkmakgpaa
namespace V
theorem condP_d {p : Prop} {dp : Decidable p} {A B : Prop} (h1 : p → A) (h2 : ¬ p → B) : condP (.bool (@decide p dp)) A B := by
  by_cases hp : p
  · rw [decide_eq_true hp]; exact h1 hp
  · rw [decide_eq_false hp]; exact h2 hp
theorem condP_nd {p : Prop} {dp : Decidable p} {A B : Prop} (h1 : ¬ p → A) (h2 : p → B) : condP (.bool (!(@decide p dp))) A B := by
  by_cases hp : p
  · rw [decide_eq_true hp]; exact h2 hp
  · rw [decide_eq_false hp]; exact h1 hp
/-- A result that is a bool. -/
theorem kb {K : KV} {h : T Obj} {nx n : Nat} {b c : Bool} (hK : ∀ n, nx ≤ n → K (.bool b) h n) (e : b = c) (hn : nx ≤ n) : K (.bool c) h n := by subst e; exact hK n hn
theorem ki {K : KV} {h : T Obj} {nx n : Nat} {k : IntKind} {b c : Int} (hK : ∀ n, nx ≤ n → K (.int k b) h n) (e : b = c) (hn : nx ≤ n) : K (.int k c) h n := by subst e; exact hK n hn
theorem at_put_ne (e : Env) {d i : Nat} (v : Value) (h : Nat.beq i d = false) : e.put d v i = e i := by unfold Env.put; rw [h]
/-! ### Comparisons, by what they come to -/
section
variable {k : IntKind} {a b : Int} {K : Value → Prop}
theorem lss_t (h : a < b) (hk : K (.bool true)) : bindP (intB .lss (.int k a) (.int k b)) K := by rw [intB_lss, decide_eq_true h]; exact hk
theorem lss_f (h : b ≤ a) (hk : K (.bool false)) : bindP (intB .lss (.int k a) (.int k b)) K := by rw [intB_lss, decide_eq_false (by omega)]; exact hk
theorem lss_s (h1 : a < b → K (.bool true)) (h2 : b ≤ a → K (.bool false)) : bindP (intB .lss (.int k a) (.int k b)) K := by
  by_cases h : a < b
  · exact lss_t h (h1 h)
  · exact lss_f (by omega) (h2 (by omega))
theorem leq_t (h : a ≤ b) (hk : K (.bool true)) : bindP (intB .leq (.int k a) (.int k b)) K := by rw [intB_leq, decide_eq_true h]; exact hk
theorem leq_f (h : b < a) (hk : K (.bool false)) : bindP (intB .leq (.int k a) (.int k b)) K := by rw [intB_leq, decide_eq_false (by omega)]; exact hk
theorem leq_s (h1 : a ≤ b → K (.bool true)) (h2 : b < a → K (.bool false)) : bindP (intB .leq (.int k a) (.int k b)) K := by
  by_cases h : a ≤ b
  · exact leq_t h (h1 h)
  · exact leq_f (by omega) (h2 (by omega))
theorem gtr_t (h : b < a) (hk : K (.bool true)) : bindP (intB .gtr (.int k a) (.int k b)) K := by rw [intB_gtr, decide_eq_true h]; exact hk
theorem gtr_f (h : a ≤ b) (hk : K (.bool false)) : bindP (intB .gtr (.int k a) (.int k b)) K := by rw [intB_gtr, decide_eq_false (by omega)]; exact hk
theorem gtr_s (h1 : b < a → K (.bool true)) (h2 : a ≤ b → K (.bool false)) : bindP (intB .gtr (.int k a) (.int k b)) K := by
  by_cases h : b < a
  · exact gtr_t h (h1 h)
  · exact gtr_f (by omega) (h2 (by omega))
theorem geq_t (h : b ≤ a) (hk : K (.bool true)) : bindP (intB .geq (.int k a) (.int k b)) K := by rw [intB_geq, decide_eq_true h]; exact hk
theorem geq_f (h : a < b) (hk : K (.bool false)) : bindP (intB .geq (.int k a) (.int k b)) K := by rw [intB_geq, decide_eq_false (by omega)]; exact hk
theorem geq_s (h1 : b ≤ a → K (.bool true)) (h2 : a < b → K (.bool false)) : bindP (intB .geq (.int k a) (.int k b)) K := by
  by_cases h : b ≤ a
  · exact geq_t h (h1 h)
  · exact geq_f (by omega) (h2 (by omega))
theorem eql_t (h : a = b) (hk : K (.bool true)) : bindP (intB .eql (.int k a) (.int k b)) K := by rw [intB_eql, decide_eq_true h]; exact hk
theorem eql_f (h : a ≠ b) (hk : K (.bool false)) : bindP (intB .eql (.int k a) (.int k b)) K := by rw [intB_eql, decide_eq_false h]; exact hk
theorem eql_s (h1 : a = b → K (.bool true)) (h2 : a ≠ b → K (.bool false)) : bindP (intB .eql (.int k a) (.int k b)) K := by
  by_cases h : a = b
  · exact eql_t h (h1 h)
  · exact eql_f h (h2 h)
theorem neq_t (h : a ≠ b) (hk : K (.bool true)) : bindP (intB .neq (.int k a) (.int k b)) K := by rw [intB_neq, decide_eq_false h]; exact hk
theorem neq_f (h : a = b) (hk : K (.bool false)) : bindP (intB .neq (.int k a) (.int k b)) K := by rw [intB_neq, decide_eq_true h]; exact hk
theorem neq_s (h1 : a ≠ b → K (.bool true)) (h2 : a = b → K (.bool false)) : bindP (intB .neq (.int k a) (.int k b)) K := by
  by_cases h : a = b
  · exact neq_f h (h2 h)
  · exact neq_t h (h1 h)
end
/-! ### Slices of elements that are read as data -/
theorem load1_sub {ro : Ro} {h h' : T Obj} {p v : Value} (hs : Sub h h') (hl : load1 ro h p = some v) : load1 ro h' p = some v := by
  unfold V.load1 at hl ⊢
  obtain ⟨ad, y1, y2⟩ := bind_some' hl
  rw [y1, Option.bind_some]
  cases hc : cellsAt ro h ad 1 with
  | none => rw [hc] at y2; cases y2
  | some l => rw [hc] at y2; rw [cellsAt_sub hs hc]; exact y2
theorem loadA_sub {ro : Ro} {h h' : T Obj} {p v : Value} {n : Nat} (hs : Sub h h') (hl : loadA ro h n p = some v) : loadA ro h' n p = some v := by
  unfold V.loadA at hl ⊢
  obtain ⟨ad, y1, y2⟩ := bind_some' hl
  obtain ⟨l9, y3, y4⟩ := bind_some' y2
  rw [y1, Option.bind_some, cellsAt_sub hs y3, Option.bind_some, y4]
def intsZ (l : List Int) : List (List Value) := l.map fun b : Int => [Value.int .i64 b]
theorem intsZ_len (l : List Int) : (intsZ l).length = l.length := by simp [intsZ]
theorem intsZ_get {l : List Int} {i : Nat} (hi : i < l.length) : (intsZ l)[i]? = some [.int .i64 l[i]] := by simp [intsZ, hi]
/-- A slice of ints. -/
def ZI (ro : Ro) (h : T Obj) (v : Value) (l : List Int) : Prop := Sl ro h v 1 (intsZ l)
section
variable {ro : Ro} {h h' : T Obj} {v : Value} {l : List Int}
theorem ZI.sub (hs : Sub h h') (hl : ZI ro h v l) : ZI ro h' v l := Sl.sub hs hl
theorem ZI.len (hl : ZI ro h v l) : lenSl v = some (.int .i64 l.length) := by have := Sl.len hl; rwa [intsZ_len] at this
theorem ZI.ix (hl : ZI ro h v l) (k : IntKind) {i : Nat} (hi : i < l.length) : ixSl 1 v (.int k (i : Int)) = some (elPtr 1 v i) := Sl.ix hl k (by rw [intsZ_len]; exact hi)
theorem ZI.ixI (hl : ZI ro h v l) (k : IntKind) {i : Int} (h0 : 0 ≤ i) (hi : i < l.length) : ixSl 1 v (.int k i) = some (elPtr 1 v i.toNat) := by
  have := hl.ix k (i := i.toNat) (by omega)
  rwa [Int.toNat_of_nonneg h0] at this
theorem ZI.load (hl : ZI ro h v l) {i : Nat} (hi : i < l.length) : load1 ro h (elPtr 1 v i) = some (.int .i64 l[i]) := Sl.load1 hl (intsZ_get hi)
end
theorem ZI.load' {ro : Ro} {h : T Obj} {v : Value} {l : List Int} (hl : ZI ro h v l) {i : Nat} {x : Int} (hx : l[i]? = some x) : load1 ro h (elPtr 1 v i) = some (.int .i64 x) := by
  obtain ⟨hi, he⟩ := List.getElem?_eq_some_iff.1 hx
  rw [hl.load hi, he]
theorem Sl.ok {ro : Ro} {h : T Obj} {v : Value} {z : Nat} {cs : List (List Value)} (hl : Sl ro h v z cs) : cellOk v = true := by
  rcases hl with ⟨rfl, _⟩ | ⟨a, cap, rfl, _⟩ <;> rfl
theorem ZI.ok {ro : Ro} {h : T Obj} {v : Value} {l : List Int} (hl : ZI ro h v l) : cellOk v = true := Sl.ok hl
theorem ne_len {α : Type} {l : List α} (h : (l.length : Int) ≠ 0) : l.isEmpty = false := by
  cases l with
  | nil => exact absurd rfl h
  | cons _ _ => rfl
theorem eq_len {α : Type} {l : List α} (h : (l.length : Int) = 0) : l = [] := List.eq_nil_iff_length_eq_zero.2 (by omega)
theorem drop_cons {α : Type} {l : List α} {k : Nat} (hk : k < l.length) : l.drop k = l[k] :: l.drop (k + 1) := List.drop_eq_getElem_cons hk
theorem drop_all {α : Type} {l : List α} {k : Nat} (hk : l.length ≤ k) : l.drop k = [] := List.drop_eq_nil_of_le hk
/-- A place within a slice's element. -/
def elPtrK (z : Nat) (v : Value) (i k : Nat) : Value := match v with
  | .slice (some a) _ _ => .pointer (some (elt a (i * z + k)))
  | _ => undef
/-- A slice of elements, each read as data. -/
def SlR {D : Type} (ro : Ro) (h : T Obj) (v : Value) (z : Nat) (R : List Value → D → Prop) (l : List D) : Prop := ∃ cs, Sl ro h v z cs ∧ cs.length = l.length ∧ ∀ (i : Nat) x d, cs[i]? = some x → l[i]? = some d → R x d
section
variable {D : Type} {ro : Ro} {h h' : T Obj} {v : Value} {z : Nat} {R R' : List Value → D → Prop} {l : List D}
theorem SlR.imp (hl : SlR ro h v z R l) (hR : ∀ x d, R x d → R' x d) : SlR ro h v z R' l := by
  obtain ⟨cs, h1, h2, h3⟩ := hl
  exact ⟨cs, h1, h2, fun i x d hx hd => hR _ _ (h3 i x d hx hd)⟩
theorem SlR.sub (hs : Sub h h') (hR : ∀ x d, R x d → R' x d) (hl : SlR ro h v z R l) : SlR ro h' v z R' l := by
  obtain ⟨cs, h1, h2, h3⟩ := hl
  exact ⟨cs, h1.sub hs, h2, fun i x d hx hd => hR _ _ (h3 i x d hx hd)⟩
theorem SlR.nil : SlR ro h (.slice none 0 0) z R ([] : List D) := ⟨[], Sl.nil, rfl, fun i x d hx => by simp at hx⟩
theorem SlR.len (hl : SlR ro h v z R l) : lenSl v = some (.int .i64 l.length) := by
  obtain ⟨cs, h1, h2, h3⟩ := hl
  have := h1.len
  rwa [h2] at this
theorem SlR.ix (hl : SlR ro h v z R l) (k : IntKind) {i : Nat} (hi : i < l.length) : ixSl z v (.int k (i : Int)) = some (elPtr z v i) := by
  obtain ⟨cs, h1, h2, h3⟩ := hl
  exact h1.ix k (by omega)
theorem SlR.ixI (hl : SlR ro h v z R l) (k : IntKind) {i : Int} (h0 : 0 ≤ i) (hi : i < l.length) : ixSl z v (.int k i) = some (elPtr z v i.toNat) := by
  have := hl.ix k (i := i.toNat) (by omega)
  rwa [Int.toNat_of_nonneg h0] at this
theorem elt_elt (a : Addr) (i j : Nat) : fwd (elt a i) j = elt a (i + j) := by
  obtain ⟨b, o, s⟩ := a
  cases s <;> simp [fwd, elt, Nat.add_assoc]
theorem Sl.fwd {cs : List (List Value)} (hl : Sl ro h v z cs) {i : Nat} (hi : i < cs.length) (k : Nat) : fwdP k (elPtr z v i) = some (elPtrK z v i k) := by
  rcases hl with ⟨rfl, rfl⟩ | ⟨a, cap, rfl, h2, h3, h4⟩
  · simp at hi
  · simp only [fwdP, elPtr, asP, Option.bind, elPtrK, elt_elt]
theorem Sl.load1K {cs : List (List Value)} (hl : Sl ro h v z cs) {i k : Nat} {x : List Value} {w : Value} (hx : cs[i]? = some x) (hk : x[k]? = some w) : V.load1 ro h (elPtrK z v i k) = some w := by
  rcases hl with ⟨rfl, rfl⟩ | ⟨a, cap, rfl, h2, h3, h4⟩
  · simp at hx
  · have h5 := (Sl.at h4.1 h4.2 i _ hx)
    have hkl := (List.getElem?_eq_some_iff.1 hk).1
    have hi := (List.getElem?_eq_some_iff.1 hx).1
    have h6 : i * z + k + 1 ≤ cs.length * z := by
      have : i * z + z ≤ cs.length * z := by rw [← Nat.succ_mul]; exact Nat.mul_le_mul_right _ hi
      omega
    have h7 := cellsAt_part h4.2 (off := i * z + k) (k := 1) h6
    have h8 := (flatten_part h4.1).2 i x hx
    have h9 : (cs.flatten.drop (i * z + k)).take 1 = [w] := by
      have : (cs.flatten.drop (i * z + k))[0]? = some w := by
        rw [← h8] at hk
        rw [List.getElem?_take, if_pos (by omega), List.getElem?_drop] at hk
        rw [List.getElem?_drop]; simpa using hk
      have h10 := take_drop_one (l := cs.flatten.drop (i * z + k)) (off := 0) this
      simpa using h10
    rw [h9] at h7
    simp only [V.load1, elPtrK, asP, Option.bind, h7]
/-- What an element of a slice is. -/
theorem SlR.at (hl : SlR ro h v z R l) {i : Nat} (hi : i < l.length) : ∃ x, R x l[i] ∧ x.length = z ∧ V.loadA ro h z (elPtr z v i) = some (.agg x.toArray) ∧ (∀ k, fwdP k (elPtr z v i) = some (elPtrK z v i k)) ∧ ∀ k w, x[k]? = some w → V.load1 ro h (elPtrK z v i k) = some w := by
  obtain ⟨cs, h1, h2, h3⟩ := hl
  have hx : cs[i]? = some (cs[i]'(by omega)) := List.getElem?_eq_getElem _
  refine ⟨_, h3 i _ _ hx (List.getElem?_eq_getElem hi), ?_, h1.loadA hx, fun k => h1.fwd (by omega) k, fun k w hk => h1.load1K hx hk⟩
  rcases h1 with ⟨rfl, rfl⟩ | ⟨a, cap, rfl, g2, g3, g4⟩
  · simp at hx
  · exact g4.1 _ (List.getElem_mem _)
/-- A slice whose elements are one cell each. -/
theorem SlR.at1 (hl : SlR ro h v 1 R l) {i : Nat} (hi : i < l.length) : ∃ w, R [w] l[i] ∧ V.load1 ro h (elPtr 1 v i) = some w := by
  obtain ⟨cs, h1, h2, h3⟩ := hl
  have hx : cs[i]? = some (cs[i]'(by omega)) := List.getElem?_eq_getElem _
  have hz : (cs[i]'(by omega)).length = 1 := by
    rcases h1 with ⟨rfl, rfl⟩ | ⟨a, cap, rfl, g2, g3, g4⟩
    · simp at hx
    · exact g4.1 _ (List.getElem_mem _)
  generalize cs[i]'(by omega) = x at hx hz
  match x, hz with
  | [w], _ => exact ⟨w, h3 i _ _ hx (List.getElem?_eq_getElem hi), h1.load1 hx⟩
end
theorem Sl.loadAK {ro : Ro} {h : T Obj} {v : Value} {z : Nat} {cs : List (List Value)} (hl : Sl ro h v z cs) {i k m : Nat} {x : List Value} (hx : cs[i]? = some x) (hk : k + m ≤ x.length) : V.loadA ro h m (elPtrK z v i k) = some (.agg ((x.drop k).take m).toArray) := by
  rcases hl with ⟨rfl, rfl⟩ | ⟨a, cap, rfl, h2, h3, h4⟩
  · simp at hx
  · have h5 := (Sl.at h4.1 h4.2 i _ hx)
    have hi := (List.getElem?_eq_some_iff.1 hx).1
    have h6 : i * z + k + m ≤ cs.length * z := by
      have : i * z + z ≤ cs.length * z := by rw [← Nat.succ_mul]; exact Nat.mul_le_mul_right _ hi
      omega
    have h7 := cellsAt_part h4.2 (off := i * z + k) (k := m) h6
    have h8 := (flatten_part h4.1).2 i x hx
    have h9 : (cs.flatten.drop (i * z + k)).take m = (x.drop k).take m := by
      rw [← h8, List.drop_take, List.take_take, List.drop_drop, Nat.min_eq_left (by omega)]
    rw [h9] at h7
    simp only [V.loadA, elPtrK, asP, Option.bind, h7]
theorem SlR.loadAK {D : Type} {ro : Ro} {h : T Obj} {v : Value} {z : Nat} {R : List Value → D → Prop} {l : List D} (hl : SlR ro h v z R l) {i : Nat} (hi : i < l.length) : ∃ x, R x l[i] ∧ ∀ k m, k + m ≤ x.length → V.loadA ro h m (elPtrK z v i k) = some (.agg ((x.drop k).take m).toArray) := by
  obtain ⟨cs, h1, h2, h3⟩ := hl
  have hx : cs[i]? = some (cs[i]'(by omega)) := List.getElem?_eq_getElem _
  exact ⟨_, h3 i _ _ hx (List.getElem?_eq_getElem hi), fun k m hk => h1.loadAK hx hk⟩
/-- Loads of elements are untouched by what only adds. -/
theorem SlR.same {D : Type} {ro : Ro} {h h' : T Obj} {v : Value} {z : Nat} {R : List Value → D → Prop} {l : List D} (hl : SlR ro h v z R l) (hs : Sub h h') {i : Nat} (hi : i < l.length) : sameV (elPtr z v i) h h' := by
  obtain ⟨cs, h1, h2, h3⟩ := hl
  exact h1.same hs (by omega)
/-! ### Blocks of variables -/
theorem param_mk {h : T Obj} {nx m : Nat} {v : Value} {ty : TypeId} {K : T Obj → Prop} (hf : Fr h m) (hm : m ≤ nx) (hK : ∀ h', Sub h h' → Fr h' (nx + 1) → h'.get nx = some (.cells (Value.cells v) ty) → (∀ k, k ≠ nx → h'.get k = h.get k) → K h') : newP h nx (.cells (Value.cells v) ty) K :=
  newP_mk (hK _ ((Sub.refl h).new hf hm) ((hf.mono (show m ≤ nx + 1 by omega)).upd (Nat.le_refl _) (by omega)) (by rw [T.get_upd_same]) fun k hk => T.get_upd_ne _ _ hk)
theorem obj_mk {h : T Obj} {nx m : Nat} {o : Obj} {K : T Obj → Prop} (hf : Fr h m) (hm : m ≤ nx) (hK : ∀ h', Sub h h' → Fr h' (nx + 1) → h'.get nx = some o → (∀ k, k ≠ nx → h'.get k = h.get k) → K h') : newP h nx o K :=
  newP_mk (hK _ ((Sub.refl h).new hf hm) ((hf.mono (show m ≤ nx + 1 by omega)).upd (Nat.le_refl _) (by omega)) (by rw [T.get_upd_same]) fun k hk => T.get_upd_ne _ _ hk)
theorem local_mk {P : Program} {h : T Obj} {a m n : Nat} {ty : TypeId} {zv v : Value} {x : List Value} {K : T Obj → Prop} (hz : zer P ty = some zv) (hzs : zv.cells.size = n) (hv : v.cells = x.toArray) (hx : x.length = n) (hok : x.all cellOk = true) (hf : Fr h m) (hm : m ≤ a)
    (hK : ∀ h', Sub h h' → Fr h' (a + 1) → h'.get a = some (.cells x.toArray ty) → (∀ k, k ≠ a → h'.get k = h.get k) → K h') :
    bindP (zer P ty) fun z => newP h a (.cells z.cells ty) fun h1 => bindP (storeN n h1 (ptr a) v) K := by
  refine bindP_mk hz (newP_mk (bindP_mk (storeA_own (l := zv.cells.toList) (vs := x) (e := ty) (f := (0, 0)) (by rw [T.get_upd_same]) hv hx (by simpa using hzs) hok) ?_))
  refine hK _ (((Sub.refl h).new hf hm).new hf hm) (((hf.mono (show m ≤ a + 1 by omega)).upd (Nat.le_refl _) (by omega)).upd (Nat.le_refl _) (by omega)) (by rw [T.get_upd_same]) fun k hk => ?_
  rw [T.get_upd_ne _ _ hk, T.get_upd_ne _ _ hk]
/-! ### The steps' words, all at once (for simp) -/
theorem BB : (∀ (h : T Obj) (i : Nat) (o : Obj) (K : T Obj → Prop), newP h i o K = K (h.upd i (some o))) ∧
    (∀ (h : T Obj) (i : Nat) (o : Obj) (K : T Obj → Prop), optP h i (some o) K = K (h.upd i (some o))) ∧
    (∀ (h : T Obj) (i : Nat) (K : T Obj → Prop), optP h i none K = K h) ∧
    (∀ {α : Type} (a : α) (K : α → Prop), bindP (some a) K = K a) ∧
    (∀ (A B : Prop), condP (.bool true) A B = A) ∧
    (∀ (A B : Prop), condP (.bool false) A B = B) ∧
    (∀ (h : T Obj) (nx : Nat) (A : KV → Prop) (K : KV), ifP (.bool true) true h nx A K = A K) ∧
    (∀ (h : T Obj) (nx : Nat) (A : KV → Prop) (K : KV), ifP (.bool false) false h nx A K = A K) ∧
    (∀ (h : T Obj) (nx : Nat) (A : KV → Prop) (K : KV), ifP (.bool true) false h nx A K = K undef h nx) ∧
    (∀ (h : T Obj) (nx : Nat) (A : KV → Prop) (K : KV), ifP (.bool false) true h nx A K = K undef h nx) ∧
    (∀ (A : Prop) (B : Nat → Prop) (D : Prop), exP .normal A B D = A) ∧
    (∀ (i : Nat) (A : Prop) (B : Nat → Prop) (D : Prop), exP (.exit i) A B D = B i) ∧
    (∀ (A : Prop) (B : Nat → Prop) (D : Prop), exP .ret A B D = D) ∧
    (∀ (A B : Prop), beqP true A B = A) ∧
    (∀ (A B : Prop), beqP false A B = B) ∧
    (∀ (cs : Array Value), Value.cells (.agg cs) = cs) ∧
    (∀ (k : IntKind) (n : Int), Value.cells (.int k n) = #[.int k n]) ∧
    (∀ (b : Bool), Value.cells (.bool b) = #[.bool b]) ∧
    (∀ (k : IntKind) (a b : Int), intB .add (.int k a) (.int k b) = some (.int k (wr k (a + b)))) ∧
    (∀ (k : IntKind) (a b : Int), intB .sub (.int k a) (.int k b) = some (.int k (wr k (a - b)))) ∧
    (∀ (k : IntKind) (a b : Int), intB .mul (.int k a) (.int k b) = some (.int k (wr k (a * b)))) ∧
    (∀ (k : IntKind) {a b : Int} (ha : 0 ≤ a) (hb : 0 < b), intB .quo (.int k a) (.int k b) = some (.int k (wr k (a / b)))) ∧
    (∀ (k : IntKind) {a b : Int} (ha : 0 ≤ a) (hb : 0 < b), intB .rem (.int k a) (.int k b) = some (.int k (a % b))) ∧
    (∀ (k' : IntKind) (a : Nat) {b : Int} (hb : 0 ≤ b) (hk : b ≤ 64), intB .shr (.int .u64 (a : Int)) (.int k' b) = some (.int .u64 ((a / 2 ^ b.toNat : Nat) : Int))) ∧
    (∀ (k' : IntKind) {b : Int} (hb : 0 ≤ b) (hk : b < 64), intB .shl (.int .u64 1) (.int k' b) = some (.int .u64 ((2 ^ b.toNat : Nat) : Int))) ∧
    (∀ {a b : Int} (ha : 0 ≤ a) (hb : 0 ≤ b) (ha' : a ≤ 18446744073709551615) (hb' : b ≤ 18446744073709551615), intB .and (.int .u64 a) (.int .u64 b) = some (.int .u64 (Nat.land a.toNat b.toNat : Nat))) ∧
    (∀ {a b : Int} (ha : 0 ≤ a) (hb : 0 ≤ b) (ha' : a ≤ 18446744073709551615) (hb' : b ≤ 18446744073709551615), intB .or (.int .u64 a) (.int .u64 b) = some (.int .u64 (Nat.lor a.toNat b.toNat : Nat))) ∧
    (∀ {a b : Int} (ha : 0 ≤ a) (hb : 0 ≤ b) (ha' : a ≤ 18446744073709551615) (hb' : b ≤ 18446744073709551615), intB .xor (.int .u64 a) (.int .u64 b) = some (.int .u64 (Nat.xor a.toNat b.toNat : Nat))) ∧
    (∀ {n : Int} (h1 : -9223372036854775808 ≤ n) (h2 : n ≤ 9223372036854775807), wr .i64 n = n) ∧
    (∀ {n : Int} (h1 : 0 ≤ n) (h2 : n ≤ 255), wr .u8 n = n) ∧
    (∀ {n : Int} (h1 : 0 ≤ n) (h2 : n ≤ 18446744073709551615), wr .u64 n = n) ∧
    (∀ (k k' : IntKind) (n : Int), convI k (.int k' n) = some (.int k (wr k n))) ∧
    (∀ (b : Bool), unV .not (.bool b) = some (.bool (!b))) ∧
    (∀ (a b : Bool), boolB .eql (.bool a) (.bool b) = some (.bool (a == b))) ∧
    (∀ (a b : Bool), boolB .neq (.bool a) (.bool b) = some (.bool (!(a == b)))) ∧
    (∀ (a b : Value), pickV (.bool true) a b = some a) ∧
    (∀ (a b : Value), pickV (.bool false) a b = some b) ∧
    (∀ (a : Option Addr) (n c : Nat), lenSl (.slice a n c) = some (.int .i64 n)) ∧
    (∀ (id : Nat), ptr id = at_ id 0 0) ∧
    (∀ (k id off z : Nat), fwdP k (at_ id off z) = some (at_ id (off + k) z)) ∧
    (∀ (n z id off y : Nat) (k : IntKind) {i : Int} (h0 : 0 ≤ i) (h1 : i < n), ixArr n z (at_ id off y) (.int k i) = some (at_ id (off + i.toNat * z) y)) ∧
    (∀ (ro : Ro) (h : T Obj) (id off z : Nat), load1 ro h (at_ id off z) = (cellsIn (h.get id)).bind fun c => c[off]?) ∧
    (∀ (ro : Ro) (h : T Obj) (n id off z : Nat), loadA ro h n (at_ id off z) = (cellsIn (h.get id)).bind fun c => if off + n ≤ c.length then some (.agg ((c.drop off).take n).toArray) else none) ∧
    (∀ (n : Nat) (h : T Obj) (id off z : Nat) (v : Value), storeN n h (at_ id off z) v = if v.cells.size = n then (putIn (h.get id) off v.cells.toList).bind (fun o => some (h.upd id (some o))) else none) ∧
    (∀ (c : Array Value) (e : TypeId) (f : Nat × Nat), cellsIn (some (.cells c e f)) = some c.toList) ∧
    (∀ {c : Array Value} {e : TypeId} {f : Nat × Nat} {off : Nat} {vs : List Value} (h1 : off + vs.length ≤ c.size) (h2 : vs.all cellOk = true), putIn (some (.cells c e f)) off vs = some (.cells (over c.toList off vs).toArray e f)) ∧
    (∀ (l : List Value), l.toArray.toList = l) ∧
    (∀ (l : List Value), l.toArray.size = l.length) :=
  ⟨@newP_eq, @optP_some, @optP_none, @bindP_some', @condP_true, @condP_false, @ifP_tt, @ifP_ff, @ifP_tf, @ifP_ft, @exP_normal, @exP_exit, @exP_ret, @beqP_true, @beqP_false, @Value.cells_agg, @cells_int, @cells_bool, @intB_add, @intB_sub, @intB_mul, @intB_quo, @intB_rem, @intB_shr_u64, @intB_shl1_u64, @intB_and64, @intB_or64, @intB_xor64, @wr_i64, @wr_u8, @wr_u64, @convI_int, @unV_not, @boolB_eql, @boolB_neq, @pickV_true, @pickV_false, @lenSl_slice, @ptr_at, @fwdP_at, @ixArr_at, @load1_own, @loadA_own, @storeN_own, @cellsIn_some, @putIn_cells, @tl, @ts⟩
/-- Of Lean's own: what steps are simplified by. -/
theorem B2 : (∀ (h : Decidable True), @decide True h = true) ∧ (∀ (h : Decidable False), @decide False h = false) ∧ ((!true) = false) ∧ ((!false) = true) ∧
    (∀ {α β : Type} (a : α) (f : α → Option β), (some a).bind f = f a) ∧ (∀ {α : Type} (t : T α) (k : Nat) (o : Option α), (t.upd k o).get k = o) ∧ (∀ {α : Type} (t : T α) {k i : Nat} (o : Option α), i ≠ k → (t.upd k o).get i = t.get i) ∧
    (∀ {α : Type} {c : Prop} {h : Decidable c} {a b : α}, c → @ite α c h a b = a) ∧ (∀ n : Nat, 0 + n = n) ∧ (∀ n : Nat, n * 1 = n) ∧ (∀ n : Nat, n + 0 = n) ∧ (∀ n : Nat, (n : Int).toNat = n) ∧ (∀ n : Nat, n ≤ n) :=
  ⟨fun _ => decide_true .., fun _ => decide_false .., rfl, rfl, fun _ _ => rfl, T.get_upd_same, fun t _ _ o h => T.get_upd_ne t o h, fun h => if_pos h, Nat.zero_add, Nat.mul_one, fun _ => rfl, fun _ => rfl, Nat.le_refl⟩
/-- Comparisons, by what they come to. -/
theorem CC : (∀ {k : IntKind} {a b : Int}, a < b → intB .lss (.int k a) (.int k b) = some (.bool true)) ∧ (∀ {k : IntKind} {a b : Int}, b ≤ a → intB .lss (.int k a) (.int k b) = some (.bool false)) ∧
    (∀ {k : IntKind} {a b : Int}, a ≤ b → intB .leq (.int k a) (.int k b) = some (.bool true)) ∧ (∀ {k : IntKind} {a b : Int}, b < a → intB .leq (.int k a) (.int k b) = some (.bool false)) ∧
    (∀ {k : IntKind} {a b : Int}, b < a → intB .gtr (.int k a) (.int k b) = some (.bool true)) ∧ (∀ {k : IntKind} {a b : Int}, a ≤ b → intB .gtr (.int k a) (.int k b) = some (.bool false)) ∧
    (∀ {k : IntKind} {a b : Int}, b ≤ a → intB .geq (.int k a) (.int k b) = some (.bool true)) ∧ (∀ {k : IntKind} {a b : Int}, a < b → intB .geq (.int k a) (.int k b) = some (.bool false)) ∧
    (∀ {k : IntKind} {a b : Int}, a = b → intB .eql (.int k a) (.int k b) = some (.bool true)) ∧ (∀ {k : IntKind} {a b : Int}, a ≠ b → intB .eql (.int k a) (.int k b) = some (.bool false)) ∧
    (∀ {k : IntKind} {a b : Int}, a ≠ b → intB .neq (.int k a) (.int k b) = some (.bool true)) ∧ (∀ {k : IntKind} {a b : Int}, a = b → intB .neq (.int k a) (.int k b) = some (.bool false)) := by
  refine ⟨?_, ?_, ?_, ?_, ?_, ?_, ?_, ?_, ?_, ?_, ?_, ?_⟩ <;> intro k a b h
  · rw [intB_lss, decide_eq_true h]
  · rw [intB_lss, decide_eq_false (by omega)]
  · rw [intB_leq, decide_eq_true h]
  · rw [intB_leq, decide_eq_false (by omega)]
  · rw [intB_gtr, decide_eq_true h]
  · rw [intB_gtr, decide_eq_false (by omega)]
  · rw [intB_geq, decide_eq_true h]
  · rw [intB_geq, decide_eq_false (by omega)]
  · rw [intB_eql, decide_eq_true h]
  · rw [intB_eql, decide_eq_false h]
  · rw [intB_neq, decide_eq_false h]; rfl
  · rw [intB_neq, decide_eq_true h]; rfl
end V
end Go.Proofs.Ytmmdcdjkmakgpaa

/- Slices of one's own, to which may be appended: what stays.
   No condition. -/
set_option linter.unusedVariables false
set_option linter.unusedSimpArgs false
noncomputable section
namespace Go.Proofs.Ytmmdcdjkmakgpaa
namespace V
/-- The block that a slice leads to. -/
def sblk : Value → Option Nat
  | .slice (some a) _ _ => some a.block
  | _ => none
/-- A slice of one's own (its block no less than lo). -/
def OwnT (h : T Obj) (v : Value) (z : Nat) (e : TypeId) (l : List (List Value)) (lo : Nat) : Prop :=
  (v = .slice none 0 0 ∧ l = []) ∨ ∃ id, lo ≤ id ∧ v = .slice (some (own id z)) l.length l.length ∧ (∀ x ∈ l, x.length = z) ∧ h.get id = some (.cells l.flatten.toArray e)
theorem OwnT.nil {h : T Obj} {z : Nat} {e : TypeId} {lo : Nat} : OwnT h (.slice none 0 0) z e [] lo := .inl ⟨rfl, rfl⟩
theorem OwnT.mono {h : T Obj} {v : Value} {z : Nat} {e : TypeId} {l : List (List Value)} {lo lo' : Nat} (ho : OwnT h v z e l lo) (hl : lo' ≤ lo) : OwnT h v z e l lo' := by
  rcases ho with ho | ⟨id, h1, h2⟩
  · exact .inl ho
  · exact .inr ⟨id, by omega, h2⟩
theorem OwnT.sl {ro : Ro} {h : T Obj} {v : Value} {z : Nat} {e : TypeId} {l : List (List Value)} {lo : Nat} (ho : OwnT h v z e l lo) : Sl ro h v z l := by
  rcases ho with ho | ⟨id, _, rfl, h4, h5⟩
  · exact .inl ho
  · exact Sl.own h5 h4 (Nat.le_refl _)
/-- All is as it was, but what a slice leads to. -/
def Kp (v : Value) (h h' : T Obj) : Prop := ∀ k o, h.get k = some o → sblk v ≠ some k → h'.get k = some o
theorem Sub.kp {v : Value} {h h' : T Obj} (hs : Sub h h') : Kp v h h' := fun k o hk _ => hs k o hk
theorem Kp.trans {v : Value} {a b c : T Obj} (h1 : Kp v a b) (h2 : Sub b c) : Kp v a c := fun k o hk hv => h2 k o (h1 k o hk hv)
theorem OwnT.keep {h h' : T Obj} {v w : Value} {z : Nat} {e : TypeId} {l : List (List Value)} {lo : Nat} (ho : OwnT h v z e l lo) (hk : Kp w h h') (hne : ∀ id, sblk v = some id → sblk w ≠ some id) : OwnT h' v z e l lo := by
  rcases ho with ho | ⟨id, h1, rfl, h4, h5⟩
  · exact .inl ho
  · exact .inr ⟨id, h1, rfl, h4, hk id _ h5 (hne id rfl)⟩
theorem OwnT.keepS {h h' : T Obj} {v : Value} {z : Nat} {e : TypeId} {l : List (List Value)} {lo : Nat} (ho : OwnT h v z e l lo) (hk : Sub h h') : OwnT h' v z e l lo := by
  rcases ho with ho | ⟨id, h1, rfl, h4, h5⟩
  · exact .inl ho
  · exact .inr ⟨id, h1, rfl, h4, hk id _ h5⟩
/-- Of another kind of element: another block. -/
theorem OwnT.ne {h : T Obj} {v : Value} {z : Nat} {e e' : TypeId} {l : List (List Value)} {lo k : Nat} {c : Array Value} {f : Nat × Nat} (ho : OwnT h v z e l lo) (hk : h.get k = some (.cells c e' f)) (he : e' ≠ e) : sblk v ≠ some k := by
  rcases ho with ⟨rfl, _⟩ | ⟨id, _, rfl, _, h5⟩
  · intro h; cases h
  · intro h
    have : id = k := Option.some.inj h
    subst this
    rw [hk] at h5
    simp only [Option.some.injEq, Obj.cells.injEq] at h5
    exact he h5.2.1
theorem OwnT.lt {h : T Obj} {v : Value} {z : Nat} {e : TypeId} {l : List (List Value)} {lo k : Nat} (ho : OwnT h v z e l lo) (hk : k < lo) : sblk v ≠ some k := by
  rcases ho with ⟨rfl, _⟩ | ⟨id, h1, rfl, _, h5⟩
  · intro h; cases h
  · intro h
    have : id = k := Option.some.inj h
    omega
theorem Fr.lt' {h : T Obj} {n k : Nat} {o : Obj} (hf : Fr h n) (hk : h.get k = some o) : k < n := by
  rcases Nat.lt_or_ge k n with h1 | h1
  · exact h1
  · rw [hf k h1] at hk; cases hk
theorem OwnT.sub {h0 h h' : T Obj} {v : Value} {z : Nat} {e : TypeId} {l : List (List Value)} {lo n0 : Nat} (ho : OwnT h v z e l lo) (hk : Kp v h h') (hf : Fr h0 n0) (hn : n0 ≤ lo) (hs : Sub h0 h) : Sub h0 h' := fun k o hk0 => hk k o (hs k o hk0) (ho.lt (by have := hf.lt' hk0; omega))
theorem appendT {P : Program} {ro : Ro} {h : T Obj} {v x : Value} {z nx lo : Nat} {t e : TypeId} {i : TypeInfo} {zv : Value} {l m : List (List Value)} (ho : OwnT h v z e l lo) (hx : Sl ro h x z m) (hu : und P t = some (.slice e)) (hi' : tin P e = some i) (hz : i.size = z) (hz0 : 0 < z) (hzer : zer P e = some zv) (hzs : zv.cells.size = z)
    (hm : m ≠ []) (hok : m.flatten.all cellOk = true) (hb : (l.length + m.length) * i.bytes ≤ big) (hb2 : l.length + m.length ≤ big) (hlo : lo ≤ nx) (hf : Fr h nx) :
    ∃ h', appendV P ro h nx #[t, t] [v, x] = some (.slice (some (own nx z)) (l ++ m).length (l ++ m).length, h', nx + 1) ∧ OwnT h' (.slice (some (own nx z)) (l ++ m).length (l ++ m).length) z e (l ++ m) lo ∧ Kp v h h' ∧ Fr h' (nx + 1) ∧ (∀ k, k ≠ nx → h'.get k = h.get k ∨ h'.get k = none) := by
  have fin : ∀ h' : T Obj, (∀ k, k ≠ nx → h'.get k = h.get k ∨ h'.get k = none) → Fr h' (nx + 1) := fun h' h2 k hk => by
    rcases h2 k (by omega) with h3 | h3
    · rw [h3]; exact hf k (by omega)
    · exact h3
  rcases ho with ⟨rfl, rfl⟩ | ⟨id, h1, rfl, h4, h5⟩
  · obtain ⟨h', q1, q2, q3, q4⟩ := append_own (P := P) (t := t) (lo := nx) (hi := nx) (Own.nil (h := h) (z := z) (e := e)) hx hu hi' hz hz0 hzer hzs hm hok (by simpa using hb) (by simpa using hb2) (Nat.le_refl _) (Nat.le_refl _)
    refine ⟨h', q1, ?_, fun k o hk _ => ?_, fin h' q4, q4⟩
    · rcases q2 with ⟨h6, _⟩ | ⟨id, h6, h7, h8, h9, h10⟩
      · cases h6
      · exact .inr ⟨id, by omega, h8, h9, h10⟩
    · have := hf.lt' hk
      rw [q3 k (.inl this) (by omega)]; exact hk
  · have hid := hf.lt' h5
    obtain ⟨h', q1, q2, q3, q4⟩ := append_own (P := P) (t := t) (lo := id) (hi := id + 1) (.inr ⟨id, Nat.le_refl _, by omega, rfl, h4, h5⟩ : Own h _ z e l id (id + 1)) hx hu hi' hz hz0 hzer hzs hm hok hb hb2 (show id ≤ nx by omega) (by omega)
    refine ⟨h', q1, ?_, fun k o hk hne => ?_, fin h' q4, q4⟩
    · rcases q2 with ⟨h6, _⟩ | ⟨id2, h6, h7, h8, h9, h10⟩
      · cases h6
      · exact .inr ⟨id2, by omega, h8, h9, h10⟩
    · have h7 := hf.lt' hk
      have h8 : id ≠ k := fun h => hne (by rw [← h]; rfl)
      rw [q3 k (by omega) (by omega)]; exact hk
/-- Nothing appended. -/
theorem append_none {P : Program} {ro : Ro} {h : T Obj} {v x : Value} {z nx lo : Nat} {t e : TypeId} {i : TypeInfo} {l : List (List Value)} (ho : OwnT h v z e l lo) (hx : Sl ro h x z []) (hu : und P t = some (.slice e)) (hi' : tin P e = some i) :
    appendV P ro h nx #[t, t] [v, x] = some (v, h, nx) := by
  obtain ⟨a, len, rfl⟩ : ∃ a len, v = .slice a len len := by
    rcases ho with ⟨rfl, _⟩ | ⟨id, _, rfl, _⟩
    · exact ⟨none, 0, rfl⟩
    · exact ⟨_, _, rfl⟩
  have hs : srcV P ro h e i.size i.bytes t x = some (0, []) := by
    rcases hx with ⟨rfl, _⟩ | ⟨a, cap, rfl, h2, h3, h4, h5⟩
    · simp only [srcV, hu]
    · have : cellsAt ro h a (0 * i.size) = some [] := by
        have : cellsAt ro h a (0 * z) = some [] := by simpa using h5
        rw [Nat.zero_mul] at this ⊢; exact this
      simp only [srcV, hu, List.length_nil, this, Option.bind]
  have hb : Nat.ble (len + 0) len = true := Nat.ble_eq_true_of_le (by omega)
  simp only [appendV, List.getElem?_toArray, List.getElem?_cons_zero, List.getElem?_cons_succ, hu, hi', Option.bind_some, hs, hb]
/-- A slice appended, of elements or of none. -/
theorem append_any {P : Program} {ro : Ro} {h : T Obj} {v x : Value} {z nx lo : Nat} {t e : TypeId} {i : TypeInfo} {zv : Value} {l m : List (List Value)} (ho : OwnT h v z e l lo) (hx : Sl ro h x z m) (hu : und P t = some (.slice e)) (hi' : tin P e = some i) (hz : i.size = z) (hz0 : 0 < z) (hzer : zer P e = some zv) (hzs : zv.cells.size = z)
    (hok : m.flatten.all cellOk = true) (hb : (l.length + m.length) * i.bytes ≤ big) (hb2 : l.length + m.length ≤ big) (hlo : lo ≤ nx) (hf : Fr h nx) :
    ∃ r h' n', appendV P ro h nx #[t, t] [v, x] = some (r, h', n') ∧ OwnT h' r z e (l ++ m) lo ∧ Kp v h h' ∧ nx ≤ n' ∧ Fr h' n' ∧ (sblk r = none ∨ sblk r = sblk v ∨ sblk r = some nx) := by
  cases m with
  | nil => exact ⟨v, h, nx, append_none ho hx hu hi', by rw [List.append_nil]; exact ho, (fun k o hk _ => hk), Nat.le_refl _, hf, .inr (.inl rfl)⟩
  | cons y m =>
    obtain ⟨h', q1, q2, q3, q4, q5⟩ := appendT (P := P) (t := t) ho hx hu hi' hz hz0 hzer hzs (by simp) hok hb hb2 hlo hf
    exact ⟨_, h', nx + 1, q1, q2, q3, by omega, q4, .inr (.inr rfl)⟩
/-- One element, written out, appended. -/
theorem append_lit {P : Program} {ro : Ro} {h : T Obj} {v w : Value} {z nx n1 n2 lo : Nat} {t e : TypeId} {i : TypeInfo} {zv : Value} {l : List (List Value)} {y : List Value} {K : Value × Option Obj → T Obj → Value × T Obj × Nat → Prop} (hlit : sliceLitV P t n1 1 [(0, w)] = some (.slice (some (own n1 z)) 1 1, some (.cells y.toArray e))) (hy : y.length = z) (ho : OwnT h v z e l lo)
    (hu : und P t = some (.slice e)) (hi' : tin P e = some i) (hz : i.size = z) (hz0 : 0 < z) (hzer : zer P e = some zv) (hzs : zv.cells.size = z) (hok : y.all cellOk = true) (hb : (l.length + 1) * i.bytes ≤ big) (hb2 : l.length + 1 ≤ big) (hf : Fr h nx) (hlo : lo ≤ nx) (hn1 : nx ≤ n1) (hn2 : n1 < n2)
    (hK : ∀ h', OwnT h' (.slice (some (own n2 z)) (l ++ [y]).length (l ++ [y]).length) z e (l ++ [y]) lo → Kp v h h' → Fr h' (n2 + 1) → K (.slice (some (own n1 z)) 1 1, some (.cells y.toArray e)) (h.upd n1 (some (.cells y.toArray e))) (.slice (some (own n2 z)) (l ++ [y]).length (l ++ [y]).length, h', n2 + 1)) :
    bindP (sliceLitV P t n1 1 [(0, w)]) fun r => optP h n1 r.2 fun h' => bindP (appendV P ro h' n2 #[t, t] [v, r.1]) (K r h') := by
  refine bindP_mk hlit (optP_mk ?_)
  have hs1 : Sub h (h.upd n1 (some (.cells y.toArray e))) := (Sub.refl h).new hf hn1
  have hf1 : Fr (h.upd n1 (some (.cells y.toArray e))) n2 := (hf.mono (show nx ≤ n2 by omega)).upd (Nat.le_refl _) hn2
  have hx1 : Sl ro (h.upd n1 (some (.cells y.toArray e))) (.slice (some (own n1 z)) 1 1) z [y] := Sl.own (l := [y]) (e := e) (f := (0, 0)) (by rw [T.get_upd_same]; simp) (by simpa using hy) (Nat.le_refl _)
  obtain ⟨h', q1, q2, q3, q4, q5⟩ := appendT (P := P) (t := t) (nx := n2) (ho.keepS hs1) hx1 hu hi' hz hz0 hzer hzs (by simp) (by simpa using hok) hb hb2 (by omega) hf1
  exact bindP_mk q1 (hK h' q2 (fun k o hk hv => q3 k o (hs1 k o hk) hv) q4)
end V
end Go.Proofs.Ytmmdcdjkmakgpaa

/- What was handed in, opened for the machine.
   No condition. -/
set_option linter.unusedVariables false
set_option linter.unusedSimpArgs false
noncomputable section
namespace Go.Proofs.Ytmmdcdjkmakgpaa
namespace V
open Go.Deep
theorem roCells_append {ro : Ro} : ∀ {n m : Nat} {a : Addr} {l1 l2 : List Value}, a.spot = none → roCells ro a n = some l1 → roCells ro ⟨a.block, a.off + n, none⟩ m = some l2 → roCells ro a (n + m) = some (l1 ++ l2)
  | 0, m, a, l1, l2, hs, h1, h2 => by
    cases h1
    have : (⟨a.block, a.off + 0, none⟩ : Addr) = a := by cases a; simp_all
    rw [this] at h2
    simpa using h2
  | n + 1, m, a, l1, l2, hs, h1, h2 => by
    obtain ⟨v, g1, h1⟩ := bind_some' h1
    obtain ⟨r, g2, h1⟩ := bind_some' h1
    cases h1
    have ih := roCells_append (n := n) (m := m) (a := ⟨a.block, a.off + 1, none⟩) rfl g2 (by rw [show a.off + 1 + n = a.off + (n + 1) by omega]; exact h2)
    rw [show n + 1 + m = n + m + 1 by omega]
    simp [roCells, g1, ih]
section
variable {H : Type} {enc : TypeId × Value → H} {P : Program} {W : World}
theorem normL_get {N : Nat} : ∀ {l l' : List Value}, normL N l = some l' → ∀ {j : Nat} {y : Value}, l'[j]? = some y → ∃ x, l[j]? = some x ∧ norm N x = some y
  | [], l', h, j, y, hy => by cases h; simp at hy
  | v :: l, l', h, j, y, hy => by
    obtain ⟨v', h1, h⟩ := bind_some' h
    obtain ⟨r, h2, h⟩ := bind_some' h
    cases h
    cases j with
    | zero => simp at hy; subst hy; exact ⟨v, rfl, h1⟩
    | succ j =>
      obtain ⟨x, h3, h4⟩ := normL_get h2 (j := j) (by simpa using hy)
      exact ⟨x, by simpa using h3, h4⟩
theorem cells_ro {a : Addr} {n : Nat} {cs cs' : List Value} (h : W.cells? 0 a n = some cs) (hn : normL W.heap.size cs = some cs') (ha : a.spot = none) : roCells (roOf W) a n = some cs' := by
  obtain ⟨_, hlen, hg⟩ := World.cells?_some h
  have hl := (normL_lr (φ := fun _ => none) hn).length
  have := roCells_of (ro := roOf W) (l := cs') (a := a) ha fun j y hy => by
    obtain ⟨x, hx, hxy⟩ := normL_get hn hy
    have hj : j < n := by rw [← hlen, ← hl]; exact (List.getElem?_eq_some_iff.1 hy).1
    have hc := hg j hj
    rw [add_spot ha, hx] at hc
    have hb : a.block < W.heap.size := by
      rcases Nat.lt_or_ge a.block W.heap.size with h1 | h1
      · exact h1
      · simp [World.cell?, Array.getElem?_eq_none h1] at hc
    have hbb : Nat.blt a.block W.heap.size = true := by simp [Nat.blt]; omega
    simp only [roOf, hbb, hc, Option.bind, hxy]
  rw [hl, hlen] at this
  exact this
theorem norm_slice {N : Nat} {a : Addr} {l c : Nat} (hs : a.spot = none) (hb : a.block < N) (hc : 0 < c) : norm N (.slice (some a) l c) = some (.slice (some a) l c) := by
  have : Nat.blt a.block N = true := by simp [Nat.blt]; omega
  cases c with
  | zero => omega
  | succ c => cases l <;> simp [norm, hs, this]
theorem open_sl {t e : TypeId} {z : Nat} (ht : P.underlying t = some (.slice e)) (hz : P.cellsOf e = z) (hz0 : 0 < z) {fuel : Nat} {cs : List Value} {x : DataW H × List MemPlace} (h : DataW.trod enc P W 0 (fun _ => true) true fuel t cs = some x)
    {El : List Value → Prop} (hel : ∀ n cs' y, DataW.trod enc P W 0 (fun _ => true) true n e cs' = some y → ∃ cs'', normL W.heap.size cs' = some cs'' ∧ El cs'') :
    ∃ v v', cs = [v] ∧ norm W.heap.size v = some v' ∧ ∃ l, Sl (roOf W) .e v' z l ∧ ∀ x ∈ l, El x := by
  rcases open_slice ht h with ⟨rfl, _⟩ | ⟨a, len, cap, m, n, D, Pl, rfl, _, hle, _, hm, _, hx⟩
  · exact ⟨_, _, rfl, rfl, [], Sl.nil, fun x hx => by cases hx⟩
  · simp only [if_true] at hm
    subst hm
    refine ⟨.slice (some a) len m, ?_⟩
    rcases Nat.eq_zero_or_pos m with hc0 | hc0
    · subst hc0
      obtain rfl : len = 0 := by omega
      exact ⟨.slice (some noAddr) 0 0, rfl, rfl, [], .inr ⟨noAddr, 0, rfl, Nat.le_refl _, .inl rfl, by simp, by simp [cellsAt, noAddr, roCells]⟩, fun x hx => by cases hx⟩
    · have h0 : a.spot = none ∧ a.block < W.heap.size := by
        obtain ⟨cs', h1, _⟩ := hx 0 hc0
        rw [hz] at h1
        obtain ⟨_, hl, hg⟩ := World.cells?_some h1
        have h2 := hg 0 hz0
        have h3 : cs'[0]? = some (cs'[0]'(by omega)) := List.getElem?_eq_getElem (by omega)
        rw [h3] at h2
        have hsp : a.spot = none := by
          have := World.cell?_spot h2
          simpa [Addr.add] using this
        refine ⟨hsp, ?_⟩
        rcases Nat.lt_or_ge a.block W.heap.size with h4 | h4
        · exact h4
        · rw [add_spot hsp, add_spot rfl] at h2
          simp [World.cell?, Array.getElem?_eq_none h4] at h2
      obtain ⟨hs, hb⟩ := h0
      refine ⟨.slice (some a) len m, rfl, norm_slice hs hb hc0, ?_⟩
      have key : ∀ k, k ≤ len → ∃ l : List (List Value), l.length = k ∧ (∀ x ∈ l, x.length = z) ∧ (∀ x ∈ l, El x) ∧ roCells (roOf W) a (k * z) = some l.flatten := by
        intro k
        induction k with
        | zero => intro _; exact ⟨[], rfl, by simp, by simp, by simp [roCells]⟩
        | succ k ih =>
          intro hk
          obtain ⟨l, l1, l2, l3, l4⟩ := ih (by omega)
          obtain ⟨cs', h1, h2⟩ := hx k (by omega)
          rw [hz] at h1
          obtain ⟨cs'', h3, h4⟩ := hel _ _ _ h2
          have h5 := cells_ro h1 h3 (by rw [add_spot hs])
          have hlen : cs''.length = z := roCells_length h5
          rw [add_spot hs] at h5
          refine ⟨l ++ [cs''], by simp [l1], ?_, ?_, ?_⟩
          · intro x hx2
            rcases List.mem_append.1 hx2 with h6 | h6
            · exact l2 x h6
            · simp at h6; subst h6; exact hlen
          · intro x hx2
            rcases List.mem_append.1 hx2 with h6 | h6
            · exact l3 x h6
            · simp at h6; subst h6; exact h4
          · rw [Nat.succ_mul]
            have := roCells_append hs l4 h5
            simpa using this
      obtain ⟨l, l1, l2, l3, l4⟩ := key len (Nat.le_refl _)
      refine ⟨l, .inr ⟨a, m, by rw [l1], by omega, .inl hs, l2, ?_⟩, l3⟩
      unfold cellsAt
      rw [hs, l1]
      exact l4
end
end V
end Go.Proofs.Ytmmdcdjkmakgpaa
