/- Texts laid one behind the other: W1, XB, XF, XS, XQ.
   No condition. -/
import Derived.Deep.Slices
import Derived.Test.YtjndkdmkecpllaaGreatRows
import Derived.OpenShut
import Derived.ChangeMaps5
import Derived.Test.YtjndkdmkecpllaaGreatQW3
set_option linter.unusedVariables false
set_option linter.unusedSimpArgs false
set_option linter.unusedVariables false
set_option linter.unusedSimpArgs false
noncomputable section
namespace Go.Proofs.YtjndkdmkecpllaaGreat
namespace V
theorem cellsAt_sub {ro : Ro} {h h' : T Obj} {a : Addr} {n : Nat} {l : List Value} (hs : Sub h h') (hc : cellsAt ro h a n = some l) : cellsAt ro h' a n = some l := by
  unfold cellsAt at hc ⊢
  cases hsp : a.spot with
  | none => rw [hsp] at hc; exact hc
  | some z =>
    rw [hsp] at hc
    simp only at hc ⊢
    cases hg : h.get a.block with
    | none => rw [hg] at hc; cases hc
    | some o => rw [hg] at hc; rw [hs _ _ hg]; exact hc
theorem roCells_length {ro : Ro} : ∀ {n : Nat} {a : Addr} {l : List Value}, roCells ro a n = some l → l.length = n
  | 0, a, l, h => by cases h; rfl
  | n + 1, a, l, h => by
    obtain ⟨v, h1, h⟩ := bind_some' h
    obtain ⟨r, h2, h⟩ := bind_some' h
    cases h
    simp [roCells_length h2]
theorem roCells_part {ro : Ro} : ∀ {off n k : Nat} {a : Addr} {l : List Value}, roCells ro a n = some l → a.spot = none → off + k ≤ n → roCells ro ⟨a.block, a.off + off, none⟩ k = some ((l.drop off).take k)
  | 0, n, 0, a, l, h, hs, hk => by simp [roCells]
  | 0, 0, k + 1, a, l, h, hs, hk => by omega
  | 0, n + 1, k + 1, a, l, h, hs, hk => by
    obtain ⟨v, h1, h⟩ := bind_some' h
    obtain ⟨r, h2, h⟩ := bind_some' h
    cases h
    have ih := roCells_part (off := 0) (k := k) h2 rfl (by omega)
    have ha : (⟨a.block, a.off + 0, none⟩ : Addr) = a := by cases a; simp_all
    rw [ha]
    simp only [roCells, h1, Option.bind_some]
    simp only [Nat.add_zero] at ih
    rw [ih]; simp
  | off + 1, 0, k, a, l, h, hs, hk => by omega
  | off + 1, n + 1, k, a, l, h, hs, hk => by
    obtain ⟨v, h1, h⟩ := bind_some' h
    obtain ⟨r, h2, h⟩ := bind_some' h
    cases h
    have ih := roCells_part (off := off) (k := k) h2 rfl (by omega)
    rw [show a.off + (off + 1) = a.off + 1 + off by omega, List.drop_succ_cons]
    exact ih
theorem roCells_of {ro : Ro} : ∀ {l : List Value} {a : Addr}, a.spot = none → (∀ j x, l[j]? = some x → ro ⟨a.block, a.off + j, none⟩ = some x) → roCells ro a l.length = some l
  | [], a, hs, h => rfl
  | v :: l, a, hs, h => by
    have ha : (⟨a.block, a.off + 0, none⟩ : Addr) = a := by cases a; simp_all
    have h0 := h 0 v rfl
    rw [ha] at h0
    have ih := roCells_of (l := l) (a := ⟨a.block, a.off + 1, none⟩) rfl fun j x hx => by
      have := h (j + 1) x (by simpa using hx)
      rw [show a.off + 1 + j = a.off + (j + 1) by omega]; exact this
    simp [roCells, h0, ih]
theorem cellsAt_part {ro : Ro} {h : T Obj} {a : Addr} {n off k : Nat} {l : List Value} (hc : cellsAt ro h a n = some l) (hk : off + k ≤ n) : cellsAt ro h (elt a off) k = some ((l.drop off).take k) := by
  obtain ⟨b, o, s⟩ := a
  cases s with
  | none => exact roCells_part (a := ⟨b, o, none⟩) hc rfl hk
  | some z =>
    rw [cellsAt_own] at hc
    obtain ⟨c, h1, h2⟩ := bind_some' hc
    split at h2
    · rename_i hle
      cases h2
      show cellsAt ro h ⟨b, o + off, some 0⟩ k = _
      rw [cellsAt_own, h1]
      simp only [Option.bind_some]
      rw [if_pos (by omega), List.drop_take, List.drop_drop, List.take_take, Nat.min_eq_left (by omega)]
    · cases h2
theorem flatten_part {z : Nat} : ∀ {l : List (List Value)}, (∀ x ∈ l, x.length = z) → l.flatten.length = l.length * z ∧ ∀ i x, l[i]? = some x → (l.flatten.drop (i * z)).take z = x
  | [], _ => ⟨by simp, fun i x hx => by simp at hx⟩
  | y :: r, hz => by
    have hy := hz y (by simp)
    obtain ⟨h1, h2⟩ := flatten_part (l := r) fun x hx => hz x (by simp [hx])
    refine ⟨by simp [h1, hy, Nat.add_mul]; omega, ?_⟩
    intro i x hx
    cases i with
    | zero => simp at hx; subst hx; subst hy; simp
    | succ i =>
      have := h2 i x (by simpa using hx)
      rw [Nat.succ_mul, show i * z + z = y.length + i * z by omega, List.flatten_cons, List.drop_append, List.drop_eq_nil_of_le (Nat.le_add_right _ _)]
      simpa using this
theorem flatten_take {z : Nat} : ∀ {l : List (List Value)} (n : Nat), (∀ x ∈ l, x.length = z) → l.flatten.take (n * z) = (l.take n).flatten
  | [], n, _ => by simp
  | y :: r, 0, _ => by simp
  | y :: r, n + 1, hz => by
    have hy := hz y (by simp)
    rw [List.take_succ_cons, List.flatten_cons, List.flatten_cons, Nat.succ_mul, show n * z + z = y.length + n * z by omega, List.take_append, List.take_of_length_le (Nat.le_add_right _ _), Nat.add_sub_cancel_left,
      flatten_take n fun x hx => hz x (by simp [hx])]
def Sl (ro : Ro) (h : T Obj) (v : Value) (z : Nat) (l : List (List Value)) : Prop :=
  (v = .slice none 0 0 ∧ l = []) ∨ ∃ a cap, v = .slice (some a) l.length cap ∧ l.length ≤ cap ∧ (a.spot = none ∨ a.spot = some z) ∧ (∀ x ∈ l, x.length = z) ∧ cellsAt ro h a (l.length * z) = some l.flatten
theorem Sl.at {ro : Ro} {h : T Obj} {a : Addr} {z : Nat} {l : List (List Value)} (hz : ∀ x ∈ l, x.length = z) (hc : cellsAt ro h a (l.length * z) = some l.flatten) : ∀ i x, l[i]? = some x → x.length = z ∧ cellsAt ro h (elt a (i * z)) z = some x := by
  intro i x hx
  refine ⟨hz x (List.mem_of_getElem? hx), ?_⟩
  have hi := (List.getElem?_eq_some_iff.1 hx).1
  have : i * z + z ≤ l.length * z := by rw [← Nat.succ_mul]; exact Nat.mul_le_mul_right _ hi
  rw [cellsAt_part hc this, (flatten_part hz).2 i x hx]
def elPtr (z : Nat) (v : Value) (i : Nat) : Value := match v with
  | .slice (some a) _ _ => .pointer (some (elt a (i * z)))
  | _ => undef
section
variable {ro : Ro} {h h' : T Obj} {v : Value} {z : Nat} {l : List (List Value)}
theorem Sl.nil : Sl ro h (.slice none 0 0) z [] := .inl ⟨rfl, rfl⟩
theorem Sl.sub (hs : Sub h h') (hl : Sl ro h v z l) : Sl ro h' v z l := by
  rcases hl with hl | ⟨a, cap, h1, h2, h3, h4⟩
  · exact .inl hl
  · exact .inr ⟨a, cap, h1, h2, h3, h4.1, cellsAt_sub hs h4.2⟩
theorem Sl.len (hl : Sl ro h v z l) : lenSl v = some (.int .i64 l.length) := by
  rcases hl with ⟨rfl, rfl⟩ | ⟨a, cap, rfl, _⟩ <;> rfl
theorem Sl.ix (hl : Sl ro h v z l) (k : IntKind) {i : Nat} (hi : i < l.length) : ixSl z v (.int k (i : Int)) = some (elPtr z v i) := by
  rcases hl with ⟨rfl, rfl⟩ | ⟨a, cap, rfl, h2, h3, h4⟩
  · simp at hi
  · have hn : natV (.int k (i : Int)) = some i := by simp [natV]
    have hb : Nat.blt i l.length = true := by simp [Nat.blt]; omega
    unfold ixSl
    rw [hn]
    simp only [Option.bind, hb]
    rcases h3 with h3 | h3
    · rw [h3]; simp [elPtr, elt, fwd, h3]
    · rw [h3]; simp [elPtr, elt, h3]
theorem Sl.loadA (hl : Sl ro h v z l) {i : Nat} {x : List Value} (hx : l[i]? = some x) : loadA ro h z (elPtr z v i) = some (.agg x.toArray) := by
  rcases hl with ⟨rfl, rfl⟩ | ⟨a, cap, rfl, h2, h3, h4⟩
  · simp at hx
  · simp [V.loadA, elPtr, asP, (Sl.at h4.1 h4.2 i x hx).2]
theorem Sl.load1 (hl : Sl ro h v 1 l) {i : Nat} {x : Value} (hx : l[i]? = some [x]) : load1 ro h (elPtr 1 v i) = some x := by
  rcases hl with ⟨rfl, rfl⟩ | ⟨a, cap, rfl, h2, h3, h4⟩
  · simp at hx
  · have := (Sl.at h4.1 h4.2 i _ hx).2
    simp only [V.load1, elPtr, asP, Option.bind, this]
theorem sameV_ptr {a : Addr} {n : Nat} {x : List Value} (hs : Sub h h') (hx : cellsAt ro h a n = some x) : sameV (.pointer (some a)) h h' := by
  unfold sameV blk
  cases hz : a.spot with
  | none => simp only [hz]
  | some z =>
    simp only [hz]
    unfold cellsAt at hx
    rw [hz] at hx
    cases hg : h.get a.block with
    | none => rw [hg] at hx; cases hx
    | some o => exact ⟨by rw [hg, hs _ _ hg], by rw [hg]; rfl⟩
theorem Sl.same (hs : Sub h h') (hl : Sl ro h v z l) {i : Nat} (hi : i < l.length) : sameV (elPtr z v i) h h' := by
  rcases hl with ⟨rfl, rfl⟩ | ⟨b, cap, rfl, h2, h3, h4⟩
  · simp at hi
  · exact sameV_ptr hs (Sl.at h4.1 h4.2 i _ (List.getElem?_eq_getElem hi)).2
end
theorem sameV_own {h h' : T Obj} {id off z : Nat} {o : Obj} (hg : h.get id = some o) (hs : h'.get id = some o) : sameV (at_ id off z) h h' := ⟨by rw [hg, hs], by rw [hg]; rfl⟩
theorem Sl.own {ro : Ro} {h : T Obj} {id z cap : Nat} {l : List (List Value)} {e : TypeId} {f : Nat × Nat} (hg : h.get id = some (.cells l.flatten.toArray e f)) (hz : ∀ x ∈ l, x.length = z) (hc : l.length ≤ cap) : Sl ro h (.slice (some (V.own id z)) l.length cap) z l := by
  refine .inr ⟨V.own id z, cap, rfl, hc, .inr rfl, hz, ?_⟩
  have h1 := (flatten_part hz).1
  show cellsAt ro h ⟨id, 0, some z⟩ _ = _
  rw [cellsAt_own, hg, cellsIn_some]
  simp only [Option.bind_some]
  rw [if_pos (by rw [h1]; omega), List.drop_zero, List.take_of_length_le (by rw [h1]; omega)]
theorem exP_e {i : Nat} {A : Prop} {B : Nat → Prop} {D : Prop} (h : B i) : exP (.exit i) A B D := h
theorem exP_r {A : Prop} {B : Nat → Prop} {D : Prop} (h : D) : exP .ret A B D := h
theorem beqP_t {A B : Prop} (h : A) : beqP true A B := h
theorem Sl.take {P : Program} {t e : TypeId} {ro : Ro} {h : T Obj} {v : Value} {z : Nat} {l : List (List Value)} (hl : Sl ro h v z l) (hu : und P t = some (.slice e)) (hz : siz P e = some z) (hz0 : 0 < z) {n : Nat} (hn : n ≤ l.length) (k : IntKind) :
    ∃ r, sliceV P t v none (some (.int k (n : Int))) none = some r ∧ Sl ro h r z (l.take n) := by
  have hnv : natV (.int k (n : Int)) = some n := by simp [natV]
  rcases hl with ⟨rfl, rfl⟩ | ⟨a, cap, rfl, h2, h3, h4⟩
  · simp at hn; subst hn
    refine ⟨.slice none 0 0, ?_, .inl ⟨rfl, rfl⟩⟩
    unfold sliceV
    simp [hu, hz, boundV, natV]
  · have hb : Nat.ble n cap = true := Nat.ble_eq_true_of_le (by omega)
    have hlen : (l.take n).length = n := by rw [List.length_take]; omega
    refine ⟨.slice (some a) n cap, ?_, .inr ⟨a, cap, by rw [hlen], by rw [hlen]; omega, h3, fun x hx => h4.1 x (List.mem_of_mem_take hx), ?_⟩⟩
    · unfold sliceV
      have hb1 : Nat.ble n l.length = true := Nat.ble_eq_true_of_le hn
      have hb0 : Nat.ble 0 n = true := Nat.ble_eq_true_of_le (Nat.zero_le _)
      have e0 : fwd a (0 * z) = a := by simp [fwd]
      have e1 : boundV none cap cap = some cap := rfl
      have e2 : boundV (some (.int k (n : Int))) l.length cap = some n := by simp [boundV, hnv, hb]
      have e3 : boundV none 0 n = some 0 := rfl
      simp only [hu, hz, Option.bind, e1, e2, e3, hb, Option.isNone, Bool.true_or, Nat.sub_zero]
      rcases h3 with h3 | h3
      · simp only [h3]
        cases hc : Nat.beq cap 0 with
        | true => simp only
        | false => simp only [e0]
      · simp only [h3, Nat.beq_refl, e0]
    · have hk : 0 + n * z ≤ l.length * z := by rw [Nat.zero_add]; exact Nat.mul_le_mul_right _ hn
      have := cellsAt_part h4.2 hk
      rw [List.drop_zero, flatten_take n h4.1] at this
      rw [hlen]
      rcases h3 with h3 | h3
      · have e : elt a 0 = a := by obtain ⟨b, o, sp⟩ := a; change sp = none at h3; subst h3; rfl
        rw [e] at this; exact this
      · unfold cellsAt at this ⊢
        simp only [elt, h3, Option.map, Nat.add_zero] at this ⊢
        exact this
def Own (h : T Obj) (v : Value) (z : Nat) (e : TypeId) (l : List (List Value)) (lo hi : Nat) : Prop :=
  (v = .slice none 0 0 ∧ l = []) ∨ ∃ id, lo ≤ id ∧ id < hi ∧ v = .slice (some (own id z)) l.length l.length ∧ (∀ x ∈ l, x.length = z) ∧ h.get id = some (.cells l.flatten.toArray e)
theorem Own.sl {ro : Ro} {h : T Obj} {v : Value} {z : Nat} {e : TypeId} {l : List (List Value)} {lo hi : Nat} (ho : Own h v z e l lo hi) : Sl ro h v z l := by
  rcases ho with ho | ⟨id, _, _, rfl, h4, h5⟩
  · exact .inl ho
  · exact Sl.own h5 h4 (Nat.le_refl _)
theorem Own.nil {h : T Obj} {z : Nat} {e : TypeId} {lo hi : Nat} : Own h (.slice none 0 0) z e [] lo hi := .inl ⟨rfl, rfl⟩
theorem Own.keep {h h' : T Obj} {v : Value} {z : Nat} {e : TypeId} {l : List (List Value)} {lo hi hi' : Nat} (ho : Own h v z e l lo hi) (hh : hi ≤ hi') (hk : ∀ id, lo ≤ id → id < hi → ∀ o, h.get id = some o → h'.get id = some o) : Own h' v z e l lo hi' := by
  rcases ho with ho | ⟨id, h1, h2, h3, h4, h5⟩
  · exact .inl ho
  · exact .inr ⟨id, h1, by omega, h3, h4, hk id h1 h2 _ h5⟩
theorem append_own {P : Program} {ro : Ro} {h : T Obj} {v x : Value} {z nx lo hi : Nat} {t e : TypeId} {i : TypeInfo} {zv : Value} {l m : List (List Value)} (ho : Own h v z e l lo hi) (hx : Sl ro h x z m) (hu : und P t = some (.slice e)) (hi' : tin P e = some i) (hz : i.size = z) (hz0 : 0 < z) (hzer : zer P e = some zv) (hzs : zv.cells.size = z)
    (hm : m ≠ []) (hok : m.flatten.all cellOk = true) (hb : (l.length + m.length) * i.bytes ≤ big) (hb2 : l.length + m.length ≤ big) (hlo : lo ≤ nx) (hnx : hi ≤ nx) :
    ∃ h', appendV P ro h nx #[t, t] [v, x] = some (.slice (some (own nx z)) (l ++ m).length (l ++ m).length, h', nx + 1) ∧ Own h' (.slice (some (own nx z)) (l ++ m).length (l ++ m).length) z e (l ++ m) lo (nx + 1) ∧
      (∀ k, (k < lo ∨ hi ≤ k) → k ≠ nx → h'.get k = h.get k) ∧ (∀ k, k ≠ nx → h'.get k = h.get k ∨ h'.get k = none) := by
  have hml : 0 < m.length := List.length_pos_iff.2 hm
  obtain ⟨a, capx, rfl, hcx, hsx, hzx, hxc⟩ : ∃ a cap, x = .slice (some a) m.length cap ∧ m.length ≤ cap ∧ (a.spot = none ∨ a.spot = some z) ∧ (∀ x ∈ m, x.length = z) ∧ cellsAt ro h a (m.length * z) = some m.flatten := by
    rcases hx with ⟨_, hx⟩ | hx
    · exact absurd hx hm
    · exact hx
  have hb1 : Nat.ble ((l.length + m.length) * i.bytes) big = true := Nat.ble_eq_true_of_le hb
  have hb2' : Nat.ble (l.length + m.length) big = true := Nat.ble_eq_true_of_le hb2
  have hb3 : Nat.blt 0 z = true := by simp [Nat.blt]; omega
  have hfull : Nat.ble (l.length + m.length) l.length = false := by
    cases hq : Nat.ble (l.length + m.length) l.length with
    | false => rfl
    | true => have := Nat.le_of_ble_eq_true hq; omega
  rcases ho with ⟨rfl, rfl⟩ | ⟨id, h1, h2, rfl, h4, h5⟩
  · refine ⟨h.upd nx (some (.cells m.flatten.toArray e)), ?_, .inr ⟨nx, hlo, by omega, by simp, by simpa using hzx, by rw [T.get_upd_same]; simp⟩, fun k _ hk => T.get_upd_ne _ _ hk, fun k hk => .inl (T.get_upd_ne _ _ hk)⟩
    simp only [List.length_nil] at hb1 hb2' hfull
    simp only [appendV, List.getElem?_toArray, List.getElem?_cons_zero, List.getElem?_cons_succ, hu, hi', Option.bind_some, srcV, hz, hxc, hfull, hzer, hb1, hb2', hb3, hzs, Nat.beq_refl, hok, oldV]
    simp
  · have hl := (flatten_part h4).1
    have hcl : cellsAt ro h ⟨id, 0, some z⟩ (l.length * z) = some l.flatten := by
      rw [cellsAt_own, h5, cellsIn_some]
      simp only [Option.bind_some]
      rw [if_pos (by rw [hl]; omega), List.drop_zero, List.take_of_length_le (by rw [hl]; omega)]
    refine ⟨(h.upd id none).upd nx (some (.cells (l.flatten ++ m.flatten).toArray e)), ?_, .inr ⟨nx, hlo, by omega, by simp, ?_, by rw [T.get_upd_same]; simp⟩, ?_, ?_⟩
    · simp only [appendV, List.getElem?_toArray, List.getElem?_cons_zero, List.getElem?_cons_succ, hu, hi', Option.bind_some, srcV, hz, hxc, hfull, hzer, hb1, hb2', hb3, hzs, Nat.beq_refl, hok, oldV, own, hcl]
      simp
    · intro x hx
      rcases List.mem_append.1 hx with hx | hx
      · exact h4 x hx
      · exact hzx x hx
    · intro k hk hne
      rw [T.get_upd_ne _ _ hne, T.get_upd_ne _ _ (by omega)]
    · intro k hne
      rw [T.get_upd_ne _ _ hne]
      by_cases e : k = id
      · subst e; right; rw [T.get_upd_same]
      · left; rw [T.get_upd_ne _ _ e]
end V
end Go.Proofs.YtjndkdmkecpllaaGreat
set_option linter.unusedVariables false
set_option linter.unusedSimpArgs false
noncomputable section
namespace Go.Proofs.YtjndkdmkecpllaaGreat
namespace V
theorem condP_d {p : Prop} {dp : Decidable p} {A B : Prop} (h1 : p → A) (h2 : ¬ p → B) : condP (.bool (@decide p dp)) A B := by
  by_cases hp : p
  · rw [decide_eq_true hp]; exact h1 hp
  · rw [decide_eq_false hp]; exact h2 hp
theorem kb {K : KV} {h : T Obj} {nx n : Nat} {b c : Bool} (hK : ∀ n, nx ≤ n → K (.bool b) h n) (e : b = c) (hn : nx ≤ n) : K (.bool c) h n := by subst e; exact hK n hn
theorem ki {K : KV} {h : T Obj} {nx n : Nat} {k : IntKind} {b c : Int} (hK : ∀ n, nx ≤ n → K (.int k b) h n) (e : b = c) (hn : nx ≤ n) : K (.int k c) h n := by subst e; exact hK n hn
section
variable {k : IntKind} {a b : Int} {K : Value → Prop}
theorem lss_t (h : a < b) (hk : K (.bool true)) : bindP (intB .lss (.int k a) (.int k b)) K := by rw [intB_lss, decide_eq_true h]; exact hk
theorem lss_f (h : b ≤ a) (hk : K (.bool false)) : bindP (intB .lss (.int k a) (.int k b)) K := by rw [intB_lss, decide_eq_false (by omega)]; exact hk
theorem lss_s (h1 : a < b → K (.bool true)) (h2 : b ≤ a → K (.bool false)) : bindP (intB .lss (.int k a) (.int k b)) K := by
  by_cases h : a < b
  · exact lss_t h (h1 h)
  · exact lss_f (by omega) (h2 (by omega))
theorem leq_t (h : a ≤ b) (hk : K (.bool true)) : bindP (intB .leq (.int k a) (.int k b)) K := by rw [intB_leq, decide_eq_true h]; exact hk
theorem leq_f (h : b < a) (hk : K (.bool false)) : bindP (intB .leq (.int k a) (.int k b)) K := by rw [intB_leq, decide_eq_false (by omega)]; exact hk
theorem leq_s (h1 : a ≤ b → K (.bool true)) (h2 : b < a → K (.bool false)) : bindP (intB .leq (.int k a) (.int k b)) K := by
  by_cases h : a ≤ b
  · exact leq_t h (h1 h)
  · exact leq_f (by omega) (h2 (by omega))
theorem gtr_t (h : b < a) (hk : K (.bool true)) : bindP (intB .gtr (.int k a) (.int k b)) K := by rw [intB_gtr, decide_eq_true h]; exact hk
theorem gtr_f (h : a ≤ b) (hk : K (.bool false)) : bindP (intB .gtr (.int k a) (.int k b)) K := by rw [intB_gtr, decide_eq_false (by omega)]; exact hk
theorem gtr_s (h1 : b < a → K (.bool true)) (h2 : a ≤ b → K (.bool false)) : bindP (intB .gtr (.int k a) (.int k b)) K := by
  by_cases h : b < a
  · exact gtr_t h (h1 h)
  · exact gtr_f (by omega) (h2 (by omega))
theorem geq_t (h : b ≤ a) (hk : K (.bool true)) : bindP (intB .geq (.int k a) (.int k b)) K := by rw [intB_geq, decide_eq_true h]; exact hk
theorem geq_f (h : a < b) (hk : K (.bool false)) : bindP (intB .geq (.int k a) (.int k b)) K := by rw [intB_geq, decide_eq_false (by omega)]; exact hk
theorem geq_s (h1 : b ≤ a → K (.bool true)) (h2 : a < b → K (.bool false)) : bindP (intB .geq (.int k a) (.int k b)) K := by
  by_cases h : b ≤ a
  · exact geq_t h (h1 h)
  · exact geq_f (by omega) (h2 (by omega))
theorem eql_t (h : a = b) (hk : K (.bool true)) : bindP (intB .eql (.int k a) (.int k b)) K := by rw [intB_eql, decide_eq_true h]; exact hk
theorem eql_f (h : a ≠ b) (hk : K (.bool false)) : bindP (intB .eql (.int k a) (.int k b)) K := by rw [intB_eql, decide_eq_false h]; exact hk
theorem eql_s (h1 : a = b → K (.bool true)) (h2 : a ≠ b → K (.bool false)) : bindP (intB .eql (.int k a) (.int k b)) K := by
  by_cases h : a = b
  · exact eql_t h (h1 h)
  · exact eql_f h (h2 h)
theorem neq_t (h : a ≠ b) (hk : K (.bool true)) : bindP (intB .neq (.int k a) (.int k b)) K := by rw [intB_neq, decide_eq_false h]; exact hk
theorem neq_f (h : a = b) (hk : K (.bool false)) : bindP (intB .neq (.int k a) (.int k b)) K := by rw [intB_neq, decide_eq_true h]; exact hk
theorem neq_s (h1 : a ≠ b → K (.bool true)) (h2 : a = b → K (.bool false)) : bindP (intB .neq (.int k a) (.int k b)) K := by
  by_cases h : a = b
  · exact neq_f h (h2 h)
  · exact neq_t h (h1 h)
end
theorem load1_sub {ro : Ro} {h h' : T Obj} {p v : Value} (hs : Sub h h') (hl : load1 ro h p = some v) : load1 ro h' p = some v := by
  unfold V.load1 at hl ⊢
  obtain ⟨ad, y1, y2⟩ := bind_some' hl
  rw [y1, Option.bind_some]
  cases hc : cellsAt ro h ad 1 with
  | none => rw [hc] at y2; cases y2
  | some l => rw [hc] at y2; rw [cellsAt_sub hs hc]; exact y2
theorem loadA_sub {ro : Ro} {h h' : T Obj} {p v : Value} {n : Nat} (hs : Sub h h') (hl : loadA ro h n p = some v) : loadA ro h' n p = some v := by
  unfold V.loadA at hl ⊢
  obtain ⟨ad, y1, y2⟩ := bind_some' hl
  obtain ⟨l9, y3, y4⟩ := bind_some' y2
  rw [y1, Option.bind_some, cellsAt_sub hs y3, Option.bind_some, y4]
def intsZ (l : List Int) : List (List Value) := l.map fun b : Int => [Value.int .i64 b]
theorem intsZ_len (l : List Int) : (intsZ l).length = l.length := by simp [intsZ]
theorem intsZ_get {l : List Int} {i : Nat} (hi : i < l.length) : (intsZ l)[i]? = some [.int .i64 l[i]] := by simp [intsZ, hi]
def ZI (ro : Ro) (h : T Obj) (v : Value) (l : List Int) : Prop := Sl ro h v 1 (intsZ l)
section
variable {ro : Ro} {h h' : T Obj} {v : Value} {l : List Int}
theorem ZI.sub (hs : Sub h h') (hl : ZI ro h v l) : ZI ro h' v l := Sl.sub hs hl
theorem ZI.len (hl : ZI ro h v l) : lenSl v = some (.int .i64 l.length) := by have := Sl.len hl; rwa [intsZ_len] at this
theorem ZI.ix (hl : ZI ro h v l) (k : IntKind) {i : Nat} (hi : i < l.length) : ixSl 1 v (.int k (i : Int)) = some (elPtr 1 v i) := Sl.ix hl k (by rw [intsZ_len]; exact hi)
theorem ZI.ixI (hl : ZI ro h v l) (k : IntKind) {i : Int} (h0 : 0 ≤ i) (hi : i < l.length) : ixSl 1 v (.int k i) = some (elPtr 1 v i.toNat) := by
  have := hl.ix k (i := i.toNat) (by omega)
  rwa [Int.toNat_of_nonneg h0] at this
theorem ZI.load (hl : ZI ro h v l) {i : Nat} (hi : i < l.length) : load1 ro h (elPtr 1 v i) = some (.int .i64 l[i]) := Sl.load1 hl (intsZ_get hi)
end
theorem ZI.load' {ro : Ro} {h : T Obj} {v : Value} {l : List Int} (hl : ZI ro h v l) {i : Nat} {x : Int} (hx : l[i]? = some x) : load1 ro h (elPtr 1 v i) = some (.int .i64 x) := by
  obtain ⟨hi, he⟩ := List.getElem?_eq_some_iff.1 hx
  rw [hl.load hi, he]
theorem Sl.ok {ro : Ro} {h : T Obj} {v : Value} {z : Nat} {cs : List (List Value)} (hl : Sl ro h v z cs) : cellOk v = true := by
  rcases hl with ⟨rfl, _⟩ | ⟨a, cap, rfl, _⟩ <;> rfl
theorem ZI.ok {ro : Ro} {h : T Obj} {v : Value} {l : List Int} (hl : ZI ro h v l) : cellOk v = true := Sl.ok hl
theorem drop_cons {α : Type} {l : List α} {k : Nat} (hk : k < l.length) : l.drop k = l[k] :: l.drop (k + 1) := List.drop_eq_getElem_cons hk
theorem drop_all {α : Type} {l : List α} {k : Nat} (hk : l.length ≤ k) : l.drop k = [] := List.drop_eq_nil_of_le hk
def elPtrK (z : Nat) (v : Value) (i k : Nat) : Value := match v with
  | .slice (some a) _ _ => .pointer (some (elt a (i * z + k)))
  | _ => undef
def SlR {D : Type} (ro : Ro) (h : T Obj) (v : Value) (z : Nat) (R : List Value → D → Prop) (l : List D) : Prop := ∃ cs, Sl ro h v z cs ∧ cs.length = l.length ∧ ∀ (i : Nat) x d, cs[i]? = some x → l[i]? = some d → R x d
section
variable {D : Type} {ro : Ro} {h h' : T Obj} {v : Value} {z : Nat} {R R' : List Value → D → Prop} {l : List D}
theorem SlR.imp (hl : SlR ro h v z R l) (hR : ∀ x d, R x d → R' x d) : SlR ro h v z R' l := by
  obtain ⟨cs, h1, h2, h3⟩ := hl
  exact ⟨cs, h1, h2, fun i x d hx hd => hR _ _ (h3 i x d hx hd)⟩
theorem SlR.sub (hs : Sub h h') (hR : ∀ x d, R x d → R' x d) (hl : SlR ro h v z R l) : SlR ro h' v z R' l := by
  obtain ⟨cs, h1, h2, h3⟩ := hl
  exact ⟨cs, h1.sub hs, h2, fun i x d hx hd => hR _ _ (h3 i x d hx hd)⟩
theorem SlR.nil : SlR ro h (.slice none 0 0) z R ([] : List D) := ⟨[], Sl.nil, rfl, fun i x d hx => by simp at hx⟩
theorem SlR.len (hl : SlR ro h v z R l) : lenSl v = some (.int .i64 l.length) := by
  obtain ⟨cs, h1, h2, h3⟩ := hl
  have := h1.len
  rwa [h2] at this
theorem SlR.ix (hl : SlR ro h v z R l) (k : IntKind) {i : Nat} (hi : i < l.length) : ixSl z v (.int k (i : Int)) = some (elPtr z v i) := by
  obtain ⟨cs, h1, h2, h3⟩ := hl
  exact h1.ix k (by omega)
theorem SlR.ixI (hl : SlR ro h v z R l) (k : IntKind) {i : Int} (h0 : 0 ≤ i) (hi : i < l.length) : ixSl z v (.int k i) = some (elPtr z v i.toNat) := by
  have := hl.ix k (i := i.toNat) (by omega)
  rwa [Int.toNat_of_nonneg h0] at this
theorem elt_elt (a : Addr) (i j : Nat) : fwd (elt a i) j = elt a (i + j) := by
  obtain ⟨b, o, s⟩ := a
  cases s <;> simp [fwd, elt, Nat.add_assoc]
theorem Sl.fwd {cs : List (List Value)} (hl : Sl ro h v z cs) {i : Nat} (hi : i < cs.length) (k : Nat) : fwdP k (elPtr z v i) = some (elPtrK z v i k) := by
  rcases hl with ⟨rfl, rfl⟩ | ⟨a, cap, rfl, h2, h3, h4⟩
  · simp at hi
  · simp only [fwdP, elPtr, asP, Option.bind, elPtrK, elt_elt]
theorem Sl.load1K {cs : List (List Value)} (hl : Sl ro h v z cs) {i k : Nat} {x : List Value} {w : Value} (hx : cs[i]? = some x) (hk : x[k]? = some w) : V.load1 ro h (elPtrK z v i k) = some w := by
  rcases hl with ⟨rfl, rfl⟩ | ⟨a, cap, rfl, h2, h3, h4⟩
  · simp at hx
  · have h5 := (Sl.at h4.1 h4.2 i _ hx)
    have hkl := (List.getElem?_eq_some_iff.1 hk).1
    have hi := (List.getElem?_eq_some_iff.1 hx).1
    have h6 : i * z + k + 1 ≤ cs.length * z := by
      have : i * z + z ≤ cs.length * z := by rw [← Nat.succ_mul]; exact Nat.mul_le_mul_right _ hi
      omega
    have h7 := cellsAt_part h4.2 (off := i * z + k) (k := 1) h6
    have h8 := (flatten_part h4.1).2 i x hx
    have h9 : (cs.flatten.drop (i * z + k)).take 1 = [w] := by
      have : (cs.flatten.drop (i * z + k))[0]? = some w := by
        rw [← h8] at hk
        rw [List.getElem?_take, if_pos (by omega), List.getElem?_drop] at hk
        rw [List.getElem?_drop]; simpa using hk
      have h10 := take_drop_one (l := cs.flatten.drop (i * z + k)) (off := 0) this
      simpa using h10
    rw [h9] at h7
    simp only [V.load1, elPtrK, asP, Option.bind, h7]
theorem SlR.at (hl : SlR ro h v z R l) {i : Nat} (hi : i < l.length) : ∃ x, R x l[i] ∧ x.length = z ∧ V.loadA ro h z (elPtr z v i) = some (.agg x.toArray) ∧ (∀ k, fwdP k (elPtr z v i) = some (elPtrK z v i k)) ∧ ∀ k w, x[k]? = some w → V.load1 ro h (elPtrK z v i k) = some w := by
  obtain ⟨cs, h1, h2, h3⟩ := hl
  have hx : cs[i]? = some (cs[i]'(by omega)) := List.getElem?_eq_getElem _
  refine ⟨_, h3 i _ _ hx (List.getElem?_eq_getElem hi), ?_, h1.loadA hx, fun k => h1.fwd (by omega) k, fun k w hk => h1.load1K hx hk⟩
  rcases h1 with ⟨rfl, rfl⟩ | ⟨a, cap, rfl, g2, g3, g4⟩
  · simp at hx
  · exact g4.1 _ (List.getElem_mem _)
theorem SlR.at1 (hl : SlR ro h v 1 R l) {i : Nat} (hi : i < l.length) : ∃ w, R [w] l[i] ∧ V.load1 ro h (elPtr 1 v i) = some w := by
  obtain ⟨cs, h1, h2, h3⟩ := hl
  have hx : cs[i]? = some (cs[i]'(by omega)) := List.getElem?_eq_getElem _
  have hz : (cs[i]'(by omega)).length = 1 := by
    rcases h1 with ⟨rfl, rfl⟩ | ⟨a, cap, rfl, g2, g3, g4⟩
    · simp at hx
    · exact g4.1 _ (List.getElem_mem _)
  generalize cs[i]'(by omega) = x at hx hz
  match x, hz with
  | [w], _ => exact ⟨w, h3 i _ _ hx (List.getElem?_eq_getElem hi), h1.load1 hx⟩
end
theorem SlR.same {D : Type} {ro : Ro} {h h' : T Obj} {v : Value} {z : Nat} {R : List Value → D → Prop} {l : List D} (hl : SlR ro h v z R l) (hs : Sub h h') {i : Nat} (hi : i < l.length) : sameV (elPtr z v i) h h' := by
  obtain ⟨cs, h1, h2, h3⟩ := hl
  exact h1.same hs (by omega)
theorem param_mk {h : T Obj} {nx m : Nat} {v : Value} {ty : TypeId} {K : T Obj → Prop} (hf : Fr h m) (hm : m ≤ nx) (hK : ∀ h', Sub h h' → Fr h' (nx + 1) → h'.get nx = some (.cells (Value.cells v) ty) → (∀ k, k ≠ nx → h'.get k = h.get k) → K h') : newP h nx (.cells (Value.cells v) ty) K :=
  newP_mk (hK _ ((Sub.refl h).new hf hm) ((hf.mono (show m ≤ nx + 1 by omega)).upd (Nat.le_refl _) (by omega)) (by rw [T.get_upd_same]) fun k hk => T.get_upd_ne _ _ hk)
theorem obj_mk {h : T Obj} {nx m : Nat} {o : Obj} {K : T Obj → Prop} (hf : Fr h m) (hm : m ≤ nx) (hK : ∀ h', Sub h h' → Fr h' (nx + 1) → h'.get nx = some o → (∀ k, k ≠ nx → h'.get k = h.get k) → K h') : newP h nx o K :=
  newP_mk (hK _ ((Sub.refl h).new hf hm) ((hf.mono (show m ≤ nx + 1 by omega)).upd (Nat.le_refl _) (by omega)) (by rw [T.get_upd_same]) fun k hk => T.get_upd_ne _ _ hk)
theorem local_mk {P : Program} {h : T Obj} {a m n : Nat} {ty : TypeId} {zv v : Value} {x : List Value} {K : T Obj → Prop} (hz : zer P ty = some zv) (hzs : zv.cells.size = n) (hv : v.cells = x.toArray) (hx : x.length = n) (hok : x.all cellOk = true) (hf : Fr h m) (hm : m ≤ a)
    (hK : ∀ h', Sub h h' → Fr h' (a + 1) → h'.get a = some (.cells x.toArray ty) → (∀ k, k ≠ a → h'.get k = h.get k) → K h') :
    bindP (zer P ty) fun z => newP h a (.cells z.cells ty) fun h1 => bindP (storeN n h1 (ptr a) v) K := by
  refine bindP_mk hz (newP_mk (bindP_mk (storeA_own (l := zv.cells.toList) (vs := x) (e := ty) (f := (0, 0)) (by rw [T.get_upd_same]) hv hx (by simpa using hzs) hok) ?_))
  refine hK _ (((Sub.refl h).new hf hm).new hf hm) (((hf.mono (show m ≤ a + 1 by omega)).upd (Nat.le_refl _) (by omega)).upd (Nat.le_refl _) (by omega)) (by rw [T.get_upd_same]) fun k hk => ?_
  rw [T.get_upd_ne _ _ hk, T.get_upd_ne _ _ hk]
theorem BB : (∀ (h : T Obj) (i : Nat) (o : Obj) (K : T Obj → Prop), newP h i o K = K (h.upd i (some o))) ∧
    (∀ (h : T Obj) (i : Nat) (o : Obj) (K : T Obj → Prop), optP h i (some o) K = K (h.upd i (some o))) ∧
    (∀ (h : T Obj) (i : Nat) (K : T Obj → Prop), optP h i none K = K h) ∧
    (∀ {α : Type} (a : α) (K : α → Prop), bindP (some a) K = K a) ∧
    (∀ (A B : Prop), condP (.bool true) A B = A) ∧
    (∀ (A B : Prop), condP (.bool false) A B = B) ∧
    (∀ (h : T Obj) (nx : Nat) (A : KV → Prop) (K : KV), ifP (.bool true) true h nx A K = A K) ∧
    (∀ (h : T Obj) (nx : Nat) (A : KV → Prop) (K : KV), ifP (.bool false) false h nx A K = A K) ∧
    (∀ (h : T Obj) (nx : Nat) (A : KV → Prop) (K : KV), ifP (.bool true) false h nx A K = K undef h nx) ∧
    (∀ (h : T Obj) (nx : Nat) (A : KV → Prop) (K : KV), ifP (.bool false) true h nx A K = K undef h nx) ∧
    (∀ (A : Prop) (B : Nat → Prop) (D : Prop), exP .normal A B D = A) ∧
    (∀ (i : Nat) (A : Prop) (B : Nat → Prop) (D : Prop), exP (.exit i) A B D = B i) ∧
    (∀ (A : Prop) (B : Nat → Prop) (D : Prop), exP .ret A B D = D) ∧
    (∀ (A B : Prop), beqP true A B = A) ∧
    (∀ (A B : Prop), beqP false A B = B) ∧
    (∀ (cs : Array Value), Value.cells (.agg cs) = cs) ∧
    (∀ (k : IntKind) (n : Int), Value.cells (.int k n) = #[.int k n]) ∧
    (∀ (b : Bool), Value.cells (.bool b) = #[.bool b]) ∧
    (∀ (k : IntKind) (a b : Int), intB .add (.int k a) (.int k b) = some (.int k (wr k (a + b)))) ∧
    (∀ (k : IntKind) (a b : Int), intB .sub (.int k a) (.int k b) = some (.int k (wr k (a - b)))) ∧
    (∀ (k : IntKind) (a b : Int), intB .mul (.int k a) (.int k b) = some (.int k (wr k (a * b)))) ∧
    (∀ (k : IntKind) {a b : Int} (ha : 0 ≤ a) (hb : 0 < b), intB .quo (.int k a) (.int k b) = some (.int k (wr k (a / b)))) ∧
    (∀ (k : IntKind) {a b : Int} (ha : 0 ≤ a) (hb : 0 < b), intB .rem (.int k a) (.int k b) = some (.int k (a % b))) ∧
    (∀ (k' : IntKind) (a : Nat) {b : Int} (hb : 0 ≤ b) (hk : b ≤ 64), intB .shr (.int .u64 (a : Int)) (.int k' b) = some (.int .u64 ((a / 2 ^ b.toNat : Nat) : Int))) ∧
    (∀ (k' : IntKind) {b : Int} (hb : 0 ≤ b) (hk : b < 64), intB .shl (.int .u64 1) (.int k' b) = some (.int .u64 ((2 ^ b.toNat : Nat) : Int))) ∧
    (∀ {a b : Int} (ha : 0 ≤ a) (hb : 0 ≤ b) (ha' : a ≤ 18446744073709551615) (hb' : b ≤ 18446744073709551615), intB .and (.int .u64 a) (.int .u64 b) = some (.int .u64 (Nat.land a.toNat b.toNat : Nat))) ∧
    (∀ {a b : Int} (ha : 0 ≤ a) (hb : 0 ≤ b) (ha' : a ≤ 18446744073709551615) (hb' : b ≤ 18446744073709551615), intB .or (.int .u64 a) (.int .u64 b) = some (.int .u64 (Nat.lor a.toNat b.toNat : Nat))) ∧
    (∀ {a b : Int} (ha : 0 ≤ a) (hb : 0 ≤ b) (ha' : a ≤ 18446744073709551615) (hb' : b ≤ 18446744073709551615), intB .xor (.int .u64 a) (.int .u64 b) = some (.int .u64 (Nat.xor a.toNat b.toNat : Nat))) ∧
    (∀ {n : Int} (h1 : -9223372036854775808 ≤ n) (h2 : n ≤ 9223372036854775807), wr .i64 n = n) ∧
    (∀ {n : Int} (h1 : 0 ≤ n) (h2 : n ≤ 255), wr .u8 n = n) ∧
    (∀ {n : Int} (h1 : 0 ≤ n) (h2 : n ≤ 18446744073709551615), wr .u64 n = n) ∧
    (∀ (k k' : IntKind) (n : Int), convI k (.int k' n) = some (.int k (wr k n))) ∧
    (∀ (b : Bool), unV .not (.bool b) = some (.bool (!b))) ∧
    (∀ (a b : Bool), boolB .eql (.bool a) (.bool b) = some (.bool (a == b))) ∧
    (∀ (a b : Bool), boolB .neq (.bool a) (.bool b) = some (.bool (!(a == b)))) ∧
    (∀ (a b : Value), pickV (.bool true) a b = some a) ∧
    (∀ (a b : Value), pickV (.bool false) a b = some b) ∧
    (∀ (a : Option Addr) (n c : Nat), lenSl (.slice a n c) = some (.int .i64 n)) ∧
    (∀ (id : Nat), ptr id = at_ id 0 0) ∧
    (∀ (k id off z : Nat), fwdP k (at_ id off z) = some (at_ id (off + k) z)) ∧
    (∀ (n z id off y : Nat) (k : IntKind) {i : Int} (h0 : 0 ≤ i) (h1 : i < n), ixArr n z (at_ id off y) (.int k i) = some (at_ id (off + i.toNat * z) y)) ∧
    (∀ (ro : Ro) (h : T Obj) (id off z : Nat), load1 ro h (at_ id off z) = (cellsIn (h.get id)).bind fun c => c[off]?) ∧
    (∀ (ro : Ro) (h : T Obj) (n id off z : Nat), loadA ro h n (at_ id off z) = (cellsIn (h.get id)).bind fun c => if off + n ≤ c.length then some (.agg ((c.drop off).take n).toArray) else none) ∧
    (∀ (n : Nat) (h : T Obj) (id off z : Nat) (v : Value), storeN n h (at_ id off z) v = if v.cells.size = n then (putIn (h.get id) off v.cells.toList).bind (fun o => some (h.upd id (some o))) else none) ∧
    (∀ (c : Array Value) (e : TypeId) (f : Nat × Nat), cellsIn (some (.cells c e f)) = some c.toList) ∧
    (∀ {c : Array Value} {e : TypeId} {f : Nat × Nat} {off : Nat} {vs : List Value} (h1 : off + vs.length ≤ c.size) (h2 : vs.all cellOk = true), putIn (some (.cells c e f)) off vs = some (.cells (over c.toList off vs).toArray e f)) ∧
    (∀ (l : List Value), l.toArray.toList = l) ∧
    (∀ (l : List Value), l.toArray.size = l.length) :=
  ⟨@newP_eq, @optP_some, @optP_none, @bindP_some', @condP_true, @condP_false, @ifP_tt, @ifP_ff, @ifP_tf, @ifP_ft, @exP_normal, @exP_exit, @exP_ret, @beqP_true, @beqP_false, @Value.cells_agg, @cells_int, @cells_bool, @intB_add, @intB_sub, @intB_mul, @intB_quo, @intB_rem, @intB_shr_u64, @intB_shl1_u64, @intB_and64, @intB_or64, @intB_xor64, @wr_i64, @wr_u8, @wr_u64, @convI_int, @unV_not, @boolB_eql, @boolB_neq, @pickV_true, @pickV_false, @lenSl_slice, @ptr_at, @fwdP_at, @ixArr_at, @load1_own, @loadA_own, @storeN_own, @cellsIn_some, @putIn_cells, @tl, @ts⟩
theorem B2 : (∀ (h : Decidable True), @decide True h = true) ∧ (∀ (h : Decidable False), @decide False h = false) ∧ ((!true) = false) ∧ ((!false) = true) ∧
    (∀ {α β : Type} (a : α) (f : α → Option β), (some a).bind f = f a) ∧ (∀ {α : Type} (t : T α) (k : Nat) (o : Option α), (t.upd k o).get k = o) ∧ (∀ {α : Type} (t : T α) {k i : Nat} (o : Option α), i ≠ k → (t.upd k o).get i = t.get i) ∧
    (∀ {α : Type} {c : Prop} {h : Decidable c} {a b : α}, c → @ite α c h a b = a) ∧ (∀ n : Nat, 0 + n = n) ∧ (∀ n : Nat, n * 1 = n) ∧ (∀ n : Nat, n + 0 = n) ∧ (∀ n : Nat, (n : Int).toNat = n) ∧ (∀ n : Nat, n ≤ n) :=
  ⟨fun _ => decide_true .., fun _ => decide_false .., rfl, rfl, fun _ _ => rfl, T.get_upd_same, fun t _ _ o h => T.get_upd_ne t o h, fun h => if_pos h, Nat.zero_add, Nat.mul_one, fun _ => rfl, fun _ => rfl, Nat.le_refl⟩
theorem CC : (∀ {k : IntKind} {a b : Int}, a < b → intB .lss (.int k a) (.int k b) = some (.bool true)) ∧ (∀ {k : IntKind} {a b : Int}, b ≤ a → intB .lss (.int k a) (.int k b) = some (.bool false)) ∧
    (∀ {k : IntKind} {a b : Int}, a ≤ b → intB .leq (.int k a) (.int k b) = some (.bool true)) ∧ (∀ {k : IntKind} {a b : Int}, b < a → intB .leq (.int k a) (.int k b) = some (.bool false)) ∧
    (∀ {k : IntKind} {a b : Int}, b < a → intB .gtr (.int k a) (.int k b) = some (.bool true)) ∧ (∀ {k : IntKind} {a b : Int}, a ≤ b → intB .gtr (.int k a) (.int k b) = some (.bool false)) ∧
    (∀ {k : IntKind} {a b : Int}, b ≤ a → intB .geq (.int k a) (.int k b) = some (.bool true)) ∧ (∀ {k : IntKind} {a b : Int}, a < b → intB .geq (.int k a) (.int k b) = some (.bool false)) ∧
    (∀ {k : IntKind} {a b : Int}, a = b → intB .eql (.int k a) (.int k b) = some (.bool true)) ∧ (∀ {k : IntKind} {a b : Int}, a ≠ b → intB .eql (.int k a) (.int k b) = some (.bool false)) ∧
    (∀ {k : IntKind} {a b : Int}, a ≠ b → intB .neq (.int k a) (.int k b) = some (.bool true)) ∧ (∀ {k : IntKind} {a b : Int}, a = b → intB .neq (.int k a) (.int k b) = some (.bool false)) := by
  refine ⟨?_, ?_, ?_, ?_, ?_, ?_, ?_, ?_, ?_, ?_, ?_, ?_⟩ <;> intro k a b h
  · rw [intB_lss, decide_eq_true h]
  · rw [intB_lss, decide_eq_false (by omega)]
  · rw [intB_leq, decide_eq_true h]
  · rw [intB_leq, decide_eq_false (by omega)]
  · rw [intB_gtr, decide_eq_true h]
  · rw [intB_gtr, decide_eq_false (by omega)]
  · rw [intB_geq, decide_eq_true h]
  · rw [intB_geq, decide_eq_false (by omega)]
  · rw [intB_eql, decide_eq_true h]
  · rw [intB_eql, decide_eq_false h]
  · rw [intB_neq, decide_eq_false h]; rfl
  · rw [intB_neq, decide_eq_true h]; rfl
end V
end Go.Proofs.YtjndkdmkecpllaaGreat
set_option linter.unusedVariables false
set_option linter.unusedSimpArgs false
noncomputable section
namespace Go.Proofs.YtjndkdmkecpllaaGreat
namespace V
def sblk : Value → Option Nat
  | .slice (some a) _ _ => some a.block
  | _ => none
def OwnT (h : T Obj) (v : Value) (z : Nat) (e : TypeId) (l : List (List Value)) (lo : Nat) : Prop :=
  (v = .slice none 0 0 ∧ l = []) ∨ ∃ id, lo ≤ id ∧ v = .slice (some (own id z)) l.length l.length ∧ (∀ x ∈ l, x.length = z) ∧ h.get id = some (.cells l.flatten.toArray e)
theorem OwnT.nil {h : T Obj} {z : Nat} {e : TypeId} {lo : Nat} : OwnT h (.slice none 0 0) z e [] lo := .inl ⟨rfl, rfl⟩
theorem OwnT.mono {h : T Obj} {v : Value} {z : Nat} {e : TypeId} {l : List (List Value)} {lo lo' : Nat} (ho : OwnT h v z e l lo) (hl : lo' ≤ lo) : OwnT h v z e l lo' := by
  rcases ho with ho | ⟨id, h1, h2⟩
  · exact .inl ho
  · exact .inr ⟨id, by omega, h2⟩
theorem OwnT.sl {ro : Ro} {h : T Obj} {v : Value} {z : Nat} {e : TypeId} {l : List (List Value)} {lo : Nat} (ho : OwnT h v z e l lo) : Sl ro h v z l := by
  rcases ho with ho | ⟨id, _, rfl, h4, h5⟩
  · exact .inl ho
  · exact Sl.own h5 h4 (Nat.le_refl _)
def Kp (v : Value) (h h' : T Obj) : Prop := ∀ k o, h.get k = some o → sblk v ≠ some k → h'.get k = some o
theorem Kp.trans {v : Value} {a b c : T Obj} (h1 : Kp v a b) (h2 : Sub b c) : Kp v a c := fun k o hk hv => h2 k o (h1 k o hk hv)
theorem OwnT.keep {h h' : T Obj} {v w : Value} {z : Nat} {e : TypeId} {l : List (List Value)} {lo : Nat} (ho : OwnT h v z e l lo) (hk : Kp w h h') (hne : ∀ id, sblk v = some id → sblk w ≠ some id) : OwnT h' v z e l lo := by
  rcases ho with ho | ⟨id, h1, rfl, h4, h5⟩
  · exact .inl ho
  · exact .inr ⟨id, h1, rfl, h4, hk id _ h5 (hne id rfl)⟩
theorem OwnT.keepS {h h' : T Obj} {v : Value} {z : Nat} {e : TypeId} {l : List (List Value)} {lo : Nat} (ho : OwnT h v z e l lo) (hk : Sub h h') : OwnT h' v z e l lo := by
  rcases ho with ho | ⟨id, h1, rfl, h4, h5⟩
  · exact .inl ho
  · exact .inr ⟨id, h1, rfl, h4, hk id _ h5⟩
theorem OwnT.ne {h : T Obj} {v : Value} {z : Nat} {e e' : TypeId} {l : List (List Value)} {lo k : Nat} {c : Array Value} {f : Nat × Nat} (ho : OwnT h v z e l lo) (hk : h.get k = some (.cells c e' f)) (he : e' ≠ e) : sblk v ≠ some k := by
  rcases ho with ⟨rfl, _⟩ | ⟨id, _, rfl, _, h5⟩
  · intro h; cases h
  · intro h
    have : id = k := Option.some.inj h
    subst this
    rw [hk] at h5
    simp only [Option.some.injEq, Obj.cells.injEq] at h5
    exact he h5.2.1
theorem OwnT.lt {h : T Obj} {v : Value} {z : Nat} {e : TypeId} {l : List (List Value)} {lo k : Nat} (ho : OwnT h v z e l lo) (hk : k < lo) : sblk v ≠ some k := by
  rcases ho with ⟨rfl, _⟩ | ⟨id, h1, rfl, _, h5⟩
  · intro h; cases h
  · intro h
    have : id = k := Option.some.inj h
    omega
theorem Fr.lt' {h : T Obj} {n k : Nat} {o : Obj} (hf : Fr h n) (hk : h.get k = some o) : k < n := by
  rcases Nat.lt_or_ge k n with h1 | h1
  · exact h1
  · rw [hf k h1] at hk; cases hk
theorem OwnT.sub {h0 h h' : T Obj} {v : Value} {z : Nat} {e : TypeId} {l : List (List Value)} {lo n0 : Nat} (ho : OwnT h v z e l lo) (hk : Kp v h h') (hf : Fr h0 n0) (hn : n0 ≤ lo) (hs : Sub h0 h) : Sub h0 h' := fun k o hk0 => hk k o (hs k o hk0) (ho.lt (by have := hf.lt' hk0; omega))
theorem appendT {P : Program} {ro : Ro} {h : T Obj} {v x : Value} {z nx lo : Nat} {t e : TypeId} {i : TypeInfo} {zv : Value} {l m : List (List Value)} (ho : OwnT h v z e l lo) (hx : Sl ro h x z m) (hu : und P t = some (.slice e)) (hi' : tin P e = some i) (hz : i.size = z) (hz0 : 0 < z) (hzer : zer P e = some zv) (hzs : zv.cells.size = z)
    (hm : m ≠ []) (hok : m.flatten.all cellOk = true) (hb : (l.length + m.length) * i.bytes ≤ big) (hb2 : l.length + m.length ≤ big) (hlo : lo ≤ nx) (hf : Fr h nx) :
    ∃ h', appendV P ro h nx #[t, t] [v, x] = some (.slice (some (own nx z)) (l ++ m).length (l ++ m).length, h', nx + 1) ∧ OwnT h' (.slice (some (own nx z)) (l ++ m).length (l ++ m).length) z e (l ++ m) lo ∧ Kp v h h' ∧ Fr h' (nx + 1) ∧ (∀ k, k ≠ nx → h'.get k = h.get k ∨ h'.get k = none) := by
  have fin : ∀ h' : T Obj, (∀ k, k ≠ nx → h'.get k = h.get k ∨ h'.get k = none) → Fr h' (nx + 1) := fun h' h2 k hk => by
    rcases h2 k (by omega) with h3 | h3
    · rw [h3]; exact hf k (by omega)
    · exact h3
  rcases ho with ⟨rfl, rfl⟩ | ⟨id, h1, rfl, h4, h5⟩
  · obtain ⟨h', q1, q2, q3, q4⟩ := append_own (P := P) (t := t) (lo := nx) (hi := nx) (Own.nil (h := h) (z := z) (e := e)) hx hu hi' hz hz0 hzer hzs hm hok (by simpa using hb) (by simpa using hb2) (Nat.le_refl _) (Nat.le_refl _)
    refine ⟨h', q1, ?_, fun k o hk _ => ?_, fin h' q4, q4⟩
    · rcases q2 with ⟨h6, _⟩ | ⟨id, h6, h7, h8, h9, h10⟩
      · cases h6
      · exact .inr ⟨id, by omega, h8, h9, h10⟩
    · have := hf.lt' hk
      rw [q3 k (.inl this) (by omega)]; exact hk
  · have hid := hf.lt' h5
    obtain ⟨h', q1, q2, q3, q4⟩ := append_own (P := P) (t := t) (lo := id) (hi := id + 1) (.inr ⟨id, Nat.le_refl _, by omega, rfl, h4, h5⟩ : Own h _ z e l id (id + 1)) hx hu hi' hz hz0 hzer hzs hm hok hb hb2 (show id ≤ nx by omega) (by omega)
    refine ⟨h', q1, ?_, fun k o hk hne => ?_, fin h' q4, q4⟩
    · rcases q2 with ⟨h6, _⟩ | ⟨id2, h6, h7, h8, h9, h10⟩
      · cases h6
      · exact .inr ⟨id2, by omega, h8, h9, h10⟩
    · have h7 := hf.lt' hk
      have h8 : id ≠ k := fun h => hne (by rw [← h]; rfl)
      rw [q3 k (by omega) (by omega)]; exact hk
theorem append_none {P : Program} {ro : Ro} {h : T Obj} {v x : Value} {z nx lo : Nat} {t e : TypeId} {i : TypeInfo} {l : List (List Value)} (ho : OwnT h v z e l lo) (hx : Sl ro h x z []) (hu : und P t = some (.slice e)) (hi' : tin P e = some i) :
    appendV P ro h nx #[t, t] [v, x] = some (v, h, nx) := by
  obtain ⟨a, len, rfl⟩ : ∃ a len, v = .slice a len len := by
    rcases ho with ⟨rfl, _⟩ | ⟨id, _, rfl, _⟩
    · exact ⟨none, 0, rfl⟩
    · exact ⟨_, _, rfl⟩
  have hs : srcV P ro h e i.size i.bytes t x = some (0, []) := by
    rcases hx with ⟨rfl, _⟩ | ⟨a, cap, rfl, h2, h3, h4, h5⟩
    · simp only [srcV, hu]
    · have : cellsAt ro h a (0 * i.size) = some [] := by
        have : cellsAt ro h a (0 * z) = some [] := by simpa using h5
        rw [Nat.zero_mul] at this ⊢; exact this
      simp only [srcV, hu, List.length_nil, this, Option.bind]
  have hb : Nat.ble (len + 0) len = true := Nat.ble_eq_true_of_le (by omega)
  simp only [appendV, List.getElem?_toArray, List.getElem?_cons_zero, List.getElem?_cons_succ, hu, hi', Option.bind_some, hs, hb]
theorem append_any {P : Program} {ro : Ro} {h : T Obj} {v x : Value} {z nx lo : Nat} {t e : TypeId} {i : TypeInfo} {zv : Value} {l m : List (List Value)} (ho : OwnT h v z e l lo) (hx : Sl ro h x z m) (hu : und P t = some (.slice e)) (hi' : tin P e = some i) (hz : i.size = z) (hz0 : 0 < z) (hzer : zer P e = some zv) (hzs : zv.cells.size = z)
    (hok : m.flatten.all cellOk = true) (hb : (l.length + m.length) * i.bytes ≤ big) (hb2 : l.length + m.length ≤ big) (hlo : lo ≤ nx) (hf : Fr h nx) :
    ∃ r h' n', appendV P ro h nx #[t, t] [v, x] = some (r, h', n') ∧ OwnT h' r z e (l ++ m) lo ∧ Kp v h h' ∧ nx ≤ n' ∧ Fr h' n' ∧ (sblk r = none ∨ sblk r = sblk v ∨ sblk r = some nx) := by
  cases m with
  | nil => exact ⟨v, h, nx, append_none ho hx hu hi', by rw [List.append_nil]; exact ho, (fun k o hk _ => hk), Nat.le_refl _, hf, .inr (.inl rfl)⟩
  | cons y m =>
    obtain ⟨h', q1, q2, q3, q4, q5⟩ := appendT (P := P) (t := t) ho hx hu hi' hz hz0 hzer hzs (by simp) hok hb hb2 hlo hf
    exact ⟨_, h', nx + 1, q1, q2, q3, by omega, q4, .inr (.inr rfl)⟩
end V
end Go.Proofs.YtjndkdmkecpllaaGreat
set_option linter.unusedVariables false
set_option linter.unusedSimpArgs false
noncomputable section
namespace Go.Proofs.YtjndkdmkecpllaaGreat
namespace V
open Go.Deep
theorem roCells_append {ro : Ro} : ∀ {n m : Nat} {a : Addr} {l1 l2 : List Value}, a.spot = none → roCells ro a n = some l1 → roCells ro ⟨a.block, a.off + n, none⟩ m = some l2 → roCells ro a (n + m) = some (l1 ++ l2)
  | 0, m, a, l1, l2, hs, h1, h2 => by
    cases h1
    have : (⟨a.block, a.off + 0, none⟩ : Addr) = a := by cases a; simp_all
    rw [this] at h2
    simpa using h2
  | n + 1, m, a, l1, l2, hs, h1, h2 => by
    obtain ⟨v, g1, h1⟩ := bind_some' h1
    obtain ⟨r, g2, h1⟩ := bind_some' h1
    cases h1
    have ih := roCells_append (n := n) (m := m) (a := ⟨a.block, a.off + 1, none⟩) rfl g2 (by rw [show a.off + 1 + n = a.off + (n + 1) by omega]; exact h2)
    rw [show n + 1 + m = n + m + 1 by omega]
    simp [roCells, g1, ih]
section
variable {H : Type} {enc : TypeId × Value → H} {P : Program} {W : World}
theorem normL_get {N : Nat} : ∀ {l l' : List Value}, normL N l = some l' → ∀ {j : Nat} {y : Value}, l'[j]? = some y → ∃ x, l[j]? = some x ∧ norm N x = some y
  | [], l', h, j, y, hy => by cases h; simp at hy
  | v :: l, l', h, j, y, hy => by
    obtain ⟨v', h1, h⟩ := bind_some' h
    obtain ⟨r, h2, h⟩ := bind_some' h
    cases h
    cases j with
    | zero => simp at hy; subst hy; exact ⟨v, rfl, h1⟩
    | succ j =>
      obtain ⟨x, h3, h4⟩ := normL_get h2 (j := j) (by simpa using hy)
      exact ⟨x, by simpa using h3, h4⟩
theorem cells_ro {a : Addr} {n : Nat} {cs cs' : List Value} (h : W.cells? 0 a n = some cs) (hn : normL W.heap.size cs = some cs') (ha : a.spot = none) : roCells (roOf W) a n = some cs' := by
  obtain ⟨_, hlen, hg⟩ := World.cells?_some h
  have hl := (normL_lr (φ := fun _ => none) hn).length
  have := roCells_of (ro := roOf W) (l := cs') (a := a) ha fun j y hy => by
    obtain ⟨x, hx, hxy⟩ := normL_get hn hy
    have hj : j < n := by rw [← hlen, ← hl]; exact (List.getElem?_eq_some_iff.1 hy).1
    have hc := hg j hj
    rw [add_spot ha, hx] at hc
    have hb : a.block < W.heap.size := by
      rcases Nat.lt_or_ge a.block W.heap.size with h1 | h1
      · exact h1
      · simp [World.cell?, Array.getElem?_eq_none h1] at hc
    have hbb : Nat.blt a.block W.heap.size = true := by simp [Nat.blt]; omega
    simp only [roOf, hbb, hc, Option.bind, hxy]
  rw [hl, hlen] at this
  exact this
theorem norm_slice {N : Nat} {a : Addr} {l c : Nat} (hs : a.spot = none) (hb : a.block < N) (hc : 0 < c) : norm N (.slice (some a) l c) = some (.slice (some a) l c) := by
  have : Nat.blt a.block N = true := by simp [Nat.blt]; omega
  cases c with
  | zero => omega
  | succ c => cases l <;> simp [norm, hs, this]
theorem open_sl {t e : TypeId} {z : Nat} (ht : P.underlying t = some (.slice e)) (hz : P.cellsOf e = z) (hz0 : 0 < z) {fuel : Nat} {cs : List Value} {x : DataW H × List MemPlace} (h : DataW.trod enc P W 0 (fun _ => true) true fuel t cs = some x)
    {El : List Value → Prop} (hel : ∀ n cs' y, DataW.trod enc P W 0 (fun _ => true) true n e cs' = some y → ∃ cs'', normL W.heap.size cs' = some cs'' ∧ El cs'') :
    ∃ v v', cs = [v] ∧ norm W.heap.size v = some v' ∧ ∃ l, Sl (roOf W) .e v' z l ∧ ∀ x ∈ l, El x := by
  rcases open_slice ht h with ⟨rfl, _⟩ | ⟨a, len, cap, m, n, D, Pl, rfl, _, hle, _, hm, _, hx⟩
  · exact ⟨_, _, rfl, rfl, [], Sl.nil, fun x hx => by cases hx⟩
  · simp only [if_true] at hm
    subst hm
    refine ⟨.slice (some a) len m, ?_⟩
    rcases Nat.eq_zero_or_pos m with hc0 | hc0
    · subst hc0
      obtain rfl : len = 0 := by omega
      exact ⟨.slice (some noAddr) 0 0, rfl, rfl, [], .inr ⟨noAddr, 0, rfl, Nat.le_refl _, .inl rfl, by simp, by simp [cellsAt, noAddr, roCells]⟩, fun x hx => by cases hx⟩
    · have h0 : a.spot = none ∧ a.block < W.heap.size := by
        obtain ⟨cs', h1, _⟩ := hx 0 hc0
        rw [hz] at h1
        obtain ⟨_, hl, hg⟩ := World.cells?_some h1
        have h2 := hg 0 hz0
        have h3 : cs'[0]? = some (cs'[0]'(by omega)) := List.getElem?_eq_getElem (by omega)
        rw [h3] at h2
        have hsp : a.spot = none := by
          have := World.cell?_spot h2
          simpa [Addr.add] using this
        refine ⟨hsp, ?_⟩
        rcases Nat.lt_or_ge a.block W.heap.size with h4 | h4
        · exact h4
        · rw [add_spot hsp, add_spot rfl] at h2
          simp [World.cell?, Array.getElem?_eq_none h4] at h2
      obtain ⟨hs, hb⟩ := h0
      refine ⟨.slice (some a) len m, rfl, norm_slice hs hb hc0, ?_⟩
      have key : ∀ k, k ≤ len → ∃ l : List (List Value), l.length = k ∧ (∀ x ∈ l, x.length = z) ∧ (∀ x ∈ l, El x) ∧ roCells (roOf W) a (k * z) = some l.flatten := by
        intro k
        induction k with
        | zero => intro _; exact ⟨[], rfl, by simp, by simp, by simp [roCells]⟩
        | succ k ih =>
          intro hk
          obtain ⟨l, l1, l2, l3, l4⟩ := ih (by omega)
          obtain ⟨cs', h1, h2⟩ := hx k (by omega)
          rw [hz] at h1
          obtain ⟨cs'', h3, h4⟩ := hel _ _ _ h2
          have h5 := cells_ro h1 h3 (by rw [add_spot hs])
          have hlen : cs''.length = z := roCells_length h5
          rw [add_spot hs] at h5
          refine ⟨l ++ [cs''], by simp [l1], ?_, ?_, ?_⟩
          · intro x hx2
            rcases List.mem_append.1 hx2 with h6 | h6
            · exact l2 x h6
            · simp at h6; subst h6; exact hlen
          · intro x hx2
            rcases List.mem_append.1 hx2 with h6 | h6
            · exact l3 x h6
            · simp at h6; subst h6; exact h4
          · rw [Nat.succ_mul]
            have := roCells_append hs l4 h5
            simpa using this
      obtain ⟨l, l1, l2, l3, l4⟩ := key len (Nat.le_refl _)
      refine ⟨l, .inr ⟨a, m, by rw [l1], by omega, .inl hs, l2, ?_⟩, l3⟩
      unfold cellsAt
      rw [hs, l1]
      exact l4
end
end V
end Go.Proofs.YtjndkdmkecpllaaGreat
set_option linter.unusedVariables false
set_option linter.unusedSimpArgs false
namespace Go.Proofs.YtjndkdmkecpllaaGreat
namespace V
attribute [local irreducible] bindP ifP condP newP optP exP beqP
def word (m i : Nat) : Nat := m / 2 ^ (64 * i) % 2 ^ 64
theorem word_lt (m i : Nat) : word m i < 18446744073709551616 := by unfold word; exact Nat.mod_lt _ (by decide)
theorem testBit_word (m i j : Nat) : (word m i).testBit j = (decide (j < 64) && m.testBit (64 * i + j)) := by
  unfold word
  rw [Nat.testBit_mod_two_pow, Nat.testBit_div_two_pow, Nat.add_comm]
theorem word_has (m b : Nat) : (word m (b / 64) / 2 ^ (b % 64) % 2 = 1) ↔ m.testBit b = true := by
  have h := testBit_word m (b / 64) (b % 64)
  rw [Nat.testBit_eq_decide_div_mod_eq] at h
  have h1 : b % 64 < 64 := Nat.mod_lt _ (by decide)
  rw [Nat.div_add_mod] at h
  simp only [h1, decide_true, Bool.true_and] at h
  rw [← h]; simp
section
variable {α β : Type} [DecidableEq α] [DecidableEq β]
def addN (s : List α) (p : α) : List α := if p ∈ s then s else s ++ [p]
def dd (l : List α) : List α := l.foldl addN []
def pos (s : List α) (p : α) : Nat := s.idxOf p
def ix (l : List α) (p : α) : Nat := pos (dd l) p
end
@[irreducible] def bs : List Nat := List.range 256
def sig (l : List Nat) (b : Nat) : List Bool := l.map fun s => s.testBit b
def sigs (l : List Nat) : List (List Bool) := bs.map (sig l)
def many (l : List Nat) : Nat := (dd (sigs l)).length
def setL (m : Nat) : List Value := [.int .u64 (word m 0), .int .u64 (word m 1), .int .u64 (word m 2), .int .u64 (word m 3)]
def setV (m : Nat) : Value := .agg #[.int .u64 (word m 0), .int .u64 (word m 1), .int .u64 (word m 2), .int .u64 (word m 3)]
theorem setV_cells (m : Nat) : Value.cells (setV m) = (setL m).toArray := rfl
theorem setL_get {m i : Nat} (hi : i < 4) : (setL m)[i]? = some (.int .u64 (word m i)) := by
  match i, hi with
  | 0, _ => rfl
  | 1, _ => rfl
  | 2, _ => rfl
  | 3, _ => rfl
theorem cast_le {q : Nat} (h : q < 18446744073709551616) : (q : Int) ≤ 18446744073709551615 := by omega
theorem ref01_Has_c {ro : Ro} {m b : Nat} (hb : b < 256) {h : T Obj} {nx : Nat} {K : KV} (hf : Fr h nx) (hK : ∀ nx', nx ≤ nx' → K (.bool (m.testBit b)) h nx') : callP Tryz.prog ro i_ref01_Has [setV m, .int .u8 b] h nx K := by
  apply ref01_Has_of
  unfold ref01_Has
  have h1 : ((b:Int) / 64).toNat = b / 64 := by omega
  have h2 : ((b:Int) % 64).toNat = b % 64 := by omega
  have h3 := word_lt m (b / 64)
  have h4 : b / 64 < 4 := by omega
  have h5 := setL_get (m := m) h4
  have h6 : word m (b / 64) / 2 ^ (b % 64) ≤ word m (b / 64) := Nat.div_le_self _ _
  have h7 : ((word m (b / 64) / 2 ^ (b % 64) : Nat) : Int) ≤ 18446744073709551615 := cast_le (Nat.lt_of_le_of_lt h6 h3)
  simp (disch := first | omega | exact Int.natCast_nonneg _ | assumption) only [newP_eq, setV_cells, bindP_some', intB_quo, intB_rem, intB_shr_u64, intB_eql, wr_u8, wr_u64, ptr_at, ixArr_at, load1_own, T.get_upd_same, cellsIn_some, Option.bind, h1, h2, Nat.zero_add, Nat.mul_one, h5]
  refine ⟨h, (Sub.refl h).new hf (Nat.le_refl _), ?_⟩
  have e : (decide ((((word m (b / 64) / 2 ^ (b % 64) : Nat) : Int) % 2) = 1)) = m.testBit b := by
    have h9 := word_has m b
    cases hm : m.testBit b with
    | true => rw [hm] at h9; have := h9.2 rfl; apply decide_eq_true; omega
    | false =>
      rw [hm] at h9
      have : ¬ (word m (b / 64) / 2 ^ (b % 64) % 2 = 1) := fun e => by have := h9.1 e; cases this
      apply decide_eq_false; omega
  rw [e]
  exact hK _ (by omega)
structure PosD where
  s : Nat
  lo : Int
  hi : Int
  rule : Int
  last : Bool
  next : List Int
structure GlD where
  first : List Int
  p : List PosD
def rz (last many : Int) : List Int → Bool
  | [] => true
  | x :: r => decide (last < x) && (decide (x < many) && rz x many r)
def dummy : PosD := ⟨0, 0, 0, 0, false, []⟩
def GlD.at (g : GlD) (i : Int) : PosD := g.p.getD i.toNat dummy
theorem rz_cons (a m x : Int) (r : List Int) : rz a m (x :: r) = (decide (a < x) && (decide (x < m) && rz x m r)) := rfl
theorem rz_mem : ∀ {l : List Int} {a m : Int}, rz a m l = true → ∀ x ∈ l, a < x ∧ x < m
  | [], a, m, h, x, hx => by cases hx
  | y :: r, a, m, h, x, hx => by
    simp only [rz, Bool.and_eq_true, decide_eq_true_eq] at h
    rcases List.mem_cons.1 hx with rfl | hx
    · exact ⟨h.1, h.2.1⟩
    · have := rz_mem h.2.2 x hx; omega
def posL (p : PosD) (nv : Value) : List Value := setL p.s ++ [.int .i64 p.lo, .int .i64 p.hi, .int .i64 p.rule, .bool p.last, nv]
def RPos (ro : Ro) (h : T Obj) (x : List Value) (p : PosD) : Prop := ∃ nv, x = posL p nv ∧ ZI ro h nv p.next ∧ p.s < 2 ^ 256
theorem RPos.sub {ro : Ro} {h h' : T Obj} (hs : Sub h h') : ∀ x d, RPos ro h x d → RPos ro h' x d := fun x d ⟨nv, h1, h2, h3⟩ => ⟨nv, h1, h2.sub hs, h3⟩
def RG (ro : Ro) (h : T Obj) (v : Value) (g : GlD) : Prop := ∃ a b, v = .agg #[a, b] ∧ ZI ro h a g.first ∧ SlR ro h b 9 (RPos ro h) g.p
theorem RG.sub {ro : Ro} {h h' : T Obj} {v : Value} {g : GlD} (hs : Sub h h') (hg : RG ro h v g) : RG ro h' v g := by
  obtain ⟨a, b, h1, h2, h3⟩ := hg
  exact ⟨a, b, h1, h2.sub hs, h3.sub hs (RPos.sub hs)⟩
def findI {D : Type} (q : D → Bool) (k : Int) : List D → Int
  | [] => -1
  | x :: r => if q x then k else findI q (k + 1) r
theorem findI_cons {D : Type} (q : D → Bool) (k : Int) (x : D) (r : List D) : findI q k (x :: r) = if q x then k else findI q (k + 1) r := rfl
theorem findI_any {D : Type} (q : D → Bool) : ∀ (l : List D) (k : Int), 0 ≤ k → decide (0 ≤ findI q k l) = l.any q
  | [], k, hk => rfl
  | x :: r, k, hk => by
    rw [findI_cons, List.any_cons]
    by_cases h : q x = true
    · rw [if_pos h, h]; simp [hk]
    · rw [if_neg h, findI_any q r (k + 1) (by omega)]; simp [h]
theorem all_not {D : Type} (q : D → Bool) (l : List D) : (!(l.any fun x => !q x)) = l.all q := by
  induction l with
  | nil => rfl
  | cons x r ih => rw [List.any_cons, List.all_cons, Bool.not_or, ih, Bool.not_not]
def u8s (l : List Nat) : List Value := l.map fun b : Nat => Value.int .u8 (b : Int)
theorem u8s_len (l : List Nat) : (u8s l).length = l.length := by simp [u8s]
def splitLI (c : List Nat) (n : Int) : List Value := u8s c ++ [.int .i64 n]
def splitI (c : List Nat) (n : Int) : Value := .agg (splitLI c n).toArray
theorem splitI_cells (c : List Nat) (n : Int) : (splitI c n).cells = (splitLI c n).toArray := rfl
theorem splitLI_len {c : List Nat} {n : Int} (hc : c.length = 256) : (splitLI c n).length = 257 := by simp [splitLI, u8s_len, hc]
theorem splitLI_ok (c : List Nat) (n : Int) : (splitLI c n).all cellOk = true := by simp [splitLI, u8s, cellOk]
theorem splitLI_get {c : List Nat} {n : Int} {i : Nat} (hi : i < c.length) : (splitLI c n)[i]? = some (.int .u8 (c[i] : Nat)) := by
  unfold splitLI
  rw [List.getElem?_append_left (by rw [u8s_len]; exact hi)]
  simp [u8s, hi]
theorem splitLI_many {c : List Nat} {n : Int} (hc : c.length = 256) : (splitLI c n)[256]? = some (.int .i64 n) := by
  unfold splitLI
  rw [List.getElem?_append_right (by rw [u8s_len]; omega)]
  simp [u8s_len, hc]
theorem loadA_of {ro : Ro} {h : T Obj} {id z n : Nat} {c : List Nat} {m : Int} {e : TypeId} {f : Nat × Nat} (hg : h.get id = some (.cells (splitLI c m).toArray e f)) (hc : c.length = 256) : loadA ro h 256 (at_ id 0 z) = some (.agg (u8s c).toArray) := by
  rw [loadA_own, hg, cellsIn_some]
  simp only [Option.bind_some, tl]
  rw [if_pos (by rw [splitLI_len hc]; omega), List.drop_zero]
  unfold splitLI
  rw [List.take_append_of_le_length (by rw [u8s_len]; omega), List.take_of_length_le (by rw [u8s_len]; omega)]
theorem ixA1_u8s {c : List Nat} {i : Nat} (k : IntKind) (hi : i < c.length) (hc : c.length = 256) : ixA1 256 1 (.agg (u8s c).toArray) (.int k (i : Int)) = some (.int .u8 (c[i] : Nat)) := by
  have hn : natV (.int k (i : Int)) = some i := by simp [natV]
  have hb : Nat.blt i 256 = true := by simp [Nat.blt]; omega
  unfold ixA1
  rw [hn]
  simp only [Option.bind_some, asAgg, hb, Nat.mul_one, List.getElem?_toArray]
  simp [u8s, hi]
def rt (c : List Nat) : Nat → Option Nat
  | 0 => some 0
  | i + 1 => (rt c i).bind fun m => if m < c.getD i 0 then none else if c.getD i 0 = m then some (m + 1) else some m
def rightB (c : List Nat) (n : Int) : Bool := match rt c 256 with
  | some m => decide ((m : Int) = n)
  | none => false
theorem rt_le {c : List Nat} : ∀ {i m : Nat}, rt c i = some m → m ≤ i
  | 0, m, h => by cases h; exact Nat.le_refl _
  | i + 1, m, h => by
    obtain ⟨m0, h1, h2⟩ := bind_some' h
    have := rt_le h1
    split at h2
    · cases h2
    · split at h2 <;> cases h2 <;> omega
theorem rt_none {c : List Nat} {i : Nat} (h : rt c i = none) : ∀ j, i ≤ j → rt c j = none := by
  intro j hj
  induction hj with
  | refl => exact h
  | step _ ih => simp only [rt, ih, Option.bind]
set_option maxRecDepth 4000 in
theorem split_Right_c {ro : Ro} {c : List Nat} {n : Int} (hc : c.length = 256) (hcl : ∀ x ∈ c, x < 256) {h : T Obj} {nx : Nat} {K : KV} (hf : Fr h nx) (hK : ∀ nx', nx ≤ nx' → K (.bool (rightB c n)) h nx') : callP Tryz.prog ro i_split_Right [splitI c n] h nx K := by
  apply split_Right_of
  unfold split_Right
  refine newP_mk ?_
  (repeat (first | refine bindP_mk (by simp (disch := first | omega | exact Int.natCast_nonneg _ | assumption) only [BB, B2, ↓reduceIte, Nat.reduceLeDiff, Nat.reduceAdd, intB_eql, intB_neq, intB_lss, intB_leq, intB_gtr, intB_geq] <;> rfl) ?_ | refine newP_mk ?_ | refine optP_mk ?_ | with_reducible first | refine condP_t ?_ | refine condP_f ?_ | refine ifP_tt' ?_ | refine ifP_ff' ?_ | refine ifP_tf' ?_ | refine ifP_ft' ?_ | refine ifP_u' ?_ | refine optP_mk0 ?_))
  refine bindP_mk (loadA_of (n := 0) (c := c) (m := n) (e := y_api_Split) (f := (0, 0)) (by simp (disch := first | omega | exact Int.natCast_nonneg _ | assumption) only [BB, B2, ↓reduceIte, Nat.reduceLeDiff, Nat.reduceAdd, intB_eql, intB_neq, intB_lss, intB_leq, intB_gtr, intB_geq, splitI_cells]) hc) ?_
  refine loopP_rule (fun j e h' nx' => ∃ (i m : Nat), i + j = 256 ∧ nx + 1 ≤ nx' ∧ e 1 = ptr nx ∧ e 3 = .int .i64 m ∧ e 7 = .agg (u8s c).toArray ∧ e 8 = .int .i64 i ∧ Sub h h' ∧ Fr h' nx' ∧
    h'.get nx = some (.cells (splitLI c n).toArray y_api_Split) ∧ rt c i = some m) ?_ (n := 256) ⟨0, 0, by omega, by omega, rfl, rfl, rfl, rfl, ?_, ?_, ?_, rfl⟩
  · rintro j e h' nx' ⟨i, m, hij, hnx, e1, e3, e7, e8, hs, hf', g0, hr⟩ Q' hq hx
    have hm := rt_le hr
    unfold split_Right_L1
    rw [e3, e7, e8]
    (repeat (first | refine bindP_mk (by simp (disch := first | omega | exact Int.natCast_nonneg _ | assumption) only [BB, B2, ↓reduceIte, Nat.reduceLeDiff, Nat.reduceAdd, intB_eql, intB_neq, intB_lss, intB_leq, intB_gtr, intB_geq] <;> rfl) ?_ | refine newP_mk ?_ | refine optP_mk ?_ | with_reducible first | refine condP_t ?_ | refine condP_f ?_ | refine ifP_tt' ?_ | refine ifP_ff' ?_ | refine ifP_tf' ?_ | refine ifP_ft' ?_ | refine ifP_u' ?_ | refine optP_mk0 ?_))
    by_cases hi : i < 256
    · refine condP_tr (by simp; omega) ?_
      have hic : i < c.length := by omega
      refine bindP_mk (ixA1_u8s _ hic hc) ?_
      have hci := hcl _ (List.getElem_mem hic)
      have hgd : c.getD i 0 = c[i] := by rw [List.getD_eq_getElem?_getD, List.getElem?_eq_getElem hic]; rfl
      have hrs : rt c (i + 1) = if m < c[i] then none else if c[i] = m then some (m + 1) else some m := by simp only [rt, hr, Option.bind_some, hgd]
      (repeat (first | refine bindP_mk (by simp (disch := first | omega | exact Int.natCast_nonneg _ | assumption) only [BB, B2, ↓reduceIte, Nat.reduceLeDiff, Nat.reduceAdd, intB_eql, intB_neq, intB_lss, intB_leq, intB_gtr, intB_geq] <;> rfl) ?_ | refine newP_mk ?_ | refine optP_mk ?_ | with_reducible first | refine condP_t ?_ | refine condP_f ?_ | refine ifP_tt' ?_ | refine ifP_ff' ?_ | refine ifP_tf' ?_ | refine ifP_ft' ?_ | refine ifP_u' ?_ | refine optP_mk0 ?_))
      by_cases h1 : m < c[i]
      · refine condP_tr (by simp; omega) ?_
        refine hx _ _ _ _ (fun e => by cases e) (exP_r ?_)
        refine ⟨h, hs, ?_⟩
        have hn : rt c 256 = none := rt_none (i := i + 1) (by rw [hrs, if_pos h1]) 256 (by omega)
        have := hK (nx' + 9) (by omega)
        unfold rightB at this
        rw [hn] at this
        exact this
      · refine condP_fa (by simp; omega) ?_
        rw [if_neg h1] at hrs
        (repeat (first | refine bindP_mk (by simp (disch := first | omega | exact Int.natCast_nonneg _ | assumption) only [BB, B2, ↓reduceIte, Nat.reduceLeDiff, Nat.reduceAdd, intB_eql, intB_neq, intB_lss, intB_leq, intB_gtr, intB_geq] <;> rfl) ?_ | refine newP_mk ?_ | refine optP_mk ?_ | with_reducible first | refine condP_t ?_ | refine condP_f ?_ | refine ifP_tt' ?_ | refine ifP_ff' ?_ | refine ifP_tf' ?_ | refine ifP_ft' ?_ | refine ifP_u' ?_ | refine optP_mk0 ?_))
        have hj2 : ∀ (e : Env) (n2 m' : Nat), nx' ≤ n2 → e 1 = ptr nx → e 3 = .int .i64 m' → e 7 = .agg (u8s c).toArray → e 8 = .int .i64 i → rt c (i + 1) = some m' → split_Right_j2 ro Q' e h' n2 := by
          intro e n2 m' hn2 e1 e3 e7 e8 hr'
          unfold split_Right_j2
          rw [e8]
          (repeat (first | refine bindP_mk (by simp (disch := first | omega | exact Int.natCast_nonneg _ | assumption) only [BB, B2, ↓reduceIte, Nat.reduceLeDiff, Nat.reduceAdd, intB_eql, intB_neq, intB_lss, intB_leq, intB_gtr, intB_geq] <;> rfl) ?_ | refine newP_mk ?_ | refine optP_mk ?_ | with_reducible first | refine condP_t ?_ | refine condP_f ?_ | refine ifP_tt' ?_ | refine ifP_ff' ?_ | refine ifP_tf' ?_ | refine ifP_ft' ?_ | refine ifP_u' ?_ | refine optP_mk0 ?_))
          exact hq (j - 1) _ _ _ _ (by omega) ⟨i + 1, m', by omega, by omega, e1, e3, e7, rfl, hs, hf'.mono (by omega), g0, hr'⟩ (Sub.refl _)
        by_cases h2 : c[i] = m
        · refine condP_tr (by simp; omega) ?_
          (repeat (first | refine bindP_mk (by simp (disch := first | omega | exact Int.natCast_nonneg _ | assumption) only [BB, B2, ↓reduceIte, Nat.reduceLeDiff, Nat.reduceAdd, intB_eql, intB_neq, intB_lss, intB_leq, intB_gtr, intB_geq] <;> rfl) ?_ | refine newP_mk ?_ | refine optP_mk ?_ | with_reducible first | refine condP_t ?_ | refine condP_f ?_ | refine ifP_tt' ?_ | refine ifP_ff' ?_ | refine ifP_tf' ?_ | refine ifP_ft' ?_ | refine ifP_u' ?_ | refine optP_mk0 ?_))
          rw [if_pos h2] at hrs
          exact hj2 _ _ (m + 1) (by omega) e1 rfl e7 e8 hrs
        · refine condP_fa (by simp; omega) ?_
          rw [if_neg h2] at hrs
          exact hj2 _ _ m (by omega) e1 e3 e7 e8 hrs
    · refine condP_fa (by simp; omega) ?_
      refine hx _ _ _ _ (fun e => by cases e) (exP_e (beqP_t ?_))
      have hi2 : i = 256 := by omega
      subst hi2
      unfold split_Right_j1
      have f1 : ∀ a, Env.put e 9 a 1 = ptr nx := fun a => e1
      have f3 : ∀ a, Env.put e 9 a 3 = .int .i64 m := fun a => e3
      simp only [puts, f1, f3]
      have hg := splitLI_many (n := n) hc
      (repeat (first | refine bindP_mk (by simp (disch := first | omega | exact Int.natCast_nonneg _ | assumption) only [BB, B2, ↓reduceIte, Nat.reduceLeDiff, Nat.reduceAdd, intB_eql, intB_neq, intB_lss, intB_leq, intB_gtr, intB_geq, g0, hg] <;> rfl) ?_ | refine newP_mk ?_ | refine optP_mk ?_ | with_reducible first | refine condP_t ?_ | refine condP_f ?_ | refine ifP_tt' ?_ | refine ifP_ff' ?_ | refine ifP_tf' ?_ | refine ifP_ft' ?_ | refine ifP_u' ?_ | refine optP_mk0 ?_))
      refine ⟨h, hs, ?_⟩
      have := hK (nx' + 1 + 5) (by omega)
      unfold rightB at this
      rw [hr] at this
      exact this
  · exact (Sub.refl h).new hf (Nat.le_refl _)
  · exact hf.upd (m := nx + 6) (by omega) (by omega)
  · simp (disch := first | omega | exact Int.natCast_nonneg _ | assumption) only [BB, B2, ↓reduceIte, Nat.reduceLeDiff, Nat.reduceAdd, intB_eql, intB_neq, intB_lss, intB_leq, intB_gtr, intB_geq, splitI_cells]
set_option maxRecDepth 4000 in
theorem ref02_Right_c {ro : Ro} {c : List Nat} {n : Int} (hc : c.length = 256) (hcl : ∀ x ∈ c, x < 256) {h : T Obj} {nx : Nat} {K : KV} (hf : Fr h nx) (hK : ∀ nx', nx ≤ nx' → K (.bool (rightB c n)) h nx') : callP Tryz.prog ro i_ref02_Right [splitI c n] h nx K := by
  apply ref02_Right_of
  unfold ref02_Right
  refine newP_mk ?_
  refine loopP_rule (fun j e h' nx' => ∃ (i m : Nat), i + j = 256 ∧ nx + 1 ≤ nx' ∧ e 1 = ptr nx ∧ e 3 = .int .i64 m ∧ e 4 = .int .i64 i ∧ Sub h h' ∧ Fr h' nx' ∧
    h'.get nx = some (.cells (splitLI c n).toArray y_api_Split) ∧ rt c i = some m) ?_ (n := 256) ⟨0, 0, by omega, by omega, rfl, rfl, rfl, ?_, ?_, ?_, rfl⟩
  · rintro j e h' nx' ⟨i, m, hij, hnx, e1, e3, e4, hs, hf', g0, hr⟩ Q' hq hx
    have hm := rt_le hr
    unfold ref02_Right_L1
    rw [e1, e3, e4]
    (repeat (first | refine bindP_mk (by simp (disch := first | omega | exact Int.natCast_nonneg _ | assumption) only [BB, B2, ↓reduceIte, Nat.reduceLeDiff, Nat.reduceAdd, intB_eql, intB_neq, intB_lss, intB_leq, intB_gtr, intB_geq] <;> rfl) ?_ | refine newP_mk ?_ | refine optP_mk ?_ | with_reducible first | refine condP_t ?_ | refine condP_f ?_ | refine ifP_tt' ?_ | refine ifP_ff' ?_ | refine ifP_tf' ?_ | refine ifP_ft' ?_ | refine ifP_u' ?_ | refine optP_mk0 ?_))
    by_cases hi : i < 256
    · refine condP_tr (by simp; omega) ?_
      have hic : i < c.length := by omega
      have hci := hcl _ (List.getElem_mem hic)
      have hg := splitLI_get (n := n) hic
      have hgd : c.getD i 0 = c[i] := by rw [List.getD_eq_getElem?_getD, List.getElem?_eq_getElem hic]; rfl
      have hrs : rt c (i + 1) = if m < c[i] then none else if c[i] = m then some (m + 1) else some m := by simp only [rt, hr, Option.bind_some, hgd]
      (repeat (first | refine bindP_mk (by simp (disch := first | omega | exact Int.natCast_nonneg _ | assumption) only [BB, B2, ↓reduceIte, Nat.reduceLeDiff, Nat.reduceAdd, intB_eql, intB_neq, intB_lss, intB_leq, intB_gtr, intB_geq, g0, hg] <;> rfl) ?_ | refine newP_mk ?_ | refine optP_mk ?_ | with_reducible first | refine condP_t ?_ | refine condP_f ?_ | refine ifP_tt' ?_ | refine ifP_ff' ?_ | refine ifP_tf' ?_ | refine ifP_ft' ?_ | refine ifP_u' ?_ | refine optP_mk0 ?_))
      by_cases h1 : m < c[i]
      · refine condP_tr (by simp; omega) ?_
        refine hx _ _ _ _ (fun e => by cases e) (exP_r ?_)
        refine ⟨h, hs, ?_⟩
        have hn : rt c 256 = none := rt_none (i := i + 1) (by rw [hrs, if_pos h1]) 256 (by omega)
        have := hK (nx' + 10) (by omega)
        unfold rightB at this
        rw [hn] at this
        exact this
      · refine condP_fa (by simp; omega) ?_
        rw [if_neg h1] at hrs
        (repeat (first | refine bindP_mk (by simp (disch := first | omega | exact Int.natCast_nonneg _ | assumption) only [BB, B2, ↓reduceIte, Nat.reduceLeDiff, Nat.reduceAdd, intB_eql, intB_neq, intB_lss, intB_leq, intB_gtr, intB_geq, g0, hg] <;> rfl) ?_ | refine newP_mk ?_ | refine optP_mk ?_ | with_reducible first | refine condP_t ?_ | refine condP_f ?_ | refine ifP_tt' ?_ | refine ifP_ff' ?_ | refine ifP_tf' ?_ | refine ifP_ft' ?_ | refine ifP_u' ?_ | refine optP_mk0 ?_))
        have hj2 : ∀ (e : Env) (n2 m' : Nat), nx' ≤ n2 → e 1 = ptr nx → e 3 = .int .i64 m' → e 4 = .int .i64 i → rt c (i + 1) = some m' → ref02_Right_j2 ro Q' e h' n2 := by
          intro e n2 m' hn2 e1 e3 e4 hr'
          unfold ref02_Right_j2
          rw [e4]
          (repeat (first | refine bindP_mk (by simp (disch := first | omega | exact Int.natCast_nonneg _ | assumption) only [BB, B2, ↓reduceIte, Nat.reduceLeDiff, Nat.reduceAdd, intB_eql, intB_neq, intB_lss, intB_leq, intB_gtr, intB_geq] <;> rfl) ?_ | refine newP_mk ?_ | refine optP_mk ?_ | with_reducible first | refine condP_t ?_ | refine condP_f ?_ | refine ifP_tt' ?_ | refine ifP_ff' ?_ | refine ifP_tf' ?_ | refine ifP_ft' ?_ | refine ifP_u' ?_ | refine optP_mk0 ?_))
          exact hq (j - 1) _ _ _ _ (by omega) ⟨i + 1, m', by omega, by omega, e1, e3, rfl, hs, hf'.mono (by omega), g0, hr'⟩ (Sub.refl _)
        by_cases h2 : c[i] = m
        · refine condP_tr (by simp; omega) ?_
          (repeat (first | refine bindP_mk (by simp (disch := first | omega | exact Int.natCast_nonneg _ | assumption) only [BB, B2, ↓reduceIte, Nat.reduceLeDiff, Nat.reduceAdd, intB_eql, intB_neq, intB_lss, intB_leq, intB_gtr, intB_geq] <;> rfl) ?_ | refine newP_mk ?_ | refine optP_mk ?_ | with_reducible first | refine condP_t ?_ | refine condP_f ?_ | refine ifP_tt' ?_ | refine ifP_ff' ?_ | refine ifP_tf' ?_ | refine ifP_ft' ?_ | refine ifP_u' ?_ | refine optP_mk0 ?_))
          rw [if_pos h2] at hrs
          exact hj2 _ _ (m + 1) (by omega) e1 rfl e4 hrs
        · refine condP_fa (by simp; omega) ?_
          rw [if_neg h2] at hrs
          exact hj2 _ _ m (by omega) e1 e3 e4 hrs
    · refine condP_fa (by simp; omega) ?_
      refine hx _ _ _ _ (fun e => by cases e) (exP_e (beqP_t ?_))
      have hi2 : i = 256 := by omega
      subst hi2
      unfold ref02_Right_j1
      have f1 : ∀ a b, Env.put (Env.put e 5 a) 6 b 1 = ptr nx := fun a b => e1
      have f3 : ∀ a b, Env.put (Env.put e 5 a) 6 b 3 = .int .i64 m := fun a b => e3
      simp only [puts, f1, f3]
      have hg := splitLI_many (n := n) hc
      (repeat (first | refine bindP_mk (by simp (disch := first | omega | exact Int.natCast_nonneg _ | assumption) only [BB, B2, ↓reduceIte, Nat.reduceLeDiff, Nat.reduceAdd, intB_eql, intB_neq, intB_lss, intB_leq, intB_gtr, intB_geq, g0, hg] <;> rfl) ?_ | refine newP_mk ?_ | refine optP_mk ?_ | with_reducible first | refine condP_t ?_ | refine condP_f ?_ | refine ifP_tt' ?_ | refine ifP_ff' ?_ | refine ifP_tf' ?_ | refine ifP_ft' ?_ | refine ifP_u' ?_ | refine optP_mk0 ?_))
      refine ⟨h, hs, ?_⟩
      have := hK (nx' + 2 + 5) (by omega)
      unfold rightB at this
      rw [hr] at this
      exact this
  · exact (Sub.refl h).new hf (Nat.le_refl _)
  · exact hf.upd (m := nx + 4) (by omega) (by omega)
  · simp (disch := first | omega | exact Int.natCast_nonneg _ | assumption) only [BB, B2, ↓reduceIte, Nat.reduceLeDiff, Nat.reduceAdd, intB_eql, intB_neq, intB_lss, intB_leq, intB_gtr, intB_geq, splitI_cells]
def codesD (m : Int) : Int := if m = 0 then 1 else if m = 1 then 3 else if m = 2 then 9 else if m = 3 then 27 else 0
theorem codes_of {m p : Int} (h : m = 0 ∧ p = 1 ∨ m = 1 ∧ p = 3 ∨ m = 2 ∧ p = 9 ∨ m = 3 ∧ p = 27) : codesD m = p := by
  unfold codesD
  rcases h with ⟨h, rfl⟩ | ⟨h, rfl⟩ | ⟨h, rfl⟩ | ⟨h, rfl⟩ <;> subst h <;> rfl
theorem codes_no {m : Int} (h : m < 0 ∨ 3 < m) : codesD m = 0 := by
  unfold codesD
  rw [if_neg (by omega), if_neg (by omega), if_neg (by omega), if_neg (by omega)]
theorem codes_le (m : Int) : 0 ≤ codesD m ∧ codesD m ≤ 27 := by
  unfold codesD
  repeat' split
  all_goals omega
theorem codes_few {m : Int} (h : codesD m ≠ 0) : 0 ≤ m ∧ m ≤ 3 := by
  rcases Int.lt_or_le m 0 with h1 | h1
  · exact absurd (codes_no (.inl h1)) h
  · rcases Int.lt_or_le 3 m with h2 | h2
    · exact absurd (codes_no (.inr h2)) h
    · exact ⟨h1, h2⟩
set_option maxRecDepth 4000 in
theorem auto_Codes_c {ro : Ro} {m : Int} {h : T Obj} {nx : Nat} {K : KV} (hK : ∀ nx', nx ≤ nx' → K (.int .i64 (codesD m)) h nx') : callP Tryz.prog ro i_auto_Codes [.int .i64 m] h nx K := by
  apply auto_Codes_of
  unfold auto_Codes
  refine lss_s (fun h1 => ?_) (fun h1 => ?_)
  · (repeat (first | refine bindP_mk (by simp (disch := first | omega | exact Int.natCast_nonneg _ | assumption) only [BB, B2, ↓reduceIte, Nat.reduceLeDiff, Nat.reduceAdd, CC] <;> rfl) ?_ | refine newP_mk ?_ | refine optP_mk ?_ | with_reducible first | refine condP_t ?_ | refine condP_f ?_ | refine ifP_tt' ?_ | refine ifP_ff' ?_ | refine ifP_tf' ?_ | refine ifP_ft' ?_ | refine ifP_u' ?_ | refine optP_mk0 ?_))
    exact ⟨_, Sub.refl _, ki hK (codes_no (.inl h1)) (by omega)⟩
  · (repeat (first | refine bindP_mk (by simp (disch := first | omega | exact Int.natCast_nonneg _ | assumption) only [BB, B2, ↓reduceIte, Nat.reduceLeDiff, Nat.reduceAdd, CC] <;> rfl) ?_ | refine newP_mk ?_ | refine optP_mk ?_ | with_reducible first | refine condP_t ?_ | refine condP_f ?_ | refine ifP_tt' ?_ | refine ifP_ff' ?_ | refine ifP_tf' ?_ | refine ifP_ft' ?_ | refine ifP_u' ?_ | refine optP_mk0 ?_))
    refine gtr_s (fun h2 => ?_) (fun h2 => ?_)
    · (repeat (first | refine bindP_mk (by simp (disch := first | omega | exact Int.natCast_nonneg _ | assumption) only [BB, B2, ↓reduceIte, Nat.reduceLeDiff, Nat.reduceAdd, CC] <;> rfl) ?_ | refine newP_mk ?_ | refine optP_mk ?_ | with_reducible first | refine condP_t ?_ | refine condP_f ?_ | refine ifP_tt' ?_ | refine ifP_ff' ?_ | refine ifP_tf' ?_ | refine ifP_ft' ?_ | refine ifP_u' ?_ | refine optP_mk0 ?_))
      exact ⟨_, Sub.refl _, ki hK (codes_no (.inr h2)) (by omega)⟩
    · (repeat (first | refine bindP_mk (by simp (disch := first | omega | exact Int.natCast_nonneg _ | assumption) only [BB, B2, ↓reduceIte, Nat.reduceLeDiff, Nat.reduceAdd, CC] <;> rfl) ?_ | refine newP_mk ?_ | refine optP_mk ?_ | with_reducible first | refine condP_t ?_ | refine condP_f ?_ | refine ifP_tt' ?_ | refine ifP_ff' ?_ | refine ifP_tf' ?_ | refine ifP_ft' ?_ | refine ifP_u' ?_ | refine optP_mk0 ?_))
      refine loopP_rule (fun j e h' nx' => ∃ (k : Nat) (p : Int), (k : Int) + j = m ∧ nx ≤ nx' ∧ h' = h ∧ e 3 = .int .i64 p ∧ e 10 = .int .i64 m ∧ e 11 = .int .i64 k ∧ (k = 0 ∧ p = 1 ∨ k = 1 ∧ p = 3 ∨ k = 2 ∧ p = 9 ∨ k = 3 ∧ p = 27)) ?_ (n := m.toNat) ⟨0, 1, by omega, by omega, rfl, rfl, rfl, rfl, by omega⟩
      rintro j e h' nx' ⟨k, p, hj, hnx, rfl, e3, e10, e11, hp⟩ Q' hq hx
      unfold auto_Codes_L1
      rw [e3, e10, e11]
      refine lss_s (fun hk => ?_) (fun hk => ?_)
      · (repeat (first | refine bindP_mk (by simp (disch := first | omega | exact Int.natCast_nonneg _ | assumption) only [BB, B2, ↓reduceIte, Nat.reduceLeDiff, Nat.reduceAdd, CC] <;> rfl) ?_ | refine newP_mk ?_ | refine optP_mk ?_ | with_reducible first | refine condP_t ?_ | refine condP_f ?_ | refine ifP_tt' ?_ | refine ifP_ff' ?_ | refine ifP_tf' ?_ | refine ifP_ft' ?_ | refine ifP_u' ?_ | refine optP_mk0 ?_))
        exact hq (j - 1) _ _ _ _ (by omega) ⟨k + 1, p * 3, by omega, by omega, rfl, rfl, e10, rfl, by omega⟩ (Sub.refl _)
      · (repeat (first | refine bindP_mk (by simp (disch := first | omega | exact Int.natCast_nonneg _ | assumption) only [BB, B2, ↓reduceIte, Nat.reduceLeDiff, Nat.reduceAdd, CC] <;> rfl) ?_ | refine newP_mk ?_ | refine optP_mk ?_ | with_reducible first | refine condP_t ?_ | refine condP_f ?_ | refine ifP_tt' ?_ | refine ifP_ff' ?_ | refine ifP_tf' ?_ | refine ifP_ft' ?_ | refine ifP_u' ?_ | refine optP_mk0 ?_))
        refine hx _ _ _ _ (fun e => by cases e) (exP_e (beqP_t ?_))
        unfold auto_Codes_j1
        have f3 : ∀ (e' : Env) n, e' 3 = .int .i64 p → nx ≤ n → ∃ h13, Sub h13 h' ∧ K (e' 3) h13 n := fun e' n h3 hn => by
          rw [h3]
          exact ⟨_, Sub.refl _, ki hK (codes_of (by omega)) hn⟩
        exact f3 _ _ e3 (by omega)
set_option maxRecDepth 4000 in
theorem ref11_Codes_c {ro : Ro} {m : Int} {h : T Obj} {nx : Nat} {K : KV} (hK : ∀ nx', nx ≤ nx' → K (.int .i64 (codesD m)) h nx') : callP Tryz.prog ro i_ref11_Codes [.int .i64 m] h nx K := by
  apply ref11_Codes_of
  unfold ref11_Codes
  refine lss_s (fun h1 => ?_) (fun h1 => ?_)
  · (repeat (first | refine bindP_mk (by simp (disch := first | omega | exact Int.natCast_nonneg _ | assumption) only [BB, B2, ↓reduceIte, Nat.reduceLeDiff, Nat.reduceAdd, CC] <;> rfl) ?_ | refine newP_mk ?_ | refine optP_mk ?_ | with_reducible first | refine condP_t ?_ | refine condP_f ?_ | refine ifP_tt' ?_ | refine ifP_ff' ?_ | refine ifP_tf' ?_ | refine ifP_ft' ?_ | refine ifP_u' ?_ | refine optP_mk0 ?_))
    exact ⟨_, Sub.refl _, ki hK (codes_no (.inl h1)) (by omega)⟩
  · (repeat (first | refine bindP_mk (by simp (disch := first | omega | exact Int.natCast_nonneg _ | assumption) only [BB, B2, ↓reduceIte, Nat.reduceLeDiff, Nat.reduceAdd, CC] <;> rfl) ?_ | refine newP_mk ?_ | refine optP_mk ?_ | with_reducible first | refine condP_t ?_ | refine condP_f ?_ | refine ifP_tt' ?_ | refine ifP_ff' ?_ | refine ifP_tf' ?_ | refine ifP_ft' ?_ | refine ifP_u' ?_ | refine optP_mk0 ?_))
    refine gtr_s (fun h2 => ?_) (fun h2 => ?_)
    · (repeat (first | refine bindP_mk (by simp (disch := first | omega | exact Int.natCast_nonneg _ | assumption) only [BB, B2, ↓reduceIte, Nat.reduceLeDiff, Nat.reduceAdd, CC] <;> rfl) ?_ | refine newP_mk ?_ | refine optP_mk ?_ | with_reducible first | refine condP_t ?_ | refine condP_f ?_ | refine ifP_tt' ?_ | refine ifP_ff' ?_ | refine ifP_tf' ?_ | refine ifP_ft' ?_ | refine ifP_u' ?_ | refine optP_mk0 ?_))
      exact ⟨_, Sub.refl _, ki hK (codes_no (.inr h2)) (by omega)⟩
    · (repeat (first | refine bindP_mk (by simp (disch := first | omega | exact Int.natCast_nonneg _ | assumption) only [BB, B2, ↓reduceIte, Nat.reduceLeDiff, Nat.reduceAdd, CC] <;> rfl) ?_ | refine newP_mk ?_ | refine optP_mk ?_ | with_reducible first | refine condP_t ?_ | refine condP_f ?_ | refine ifP_tt' ?_ | refine ifP_ff' ?_ | refine ifP_tf' ?_ | refine ifP_ft' ?_ | refine ifP_u' ?_ | refine optP_mk0 ?_))
      refine loopP_rule (fun j e h' nx' => ∃ (k : Nat) (p : Int), (k : Int) + j = m ∧ nx ≤ nx' ∧ h' = h ∧ e 3 = .int .i64 p ∧ e 0 = .int .i64 m ∧ e 4 = .int .i64 k ∧ (k = 0 ∧ p = 1 ∨ k = 1 ∧ p = 3 ∨ k = 2 ∧ p = 9 ∨ k = 3 ∧ p = 27)) ?_ (n := m.toNat) ⟨0, 1, by omega, by omega, rfl, rfl, rfl, rfl, by omega⟩
      rintro j e h' nx' ⟨k, p, hj, hnx, rfl, e3, e10, e11, hp⟩ Q' hq hx
      unfold ref11_Codes_L1
      rw [e3, e10, e11]
      refine lss_s (fun hk => ?_) (fun hk => ?_)
      · (repeat (first | refine bindP_mk (by simp (disch := first | omega | exact Int.natCast_nonneg _ | assumption) only [BB, B2, ↓reduceIte, Nat.reduceLeDiff, Nat.reduceAdd, CC] <;> rfl) ?_ | refine newP_mk ?_ | refine optP_mk ?_ | with_reducible first | refine condP_t ?_ | refine condP_f ?_ | refine ifP_tt' ?_ | refine ifP_ff' ?_ | refine ifP_tf' ?_ | refine ifP_ft' ?_ | refine ifP_u' ?_ | refine optP_mk0 ?_))
        exact hq (j - 1) _ _ _ _ (by omega) ⟨k + 1, p * 3, by omega, by omega, rfl, rfl, e10, rfl, by omega⟩ (Sub.refl _)
      · (repeat (first | refine bindP_mk (by simp (disch := first | omega | exact Int.natCast_nonneg _ | assumption) only [BB, B2, ↓reduceIte, Nat.reduceLeDiff, Nat.reduceAdd, CC] <;> rfl) ?_ | refine newP_mk ?_ | refine optP_mk ?_ | with_reducible first | refine condP_t ?_ | refine condP_f ?_ | refine ifP_tt' ?_ | refine ifP_ff' ?_ | refine ifP_tf' ?_ | refine ifP_ft' ?_ | refine ifP_u' ?_ | refine optP_mk0 ?_))
        refine hx _ _ _ _ (fun e => by cases e) (exP_e (beqP_t ?_))
        unfold ref11_Codes_j1
        have f3 : ∀ (e' : Env) n, e' 3 = .int .i64 p → nx ≤ n → ∃ h13, Sub h13 h' ∧ K (e' 3) h13 n := fun e' n h3 hn => by
          rw [h3]
          exact ⟨_, Sub.refl _, ki hK (codes_of (by omega)) hn⟩
        exact f3 _ _ e3 (by omega)
structure MoveD where
  to : Int
  ops : List Nat
structure StateD where
  l : List Int
  r : List Int
  rule : List Int
  next : List (List MoveD)
structure AutoD where
  c : List Nat
  many : Int
  counts : List (Int × Int)
  states : List StateD
def noS : StateD := ⟨[], [], [], []⟩
def opOk (R : List Int) (o : Nat) (r : Int) : Bool := decide (1 ≤ o) && (decide (o ≤ 3) && (decide (o = 3) || R.contains r))
def opsOk (R : List Int) : List Nat → List Int → Bool
  | o :: os, r :: rs => opOk R o r && opsOk R os rs
  | _, _ => true
def moveOk (S : List StateD) (R : List Int) (m : MoveD) : Bool :=
  if m.to = -1 then decide (m.ops.length = 0) else decide (1 ≤ m.to) && (decide (m.to < S.length) && (decide (m.ops.length = (S.getD m.to.toNat noS).r.length) && opsOk R m.ops (S.getD m.to.toNat noS).r))
def maxB : Nat := 9223372036854775807
def RU8 (x : List Value) (d : Nat) : Prop := x = [.int .u8 (d : Int)] ∧ d < 256
def RMove (ro : Ro) (h : T Obj) (x : List Value) (d : MoveD) : Prop := ∃ ov, x = [.int .i64 d.to, ov] ∧ SlR ro h ov 1 RU8 d.ops ∧ d.ops.length ≤ maxB
def RRow (ro : Ro) (h : T Obj) (x : List Value) (d : List MoveD) : Prop := ∃ w, x = [w] ∧ SlR ro h w 2 (RMove ro h) d ∧ d.length ≤ maxB
def RState (ro : Ro) (h : T Obj) (x : List Value) (d : StateD) : Prop := ∃ lv rv uv nv, x = [lv, rv, uv, nv] ∧ ZI ro h lv d.l ∧ ZI ro h rv d.r ∧ ZI ro h uv d.rule ∧ SlR ro h nv 1 (RRow ro h) d.next ∧ d.r.length ≤ maxB
def RCount (x : List Value) (d : Int × Int) : Prop := x = [.int .i64 d.1, .int .i64 d.2]
theorem RMove.sub {ro : Ro} {h h' : T Obj} (hs : Sub h h') : ∀ x d, RMove ro h x d → RMove ro h' x d := fun x d ⟨ov, h1, h2, h3⟩ => ⟨ov, h1, h2.sub hs fun _ _ h => h, h3⟩
theorem RRow.sub {ro : Ro} {h h' : T Obj} (hs : Sub h h') : ∀ x d, RRow ro h x d → RRow ro h' x d := fun x d ⟨ov, h1, h2, h3⟩ => ⟨ov, h1, h2.sub hs (RMove.sub hs), h3⟩
theorem RState.sub {ro : Ro} {h h' : T Obj} (hs : Sub h h') : ∀ x d, RState ro h x d → RState ro h' x d := fun x d ⟨lv, rv, uv, nv, h1, h2, h3, h4, h5, h6⟩ => ⟨lv, rv, uv, nv, h1, h2.sub hs, h3.sub hs, h4.sub hs, h5.sub hs (RRow.sub hs), h6⟩
def autL (c : List Nat) (n : Int) (cv sv : Value) : List Value := splitLI c n ++ [cv, sv]
section
variable {c : List Nat} {n : Int} {cv sv : Value}
theorem autL_len (hc : c.length = 256) : (autL c n cv sv).length = 259 := by simp [autL, splitLI_len hc]
theorem autL_many (hc : c.length = 256) : (autL c n cv sv)[256]? = some (.int .i64 n) := by
  unfold autL
  rw [List.getElem?_append_left (by rw [splitLI_len hc]; omega)]
  exact splitLI_many hc
theorem autL_counts (hc : c.length = 256) : (autL c n cv sv)[257]? = some cv := by
  unfold autL
  rw [List.getElem?_append_right (by rw [splitLI_len hc]; omega), splitLI_len hc]; rfl
theorem autL_states (hc : c.length = 256) : (autL c n cv sv)[258]? = some sv := by
  unfold autL
  rw [List.getElem?_append_right (by rw [splitLI_len hc]; omega), splitLI_len hc]; rfl
theorem autL_ok (h1 : cellOk cv = true) (h2 : cellOk sv = true) : (autL c n cv sv).all cellOk = true := by
  unfold autL
  rw [List.all_append, splitLI_ok, Bool.true_and]
  simp [h1, h2]
theorem loadS {ro : Ro} {h : T Obj} {id z : Nat} {e : TypeId} {f : Nat × Nat} (hg : h.get id = some (.cells (autL c n cv sv).toArray e f)) (hc : c.length = 256) : loadA ro h 257 (at_ id 0 z) = some (splitI c n) := by
  rw [loadA_own, hg, cellsIn_some]
  simp only [Option.bind_some, tl]
  rw [if_pos (by rw [autL_len hc]; omega), List.drop_zero]
  unfold autL
  rw [List.take_append_of_le_length (by rw [splitLI_len hc]; omega), List.take_of_length_le (by rw [splitLI_len hc]; omega)]
  rfl
end
def RAuto (ro : Ro) (h : T Obj) (x : List Value) (d : AutoD) : Prop := ∃ cv sv, x = autL d.c d.many cv sv ∧ d.c.length = 256 ∧ (∀ x ∈ d.c, x < 256) ∧ SlR ro h cv 2 RCount d.counts ∧ SlR ro h sv 4 (RState ro h) d.states ∧ d.counts.length ≤ maxB ∧ d.states.length ≤ maxB
theorem opsOk_cons (R : List Int) (o : Nat) (os : List Nat) (r : Int) (rs : List Int) : opsOk R (o :: os) (r :: rs) = (opOk R o r && opsOk R os rs) := rfl
theorem opsOk_nil (R : List Int) (rs : List Int) : opsOk R [] rs = true := by cases rs <;> rfl
set_option maxRecDepth 4000 in
theorem auto_rises_c {ro : Ro} {v : Value} {l : List Int} {many : Int} (hm : many ≤ 1000000) {h : T Obj} {nx : Nat} {K : KV} (hv : ZI ro h v l) (hK : ∀ nx', nx ≤ nx' → K (.bool (rz (-1) many l)) h nx') : callP Tryz.prog ro i_auto_rises [v, .int .i64 many] h nx K := by
  apply auto_rises_of
  unfold auto_rises
  generalize hR : rz (-1) many l = R at hK
  refine bindP_mk hv.len ?_
  refine loopP_rule (fun j e h' nx' => ∃ (k : Nat) (last : Int), k + j = l.length ∧ nx ≤ nx' ∧ h' = h ∧ e 1 = .int .i64 many ∧ e 5 = .int .i64 last ∧ e 8 = v ∧ e 9 = .int .i64 l.length ∧ e 10 = .int .i64 k ∧ (k : Int) ≤ last + 1 ∧ rz last many (l.drop k) = R) ?_ (n := l.length) ⟨0, -1, by omega, by omega, rfl, rfl, rfl, rfl, rfl, rfl, by omega, hR⟩
  rintro j e h' nx' ⟨k, last, hj, hnx, rfl, e1, e5, e8, e9, e10, hk1, hr⟩ Q' hq hx
  unfold auto_rises_L1
  rw [e1, e5, e8, e9, e10]
  (repeat (first | refine bindP_mk (by simp (disch := first | omega | exact Int.natCast_nonneg _ | assumption) only [BB, B2, ↓reduceIte, Nat.reduceLeDiff, Nat.reduceAdd, intB_eql, intB_neq, intB_lss, intB_leq, intB_gtr, intB_geq] <;> rfl) ?_ | refine newP_mk ?_ | refine optP_mk ?_ | with_reducible first | refine condP_t ?_ | refine condP_f ?_ | refine ifP_tt' ?_ | refine ifP_ff' ?_ | refine ifP_tf' ?_ | refine ifP_ft' ?_ | refine ifP_u' ?_ | refine optP_mk0 ?_))
  refine condP_d (fun hk => ?_) (fun hk => ?_)
  · have hk : k < l.length := by omega
    rw [drop_cons hk, rz_cons] at hr
    refine bindP_mk (hv.ix _ hk) (bindP_mk (hv.load hk) ?_)
    generalize l[k] = x at hr
    (repeat (first | refine bindP_mk (by simp (disch := first | omega | exact Int.natCast_nonneg _ | assumption) only [BB, B2, ↓reduceIte, Nat.reduceLeDiff, Nat.reduceAdd, intB_eql, intB_neq, intB_lss, intB_leq, intB_gtr, intB_geq] <;> rfl) ?_ | refine newP_mk ?_ | refine optP_mk ?_ | with_reducible first | refine condP_t ?_ | refine condP_f ?_ | refine ifP_tt' ?_ | refine ifP_ff' ?_ | refine ifP_tf' ?_ | refine ifP_ft' ?_ | refine ifP_u' ?_ | refine optP_mk0 ?_))
    by_cases h1 : x ≤ last
    · rw [decide_eq_true h1]
      (repeat (first | refine bindP_mk (by simp (disch := first | omega | exact Int.natCast_nonneg _ | assumption) only [BB, B2, ↓reduceIte, Nat.reduceLeDiff, Nat.reduceAdd, intB_eql, intB_neq, intB_lss, intB_leq, intB_gtr, intB_geq] <;> rfl) ?_ | refine newP_mk ?_ | refine optP_mk ?_ | with_reducible first | refine condP_t ?_ | refine condP_f ?_ | refine ifP_tt' ?_ | refine ifP_ff' ?_ | refine ifP_tf' ?_ | refine ifP_ft' ?_ | refine ifP_u' ?_ | refine optP_mk0 ?_))
      refine hx _ _ _ _ (fun e => by cases e) (exP_r ?_)
      refine ⟨_, Sub.refl _, kb hK ?_ (by omega)⟩
      rw [← hr, decide_eq_false (by omega)]; rfl
    · rw [decide_eq_false h1]
      (repeat (first | refine bindP_mk (by simp (disch := first | omega | exact Int.natCast_nonneg _ | assumption) only [BB, B2, ↓reduceIte, Nat.reduceLeDiff, Nat.reduceAdd, intB_eql, intB_neq, intB_lss, intB_leq, intB_gtr, intB_geq] <;> rfl) ?_ | refine newP_mk ?_ | refine optP_mk ?_ | with_reducible first | refine condP_t ?_ | refine condP_f ?_ | refine ifP_tt' ?_ | refine ifP_ff' ?_ | refine ifP_tf' ?_ | refine ifP_ft' ?_ | refine ifP_u' ?_ | refine optP_mk0 ?_))
      by_cases h2 : many ≤ x
      · rw [decide_eq_true h2]
        (repeat (first | refine bindP_mk (by simp (disch := first | omega | exact Int.natCast_nonneg _ | assumption) only [BB, B2, ↓reduceIte, Nat.reduceLeDiff, Nat.reduceAdd, intB_eql, intB_neq, intB_lss, intB_leq, intB_gtr, intB_geq] <;> rfl) ?_ | refine newP_mk ?_ | refine optP_mk ?_ | with_reducible first | refine condP_t ?_ | refine condP_f ?_ | refine ifP_tt' ?_ | refine ifP_ff' ?_ | refine ifP_tf' ?_ | refine ifP_ft' ?_ | refine ifP_u' ?_ | refine optP_mk0 ?_))
        refine hx _ _ _ _ (fun e => by cases e) (exP_r ?_)
        refine ⟨_, Sub.refl _, kb hK ?_ (by omega)⟩
        rw [← hr, decide_eq_false (show ¬ x < many by omega)]; simp
      · rw [decide_eq_false h2]
        (repeat (first | refine bindP_mk (by simp (disch := first | omega | exact Int.natCast_nonneg _ | assumption) only [BB, B2, ↓reduceIte, Nat.reduceLeDiff, Nat.reduceAdd, intB_eql, intB_neq, intB_lss, intB_leq, intB_gtr, intB_geq] <;> rfl) ?_ | refine newP_mk ?_ | refine optP_mk ?_ | with_reducible first | refine condP_t ?_ | refine condP_f ?_ | refine ifP_tt' ?_ | refine ifP_ff' ?_ | refine ifP_tf' ?_ | refine ifP_ft' ?_ | refine ifP_u' ?_ | refine optP_mk0 ?_))
        refine hq (j - 1) _ _ _ _ (by omega) ⟨k + 1, x, by omega, by omega, rfl, e1, rfl, e8, e9, rfl, by omega, ?_⟩ (Sub.refl _)
        rw [← hr, decide_eq_true (show last < x by omega), decide_eq_true (show x < many by omega)]; rfl
  · refine hx _ _ _ _ (fun e => by cases e) (exP_e (beqP_t ?_))
    unfold auto_rises_j1
    rw [drop_all (by omega)] at hr
    exact ⟨_, Sub.refl _, kb hK hr.symm (by omega)⟩
set_option maxRecDepth 4000 in
theorem ref11_rises_c {ro : Ro} {v : Value} {l : List Int} {many : Int} (hm : many ≤ 1000000) {h : T Obj} {nx : Nat} {K : KV} (hv : ZI ro h v l) (hK : ∀ nx', nx ≤ nx' → K (.bool (rz (-1) many l)) h nx') : callP Tryz.prog ro i_ref11_rises [v, .int .i64 many] h nx K := by
  apply ref11_rises_of
  unfold ref11_rises
  generalize hR : rz (-1) many l = R at hK
  refine loopP_rule (fun j e h' nx' => ∃ (k : Nat) (last : Int), k + j = l.length ∧ nx ≤ nx' ∧ h' = h ∧ e 0 = v ∧ e 1 = .int .i64 many ∧ e 5 = .int .i64 k ∧ (k : Int) ≤ last + 1 ∧ last ≤ 1000000 ∧ (k = 0 → last = -1) ∧ (∀ q, q + 1 = k → l[q]? = some last) ∧ rz last many (l.drop k) = R) ?_ (n := l.length) ⟨0, -1, by omega, by omega, rfl, rfl, rfl, rfl, by omega, by omega, fun _ => rfl, fun q hq => by omega, hR⟩
  rintro j e h' nx' ⟨k, last, hj, hnx, rfl, e0, e1, e5, hk1, hk2, hk0, hkp, hr⟩ Q' hq hx
  unfold ref11_rises_L1
  rw [e0, e1, e5]
  refine bindP_mk hv.len ?_
  refine lss_s (fun hk => ?_) (fun hk => ?_)
  · have hk : k < l.length := by omega
    have hxk : l[k]? = some l[k] := List.getElem?_eq_getElem hk
    rw [drop_cons hk, rz_cons] at hr
    (repeat (first | refine bindP_mk (by simp (disch := first | omega | exact Int.natCast_nonneg _ | assumption) only [BB, B2, ↓reduceIte, Nat.reduceLeDiff, Nat.reduceAdd, CC] <;> rfl) ?_ | refine newP_mk ?_ | refine optP_mk ?_ | with_reducible first | refine condP_t ?_ | refine condP_f ?_ | refine ifP_tt' ?_ | refine ifP_ff' ?_ | refine ifP_tf' ?_ | refine ifP_ft' ?_ | refine ifP_u' ?_ | refine optP_mk0 ?_))
    refine bindP_mk (hv.ix _ hk) (bindP_mk (hv.load hk) ?_)
    generalize l[k] = x at hr hxk
    have hfin : ∀ (e' : Env) n, e' 4 = .bool false → (¬ last < x ∨ ¬ x < many) → nx ≤ n → Q' .ret e' h' n := fun e' n h4 hc hn => by
      refine hx _ _ _ _ (fun e => by cases e) (exP_r ?_)
      rw [h4]
      refine ⟨_, Sub.refl _, kb hK ?_ hn⟩
      rw [← hr]
      rcases hc with hc | hc
      · rw [decide_eq_false hc]; rfl
      · rw [decide_eq_false hc]; simp
    have hok : ∀ (e' : Env) n, e' 0 = v → e' 1 = .int .i64 many → e' 5 = .int .i64 ((k : Int) + 1) → last < x → x < many → nx ≤ n → Q' .normal e' h' n := fun e' n g0 g1 g5 hc1 hc2 hn => by
      refine hq (j - 1) _ _ _ _ (by omega) ⟨k + 1, x, by omega, hn, rfl, g0, g1, g5, by omega, by omega, fun h => by omega, fun q hq => ?_, ?_⟩ (Sub.refl _)
      · have : q = k := by omega
        subst this; exact hxk
      · rw [← hr, decide_eq_true hc1, decide_eq_true hc2]; rfl
    (first | refine lss_s (fun hb => ?_) (fun hb => ?_) | refine leq_s (fun hb => ?_) (fun hb => ?_) | refine gtr_s (fun hb => ?_) (fun hb => ?_) | refine geq_s (fun hb => ?_) (fun hb => ?_) | refine eql_s (fun hb => ?_) (fun hb => ?_) | refine neq_s (fun hb => ?_) (fun hb => ?_))
    · (repeat (first | refine bindP_mk (by simp (disch := first | omega | exact Int.natCast_nonneg _ | assumption) only [BB, B2, ↓reduceIte, Nat.reduceLeDiff, Nat.reduceAdd, CC] <;> rfl) ?_ | refine newP_mk ?_ | refine optP_mk ?_ | with_reducible first | refine condP_t ?_ | refine condP_f ?_ | refine ifP_tt' ?_ | refine ifP_ff' ?_ | refine ifP_tf' ?_ | refine ifP_ft' ?_ | refine ifP_u' ?_ | refine optP_mk0 ?_))
      exact hfin _ _ rfl (.inl (by omega)) (by omega)
    · (repeat (first | refine bindP_mk (by simp (disch := first | omega | exact Int.natCast_nonneg _ | assumption) only [BB, B2, ↓reduceIte, Nat.reduceLeDiff, Nat.reduceAdd, CC] <;> rfl) ?_ | refine newP_mk ?_ | refine optP_mk ?_ | with_reducible first | refine condP_t ?_ | refine condP_f ?_ | refine ifP_tt' ?_ | refine ifP_ff' ?_ | refine ifP_tf' ?_ | refine ifP_ft' ?_ | refine ifP_u' ?_ | refine optP_mk0 ?_))
      refine bindP_mk (hv.ix _ hk) ?_
      (repeat (first | refine bindP_mk (by simp (disch := first | omega | exact Int.natCast_nonneg _ | assumption) only [BB, B2, ↓reduceIte, Nat.reduceLeDiff, Nat.reduceAdd, CC] <;> rfl) ?_ | refine newP_mk ?_ | refine optP_mk ?_ | with_reducible first | refine condP_t ?_ | refine condP_f ?_ | refine ifP_tt' ?_ | refine ifP_ff' ?_ | refine ifP_tf' ?_ | refine ifP_ft' ?_ | refine ifP_u' ?_ | refine optP_mk0 ?_))
      refine bindP_mk (hv.load' hxk) ?_
      (repeat (first | refine bindP_mk (by simp (disch := first | omega | exact Int.natCast_nonneg _ | assumption) only [BB, B2, ↓reduceIte, Nat.reduceLeDiff, Nat.reduceAdd, CC] <;> rfl) ?_ | refine newP_mk ?_ | refine optP_mk ?_ | with_reducible first | refine condP_t ?_ | refine condP_f ?_ | refine ifP_tt' ?_ | refine ifP_ff' ?_ | refine ifP_tf' ?_ | refine ifP_ft' ?_ | refine ifP_u' ?_ | refine optP_mk0 ?_))
      (first | refine lss_s (fun hb => ?_) (fun hb => ?_) | refine leq_s (fun hb => ?_) (fun hb => ?_) | refine gtr_s (fun hb => ?_) (fun hb => ?_) | refine geq_s (fun hb => ?_) (fun hb => ?_) | refine eql_s (fun hb => ?_) (fun hb => ?_) | refine neq_s (fun hb => ?_) (fun hb => ?_))
      · (repeat (first | refine bindP_mk (by simp (disch := first | omega | exact Int.natCast_nonneg _ | assumption) only [BB, B2, ↓reduceIte, Nat.reduceLeDiff, Nat.reduceAdd, CC] <;> rfl) ?_ | refine newP_mk ?_ | refine optP_mk ?_ | with_reducible first | refine condP_t ?_ | refine condP_f ?_ | refine ifP_tt' ?_ | refine ifP_ff' ?_ | refine ifP_tf' ?_ | refine ifP_ft' ?_ | refine ifP_u' ?_ | refine optP_mk0 ?_))
        exact hfin _ _ rfl (.inr (by omega)) (by omega)
      · (repeat (first | refine bindP_mk (by simp (disch := first | omega | exact Int.natCast_nonneg _ | assumption) only [BB, B2, ↓reduceIte, Nat.reduceLeDiff, Nat.reduceAdd, CC] <;> rfl) ?_ | refine newP_mk ?_ | refine optP_mk ?_ | with_reducible first | refine condP_t ?_ | refine condP_f ?_ | refine ifP_tt' ?_ | refine ifP_ff' ?_ | refine ifP_tf' ?_ | refine ifP_ft' ?_ | refine ifP_u' ?_ | refine optP_mk0 ?_))
        (first | refine lss_s (fun hb => ?_) (fun hb => ?_) | refine leq_s (fun hb => ?_) (fun hb => ?_) | refine gtr_s (fun hb => ?_) (fun hb => ?_) | refine geq_s (fun hb => ?_) (fun hb => ?_) | refine eql_s (fun hb => ?_) (fun hb => ?_) | refine neq_s (fun hb => ?_) (fun hb => ?_))
        · have h2 := hkp (k - 1) (by omega)
          have h3 := (List.getElem?_eq_some_iff.1 h2).1
          have h4 : ((k : Int) - 1).toNat = k - 1 := by omega
          (repeat (first | refine bindP_mk (by simp (disch := first | omega | exact Int.natCast_nonneg _ | assumption) only [BB, B2, ↓reduceIte, Nat.reduceLeDiff, Nat.reduceAdd, CC] <;> rfl) ?_ | refine newP_mk ?_ | refine optP_mk ?_ | with_reducible first | refine condP_t ?_ | refine condP_f ?_ | refine ifP_tt' ?_ | refine ifP_ff' ?_ | refine ifP_tf' ?_ | refine ifP_ft' ?_ | refine ifP_u' ?_ | refine optP_mk0 ?_))
          refine bindP_mk (hv.ixI _ (by omega) (by omega)) ?_
          rw [h4]
          (repeat (first | refine bindP_mk (by simp (disch := first | omega | exact Int.natCast_nonneg _ | assumption) only [BB, B2, ↓reduceIte, Nat.reduceLeDiff, Nat.reduceAdd, CC] <;> rfl) ?_ | refine newP_mk ?_ | refine optP_mk ?_ | with_reducible first | refine condP_t ?_ | refine condP_f ?_ | refine ifP_tt' ?_ | refine ifP_ff' ?_ | refine ifP_tf' ?_ | refine ifP_ft' ?_ | refine ifP_u' ?_ | refine optP_mk0 ?_))
          refine bindP_mk (hv.load' h2) ?_
          (repeat (first | refine bindP_mk (by simp (disch := first | omega | exact Int.natCast_nonneg _ | assumption) only [BB, B2, ↓reduceIte, Nat.reduceLeDiff, Nat.reduceAdd, CC] <;> rfl) ?_ | refine newP_mk ?_ | refine optP_mk ?_ | with_reducible first | refine condP_t ?_ | refine condP_f ?_ | refine ifP_tt' ?_ | refine ifP_ff' ?_ | refine ifP_tf' ?_ | refine ifP_ft' ?_ | refine ifP_u' ?_ | refine optP_mk0 ?_))
          refine bindP_mk (hv.ix _ hk) ?_
          (repeat (first | refine bindP_mk (by simp (disch := first | omega | exact Int.natCast_nonneg _ | assumption) only [BB, B2, ↓reduceIte, Nat.reduceLeDiff, Nat.reduceAdd, CC] <;> rfl) ?_ | refine newP_mk ?_ | refine optP_mk ?_ | with_reducible first | refine condP_t ?_ | refine condP_f ?_ | refine ifP_tt' ?_ | refine ifP_ff' ?_ | refine ifP_tf' ?_ | refine ifP_ft' ?_ | refine ifP_u' ?_ | refine optP_mk0 ?_))
          refine bindP_mk (hv.load' hxk) ?_
          (repeat (first | refine bindP_mk (by simp (disch := first | omega | exact Int.natCast_nonneg _ | assumption) only [BB, B2, ↓reduceIte, Nat.reduceLeDiff, Nat.reduceAdd, CC] <;> rfl) ?_ | refine newP_mk ?_ | refine optP_mk ?_ | with_reducible first | refine condP_t ?_ | refine condP_f ?_ | refine ifP_tt' ?_ | refine ifP_ff' ?_ | refine ifP_tf' ?_ | refine ifP_ft' ?_ | refine ifP_u' ?_ | refine optP_mk0 ?_))
          (first | refine lss_s (fun hb => ?_) (fun hb => ?_) | refine leq_s (fun hb => ?_) (fun hb => ?_) | refine gtr_s (fun hb => ?_) (fun hb => ?_) | refine geq_s (fun hb => ?_) (fun hb => ?_) | refine eql_s (fun hb => ?_) (fun hb => ?_) | refine neq_s (fun hb => ?_) (fun hb => ?_))
          · (repeat (first | refine bindP_mk (by simp (disch := first | omega | exact Int.natCast_nonneg _ | assumption) only [BB, B2, ↓reduceIte, Nat.reduceLeDiff, Nat.reduceAdd, CC] <;> rfl) ?_ | refine newP_mk ?_ | refine optP_mk ?_ | with_reducible first | refine condP_t ?_ | refine condP_f ?_ | refine ifP_tt' ?_ | refine ifP_ff' ?_ | refine ifP_tf' ?_ | refine ifP_ft' ?_ | refine ifP_u' ?_ | refine optP_mk0 ?_))
            exact hfin _ _ rfl (.inl (by omega)) (by omega)
          · (repeat (first | refine bindP_mk (by simp (disch := first | omega | exact Int.natCast_nonneg _ | assumption) only [BB, B2, ↓reduceIte, Nat.reduceLeDiff, Nat.reduceAdd, CC] <;> rfl) ?_ | refine newP_mk ?_ | refine optP_mk ?_ | with_reducible first | refine condP_t ?_ | refine condP_f ?_ | refine ifP_tt' ?_ | refine ifP_ff' ?_ | refine ifP_tf' ?_ | refine ifP_ft' ?_ | refine ifP_u' ?_ | refine optP_mk0 ?_))
            exact hok _ _ e0 e1 rfl (by omega) (by omega) (by omega)
        · (repeat (first | refine bindP_mk (by simp (disch := first | omega | exact Int.natCast_nonneg _ | assumption) only [BB, B2, ↓reduceIte, Nat.reduceLeDiff, Nat.reduceAdd, CC] <;> rfl) ?_ | refine newP_mk ?_ | refine optP_mk ?_ | with_reducible first | refine condP_t ?_ | refine condP_f ?_ | refine ifP_tt' ?_ | refine ifP_ff' ?_ | refine ifP_tf' ?_ | refine ifP_ft' ?_ | refine ifP_u' ?_ | refine optP_mk0 ?_))
          exact hok _ _ e0 e1 rfl (by omega) (by omega) (by omega)
  · (repeat (first | refine bindP_mk (by simp (disch := first | omega | exact Int.natCast_nonneg _ | assumption) only [BB, B2, ↓reduceIte, Nat.reduceLeDiff, Nat.reduceAdd, CC] <;> rfl) ?_ | refine newP_mk ?_ | refine optP_mk ?_ | with_reducible first | refine condP_t ?_ | refine condP_f ?_ | refine ifP_tt' ?_ | refine ifP_ff' ?_ | refine ifP_tf' ?_ | refine ifP_ft' ?_ | refine ifP_u' ?_ | refine optP_mk0 ?_))
    refine hx _ _ _ _ (fun e => by cases e) (exP_e (beqP_t ?_))
    unfold ref11_rises_j1
    rw [drop_all (by omega)] at hr
    exact ⟨_, Sub.refl _, kb hK hr.symm (by omega)⟩
theorem ref11_in_c {ro : Ro} {v : Value} {l : List Int} {p : Int} (hlen : l.length ≤ 1000000) {h : T Obj} {nx : Nat} {K : KV} (hv : ZI ro h v l) (hK : ∀ nx', nx ≤ nx' → K (.bool (l.contains p)) h nx') : callP Tryz.prog ro i_ref11_in [v, .int .i64 p] h nx K := by
  apply ref11_in_of
  unfold ref11_in
  generalize hR : l.contains p = R at hK
  refine loopP_rule (fun j e h' nx' => ∃ (k : Nat), k + j = l.length ∧ nx ≤ nx' ∧ h' = h ∧ e 0 = v ∧ e 1 = .int .i64 p ∧ e 5 = .int .i64 k ∧ (l.drop k).contains p = R) ?_ (n := l.length) ⟨0, by omega, by omega, rfl, rfl, rfl, rfl, hR⟩
  rintro j e h' nx' ⟨k, hj, hnx, rfl, e0, e1, e5, hr⟩ Q' hq hx
  unfold ref11_in_L1
  rw [e0, e1, e5]
  refine bindP_mk hv.len ?_
  refine lss_s (fun hk => ?_) (fun hk => ?_)
  · have hk : k < l.length := by omega
    rw [drop_cons hk] at hr
    (repeat (first | refine bindP_mk (by simp (disch := first | omega | exact Int.natCast_nonneg _ | assumption) only [BB, B2, ↓reduceIte, Nat.reduceLeDiff, Nat.reduceAdd, CC] <;> rfl) ?_ | refine newP_mk ?_ | refine optP_mk ?_ | with_reducible first | refine condP_t ?_ | refine condP_f ?_ | refine ifP_tt' ?_ | refine ifP_ff' ?_ | refine ifP_tf' ?_ | refine ifP_ft' ?_ | refine ifP_u' ?_ | refine optP_mk0 ?_))
    refine bindP_mk (hv.ix _ hk) (bindP_mk (hv.load hk) ?_)
    generalize l[k] = x at hr
    refine eql_s (fun he => ?_) (fun he => ?_)
    · (repeat (first | refine bindP_mk (by simp (disch := first | omega | exact Int.natCast_nonneg _ | assumption) only [BB, B2, ↓reduceIte, Nat.reduceLeDiff, Nat.reduceAdd, CC] <;> rfl) ?_ | refine newP_mk ?_ | refine optP_mk ?_ | with_reducible first | refine condP_t ?_ | refine condP_f ?_ | refine ifP_tt' ?_ | refine ifP_ff' ?_ | refine ifP_tf' ?_ | refine ifP_ft' ?_ | refine ifP_u' ?_ | refine optP_mk0 ?_))
      refine hx _ _ _ _ (fun e => by cases e) (exP_r ?_)
      exact ⟨_, Sub.refl _, kb hK (by rw [← hr, he]; simp) (by omega)⟩
    · (repeat (first | refine bindP_mk (by simp (disch := first | omega | exact Int.natCast_nonneg _ | assumption) only [BB, B2, ↓reduceIte, Nat.reduceLeDiff, Nat.reduceAdd, CC] <;> rfl) ?_ | refine newP_mk ?_ | refine optP_mk ?_ | with_reducible first | refine condP_t ?_ | refine condP_f ?_ | refine ifP_tt' ?_ | refine ifP_ff' ?_ | refine ifP_tf' ?_ | refine ifP_ft' ?_ | refine ifP_u' ?_ | refine optP_mk0 ?_))
      refine hq (j - 1) _ _ _ _ (by omega) ⟨k + 1, by omega, by omega, rfl, e0, e1, rfl, ?_⟩ (Sub.refl _)
      rw [← hr, List.contains_cons, beq_eq_false_iff_ne.2 (Ne.symm he), Bool.false_or]
  · (repeat (first | refine bindP_mk (by simp (disch := first | omega | exact Int.natCast_nonneg _ | assumption) only [BB, B2, ↓reduceIte, Nat.reduceLeDiff, Nat.reduceAdd, CC] <;> rfl) ?_ | refine newP_mk ?_ | refine optP_mk ?_ | with_reducible first | refine condP_t ?_ | refine condP_f ?_ | refine ifP_tt' ?_ | refine ifP_ff' ?_ | refine ifP_tf' ?_ | refine ifP_ft' ?_ | refine ifP_u' ?_ | refine optP_mk0 ?_))
    refine hx _ _ _ _ (fun e => by cases e) (exP_e (beqP_t ?_))
    unfold ref11_in_j1
    rw [drop_all (by omega)] at hr
    exact ⟨_, Sub.refl _, kb hK hr.symm (by omega)⟩
theorem slices_Contains_c {ro : Ro} {v : Value} {l : List Int} {p : Int} (hlen : l.length ≤ 1000000) {h : T Obj} {nx : Nat} {K : KV} (hv : ZI ro h v l) (hK : ∀ nx', nx ≤ nx' → K (.bool (l.contains p)) h nx') : callP Tryz.prog ro i_slices_Contains_int_int [v, .int .i64 p] h nx K := by
  apply slices_Contains_int_int_of
  unfold slices_Contains_int_int
  apply slices_Index_int_int_of
  unfold slices_Index_int_int
  refine bindP_mk hv.len ?_
  have hyes : ∀ (k : Nat) n, p ∈ l → nx ≤ n → bindP (intB .geq (.int .i64 (k : Int)) (.int .i64 0)) fun t8_4 => ∃ h5, Sub h5 h ∧ K t8_4 h5 (n + 2) := fun k n hp hn => by
    refine geq_s (fun hg => ?_) (fun hg => by omega)
    exact ⟨_, Sub.refl _, kb hK (by simpa using hp) (by omega)⟩
  generalize hR : l.contains p = R at hK
  refine loopP_rule (fun j e h' nx' => ∃ (k : Nat), k + j = l.length ∧ nx ≤ nx' ∧ h' = h ∧ e 0 = v ∧ e 1 = .int .i64 p ∧ e 7 = .int .i64 l.length ∧ e 8 = .int .i64 k ∧ (l.drop k).contains p = R) ?_ (n := l.length) ⟨0, by omega, by omega, rfl, rfl, rfl, rfl, rfl, hR⟩
  rintro j e h' nx' ⟨k, hj, hnx, rfl, e0, e1, e7, e8, hr⟩ Q' hq hx
  unfold slices_Index_int_int_L1
  rw [e0, e1, e7, e8]
  refine lss_s (fun hk => ?_) (fun hk => ?_)
  · have hk : k < l.length := by omega
    have hmem : l[k] ∈ l := List.getElem_mem hk
    rw [drop_cons hk] at hr
    (repeat (first | refine bindP_mk (by simp (disch := first | omega | exact Int.natCast_nonneg _ | assumption) only [BB, B2, ↓reduceIte, Nat.reduceLeDiff, Nat.reduceAdd, CC] <;> rfl) ?_ | refine newP_mk ?_ | refine optP_mk ?_ | with_reducible first | refine condP_t ?_ | refine condP_f ?_ | refine ifP_tt' ?_ | refine ifP_ff' ?_ | refine ifP_tf' ?_ | refine ifP_ft' ?_ | refine ifP_u' ?_ | refine optP_mk0 ?_))
    refine bindP_mk (hv.ix _ hk) (bindP_mk (hv.load hk) ?_)
    generalize l[k] = x at hr hmem
    refine eql_s (fun he => ?_) (fun he => ?_)
    · (repeat (first | refine bindP_mk (by simp (disch := first | omega | exact Int.natCast_nonneg _ | assumption) only [BB, B2, ↓reduceIte, Nat.reduceLeDiff, Nat.reduceAdd, CC] <;> rfl) ?_ | refine newP_mk ?_ | refine optP_mk ?_ | with_reducible first | refine condP_t ?_ | refine condP_f ?_ | refine ifP_tt' ?_ | refine ifP_ff' ?_ | refine ifP_tf' ?_ | refine ifP_ft' ?_ | refine ifP_u' ?_ | refine optP_mk0 ?_))
      refine hx _ _ _ _ (fun e => by cases e) (exP_r ?_)
      refine ⟨_, Sub.refl _, hyes _ _ (by rw [he]; exact hmem) (by omega)⟩
    · (repeat (first | refine bindP_mk (by simp (disch := first | omega | exact Int.natCast_nonneg _ | assumption) only [BB, B2, ↓reduceIte, Nat.reduceLeDiff, Nat.reduceAdd, CC] <;> rfl) ?_ | refine newP_mk ?_ | refine optP_mk ?_ | with_reducible first | refine condP_t ?_ | refine condP_f ?_ | refine ifP_tt' ?_ | refine ifP_ff' ?_ | refine ifP_tf' ?_ | refine ifP_ft' ?_ | refine ifP_u' ?_ | refine optP_mk0 ?_))
      refine hq (j - 1) _ _ _ _ (by omega) ⟨k + 1, by omega, by omega, rfl, e0, e1, e7, rfl, ?_⟩ (Sub.refl _)
      rw [← hr, List.contains_cons, beq_eq_false_iff_ne.2 he, Bool.false_or]
  · (repeat (first | refine bindP_mk (by simp (disch := first | omega | exact Int.natCast_nonneg _ | assumption) only [BB, B2, ↓reduceIte, Nat.reduceLeDiff, Nat.reduceAdd, CC] <;> rfl) ?_ | refine newP_mk ?_ | refine optP_mk ?_ | with_reducible first | refine condP_t ?_ | refine condP_f ?_ | refine ifP_tt' ?_ | refine ifP_ff' ?_ | refine ifP_tf' ?_ | refine ifP_ft' ?_ | refine ifP_u' ?_ | refine optP_mk0 ?_))
    refine hx _ _ _ _ (fun e => by cases e) (exP_e (beqP_t ?_))
    unfold slices_Index_int_int_j1
    rw [drop_all (by omega)] at hr
    refine ⟨_, Sub.refl _, ?_⟩
    refine geq_s (fun hg => by omega) (fun hg => ?_)
    exact ⟨_, Sub.refl _, kb hK hr.symm (by omega)⟩
set_option maxRecDepth 8000 in
set_option maxHeartbeats 1000000 in
theorem checker_move_c {ro : Ro} {c : List Nat} {n : Int} {cv sv lv rv uv nv ov : Value} {S : List StateD} {R : List Int} {m : MoveD} (hc : c.length = 256) (hSl : S.length ≤ 256) (hR : R.length ≤ 3) (hmo : m.ops.length ≤ maxB) {h : T Obj} {nx : Nat} {K : KV} (hf : Fr h nx)
    (hS : SlR ro h sv 4 (RState ro h) S) (hrv : ZI ro h rv R) (hov : SlR ro h ov 1 RU8 m.ops) (hK : ∀ nx', nx ≤ nx' → K (.bool (moveOk S R m)) h nx') : callP Tryz.prog ro i_auto_checker_move [.agg (autL c n cv sv).toArray, .agg #[lv, rv, uv, nv], .agg #[.int .i64 m.to, ov]] h nx K := by
  apply auto_checker_move_of
  unfold auto_checker_move
  refine param_mk hf (Nat.le_refl _) fun h1 hs1 hf1 g1 _ => ?_
  refine param_mk hf1 (Nat.le_refl _) fun h2 hs2 hf2 g2 _ => ?_
  refine param_mk hf2 (Nat.le_refl _) fun h3 hs3 hf3 g3 _ => ?_
  have g1 : h3.get nx = some (.cells (autL c n cv sv).toArray y_auto_checker) := hs3 _ _ (hs2 _ _ g1)
  have g2 : h3.get (nx + 1) = some (.cells #[lv, rv, uv, nv] y_api_State) := hs3 _ _ g2
  have g3 : h3.get (nx + 2) = some (.cells #[.int .i64 m.to, ov] y_api_Move) := g3
  have hs := (hs1.trans hs2).trans hs3
  have hS := hS.sub hs (RState.sub hs)
  have hrv := hrv.sub hs
  have hov := hov.sub hs fun _ _ h => h
  have hsg := autL_states (n := n) (cv := cv) (sv := sv) hc
  have hol := hov.len
  have hsl := hS.len
  have hmb : m.ops.length ≤ 9223372036854775807 := hmo
  have hno : ∀ n, moveOk S R m = false → nx ≤ n → ∃ h', Sub h' h3 ∧ K (.bool false) h' n := fun n e hn => ⟨h, hs, kb hK e hn⟩
  (repeat (first | refine bindP_mk (by simp (disch := first | omega | exact Int.natCast_nonneg _ | assumption) only [BB, B2, ↓reduceIte, Nat.reduceLeDiff, Nat.reduceAdd, CC, g3] <;> rfl) ?_ | refine newP_mk ?_ | refine optP_mk ?_ | with_reducible first | refine condP_t ?_ | refine condP_f ?_ | refine ifP_tt' ?_ | refine ifP_ff' ?_ | refine ifP_tf' ?_ | refine ifP_ft' ?_ | refine ifP_u' ?_ | refine optP_mk0 ?_))
  refine eql_s (fun ht => ?_) (fun ht => ?_)
  · (repeat (first | refine bindP_mk (by simp (disch := first | omega | exact Int.natCast_nonneg _ | assumption) only [BB, B2, ↓reduceIte, Nat.reduceLeDiff, Nat.reduceAdd, CC, g3, hol] <;> rfl) ?_ | refine newP_mk ?_ | refine optP_mk ?_ | with_reducible first | refine condP_t ?_ | refine condP_f ?_ | refine ifP_tt' ?_ | refine ifP_ff' ?_ | refine ifP_tf' ?_ | refine ifP_ft' ?_ | refine ifP_u' ?_ | refine optP_mk0 ?_))
    refine bindP_mk (intB_eql _ _ _) ?_
    refine ⟨h, hs, kb hK ?_ (by omega)⟩
    unfold moveOk
    rw [if_pos ht, decide_eq_decide]
    omega
  · unfold moveOk at hno hK
    rw [if_neg ht] at hno hK
    (repeat (first | refine bindP_mk (by simp (disch := first | omega | exact Int.natCast_nonneg _ | assumption) only [BB, B2, ↓reduceIte, Nat.reduceLeDiff, Nat.reduceAdd, CC, g3] <;> rfl) ?_ | refine newP_mk ?_ | refine optP_mk ?_ | with_reducible first | refine condP_t ?_ | refine condP_f ?_ | refine ifP_tt' ?_ | refine ifP_ff' ?_ | refine ifP_tf' ?_ | refine ifP_ft' ?_ | refine ifP_u' ?_ | refine optP_mk0 ?_))
    refine lss_s (fun h1 => ?_) (fun h1 => ?_)
    · (repeat (first | refine bindP_mk (by simp (disch := first | omega | exact Int.natCast_nonneg _ | assumption) only [BB, B2, ↓reduceIte, Nat.reduceLeDiff, Nat.reduceAdd, CC] <;> rfl) ?_ | refine newP_mk ?_ | refine optP_mk ?_ | with_reducible first | refine condP_t ?_ | refine condP_f ?_ | refine ifP_tt' ?_ | refine ifP_ff' ?_ | refine ifP_tf' ?_ | refine ifP_ft' ?_ | refine ifP_u' ?_ | refine optP_mk0 ?_))
      exact hno _ (by rw [decide_eq_false (by omega)]; rfl) (by omega)
    · rw [decide_eq_true h1, Bool.true_and] at hno hK
      (repeat (first | refine bindP_mk (by simp (disch := first | omega | exact Int.natCast_nonneg _ | assumption) only [BB, B2, ↓reduceIte, Nat.reduceLeDiff, Nat.reduceAdd, CC, g1, g3, hsg, hsl] <;> rfl) ?_ | refine newP_mk ?_ | refine optP_mk ?_ | with_reducible first | refine condP_t ?_ | refine condP_f ?_ | refine ifP_tt' ?_ | refine ifP_ff' ?_ | refine ifP_tf' ?_ | refine ifP_ft' ?_ | refine ifP_u' ?_ | refine optP_mk0 ?_))
      refine geq_s (fun h2 => ?_) (fun h2 => ?_)
      · (repeat (first | refine bindP_mk (by simp (disch := first | omega | exact Int.natCast_nonneg _ | assumption) only [BB, B2, ↓reduceIte, Nat.reduceLeDiff, Nat.reduceAdd, CC] <;> rfl) ?_ | refine newP_mk ?_ | refine optP_mk ?_ | with_reducible first | refine condP_t ?_ | refine condP_f ?_ | refine ifP_tt' ?_ | refine ifP_ff' ?_ | refine ifP_tf' ?_ | refine ifP_ft' ?_ | refine ifP_u' ?_ | refine optP_mk0 ?_))
        exact hno _ (by rw [decide_eq_false (by omega)]; rfl) (by omega)
      · rw [decide_eq_true h2, Bool.true_and] at hno hK
        have hti : m.to.toNat < S.length := by omega
        have hgd : S.getD m.to.toNat noS = S[m.to.toNat] := by rw [List.getD_eq_getElem?_getD, List.getElem?_eq_getElem hti]; rfl
        rw [hgd] at hno hK
        have hix := hS.ixI .i64 (i := m.to) (by omega) h2
        obtain ⟨x, ⟨lv', rv', uv', nv', rfl, y1, y2, y3, y4, y5⟩, hx2, hx3, hx4, hx5⟩ := hS.at hti
        have hx1 := hx5 1 rv' rfl
        have hrl := y2.len
        generalize S[m.to.toNat] = s at hno hK y1 y2 y3 y4 y5 hrl
        have y5 : s.r.length ≤ 9223372036854775807 := y5
        (repeat (first | refine bindP_mk (by simp (disch := first | omega | exact Int.natCast_nonneg _ | assumption) only [BB, B2, ↓reduceIte, Nat.reduceLeDiff, Nat.reduceAdd, CC, g1, g3, hsg, hol, hix, hx4, hx1, hrl] <;> rfl) ?_ | refine newP_mk ?_ | refine optP_mk ?_ | with_reducible first | refine condP_t ?_ | refine condP_f ?_ | refine ifP_tt' ?_ | refine ifP_ff' ?_ | refine ifP_tf' ?_ | refine ifP_ft' ?_ | refine ifP_u' ?_ | refine optP_mk0 ?_))
        refine neq_s (fun u9 => ?_) (fun u9 => ?_)
        · (repeat (first | refine bindP_mk (by simp (disch := first | omega | exact Int.natCast_nonneg _ | assumption) only [BB, B2, ↓reduceIte, Nat.reduceLeDiff, Nat.reduceAdd, CC] <;> rfl) ?_ | refine newP_mk ?_ | refine optP_mk ?_ | with_reducible first | refine condP_t ?_ | refine condP_f ?_ | refine ifP_tt' ?_ | refine ifP_ff' ?_ | refine ifP_tf' ?_ | refine ifP_ft' ?_ | refine ifP_u' ?_ | refine optP_mk0 ?_))
          exact hno _ (by rw [decide_eq_false (by omega)]; rfl) (by omega)
        · have u9 : m.ops.length = s.r.length := by omega
          rw [decide_eq_true u9, Bool.true_and] at hno hK
          (repeat (first | refine bindP_mk (by simp (disch := first | omega | exact Int.natCast_nonneg _ | assumption) only [BB, B2, ↓reduceIte, Nat.reduceLeDiff, Nat.reduceAdd, CC, g3, hol] <;> rfl) ?_ | refine newP_mk ?_ | refine optP_mk ?_ | with_reducible first | refine condP_t ?_ | refine condP_f ?_ | refine ifP_tt' ?_ | refine ifP_ff' ?_ | refine ifP_tf' ?_ | refine ifP_ft' ?_ | refine ifP_u' ?_ | refine optP_mk0 ?_))
          generalize hB : opsOk R m.ops s.r = B at hno hK
          refine loopP_rule (fun j e h' nx' => ∃ (k : Nat), k + j = m.ops.length ∧ nx ≤ nx' ∧ h' = h3 ∧ e 3 = ptr nx ∧ e 4 = ptr (nx + 1) ∧ e 5 = ptr (nx + 2) ∧ e 44 = ov ∧ e 45 = .int .i64 m.ops.length ∧ e 46 = .int .i64 k ∧ opsOk R (m.ops.drop k) (s.r.drop k) = B) ?_ (n := m.ops.length) ⟨0, by omega, by omega, rfl, rfl, rfl, rfl, rfl, rfl, rfl, hB⟩
          rintro j e h' nx' ⟨k, hj, hnx, rfl, e3, e4, e5, e44, e45, e46, hr⟩ Q' hq hx
          unfold auto_checker_move_L1
          rw [e3, e4, e5, e44, e45, e46]
          refine lss_s (fun hk => ?_) (fun hk => ?_)
          · have hk : k < m.ops.length := by omega
            have hk2 : k < s.r.length := by omega
            rw [drop_cons hk, drop_cons hk2, opsOk_cons] at hr
            have oix := hov.ix .i64 hk
            obtain ⟨w, ⟨ow, olt⟩, o1⟩ := hov.at1 hk
            simp only [List.cons.injEq, and_true] at ow
            subst ow
            have rix := y2.ix .i64 hk2
            have rld := y2.load hk2
            generalize m.ops[k] = o at hr o1 olt
            generalize s.r[k] = r at hr rld
            have hfin : ∀ (e' : Env) n, e' 6 = .bool false → opOk R o r = false → nx ≤ n → Q' .ret e' h' n := fun e' n h6 hc hn => by
              refine hx _ _ _ _ (fun e => by cases e) (exP_r ?_)
              rw [h6]
              refine ⟨h, hs, kb hK ?_ hn⟩
              rw [← hr, hc]; rfl
            have hok : ∀ (e' : Env) n, e' 3 = ptr nx → e' 4 = ptr (nx + 1) → e' 5 = ptr (nx + 2) → e' 44 = ov → e' 45 = .int .i64 m.ops.length → e' 46 = .int .i64 ((k : Int) + 1) → opOk R o r = true → nx ≤ n → Q' .normal e' h' n := fun e' n f3 f4 f5 f44 f45 f46 hc hn =>
              hq (j - 1) _ _ _ _ (by omega) ⟨k + 1, by omega, hn, rfl, f3, f4, f5, f44, f45, f46, by rw [← hr, hc]; rfl⟩ (Sub.refl _)
            unfold opOk at hfin hok
            (repeat (first | refine bindP_mk (by simp (disch := first | omega | exact Int.natCast_nonneg _ | assumption) only [BB, B2, ↓reduceIte, Nat.reduceLeDiff, Nat.reduceAdd, CC, oix, o1] <;> rfl) ?_ | refine newP_mk ?_ | refine optP_mk ?_ | with_reducible first | refine condP_t ?_ | refine condP_f ?_ | refine ifP_tt' ?_ | refine ifP_ff' ?_ | refine ifP_tf' ?_ | refine ifP_ft' ?_ | refine ifP_u' ?_ | refine optP_mk0 ?_))
            refine lss_s (fun u1 => ?_) (fun u1 => ?_)
            · (repeat (first | refine bindP_mk (by simp (disch := first | omega | exact Int.natCast_nonneg _ | assumption) only [BB, B2, ↓reduceIte, Nat.reduceLeDiff, Nat.reduceAdd, CC] <;> rfl) ?_ | refine newP_mk ?_ | refine optP_mk ?_ | with_reducible first | refine condP_t ?_ | refine condP_f ?_ | refine ifP_tt' ?_ | refine ifP_ff' ?_ | refine ifP_tf' ?_ | refine ifP_ft' ?_ | refine ifP_u' ?_ | refine optP_mk0 ?_))
              exact hfin _ _ rfl (by rw [decide_eq_false (by omega)]; rfl) (by omega)
            · rw [decide_eq_true (by omega), Bool.true_and] at hfin hok
              (repeat (first | refine bindP_mk (by simp (disch := first | omega | exact Int.natCast_nonneg _ | assumption) only [BB, B2, ↓reduceIte, Nat.reduceLeDiff, Nat.reduceAdd, CC] <;> rfl) ?_ | refine newP_mk ?_ | refine optP_mk ?_ | with_reducible first | refine condP_t ?_ | refine condP_f ?_ | refine ifP_tt' ?_ | refine ifP_ff' ?_ | refine ifP_tf' ?_ | refine ifP_ft' ?_ | refine ifP_u' ?_ | refine optP_mk0 ?_))
              refine gtr_s (fun u2 => ?_) (fun u2 => ?_)
              · (repeat (first | refine bindP_mk (by simp (disch := first | omega | exact Int.natCast_nonneg _ | assumption) only [BB, B2, ↓reduceIte, Nat.reduceLeDiff, Nat.reduceAdd, CC] <;> rfl) ?_ | refine newP_mk ?_ | refine optP_mk ?_ | with_reducible first | refine condP_t ?_ | refine condP_f ?_ | refine ifP_tt' ?_ | refine ifP_ff' ?_ | refine ifP_tf' ?_ | refine ifP_ft' ?_ | refine ifP_u' ?_ | refine optP_mk0 ?_))
                exact hfin _ _ rfl (by rw [decide_eq_false (by omega)]; rfl) (by omega)
              · rw [decide_eq_true (by omega), Bool.true_and] at hfin hok
                (repeat (first | refine bindP_mk (by simp (disch := first | omega | exact Int.natCast_nonneg _ | assumption) only [BB, B2, ↓reduceIte, Nat.reduceLeDiff, Nat.reduceAdd, CC] <;> rfl) ?_ | refine newP_mk ?_ | refine optP_mk ?_ | with_reducible first | refine condP_t ?_ | refine condP_f ?_ | refine ifP_tt' ?_ | refine ifP_ff' ?_ | refine ifP_tf' ?_ | refine ifP_ft' ?_ | refine ifP_u' ?_ | refine optP_mk0 ?_))
                refine neq_s (fun u3 => ?_) (fun u3 => ?_)
                · rw [decide_eq_false (by omega), Bool.false_or] at hfin hok
                  (repeat (first | refine bindP_mk (by simp (disch := first | omega | exact Int.natCast_nonneg _ | assumption) only [BB, B2, ↓reduceIte, Nat.reduceLeDiff, Nat.reduceAdd, CC, g1, g2, g3, hsg, hix, hx4, hx1, rix, rld] <;> rfl) ?_ | refine newP_mk ?_ | refine optP_mk ?_ | with_reducible first | refine condP_t ?_ | refine condP_f ?_ | refine ifP_tt' ?_ | refine ifP_ff' ?_ | refine ifP_tf' ?_ | refine ifP_ft' ?_ | refine ifP_u' ?_ | refine optP_mk0 ?_))
                  refine slices_Contains_c (by omega) hrv fun n9 hn9 => ?_
                  cases hcn : R.contains r with
                  | true =>
                    rw [hcn] at hok
                    (repeat (first | refine bindP_mk (by simp (disch := first | omega | exact Int.natCast_nonneg _ | assumption) only [BB, B2, ↓reduceIte, Nat.reduceLeDiff, Nat.reduceAdd, CC] <;> rfl) ?_ | refine newP_mk ?_ | refine optP_mk ?_ | with_reducible first | refine condP_t ?_ | refine condP_f ?_ | refine ifP_tt' ?_ | refine ifP_ff' ?_ | refine ifP_tf' ?_ | refine ifP_ft' ?_ | refine ifP_u' ?_ | refine optP_mk0 ?_))
                    exact hok _ _ e3 e4 e5 e44 e45 rfl rfl (by omega)
                  | false =>
                    rw [hcn] at hfin
                    (repeat (first | refine bindP_mk (by simp (disch := first | omega | exact Int.natCast_nonneg _ | assumption) only [BB, B2, ↓reduceIte, Nat.reduceLeDiff, Nat.reduceAdd, CC] <;> rfl) ?_ | refine newP_mk ?_ | refine optP_mk ?_ | with_reducible first | refine condP_t ?_ | refine condP_f ?_ | refine ifP_tt' ?_ | refine ifP_ff' ?_ | refine ifP_tf' ?_ | refine ifP_ft' ?_ | refine ifP_u' ?_ | refine optP_mk0 ?_))
                    exact hfin _ _ rfl rfl (by omega)
                · rw [decide_eq_true (by omega), Bool.true_or] at hfin hok
                  (repeat (first | refine bindP_mk (by simp (disch := first | omega | exact Int.natCast_nonneg _ | assumption) only [BB, B2, ↓reduceIte, Nat.reduceLeDiff, Nat.reduceAdd, CC] <;> rfl) ?_ | refine newP_mk ?_ | refine optP_mk ?_ | with_reducible first | refine condP_t ?_ | refine condP_f ?_ | refine ifP_tt' ?_ | refine ifP_ff' ?_ | refine ifP_tf' ?_ | refine ifP_ft' ?_ | refine ifP_u' ?_ | refine optP_mk0 ?_))
                  exact hok _ _ e3 e4 e5 e44 e45 rfl rfl (by omega)
          · (repeat (first | refine bindP_mk (by simp (disch := first | omega | exact Int.natCast_nonneg _ | assumption) only [BB, B2, ↓reduceIte, Nat.reduceLeDiff, Nat.reduceAdd, CC] <;> rfl) ?_ | refine newP_mk ?_ | refine optP_mk ?_ | with_reducible first | refine condP_t ?_ | refine condP_f ?_ | refine ifP_tt' ?_ | refine ifP_ff' ?_ | refine ifP_tf' ?_ | refine ifP_ft' ?_ | refine ifP_u' ?_ | refine optP_mk0 ?_))
            refine hx _ _ _ _ (fun e => by cases e) (exP_e (beqP_t ?_))
            unfold auto_checker_move_j1
            rw [drop_all (by omega), opsOk_nil] at hr
            exact ⟨h, hs, kb hK hr.symm (by omega)⟩
set_option maxRecDepth 8000 in
set_option maxHeartbeats 1000000 in
theorem ref11_move_c {ro : Ro} {c : List Nat} {n : Int} {cv sv lv rv uv nv ov : Value} {S : List StateD} {R : List Int} {m : MoveD} (hc : c.length = 256) (hSl : S.length ≤ 256) (hR : R.length ≤ 3) (hmo : m.ops.length ≤ maxB) {h : T Obj} {nx : Nat} {K : KV} (hf : Fr h nx)
    (hS : SlR ro h sv 4 (RState ro h) S) (hrv : ZI ro h rv R) (hov : SlR ro h ov 1 RU8 m.ops) (hK : ∀ nx', nx ≤ nx' → K (.bool (moveOk S R m)) h nx') : callP Tryz.prog ro i_ref11_move [.agg (autL c n cv sv).toArray, .agg #[lv, rv, uv, nv], .agg #[.int .i64 m.to, ov]] h nx K := by
  apply ref11_move_of
  unfold ref11_move
  refine param_mk hf (Nat.le_refl _) fun h1 hs1 hf1 g1 _ => ?_
  refine param_mk hf1 (Nat.le_refl _) fun h2 hs2 hf2 g2 _ => ?_
  refine param_mk hf2 (Nat.le_refl _) fun h3 hs3 hf3 g3 _ => ?_
  have g1 : h3.get nx = some (.cells (autL c n cv sv).toArray y_api_Auto) := hs3 _ _ (hs2 _ _ g1)
  have g2 : h3.get (nx + 1) = some (.cells #[lv, rv, uv, nv] y_api_State) := hs3 _ _ g2
  have g3 : h3.get (nx + 2) = some (.cells #[.int .i64 m.to, ov] y_api_Move) := g3
  have hs := (hs1.trans hs2).trans hs3
  have hS := hS.sub hs (RState.sub hs)
  have hrv := hrv.sub hs
  have hov := hov.sub hs fun _ _ h => h
  have hsg := autL_states (n := n) (cv := cv) (sv := sv) hc
  have hol := hov.len
  have hsl := hS.len
  have hmb : m.ops.length ≤ 9223372036854775807 := hmo
  have hno : ∀ n, moveOk S R m = false → nx ≤ n → ∃ h', Sub h' h3 ∧ K (.bool false) h' n := fun n e hn => ⟨h, hs, kb hK e hn⟩
  (repeat (first | refine bindP_mk (by simp (disch := first | omega | exact Int.natCast_nonneg _ | assumption) only [BB, B2, ↓reduceIte, Nat.reduceLeDiff, Nat.reduceAdd, CC, g3] <;> rfl) ?_ | refine newP_mk ?_ | refine optP_mk ?_ | with_reducible first | refine condP_t ?_ | refine condP_f ?_ | refine ifP_tt' ?_ | refine ifP_ff' ?_ | refine ifP_tf' ?_ | refine ifP_ft' ?_ | refine ifP_u' ?_ | refine optP_mk0 ?_))
  refine eql_s (fun ht => ?_) (fun ht => ?_)
  · (repeat (first | refine bindP_mk (by simp (disch := first | omega | exact Int.natCast_nonneg _ | assumption) only [BB, B2, ↓reduceIte, Nat.reduceLeDiff, Nat.reduceAdd, CC, g3, hol] <;> rfl) ?_ | refine newP_mk ?_ | refine optP_mk ?_ | with_reducible first | refine condP_t ?_ | refine condP_f ?_ | refine ifP_tt' ?_ | refine ifP_ff' ?_ | refine ifP_tf' ?_ | refine ifP_ft' ?_ | refine ifP_u' ?_ | refine optP_mk0 ?_))
    refine bindP_mk (intB_eql _ _ _) ?_
    refine ⟨h, hs, kb hK ?_ (by omega)⟩
    unfold moveOk
    rw [if_pos ht, decide_eq_decide]
    omega
  · unfold moveOk at hno hK
    rw [if_neg ht] at hno hK
    (repeat (first | refine bindP_mk (by simp (disch := first | omega | exact Int.natCast_nonneg _ | assumption) only [BB, B2, ↓reduceIte, Nat.reduceLeDiff, Nat.reduceAdd, CC, g3] <;> rfl) ?_ | refine newP_mk ?_ | refine optP_mk ?_ | with_reducible first | refine condP_t ?_ | refine condP_f ?_ | refine ifP_tt' ?_ | refine ifP_ff' ?_ | refine ifP_tf' ?_ | refine ifP_ft' ?_ | refine ifP_u' ?_ | refine optP_mk0 ?_))
    refine lss_s (fun h1 => ?_) (fun h1 => ?_)
    · (repeat (first | refine bindP_mk (by simp (disch := first | omega | exact Int.natCast_nonneg _ | assumption) only [BB, B2, ↓reduceIte, Nat.reduceLeDiff, Nat.reduceAdd, CC] <;> rfl) ?_ | refine newP_mk ?_ | refine optP_mk ?_ | with_reducible first | refine condP_t ?_ | refine condP_f ?_ | refine ifP_tt' ?_ | refine ifP_ff' ?_ | refine ifP_tf' ?_ | refine ifP_ft' ?_ | refine ifP_u' ?_ | refine optP_mk0 ?_))
      exact hno _ (by rw [decide_eq_false (by omega)]; rfl) (by omega)
    · rw [decide_eq_true h1, Bool.true_and] at hno hK
      (repeat (first | refine bindP_mk (by simp (disch := first | omega | exact Int.natCast_nonneg _ | assumption) only [BB, B2, ↓reduceIte, Nat.reduceLeDiff, Nat.reduceAdd, CC, g1, g3, hsg, hsl] <;> rfl) ?_ | refine newP_mk ?_ | refine optP_mk ?_ | with_reducible first | refine condP_t ?_ | refine condP_f ?_ | refine ifP_tt' ?_ | refine ifP_ff' ?_ | refine ifP_tf' ?_ | refine ifP_ft' ?_ | refine ifP_u' ?_ | refine optP_mk0 ?_))
      refine geq_s (fun h2 => ?_) (fun h2 => ?_)
      · (repeat (first | refine bindP_mk (by simp (disch := first | omega | exact Int.natCast_nonneg _ | assumption) only [BB, B2, ↓reduceIte, Nat.reduceLeDiff, Nat.reduceAdd, CC] <;> rfl) ?_ | refine newP_mk ?_ | refine optP_mk ?_ | with_reducible first | refine condP_t ?_ | refine condP_f ?_ | refine ifP_tt' ?_ | refine ifP_ff' ?_ | refine ifP_tf' ?_ | refine ifP_ft' ?_ | refine ifP_u' ?_ | refine optP_mk0 ?_))
        exact hno _ (by rw [decide_eq_false (by omega)]; rfl) (by omega)
      · rw [decide_eq_true h2, Bool.true_and] at hno hK
        have hti : m.to.toNat < S.length := by omega
        have hgd : S.getD m.to.toNat noS = S[m.to.toNat] := by rw [List.getD_eq_getElem?_getD, List.getElem?_eq_getElem hti]; rfl
        rw [hgd] at hno hK
        have hix := hS.ixI .i64 (i := m.to) (by omega) h2
        obtain ⟨x, ⟨lv', rv', uv', nv', rfl, y1, y2, y3, y4, y5⟩, hx2, hx3, hx4, hx5⟩ := hS.at hti
        have hx1 := hx5 1 rv' rfl
        have hrl := y2.len
        generalize S[m.to.toNat] = s at hno hK y1 y2 y3 y4 y5 hrl
        have y5 : s.r.length ≤ 9223372036854775807 := y5
        (repeat (first | refine bindP_mk (by simp (disch := first | omega | exact Int.natCast_nonneg _ | assumption) only [BB, B2, ↓reduceIte, Nat.reduceLeDiff, Nat.reduceAdd, CC, g1, g3, hsg, hol, hix, hx4, hx1, hrl] <;> rfl) ?_ | refine newP_mk ?_ | refine optP_mk ?_ | with_reducible first | refine condP_t ?_ | refine condP_f ?_ | refine ifP_tt' ?_ | refine ifP_ff' ?_ | refine ifP_tf' ?_ | refine ifP_ft' ?_ | refine ifP_u' ?_ | refine optP_mk0 ?_))
        refine neq_s (fun u9 => ?_) (fun u9 => ?_)
        · (repeat (first | refine bindP_mk (by simp (disch := first | omega | exact Int.natCast_nonneg _ | assumption) only [BB, B2, ↓reduceIte, Nat.reduceLeDiff, Nat.reduceAdd, CC] <;> rfl) ?_ | refine newP_mk ?_ | refine optP_mk ?_ | with_reducible first | refine condP_t ?_ | refine condP_f ?_ | refine ifP_tt' ?_ | refine ifP_ff' ?_ | refine ifP_tf' ?_ | refine ifP_ft' ?_ | refine ifP_u' ?_ | refine optP_mk0 ?_))
          exact hno _ (by rw [decide_eq_false (by omega)]; rfl) (by omega)
        · have u9 : m.ops.length = s.r.length := by omega
          rw [decide_eq_true u9, Bool.true_and] at hno hK
          (repeat (first | refine bindP_mk (by simp (disch := first | omega | exact Int.natCast_nonneg _ | assumption) only [BB, B2, ↓reduceIte, Nat.reduceLeDiff, Nat.reduceAdd, CC, g3, hol] <;> rfl) ?_ | refine newP_mk ?_ | refine optP_mk ?_ | with_reducible first | refine condP_t ?_ | refine condP_f ?_ | refine ifP_tt' ?_ | refine ifP_ff' ?_ | refine ifP_tf' ?_ | refine ifP_ft' ?_ | refine ifP_u' ?_ | refine optP_mk0 ?_))
          generalize hB : opsOk R m.ops s.r = B at hno hK
          refine loopP_rule (fun j e h' nx' => ∃ (k : Nat), k + j = m.ops.length ∧ nx ≤ nx' ∧ h' = h3 ∧ e 3 = ptr nx ∧ e 4 = ptr (nx + 1) ∧ e 5 = ptr (nx + 2) ∧ e 7 = .int .i64 k ∧ opsOk R (m.ops.drop k) (s.r.drop k) = B) ?_ (n := m.ops.length) ⟨0, by omega, by omega, rfl, rfl, rfl, rfl, rfl, hB⟩
          rintro j e h' nx' ⟨k, hj, hnx, rfl, e3, e4, e5, e7, hr⟩ Q' hq hx
          unfold ref11_move_L1
          rw [e3, e4, e5, e7]
          (repeat (first | refine bindP_mk (by simp (disch := first | omega | exact Int.natCast_nonneg _ | assumption) only [BB, B2, ↓reduceIte, Nat.reduceLeDiff, Nat.reduceAdd, CC, g3, hol] <;> rfl) ?_ | refine newP_mk ?_ | refine optP_mk ?_ | with_reducible first | refine condP_t ?_ | refine condP_f ?_ | refine ifP_tt' ?_ | refine ifP_ff' ?_ | refine ifP_tf' ?_ | refine ifP_ft' ?_ | refine ifP_u' ?_ | refine optP_mk0 ?_))
          refine lss_s (fun hk => ?_) (fun hk => ?_)
          · have hk : k < m.ops.length := by omega
            have hk2 : k < s.r.length := by omega
            rw [drop_cons hk, drop_cons hk2, opsOk_cons] at hr
            have oix := hov.ix .i64 hk
            obtain ⟨w, ⟨ow, olt⟩, o1⟩ := hov.at1 hk
            simp only [List.cons.injEq, and_true] at ow
            subst ow
            have rix := y2.ix .i64 hk2
            have rld := y2.load hk2
            generalize m.ops[k] = o at hr o1 olt
            generalize s.r[k] = r at hr rld
            have hfin : ∀ (e' : Env) n, e' 6 = .bool false → opOk R o r = false → nx ≤ n → Q' .ret e' h' n := fun e' n h6 hc hn => by
              refine hx _ _ _ _ (fun e => by cases e) (exP_r ?_)
              rw [h6]
              refine ⟨h, hs, kb hK ?_ hn⟩
              rw [← hr, hc]; rfl
            have hok : ∀ (e' : Env) n, e' 3 = ptr nx → e' 4 = ptr (nx + 1) → e' 5 = ptr (nx + 2) → e' 7 = .int .i64 ((k : Int) + 1) → opOk R o r = true → nx ≤ n → Q' .normal e' h' n := fun e' n f3 f4 f5 f7 hc hn =>
              hq (j - 1) _ _ _ _ (by omega) ⟨k + 1, by omega, hn, rfl, f3, f4, f5, f7, by rw [← hr, hc]; rfl⟩ (Sub.refl _)
            unfold opOk at hfin hok
            (repeat (first | refine bindP_mk (by simp (disch := first | omega | exact Int.natCast_nonneg _ | assumption) only [BB, B2, ↓reduceIte, Nat.reduceLeDiff, Nat.reduceAdd, CC, g3, oix, o1] <;> rfl) ?_ | refine newP_mk ?_ | refine optP_mk ?_ | with_reducible first | refine condP_t ?_ | refine condP_f ?_ | refine ifP_tt' ?_ | refine ifP_ff' ?_ | refine ifP_tf' ?_ | refine ifP_ft' ?_ | refine ifP_u' ?_ | refine optP_mk0 ?_))
            refine lss_s (fun u1 => ?_) (fun u1 => ?_)
            · (repeat (first | refine bindP_mk (by simp (disch := first | omega | exact Int.natCast_nonneg _ | assumption) only [BB, B2, ↓reduceIte, Nat.reduceLeDiff, Nat.reduceAdd, CC, g3, oix, o1] <;> rfl) ?_ | refine newP_mk ?_ | refine optP_mk ?_ | with_reducible first | refine condP_t ?_ | refine condP_f ?_ | refine ifP_tt' ?_ | refine ifP_ff' ?_ | refine ifP_tf' ?_ | refine ifP_ft' ?_ | refine ifP_u' ?_ | refine optP_mk0 ?_))
              exact hfin _ _ rfl (by rw [decide_eq_false (by omega)]; rfl) (by omega)
            · rw [decide_eq_true (by omega), Bool.true_and] at hfin hok
              (repeat (first | refine bindP_mk (by simp (disch := first | omega | exact Int.natCast_nonneg _ | assumption) only [BB, B2, ↓reduceIte, Nat.reduceLeDiff, Nat.reduceAdd, CC, g3, oix, o1] <;> rfl) ?_ | refine newP_mk ?_ | refine optP_mk ?_ | with_reducible first | refine condP_t ?_ | refine condP_f ?_ | refine ifP_tt' ?_ | refine ifP_ff' ?_ | refine ifP_tf' ?_ | refine ifP_ft' ?_ | refine ifP_u' ?_ | refine optP_mk0 ?_))
              refine gtr_s (fun u2 => ?_) (fun u2 => ?_)
              · (repeat (first | refine bindP_mk (by simp (disch := first | omega | exact Int.natCast_nonneg _ | assumption) only [BB, B2, ↓reduceIte, Nat.reduceLeDiff, Nat.reduceAdd, CC, g3, oix, o1] <;> rfl) ?_ | refine newP_mk ?_ | refine optP_mk ?_ | with_reducible first | refine condP_t ?_ | refine condP_f ?_ | refine ifP_tt' ?_ | refine ifP_ff' ?_ | refine ifP_tf' ?_ | refine ifP_ft' ?_ | refine ifP_u' ?_ | refine optP_mk0 ?_))
                exact hfin _ _ rfl (by rw [decide_eq_false (by omega)]; rfl) (by omega)
              · rw [decide_eq_true (by omega), Bool.true_and] at hfin hok
                (repeat (first | refine bindP_mk (by simp (disch := first | omega | exact Int.natCast_nonneg _ | assumption) only [BB, B2, ↓reduceIte, Nat.reduceLeDiff, Nat.reduceAdd, CC, g3, oix, o1] <;> rfl) ?_ | refine newP_mk ?_ | refine optP_mk ?_ | with_reducible first | refine condP_t ?_ | refine condP_f ?_ | refine ifP_tt' ?_ | refine ifP_ff' ?_ | refine ifP_tf' ?_ | refine ifP_ft' ?_ | refine ifP_u' ?_ | refine optP_mk0 ?_))
                refine neq_s (fun u3 => ?_) (fun u3 => ?_)
                · rw [decide_eq_false (by omega), Bool.false_or] at hfin hok
                  (repeat (first | refine bindP_mk (by simp (disch := first | omega | exact Int.natCast_nonneg _ | assumption) only [BB, B2, ↓reduceIte, Nat.reduceLeDiff, Nat.reduceAdd, CC, g1, g2, g3, hsg, hix, hx4, hx1, rix, rld] <;> rfl) ?_ | refine newP_mk ?_ | refine optP_mk ?_ | with_reducible first | refine condP_t ?_ | refine condP_f ?_ | refine ifP_tt' ?_ | refine ifP_ff' ?_ | refine ifP_tf' ?_ | refine ifP_ft' ?_ | refine ifP_u' ?_ | refine optP_mk0 ?_))
                  refine ref11_in_c (by omega) hrv fun n9 hn9 => ?_
                  cases hcn : R.contains r with
                  | true =>
                    rw [hcn] at hok
                    (repeat (first | refine bindP_mk (by simp (disch := first | omega | exact Int.natCast_nonneg _ | assumption) only [BB, B2, ↓reduceIte, Nat.reduceLeDiff, Nat.reduceAdd, CC] <;> rfl) ?_ | refine newP_mk ?_ | refine optP_mk ?_ | with_reducible first | refine condP_t ?_ | refine condP_f ?_ | refine ifP_tt' ?_ | refine ifP_ff' ?_ | refine ifP_tf' ?_ | refine ifP_ft' ?_ | refine ifP_u' ?_ | refine optP_mk0 ?_))
                    exact hok _ _ e3 e4 e5 rfl rfl (by omega)
                  | false =>
                    rw [hcn] at hfin
                    (repeat (first | refine bindP_mk (by simp (disch := first | omega | exact Int.natCast_nonneg _ | assumption) only [BB, B2, ↓reduceIte, Nat.reduceLeDiff, Nat.reduceAdd, CC] <;> rfl) ?_ | refine newP_mk ?_ | refine optP_mk ?_ | with_reducible first | refine condP_t ?_ | refine condP_f ?_ | refine ifP_tt' ?_ | refine ifP_ff' ?_ | refine ifP_tf' ?_ | refine ifP_ft' ?_ | refine ifP_u' ?_ | refine optP_mk0 ?_))
                    exact hfin _ _ rfl rfl (by omega)
                · rw [decide_eq_true (by omega), Bool.true_or] at hfin hok
                  (repeat (first | refine bindP_mk (by simp (disch := first | omega | exact Int.natCast_nonneg _ | assumption) only [BB, B2, ↓reduceIte, Nat.reduceLeDiff, Nat.reduceAdd, CC] <;> rfl) ?_ | refine newP_mk ?_ | refine optP_mk ?_ | with_reducible first | refine condP_t ?_ | refine condP_f ?_ | refine ifP_tt' ?_ | refine ifP_ff' ?_ | refine ifP_tf' ?_ | refine ifP_ft' ?_ | refine ifP_u' ?_ | refine optP_mk0 ?_))
                  exact hok _ _ e3 e4 e5 rfl rfl (by omega)
          · (repeat (first | refine bindP_mk (by simp (disch := first | omega | exact Int.natCast_nonneg _ | assumption) only [BB, B2, ↓reduceIte, Nat.reduceLeDiff, Nat.reduceAdd, CC] <;> rfl) ?_ | refine newP_mk ?_ | refine optP_mk ?_ | with_reducible first | refine condP_t ?_ | refine condP_f ?_ | refine ifP_tt' ?_ | refine ifP_ff' ?_ | refine ifP_tf' ?_ | refine ifP_ft' ?_ | refine ifP_u' ?_ | refine optP_mk0 ?_))
            refine hx _ _ _ _ (fun e => by cases e) (exP_e (beqP_t ?_))
            unfold ref11_move_j1
            rw [drop_all (by omega), opsOk_nil] at hr
            exact ⟨h, hs, kb hK hr.symm (by omega)⟩
def rowOk (S : List StateD) (R : List Int) (many ru : Int) (row : List MoveD) : Bool := decide (-1 ≤ ru) && (decide (ru < 512) && (decide ((row.length : Int) = many) && row.all (moveOk S R)))
def rowsOk (S : List StateD) (R : List Int) (many : Int) : List Int → List (List MoveD) → Bool
  | ru :: rus, row :: rows => rowOk S R many ru row && rowsOk S R many rus rows
  | _, _ => true
def stateOk (S : List StateD) (many : Int) (cn : Nat) (s : StateD) : Bool := decide (codesD s.r.length ≠ 0) && (decide ((s.rule.length : Int) = codesD s.r.length) && (decide ((s.next.length : Int) = codesD s.r.length) && (rz (-1) 512 s.l && (rz (-1) cn s.r && rowsOk S s.r many s.rule s.next))))
theorem rowsOk_cons (S : List StateD) (R : List Int) (many ru : Int) (row : List MoveD) (rus : List Int) (rows : List (List MoveD)) : rowsOk S R many (ru :: rus) (row :: rows) = (rowOk S R many ru row && rowsOk S R many rus rows) := rfl
theorem rowsOk_nil (S : List StateD) (R : List Int) (many : Int) (l : List Int) : rowsOk S R many l [] = true := by cases l <;> rfl
theorem move_IndexFunc_c {ro : Ro} {v f : Value} {D : Type} {l : List D} {R : List Value → D → Prop} {q : D → Bool} (hlen : l.length ≤ 1000000) {h : T Obj} {nx : Nat} {K : KV} (hv : SlR ro h v 2 R l)
    (hf : ∀ (i : Nat) (hi : i < l.length) x n K', R x l[i] → nx ≤ n → (∀ n', n ≤ n' → K' (.bool (q l[i])) h n') → callF (callP Tryz.prog ro) f [.agg x.toArray] h n K')
    (hK : ∀ nx', nx ≤ nx' → K (.int .i64 (findI q 0 l)) h nx') : callP Tryz.prog ro i_slices_IndexFunc_api_Move_api_Move [v, f] h nx K := by
  apply slices_IndexFunc_api_Move_api_Move_of
  unfold slices_IndexFunc_api_Move_api_Move
  generalize hR : findI q 0 l = r at hK
  refine bindP_mk hv.len ?_
  refine loopP_rule (fun j e h' nx' => ∃ (k : Nat), k + j = l.length ∧ nx ≤ nx' ∧ h' = h ∧ e 0 = v ∧ e 1 = f ∧ e 7 = .int .i64 l.length ∧ e 8 = .int .i64 k ∧ findI q k (l.drop k) = r) ?_ (n := l.length) ⟨0, by omega, by omega, rfl, rfl, rfl, rfl, rfl, hR⟩
  rintro j e h' nx' ⟨k, hj, hnx, rfl, e0, e1, e7, e8, hr⟩ Q' hq hx
  unfold slices_IndexFunc_api_Move_api_Move_L1
  rw [e0, e1, e7, e8]
  refine lss_s (fun hk => ?_) (fun hk => ?_)
  · have hk : k < l.length := by omega
    rw [drop_cons hk, findI_cons] at hr
    obtain ⟨x, hx1, hx2, hx3, hx4, hx5⟩ := hv.at hk
    (repeat (first | refine bindP_mk (by simp (disch := first | omega | exact Int.natCast_nonneg _ | assumption) only [BB, B2, ↓reduceIte, Nat.reduceLeDiff, Nat.reduceAdd, CC] <;> rfl) ?_ | refine newP_mk ?_ | refine optP_mk ?_ | with_reducible first | refine condP_t ?_ | refine condP_f ?_ | refine ifP_tt' ?_ | refine ifP_ff' ?_ | refine ifP_tf' ?_ | refine ifP_ft' ?_ | refine ifP_u' ?_ | refine optP_mk0 ?_))
    refine bindP_mk (hv.ix _ hk) (bindP_mk hx3 ?_)
    refine hf k hk x _ _ hx1 (by omega) fun n hn => ?_
    cases hc : q l[k] with
    | true =>
      rw [hc, if_pos rfl] at hr
      (repeat (first | refine bindP_mk (by simp (disch := first | omega | exact Int.natCast_nonneg _ | assumption) only [BB, B2, ↓reduceIte, Nat.reduceLeDiff, Nat.reduceAdd, CC] <;> rfl) ?_ | refine newP_mk ?_ | refine optP_mk ?_ | with_reducible first | refine condP_t ?_ | refine condP_f ?_ | refine ifP_tt' ?_ | refine ifP_ff' ?_ | refine ifP_tf' ?_ | refine ifP_ft' ?_ | refine ifP_u' ?_ | refine optP_mk0 ?_))
      refine hx _ _ _ _ (fun e => by cases e) (exP_r ?_)
      exact ⟨_, Sub.refl _, ki hK hr.symm (by omega)⟩
    | false =>
      rw [hc, if_neg (by decide)] at hr
      (repeat (first | refine bindP_mk (by simp (disch := first | omega | exact Int.natCast_nonneg _ | assumption) only [BB, B2, ↓reduceIte, Nat.reduceLeDiff, Nat.reduceAdd, CC] <;> rfl) ?_ | refine newP_mk ?_ | refine optP_mk ?_ | with_reducible first | refine condP_t ?_ | refine condP_f ?_ | refine ifP_tt' ?_ | refine ifP_ff' ?_ | refine ifP_tf' ?_ | refine ifP_ft' ?_ | refine ifP_u' ?_ | refine optP_mk0 ?_))
      exact hq (j - 1) _ _ _ _ (by omega) ⟨k + 1, by omega, by omega, rfl, e0, e1, e7, rfl, hr⟩ (Sub.refl _)
  · (repeat (first | refine bindP_mk (by simp (disch := first | omega | exact Int.natCast_nonneg _ | assumption) only [BB, B2, ↓reduceIte, Nat.reduceLeDiff, Nat.reduceAdd, CC] <;> rfl) ?_ | refine newP_mk ?_ | refine optP_mk ?_ | with_reducible first | refine condP_t ?_ | refine condP_f ?_ | refine ifP_tt' ?_ | refine ifP_ff' ?_ | refine ifP_tf' ?_ | refine ifP_ft' ?_ | refine ifP_u' ?_ | refine optP_mk0 ?_))
    refine hx _ _ _ _ (fun e => by cases e) (exP_e (beqP_t ?_))
    unfold slices_IndexFunc_api_Move_api_Move_j1
    rw [drop_all (by omega)] at hr
    exact ⟨_, Sub.refl _, ki hK hr.symm (by omega)⟩
theorem move_ContainsFunc_c {ro : Ro} {v f : Value} {D : Type} {l : List D} {R : List Value → D → Prop} {q : D → Bool} (hlen : l.length ≤ 1000000) {h : T Obj} {nx : Nat} {K : KV} (hv : SlR ro h v 2 R l)
    (hf : ∀ (i : Nat) (hi : i < l.length) x n K', R x l[i] → nx ≤ n → (∀ n', n ≤ n' → K' (.bool (q l[i])) h n') → callF (callP Tryz.prog ro) f [.agg x.toArray] h n K')
    (hK : ∀ nx', nx ≤ nx' → K (.bool (l.any q)) h nx') : callP Tryz.prog ro i_slices_ContainsFunc_api_Move_api_Move [v, f] h nx K := by
  apply slices_ContainsFunc_api_Move_api_Move_of
  unfold slices_ContainsFunc_api_Move_api_Move
  refine move_IndexFunc_c hlen hv (fun i hi x n K' hx hn hk => hf i hi x n K' hx (by omega) hk) fun n hn => ?_
  rw [← findI_any q l 0 (by omega)] at hK
  (first | refine lss_s (fun hb => ?_) (fun hb => ?_) | refine leq_s (fun hb => ?_) (fun hb => ?_) | refine gtr_s (fun hb => ?_) (fun hb => ?_) | refine geq_s (fun hb => ?_) (fun hb => ?_) | refine eql_s (fun hb => ?_) (fun hb => ?_) | refine neq_s (fun hb => ?_) (fun hb => ?_))
  · exact ⟨_, Sub.refl _, kb hK (decide_eq_true hb) (by omega)⟩
  · exact ⟨_, Sub.refl _, kb hK (decide_eq_false (by omega)) (by omega)⟩
theorem state_IndexFunc_c {ro : Ro} {v f : Value} {D : Type} {l : List D} {R : List Value → D → Prop} {q : D → Bool} (hlen : l.length ≤ 1000000) {h : T Obj} {nx : Nat} {K : KV} (hv : SlR ro h v 4 R l)
    (hf : ∀ (i : Nat) (hi : i < l.length) x n K', R x l[i] → nx ≤ n → (∀ n', n ≤ n' → K' (.bool (q l[i])) h n') → callF (callP Tryz.prog ro) f [.agg x.toArray] h n K')
    (hK : ∀ nx', nx ≤ nx' → K (.int .i64 (findI q 0 l)) h nx') : callP Tryz.prog ro i_slices_IndexFunc_api_State_api_State [v, f] h nx K := by
  apply slices_IndexFunc_api_State_api_State_of
  unfold slices_IndexFunc_api_State_api_State
  generalize hR : findI q 0 l = r at hK
  refine bindP_mk hv.len ?_
  refine loopP_rule (fun j e h' nx' => ∃ (k : Nat), k + j = l.length ∧ nx ≤ nx' ∧ h' = h ∧ e 0 = v ∧ e 1 = f ∧ e 7 = .int .i64 l.length ∧ e 8 = .int .i64 k ∧ findI q k (l.drop k) = r) ?_ (n := l.length) ⟨0, by omega, by omega, rfl, rfl, rfl, rfl, rfl, hR⟩
  rintro j e h' nx' ⟨k, hj, hnx, rfl, e0, e1, e7, e8, hr⟩ Q' hq hx
  unfold slices_IndexFunc_api_State_api_State_L1
  rw [e0, e1, e7, e8]
  refine lss_s (fun hk => ?_) (fun hk => ?_)
  · have hk : k < l.length := by omega
    rw [drop_cons hk, findI_cons] at hr
    obtain ⟨x, hx1, hx2, hx3, hx4, hx5⟩ := hv.at hk
    (repeat (first | refine bindP_mk (by simp (disch := first | omega | exact Int.natCast_nonneg _ | assumption) only [BB, B2, ↓reduceIte, Nat.reduceLeDiff, Nat.reduceAdd, CC] <;> rfl) ?_ | refine newP_mk ?_ | refine optP_mk ?_ | with_reducible first | refine condP_t ?_ | refine condP_f ?_ | refine ifP_tt' ?_ | refine ifP_ff' ?_ | refine ifP_tf' ?_ | refine ifP_ft' ?_ | refine ifP_u' ?_ | refine optP_mk0 ?_))
    refine bindP_mk (hv.ix _ hk) (bindP_mk hx3 ?_)
    refine hf k hk x _ _ hx1 (by omega) fun n hn => ?_
    cases hc : q l[k] with
    | true =>
      rw [hc, if_pos rfl] at hr
      (repeat (first | refine bindP_mk (by simp (disch := first | omega | exact Int.natCast_nonneg _ | assumption) only [BB, B2, ↓reduceIte, Nat.reduceLeDiff, Nat.reduceAdd, CC] <;> rfl) ?_ | refine newP_mk ?_ | refine optP_mk ?_ | with_reducible first | refine condP_t ?_ | refine condP_f ?_ | refine ifP_tt' ?_ | refine ifP_ff' ?_ | refine ifP_tf' ?_ | refine ifP_ft' ?_ | refine ifP_u' ?_ | refine optP_mk0 ?_))
      refine hx _ _ _ _ (fun e => by cases e) (exP_r ?_)
      exact ⟨_, Sub.refl _, ki hK hr.symm (by omega)⟩
    | false =>
      rw [hc, if_neg (by decide)] at hr
      (repeat (first | refine bindP_mk (by simp (disch := first | omega | exact Int.natCast_nonneg _ | assumption) only [BB, B2, ↓reduceIte, Nat.reduceLeDiff, Nat.reduceAdd, CC] <;> rfl) ?_ | refine newP_mk ?_ | refine optP_mk ?_ | with_reducible first | refine condP_t ?_ | refine condP_f ?_ | refine ifP_tt' ?_ | refine ifP_ff' ?_ | refine ifP_tf' ?_ | refine ifP_ft' ?_ | refine ifP_u' ?_ | refine optP_mk0 ?_))
      exact hq (j - 1) _ _ _ _ (by omega) ⟨k + 1, by omega, by omega, rfl, e0, e1, e7, rfl, hr⟩ (Sub.refl _)
  · (repeat (first | refine bindP_mk (by simp (disch := first | omega | exact Int.natCast_nonneg _ | assumption) only [BB, B2, ↓reduceIte, Nat.reduceLeDiff, Nat.reduceAdd, CC] <;> rfl) ?_ | refine newP_mk ?_ | refine optP_mk ?_ | with_reducible first | refine condP_t ?_ | refine condP_f ?_ | refine ifP_tt' ?_ | refine ifP_ff' ?_ | refine ifP_tf' ?_ | refine ifP_ft' ?_ | refine ifP_u' ?_ | refine optP_mk0 ?_))
    refine hx _ _ _ _ (fun e => by cases e) (exP_e (beqP_t ?_))
    unfold slices_IndexFunc_api_State_api_State_j1
    rw [drop_all (by omega)] at hr
    exact ⟨_, Sub.refl _, ki hK hr.symm (by omega)⟩
theorem state_ContainsFunc_c {ro : Ro} {v f : Value} {D : Type} {l : List D} {R : List Value → D → Prop} {q : D → Bool} (hlen : l.length ≤ 1000000) {h : T Obj} {nx : Nat} {K : KV} (hv : SlR ro h v 4 R l)
    (hf : ∀ (i : Nat) (hi : i < l.length) x n K', R x l[i] → nx ≤ n → (∀ n', n ≤ n' → K' (.bool (q l[i])) h n') → callF (callP Tryz.prog ro) f [.agg x.toArray] h n K')
    (hK : ∀ nx', nx ≤ nx' → K (.bool (l.any q)) h nx') : callP Tryz.prog ro i_slices_ContainsFunc_api_State_api_State [v, f] h nx K := by
  apply slices_ContainsFunc_api_State_api_State_of
  unfold slices_ContainsFunc_api_State_api_State
  refine state_IndexFunc_c hlen hv (fun i hi x n K' hx hn hk => hf i hi x n K' hx (by omega) hk) fun n hn => ?_
  rw [← findI_any q l 0 (by omega)] at hK
  (first | refine lss_s (fun hb => ?_) (fun hb => ?_) | refine leq_s (fun hb => ?_) (fun hb => ?_) | refine gtr_s (fun hb => ?_) (fun hb => ?_) | refine geq_s (fun hb => ?_) (fun hb => ?_) | refine eql_s (fun hb => ?_) (fun hb => ?_) | refine neq_s (fun hb => ?_) (fun hb => ?_))
  · exact ⟨_, Sub.refl _, kb hK (decide_eq_true hb) (by omega)⟩
  · exact ⟨_, Sub.refl _, kb hK (decide_eq_false (by omega)) (by omega)⟩
set_option maxRecDepth 8000 in
theorem checker_state_1_c {ro : Ro} {c : List Nat} {n : Int} {cv sv lv rv uv nv ov : Value} {S : List StateD} {R : List Int} {m : MoveD} {i1 i2 : Nat} (hc : c.length = 256) (hSl : S.length ≤ 256) (hR : R.length ≤ 3) (hmo : m.ops.length ≤ maxB) {h : T Obj} {nx : Nat} {K : KV} (hf : Fr h nx)
    (g1 : h.get i1 = some (.cells (autL c n cv sv).toArray y_auto_checker)) (g2 : h.get i2 = some (.cells #[lv, rv, uv, nv] y_api_State)) (hS : SlR ro h sv 4 (RState ro h) S) (hrv : ZI ro h rv R) (hov : SlR ro h ov 1 RU8 m.ops) (hK : ∀ nx', nx ≤ nx' → K (.bool (!moveOk S R m)) h nx') : callP Tryz.prog ro i_auto_checker_state_1 [.agg #[.int .i64 m.to, ov], ptr i1, ptr i2] h nx K := by
  apply auto_checker_state_1_of
  unfold auto_checker_state_1
  refine param_mk hf (Nat.le_refl _) fun h1 hs1 hf1 g3 _ => ?_
  have g3 : h1.get nx = some (.cells #[.int .i64 m.to, ov] y_api_Move) := g3
  refine bindP_mk (loadA_all (hs1 _ _ g1) (autL_len hc)) ?_
  refine bindP_mk (loadA_all (l := [lv, rv, uv, nv]) (hs1 _ _ g2) rfl) ?_
  refine bindP_mk (loadA_all (l := [.int .i64 m.to, ov]) g3 rfl) ?_
  refine checker_move_c hc hSl hR hmo (hf1.mono (by omega)) (hS.sub hs1 (RState.sub hs1)) (hrv.sub hs1) (hov.sub hs1 fun _ _ h => h) fun n hn => ?_
  (repeat (first | refine bindP_mk (by simp (disch := first | omega | exact Int.natCast_nonneg _ | assumption) only [BB, B2, ↓reduceIte, Nat.reduceLeDiff, Nat.reduceAdd, CC] <;> rfl) ?_ | refine newP_mk ?_ | refine optP_mk ?_ | with_reducible first | refine condP_t ?_ | refine condP_f ?_ | refine ifP_tt' ?_ | refine ifP_ff' ?_ | refine ifP_tf' ?_ | refine ifP_ft' ?_ | refine ifP_u' ?_ | refine optP_mk0 ?_))
  exact ⟨h, hs1, hK _ (by omega)⟩
set_option maxRecDepth 8000 in
set_option maxHeartbeats 1000000 in
theorem checker_state_c {ro : Ro} {c : List Nat} {n : Int} {cv sv lv rv uv nv : Value} {S : List StateD} {C : List (Int × Int)} {s : StateD} (hc : c.length = 256) (hn : n ≤ 256) (hSl : S.length ≤ 256) (hC : C.length ≤ 512) (hsr : s.r.length ≤ maxB) {h : T Obj} {nx : Nat} {K : KV} (hf : Fr h nx)
    (hcv : SlR ro h cv 2 RCount C) (hS : SlR ro h sv 4 (RState ro h) S) (h1 : ZI ro h lv s.l) (h2 : ZI ro h rv s.r) (h3 : ZI ro h uv s.rule) (h4 : SlR ro h nv 1 (RRow ro h) s.next)
    (hK : ∀ nx', nx ≤ nx' → K (.bool (stateOk S n C.length s)) h nx') : callP Tryz.prog ro i_auto_checker_state [.agg (autL c n cv sv).toArray, .agg #[lv, rv, uv, nv]] h nx K := by
  apply auto_checker_state_of
  unfold auto_checker_state
  refine param_mk hf (Nat.le_refl _) fun p1 hs1 hf1 g1 _ => ?_
  refine param_mk hf1 (Nat.le_refl _) fun p2 hs2 hf2 g2 _ => ?_
  have g1 : p2.get nx = some (.cells (autL c n cv sv).toArray y_auto_checker) := hs2 _ _ g1
  have g2 : p2.get (nx + 1) = some (.cells #[lv, rv, uv, nv] y_api_State) := g2
  have hs := hs1.trans hs2
  have hS := hS.sub hs (RState.sub hs)
  have hcv := hcv.sub hs fun _ _ h => h
  have h1 := h1.sub hs
  have h2 := h2.sub hs
  have h3 := h3.sub hs
  have h4 := h4.sub hs (RRow.sub hs)
  have hsg := autL_states (n := n) (cv := cv) (sv := sv) hc
  have hcg := autL_counts (n := n) (cv := cv) (sv := sv) hc
  have hmg := autL_many (n := n) (cv := cv) (sv := sv) hc
  have l1 := h1.len
  have l2 := h2.len
  have l3 := h3.len
  have l4 := h4.len
  have lc := hcv.len
  have hno : ∀ n', stateOk S n C.length s = false → nx ≤ n' → ∃ h', Sub h' p2 ∧ K (.bool false) h' n' := fun n' e hn => ⟨h, hs, kb hK e hn⟩
  unfold stateOk at hno hK
  (repeat (first | refine bindP_mk (by simp (disch := first | omega | exact Int.natCast_nonneg _ | assumption) only [BB, B2, ↓reduceIte, Nat.reduceLeDiff, Nat.reduceAdd, CC, g2, l2] <;> rfl) ?_ | refine newP_mk ?_ | refine optP_mk ?_ | with_reducible first | refine condP_t ?_ | refine condP_f ?_ | refine ifP_tt' ?_ | refine ifP_ff' ?_ | refine ifP_tf' ?_ | refine ifP_ft' ?_ | refine ifP_u' ?_ | refine optP_mk0 ?_))
  refine auto_Codes_c fun n1 hn1 => ?_
  have hcl := codes_le s.r.length
  have hcf := codes_few (m := s.r.length)
  generalize codesD s.r.length = cd at hno hK hcl hcf
  refine eql_s (fun u1 => ?_) (fun u1 => ?_)
  · (repeat (first | refine bindP_mk (by simp (disch := first | omega | exact Int.natCast_nonneg _ | assumption) only [BB, B2, ↓reduceIte, Nat.reduceLeDiff, Nat.reduceAdd, CC] <;> rfl) ?_ | refine newP_mk ?_ | refine optP_mk ?_ | with_reducible first | refine condP_t ?_ | refine condP_f ?_ | refine ifP_tt' ?_ | refine ifP_ff' ?_ | refine ifP_tf' ?_ | refine ifP_ft' ?_ | refine ifP_u' ?_ | refine optP_mk0 ?_))
    exact hno _ (by rw [decide_eq_false (by omega)]; rfl) (by omega)
  · rw [decide_eq_true u1, Bool.true_and] at hno hK
    have hcf := hcf u1
    (repeat (first | refine bindP_mk (by simp (disch := first | omega | exact Int.natCast_nonneg _ | assumption) only [BB, B2, ↓reduceIte, Nat.reduceLeDiff, Nat.reduceAdd, CC, g2, l3] <;> rfl) ?_ | refine newP_mk ?_ | refine optP_mk ?_ | with_reducible first | refine condP_t ?_ | refine condP_f ?_ | refine ifP_tt' ?_ | refine ifP_ff' ?_ | refine ifP_tf' ?_ | refine ifP_ft' ?_ | refine ifP_u' ?_ | refine optP_mk0 ?_))
    refine neq_s (fun u2 => ?_) (fun u2 => ?_)
    · (repeat (first | refine bindP_mk (by simp (disch := first | omega | exact Int.natCast_nonneg _ | assumption) only [BB, B2, ↓reduceIte, Nat.reduceLeDiff, Nat.reduceAdd, CC] <;> rfl) ?_ | refine newP_mk ?_ | refine optP_mk ?_ | with_reducible first | refine condP_t ?_ | refine condP_f ?_ | refine ifP_tt' ?_ | refine ifP_ff' ?_ | refine ifP_tf' ?_ | refine ifP_ft' ?_ | refine ifP_u' ?_ | refine optP_mk0 ?_))
      exact hno _ (by rw [decide_eq_false (by omega)]; rfl) (by omega)
    · rw [decide_eq_true u2, Bool.true_and] at hno hK
      (repeat (first | refine bindP_mk (by simp (disch := first | omega | exact Int.natCast_nonneg _ | assumption) only [BB, B2, ↓reduceIte, Nat.reduceLeDiff, Nat.reduceAdd, CC, g2, l4] <;> rfl) ?_ | refine newP_mk ?_ | refine optP_mk ?_ | with_reducible first | refine condP_t ?_ | refine condP_f ?_ | refine ifP_tt' ?_ | refine ifP_ff' ?_ | refine ifP_tf' ?_ | refine ifP_ft' ?_ | refine ifP_u' ?_ | refine optP_mk0 ?_))
      refine neq_s (fun u3 => ?_) (fun u3 => ?_)
      · (repeat (first | refine bindP_mk (by simp (disch := first | omega | exact Int.natCast_nonneg _ | assumption) only [BB, B2, ↓reduceIte, Nat.reduceLeDiff, Nat.reduceAdd, CC] <;> rfl) ?_ | refine newP_mk ?_ | refine optP_mk ?_ | with_reducible first | refine condP_t ?_ | refine condP_f ?_ | refine ifP_tt' ?_ | refine ifP_ff' ?_ | refine ifP_tf' ?_ | refine ifP_ft' ?_ | refine ifP_u' ?_ | refine optP_mk0 ?_))
        exact hno _ (by rw [decide_eq_false (by omega)]; rfl) (by omega)
      · rw [decide_eq_true u3, Bool.true_and] at hno hK
        (repeat (first | refine bindP_mk (by simp (disch := first | omega | exact Int.natCast_nonneg _ | assumption) only [BB, B2, ↓reduceIte, Nat.reduceLeDiff, Nat.reduceAdd, CC, g2] <;> rfl) ?_ | refine newP_mk ?_ | refine optP_mk ?_ | with_reducible first | refine condP_t ?_ | refine condP_f ?_ | refine ifP_tt' ?_ | refine ifP_ff' ?_ | refine ifP_tf' ?_ | refine ifP_ft' ?_ | refine ifP_u' ?_ | refine optP_mk0 ?_))
        refine auto_rises_c (by omega) h1 fun n2 hn2 => ?_
        cases u4 : rz (-1) 512 s.l with
        | false =>
          (repeat (first | refine bindP_mk (by simp (disch := first | omega | exact Int.natCast_nonneg _ | assumption) only [BB, B2, ↓reduceIte, Nat.reduceLeDiff, Nat.reduceAdd, CC] <;> rfl) ?_ | refine newP_mk ?_ | refine optP_mk ?_ | with_reducible first | refine condP_t ?_ | refine condP_f ?_ | refine ifP_tt' ?_ | refine ifP_ff' ?_ | refine ifP_tf' ?_ | refine ifP_ft' ?_ | refine ifP_u' ?_ | refine optP_mk0 ?_))
          exact hno _ (by rw [u4]; rfl) (by omega)
        | true =>
          rw [u4, Bool.true_and] at hno hK
          (repeat (first | refine bindP_mk (by simp (disch := first | omega | exact Int.natCast_nonneg _ | assumption) only [BB, B2, ↓reduceIte, Nat.reduceLeDiff, Nat.reduceAdd, CC, g1, g2, hcg, lc] <;> rfl) ?_ | refine newP_mk ?_ | refine optP_mk ?_ | with_reducible first | refine condP_t ?_ | refine condP_f ?_ | refine ifP_tt' ?_ | refine ifP_ff' ?_ | refine ifP_tf' ?_ | refine ifP_ft' ?_ | refine ifP_u' ?_ | refine optP_mk0 ?_))
          refine auto_rises_c (by omega) h2 fun n3 hn3 => ?_
          cases u5 : rz (-1) C.length s.r with
          | false =>
            (repeat (first | refine bindP_mk (by simp (disch := first | omega | exact Int.natCast_nonneg _ | assumption) only [BB, B2, ↓reduceIte, Nat.reduceLeDiff, Nat.reduceAdd, CC] <;> rfl) ?_ | refine newP_mk ?_ | refine optP_mk ?_ | with_reducible first | refine condP_t ?_ | refine condP_f ?_ | refine ifP_tt' ?_ | refine ifP_ff' ?_ | refine ifP_tf' ?_ | refine ifP_ft' ?_ | refine ifP_u' ?_ | refine optP_mk0 ?_))
            exact hno _ (by rw [u5]; rfl) (by omega)
          | true =>
            rw [u5, Bool.true_and] at hno hK
            (repeat (first | refine bindP_mk (by simp (disch := first | omega | exact Int.natCast_nonneg _ | assumption) only [BB, B2, ↓reduceIte, Nat.reduceLeDiff, Nat.reduceAdd, CC, g2, l4] <;> rfl) ?_ | refine newP_mk ?_ | refine optP_mk ?_ | with_reducible first | refine condP_t ?_ | refine condP_f ?_ | refine ifP_tt' ?_ | refine ifP_ff' ?_ | refine ifP_tf' ?_ | refine ifP_ft' ?_ | refine ifP_u' ?_ | refine optP_mk0 ?_))
            generalize hB : rowsOk S s.r n s.rule s.next = B at hno hK
            refine loopP_rule (fun j e h' nx' => ∃ (k : Nat), k + j = s.next.length ∧ n3 ≤ nx' ∧ h' = p2 ∧ e 2 = ptr nx ∧ e 3 = ptr (nx + 1) ∧ e 45 = nv ∧ e 46 = .int .i64 s.next.length ∧ e 47 = .int .i64 k ∧ rowsOk S s.r n (s.rule.drop k) (s.next.drop k) = B) ?_ (n := s.next.length) ⟨0, by omega, by omega, rfl, rfl, rfl, rfl, rfl, rfl, hB⟩
            rintro j e h' nx' ⟨k, hj, hnx, rfl, e2, e3, e45, e46, e47, hr⟩ Q' hq hx
            unfold auto_checker_state_L1
            rw [e2, e3, e45, e46, e47]
            refine lss_s (fun hk => ?_) (fun hk => ?_)
            · have hk : k < s.next.length := by omega
              have hk2 : k < s.rule.length := by omega
              rw [drop_cons hk, drop_cons hk2, rowsOk_cons] at hr
              have nix := h4.ix .i64 hk
              obtain ⟨w, ⟨w', ow, orow, olen⟩, o1⟩ := h4.at1 hk
              simp only [List.cons.injEq, and_true] at ow
              subst ow
              have uix := h3.ix .i64 hk2
              have uld := h3.load hk2
              generalize s.next[k] = row at hr o1 orow olen
              generalize s.rule[k] = ru at hr uld
              have rl := orow.len
              have hfin : ∀ (e' : Env) n', e' 4 = .bool false → rowOk S s.r n ru row = false → nx ≤ n' → Q' .ret e' h' n' := fun e' n' h6 hc hn => by
                refine hx _ _ _ _ (fun e => by cases e) (exP_r ?_)
                rw [h6]
                refine ⟨h, hs, kb hK ?_ hn⟩
                rw [← hr, hc]; rfl
              have hok : ∀ (e' : Env) n', e' 2 = ptr nx → e' 3 = ptr (nx + 1) → e' 45 = nv → e' 46 = .int .i64 s.next.length → e' 47 = .int .i64 ((k : Int) + 1) → rowOk S s.r n ru row = true → n3 ≤ n' → Q' .normal e' h' n' := fun e' n' f2 f3 f45 f46 f47 hc hn =>
                hq (j - 1) _ _ _ _ (by omega) ⟨k + 1, by omega, hn, rfl, f2, f3, f45, f46, f47, by rw [← hr, hc]; rfl⟩ (Sub.refl _)
              unfold rowOk at hfin hok
              (repeat (first | refine bindP_mk (by simp (disch := first | omega | exact Int.natCast_nonneg _ | assumption) only [BB, B2, ↓reduceIte, Nat.reduceLeDiff, Nat.reduceAdd, CC, g2, nix, o1, uix, uld] <;> rfl) ?_ | refine newP_mk ?_ | refine optP_mk ?_ | with_reducible first | refine condP_t ?_ | refine condP_f ?_ | refine ifP_tt' ?_ | refine ifP_ff' ?_ | refine ifP_tf' ?_ | refine ifP_ft' ?_ | refine ifP_u' ?_ | refine optP_mk0 ?_))
              refine lss_s (fun v1 => ?_) (fun v1 => ?_)
              · (repeat (first | refine bindP_mk (by simp (disch := first | omega | exact Int.natCast_nonneg _ | assumption) only [BB, B2, ↓reduceIte, Nat.reduceLeDiff, Nat.reduceAdd, CC] <;> rfl) ?_ | refine newP_mk ?_ | refine optP_mk ?_ | with_reducible first | refine condP_t ?_ | refine condP_f ?_ | refine ifP_tt' ?_ | refine ifP_ff' ?_ | refine ifP_tf' ?_ | refine ifP_ft' ?_ | refine ifP_u' ?_ | refine optP_mk0 ?_))
                exact hfin _ _ rfl (by rw [decide_eq_false (by omega)]; rfl) (by omega)
              · rw [decide_eq_true v1, Bool.true_and] at hfin hok
                (repeat (first | refine bindP_mk (by simp (disch := first | omega | exact Int.natCast_nonneg _ | assumption) only [BB, B2, ↓reduceIte, Nat.reduceLeDiff, Nat.reduceAdd, CC, g2, uix, uld] <;> rfl) ?_ | refine newP_mk ?_ | refine optP_mk ?_ | with_reducible first | refine condP_t ?_ | refine condP_f ?_ | refine ifP_tt' ?_ | refine ifP_ff' ?_ | refine ifP_tf' ?_ | refine ifP_ft' ?_ | refine ifP_u' ?_ | refine optP_mk0 ?_))
                refine geq_s (fun v2 => ?_) (fun v2 => ?_)
                · (repeat (first | refine bindP_mk (by simp (disch := first | omega | exact Int.natCast_nonneg _ | assumption) only [BB, B2, ↓reduceIte, Nat.reduceLeDiff, Nat.reduceAdd, CC] <;> rfl) ?_ | refine newP_mk ?_ | refine optP_mk ?_ | with_reducible first | refine condP_t ?_ | refine condP_f ?_ | refine ifP_tt' ?_ | refine ifP_ff' ?_ | refine ifP_tf' ?_ | refine ifP_ft' ?_ | refine ifP_u' ?_ | refine optP_mk0 ?_))
                  exact hfin _ _ rfl (by rw [decide_eq_false (by omega)]; rfl) (by omega)
                · rw [decide_eq_true v2, Bool.true_and] at hfin hok
                  (repeat (first | refine bindP_mk (by simp (disch := first | omega | exact Int.natCast_nonneg _ | assumption) only [BB, B2, ↓reduceIte, Nat.reduceLeDiff, Nat.reduceAdd, CC, g1, rl, hmg] <;> rfl) ?_ | refine newP_mk ?_ | refine optP_mk ?_ | with_reducible first | refine condP_t ?_ | refine condP_f ?_ | refine ifP_tt' ?_ | refine ifP_ff' ?_ | refine ifP_tf' ?_ | refine ifP_ft' ?_ | refine ifP_u' ?_ | refine optP_mk0 ?_))
                  refine neq_s (fun v3 => ?_) (fun v3 => ?_)
                  · (repeat (first | refine bindP_mk (by simp (disch := first | omega | exact Int.natCast_nonneg _ | assumption) only [BB, B2, ↓reduceIte, Nat.reduceLeDiff, Nat.reduceAdd, CC] <;> rfl) ?_ | refine newP_mk ?_ | refine optP_mk ?_ | with_reducible first | refine condP_t ?_ | refine condP_f ?_ | refine ifP_tt' ?_ | refine ifP_ff' ?_ | refine ifP_tf' ?_ | refine ifP_ft' ?_ | refine ifP_u' ?_ | refine optP_mk0 ?_))
                    exact hfin _ _ rfl (by rw [decide_eq_false (by omega)]; rfl) (by omega)
                  · rw [decide_eq_true (by omega), Bool.true_and] at hfin hok
                    (repeat (first | refine bindP_mk (by simp (disch := first | omega | exact Int.natCast_nonneg _ | assumption) only [BB, B2, ↓reduceIte, Nat.reduceLeDiff, Nat.reduceAdd, CC] <;> rfl) ?_ | refine newP_mk ?_ | refine optP_mk ?_ | with_reducible first | refine condP_t ?_ | refine condP_f ?_ | refine ifP_tt' ?_ | refine ifP_ff' ?_ | refine ifP_tf' ?_ | refine ifP_ft' ?_ | refine ifP_u' ?_ | refine optP_mk0 ?_))
                    refine move_ContainsFunc_c (q := fun m => !moveOk S s.r m) (by omega) orow (fun i hi x n' K' hx hn' hk' => ?_) fun n' hn' => ?_
                    · obtain ⟨ov, rfl, y1, y2⟩ := hx
                      exact checker_state_1_c hc hSl (by omega) y2 (hf2.mono (by omega)) g1 g2 hS h2 y1 hk'
                    · rw [← all_not] at hfin hok
                      cases hany : row.any fun m => !moveOk S s.r m with
                      | true =>
                        rw [hany] at hfin
                        (repeat (first | refine bindP_mk (by simp (disch := first | omega | exact Int.natCast_nonneg _ | assumption) only [BB, B2, ↓reduceIte, Nat.reduceLeDiff, Nat.reduceAdd, CC] <;> rfl) ?_ | refine newP_mk ?_ | refine optP_mk ?_ | with_reducible first | refine condP_t ?_ | refine condP_f ?_ | refine ifP_tt' ?_ | refine ifP_ff' ?_ | refine ifP_tf' ?_ | refine ifP_ft' ?_ | refine ifP_u' ?_ | refine optP_mk0 ?_))
                        exact hfin _ _ rfl rfl (by omega)
                      | false =>
                        rw [hany] at hok
                        (repeat (first | refine bindP_mk (by simp (disch := first | omega | exact Int.natCast_nonneg _ | assumption) only [BB, B2, ↓reduceIte, Nat.reduceLeDiff, Nat.reduceAdd, CC] <;> rfl) ?_ | refine newP_mk ?_ | refine optP_mk ?_ | with_reducible first | refine condP_t ?_ | refine condP_f ?_ | refine ifP_tt' ?_ | refine ifP_ff' ?_ | refine ifP_tf' ?_ | refine ifP_ft' ?_ | refine ifP_u' ?_ | refine optP_mk0 ?_))
                        exact hok _ _ e2 e3 e45 e46 rfl rfl (by omega)
            · (repeat (first | refine bindP_mk (by simp (disch := first | omega | exact Int.natCast_nonneg _ | assumption) only [BB, B2, ↓reduceIte, Nat.reduceLeDiff, Nat.reduceAdd, CC] <;> rfl) ?_ | refine newP_mk ?_ | refine optP_mk ?_ | with_reducible first | refine condP_t ?_ | refine condP_f ?_ | refine ifP_tt' ?_ | refine ifP_ff' ?_ | refine ifP_tf' ?_ | refine ifP_ft' ?_ | refine ifP_u' ?_ | refine optP_mk0 ?_))
              refine hx _ _ _ _ (fun e => by cases e) (exP_e (beqP_t ?_))
              unfold auto_checker_state_j1
              rw [drop_all (l := s.next) (by omega), rowsOk_nil] at hr
              exact ⟨h, hs, kb hK hr.symm (by omega)⟩
set_option maxRecDepth 8000 in
set_option maxHeartbeats 2000000 in
theorem ref11_state_c {ro : Ro} {c : List Nat} {n : Int} {cv sv lv rv uv nv : Value} {S : List StateD} {C : List (Int × Int)} {s : StateD} (hc : c.length = 256) (hn : n ≤ 256) (hSl : S.length ≤ 256) (hC : C.length ≤ 512) (hsr : s.r.length ≤ maxB) {h : T Obj} {nx : Nat} {K : KV} (hf : Fr h nx)
    (hcv : SlR ro h cv 2 RCount C) (hS : SlR ro h sv 4 (RState ro h) S) (h1 : ZI ro h lv s.l) (h2 : ZI ro h rv s.r) (h3 : ZI ro h uv s.rule) (h4 : SlR ro h nv 1 (RRow ro h) s.next)
    (hK : ∀ nx', nx ≤ nx' → K (.bool (stateOk S n C.length s)) h nx') : callP Tryz.prog ro i_ref11_state [.agg (autL c n cv sv).toArray, .agg #[lv, rv, uv, nv]] h nx K := by
  apply ref11_state_of
  unfold ref11_state
  refine param_mk hf (Nat.le_refl _) fun p1 hs1 hf1 g1 _ => ?_
  refine param_mk hf1 (Nat.le_refl _) fun p2 hs2 hf2 g2 _ => ?_
  have g1 : p2.get nx = some (.cells (autL c n cv sv).toArray y_api_Auto) := hs2 _ _ g1
  have g2 : p2.get (nx + 1) = some (.cells #[lv, rv, uv, nv] y_api_State) := g2
  have hs := hs1.trans hs2
  have hS := hS.sub hs (RState.sub hs)
  have hcv := hcv.sub hs fun _ _ h => h
  have h1 := h1.sub hs
  have h2 := h2.sub hs
  have h3 := h3.sub hs
  have h4 := h4.sub hs (RRow.sub hs)
  have hsg := autL_states (n := n) (cv := cv) (sv := sv) hc
  have hcg := autL_counts (n := n) (cv := cv) (sv := sv) hc
  have hmg := autL_many (n := n) (cv := cv) (sv := sv) hc
  have LA := loadA_all (ro := ro) (z := 0) (n := 259) (l := autL c n cv sv) g1 (autL_len hc)
  have LS := loadA_all (ro := ro) (z := 0) (n := 4) (l := [lv, rv, uv, nv]) g2 rfl
  have l1 := h1.len
  have l2 := h2.len
  have l3 := h3.len
  have l4 := h4.len
  have lc := hcv.len
  have hno : ∀ n', stateOk S n C.length s = false → nx ≤ n' → ∃ h', Sub h' p2 ∧ K (.bool false) h' n' := fun n' e hn => ⟨h, hs, kb hK e hn⟩
  unfold stateOk at hno hK
  (repeat (first | refine bindP_mk (by simp (disch := first | omega | exact Int.natCast_nonneg _ | assumption) only [BB, B2, ↓reduceIte, Nat.reduceLeDiff, Nat.reduceAdd, CC, g2, l2] <;> rfl) ?_ | refine newP_mk ?_ | refine optP_mk ?_ | with_reducible first | refine condP_t ?_ | refine condP_f ?_ | refine ifP_tt' ?_ | refine ifP_ff' ?_ | refine ifP_tf' ?_ | refine ifP_ft' ?_ | refine ifP_u' ?_ | refine optP_mk0 ?_))
  refine ref11_Codes_c fun n1 hn1 => ?_
  have hcl := codes_le s.r.length
  have hcf := codes_few (m := s.r.length)
  generalize codesD s.r.length = cd at hno hK hcl hcf
  refine eql_s (fun u1 => ?_) (fun u1 => ?_)
  · (repeat (first | refine bindP_mk (by simp (disch := first | omega | exact Int.natCast_nonneg _ | assumption) only [BB, B2, ↓reduceIte, Nat.reduceLeDiff, Nat.reduceAdd, CC] <;> rfl) ?_ | refine newP_mk ?_ | refine optP_mk ?_ | with_reducible first | refine condP_t ?_ | refine condP_f ?_ | refine ifP_tt' ?_ | refine ifP_ff' ?_ | refine ifP_tf' ?_ | refine ifP_ft' ?_ | refine ifP_u' ?_ | refine optP_mk0 ?_))
    exact hno _ (by rw [decide_eq_false (by omega)]; rfl) (by omega)
  · rw [decide_eq_true u1, Bool.true_and] at hno hK
    have hcf := hcf u1
    (repeat (first | refine bindP_mk (by simp (disch := first | omega | exact Int.natCast_nonneg _ | assumption) only [BB, B2, ↓reduceIte, Nat.reduceLeDiff, Nat.reduceAdd, CC, g2] <;> rfl) ?_ | refine newP_mk ?_ | refine optP_mk ?_ | with_reducible first | refine condP_t ?_ | refine condP_f ?_ | refine ifP_tt' ?_ | refine ifP_ff' ?_ | refine ifP_tf' ?_ | refine ifP_ft' ?_ | refine ifP_u' ?_ | refine optP_mk0 ?_))
    refine ref11_rises_c (by omega) h1 fun n2 hn2 => ?_
    cases u4 : rz (-1) 512 s.l with
    | false =>
      (repeat (first | refine bindP_mk (by simp (disch := first | omega | exact Int.natCast_nonneg _ | assumption) only [BB, B2, ↓reduceIte, Nat.reduceLeDiff, Nat.reduceAdd, CC] <;> rfl) ?_ | refine newP_mk ?_ | refine optP_mk ?_ | with_reducible first | refine condP_t ?_ | refine condP_f ?_ | refine ifP_tt' ?_ | refine ifP_ff' ?_ | refine ifP_tf' ?_ | refine ifP_ft' ?_ | refine ifP_u' ?_ | refine optP_mk0 ?_))
      exact hno _ (by rw [u4]; simp) (by omega)
    | true =>
      rw [u4, Bool.true_and] at hno hK
      (repeat (first | refine bindP_mk (by simp (disch := first | omega | exact Int.natCast_nonneg _ | assumption) only [BB, B2, ↓reduceIte, Nat.reduceLeDiff, Nat.reduceAdd, CC, g1, g2, hcg, lc] <;> rfl) ?_ | refine newP_mk ?_ | refine optP_mk ?_ | with_reducible first | refine condP_t ?_ | refine condP_f ?_ | refine ifP_tt' ?_ | refine ifP_ff' ?_ | refine ifP_tf' ?_ | refine ifP_ft' ?_ | refine ifP_u' ?_ | refine optP_mk0 ?_))
      refine ref11_rises_c (by omega) h2 fun n3 hn3 => ?_
      cases u5 : rz (-1) C.length s.r with
      | false =>
        (repeat (first | refine bindP_mk (by simp (disch := first | omega | exact Int.natCast_nonneg _ | assumption) only [BB, B2, ↓reduceIte, Nat.reduceLeDiff, Nat.reduceAdd, CC] <;> rfl) ?_ | refine newP_mk ?_ | refine optP_mk ?_ | with_reducible first | refine condP_t ?_ | refine condP_f ?_ | refine ifP_tt' ?_ | refine ifP_ff' ?_ | refine ifP_tf' ?_ | refine ifP_ft' ?_ | refine ifP_u' ?_ | refine optP_mk0 ?_))
        exact hno _ (by rw [u5]; simp) (by omega)
      | true =>
        rw [u5, Bool.true_and] at hno hK
        (repeat (first | refine bindP_mk (by simp (disch := first | omega | exact Int.natCast_nonneg _ | assumption) only [BB, B2, ↓reduceIte, Nat.reduceLeDiff, Nat.reduceAdd, CC, g2, l3] <;> rfl) ?_ | refine newP_mk ?_ | refine optP_mk ?_ | with_reducible first | refine condP_t ?_ | refine condP_f ?_ | refine ifP_tt' ?_ | refine ifP_ff' ?_ | refine ifP_tf' ?_ | refine ifP_ft' ?_ | refine ifP_u' ?_ | refine optP_mk0 ?_))
        refine neq_s (fun u2 => ?_) (fun u2 => ?_)
        · (repeat (first | refine bindP_mk (by simp (disch := first | omega | exact Int.natCast_nonneg _ | assumption) only [BB, B2, ↓reduceIte, Nat.reduceLeDiff, Nat.reduceAdd, CC] <;> rfl) ?_ | refine newP_mk ?_ | refine optP_mk ?_ | with_reducible first | refine condP_t ?_ | refine condP_f ?_ | refine ifP_tt' ?_ | refine ifP_ff' ?_ | refine ifP_tf' ?_ | refine ifP_ft' ?_ | refine ifP_u' ?_ | refine optP_mk0 ?_))
          exact hno _ (by rw [decide_eq_false (by omega)]; rfl) (by omega)
        · rw [decide_eq_true u2, Bool.true_and] at hno hK
          (repeat (first | refine bindP_mk (by simp (disch := first | omega | exact Int.natCast_nonneg _ | assumption) only [BB, B2, ↓reduceIte, Nat.reduceLeDiff, Nat.reduceAdd, CC, g2, l4] <;> rfl) ?_ | refine newP_mk ?_ | refine optP_mk ?_ | with_reducible first | refine condP_t ?_ | refine condP_f ?_ | refine ifP_tt' ?_ | refine ifP_ff' ?_ | refine ifP_tf' ?_ | refine ifP_ft' ?_ | refine ifP_u' ?_ | refine optP_mk0 ?_))
          refine neq_s (fun u3 => ?_) (fun u3 => ?_)
          · (repeat (first | refine bindP_mk (by simp (disch := first | omega | exact Int.natCast_nonneg _ | assumption) only [BB, B2, ↓reduceIte, Nat.reduceLeDiff, Nat.reduceAdd, CC] <;> rfl) ?_ | refine newP_mk ?_ | refine optP_mk ?_ | with_reducible first | refine condP_t ?_ | refine condP_f ?_ | refine ifP_tt' ?_ | refine ifP_ff' ?_ | refine ifP_tf' ?_ | refine ifP_ft' ?_ | refine ifP_u' ?_ | refine optP_mk0 ?_))
            exact hno _ (by rw [decide_eq_false (by omega)]; rfl) (by omega)
          · rw [decide_eq_true u3, Bool.true_and] at hno hK
            (repeat (first | refine bindP_mk (by simp (disch := first | omega | exact Int.natCast_nonneg _ | assumption) only [BB, B2, ↓reduceIte, Nat.reduceLeDiff, Nat.reduceAdd, CC] <;> rfl) ?_ | refine newP_mk ?_ | refine optP_mk ?_ | with_reducible first | refine condP_t ?_ | refine condP_f ?_ | refine ifP_tt' ?_ | refine ifP_ff' ?_ | refine ifP_tf' ?_ | refine ifP_ft' ?_ | refine ifP_u' ?_ | refine optP_mk0 ?_))
            generalize hB : rowsOk S s.r n s.rule s.next = B at hno hK
            refine loopP_rule (fun j e h' nx' => ∃ (k : Nat), k + j = s.next.length ∧ n3 ≤ nx' ∧ h' = p2 ∧ e 2 = ptr nx ∧ e 3 = ptr (nx + 1) ∧ e 5 = .int .i64 cd ∧ e 6 = .int .i64 k ∧ rowsOk S s.r n (s.rule.drop k) (s.next.drop k) = B) ?_ (n := s.next.length) ⟨0, by omega, by omega, rfl, rfl, rfl, rfl, rfl, hB⟩
            rintro j e h' nx' ⟨k, hj, hnx, rfl, e2, e3, e5, e6, hr⟩ Q' hq hx
            unfold ref11_state_L1
            rw [e2, e3, e5, e6]
            refine lss_s (fun hk => ?_) (fun hk => ?_)
            · have hk : k < s.next.length := by omega
              have hk2 : k < s.rule.length := by omega
              rw [drop_cons hk, drop_cons hk2, rowsOk_cons] at hr
              have nix := h4.ix .i64 hk
              obtain ⟨w, ⟨w', ow, orow, olen⟩, o1⟩ := h4.at1 hk
              simp only [List.cons.injEq, and_true] at ow
              subst ow
              have uix := h3.ix .i64 hk2
              have uld := h3.load hk2
              generalize s.next[k] = row at hr o1 orow olen
              generalize s.rule[k] = ru at hr uld
              have rl := orow.len
              have hfin : ∀ (e' : Env) n', e' 4 = .bool false → rowOk S s.r n ru row = false → nx ≤ n' → Q' .ret e' h' n' := fun e' n' h6 hc hn => by
                refine hx _ _ _ _ (fun e => by cases e) (exP_r ?_)
                rw [h6]
                refine ⟨h, hs, kb hK ?_ hn⟩
                rw [← hr, hc]; rfl
              have hok : ∀ (e' : Env) n', e' 2 = ptr nx → e' 3 = ptr (nx + 1) → e' 5 = .int .i64 cd → e' 6 = .int .i64 ((k : Int) + 1) → rowOk S s.r n ru row = true → n3 ≤ n' → Q' .normal e' h' n' := fun e' n' f2 f3 f5 f6 hc hn =>
                hq (j - 1) _ _ _ _ (by omega) ⟨k + 1, by omega, hn, rfl, f2, f3, f5, f6, by rw [← hr, hc]; rfl⟩ (Sub.refl _)
              unfold rowOk at hfin hok
              (repeat (first | refine bindP_mk (by simp (disch := first | omega | exact Int.natCast_nonneg _ | assumption) only [BB, B2, ↓reduceIte, Nat.reduceLeDiff, Nat.reduceAdd, CC, g2, uix, uld] <;> rfl) ?_ | refine newP_mk ?_ | refine optP_mk ?_ | with_reducible first | refine condP_t ?_ | refine condP_f ?_ | refine ifP_tt' ?_ | refine ifP_ff' ?_ | refine ifP_tf' ?_ | refine ifP_ft' ?_ | refine ifP_u' ?_ | refine optP_mk0 ?_))
              refine lss_s (fun v1 => ?_) (fun v1 => ?_)
              · (repeat (first | refine bindP_mk (by simp (disch := first | omega | exact Int.natCast_nonneg _ | assumption) only [BB, B2, ↓reduceIte, Nat.reduceLeDiff, Nat.reduceAdd, CC] <;> rfl) ?_ | refine newP_mk ?_ | refine optP_mk ?_ | with_reducible first | refine condP_t ?_ | refine condP_f ?_ | refine ifP_tt' ?_ | refine ifP_ff' ?_ | refine ifP_tf' ?_ | refine ifP_ft' ?_ | refine ifP_u' ?_ | refine optP_mk0 ?_))
                exact hfin _ _ rfl (by rw [decide_eq_false (by omega)]; rfl) (by omega)
              · rw [decide_eq_true v1, Bool.true_and] at hfin hok
                (repeat (first | refine bindP_mk (by simp (disch := first | omega | exact Int.natCast_nonneg _ | assumption) only [BB, B2, ↓reduceIte, Nat.reduceLeDiff, Nat.reduceAdd, CC, g2, uix, uld] <;> rfl) ?_ | refine newP_mk ?_ | refine optP_mk ?_ | with_reducible first | refine condP_t ?_ | refine condP_f ?_ | refine ifP_tt' ?_ | refine ifP_ff' ?_ | refine ifP_tf' ?_ | refine ifP_ft' ?_ | refine ifP_u' ?_ | refine optP_mk0 ?_))
                refine geq_s (fun v2 => ?_) (fun v2 => ?_)
                · (repeat (first | refine bindP_mk (by simp (disch := first | omega | exact Int.natCast_nonneg _ | assumption) only [BB, B2, ↓reduceIte, Nat.reduceLeDiff, Nat.reduceAdd, CC] <;> rfl) ?_ | refine newP_mk ?_ | refine optP_mk ?_ | with_reducible first | refine condP_t ?_ | refine condP_f ?_ | refine ifP_tt' ?_ | refine ifP_ff' ?_ | refine ifP_tf' ?_ | refine ifP_ft' ?_ | refine ifP_u' ?_ | refine optP_mk0 ?_))
                  exact hfin _ _ rfl (by rw [decide_eq_false (by omega)]; rfl) (by omega)
                · rw [decide_eq_true v2, Bool.true_and] at hfin hok
                  (repeat (first | refine bindP_mk (by simp (disch := first | omega | exact Int.natCast_nonneg _ | assumption) only [BB, B2, ↓reduceIte, Nat.reduceLeDiff, Nat.reduceAdd, CC, g1, g2, nix, o1, rl, hmg] <;> rfl) ?_ | refine newP_mk ?_ | refine optP_mk ?_ | with_reducible first | refine condP_t ?_ | refine condP_f ?_ | refine ifP_tt' ?_ | refine ifP_ff' ?_ | refine ifP_tf' ?_ | refine ifP_ft' ?_ | refine ifP_u' ?_ | refine optP_mk0 ?_))
                  refine neq_s (fun v3 => ?_) (fun v3 => ?_)
                  · (repeat (first | refine bindP_mk (by simp (disch := first | omega | exact Int.natCast_nonneg _ | assumption) only [BB, B2, ↓reduceIte, Nat.reduceLeDiff, Nat.reduceAdd, CC] <;> rfl) ?_ | refine newP_mk ?_ | refine optP_mk ?_ | with_reducible first | refine condP_t ?_ | refine condP_f ?_ | refine ifP_tt' ?_ | refine ifP_ff' ?_ | refine ifP_tf' ?_ | refine ifP_ft' ?_ | refine ifP_u' ?_ | refine optP_mk0 ?_))
                    exact hfin _ _ rfl (by rw [decide_eq_false (by omega)]; rfl) (by omega)
                  · rw [decide_eq_true (by omega), Bool.true_and] at hfin hok
                    (repeat (first | refine bindP_mk (by simp (disch := first | omega | exact Int.natCast_nonneg _ | assumption) only [BB, B2, ↓reduceIte, Nat.reduceLeDiff, Nat.reduceAdd, CC] <;> rfl) ?_ | refine newP_mk ?_ | refine optP_mk ?_ | with_reducible first | refine condP_t ?_ | refine condP_f ?_ | refine ifP_tt' ?_ | refine ifP_ff' ?_ | refine ifP_tf' ?_ | refine ifP_ft' ?_ | refine ifP_u' ?_ | refine optP_mk0 ?_))
                    generalize hA : row.all (moveOk S s.r) = A at hfin hok
                    refine loopP_rule (fun j e h'' nx' => ∃ (q : Nat), q + j = row.length ∧ n3 ≤ nx' ∧ h'' = h' ∧ e 2 = ptr nx ∧ e 3 = ptr (nx + 1) ∧ e 5 = .int .i64 cd ∧ e 6 = .int .i64 k ∧ e 7 = .int .i64 q ∧ (row.drop q).all (moveOk S s.r) = A) ?_ (n := row.length) ⟨0, by omega, by omega, rfl, e2, e3, e5, e6, rfl, hA⟩
                    rintro j2 e' h'' nx2 ⟨q, hj2, hnx2, rfl, f2, f3, f5, f6, f7, hr2⟩ Q2 hq2 hx
                    unfold ref11_state_L2
                    rw [f2, f3, f6, f7]
                    (repeat (first | refine bindP_mk (by simp (disch := first | omega | exact Int.natCast_nonneg _ | assumption) only [BB, B2, ↓reduceIte, Nat.reduceLeDiff, Nat.reduceAdd, CC, g2, nix, o1, rl] <;> rfl) ?_ | refine newP_mk ?_ | refine optP_mk ?_ | with_reducible first | refine condP_t ?_ | refine condP_f ?_ | refine ifP_tt' ?_ | refine ifP_ff' ?_ | refine ifP_tf' ?_ | refine ifP_ft' ?_ | refine ifP_u' ?_ | refine optP_mk0 ?_))
                    refine lss_s (fun hk3 => ?_) (fun hk3 => ?_)
                    · have hk3 : q < row.length := by omega
                      rw [drop_cons hk3, List.all_cons] at hr2
                      have qix := orow.ix .i64 hk3
                      obtain ⟨x, ⟨ov, rfl, y1, y2⟩, hx2, hx3, hx4, hx5⟩ := orow.at hk3
                      generalize row[q] = m at hr2 y1 y2 hx3 hx5
                      (repeat (first | refine bindP_mk (by simp (disch := first | omega | exact Int.natCast_nonneg _ | assumption) only [BB, B2, ↓reduceIte, Nat.reduceLeDiff, Nat.reduceAdd, CC, LA, LS, g2, nix, o1, qix, hx3] <;> rfl) ?_ | refine newP_mk ?_ | refine optP_mk ?_ | with_reducible first | refine condP_t ?_ | refine condP_f ?_ | refine ifP_tt' ?_ | refine ifP_ff' ?_ | refine ifP_tf' ?_ | refine ifP_ft' ?_ | refine ifP_u' ?_ | refine optP_mk0 ?_))
                      refine ref11_move_c hc hSl (by omega) y2 (hf2.mono (by omega)) hS h2 y1 fun n4 hn4 => ?_
                      cases hm : moveOk S s.r m with
                      | true =>
                        rw [hm, Bool.true_and] at hr2
                        have hok2 : ∀ (e' : Env) n', e' 2 = ptr nx → e' 3 = ptr (nx + 1) → e' 5 = .int .i64 cd → e' 6 = .int .i64 k → e' 7 = .int .i64 ((q : Int) + 1) → n3 ≤ n' → Q2 .normal e' h'' n' := fun e' n' z2 z3 z5 z6 z7 hn =>
                          hq2 (j2 - 1) _ _ _ _ (by omega) ⟨q + 1, by omega, hn, rfl, z2, z3, z5, z6, z7, hr2⟩ (Sub.refl _)
                        (repeat (first | refine bindP_mk (by simp (disch := first | omega | exact Int.natCast_nonneg _ | assumption) only [BB, B2, ↓reduceIte, Nat.reduceLeDiff, Nat.reduceAdd, CC] <;> rfl) ?_ | refine newP_mk ?_ | refine optP_mk ?_ | with_reducible first | refine condP_t ?_ | refine condP_f ?_ | refine ifP_tt' ?_ | refine ifP_ff' ?_ | refine ifP_tf' ?_ | refine ifP_ft' ?_ | refine ifP_u' ?_ | refine optP_mk0 ?_))
                        exact hok2 _ _ f2 f3 f5 f6 rfl (by omega)
                      | false =>
                        rw [hm, Bool.false_and] at hr2
                        subst hr2
                        (repeat (first | refine bindP_mk (by simp (disch := first | omega | exact Int.natCast_nonneg _ | assumption) only [BB, B2, ↓reduceIte, Nat.reduceLeDiff, Nat.reduceAdd, CC] <;> rfl) ?_ | refine newP_mk ?_ | refine optP_mk ?_ | with_reducible first | refine condP_t ?_ | refine condP_f ?_ | refine ifP_tt' ?_ | refine ifP_ff' ?_ | refine ifP_tf' ?_ | refine ifP_ft' ?_ | refine ifP_u' ?_ | refine optP_mk0 ?_))
                        refine hx _ _ _ _ (fun e => by cases e) (exP_r ?_)
                        exact hfin _ _ rfl rfl (by omega)
                    · rw [drop_all (by omega)] at hr2
                      have hr2 : true = A := hr2
                      subst hr2
                      (repeat (first | refine bindP_mk (by simp (disch := first | omega | exact Int.natCast_nonneg _ | assumption) only [BB, B2, ↓reduceIte, Nat.reduceLeDiff, Nat.reduceAdd, CC] <;> rfl) ?_ | refine newP_mk ?_ | refine optP_mk ?_ | with_reducible first | refine condP_t ?_ | refine condP_f ?_ | refine ifP_tt' ?_ | refine ifP_ff' ?_ | refine ifP_tf' ?_ | refine ifP_ft' ?_ | refine ifP_u' ?_ | refine optP_mk0 ?_))
                      refine hx _ _ _ _ (fun e => by cases e) (exP_e (beqP_t ?_))
                      have hend : ∀ (e' : Env) n', e' 2 = ptr nx → e' 3 = ptr (nx + 1) → e' 5 = .int .i64 cd → e' 6 = .int .i64 k → n3 ≤ n' → ref11_state_j2 ro Q' e' h'' n' := fun e' n' z2 z3 z5 z6 hn => by
                        unfold ref11_state_j2
                        rw [z6]
                        (repeat (first | refine bindP_mk (by simp (disch := first | omega | exact Int.natCast_nonneg _ | assumption) only [BB, B2, ↓reduceIte, Nat.reduceLeDiff, Nat.reduceAdd, CC] <;> rfl) ?_ | refine newP_mk ?_ | refine optP_mk ?_ | with_reducible first | refine condP_t ?_ | refine condP_f ?_ | refine ifP_tt' ?_ | refine ifP_ff' ?_ | refine ifP_tf' ?_ | refine ifP_ft' ?_ | refine ifP_u' ?_ | refine optP_mk0 ?_))
                        exact hok _ _ z2 z3 z5 rfl rfl (by omega)
                      exact hend _ _ f2 f3 f5 f6 (by omega)
            · (repeat (first | refine bindP_mk (by simp (disch := first | omega | exact Int.natCast_nonneg _ | assumption) only [BB, B2, ↓reduceIte, Nat.reduceLeDiff, Nat.reduceAdd, CC] <;> rfl) ?_ | refine newP_mk ?_ | refine optP_mk ?_ | with_reducible first | refine condP_t ?_ | refine condP_f ?_ | refine ifP_tt' ?_ | refine ifP_ff' ?_ | refine ifP_tf' ?_ | refine ifP_ft' ?_ | refine ifP_u' ?_ | refine optP_mk0 ?_))
              refine hx _ _ _ _ (fun e => by cases e) (exP_e (beqP_t ?_))
              unfold ref11_state_j1
              rw [drop_all (l := s.next) (by omega), rowsOk_nil] at hr
              exact ⟨h, hs, kb hK hr.symm (by omega)⟩
theorem SlR.okC {D : Type} {ro : Ro} {h : T Obj} {v : Value} {z : Nat} {R : List Value → D → Prop} {l : List D} (hl : SlR ro h v z R l) : cellOk v = true := by obtain ⟨cs, h9, _⟩ := hl; exact h9.ok
def countOk (p : Int × Int) : Bool := decide (1 ≤ p.1) && (decide (p.1 ≤ p.2) && (decide (2 ≤ p.2) && decide (p.2 ≤ 4096)))
def firstOk (S : List StateD) : Bool := decide ((S.getD 0 noS).l.length = 0) && decide ((S.getD 0 noS).r.length = 0)
def autoOk (d : AutoD) : Bool := rightB d.c d.many && (decide (d.counts.length ≤ 512) && (decide (1 ≤ d.states.length) && (decide (d.states.length ≤ 256) && (firstOk d.states && (d.counts.all countOk && d.states.all (stateOk d.states d.many d.counts.length))))))
theorem right_many {c : List Nat} {n : Int} (h : rightB c n = true) : n ≤ 256 := by
  unfold rightB at h
  split at h
  · rename_i m hm
    have := rt_le hm
    simp only [decide_eq_true_eq] at h
    omega
  · cases h
theorem rz_many : ∀ {l : List Int} {a m : Int}, rz a m l = true → (l.length : Int) ≤ max 0 (m - a - 1)
  | [], a, m, _ => by simp only [List.length_nil]; omega
  | x :: r, a, m, h => by
    rw [rz_cons] at h
    simp only [Bool.and_eq_true, decide_eq_true_eq] at h
    have := rz_many h.2.2
    rw [List.length_cons]
    omega
theorem state_few {S : List StateD} {n : Int} {cn : Nat} {s : StateD} (h : stateOk S n cn s = true) : s.l.length ≤ 512 ∧ s.r.length ≤ 3 := by
  unfold stateOk at h
  simp only [Bool.and_eq_true, decide_eq_true_eq] at h
  have h1 := rz_many h.2.2.2.1
  have h2 := codes_few h.1
  omega
theorem wr_sum {a b : Nat} (h : wr .i64 ((a : Int) + b) ≤ 0) : a + b = 0 ∨ 9223372036854775807 < a + b := by
  rcases Nat.lt_or_ge 9223372036854775807 (a + b) with h1 | h1
  · exact .inr h1
  · rw [wr_i64 (by omega) (by omega)] at h
    exact .inl (by omega)
theorem wr_sum' {a b : Nat} (h : 0 < wr .i64 ((a : Int) + b)) : a ≠ 0 ∨ b ≠ 0 := by
  rcases Nat.eq_zero_or_pos (a + b) with h1 | h1
  · rw [show (a : Int) + b = 0 by omega] at h
    exact absurd h (by decide)
  · omega
theorem build_checker {c : List Nat} {n : Int} {cv sv : Value} (hc : c.length = 256) : buildV Tryz.prog y_auto_checker [(0, .agg (autL c n cv sv).toArray)] = some (.agg (autL c n cv sv).toArray) := by
  have h1 : ((zer Tryz.prog y_auto_checker).bind fun z => match z with
    | .agg a => if a.size = 259 then some true else none
    | _ => none) = some true := by kernel_rfl
  have h2 : ((und Tryz.prog y_auto_checker).bind fun d => match d with
    | .struct fs => placesV Tryz.prog fs.toList
    | _ => none) = some [(0, 259)] := by kernel_rfl
  obtain ⟨z, h1, h4⟩ := bind_some' h1
  cases z <;> try (cases h4; done)
  rename_i z
  simp only at h4
  split at h4
  · rename_i h5
    obtain ⟨d, h2, h3⟩ := bind_some' h2
    cases d <;> try (cases h3; done)
    rename_i fs
    simp only at h3
    unfold buildV
    rw [h1]
    simp only [Option.bind, h2, h3]
    have hl := autL_len (n := n) (cv := cv) (sv := sv) hc
    have hz : z.toList.length = 259 := by simpa using h5
    have e1 : Nat.beq (autL c n cv sv).toArray.size 259 = true := by simp [hl]
    have e2 : Nat.ble (0 + 259) z.toList.length = true := by rw [hz]; rfl
    simp only [fillV, List.getElem?_cons_zero, Option.bind, Value.cells_agg, e1, e2]
    rw [over_all (by rw [hz]; simpa using hl)]
  · cases h4
theorem zer_checker : ∃ z, zer Tryz.prog y_auto_checker = some z ∧ z.cells.size = 259 := by
  have h1 : ((zer Tryz.prog y_auto_checker).bind fun z => if z.cells.size = 259 then some true else none) = some true := by kernel_rfl
  obtain ⟨z, h1, h4⟩ := bind_some' h1
  split at h4
  · exact ⟨z, h1, by assumption⟩
  · cases h4
theorem zer_a2 : zer Tryz.prog y_a2_int = some (.agg #[.int .i64 0, .int .i64 0]) := by kernel_rfl
set_option maxRecDepth 8000 in
theorem auto_Right_1_c {ro : Ro} {c : List Nat} {n : Int} {cv sv lv rv uv nv : Value} {S : List StateD} {C : List (Int × Int)} {s : StateD} {i1 : Nat} (hc : c.length = 256) (hn : n ≤ 256) (hSl : S.length ≤ 256) (hC : C.length ≤ 512) (hsr : s.r.length ≤ maxB) {h : T Obj} {nx : Nat} {K : KV} (hf : Fr h nx)
    (g1 : h.get i1 = some (.cells (autL c n cv sv).toArray y_auto_checker)) (hcv : SlR ro h cv 2 RCount C) (hS : SlR ro h sv 4 (RState ro h) S) (h1 : ZI ro h lv s.l) (h2 : ZI ro h rv s.r) (h3 : ZI ro h uv s.rule) (h4 : SlR ro h nv 1 (RRow ro h) s.next)
    (hK : ∀ nx', nx ≤ nx' → K (.bool (!stateOk S n C.length s)) h nx') : callP Tryz.prog ro i_auto_Right_1 [.agg #[lv, rv, uv, nv], ptr i1] h nx K := by
  apply auto_Right_1_of
  unfold auto_Right_1
  refine param_mk hf (Nat.le_refl _) fun p1 hs1 hf1 g3 _ => ?_
  have g3 : p1.get nx = some (.cells #[lv, rv, uv, nv] y_api_State) := g3
  refine bindP_mk (loadA_all (hs1 _ _ g1) (autL_len hc)) ?_
  refine bindP_mk (loadA_all (l := [lv, rv, uv, nv]) g3 rfl) ?_
  refine checker_state_c hc hn hSl hC hsr (hf1.mono (by omega)) (hcv.sub hs1 fun _ _ h => h) (hS.sub hs1 (RState.sub hs1)) (h1.sub hs1) (h2.sub hs1) (h3.sub hs1) (h4.sub hs1 (RRow.sub hs1)) fun n hn => ?_
  (repeat (first | refine bindP_mk (by simp (disch := first | omega | exact Int.natCast_nonneg _ | assumption) only [BB, B2, ↓reduceIte, Nat.reduceLeDiff, Nat.reduceAdd, CC] <;> rfl) ?_ | refine newP_mk ?_ | refine optP_mk ?_ | with_reducible first | refine condP_t ?_ | refine condP_f ?_ | refine ifP_tt' ?_ | refine ifP_ff' ?_ | refine ifP_tf' ?_ | refine ifP_ft' ?_ | refine ifP_u' ?_ | refine optP_mk0 ?_))
  exact ⟨h, hs1, hK _ (by omega)⟩
set_option maxRecDepth 8000 in
set_option maxHeartbeats 2000000 in
theorem auto_Right_c {ro : Ro} {x : List Value} {d : AutoD} {h : T Obj} {nx : Nat} {K : KV} (hf : Fr h nx) (hd : RAuto ro h x d) (hK : ∀ nx', nx ≤ nx' → K (.bool (autoOk d)) h nx') : callP Tryz.prog ro i_auto_Right [.agg x.toArray] h nx K := by
  obtain ⟨cv, sv, rfl, hc, hcl, hcv, hS, hb1, hb2⟩ := hd
  obtain ⟨c, n, C, S⟩ := d
  simp only at hc hcl hcv hS hb1 hb2
  dsimp only
  apply auto_Right_of
  unfold auto_Right
  refine param_mk hf (Nat.le_refl _) fun p1 hs hf1 g1 _ => ?_
  have g1 : p1.get nx = some (.cells (autL c n cv sv).toArray y_api_Auto) := g1
  have hS := hS.sub hs (RState.sub hs)
  have hcv := hcv.sub hs fun _ _ h => h
  have hsg := autL_states (n := n) (cv := cv) (sv := sv) hc
  have hcg := autL_counts (n := n) (cv := cv) (sv := sv) hc
  have lc := hcv.len
  have ls := hS.len
  have hno : ∀ n', autoOk ⟨c, n, C, S⟩ = false → nx ≤ n' → ∃ h', Sub h' p1 ∧ K (.bool false) h' n' := fun n' e hn => ⟨h, hs, kb hK e hn⟩
  unfold autoOk at hno hK
  dsimp only at hno hK
  (repeat (first | refine bindP_mk (by simp (disch := first | omega | exact Int.natCast_nonneg _ | assumption) only [BB, B2, ↓reduceIte, Nat.reduceLeDiff, Nat.reduceAdd, CC] <;> rfl) ?_ | refine newP_mk ?_ | refine optP_mk ?_ | with_reducible first | refine condP_t ?_ | refine condP_f ?_ | refine ifP_tt' ?_ | refine ifP_ff' ?_ | refine ifP_tf' ?_ | refine ifP_ft' ?_ | refine ifP_u' ?_ | refine optP_mk0 ?_))
  refine bindP_mk (loadS g1 hc) ?_
  refine split_Right_c hc hcl (hf1.mono (by omega)) fun n1 hn1 => ?_
  cases hr : rightB c n with
  | false =>
    (repeat (first | refine bindP_mk (by simp (disch := first | omega | exact Int.natCast_nonneg _ | assumption) only [BB, B2, ↓reduceIte, Nat.reduceLeDiff, Nat.reduceAdd, CC] <;> rfl) ?_ | refine newP_mk ?_ | refine optP_mk ?_ | with_reducible first | refine condP_t ?_ | refine condP_f ?_ | refine ifP_tt' ?_ | refine ifP_ff' ?_ | refine ifP_tf' ?_ | refine ifP_ft' ?_ | refine ifP_u' ?_ | refine optP_mk0 ?_))
    exact hno _ (by rw [hr]; rfl) (by omega)
  | true =>
    have hn := right_many hr
    rw [hr, Bool.true_and] at hno hK
    (repeat (first | refine bindP_mk (by simp (disch := first | omega | exact Int.natCast_nonneg _ | assumption) only [BB, B2, ↓reduceIte, Nat.reduceLeDiff, Nat.reduceAdd, CC, g1, hcg, lc] <;> rfl) ?_ | refine newP_mk ?_ | refine optP_mk ?_ | with_reducible first | refine condP_t ?_ | refine condP_f ?_ | refine ifP_tt' ?_ | refine ifP_ff' ?_ | refine ifP_tf' ?_ | refine ifP_ft' ?_ | refine ifP_u' ?_ | refine optP_mk0 ?_))
    refine gtr_s (fun u1 => ?_) (fun u1 => ?_)
    · (repeat (first | refine bindP_mk (by simp (disch := first | omega | exact Int.natCast_nonneg _ | assumption) only [BB, B2, ↓reduceIte, Nat.reduceLeDiff, Nat.reduceAdd, CC] <;> rfl) ?_ | refine newP_mk ?_ | refine optP_mk ?_ | with_reducible first | refine condP_t ?_ | refine condP_f ?_ | refine ifP_tt' ?_ | refine ifP_ff' ?_ | refine ifP_tf' ?_ | refine ifP_ft' ?_ | refine ifP_u' ?_ | refine optP_mk0 ?_))
      exact hno _ (by rw [decide_eq_false (by omega)]; rfl) (by omega)
    · have u1 : C.length ≤ 512 := by omega
      rw [decide_eq_true u1, Bool.true_and] at hno hK
      (repeat (first | refine bindP_mk (by simp (disch := first | omega | exact Int.natCast_nonneg _ | assumption) only [BB, B2, ↓reduceIte, Nat.reduceLeDiff, Nat.reduceAdd, CC, g1, hsg, ls] <;> rfl) ?_ | refine newP_mk ?_ | refine optP_mk ?_ | with_reducible first | refine condP_t ?_ | refine condP_f ?_ | refine ifP_tt' ?_ | refine ifP_ff' ?_ | refine ifP_tf' ?_ | refine ifP_ft' ?_ | refine ifP_u' ?_ | refine optP_mk0 ?_))
      refine lss_s (fun u2 => ?_) (fun u2 => ?_)
      · (repeat (first | refine bindP_mk (by simp (disch := first | omega | exact Int.natCast_nonneg _ | assumption) only [BB, B2, ↓reduceIte, Nat.reduceLeDiff, Nat.reduceAdd, CC] <;> rfl) ?_ | refine newP_mk ?_ | refine optP_mk ?_ | with_reducible first | refine condP_t ?_ | refine condP_f ?_ | refine ifP_tt' ?_ | refine ifP_ff' ?_ | refine ifP_tf' ?_ | refine ifP_ft' ?_ | refine ifP_u' ?_ | refine optP_mk0 ?_))
        exact hno _ (by rw [decide_eq_false (by omega)]; rfl) (by omega)
      · have u2 : 1 ≤ S.length := by omega
        rw [decide_eq_true u2, Bool.true_and] at hno hK
        (repeat (first | refine bindP_mk (by simp (disch := first | omega | exact Int.natCast_nonneg _ | assumption) only [BB, B2, ↓reduceIte, Nat.reduceLeDiff, Nat.reduceAdd, CC, g1, hsg, ls] <;> rfl) ?_ | refine newP_mk ?_ | refine optP_mk ?_ | with_reducible first | refine condP_t ?_ | refine condP_f ?_ | refine ifP_tt' ?_ | refine ifP_ff' ?_ | refine ifP_tf' ?_ | refine ifP_ft' ?_ | refine ifP_u' ?_ | refine optP_mk0 ?_))
        refine gtr_s (fun u3 => ?_) (fun u3 => ?_)
        · (repeat (first | refine bindP_mk (by simp (disch := first | omega | exact Int.natCast_nonneg _ | assumption) only [BB, B2, ↓reduceIte, Nat.reduceLeDiff, Nat.reduceAdd, CC] <;> rfl) ?_ | refine newP_mk ?_ | refine optP_mk ?_ | with_reducible first | refine condP_t ?_ | refine condP_f ?_ | refine ifP_tt' ?_ | refine ifP_ff' ?_ | refine ifP_tf' ?_ | refine ifP_ft' ?_ | refine ifP_u' ?_ | refine optP_mk0 ?_))
          exact hno _ (by rw [decide_eq_false (by omega)]; rfl) (by omega)
        · have u3 : S.length ≤ 256 := by omega
          rw [decide_eq_true u3, Bool.true_and] at hno hK
          have h0 : 0 < S.length := by omega
          have six : ixSl 4 sv (.int .i64 0) = some (elPtr 4 sv 0) := hS.ix .i64 (i := 0) h0
          obtain ⟨x, ⟨lv, rv, uv, nv, rfl, y1, y2, y3, y4, y5⟩, hx2, hx3, hx4, hx5⟩ := hS.at h0
          have q0 := hx5 0 lv rfl
          have q1 := hx5 1 rv rfl
          have ll := y1.len
          have lr := y2.len
          have hgd : S.getD 0 noS = S[0] := by rw [List.getD_eq_getElem?_getD, List.getElem?_eq_getElem h0]; rfl
          have hfst : firstOk S = (decide (S[0].l.length = 0) && decide (S[0].r.length = 0)) := by unfold firstOk; rw [hgd]
          have hall : S.all (stateOk S n C.length) = true → S[0].l.length ≤ 512 ∧ S[0].r.length ≤ 3 := fun h => state_few (List.all_eq_true.1 h _ (List.getElem_mem h0))
          (repeat (first | refine bindP_mk (by simp (disch := first | omega | exact Int.natCast_nonneg _ | assumption) only [BB, B2, ↓reduceIte, Nat.reduceLeDiff, Nat.reduceAdd, CC, g1, hsg, six, hx4, q0, q1, ll, lr] <;> rfl) ?_ | refine newP_mk ?_ | refine optP_mk ?_ | with_reducible first | refine condP_t ?_ | refine condP_f ?_ | refine ifP_tt' ?_ | refine ifP_ff' ?_ | refine ifP_tf' ?_ | refine ifP_ft' ?_ | refine ifP_u' ?_ | refine optP_mk0 ?_))
          first
          | refine bindP_mk (intB_add _ _ _) ?_
          | skip
          (repeat (first | refine bindP_mk (by simp (disch := first | omega | exact Int.natCast_nonneg _ | assumption) only [BB, B2, ↓reduceIte, Nat.reduceLeDiff, Nat.reduceAdd, CC] <;> rfl) ?_ | refine newP_mk ?_ | refine optP_mk ?_ | with_reducible first | refine condP_t ?_ | refine condP_f ?_ | refine ifP_tt' ?_ | refine ifP_ff' ?_ | refine ifP_tf' ?_ | refine ifP_ft' ?_ | refine ifP_u' ?_ | refine optP_mk0 ?_))
          -- behind the head: the bounds of the counts, the states
          have hrest : (S[0].l.length = 0 ∧ S[0].r.length = 0 ∨ 9223372036854775807 < S[0].l.length + S[0].r.length) → ∀ (e' : Env) n', e' 1 = ptr nx → e' 2 = .bool false → e' 45 = cv → e' 46 = .int .i64 C.length → e' 47 = .int .i64 0 → nx + 1 ≤ n' →
              loopP (auto_Right_L1 ro) e' p1 n' fun x229 e226 h227 n228 => exP x229 (auto_Right_j1 ro K e226 h227 n228) (fun i230 => beqP (Nat.beq i230 0) (auto_Right_j1 ro K e226 h227 n228) (False)) (∃ h231, Sub h231 h227 ∧ K (e226 2) h231 n228) := by
            intro hlen e' n' f1 f2 f45 f46 f47 hn'
            generalize hB : C.all countOk = B at hno hK
            refine loopP_rule (fun j e h' nx' => ∃ (k : Nat), k + j = C.length ∧ nx + 1 ≤ nx' ∧ h' = p1 ∧ e 1 = ptr nx ∧ e 2 = .bool false ∧ e 45 = cv ∧ e 46 = .int .i64 C.length ∧ e 47 = .int .i64 k ∧ (C.drop k).all countOk = B) ?_ (n := C.length) ⟨0, by omega, hn', rfl, f1, f2, f45, f46, f47, hB⟩
            rintro j e h' nx' ⟨k, hj, hnx, rfl, e1, e2, e45, e46, e47, hr2⟩ Q' hq hx
            unfold auto_Right_L1
            rw [e45, e46, e47]
            refine lss_s (fun hk => ?_) (fun hk => ?_)
            · have hk : k < C.length := by omega
              rw [drop_cons hk, List.all_cons] at hr2
              have cix := hcv.ix .i64 hk
              obtain ⟨x, hx1, hx2, hx3, hx4, hx5⟩ := hcv.at hk
              generalize C[k] = p at hr2 hx1
              obtain rfl : x = [.int .i64 p.1, .int .i64 p.2] := hx1
              (repeat (first | refine bindP_mk (by simp (disch := first | omega | exact Int.natCast_nonneg _ | assumption) only [BB, B2, ↓reduceIte, Nat.reduceLeDiff, Nat.reduceAdd, CC, cix, hx3] <;> rfl) ?_ | refine newP_mk ?_ | refine optP_mk ?_ | with_reducible first | refine condP_t ?_ | refine condP_f ?_ | refine ifP_tt' ?_ | refine ifP_ff' ?_ | refine ifP_tf' ?_ | refine ifP_ft' ?_ | refine ifP_u' ?_ | refine optP_mk0 ?_))
              refine local_mk (x := [.int .i64 p.1, .int .i64 p.2]) zer_a2 rfl rfl rfl rfl hf1 (by omega) fun h6 hs6 hf6 g6 _ => ?_
              have hfin : ∀ (e' : Env) n', e' 2 = .bool false → countOk p = false → nx ≤ n' → Q' .ret e' h6 n' := fun e' n' h6 hc hn => by
                refine hx _ _ _ _ (fun e => by cases e) (exP_r ?_)
                rw [h6]
                rw [hc, Bool.false_and] at hr2
                subst hr2
                obtain ⟨h9, z1, z2⟩ := hno n' (by simp) hn
                exact ⟨h9, z1.trans hs6, z2⟩
              have hok : ∀ (e' : Env) n', e' 1 = ptr nx → e' 2 = .bool false → e' 45 = cv → e' 46 = .int .i64 C.length → e' 47 = .int .i64 ((k : Int) + 1) → countOk p = true → nx + 1 ≤ n' → Q' .normal e' h6 n' := fun e' n' f1 f2 f45 f46 f47 hc hn =>
                hq (j - 1) _ h' _ _ (by omega) ⟨k + 1, by omega, hn, rfl, f1, f2, f45, f46, f47, by rw [← hr2, hc]; rfl⟩ hs6
              unfold countOk at hfin hok
              (repeat (first | refine bindP_mk (by simp (disch := first | omega | exact Int.natCast_nonneg _ | assumption) only [BB, B2, ↓reduceIte, Nat.reduceLeDiff, Nat.reduceAdd, CC, g6] <;> rfl) ?_ | refine newP_mk ?_ | refine optP_mk ?_ | with_reducible first | refine condP_t ?_ | refine condP_f ?_ | refine ifP_tt' ?_ | refine ifP_ff' ?_ | refine ifP_tf' ?_ | refine ifP_ft' ?_ | refine ifP_u' ?_ | refine optP_mk0 ?_))
              refine lss_s (fun v1 => ?_) (fun v1 => ?_)
              · (repeat (first | refine bindP_mk (by simp (disch := first | omega | exact Int.natCast_nonneg _ | assumption) only [BB, B2, ↓reduceIte, Nat.reduceLeDiff, Nat.reduceAdd, CC] <;> rfl) ?_ | refine newP_mk ?_ | refine optP_mk ?_ | with_reducible first | refine condP_t ?_ | refine condP_f ?_ | refine ifP_tt' ?_ | refine ifP_ff' ?_ | refine ifP_tf' ?_ | refine ifP_ft' ?_ | refine ifP_u' ?_ | refine optP_mk0 ?_))
                exact hfin _ _ rfl (by rw [decide_eq_false (by omega)]; rfl) (by omega)
              · rw [decide_eq_true v1, Bool.true_and] at hfin hok
                (repeat (first | refine bindP_mk (by simp (disch := first | omega | exact Int.natCast_nonneg _ | assumption) only [BB, B2, ↓reduceIte, Nat.reduceLeDiff, Nat.reduceAdd, CC, g6] <;> rfl) ?_ | refine newP_mk ?_ | refine optP_mk ?_ | with_reducible first | refine condP_t ?_ | refine condP_f ?_ | refine ifP_tt' ?_ | refine ifP_ff' ?_ | refine ifP_tf' ?_ | refine ifP_ft' ?_ | refine ifP_u' ?_ | refine optP_mk0 ?_))
                refine gtr_s (fun v2 => ?_) (fun v2 => ?_)
                · (repeat (first | refine bindP_mk (by simp (disch := first | omega | exact Int.natCast_nonneg _ | assumption) only [BB, B2, ↓reduceIte, Nat.reduceLeDiff, Nat.reduceAdd, CC] <;> rfl) ?_ | refine newP_mk ?_ | refine optP_mk ?_ | with_reducible first | refine condP_t ?_ | refine condP_f ?_ | refine ifP_tt' ?_ | refine ifP_ff' ?_ | refine ifP_tf' ?_ | refine ifP_ft' ?_ | refine ifP_u' ?_ | refine optP_mk0 ?_))
                  exact hfin _ _ rfl (by rw [decide_eq_false (by omega)]; rfl) (by omega)
                · rw [decide_eq_true v2, Bool.true_and] at hfin hok
                  (repeat (first | refine bindP_mk (by simp (disch := first | omega | exact Int.natCast_nonneg _ | assumption) only [BB, B2, ↓reduceIte, Nat.reduceLeDiff, Nat.reduceAdd, CC, g6] <;> rfl) ?_ | refine newP_mk ?_ | refine optP_mk ?_ | with_reducible first | refine condP_t ?_ | refine condP_f ?_ | refine ifP_tt' ?_ | refine ifP_ff' ?_ | refine ifP_tf' ?_ | refine ifP_ft' ?_ | refine ifP_u' ?_ | refine optP_mk0 ?_))
                  refine lss_s (fun v3 => ?_) (fun v3 => ?_)
                  · (repeat (first | refine bindP_mk (by simp (disch := first | omega | exact Int.natCast_nonneg _ | assumption) only [BB, B2, ↓reduceIte, Nat.reduceLeDiff, Nat.reduceAdd, CC] <;> rfl) ?_ | refine newP_mk ?_ | refine optP_mk ?_ | with_reducible first | refine condP_t ?_ | refine condP_f ?_ | refine ifP_tt' ?_ | refine ifP_ff' ?_ | refine ifP_tf' ?_ | refine ifP_ft' ?_ | refine ifP_u' ?_ | refine optP_mk0 ?_))
                    exact hfin _ _ rfl (by rw [decide_eq_false (by omega)]; rfl) (by omega)
                  · rw [decide_eq_true v3, Bool.true_and] at hfin hok
                    (repeat (first | refine bindP_mk (by simp (disch := first | omega | exact Int.natCast_nonneg _ | assumption) only [BB, B2, ↓reduceIte, Nat.reduceLeDiff, Nat.reduceAdd, CC, g6] <;> rfl) ?_ | refine newP_mk ?_ | refine optP_mk ?_ | with_reducible first | refine condP_t ?_ | refine condP_f ?_ | refine ifP_tt' ?_ | refine ifP_ff' ?_ | refine ifP_tf' ?_ | refine ifP_ft' ?_ | refine ifP_u' ?_ | refine optP_mk0 ?_))
                    refine gtr_s (fun v4 => ?_) (fun v4 => ?_)
                    · (repeat (first | refine bindP_mk (by simp (disch := first | omega | exact Int.natCast_nonneg _ | assumption) only [BB, B2, ↓reduceIte, Nat.reduceLeDiff, Nat.reduceAdd, CC] <;> rfl) ?_ | refine newP_mk ?_ | refine optP_mk ?_ | with_reducible first | refine condP_t ?_ | refine condP_f ?_ | refine ifP_tt' ?_ | refine ifP_ff' ?_ | refine ifP_tf' ?_ | refine ifP_ft' ?_ | refine ifP_u' ?_ | refine optP_mk0 ?_))
                      exact hfin _ _ rfl (by rw [decide_eq_false (by omega)]) (by omega)
                    · rw [decide_eq_true v4] at hok
                      (repeat (first | refine bindP_mk (by simp (disch := first | omega | exact Int.natCast_nonneg _ | assumption) only [BB, B2, ↓reduceIte, Nat.reduceLeDiff, Nat.reduceAdd, CC] <;> rfl) ?_ | refine newP_mk ?_ | refine optP_mk ?_ | with_reducible first | refine condP_t ?_ | refine condP_f ?_ | refine ifP_tt' ?_ | refine ifP_ff' ?_ | refine ifP_tf' ?_ | refine ifP_ft' ?_ | refine ifP_u' ?_ | refine optP_mk0 ?_))
                      exact hok _ _ e1 e2 e45 e46 rfl rfl (by omega)
            · rw [drop_all (by omega)] at hr2
              have hr2 : true = B := hr2
              subst hr2
              rw [Bool.true_and] at hno hK
              (repeat (first | refine bindP_mk (by simp (disch := first | omega | exact Int.natCast_nonneg _ | assumption) only [BB, B2, ↓reduceIte, Nat.reduceLeDiff, Nat.reduceAdd, CC] <;> rfl) ?_ | refine newP_mk ?_ | refine optP_mk ?_ | with_reducible first | refine condP_t ?_ | refine condP_f ?_ | refine ifP_tt' ?_ | refine ifP_ff' ?_ | refine ifP_tf' ?_ | refine ifP_ft' ?_ | refine ifP_u' ?_ | refine optP_mk0 ?_))
              refine hx _ _ _ _ (fun e => by cases e) (exP_e (beqP_t ?_))
              have hend : ∀ (e' : Env) n', e' 1 = ptr nx → nx + 1 ≤ n' → auto_Right_j1 ro K e' h' n' := by
                intro e' n' z1 hn'
                unfold auto_Right_j1
                rw [z1]
                refine bindP_mk (loadA_all g1 (autL_len hc)) ?_
                refine bindP_mk (build_checker hc) ?_
                obtain ⟨z, hz, hzs⟩ := zer_checker
                refine local_mk (x := autL c n cv sv) hz hzs rfl (autL_len hc) (autL_ok (SlR.okC hcv) (SlR.okC hS)) hf1 (by omega) fun h6 hs6 hf6 g6 _ => ?_
                have g16 := hs6 _ _ g1
                (repeat (first | refine bindP_mk (by simp (disch := first | omega | exact Int.natCast_nonneg _ | assumption) only [BB, B2, ↓reduceIte, Nat.reduceLeDiff, Nat.reduceAdd, CC, g16, hsg] <;> rfl) ?_ | refine newP_mk ?_ | refine optP_mk ?_ | with_reducible first | refine condP_t ?_ | refine condP_f ?_ | refine ifP_tt' ?_ | refine ifP_ff' ?_ | refine ifP_tf' ?_ | refine ifP_ft' ?_ | refine ifP_u' ?_ | refine optP_mk0 ?_))
                refine state_ContainsFunc_c (q := fun s => !stateOk S n C.length s) (by omega) (hS.sub hs6 (RState.sub hs6)) (fun i hi x n' K' hx hn' hk' => ?_) fun n' hn' => ?_
                · obtain ⟨lv, rv, uv, nv, rfl, w1, w2, w3, w4, w5⟩ := hx
                  exact auto_Right_1_c hc hn u3 u1 w5 (hf6.mono (by omega)) g6 (hcv.sub hs6 fun _ _ h => h) (hS.sub hs6 (RState.sub hs6)) w1 w2 w3 w4 hk'
                · (repeat (first | refine bindP_mk (by simp (disch := first | omega | exact Int.natCast_nonneg _ | assumption) only [BB, B2, ↓reduceIte, Nat.reduceLeDiff, Nat.reduceAdd, CC] <;> rfl) ?_ | refine newP_mk ?_ | refine optP_mk ?_ | with_reducible first | refine condP_t ?_ | refine condP_f ?_ | refine ifP_tt' ?_ | refine ifP_ff' ?_ | refine ifP_tf' ?_ | refine ifP_ft' ?_ | refine ifP_u' ?_ | refine optP_mk0 ?_))
                  refine ⟨h, hs.trans hs6, kb hK ?_ (by omega)⟩
                  rw [all_not]
                  rcases hlen with hlen | hlen
                  · rw [hfst, decide_eq_true hlen.1, decide_eq_true hlen.2]; rfl
                  · cases ha : S.all (stateOk S n C.length) with
                    | false => simp
                    | true => have := hall ha; omega
              exact hend _ _ e1 (by omega)
          refine gtr_s (fun u4 => ?_) (fun u4 => ?_)
          · (repeat (first | refine bindP_mk (by simp (disch := first | omega | exact Int.natCast_nonneg _ | assumption) only [BB, B2, ↓reduceIte, Nat.reduceLeDiff, Nat.reduceAdd, CC] <;> rfl) ?_ | refine newP_mk ?_ | refine optP_mk ?_ | with_reducible first | refine condP_t ?_ | refine condP_f ?_ | refine ifP_tt' ?_ | refine ifP_ff' ?_ | refine ifP_tf' ?_ | refine ifP_ft' ?_ | refine ifP_u' ?_ | refine optP_mk0 ?_))
            have := wr_sum' u4
            refine hno _ ?_ (by omega)
            rw [hfst]
            rcases this with h | h
            · rw [decide_eq_false h]; simp
            · rw [decide_eq_false h]; simp
          · (repeat (first | refine bindP_mk (by simp (disch := first | omega | exact Int.natCast_nonneg _ | assumption) only [BB, B2, ↓reduceIte, Nat.reduceLeDiff, Nat.reduceAdd, CC, g1, hcg, lc] <;> rfl) ?_ | refine newP_mk ?_ | refine optP_mk ?_ | with_reducible first | refine condP_t ?_ | refine condP_f ?_ | refine ifP_tt' ?_ | refine ifP_ff' ?_ | refine ifP_tf' ?_ | refine ifP_ft' ?_ | refine ifP_u' ?_ | refine optP_mk0 ?_))
            exact hrest (by rcases wr_sum u4 with h | h <;> omega) _ _ rfl rfl rfl rfl rfl (by omega)
set_option maxRecDepth 8000 in
set_option maxHeartbeats 2000000 in
theorem ref11_Right_c {ro : Ro} {x : List Value} {d : AutoD} {h : T Obj} {nx : Nat} {K : KV} (hf : Fr h nx) (hd : RAuto ro h x d) (hK : ∀ nx', nx ≤ nx' → K (.bool (autoOk d)) h nx') : callP Tryz.prog ro i_ref11_Right [.agg x.toArray] h nx K := by
  obtain ⟨cv, sv, rfl, hc, hcl, hcv, hS, hb1, hb2⟩ := hd
  obtain ⟨c, n, C, S⟩ := d
  simp only at hc hcl hcv hS hb1 hb2
  dsimp only
  apply ref11_Right_of
  unfold ref11_Right
  refine param_mk hf (Nat.le_refl _) fun p1 hs hf1 g1 _ => ?_
  have g1 : p1.get nx = some (.cells (autL c n cv sv).toArray y_api_Auto) := g1
  have hS := hS.sub hs (RState.sub hs)
  have hcv := hcv.sub hs fun _ _ h => h
  have hsg := autL_states (n := n) (cv := cv) (sv := sv) hc
  have hcg := autL_counts (n := n) (cv := cv) (sv := sv) hc
  have lc := hcv.len
  have ls := hS.len
  have hno : ∀ n', autoOk ⟨c, n, C, S⟩ = false → nx ≤ n' → ∃ h', Sub h' p1 ∧ K (.bool false) h' n' := fun n' e hn => ⟨h, hs, kb hK e hn⟩
  unfold autoOk at hno hK
  dsimp only at hno hK
  (repeat (first | refine bindP_mk (by simp (disch := first | omega | exact Int.natCast_nonneg _ | assumption) only [BB, B2, ↓reduceIte, Nat.reduceLeDiff, Nat.reduceAdd, CC] <;> rfl) ?_ | refine newP_mk ?_ | refine optP_mk ?_ | with_reducible first | refine condP_t ?_ | refine condP_f ?_ | refine ifP_tt' ?_ | refine ifP_ff' ?_ | refine ifP_tf' ?_ | refine ifP_ft' ?_ | refine ifP_u' ?_ | refine optP_mk0 ?_))
  refine bindP_mk (loadS g1 hc) ?_
  refine ref02_Right_c hc hcl (hf1.mono (by omega)) fun n1 hn1 => ?_
  cases hr : rightB c n with
  | false =>
    (repeat (first | refine bindP_mk (by simp (disch := first | omega | exact Int.natCast_nonneg _ | assumption) only [BB, B2, ↓reduceIte, Nat.reduceLeDiff, Nat.reduceAdd, CC] <;> rfl) ?_ | refine newP_mk ?_ | refine optP_mk ?_ | with_reducible first | refine condP_t ?_ | refine condP_f ?_ | refine ifP_tt' ?_ | refine ifP_ff' ?_ | refine ifP_tf' ?_ | refine ifP_ft' ?_ | refine ifP_u' ?_ | refine optP_mk0 ?_))
    exact hno _ (by rw [hr]; rfl) (by omega)
  | true =>
    have hn := right_many hr
    rw [hr, Bool.true_and] at hno hK
    (repeat (first | refine bindP_mk (by simp (disch := first | omega | exact Int.natCast_nonneg _ | assumption) only [BB, B2, ↓reduceIte, Nat.reduceLeDiff, Nat.reduceAdd, CC, g1, hcg, lc] <;> rfl) ?_ | refine newP_mk ?_ | refine optP_mk ?_ | with_reducible first | refine condP_t ?_ | refine condP_f ?_ | refine ifP_tt' ?_ | refine ifP_ff' ?_ | refine ifP_tf' ?_ | refine ifP_ft' ?_ | refine ifP_u' ?_ | refine optP_mk0 ?_))
    refine gtr_s (fun u1 => ?_) (fun u1 => ?_)
    · (repeat (first | refine bindP_mk (by simp (disch := first | omega | exact Int.natCast_nonneg _ | assumption) only [BB, B2, ↓reduceIte, Nat.reduceLeDiff, Nat.reduceAdd, CC] <;> rfl) ?_ | refine newP_mk ?_ | refine optP_mk ?_ | with_reducible first | refine condP_t ?_ | refine condP_f ?_ | refine ifP_tt' ?_ | refine ifP_ff' ?_ | refine ifP_tf' ?_ | refine ifP_ft' ?_ | refine ifP_u' ?_ | refine optP_mk0 ?_))
      exact hno _ (by rw [decide_eq_false (by omega)]; rfl) (by omega)
    · have u1 : C.length ≤ 512 := by omega
      rw [decide_eq_true u1, Bool.true_and] at hno hK
      (repeat (first | refine bindP_mk (by simp (disch := first | omega | exact Int.natCast_nonneg _ | assumption) only [BB, B2, ↓reduceIte, Nat.reduceLeDiff, Nat.reduceAdd, CC, g1, hsg, ls] <;> rfl) ?_ | refine newP_mk ?_ | refine optP_mk ?_ | with_reducible first | refine condP_t ?_ | refine condP_f ?_ | refine ifP_tt' ?_ | refine ifP_ff' ?_ | refine ifP_tf' ?_ | refine ifP_ft' ?_ | refine ifP_u' ?_ | refine optP_mk0 ?_))
      refine lss_s (fun u2 => ?_) (fun u2 => ?_)
      · (repeat (first | refine bindP_mk (by simp (disch := first | omega | exact Int.natCast_nonneg _ | assumption) only [BB, B2, ↓reduceIte, Nat.reduceLeDiff, Nat.reduceAdd, CC] <;> rfl) ?_ | refine newP_mk ?_ | refine optP_mk ?_ | with_reducible first | refine condP_t ?_ | refine condP_f ?_ | refine ifP_tt' ?_ | refine ifP_ff' ?_ | refine ifP_tf' ?_ | refine ifP_ft' ?_ | refine ifP_u' ?_ | refine optP_mk0 ?_))
        exact hno _ (by rw [decide_eq_false (by omega)]; rfl) (by omega)
      · have u2 : 1 ≤ S.length := by omega
        rw [decide_eq_true u2, Bool.true_and] at hno hK
        (repeat (first | refine bindP_mk (by simp (disch := first | omega | exact Int.natCast_nonneg _ | assumption) only [BB, B2, ↓reduceIte, Nat.reduceLeDiff, Nat.reduceAdd, CC, g1, hsg, ls] <;> rfl) ?_ | refine newP_mk ?_ | refine optP_mk ?_ | with_reducible first | refine condP_t ?_ | refine condP_f ?_ | refine ifP_tt' ?_ | refine ifP_ff' ?_ | refine ifP_tf' ?_ | refine ifP_ft' ?_ | refine ifP_u' ?_ | refine optP_mk0 ?_))
        refine gtr_s (fun u3 => ?_) (fun u3 => ?_)
        · (repeat (first | refine bindP_mk (by simp (disch := first | omega | exact Int.natCast_nonneg _ | assumption) only [BB, B2, ↓reduceIte, Nat.reduceLeDiff, Nat.reduceAdd, CC] <;> rfl) ?_ | refine newP_mk ?_ | refine optP_mk ?_ | with_reducible first | refine condP_t ?_ | refine condP_f ?_ | refine ifP_tt' ?_ | refine ifP_ff' ?_ | refine ifP_tf' ?_ | refine ifP_ft' ?_ | refine ifP_u' ?_ | refine optP_mk0 ?_))
          exact hno _ (by rw [decide_eq_false (by omega)]; rfl) (by omega)
        · have u3 : S.length ≤ 256 := by omega
          rw [decide_eq_true u3, Bool.true_and] at hno hK
          have h0 : 0 < S.length := by omega
          have six : ixSl 4 sv (.int .i64 0) = some (elPtr 4 sv 0) := hS.ix .i64 (i := 0) h0
          obtain ⟨x, ⟨lv, rv, uv, nv, rfl, y1, y2, y3, y4, y5⟩, hx2, hx3, hx4, hx5⟩ := hS.at h0
          have q0 := hx5 0 lv rfl
          have q1 := hx5 1 rv rfl
          have ll := y1.len
          have lr := y2.len
          have hgd : S.getD 0 noS = S[0] := by rw [List.getD_eq_getElem?_getD, List.getElem?_eq_getElem h0]; rfl
          have hfst : firstOk S = (decide (S[0].l.length = 0) && decide (S[0].r.length = 0)) := by unfold firstOk; rw [hgd]
          rw [hfst] at hno hK
          (repeat (first | refine bindP_mk (by simp (disch := first | omega | exact Int.natCast_nonneg _ | assumption) only [BB, B2, ↓reduceIte, Nat.reduceLeDiff, Nat.reduceAdd, CC, g1, hsg, six, hx4, q0, ll] <;> rfl) ?_ | refine newP_mk ?_ | refine optP_mk ?_ | with_reducible first | refine condP_t ?_ | refine condP_f ?_ | refine ifP_tt' ?_ | refine ifP_ff' ?_ | refine ifP_tf' ?_ | refine ifP_ft' ?_ | refine ifP_u' ?_ | refine optP_mk0 ?_))
          refine gtr_s (fun u4 => ?_) (fun u4 => ?_)
          · (repeat (first | refine bindP_mk (by simp (disch := first | omega | exact Int.natCast_nonneg _ | assumption) only [BB, B2, ↓reduceIte, Nat.reduceLeDiff, Nat.reduceAdd, CC] <;> rfl) ?_ | refine newP_mk ?_ | refine optP_mk ?_ | with_reducible first | refine condP_t ?_ | refine condP_f ?_ | refine ifP_tt' ?_ | refine ifP_ff' ?_ | refine ifP_tf' ?_ | refine ifP_ft' ?_ | refine ifP_u' ?_ | refine optP_mk0 ?_))
            exact hno _ (by rw [decide_eq_false (by omega)]; rfl) (by omega)
          · rw [decide_eq_true (show S[0].l.length = 0 by omega), Bool.true_and] at hno hK
            (repeat (first | refine bindP_mk (by simp (disch := first | omega | exact Int.natCast_nonneg _ | assumption) only [BB, B2, ↓reduceIte, Nat.reduceLeDiff, Nat.reduceAdd, CC, g1, hsg, six, hx4, q1, lr] <;> rfl) ?_ | refine newP_mk ?_ | refine optP_mk ?_ | with_reducible first | refine condP_t ?_ | refine condP_f ?_ | refine ifP_tt' ?_ | refine ifP_ff' ?_ | refine ifP_tf' ?_ | refine ifP_ft' ?_ | refine ifP_u' ?_ | refine optP_mk0 ?_))
            refine gtr_s (fun u5 => ?_) (fun u5 => ?_)
            · (repeat (first | refine bindP_mk (by simp (disch := first | omega | exact Int.natCast_nonneg _ | assumption) only [BB, B2, ↓reduceIte, Nat.reduceLeDiff, Nat.reduceAdd, CC] <;> rfl) ?_ | refine newP_mk ?_ | refine optP_mk ?_ | with_reducible first | refine condP_t ?_ | refine condP_f ?_ | refine ifP_tt' ?_ | refine ifP_ff' ?_ | refine ifP_tf' ?_ | refine ifP_ft' ?_ | refine ifP_u' ?_ | refine optP_mk0 ?_))
              exact hno _ (by rw [decide_eq_false (by omega)]; rfl) (by omega)
            · rw [decide_eq_true (show S[0].r.length = 0 by omega), Bool.true_and] at hno hK
              (repeat (first | refine bindP_mk (by simp (disch := first | omega | exact Int.natCast_nonneg _ | assumption) only [BB, B2, ↓reduceIte, Nat.reduceLeDiff, Nat.reduceAdd, CC] <;> rfl) ?_ | refine newP_mk ?_ | refine optP_mk ?_ | with_reducible first | refine condP_t ?_ | refine condP_f ?_ | refine ifP_tt' ?_ | refine ifP_ff' ?_ | refine ifP_tf' ?_ | refine ifP_ft' ?_ | refine ifP_u' ?_ | refine optP_mk0 ?_))
              generalize hB : C.all countOk = B at hno hK
              refine loopP_rule (fun j e h' nx' => ∃ (k : Nat), k + j = C.length ∧ nx + 1 ≤ nx' ∧ h' = p1 ∧ e 1 = ptr nx ∧ e 3 = .int .i64 k ∧ (C.drop k).all countOk = B) ?_ (n := C.length) ⟨0, by omega, by omega, rfl, rfl, rfl, hB⟩
              rintro j e h' nx' ⟨k, hj, hnx, rfl, e1, e3, hr2⟩ Q' hq hx
              unfold ref11_Right_L2
              rw [e1, e3]
              (repeat (first | refine bindP_mk (by simp (disch := first | omega | exact Int.natCast_nonneg _ | assumption) only [BB, B2, ↓reduceIte, Nat.reduceLeDiff, Nat.reduceAdd, CC, g1, hcg, lc] <;> rfl) ?_ | refine newP_mk ?_ | refine optP_mk ?_ | with_reducible first | refine condP_t ?_ | refine condP_f ?_ | refine ifP_tt' ?_ | refine ifP_ff' ?_ | refine ifP_tf' ?_ | refine ifP_ft' ?_ | refine ifP_u' ?_ | refine optP_mk0 ?_))
              refine lss_s (fun hk => ?_) (fun hk => ?_)
              · have hk : k < C.length := by omega
                rw [drop_cons hk, List.all_cons] at hr2
                have cix := hcv.ix .i64 hk
                obtain ⟨x, hx1, hx2, hx3, hx4, hx5⟩ := hcv.at hk
                generalize C[k] = p at hr2 hx1
                obtain rfl : x = [.int .i64 p.1, .int .i64 p.2] := hx1
                (repeat (first | refine bindP_mk (by simp (disch := first | omega | exact Int.natCast_nonneg _ | assumption) only [BB, B2, ↓reduceIte, Nat.reduceLeDiff, Nat.reduceAdd, CC, g1, hcg, cix, hx3] <;> rfl) ?_ | refine newP_mk ?_ | refine optP_mk ?_ | with_reducible first | refine condP_t ?_ | refine condP_f ?_ | refine ifP_tt' ?_ | refine ifP_ff' ?_ | refine ifP_tf' ?_ | refine ifP_ft' ?_ | refine ifP_u' ?_ | refine optP_mk0 ?_))
                refine local_mk (x := [.int .i64 p.1, .int .i64 p.2]) zer_a2 rfl rfl rfl rfl hf1 (by omega) fun h6 hs6 hf6 g6 _ => ?_
                have hfin : ∀ (e' : Env) n', e' 2 = .bool false → countOk p = false → nx ≤ n' → Q' .ret e' h6 n' := fun e' n' h6 hc hn => by
                  refine hx _ _ _ _ (fun e => by cases e) (exP_r ?_)
                  rw [h6]
                  rw [hc, Bool.false_and] at hr2
                  subst hr2
                  obtain ⟨h9, z1, z2⟩ := hno n' (by simp) hn
                  exact ⟨h9, z1.trans hs6, z2⟩
                have hok : ∀ (e' : Env) n', e' 1 = ptr nx → e' 3 = .int .i64 ((k : Int) + 1) → countOk p = true → nx + 1 ≤ n' → Q' .normal e' h6 n' := fun e' n' f1 f3 hc hn =>
                  hq (j - 1) _ h' _ _ (by omega) ⟨k + 1, by omega, hn, rfl, f1, f3, by rw [← hr2, hc]; rfl⟩ hs6
                unfold countOk at hfin hok
                (repeat (first | refine bindP_mk (by simp (disch := first | omega | exact Int.natCast_nonneg _ | assumption) only [BB, B2, ↓reduceIte, Nat.reduceLeDiff, Nat.reduceAdd, CC, g6] <;> rfl) ?_ | refine newP_mk ?_ | refine optP_mk ?_ | with_reducible first | refine condP_t ?_ | refine condP_f ?_ | refine ifP_tt' ?_ | refine ifP_ff' ?_ | refine ifP_tf' ?_ | refine ifP_ft' ?_ | refine ifP_u' ?_ | refine optP_mk0 ?_))
                refine lss_s (fun v1 => ?_) (fun v1 => ?_)
                · (repeat (first | refine bindP_mk (by simp (disch := first | omega | exact Int.natCast_nonneg _ | assumption) only [BB, B2, ↓reduceIte, Nat.reduceLeDiff, Nat.reduceAdd, CC] <;> rfl) ?_ | refine newP_mk ?_ | refine optP_mk ?_ | with_reducible first | refine condP_t ?_ | refine condP_f ?_ | refine ifP_tt' ?_ | refine ifP_ff' ?_ | refine ifP_tf' ?_ | refine ifP_ft' ?_ | refine ifP_u' ?_ | refine optP_mk0 ?_))
                  exact hfin _ _ rfl (by rw [decide_eq_false (by omega)]; rfl) (by omega)
                · rw [decide_eq_true v1, Bool.true_and] at hfin hok
                  (repeat (first | refine bindP_mk (by simp (disch := first | omega | exact Int.natCast_nonneg _ | assumption) only [BB, B2, ↓reduceIte, Nat.reduceLeDiff, Nat.reduceAdd, CC, g6] <;> rfl) ?_ | refine newP_mk ?_ | refine optP_mk ?_ | with_reducible first | refine condP_t ?_ | refine condP_f ?_ | refine ifP_tt' ?_ | refine ifP_ff' ?_ | refine ifP_tf' ?_ | refine ifP_ft' ?_ | refine ifP_u' ?_ | refine optP_mk0 ?_))
                  refine gtr_s (fun v2 => ?_) (fun v2 => ?_)
                  · (repeat (first | refine bindP_mk (by simp (disch := first | omega | exact Int.natCast_nonneg _ | assumption) only [BB, B2, ↓reduceIte, Nat.reduceLeDiff, Nat.reduceAdd, CC] <;> rfl) ?_ | refine newP_mk ?_ | refine optP_mk ?_ | with_reducible first | refine condP_t ?_ | refine condP_f ?_ | refine ifP_tt' ?_ | refine ifP_ff' ?_ | refine ifP_tf' ?_ | refine ifP_ft' ?_ | refine ifP_u' ?_ | refine optP_mk0 ?_))
                    exact hfin _ _ rfl (by rw [decide_eq_false (by omega)]; rfl) (by omega)
                  · rw [decide_eq_true v2, Bool.true_and] at hfin hok
                    (repeat (first | refine bindP_mk (by simp (disch := first | omega | exact Int.natCast_nonneg _ | assumption) only [BB, B2, ↓reduceIte, Nat.reduceLeDiff, Nat.reduceAdd, CC, g6] <;> rfl) ?_ | refine newP_mk ?_ | refine optP_mk ?_ | with_reducible first | refine condP_t ?_ | refine condP_f ?_ | refine ifP_tt' ?_ | refine ifP_ff' ?_ | refine ifP_tf' ?_ | refine ifP_ft' ?_ | refine ifP_u' ?_ | refine optP_mk0 ?_))
                    refine lss_s (fun v3 => ?_) (fun v3 => ?_)
                    · (repeat (first | refine bindP_mk (by simp (disch := first | omega | exact Int.natCast_nonneg _ | assumption) only [BB, B2, ↓reduceIte, Nat.reduceLeDiff, Nat.reduceAdd, CC] <;> rfl) ?_ | refine newP_mk ?_ | refine optP_mk ?_ | with_reducible first | refine condP_t ?_ | refine condP_f ?_ | refine ifP_tt' ?_ | refine ifP_ff' ?_ | refine ifP_tf' ?_ | refine ifP_ft' ?_ | refine ifP_u' ?_ | refine optP_mk0 ?_))
                      exact hfin _ _ rfl (by rw [decide_eq_false (by omega)]; rfl) (by omega)
                    · rw [decide_eq_true v3, Bool.true_and] at hfin hok
                      (repeat (first | refine bindP_mk (by simp (disch := first | omega | exact Int.natCast_nonneg _ | assumption) only [BB, B2, ↓reduceIte, Nat.reduceLeDiff, Nat.reduceAdd, CC, g6] <;> rfl) ?_ | refine newP_mk ?_ | refine optP_mk ?_ | with_reducible first | refine condP_t ?_ | refine condP_f ?_ | refine ifP_tt' ?_ | refine ifP_ff' ?_ | refine ifP_tf' ?_ | refine ifP_ft' ?_ | refine ifP_u' ?_ | refine optP_mk0 ?_))
                      refine gtr_s (fun v4 => ?_) (fun v4 => ?_)
                      · (repeat (first | refine bindP_mk (by simp (disch := first | omega | exact Int.natCast_nonneg _ | assumption) only [BB, B2, ↓reduceIte, Nat.reduceLeDiff, Nat.reduceAdd, CC] <;> rfl) ?_ | refine newP_mk ?_ | refine optP_mk ?_ | with_reducible first | refine condP_t ?_ | refine condP_f ?_ | refine ifP_tt' ?_ | refine ifP_ff' ?_ | refine ifP_tf' ?_ | refine ifP_ft' ?_ | refine ifP_u' ?_ | refine optP_mk0 ?_))
                        exact hfin _ _ rfl (by rw [decide_eq_false (by omega)]) (by omega)
                      · rw [decide_eq_true v4] at hok
                        (repeat (first | refine bindP_mk (by simp (disch := first | omega | exact Int.natCast_nonneg _ | assumption) only [BB, B2, ↓reduceIte, Nat.reduceLeDiff, Nat.reduceAdd, CC] <;> rfl) ?_ | refine newP_mk ?_ | refine optP_mk ?_ | with_reducible first | refine condP_t ?_ | refine condP_f ?_ | refine ifP_tt' ?_ | refine ifP_ff' ?_ | refine ifP_tf' ?_ | refine ifP_ft' ?_ | refine ifP_u' ?_ | refine optP_mk0 ?_))
                        exact hok _ _ e1 rfl rfl (by omega)
              · rw [drop_all (by omega)] at hr2
                have hr2 : true = B := hr2
                subst hr2
                rw [Bool.true_and] at hno hK
                (repeat (first | refine bindP_mk (by simp (disch := first | omega | exact Int.natCast_nonneg _ | assumption) only [BB, B2, ↓reduceIte, Nat.reduceLeDiff, Nat.reduceAdd, CC] <;> rfl) ?_ | refine newP_mk ?_ | refine optP_mk ?_ | with_reducible first | refine condP_t ?_ | refine condP_f ?_ | refine ifP_tt' ?_ | refine ifP_ff' ?_ | refine ifP_tf' ?_ | refine ifP_ft' ?_ | refine ifP_u' ?_ | refine optP_mk0 ?_))
                refine hx _ _ _ _ (fun e => by cases e) (exP_e (beqP_t ?_))
                have LA := loadA_all (ro := ro) (z := 0) (n := 259) (l := autL c n cv sv) g1 (autL_len hc)
                have hend : ∀ (e' : Env) n', e' 1 = ptr nx → nx + 1 ≤ n' → ref11_Right_j1 ro K e' h' n' := by
                  intro e' n' z1 hn'
                  unfold ref11_Right_j1
                  generalize hA : S.all (stateOk S n C.length) = A at hno hK
                  refine loopP_rule (fun j e h'' nx' => ∃ (k : Nat), k + j = S.length ∧ nx + 1 ≤ nx' ∧ h'' = h' ∧ e 1 = ptr nx ∧ e 5 = .int .i64 k ∧ (S.drop k).all (stateOk S n C.length) = A) ?_ (n := S.length) ⟨0, by omega, by omega, rfl, z1, rfl, hA⟩
                  rintro j e h'' nx' ⟨k, hj, hnx, rfl, e1, e5, hr2⟩ Q2 hq hx
                  unfold ref11_Right_L1
                  rw [e1, e5]
                  (repeat (first | refine bindP_mk (by simp (disch := first | omega | exact Int.natCast_nonneg _ | assumption) only [BB, B2, ↓reduceIte, Nat.reduceLeDiff, Nat.reduceAdd, CC, g1, hsg, ls] <;> rfl) ?_ | refine newP_mk ?_ | refine optP_mk ?_ | with_reducible first | refine condP_t ?_ | refine condP_f ?_ | refine ifP_tt' ?_ | refine ifP_ff' ?_ | refine ifP_tf' ?_ | refine ifP_ft' ?_ | refine ifP_u' ?_ | refine optP_mk0 ?_))
                  refine lss_s (fun hk => ?_) (fun hk => ?_)
                  · have hk : k < S.length := by omega
                    rw [drop_cons hk, List.all_cons] at hr2
                    have kix := hS.ix .i64 hk
                    obtain ⟨x, ⟨lv, rv, uv, nv, rfl, w1, w2, w3, w4, w5⟩, hx2, hx3, hx4, hx5⟩ := hS.at hk
                    generalize S[k] = s at hr2 w1 w2 w3 w4 w5
                    (repeat (first | refine bindP_mk (by simp (disch := first | omega | exact Int.natCast_nonneg _ | assumption) only [BB, B2, ↓reduceIte, Nat.reduceLeDiff, Nat.reduceAdd, CC, LA, g1, hsg, kix, hx3] <;> rfl) ?_ | refine newP_mk ?_ | refine optP_mk ?_ | with_reducible first | refine condP_t ?_ | refine condP_f ?_ | refine ifP_tt' ?_ | refine ifP_ff' ?_ | refine ifP_tf' ?_ | refine ifP_ft' ?_ | refine ifP_u' ?_ | refine optP_mk0 ?_))
                    refine ref11_state_c hc hn u3 u1 w5 (hf1.mono (by omega)) hcv hS w1 w2 w3 w4 fun n4 hn4 => ?_
                    cases hm : stateOk S n C.length s with
                    | true =>
                      rw [hm, Bool.true_and] at hr2
                      have hok2 : ∀ (e' : Env) n', e' 1 = ptr nx → e' 5 = .int .i64 ((k : Int) + 1) → nx + 1 ≤ n' → Q2 .normal e' h'' n' := fun e' n' z1 z5 hn =>
                        hq (j - 1) _ _ _ _ (by omega) ⟨k + 1, by omega, hn, rfl, z1, z5, hr2⟩ (Sub.refl _)
                      (repeat (first | refine bindP_mk (by simp (disch := first | omega | exact Int.natCast_nonneg _ | assumption) only [BB, B2, ↓reduceIte, Nat.reduceLeDiff, Nat.reduceAdd, CC] <;> rfl) ?_ | refine newP_mk ?_ | refine optP_mk ?_ | with_reducible first | refine condP_t ?_ | refine condP_f ?_ | refine ifP_tt' ?_ | refine ifP_ff' ?_ | refine ifP_tf' ?_ | refine ifP_ft' ?_ | refine ifP_u' ?_ | refine optP_mk0 ?_))
                      exact hok2 _ _ e1 rfl (by omega)
                    | false =>
                      rw [hm, Bool.false_and] at hr2
                      subst hr2
                      (repeat (first | refine bindP_mk (by simp (disch := first | omega | exact Int.natCast_nonneg _ | assumption) only [BB, B2, ↓reduceIte, Nat.reduceLeDiff, Nat.reduceAdd, CC] <;> rfl) ?_ | refine newP_mk ?_ | refine optP_mk ?_ | with_reducible first | refine condP_t ?_ | refine condP_f ?_ | refine ifP_tt' ?_ | refine ifP_ff' ?_ | refine ifP_tf' ?_ | refine ifP_ft' ?_ | refine ifP_u' ?_ | refine optP_mk0 ?_))
                      refine hx _ _ _ _ (fun e => by cases e) (exP_r ?_)
                      exact hno _ rfl (by omega)
                  · rw [drop_all (by omega)] at hr2
                    have hr2 : true = A := hr2
                    subst hr2
                    (repeat (first | refine bindP_mk (by simp (disch := first | omega | exact Int.natCast_nonneg _ | assumption) only [BB, B2, ↓reduceIte, Nat.reduceLeDiff, Nat.reduceAdd, CC] <;> rfl) ?_ | refine newP_mk ?_ | refine optP_mk ?_ | with_reducible first | refine condP_t ?_ | refine condP_f ?_ | refine ifP_tt' ?_ | refine ifP_ff' ?_ | refine ifP_tf' ?_ | refine ifP_ft' ?_ | refine ifP_u' ?_ | refine optP_mk0 ?_))
                    refine hx _ _ _ _ (fun e => by cases e) (exP_e (beqP_t ?_))
                    unfold ref11_Right_j2
                    exact ⟨h, hs, hK _ (by omega)⟩
                exact hend _ _ e1 (by omega)
end V
end Go.Proofs.YtjndkdmkecpllaaGreat
set_option linter.unusedVariables false
set_option linter.unusedSimpArgs false
namespace Go.Proofs.YtjndkdmkecpllaaGreat
namespace V
theorem word_or (m b i : Nat) : word (m ||| 2 ^ b) i = if i = b / 64 then word m i ||| 2 ^ (b % 64) else word m i := by
  apply Nat.eq_of_testBit_eq
  intro j
  rw [testBit_word, Nat.testBit_or, Nat.testBit_two_pow]
  by_cases h : i = b / 64
  · rw [if_pos h, Nat.testBit_or, testBit_word, Nat.testBit_two_pow]
    subst h
    by_cases hj : j < 64
    · have : (b = 64 * (b / 64) + j) ↔ (b % 64 = j) := by omega
      simp [hj, this]
    · have : ¬ (b % 64 = j) := by have := Nat.mod_lt b (show 64 > 0 by decide); omega
      simp [hj, this]
  · rw [if_neg h, testBit_word]
    by_cases hj : j < 64
    · have : ¬ (b = 64 * i + j) := by omega
      simp [hj, this]
    · simp [hj]
theorem pow_mul_or (k a b : Nat) : 2 ^ k * (a ||| b) = 2 ^ k * a ||| 2 ^ k * b := by
  apply Nat.eq_of_testBit_eq
  intro j
  simp only [Nat.testBit_or, Nat.testBit_two_pow_mul]
  cases decide (j ≥ k) <;> simp
theorem even_or_one {a : Nat} (h : a % 2 = 0) : a ||| 1 = a + 1 := by
  have h2 : a = 2 ^ 1 * (a / 2) := by omega
  have := Nat.two_pow_add_eq_or_of_lt (show 1 < 2 ^ 1 by decide) (a / 2)
  rw [← h2] at this; exact this.symm
theorem add_pow {x k : Nat} (h : x.testBit k = false) : x + 2 ^ k = x ||| 2 ^ k := by
  have hr : x % 2 ^ k < 2 ^ k := Nat.mod_lt _ (Nat.two_pow_pos k)
  have ha : (x / 2 ^ k) % 2 = 0 := by
    rw [Nat.testBit_eq_decide_div_mod_eq] at h
    have : ¬ (x / 2 ^ k % 2 = 1) := by simpa using h
    omega
  have e1 := Nat.two_pow_add_eq_or_of_lt hr (x / 2 ^ k)
  have e2 := Nat.two_pow_add_eq_or_of_lt hr (x / 2 ^ k + 1)
  have e0 : 2 ^ k * (x / 2 ^ k) + x % 2 ^ k = x := Nat.div_add_mod _ _
  have e3 : x + 2 ^ k = 2 ^ k * (x / 2 ^ k + 1) + x % 2 ^ k := by rw [Nat.mul_add, Nat.mul_one]; omega
  have e4 : 2 ^ k * (x / 2 ^ k + 1) = 2 ^ k * (x / 2 ^ k) ||| 2 ^ k := by
    rw [← even_or_one ha, pow_mul_or, Nat.mul_one]
  have hx : x ||| 2 ^ k = (2 ^ k * (x / 2 ^ k) ||| x % 2 ^ k) ||| 2 ^ k := by rw [← e1, e0]
  rw [e3, e2, e4, hx, Nat.or_assoc, Nat.or_comm (2 ^ k) (x % 2 ^ k), ← Nat.or_assoc]
theorem or_pow_self {x k : Nat} (h : x.testBit k = true) : x ||| 2 ^ k = x := by
  apply Nat.eq_of_testBit_eq
  intro j
  rw [Nat.testBit_or, Nat.testBit_two_pow]
  by_cases e : k = j
  · subst e; simp [h]
  · simp [e]
theorem zer_Set : zer Tryz.prog y_api_Set = some (setV 0) := by kernel_rfl
set_option maxRecDepth 20000
theorem setL_len (m : Nat) : (setL m).length = 4 := rfl
theorem setL_ok (m : Nat) : (setL m).all cellOk = true := rfl
theorem setL_dt (m : Nat) : List.take 4 (List.drop 0 (setL m)) = setL m := rfl
theorem zer_Set_mk {K : Value → Prop} (k : K (setV 0)) : bindP (zer Tryz.prog y_api_Set) K := by rw [zer_Set]; exact k
theorem over_set (m n : Nat) : over (setL m) 0 (setL n) = setL n := rfl
theorem setV_size (m : Nat) : (setV m).cells.size = 4 := rfl
theorem setV_def (m : Nat) : Value.agg (setL m).toArray = setV m := rfl
theorem setL_set {m b : Nat} (hb : b < 256) : (setL m).set (b / 64) (.int .u64 ((word m (b / 64) ||| 2 ^ (b % 64) : Nat) : Int)) = setL (m ||| 2 ^ b) := by
  have h0 := word_or m b 0
  have h1 := word_or m b 1
  have h2 := word_or m b 2
  have h3 := word_or m b 3
  have hq : b / 64 = 0 ∨ b / 64 = 1 ∨ b / 64 = 2 ∨ b / 64 = 3 := by omega
  unfold setL
  rcases hq with hq | hq | hq | hq <;> rw [hq] at h0 h1 h2 h3 ⊢ <;> simp at h0 h1 h2 h3 <;> simp [h0, h1, h2, h3]
theorem ref01_with_end {ro : Ro} {m w : Nat} {e : Env} {h h0 : T Obj} {id nx nx0 : Nat} {K : KV} (h2 : e 2 = at_ id 0 0) (h4 : e 4 = at_ (id + 1) 0 0) (g1 : h.get id = some (.cells (setL m).toArray y_api_Set)) (g2 : h.get (id + 1) = some (.cells (setL w).toArray y_api_Set))
    (hf : Fr h0 nx0) (hs : Sub h0 h) (hid : nx0 ≤ id) (hK : K (setV m) h0 (nx + 2)) : ref01_with_j1 ro K e h nx := by
  unfold ref01_with_j1
  (repeat (first | refine bindP_mk (by simp (disch := first | omega | exact Int.natCast_nonneg _ | assumption) only [BB, B2, ↓reduceIte, Nat.reduceLeDiff, Nat.reduceAdd, intB_eql, intB_neq, intB_lss, intB_leq, intB_gtr, intB_geq, setV_cells, setL_len, setL_dt, setV_def, h2, h4, g1, g2, setV_size, setL_ok, over_set] <;> rfl) ?_ | refine newP_mk ?_ | refine optP_mk ?_ | with_reducible first | refine condP_t ?_ | refine condP_f ?_ | refine ifP_tt' ?_ | refine ifP_ff' ?_ | refine ifP_tf' ?_ | refine ifP_ft' ?_ | refine ifP_u' ?_ | refine optP_mk0 ?_))
  exact ⟨h0, hs.new hf (by omega), hK⟩
section
theorem ref01_with_c {ro : Ro} {m b : Nat} (hb : b < 256) {h : T Obj} {nx : Nat} {K : KV} (hf : Fr h nx) (hK : ∀ nx', nx ≤ nx' → K (setV (m ||| 2 ^ b)) h nx') : callP Tryz.prog ro i_ref01_with [setV m, .int .u8 b] h nx K := by
  apply ref01_with_of
  unfold ref01_with
  refine newP_mk (zer_Set_mk ?_)
  (repeat (first | refine bindP_mk (by simp (disch := first | omega | exact Int.natCast_nonneg _ | assumption) only [BB, B2, ↓reduceIte, Nat.reduceLeDiff, Nat.reduceAdd, intB_eql, intB_neq, intB_lss, intB_leq, intB_gtr, intB_geq, setV_cells, setL_len, setL_dt, setV_def] <;> rfl) ?_ | refine newP_mk ?_ | refine optP_mk ?_ | with_reducible first | refine condP_t ?_ | refine condP_f ?_ | refine ifP_tt' ?_ | refine ifP_ff' ?_ | refine ifP_tf' ?_ | refine ifP_ft' ?_ | refine ifP_u' ?_ | refine optP_mk0 ?_))
  refine ref01_Has_c hb ((hf.mono (Nat.le_add_right nx 5)).upd (n := nx + 5) (Nat.le_refl _) (by omega) |>.upd (Nat.le_refl _) (by omega)) fun n hn => ?_
  (repeat (first | refine bindP_mk (by simp (disch := first | omega | exact Int.natCast_nonneg _ | assumption) only [BB, B2, ↓reduceIte, Nat.reduceLeDiff, Nat.reduceAdd, intB_eql, intB_neq, intB_lss, intB_leq, intB_gtr, intB_geq] <;> rfl) ?_ | refine newP_mk ?_ | refine optP_mk ?_ | with_reducible first | refine condP_t ?_ | refine condP_f ?_ | refine ifP_tt' ?_ | refine ifP_ff' ?_ | refine ifP_tf' ?_ | refine ifP_ft' ?_ | refine ifP_u' ?_ | refine optP_mk0 ?_))
  have h1 : ((b:Int) / 64).toNat = b / 64 := by omega
  have h2 : ((b:Int) % 64).toNat = b % 64 := by omega
  have h3 := word_lt m (b / 64)
  have h4 : b / 64 < 4 := by omega
  have h5 := setL_get (m := m) h4
  cases hm : m.testBit b with
  | true =>
    simp only [Bool.not_true]
    (repeat (first | refine bindP_mk (by simp (disch := first | omega | exact Int.natCast_nonneg _ | assumption) only [BB, B2, ↓reduceIte, Nat.reduceLeDiff, Nat.reduceAdd, intB_eql, intB_neq, intB_lss, intB_leq, intB_gtr, intB_geq] <;> rfl) ?_ | refine newP_mk ?_ | refine optP_mk ?_ | with_reducible first | refine condP_t ?_ | refine condP_f ?_ | refine ifP_tt' ?_ | refine ifP_ff' ?_ | refine ifP_tf' ?_ | refine ifP_ft' ?_ | refine ifP_u' ?_ | refine optP_mk0 ?_))
    refine ref01_with_end (m := m) (w := 0) (id := nx) rfl rfl ?_ ?_ hf ?_ (Nat.le_refl _) ?_
    · simp (disch := first | omega | exact Int.natCast_nonneg _ | assumption) only [BB, B2, ↓reduceIte, Nat.reduceLeDiff, Nat.reduceAdd, intB_eql, intB_neq, intB_lss, intB_leq, intB_gtr, intB_geq, setV_cells]
    · simp (disch := first | omega | exact Int.natCast_nonneg _ | assumption) only [BB, B2, ↓reduceIte, Nat.reduceLeDiff, Nat.reduceAdd, intB_eql, intB_neq, intB_lss, intB_leq, intB_gtr, intB_geq, setV_cells]
    · exact ((Sub.refl h).new hf (Nat.le_refl _)).new hf (by omega)
    · have := hK (n + 1 + 2) (by omega)
      rw [or_pow_self hm] at this; exact this
  | false =>
    simp only [Bool.not_false]
    have h6 : (word m (b / 64)).testBit (b % 64) = false := by
      rw [testBit_word, Nat.div_add_mod, hm]; simp
    have h7 := add_pow h6
    have h8 : word m (b / 64) + 2 ^ (b % 64) < 18446744073709551616 := by
      rw [h7]; exact Nat.or_lt_two_pow (n := 64) h3 (Nat.pow_lt_pow_right (by decide) (by omega))
    have h9 : ((word m (b / 64) : Nat) : Int) + ((2 ^ (b % 64) : Nat) : Int) = ((word m (b / 64) ||| 2 ^ (b % 64) : Nat) : Int) := by rw [← h7]; exact (Int.natCast_add _ _).symm
    have h10 : ((word m (b / 64) ||| 2 ^ (b % 64) : Nat) : Int) ≤ 18446744073709551615 := cast_le (by rw [← h7]; exact h8)
    have h11 := over_one (.int .u64 ((word m (b / 64) ||| 2 ^ (b % 64) : Nat) : Int)) (l := setL m) (off := b / 64) (by rw [setL_len]; omega)
    (repeat (first | refine bindP_mk (by simp (disch := first | omega | exact Int.natCast_nonneg _ | assumption) only [BB, B2, ↓reduceIte, Nat.reduceLeDiff, Nat.reduceAdd, intB_eql, intB_neq, intB_lss, intB_leq, intB_gtr, intB_geq, setV_cells, h1, h2, h5, h9] <;> rfl) ?_ | refine newP_mk ?_ | refine optP_mk ?_ | with_reducible first | refine condP_t ?_ | refine condP_f ?_ | refine ifP_tt' ?_ | refine ifP_ff' ?_ | refine ifP_tf' ?_ | refine ifP_ft' ?_ | refine ifP_u' ?_ | refine optP_mk0 ?_))
    refine bindP_mk (store1_own (l := setL m) (by simp (disch := first | omega | exact Int.natCast_nonneg _ | assumption) only [BB, B2, ↓reduceIte, Nat.reduceLeDiff, Nat.reduceAdd, intB_eql, intB_neq, intB_lss, intB_leq, intB_gtr, intB_geq, setV_cells] <;> rfl) h4 rfl rfl) ?_
    rw [setL_set hb]
    refine ref01_with_end (m := m ||| 2 ^ b) (w := 0) (id := nx) rfl rfl ?_ ?_ hf ?_ (Nat.le_refl _) (hK _ (by omega))
    · simp (disch := first | omega | exact Int.natCast_nonneg _ | assumption) only [BB, B2, ↓reduceIte, Nat.reduceLeDiff, Nat.reduceAdd, intB_eql, intB_neq, intB_lss, intB_leq, intB_gtr, intB_geq, setV_cells]
    · simp (disch := first | omega | exact Int.natCast_nonneg _ | assumption) only [BB, B2, ↓reduceIte, Nat.reduceLeDiff, Nat.reduceAdd, intB_eql, intB_neq, intB_lss, intB_leq, intB_gtr, intB_geq, setV_cells]
    · exact (((Sub.refl h).new hf (Nat.le_refl _)).new hf (by omega)).new hf (Nat.le_refl _)
end
set_option maxRecDepth 20000
def ofBytes (m : Nat) (l : List Nat) : Nat := l.foldl (fun m b => m ||| 2 ^ b) m
def bytesC (l : List Nat) : List (List Value) := l.map fun b : Nat => [Value.int .u8 (b : Int)]
theorem bytesC_len (l : List Nat) : (bytesC l).length = l.length := by simp [bytesC]
theorem bytesC_get {l : List Nat} {i : Nat} (hi : i < l.length) : (bytesC l)[i]? = some [.int .u8 (l[i] : Nat)] := by simp [bytesC, hi]
theorem buildV_Set : buildV Tryz.prog y_api_Set [] = some (setV 0) := by kernel_rfl
theorem buildV_Set_mk {K : Value → Prop} (k : K (setV 0)) : bindP (buildV Tryz.prog y_api_Set []) K := by rw [buildV_Set]; exact k
theorem ofBytes_take {m : Nat} {l : List Nat} {i : Nat} (hi : i < l.length) : ofBytes m (l.take (i + 1)) = ofBytes m (l.take i) ||| 2 ^ l[i] := by
  rw [List.take_succ_eq_append_getElem hi, ofBytes, List.foldl_append]; rfl
theorem ref01_Of_c {ro : Ro} {v : Value} {l : List Nat} (hl : ∀ b ∈ l, b < 256) (hlen : l.length ≤ 1000000) {h : T Obj} {nx : Nat} {K : KV} (hf : Fr h nx) (hv : Sl ro h v 1 (bytesC l)) (hK : ∀ nx', nx ≤ nx' → K (setV (ofBytes 0 l)) h nx') : callP Tryz.prog ro i_ref01_Of [v] h nx K := by
  apply ref01_Of_of
  unfold ref01_Of
  refine zer_Set_mk (newP_mk (buildV_Set_mk (zer_Set_mk (newP_mk ?_))))
  refine bindP_mk (storeA_own (l := setL 0) (vs := setL 0) (by simp (disch := first | omega | exact Int.natCast_nonneg _ | assumption) only [BB, B2, ↓reduceIte, Nat.reduceLeDiff, Nat.reduceAdd, intB_eql, intB_neq, intB_lss, intB_leq, intB_gtr, intB_geq, setV_cells] <;> rfl) rfl rfl rfl rfl) ?_
  refine loopP_rule (fun n e h' nx' => ∃ i : Nat, i + n = l.length ∧ nx + 3 ≤ nx' ∧ e 0 = v ∧ e 2 = ptr nx ∧ e 3 = ptr (nx + 2) ∧ e 4 = .int .i64 i ∧ Sub h h' ∧ Fr h' nx' ∧
    h'.get nx = some (.cells (setL 0).toArray y_api_Set) ∧ h'.get (nx + 2) = some (.cells (setL (ofBytes 0 (l.take i))).toArray y_api_Set)) ?_ (n := l.length) ⟨0, by omega, by omega, rfl, rfl, rfl, rfl, ?_, ?_, ?_, ?_⟩
  · rintro n e h' nx' ⟨i, hin, hnx, e0, e2, e3, e4, hs, hf', g1, g2⟩ Q' hc hx
    unfold ref01_Of_L1
    rw [e0, e3, e4]
    have hlenv := (hv.sub hs).len
    rw [bytesC_len] at hlenv
    refine bindP_mk hlenv ?_
    (repeat (first | refine bindP_mk (by simp (disch := first | omega | exact Int.natCast_nonneg _ | assumption) only [BB, B2, ↓reduceIte, Nat.reduceLeDiff, Nat.reduceAdd, intB_eql, intB_neq, intB_lss, intB_leq, intB_gtr, intB_geq] <;> rfl) ?_ | refine newP_mk ?_ | refine optP_mk ?_ | with_reducible first | refine condP_t ?_ | refine condP_f ?_ | refine ifP_tt' ?_ | refine ifP_ff' ?_ | refine ifP_tf' ?_ | refine ifP_ft' ?_ | refine ifP_u' ?_ | refine optP_mk0 ?_))
    by_cases hi : i < l.length
    · refine condP_tr (by simp; omega) ?_
      refine bindP_mk (loadA_all g2 rfl) ?_
      refine bindP_mk ((hv.sub hs).ix _ (by rw [bytesC_len]; exact hi)) ?_
      refine bindP_mk ((hv.sub hs).load1 (bytesC_get hi)) ?_
      refine ref01_with_c (hl _ (List.getElem_mem hi)) (hf'.mono (by omega)) fun n1 hn1 => ?_
      refine bindP_mk (storeA_own (l := setL _) (vs := setL _) g2 rfl rfl rfl rfl) ?_
      (repeat (first | refine bindP_mk (by simp (disch := first | omega | exact Int.natCast_nonneg _ | assumption) only [BB, B2, ↓reduceIte, Nat.reduceLeDiff, Nat.reduceAdd, intB_eql, intB_neq, intB_lss, intB_leq, intB_gtr, intB_geq] <;> rfl) ?_ | refine newP_mk ?_ | refine optP_mk ?_ | with_reducible first | refine condP_t ?_ | refine condP_f ?_ | refine ifP_tt' ?_ | refine ifP_ff' ?_ | refine ifP_tf' ?_ | refine ifP_ft' ?_ | refine ifP_u' ?_ | refine optP_mk0 ?_))
      refine hc (n - 1) _ _ _ _ (by omega) ⟨i + 1, by omega, ?_, e0, e2, e3, rfl, hs.new hf (by omega), (hf'.mono (by omega)).upd (Nat.le_refl _) (by omega), ?_, ?_⟩ (Sub.refl _)
      · omega
      · simp (disch := first | omega | exact Int.natCast_nonneg _ | assumption) only [BB, B2, ↓reduceIte, Nat.reduceLeDiff, Nat.reduceAdd, intB_eql, intB_neq, intB_lss, intB_leq, intB_gtr, intB_geq, g1]
      · rw [T.get_upd_same, ofBytes_take hi]
    · refine condP_fa (by simp; omega) ?_
      refine hx _ _ _ _ (fun e => by cases e) ?_
      show exP _ _ _ _
      rw [exP_exit]
      show ref01_Of_j1 ro K _ _ _
      unfold ref01_Of_j1
      show bindP (loadA ro h' 4 (e 3)) _
      rw [e3]
      refine bindP_mk (loadA_all g2 rfl) ?_
      show bindP (storeN 4 h' (e 2) _) _
      rw [e2]
      refine bindP_mk (storeA_own (l := setL _) (vs := setL _) g1 rfl rfl rfl rfl) ?_
      show bindP (loadA ro _ 4 (e 2)) _
      rw [e2]
      refine bindP_mk (loadA_all (by rw [T.get_upd_same]) rfl) ?_
      refine ⟨h, hs.new hf (Nat.le_refl _), ?_⟩
      have : l.take i = l := List.take_of_length_le (by omega)
      rw [this]
      exact hK _ (by omega)
  · exact (((Sub.refl h).new hf (Nat.le_refl _)).new hf (by omega)).new hf (by omega)
  · exact ((hf.upd (m := nx + 5) (by omega) (by omega)).upd (Nat.le_refl _) (by omega)).upd (Nat.le_refl _) (by omega)
  · simp (disch := first | omega | exact Int.natCast_nonneg _ | assumption) only [BB, B2, ↓reduceIte, Nat.reduceLeDiff, Nat.reduceAdd, intB_eql, intB_neq, intB_lss, intB_leq, intB_gtr, intB_geq, setV_cells]
  · rw [T.get_upd_same]; rfl
set_option maxRecDepth 20000
set_option maxRecDepth 20000
set_option maxRecDepth 20000
set_option maxRecDepth 20000
theorem lit_u8 (aid : Nat) (b : Int) : sliceLitV Tryz.prog y_s_uint8 aid 1 [(0, .int .u8 b)] = some (.slice (some (own aid 1)) 1 1, some (.cells #[.int .u8 b] y_uint8)) := by kernel_rfl
theorem und_u8s : und Tryz.prog y_s_uint8 = some (.slice y_uint8) := by kernel_rfl
theorem tin_u8 : ∃ i, tin Tryz.prog y_uint8 = some i ∧ i.size = 1 ∧ i.bytes = 1 := by
  have h : (tin Tryz.prog y_uint8).map (fun i => (i.size, i.bytes)) = some (1, 1) := by kernel_rfl
  cases hi : tin Tryz.prog y_uint8 with
  | none => rw [hi] at h; cases h
  | some i => rw [hi] at h; simp at h; exact ⟨i, rfl, h.1, h.2⟩
theorem zer_u8 : zer Tryz.prog y_uint8 = some (.int .u8 0) := by kernel_rfl
theorem append_u8 {ro : Ro} {h : T Obj} {v x : Value} {nx lo hi : Nat} {l : List Nat} {b : Nat} (ho : Own h v 1 y_uint8 (bytesC l) lo hi) (hx : Sl ro h x 1 (bytesC [b])) (hb : l.length ≤ 1000000) (hlo : lo ≤ nx) (hnx : hi ≤ nx) :
    ∃ h' r, appendV Tryz.prog ro h nx #[y_s_uint8, y_s_uint8] [v, x] = some (r, h', nx + 1) ∧ Own h' r 1 y_uint8 (bytesC (l ++ [b])) lo (nx + 1) ∧ (∀ k, (k < lo ∨ hi ≤ k) → k ≠ nx → h'.get k = h.get k) ∧ (∀ k, k ≠ nx → h'.get k = h.get k ∨ h'.get k = none) := by
  obtain ⟨i, h1, h2, h3⟩ := tin_u8
  have hcat : bytesC l ++ bytesC [b] = bytesC (l ++ [b]) := by simp [bytesC]
  have hl1 : (bytesC l).length = l.length := bytesC_len l
  have hl2 : (bytesC [b]).length = 1 := rfl
  obtain ⟨h', q1, q2, q3, q4⟩ := append_own (P := Tryz.prog) (t := y_s_uint8) ho hx und_u8s h1 h2 (by omega) zer_u8 rfl (by simp [bytesC]) rfl (by rw [hl1, hl2, h3]; unfold big; omega) (by rw [hl1, hl2]; unfold big; omega) hlo hnx
  rw [hcat] at q1 q2
  exact ⟨h', _, q1, q2, q3, q4⟩
set_option maxRecDepth 20000
set_option maxRecDepth 20000
theorem testBit_ofBytes (m : Nat) (l : List Nat) (b : Nat) : (ofBytes m l).testBit b = (m.testBit b || decide (b ∈ l)) := by
  induction l generalizing m with
  | nil => simp [ofBytes]
  | cons a l ih =>
    have : ofBytes m (a :: l) = ofBytes (m ||| 2 ^ a) l := rfl
    rw [this, ih, Nat.testBit_or, Nat.testBit_two_pow]
    by_cases e : a = b
    · subst e; simp
    · have : ¬ b = a := fun h => e h.symm
      simp [e, this]
def mem (c : List Nat) (k : Int) (i : Nat) : List Nat := (List.range i).filter fun b => decide (((c.getD b 0 : Nat) : Int) = k)
def clsS (c : List Nat) (k : Int) : Nat := ofBytes 0 (mem c k 256)
theorem filter_one (p : Nat → Bool) (i : Nat) : [i].filter p = if p i = true then [i] else [] := by
  cases h : p i <;> simp [h]
theorem mem_succ (c : List Nat) (k : Int) (i : Nat) : mem c k (i + 1) = mem c k i ++ (if ((c.getD i 0 : Nat) : Int) = k then [i] else []) := by
  unfold mem
  rw [List.range_succ, List.filter_append, filter_one]
  simp only [decide_eq_true_eq]
theorem mem_lt {c : List Nat} {k : Int} {i b : Nat} (h : b ∈ mem c k i) : b < i := by
  unfold mem at h
  exact List.mem_range.1 (List.mem_filter.1 h).1
theorem mem_len (c : List Nat) (k : Int) (i : Nat) : (mem c k i).length ≤ i := by
  unfold mem
  refine Nat.le_trans (List.length_filter_le _ _) ?_
  simp
theorem append_lit8 {ro : Ro} {h h0 : T Obj} {v : Value} {n1 lo hi nx nx0 : Nat} {l : List Nat} {b : Nat} {K : Value × T Obj × Nat → Prop} (ho : Own h v 1 y_uint8 (bytesC l) lo hi) (hl : l.length ≤ 1000000) (hf : Fr h nx) (hs : Sub h0 h) (hf0 : Fr h0 nx0) (hlo0 : nx0 ≤ lo) (hlo : lo ≤ hi) (hn : hi ≤ n1) (hnx : nx ≤ n1) (h2 : n1 + 1 ≤ nx + 1000)
    {n2 : Nat} (hn2 : n1 < n2)
    (hK : ∀ h' r, Own h' r 1 y_uint8 (bytesC (l ++ [b])) lo (n2 + 1) → Sub h0 h' → Fr h' (n2 + 1) → (∀ k, (k < lo ∨ hi ≤ k) → k ≠ n2 → k ≠ n1 → h'.get k = h.get k) → K (r, h', n2 + 1)) :
    bindP (sliceLitV Tryz.prog y_s_uint8 n1 1 [(0, .int .u8 (b : Int))]) fun r => optP h n1 r.2 fun h' => bindP (appendV Tryz.prog ro h' n2 #[y_s_uint8, y_s_uint8] [v, r.1]) K := by
  refine bindP_mk (lit_u8 _ _) (optP_mk ?_)
  have ho2 : Own (h.upd n1 (some (.cells #[.int .u8 (b : Int)] y_uint8))) v 1 y_uint8 (bytesC l) lo hi := ho.keep (Nat.le_refl _) fun id h1 h2 o hg => by rw [T.get_upd_ne _ _ (by omega)]; exact hg
  have hx1 : Sl ro (h.upd n1 (some (.cells #[.int .u8 (b : Int)] y_uint8))) (.slice (some (own n1 1)) 1 1) 1 (bytesC [b]) := Sl.own (l := bytesC [b]) (by rw [T.get_upd_same]; rfl) (by simp [bytesC]) (Nat.le_refl _)
  obtain ⟨h2, r, q1, q2, q3, q4⟩ := append_u8 (nx := n2) ho2 hx1 hl (by omega) (by omega)
  refine bindP_mk q1 (hK h2 r q2 ?_ ?_ ?_)
  · intro k o hk
    have hkn : k < nx0 := by
      rcases Nat.lt_or_ge k nx0 with h9 | h9
      · exact h9
      · rw [hf0 k h9] at hk; cases hk
    rw [q3 k (.inl (by omega)) (by omega), T.get_upd_ne _ _ (by omega)]
    exact hs k o hk
  · intro k hk
    rw [q3 k (.inr (by omega)) (by omega), T.get_upd_ne _ _ (by omega)]
    exact hf k (by omega)
  · intro k hk h3 h4
    rw [q3 k hk h3, T.get_upd_ne _ _ h4]
set_option maxRecDepth 20000
set_option maxRecDepth 4000 in
theorem ref02_Set_c {ro : Ro} {c : List Nat} {n k : Int} (hc : c.length = 256) (hcl : ∀ x ∈ c, x < 256) {h : T Obj} {nx : Nat} {K : KV} (hf : Fr h nx) (hK : ∀ nx', nx ≤ nx' → K (setV (clsS c k)) h nx') : callP Tryz.prog ro i_ref02_Set [splitI c n, .int .i64 k] h nx K := by
  apply ref02_Set_of
  unfold ref02_Set
  refine newP_mk (zer_Set_mk (newP_mk ?_))
  refine loopP_rule (fun j e h' nx' => ∃ (i : Nat) (lv : Value), i + j = 256 ∧ nx + 2 ≤ nx' ∧ e 1 = .int .i64 k ∧ e 2 = ptr nx ∧ e 4 = ptr (nx + 1) ∧ e 5 = lv ∧ e 6 = .int .i64 i ∧ Sub h h' ∧ Fr h' nx' ∧
    h'.get nx = some (.cells (splitLI c n).toArray y_api_Split) ∧ h'.get (nx + 1) = some (.cells (setL 0).toArray y_api_Set) ∧ Own h' lv 1 y_uint8 (bytesC (mem c k i)) (nx + 2) nx') ?_ (n := 256) ⟨0, _, by omega, by omega, rfl, rfl, rfl, rfl, rfl, ?_, ?_, ?_, ?_, Own.nil⟩
  · rintro j e h' nx' ⟨i, lv, hij, hnx, e1, e2, e4, e5, e6, hs, hf', g0, g1, ho⟩ Q' hq hx
    unfold ref02_Set_L1
    rw [e1, e2, e5, e6]
    (repeat (first | refine bindP_mk (by simp (disch := first | omega | exact Int.natCast_nonneg _ | assumption) only [BB, B2, ↓reduceIte, Nat.reduceLeDiff, Nat.reduceAdd, intB_eql, intB_neq, intB_lss, intB_leq, intB_gtr, intB_geq] <;> rfl) ?_ | refine newP_mk ?_ | refine optP_mk ?_ | with_reducible first | refine condP_t ?_ | refine condP_f ?_ | refine ifP_tt' ?_ | refine ifP_ff' ?_ | refine ifP_tf' ?_ | refine ifP_ft' ?_ | refine ifP_u' ?_ | refine optP_mk0 ?_))
    by_cases hi : i < 256
    · refine condP_tr (by simp; omega) ?_
      have hic : i < c.length := by omega
      have hci := hcl _ (List.getElem_mem hic)
      have hg := splitLI_get (n := n) hic
      have hgd : c.getD i 0 = c[i] := by rw [List.getD_eq_getElem?_getD, List.getElem?_eq_getElem hic]; rfl
      (repeat (first | refine bindP_mk (by simp (disch := first | omega | exact Int.natCast_nonneg _ | assumption) only [BB, B2, ↓reduceIte, Nat.reduceLeDiff, Nat.reduceAdd, intB_eql, intB_neq, intB_lss, intB_leq, intB_gtr, intB_geq, g0, hg] <;> rfl) ?_ | refine newP_mk ?_ | refine optP_mk ?_ | with_reducible first | refine condP_t ?_ | refine condP_f ?_ | refine ifP_tt' ?_ | refine ifP_ff' ?_ | refine ifP_tf' ?_ | refine ifP_ft' ?_ | refine ifP_u' ?_ | refine optP_mk0 ?_))
      have hj2 : ∀ (e : Env) (h1 : T Obj) (n2 : Nat) (lv : Value), nx' ≤ n2 → e 1 = .int .i64 k → e 2 = ptr nx → e 4 = ptr (nx + 1) → e 5 = lv → e 6 = .int .i64 i → Sub h h1 → Fr h1 n2 → h1.get nx = some (.cells (splitLI c n).toArray y_api_Split) → h1.get (nx + 1) = some (.cells (setL 0).toArray y_api_Set) →
          Own h1 lv 1 y_uint8 (bytesC (mem c k (i + 1))) (nx + 2) n2 → ref02_Set_j2 ro Q' e h1 n2 := by
        intro e h1 n2 lv hn2 e1 e2 e4 e5 e6 hs1 hf1 g0 g1 ho1
        unfold ref02_Set_j2
        rw [e6]
        (repeat (first | refine bindP_mk (by simp (disch := first | omega | exact Int.natCast_nonneg _ | assumption) only [BB, B2, ↓reduceIte, Nat.reduceLeDiff, Nat.reduceAdd, intB_eql, intB_neq, intB_lss, intB_leq, intB_gtr, intB_geq] <;> rfl) ?_ | refine newP_mk ?_ | refine optP_mk ?_ | with_reducible first | refine condP_t ?_ | refine condP_f ?_ | refine ifP_tt' ?_ | refine ifP_ff' ?_ | refine ifP_tf' ?_ | refine ifP_ft' ?_ | refine ifP_u' ?_ | refine optP_mk0 ?_))
        exact hq (j - 1) _ _ _ _ (by omega) ⟨i + 1, lv, by omega, by omega, e1, e2, e4, e5, rfl, hs1, hf1.mono (by omega), g0, g1, ho1.keep (by omega) fun _ _ _ _ hg => hg⟩ (Sub.refl _)
      by_cases hk : ((c[i] : Nat) : Int) = k
      · refine condP_tr (by simp [hk]) ?_
        (repeat (first | refine bindP_mk (by simp (disch := first | omega | exact Int.natCast_nonneg _ | assumption) only [BB, B2, ↓reduceIte, Nat.reduceLeDiff, Nat.reduceAdd, intB_eql, intB_neq, intB_lss, intB_leq, intB_gtr, intB_geq] <;> rfl) ?_ | refine newP_mk ?_ | refine optP_mk ?_ | with_reducible first | refine condP_t ?_ | refine condP_f ?_ | refine ifP_tt' ?_ | refine ifP_ff' ?_ | refine ifP_tf' ?_ | refine ifP_ft' ?_ | refine ifP_u' ?_ | refine optP_mk0 ?_))
        refine append_lit8 (h0 := h) (nx0 := nx) (nx := nx') (lo := nx + 2) (hi := nx') ho (Nat.le_trans (mem_len _ _ _) (by omega)) hf' hs hf (by omega) (by omega) (by omega) (by omega) (by omega) (by omega) fun h2 r q1 q2 q3 q4 => ?_
        dsimp only
        refine hj2 _ _ _ r (by omega) e1 e2 e4 rfl e6 q2 (q3.mono (by omega)) ?_ ?_ ?_
        · rw [q4 _ (.inl (by omega)) (by omega) (by omega)]; exact g0
        · rw [q4 _ (.inl (by omega)) (by omega) (by omega)]; exact g1
        · rw [mem_succ, hgd, if_pos hk]; exact q1.keep (by omega) fun _ _ _ _ hg => hg
      · refine condP_fa (by simp [hk]) ?_
        refine hj2 _ _ _ lv (by omega) e1 e2 e4 e5 e6 hs (hf'.mono (by omega)) g0 g1 ?_
        rw [mem_succ, hgd, if_neg hk, List.append_nil]; exact ho.keep (by omega) fun _ _ _ _ hg => hg
    · refine condP_fa (by simp; omega) ?_
      refine hx _ _ _ _ (fun e => by cases e) (exP_e (beqP_t ?_))
      have hi2 : i = 256 := by omega
      subst hi2
      unfold ref02_Set_j1
      have f4 : ∀ a b, Env.put (Env.put e 7 a) 8 b 4 = ptr (nx + 1) := fun a b => e4
      have f5 : ∀ a b, Env.put (Env.put e 7 a) 8 b 5 = lv := fun a b => e5
      simp only [puts, f4, f5]
      refine ref01_Of_c (fun b hb => mem_lt hb) (Nat.le_trans (mem_len c k 256) (by omega)) (hf'.mono (by omega)) ho.sl fun n2 hn2 => ?_
      refine bindP_mk (storeA_own (l := setL 0) (vs := setL (clsS c k)) g1 rfl rfl rfl rfl) ?_
      refine bindP_mk (loadA_all (by rw [T.get_upd_same]) rfl) ?_
      exact ⟨h, hs.new hf (by omega), hK _ (by omega)⟩
  · exact ((Sub.refl h).new hf (Nat.le_refl _)).new hf (by omega)
  · exact (hf.upd (m := nx + 4) (by omega) (by omega)).upd (Nat.le_refl _) (by omega)
  · simp (disch := first | omega | exact Int.natCast_nonneg _ | assumption) only [BB, B2, ↓reduceIte, Nat.reduceLeDiff, Nat.reduceAdd, intB_eql, intB_neq, intB_lss, intB_leq, intB_gtr, intB_geq, splitI_cells]
  · simp (disch := first | omega | exact Int.natCast_nonneg _ | assumption) only [BB, B2, ↓reduceIte, Nat.reduceLeDiff, Nat.reduceAdd, intB_eql, intB_neq, intB_lss, intB_leq, intB_gtr, intB_geq, setV_cells]
def lst (m i : Nat) : List Nat := (List.range i).filter fun b => m.testBit b
def listS (m : Nat) : List Nat := lst m 256
theorem lst_succ (m i : Nat) : lst m (i + 1) = lst m i ++ (if m.testBit i = true then [i] else []) := by
  unfold lst
  rw [List.range_succ, List.filter_append, filter_one]
theorem lst_len (m i : Nat) : (lst m i).length ≤ i := by
  unfold lst
  refine Nat.le_trans (List.length_filter_le _ _) ?_
  simp
set_option maxRecDepth 4000 in
theorem ref01_List_c {ro : Ro} {m : Nat} {h : T Obj} {nx : Nat} {K : KV} (hf : Fr h nx) (hK : ∀ r h' nx', nx ≤ nx' → Sub h h' → Fr h' nx' → Own h' r 1 y_uint8 (bytesC (listS m)) nx nx' → K r h' nx') : callP Tryz.prog ro i_ref01_List [setV m] h nx K := by
  apply ref01_List_of
  unfold ref01_List
  refine newP_mk ?_
  refine loopP_rule (fun j e h' nx' => ∃ (i : Nat) (lv : Value), i + j = 256 ∧ nx + 1 ≤ nx' ∧ e 1 = ptr nx ∧ e 3 = lv ∧ e 4 = .int .i64 i ∧ Sub h h' ∧ Fr h' nx' ∧
    h'.get nx = some (.cells (setL m).toArray y_api_Set) ∧ Own h' lv 1 y_uint8 (bytesC (lst m i)) (nx + 1) nx') ?_ (n := 256) ⟨0, _, by omega, by omega, rfl, rfl, rfl, ?_, ?_, ?_, Own.nil⟩
  · rintro j e h' nx' ⟨i, lv, hij, hnx, e1, e3, e4, hs, hf', g0, ho⟩ Q' hq hx
    unfold ref01_List_L1
    rw [e1, e3, e4]
    (repeat (first | refine bindP_mk (by simp (disch := first | omega | exact Int.natCast_nonneg _ | assumption) only [BB, B2, ↓reduceIte, Nat.reduceLeDiff, Nat.reduceAdd, intB_eql, intB_neq, intB_lss, intB_leq, intB_gtr, intB_geq] <;> rfl) ?_ | refine newP_mk ?_ | refine optP_mk ?_ | with_reducible first | refine condP_t ?_ | refine condP_f ?_ | refine ifP_tt' ?_ | refine ifP_ff' ?_ | refine ifP_tf' ?_ | refine ifP_ft' ?_ | refine ifP_u' ?_ | refine optP_mk0 ?_))
    by_cases hi : i < 256
    · refine condP_tr (by simp; omega) ?_
      refine bindP_mk (loadA_all g0 rfl) ?_
      (repeat (first | refine bindP_mk (by simp (disch := first | omega | exact Int.natCast_nonneg _ | assumption) only [BB, B2, ↓reduceIte, Nat.reduceLeDiff, Nat.reduceAdd, intB_eql, intB_neq, intB_lss, intB_leq, intB_gtr, intB_geq] <;> rfl) ?_ | refine newP_mk ?_ | refine optP_mk ?_ | with_reducible first | refine condP_t ?_ | refine condP_f ?_ | refine ifP_tt' ?_ | refine ifP_ff' ?_ | refine ifP_tf' ?_ | refine ifP_ft' ?_ | refine ifP_u' ?_ | refine optP_mk0 ?_))
      refine ref01_Has_c hi (hf'.mono (by omega)) fun n1 hn1 => ?_
      have hj2 : ∀ (e : Env) (h1 : T Obj) (n2 : Nat) (lv : Value), nx' ≤ n2 → e 1 = ptr nx → e 3 = lv → e 4 = .int .i64 i → Sub h h1 → Fr h1 n2 → h1.get nx = some (.cells (setL m).toArray y_api_Set) →
          Own h1 lv 1 y_uint8 (bytesC (lst m (i + 1))) (nx + 1) n2 → ref01_List_j2 ro Q' e h1 n2 := by
        intro e h1 n2 lv hn2 e1 e3 e4 hs1 hf1 g0 ho1
        unfold ref01_List_j2
        rw [e4]
        (repeat (first | refine bindP_mk (by simp (disch := first | omega | exact Int.natCast_nonneg _ | assumption) only [BB, B2, ↓reduceIte, Nat.reduceLeDiff, Nat.reduceAdd, intB_eql, intB_neq, intB_lss, intB_leq, intB_gtr, intB_geq] <;> rfl) ?_ | refine newP_mk ?_ | refine optP_mk ?_ | with_reducible first | refine condP_t ?_ | refine condP_f ?_ | refine ifP_tt' ?_ | refine ifP_ff' ?_ | refine ifP_tf' ?_ | refine ifP_ft' ?_ | refine ifP_u' ?_ | refine optP_mk0 ?_))
        exact hq (j - 1) _ _ _ _ (by omega) ⟨i + 1, lv, by omega, by omega, e1, e3, rfl, hs1, hf1.mono (by omega), g0, ho1.keep (by omega) fun _ _ _ _ hg => hg⟩ (Sub.refl _)
      cases hb : m.testBit i with
      | true =>
        refine condP_tr rfl ?_
        (repeat (first | refine bindP_mk (by simp (disch := first | omega | exact Int.natCast_nonneg _ | assumption) only [BB, B2, ↓reduceIte, Nat.reduceLeDiff, Nat.reduceAdd, intB_eql, intB_neq, intB_lss, intB_leq, intB_gtr, intB_geq] <;> rfl) ?_ | refine newP_mk ?_ | refine optP_mk ?_ | with_reducible first | refine condP_t ?_ | refine condP_f ?_ | refine ifP_tt' ?_ | refine ifP_ff' ?_ | refine ifP_tf' ?_ | refine ifP_ft' ?_ | refine ifP_u' ?_ | refine optP_mk0 ?_))
        refine append_lit8 (h0 := h) (nx0 := nx) (nx := n1) (lo := nx + 1) (hi := nx') ho (Nat.le_trans (lst_len _ _) (by omega)) (hf'.mono (by omega)) hs hf (by omega) (by omega) (by omega) (by omega) (by omega) (by omega) fun h2 r q1 q2 q3 q4 => ?_
        dsimp only
        refine hj2 _ _ _ r (by omega) e1 rfl e4 q2 (q3.mono (by omega)) ?_ ?_
        · rw [q4 _ (.inl (by omega)) (by omega) (by omega)]; exact g0
        · rw [lst_succ, hb, if_pos rfl]; exact q1.keep (by omega) fun _ _ _ _ hg => hg
      | false =>
        refine condP_fa rfl ?_
        refine hj2 _ _ _ lv (by omega) e1 e3 e4 hs (hf'.mono (by omega)) g0 ?_
        rw [lst_succ, hb, if_neg (by simp), List.append_nil]; exact ho.keep (by omega) fun _ _ _ _ hg => hg
    · refine condP_fa (by simp; omega) ?_
      refine hx _ _ _ _ (fun e => by cases e) (exP_e (beqP_t ?_))
      have hi2 : i = 256 := by omega
      subst hi2
      unfold ref01_List_j1
      have f3 : ∀ a b, Env.put (Env.put e 5 a) 6 b 3 = lv := fun a b => e3
      simp only [puts, f3]
      refine ⟨h', Sub.refl _, hK _ _ _ (by omega) hs (hf'.mono (by omega)) ?_⟩
      rcases ho with ho | ⟨id, h1, h2, h3⟩
      · exact .inl ho
      · exact .inr ⟨id, by omega, by omega, h3⟩
  · exact (Sub.refl h).new hf (Nat.le_refl _)
  · exact hf.upd (m := nx + 4) (by omega) (by omega)
  · simp (disch := first | omega | exact Int.natCast_nonneg _ | assumption) only [BB, B2, ↓reduceIte, Nat.reduceLeDiff, Nat.reduceAdd, intB_eql, intB_neq, intB_lss, intB_leq, intB_gtr, intB_geq, setV_cells]
set_option maxRecDepth 20000
def lb (c : List Nat) (k i : Nat) : Nat := ((List.range' i (256 - i)).find? fun b => decide (c.getD b 0 = k)).getD 0
def firstZ (c : List Nat) (n : Int) : List Nat := if n < 1 ∨ 256 < n then [] else (List.range n.toNat).map fun k => lb c k 0
theorem listS_cls {c : List Nat} {k : Int} : listS (clsS c k) = mem c k 256 := by
  unfold listS lst mem
  apply List.filter_congr
  intro b hb
  have hb := List.mem_range.1 hb
  unfold clsS
  rw [testBit_ofBytes]
  simp [mem, hb]
theorem mem_head {c : List Nat} {k : Nat} : (mem c (k : Int) 256).head?.getD 0 = lb c k 0 := by
  unfold mem lb
  rw [List.head?_filter]
  have : (fun b => decide (((c.getD b 0 : Nat) : Int) = (k : Int))) = fun b => decide (c.getD b 0 = k) := by
    funext b
    by_cases h : c.getD b 0 = k
    · rw [decide_eq_true h, decide_eq_true (by rw [h])]
    · rw [decide_eq_false h, decide_eq_false (by omega)]
  rw [this, ← List.range_eq_range']
set_option maxRecDepth 4000 in
theorem ref02_First_c {ro : Ro} {c : List Nat} {n : Int} (hc : c.length = 256) (hcl : ∀ x ∈ c, x < 256) {h : T Obj} {nx : Nat} {K : KV} (hf : Fr h nx) (hK : ∀ r h' nx', nx ≤ nx' → Sub h h' → Fr h' nx' → Own h' r 1 y_uint8 (bytesC (firstZ c n)) nx nx' → K r h' nx') : callP Tryz.prog ro i_ref02_First [splitI c n] h nx K := by
  apply ref02_First_of
  unfold ref02_First
  refine newP_mk ?_
  have hg := splitLI_many (n := n) hc
  have g0 : (h.upd nx (some (.cells (Value.cells (splitI c n)) y_api_Split))).get nx = some (.cells (splitLI c n).toArray y_api_Split) := by rw [T.get_upd_same]; rfl
  have hs0 : Sub h (h.upd nx (some (.cells (Value.cells (splitI c n)) y_api_Split))) := (Sub.refl h).new hf (Nat.le_refl _)
  have hf0 : Fr (h.upd nx (some (.cells (Value.cells (splitI c n)) y_api_Split))) (nx + 1) := (hf.mono (Nat.le_succ _)).upd (Nat.le_refl _) (by omega)
  generalize (h.upd nx (some (.cells (Value.cells (splitI c n)) y_api_Split))) = h0 at g0 hs0 hf0
  (repeat (first | refine bindP_mk (by simp (disch := first | omega | exact Int.natCast_nonneg _ | assumption) only [BB, B2, ↓reduceIte, Nat.reduceLeDiff, Nat.reduceAdd, intB_eql, intB_neq, intB_lss, intB_leq, intB_gtr, intB_geq, g0, hg] <;> rfl) ?_ | refine newP_mk ?_ | refine optP_mk ?_ | with_reducible first | refine condP_t ?_ | refine condP_f ?_ | refine ifP_tt' ?_ | refine ifP_ff' ?_ | refine ifP_tf' ?_ | refine ifP_ft' ?_ | refine ifP_u' ?_ | refine optP_mk0 ?_))
  by_cases h1 : n < 1
  · rw [decide_eq_true h1]
    (repeat (first | refine bindP_mk (by simp (disch := first | omega | exact Int.natCast_nonneg _ | assumption) only [BB, B2, ↓reduceIte, Nat.reduceLeDiff, Nat.reduceAdd, intB_eql, intB_neq, intB_lss, intB_leq, intB_gtr, intB_geq, g0, hg] <;> rfl) ?_ | refine newP_mk ?_ | refine optP_mk ?_ | with_reducible first | refine condP_t ?_ | refine condP_f ?_ | refine ifP_tt' ?_ | refine ifP_ff' ?_ | refine ifP_tf' ?_ | refine ifP_ft' ?_ | refine ifP_u' ?_ | refine optP_mk0 ?_))
    exact ⟨h0, Sub.refl _, hK _ _ _ (by omega) hs0 (hf0.mono (by omega)) (by unfold firstZ; rw [if_pos (.inl h1)]; exact Own.nil)⟩
  rw [decide_eq_false h1]
  (repeat (first | refine bindP_mk (by simp (disch := first | omega | exact Int.natCast_nonneg _ | assumption) only [BB, B2, ↓reduceIte, Nat.reduceLeDiff, Nat.reduceAdd, intB_eql, intB_neq, intB_lss, intB_leq, intB_gtr, intB_geq, g0, hg] <;> rfl) ?_ | refine newP_mk ?_ | refine optP_mk ?_ | with_reducible first | refine condP_t ?_ | refine condP_f ?_ | refine ifP_tt' ?_ | refine ifP_ff' ?_ | refine ifP_tf' ?_ | refine ifP_ft' ?_ | refine ifP_u' ?_ | refine optP_mk0 ?_))
  by_cases h2 : 256 < n
  · rw [decide_eq_true h2]
    (repeat (first | refine bindP_mk (by simp (disch := first | omega | exact Int.natCast_nonneg _ | assumption) only [BB, B2, ↓reduceIte, Nat.reduceLeDiff, Nat.reduceAdd, intB_eql, intB_neq, intB_lss, intB_leq, intB_gtr, intB_geq, g0, hg] <;> rfl) ?_ | refine newP_mk ?_ | refine optP_mk ?_ | with_reducible first | refine condP_t ?_ | refine condP_f ?_ | refine ifP_tt' ?_ | refine ifP_ff' ?_ | refine ifP_tf' ?_ | refine ifP_ft' ?_ | refine ifP_u' ?_ | refine optP_mk0 ?_))
    exact ⟨h0, Sub.refl _, hK _ _ _ (by omega) hs0 (hf0.mono (by omega)) (by unfold firstZ; rw [if_pos (.inr h2)]; exact Own.nil)⟩
  rw [decide_eq_false h2]
  obtain ⟨k0, rfl⟩ : ∃ k0 : Nat, n = (k0 : Int) := ⟨n.toNat, by omega⟩
  (repeat (first | refine bindP_mk (by simp (disch := first | omega | exact Int.natCast_nonneg _ | assumption) only [BB, B2, ↓reduceIte, Nat.reduceLeDiff, Nat.reduceAdd, intB_eql, intB_neq, intB_lss, intB_leq, intB_gtr, intB_geq, g0, hg] <;> rfl) ?_ | refine newP_mk ?_ | refine optP_mk ?_ | with_reducible first | refine condP_t ?_ | refine condP_f ?_ | refine ifP_tt' ?_ | refine ifP_ff' ?_ | refine ifP_tf' ?_ | refine ifP_ft' ?_ | refine ifP_u' ?_ | refine optP_mk0 ?_))
  refine loopP_rule (fun j e h' nx' => ∃ (i : Nat) (lv : Value), i + j = k0 ∧ nx + 1 ≤ nx' ∧ e 1 = ptr nx ∧ e 3 = lv ∧ e 4 = .int .i64 (i : Int) ∧ Sub h h' ∧ Fr h' nx' ∧
    h'.get nx = some (.cells (splitLI c k0).toArray y_api_Split) ∧ Own h' lv 1 y_uint8 (bytesC ((List.range i).map fun k => lb c k 0)) (nx + 1) nx') ?_ (n := k0) ⟨0, _, by omega, by omega, rfl, rfl, rfl, hs0, hf0.mono (by omega), g0, Own.nil⟩
  rintro j e h' nx' ⟨i, lv, hij, hnx, e1, e3, e4, hs, hf', g0, ho⟩ Q' hq hx
  unfold ref02_First_L1
  rw [e1, e3, e4]
  (repeat (first | refine bindP_mk (by simp (disch := first | omega | exact Int.natCast_nonneg _ | assumption) only [BB, B2, ↓reduceIte, Nat.reduceLeDiff, Nat.reduceAdd, intB_eql, intB_neq, intB_lss, intB_leq, intB_gtr, intB_geq, g0, hg] <;> rfl) ?_ | refine newP_mk ?_ | refine optP_mk ?_ | with_reducible first | refine condP_t ?_ | refine condP_f ?_ | refine ifP_tt' ?_ | refine ifP_ff' ?_ | refine ifP_tf' ?_ | refine ifP_ft' ?_ | refine ifP_u' ?_ | refine optP_mk0 ?_))
  by_cases hi : i < k0
  · refine condP_tr (by simp; omega) ?_
    refine bindP_mk (loadA_all g0 (splitLI_len hc)) ?_
    refine ref02_Set_c (n := (k0 : Int)) hc hcl (hf'.mono (by omega)) fun n1 hn1 => ?_
    refine ref01_List_c (hf'.mono (by omega)) fun r h2 n2 hn2 hs2 hf2 hr => ?_
    rw [listS_cls] at hr
    have hlen := (hr.sl (ro := ro)).len
    rw [bytesC_len] at hlen
    refine bindP_mk hlen ?_
    (repeat (first | refine bindP_mk (by simp (disch := first | omega | exact Int.natCast_nonneg _ | assumption) only [BB, B2, ↓reduceIte, Nat.reduceLeDiff, Nat.reduceAdd, intB_eql, intB_neq, intB_lss, intB_leq, intB_gtr, intB_geq] <;> rfl) ?_ | refine newP_mk ?_ | refine optP_mk ?_ | with_reducible first | refine condP_t ?_ | refine condP_f ?_ | refine ifP_tt' ?_ | refine ifP_ff' ?_ | refine ifP_tf' ?_ | refine ifP_ft' ?_ | refine ifP_u' ?_ | refine optP_mk0 ?_))
    have hrange : (List.range (i + 1)).map (fun k => lb c k 0) = (List.range i).map (fun k => lb c k 0) ++ [lb c i 0] := by rw [List.range_succ, List.map_append]; rfl
    have hol : ((List.range i).map fun k => lb c k 0).length ≤ 1000000 := by rw [List.length_map, List.length_range]; omega
    have ho2 : Own h2 lv 1 y_uint8 (bytesC ((List.range i).map fun k => lb c k 0)) (nx + 1) nx' := ho.keep (Nat.le_refl _) fun id _ _ o hg => hs2 _ _ hg
    have hj2 : ∀ (e : Env) (h3 : T Obj) (n3 : Nat) (lv : Value), nx' ≤ n3 → e 1 = ptr nx → e 3 = lv → e 4 = .int .i64 (i : Int) → Sub h h3 → Fr h3 n3 → h3.get nx = some (.cells (splitLI c k0).toArray y_api_Split) →
        Own h3 lv 1 y_uint8 (bytesC ((List.range (i + 1)).map fun k => lb c k 0)) (nx + 1) n3 → ref02_First_j2 ro Q' e h3 n3 := by
      intro e h3 n3 lv hn3 e1 e3 e4 hs3 hf3 g0 ho3
      unfold ref02_First_j2
      rw [e4]
      (repeat (first | refine bindP_mk (by simp (disch := first | omega | exact Int.natCast_nonneg _ | assumption) only [BB, B2, ↓reduceIte, Nat.reduceLeDiff, Nat.reduceAdd, intB_eql, intB_neq, intB_lss, intB_leq, intB_gtr, intB_geq] <;> rfl) ?_ | refine newP_mk ?_ | refine optP_mk ?_ | with_reducible first | refine condP_t ?_ | refine condP_f ?_ | refine ifP_tt' ?_ | refine ifP_ff' ?_ | refine ifP_tf' ?_ | refine ifP_ft' ?_ | refine ifP_u' ?_ | refine optP_mk0 ?_))
      exact hq (j - 1) _ _ _ _ (by omega) ⟨i + 1, lv, by omega, by omega, e1, e3, rfl, hs3, hf3.mono (by omega), g0, ho3.keep (by omega) fun _ _ _ _ hg => hg⟩ (Sub.refl _)
    have hhd := mem_head (c := c) (k := i)
    by_cases hm : (mem c (i : Int) 256) = []
    · refine condP_tr (by rw [hm]; rfl) ?_
      have hl0 : lb c i 0 = 0 := by rw [← hhd, hm]; rfl
      refine append_lit8 (b := 0) (h0 := h) (nx0 := nx) (nx := n2) (lo := nx + 1) (hi := nx') ho2 hol hf2 (hs.trans hs2) hf (by omega) (by omega) (by omega) (by omega) (by omega) (by omega) fun h3 r3 q1 q2 q3 q4 => ?_
      dsimp only
      refine hj2 _ _ _ r3 (by omega) e1 rfl e4 q2 (q3.mono (by omega)) ?_ ?_
      · rw [q4 _ (.inl (by omega)) (by omega) (by omega)]; exact hs2 _ _ g0
      · rw [hrange, hl0]; exact q1.keep (by omega) fun _ _ _ _ hg => hg
    · have hpos : 0 < (mem c (i : Int) 256).length := List.length_pos_iff.2 hm
      refine condP_fa (by simp; exact hm) ?_
      have hix := (hr.sl (ro := ro)).ix .i64 (i := 0) (by rw [bytesC_len]; exact hpos)
      refine bindP_mk hix ?_
      refine bindP_mk ((hr.sl (ro := ro)).load1 (bytesC_get hpos)) ?_
      have hl0 : (mem c (i : Int) 256)[0] = lb c i 0 := by rw [← hhd, List.head?_eq_getElem?, List.getElem?_eq_getElem hpos]; rfl
      rw [hl0]
      refine append_lit8 (h0 := h) (nx0 := nx) (nx := n2) (lo := nx + 1) (hi := nx') ho2 hol hf2 (hs.trans hs2) hf (by omega) (by omega) (by omega) (by omega) (by omega) (by omega) fun h3 r3 q1 q2 q3 q4 => ?_
      dsimp only
      refine hj2 _ _ _ r3 (by omega) e1 rfl e4 q2 (q3.mono (by omega)) ?_ ?_
      · rw [q4 _ (.inl (by omega)) (by omega) (by omega)]; exact hs2 _ _ g0
      · rw [hrange]; exact q1.keep (by omega) fun _ _ _ _ hg => hg
  · refine condP_fa (by simp; omega) ?_
    refine hx _ _ _ _ (fun e => by cases e) (exP_e (beqP_t ?_))
    have hi2 : i = k0 := by omega
    subst hi2
    unfold ref02_First_j1
    have f3 : ∀ a b c d, Env.put (Env.put (Env.put (Env.put e 14 a) 15 b) 16 c) 17 d 3 = lv := fun a b c d => e3
    simp only [puts, f3]
    have hfz : firstZ c (i : Int) = (List.range i).map fun k => lb c k 0 := by unfold firstZ; rw [if_neg (by omega)]; simp
    refine ⟨h', Sub.refl _, hK _ _ _ (by omega) hs (hf'.mono (by omega)) ?_⟩
    rw [hfz]
    rcases ho with ho | ⟨id, q1, q2, q3⟩
    · exact .inl ho
    · exact .inr ⟨id, by omega, by omega, q3⟩
end V
end Go.Proofs.YtjndkdmkecpllaaGreat
set_option linter.unusedVariables false
set_option linter.unusedSimpArgs false
namespace Go.Proofs.YtjndkdmkecpllaaGreat
namespace V
attribute [local irreducible] bindP ifP condP newP optP exP beqP
theorem okZ : zerosOk Tryz.prog = true := by kernel_rfl
theorem okN : namesOk Tryz.prog = true := by kernel_rfl
theorem okM : Tryz.prog.follows .mixedOrders = true := by kernel_rfl
def decS : Nat → List Value → Option (List Nat × Int)
  | 0, [.int .i64 n] => some ([], n)
  | k + 1, .int .u8 x :: r => match decide (0 ≤ x), decide (x < 256) with
    | true, true => (decS k r).bind fun p => some (x.toNat :: p.1, p.2)
    | _, _ => none
  | _, _ => none
theorem decS_cons (k : Nat) (x : Int) (r : List Value) : decS (k + 1) (.int .u8 x :: r) = match decide (0 ≤ x), decide (x < 256) with
    | true, true => (decS k r).bind fun p => some (x.toNat :: p.1, p.2)
    | _, _ => none := rfl
theorem decS_eq : ∀ {k : Nat} {l : List Value} {c : List Nat} {n : Int}, decS k l = some (c, n) → l = splitLI c n ∧ c.length = k ∧ ∀ x ∈ c, x < 256 := by
  intro k
  induction k with
  | zero =>
    intro l c n h
    unfold decS at h
    split at h <;> first
      | (cases h; exact ⟨rfl, rfl, by simp⟩)
      | (cases h; done)
      | contradiction
  | succ k ih =>
    intro l c n h
    cases l with
    | nil => cases h
    | cons v r =>
      have hv : ∃ x, v = .int .u8 x := by
        cases v with
        | int kd x =>
          cases kd with
          | u8 => exact ⟨x, rfl⟩
          | _ => cases (show (none : Option (List Nat × Int)) = some (c, n) from h)
        | _ => cases (show (none : Option (List Nat × Int)) = some (c, n) from h)
      obtain ⟨x, rfl⟩ := hv
      rw [decS_cons] at h
      split at h
      · rename_i h1 h2
        obtain ⟨p, h3, h4⟩ := bind_some' h
        obtain ⟨p1, p2⟩ := p
        simp only [Option.some.injEq, Prod.mk.injEq] at h4
        obtain ⟨rfl, rfl⟩ := h4
        obtain ⟨h5, h6, h7⟩ := ih h3
        simp only [decide_eq_true_eq] at h1 h2
        refine ⟨?_, by simp [h6], fun y hy => ?_⟩
        · rw [h5]
          simp only [splitLI, u8s, List.map_cons, List.cons_append]
          rw [Int.toNat_of_nonneg h1]
        · rcases List.mem_cons.1 hy with rfl | hy
          · omega
          · exact h7 y hy
      · cases h
def orcF : OrcT := fun f args => match Nat.beq f i_ref02_First, args with
  | true, [.agg cs] => match decS 256 cs.toList with
    | some (c, n) => match firstZ c n with
      | [] => none
      | x :: r => some (1, (x :: r).length, (x :: r).length, y_uint8, (x :: r).map fun b : Nat => Value.int .u8 (b : Int))
    | none => none
  | _, _ => none
theorem flatten_bytes : ∀ l : List Nat, (bytesC l).flatten = l.map fun b : Nat => Value.int .u8 (b : Int)
  | [] => rfl
  | x :: r => by
    have := flatten_bytes r
    simp only [bytesC, List.map_cons, List.flatten_cons] at this ⊢
    rw [this]; rfl
theorem orcF_ok : ∀ f args z l c e cs, orcF f args = some (z, l, c, e, cs) → OrcS Tryz.prog f args z l c cs := by
  intro f args z l c e cs h
  unfold orcF at h
  split at h
  · rename_i cells hf
    split at h
    · rename_i c' n hd
      obtain ⟨h1, h2, h3⟩ := decS_eq hd
      split at h
      · cases h
      · rename_i x r hx
        have hne : firstZ c' n ≠ [] := by rw [hx]; simp
        rw [← hx] at h
        simp only [Option.some.injEq, Prod.mk.injEq] at h
        obtain ⟨rfl, rfl, rfl, rfl, rfl⟩ := h
        have hfe : f = i_ref02_First := Nat.eq_of_beq_eq_true hf
        subst hfe
        have hc : (Value.agg cells) = splitI c' n := by
          unfold splitI
          rw [← h1]
        rw [hc]
        have hlen : 0 < (firstZ c' n).length := List.length_pos_iff.2 hne
        refine orcS_of okZ okN okM ?_ ?_ (by kernel_rfl) (Nat.le_refl _) (by simp) hlen fun ro => ?_
        · simp [rigid, splitI, splitLI, u8s, V.flat]
        · simp [V.flat]
        · refine ref02_First_c h2 h3 Fr.e fun r h' nx' hn hs hf' ho => ?_
          rcases ho with ⟨_, he⟩ | ⟨id, _, _, rfl, _, hg⟩
          · exact absurd (List.map_eq_nil_iff.1 he) hne
          · refine ⟨id, y_uint8, ?_, ?_⟩
            · rw [bytesC_len]; rfl
            · rw [hg, flatten_bytes]
    · cases h
  · cases h
end V
end Go.Proofs.YtjndkdmkecpllaaGreat
set_option linter.unusedVariables false
set_option linter.unusedSimpArgs false
set_option maxRecDepth 8000
namespace Go.Proofs.YtjndkdmkecpllaaGreat
namespace V
open Go.ChangeShapes Go.WideShapes Go.ChangeAt Go.RowKit
set_option maxRecDepth 8000
theorem okOwn : ownKnob Tryz.prog.godebug = none := by kernel_rfl
theorem okLaid : laidOutB Tryz.prog = true := by kernel_rfl
section
variable {H : Type} {enc : TypeId × Value → H} {W : World}
theorem wf_u8 {n : Int} (h : (Lit.int .u8 n).wf = true) : 0 ≤ n ∧ n ≤ 255 := by
  simp only [Lit.wf, Bool.and_eq_true, decide_eq_true_eq] at h
  have h1 : IntKind.u8.min = 0 := rfl
  have h2 : IntKind.u8.max = 255 := rfl
  rw [h1, h2] at h; exact h
theorem open_str {v : Value} {d : DataW H} {p : List MemPlace} (h : DataW.Trod enc Tryz.prog W 0 (fun _ => true) true y_string v d p) {base : Nat} (hval : Value.okWide Tryz.prog W .any base y_string v) : ∃ s : ByteArray, Arg W.heap.size (.string s) v := by
  have hu : Tryz.prog.underlying y_string = some .string := by kernel_rfl
  obtain ⟨s, rfl, _⟩ := Go.ChangeMaps.open_string hu hval h
  exact ⟨s, .one rfl⟩
end
end V
end Go.Proofs.YtjndkdmkecpllaaGreat