/- Slices of one's own, to which may be appended: what stays.
   No condition. -/
import Derived.Test.YtepbdkfkfcckoaaWU
set_option linter.unusedVariables false
set_option linter.unusedSimpArgs false
namespace Go.Proofs.Ytepbdkfkfcckoaa
namespace V
/-- The block that a slice leads to. -/
def sblk : Value → Option Nat
  | .slice (some a) _ _ => some a.block
  | _ => none
/-- A slice of one's own (its block no less than lo). -/
def OwnT (h : T Obj) (v : Value) (z : Nat) (e : TypeId) (l : List (List Value)) (lo : Nat) : Prop :=
  (v = .slice none 0 0 ∧ l = []) ∨ ∃ id, lo ≤ id ∧ v = .slice (some (own id z)) l.length l.length ∧ (∀ x ∈ l, x.length = z) ∧ h.get id = some (.cells l.flatten.toArray e)
theorem OwnT.nil {h : T Obj} {z : Nat} {e : TypeId} {lo : Nat} : OwnT h (.slice none 0 0) z e [] lo := .inl ⟨rfl, rfl⟩
theorem OwnT.mono {h : T Obj} {v : Value} {z : Nat} {e : TypeId} {l : List (List Value)} {lo lo' : Nat} (ho : OwnT h v z e l lo) (hl : lo' ≤ lo) : OwnT h v z e l lo' := by
  rcases ho with ho | ⟨id, h1, h2⟩
  · exact .inl ho
  · exact .inr ⟨id, by omega, h2⟩
theorem OwnT.sl {ro : Ro} {h : T Obj} {v : Value} {z : Nat} {e : TypeId} {l : List (List Value)} {lo : Nat} (ho : OwnT h v z e l lo) : Sl ro h v z l := by
  rcases ho with ho | ⟨id, _, rfl, h4, h5⟩
  · exact .inl ho
  · exact Sl.own h5 h4 (Nat.le_refl _)
/-- All is as it was, but what a slice leads to. -/
def Kp (v : Value) (h h' : T Obj) : Prop := ∀ k o, h.get k = some o → sblk v ≠ some k → h'.get k = some o
theorem Sub.kp {v : Value} {h h' : T Obj} (hs : Sub h h') : Kp v h h' := fun k o hk _ => hs k o hk
theorem Kp.trans {v : Value} {a b c : T Obj} (h1 : Kp v a b) (h2 : Sub b c) : Kp v a c := fun k o hk hv => h2 k o (h1 k o hk hv)
theorem OwnT.keep {h h' : T Obj} {v w : Value} {z : Nat} {e : TypeId} {l : List (List Value)} {lo : Nat} (ho : OwnT h v z e l lo) (hk : Kp w h h') (hne : ∀ id, sblk v = some id → sblk w ≠ some id) : OwnT h' v z e l lo := by
  rcases ho with ho | ⟨id, h1, rfl, h4, h5⟩
  · exact .inl ho
  · exact .inr ⟨id, h1, rfl, h4, hk id _ h5 (hne id rfl)⟩
theorem OwnT.keepS {h h' : T Obj} {v : Value} {z : Nat} {e : TypeId} {l : List (List Value)} {lo : Nat} (ho : OwnT h v z e l lo) (hk : Sub h h') : OwnT h' v z e l lo := by
  rcases ho with ho | ⟨id, h1, rfl, h4, h5⟩
  · exact .inl ho
  · exact .inr ⟨id, h1, rfl, h4, hk id _ h5⟩
/-- Of another kind of element: another block. -/
theorem OwnT.ne {h : T Obj} {v : Value} {z : Nat} {e e' : TypeId} {l : List (List Value)} {lo k : Nat} {c : Array Value} {f : Nat × Nat} (ho : OwnT h v z e l lo) (hk : h.get k = some (.cells c e' f)) (he : e' ≠ e) : sblk v ≠ some k := by
  rcases ho with ⟨rfl, _⟩ | ⟨id, _, rfl, _, h5⟩
  · intro h; cases h
  · intro h
    have : id = k := Option.some.inj h
    subst this
    rw [hk] at h5
    simp only [Option.some.injEq, Obj.cells.injEq] at h5
    exact he h5.2.1
theorem OwnT.lt {h : T Obj} {v : Value} {z : Nat} {e : TypeId} {l : List (List Value)} {lo k : Nat} (ho : OwnT h v z e l lo) (hk : k < lo) : sblk v ≠ some k := by
  rcases ho with ⟨rfl, _⟩ | ⟨id, h1, rfl, _, h5⟩
  · intro h; cases h
  · intro h
    have : id = k := Option.some.inj h
    omega
theorem Fr.lt' {h : T Obj} {n k : Nat} {o : Obj} (hf : Fr h n) (hk : h.get k = some o) : k < n := by
  rcases Nat.lt_or_ge k n with h1 | h1
  · exact h1
  · rw [hf k h1] at hk; cases hk
theorem OwnT.sub {h0 h h' : T Obj} {v : Value} {z : Nat} {e : TypeId} {l : List (List Value)} {lo n0 : Nat} (ho : OwnT h v z e l lo) (hk : Kp v h h') (hf : Fr h0 n0) (hn : n0 ≤ lo) (hs : Sub h0 h) : Sub h0 h' := fun k o hk0 => hk k o (hs k o hk0) (ho.lt (by have := hf.lt' hk0; omega))
theorem appendT {P : Program} {ro : Ro} {h : T Obj} {v x : Value} {z nx lo : Nat} {t e : TypeId} {i : TypeInfo} {zv : Value} {l m : List (List Value)} (ho : OwnT h v z e l lo) (hx : Sl ro h x z m) (hu : und P t = some (.slice e)) (hi' : tin P e = some i) (hz : i.size = z) (hz0 : 0 < z) (hzer : zer P e = some zv) (hzs : zv.cells.size = z)
    (hm : m ≠ []) (hok : m.flatten.all cellOk = true) (hb : (l.length + m.length) * i.bytes ≤ big) (hb2 : l.length + m.length ≤ big) (hlo : lo ≤ nx) (hf : Fr h nx) :
    ∃ h', appendV P ro h nx #[t, t] [v, x] = some (.slice (some (own nx z)) (l ++ m).length (l ++ m).length, h', nx + 1) ∧ OwnT h' (.slice (some (own nx z)) (l ++ m).length (l ++ m).length) z e (l ++ m) lo ∧ Kp v h h' ∧ Fr h' (nx + 1) ∧ (∀ k, k ≠ nx → h'.get k = h.get k ∨ h'.get k = none) := by
  have fin : ∀ h' : T Obj, (∀ k, k ≠ nx → h'.get k = h.get k ∨ h'.get k = none) → Fr h' (nx + 1) := fun h' h2 k hk => by
    rcases h2 k (by omega) with h3 | h3
    · rw [h3]; exact hf k (by omega)
    · exact h3
  rcases ho with ⟨rfl, rfl⟩ | ⟨id, h1, rfl, h4, h5⟩
  · obtain ⟨h', q1, q2, q3, q4⟩ := append_own (P := P) (t := t) (lo := nx) (hi := nx) (Own.nil (h := h) (z := z) (e := e)) hx hu hi' hz hz0 hzer hzs hm hok (by simpa using hb) (by simpa using hb2) (Nat.le_refl _) (Nat.le_refl _)
    refine ⟨h', q1, ?_, fun k o hk _ => ?_, fin h' q4, q4⟩
    · rcases q2 with ⟨h6, _⟩ | ⟨id, h6, h7, h8, h9, h10⟩
      · cases h6
      · exact .inr ⟨id, by omega, h8, h9, h10⟩
    · have := hf.lt' hk
      rw [q3 k (.inl this) (by omega)]; exact hk
  · have hid := hf.lt' h5
    obtain ⟨h', q1, q2, q3, q4⟩ := append_own (P := P) (t := t) (lo := id) (hi := id + 1) (.inr ⟨id, Nat.le_refl _, by omega, rfl, h4, h5⟩ : Own h _ z e l id (id + 1)) hx hu hi' hz hz0 hzer hzs hm hok hb hb2 (show id ≤ nx by omega) (by omega)
    refine ⟨h', q1, ?_, fun k o hk hne => ?_, fin h' q4, q4⟩
    · rcases q2 with ⟨h6, _⟩ | ⟨id2, h6, h7, h8, h9, h10⟩
      · cases h6
      · exact .inr ⟨id2, by omega, h8, h9, h10⟩
    · have h7 := hf.lt' hk
      have h8 : id ≠ k := fun h => hne (by rw [← h]; rfl)
      rw [q3 k (by omega) (by omega)]; exact hk
/-- Nothing appended. -/
theorem append_none {P : Program} {ro : Ro} {h : T Obj} {v x : Value} {z nx lo : Nat} {t e : TypeId} {i : TypeInfo} {l : List (List Value)} (ho : OwnT h v z e l lo) (hx : Sl ro h x z []) (hu : und P t = some (.slice e)) (hi' : tin P e = some i) :
    appendV P ro h nx #[t, t] [v, x] = some (v, h, nx) := by
  obtain ⟨a, len, rfl⟩ : ∃ a len, v = .slice a len len := by
    rcases ho with ⟨rfl, _⟩ | ⟨id, _, rfl, _⟩
    · exact ⟨none, 0, rfl⟩
    · exact ⟨_, _, rfl⟩
  have hs : srcV P ro h e i.size i.bytes t x = some (0, []) := by
    rcases hx with ⟨rfl, _⟩ | ⟨a, cap, rfl, h2, h3, h4, h5⟩
    · simp only [srcV, hu]
    · have : cellsAt ro h a (0 * i.size) = some [] := by
        have : cellsAt ro h a (0 * z) = some [] := by simpa using h5
        rw [Nat.zero_mul] at this ⊢; exact this
      simp only [srcV, hu, List.length_nil, this, Option.bind]
  have hb : Nat.ble (len + 0) len = true := Nat.ble_eq_true_of_le (by omega)
  simp only [appendV, List.getElem?_toArray, List.getElem?_cons_zero, List.getElem?_cons_succ, hu, hi', Option.bind_some, hs, hb]
/-- A slice appended, of elements or of none. -/
theorem append_any {P : Program} {ro : Ro} {h : T Obj} {v x : Value} {z nx lo : Nat} {t e : TypeId} {i : TypeInfo} {zv : Value} {l m : List (List Value)} (ho : OwnT h v z e l lo) (hx : Sl ro h x z m) (hu : und P t = some (.slice e)) (hi' : tin P e = some i) (hz : i.size = z) (hz0 : 0 < z) (hzer : zer P e = some zv) (hzs : zv.cells.size = z)
    (hok : m.flatten.all cellOk = true) (hb : (l.length + m.length) * i.bytes ≤ big) (hb2 : l.length + m.length ≤ big) (hlo : lo ≤ nx) (hf : Fr h nx) :
    ∃ r h' n', appendV P ro h nx #[t, t] [v, x] = some (r, h', n') ∧ OwnT h' r z e (l ++ m) lo ∧ Kp v h h' ∧ nx ≤ n' ∧ Fr h' n' ∧ (sblk r = none ∨ sblk r = sblk v ∨ sblk r = some nx) := by
  cases m with
  | nil => exact ⟨v, h, nx, append_none ho hx hu hi', by rw [List.append_nil]; exact ho, (fun k o hk _ => hk), Nat.le_refl _, hf, .inr (.inl rfl)⟩
  | cons y m =>
    obtain ⟨h', q1, q2, q3, q4, q5⟩ := appendT (P := P) (t := t) ho hx hu hi' hz hz0 hzer hzs (by simp) hok hb hb2 hlo hf
    exact ⟨_, h', nx + 1, q1, q2, q3, by omega, q4, .inr (.inr rfl)⟩
/-- One element, written out, appended. -/
theorem append_lit {P : Program} {ro : Ro} {h : T Obj} {v w : Value} {z nx n1 n2 lo : Nat} {t e : TypeId} {i : TypeInfo} {zv : Value} {l : List (List Value)} {y : List Value} {K : Value × Option Obj → T Obj → Value × T Obj × Nat → Prop} (hlit : sliceLitV P t n1 1 [(0, w)] = some (.slice (some (own n1 z)) 1 1, some (.cells y.toArray e))) (hy : y.length = z) (ho : OwnT h v z e l lo)
    (hu : und P t = some (.slice e)) (hi' : tin P e = some i) (hz : i.size = z) (hz0 : 0 < z) (hzer : zer P e = some zv) (hzs : zv.cells.size = z) (hok : y.all cellOk = true) (hb : (l.length + 1) * i.bytes ≤ big) (hb2 : l.length + 1 ≤ big) (hf : Fr h nx) (hlo : lo ≤ nx) (hn1 : nx ≤ n1) (hn2 : n1 < n2)
    (hK : ∀ h', OwnT h' (.slice (some (own n2 z)) (l ++ [y]).length (l ++ [y]).length) z e (l ++ [y]) lo → Kp v h h' → Fr h' (n2 + 1) → K (.slice (some (own n1 z)) 1 1, some (.cells y.toArray e)) (h.upd n1 (some (.cells y.toArray e))) (.slice (some (own n2 z)) (l ++ [y]).length (l ++ [y]).length, h', n2 + 1)) :
    bindP (sliceLitV P t n1 1 [(0, w)]) fun r => optP h n1 r.2 fun h' => bindP (appendV P ro h' n2 #[t, t] [v, r.1]) (K r h') := by
  refine bindP_mk hlit (optP_mk ?_)
  have hs1 : Sub h (h.upd n1 (some (.cells y.toArray e))) := (Sub.refl h).new hf hn1
  have hf1 : Fr (h.upd n1 (some (.cells y.toArray e))) n2 := (hf.mono (show nx ≤ n2 by omega)).upd (Nat.le_refl _) hn2
  have hx1 : Sl ro (h.upd n1 (some (.cells y.toArray e))) (.slice (some (own n1 z)) 1 1) z [y] := Sl.own (l := [y]) (e := e) (f := (0, 0)) (by rw [T.get_upd_same]; simp) (by simpa using hy) (Nat.le_refl _)
  obtain ⟨h', q1, q2, q3, q4, q5⟩ := appendT (P := P) (t := t) (nx := n2) (ho.keepS hs1) hx1 hu hi' hz hz0 hzer hzs (by simp) (by simpa using hok) hb hb2 (by omega) hf1
  exact bindP_mk q1 (hK h' q2 (fun k o hk hv => q3 k o (hs1 k o hk) hv) q4)
end V
end Go.Proofs.Ytepbdkfkfcckoaa
