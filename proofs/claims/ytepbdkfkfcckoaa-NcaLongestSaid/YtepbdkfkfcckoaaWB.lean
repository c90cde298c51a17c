/- What was handed in, opened for the machine.
   No condition. -/
import Derived.Test.YtepbdkfkfcckoaaWA
import Derived.Test.YtepbdkfkfcckoaaWT
import Derived.Deep.Slices
set_option linter.unusedVariables false
set_option linter.unusedSimpArgs false
namespace Go.Proofs.Ytepbdkfkfcckoaa
namespace V
open Go.Deep
theorem roCells_append {ro : Ro} : ∀ {n m : Nat} {a : Addr} {l1 l2 : List Value}, a.spot = none → roCells ro a n = some l1 → roCells ro ⟨a.block, a.off + n, none⟩ m = some l2 → roCells ro a (n + m) = some (l1 ++ l2)
  | 0, m, a, l1, l2, hs, h1, h2 => by
    cases h1
    have : (⟨a.block, a.off + 0, none⟩ : Addr) = a := by cases a; simp_all
    rw [this] at h2
    simpa using h2
  | n + 1, m, a, l1, l2, hs, h1, h2 => by
    obtain ⟨v, g1, h1⟩ := bind_some' h1
    obtain ⟨r, g2, h1⟩ := bind_some' h1
    cases h1
    have ih := roCells_append (n := n) (m := m) (a := ⟨a.block, a.off + 1, none⟩) rfl g2 (by rw [show a.off + 1 + n = a.off + (n + 1) by omega]; exact h2)
    rw [show n + 1 + m = n + m + 1 by omega]
    simp [roCells, g1, ih]
section
variable {H : Type} {enc : TypeId × Value → H} {P : Program} {W : World}
theorem normL_get {N : Nat} : ∀ {l l' : List Value}, normL N l = some l' → ∀ {j : Nat} {y : Value}, l'[j]? = some y → ∃ x, l[j]? = some x ∧ norm N x = some y
  | [], l', h, j, y, hy => by cases h; simp at hy
  | v :: l, l', h, j, y, hy => by
    obtain ⟨v', h1, h⟩ := bind_some' h
    obtain ⟨r, h2, h⟩ := bind_some' h
    cases h
    cases j with
    | zero => simp at hy; subst hy; exact ⟨v, rfl, h1⟩
    | succ j =>
      obtain ⟨x, h3, h4⟩ := normL_get h2 (j := j) (by simpa using hy)
      exact ⟨x, by simpa using h3, h4⟩
theorem cells_ro {a : Addr} {n : Nat} {cs cs' : List Value} (h : W.cells? 0 a n = some cs) (hn : normL W.heap.size cs = some cs') (ha : a.spot = none) : roCells (roOf W) a n = some cs' := by
  obtain ⟨_, hlen, hg⟩ := World.cells?_some h
  have hl := (normL_lr (φ := fun _ => none) hn).length
  have := roCells_of (ro := roOf W) (l := cs') (a := a) ha fun j y hy => by
    obtain ⟨x, hx, hxy⟩ := normL_get hn hy
    have hj : j < n := by rw [← hlen, ← hl]; exact (List.getElem?_eq_some_iff.1 hy).1
    have hc := hg j hj
    rw [add_spot ha, hx] at hc
    have hb : a.block < W.heap.size := by
      rcases Nat.lt_or_ge a.block W.heap.size with h1 | h1
      · exact h1
      · simp [World.cell?, Array.getElem?_eq_none h1] at hc
    have hbb : Nat.blt a.block W.heap.size = true := by simp [Nat.blt]; omega
    simp only [roOf, hbb, hc, Option.bind, hxy]
  rw [hl, hlen] at this
  exact this
theorem norm_slice {N : Nat} {a : Addr} {l c : Nat} (hs : a.spot = none) (hb : a.block < N) (hc : 0 < c) : norm N (.slice (some a) l c) = some (.slice (some a) l c) := by
  have : Nat.blt a.block N = true := by simp [Nat.blt]; omega
  cases c with
  | zero => omega
  | succ c => cases l <;> simp [norm, hs, this]
theorem open_sl {t e : TypeId} {z : Nat} (ht : P.underlying t = some (.slice e)) (hz : P.cellsOf e = z) (hz0 : 0 < z) {fuel : Nat} {cs : List Value} {x : DataW H × List MemPlace} (h : DataW.trod enc P W 0 (fun _ => true) true fuel t cs = some x)
    {El : List Value → Prop} (hel : ∀ n cs' y, DataW.trod enc P W 0 (fun _ => true) true n e cs' = some y → ∃ cs'', normL W.heap.size cs' = some cs'' ∧ El cs'') :
    ∃ v v', cs = [v] ∧ norm W.heap.size v = some v' ∧ ∃ l, Sl (roOf W) .e v' z l ∧ ∀ x ∈ l, El x := by
  rcases open_slice ht h with ⟨rfl, _⟩ | ⟨a, len, cap, m, n, D, Pl, rfl, _, hle, _, hm, _, hx⟩
  · exact ⟨_, _, rfl, rfl, [], Sl.nil, fun x hx => by cases hx⟩
  · simp only [if_true] at hm
    subst hm
    refine ⟨.slice (some a) len m, ?_⟩
    rcases Nat.eq_zero_or_pos m with hc0 | hc0
    · subst hc0
      obtain rfl : len = 0 := by omega
      exact ⟨.slice (some noAddr) 0 0, rfl, rfl, [], .inr ⟨noAddr, 0, rfl, Nat.le_refl _, .inl rfl, by simp, by simp [cellsAt, noAddr, roCells]⟩, fun x hx => by cases hx⟩
    · have h0 : a.spot = none ∧ a.block < W.heap.size := by
        obtain ⟨cs', h1, _⟩ := hx 0 hc0
        rw [hz] at h1
        obtain ⟨_, hl, hg⟩ := World.cells?_some h1
        have h2 := hg 0 hz0
        have h3 : cs'[0]? = some (cs'[0]'(by omega)) := List.getElem?_eq_getElem (by omega)
        rw [h3] at h2
        have hsp : a.spot = none := by
          have := World.cell?_spot h2
          simpa [Addr.add] using this
        refine ⟨hsp, ?_⟩
        rcases Nat.lt_or_ge a.block W.heap.size with h4 | h4
        · exact h4
        · rw [add_spot hsp, add_spot rfl] at h2
          simp [World.cell?, Array.getElem?_eq_none h4] at h2
      obtain ⟨hs, hb⟩ := h0
      refine ⟨.slice (some a) len m, rfl, norm_slice hs hb hc0, ?_⟩
      have key : ∀ k, k ≤ len → ∃ l : List (List Value), l.length = k ∧ (∀ x ∈ l, x.length = z) ∧ (∀ x ∈ l, El x) ∧ roCells (roOf W) a (k * z) = some l.flatten := by
        intro k
        induction k with
        | zero => intro _; exact ⟨[], rfl, by simp, by simp, by simp [roCells]⟩
        | succ k ih =>
          intro hk
          obtain ⟨l, l1, l2, l3, l4⟩ := ih (by omega)
          obtain ⟨cs', h1, h2⟩ := hx k (by omega)
          rw [hz] at h1
          obtain ⟨cs'', h3, h4⟩ := hel _ _ _ h2
          have h5 := cells_ro h1 h3 (by rw [add_spot hs])
          have hlen : cs''.length = z := roCells_length h5
          rw [add_spot hs] at h5
          refine ⟨l ++ [cs''], by simp [l1], ?_, ?_, ?_⟩
          · intro x hx2
            rcases List.mem_append.1 hx2 with h6 | h6
            · exact l2 x h6
            · simp at h6; subst h6; exact hlen
          · intro x hx2
            rcases List.mem_append.1 hx2 with h6 | h6
            · exact l3 x h6
            · simp at h6; subst h6; exact h4
          · rw [Nat.succ_mul]
            have := roCells_append hs l4 h5
            simpa using this
      obtain ⟨l, l1, l2, l3, l4⟩ := key len (Nat.le_refl _)
      refine ⟨l, .inr ⟨a, m, by rw [l1], by omega, .inl hs, l2, ?_⟩, l3⟩
      unfold cellsAt
      rw [hs, l1]
      exact l4
end
end V
end Go.Proofs.Ytepbdkfkfcckoaa
