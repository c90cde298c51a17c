/- PC: texts of layer 2, for a seat of more.
   No condition. -/
import Derived.Test.YtmmdcdjkmakgpaaDO
set_option linter.unusedVariables false
set_option linter.unusedSimpArgs false
namespace Go.Proofs.Ytmmdcdjkmakgpaa
set_option maxRecDepth 20000
namespace V
open PA
theorem cls_getD {l : List Nat} {b : Nat} (hb : b < 256) : (cls l).getD b 0 = ix (sigs l) (sig l b) := by
  rw [List.getD_eq_getElem?_getD, cls_get hb]; rfl
theorem cls_eq {l : List Nat} {a b : Nat} (ha : a < 256) (hb : b < 256) : (cls l).getD a 0 = (cls l).getD b 0 ↔ sig l a = sig l b := by
  rw [cls_getD ha, cls_getD hb]
  constructor
  · intro h
    exact idx_inj (sig_mem ha) (sig_mem hb) h
  · intro h; rw [h]
theorem cls_many {l : List Nat} {b : Nat} (hb : b < 256) : (cls l).getD b 0 < many l := by rw [cls_getD hb]; exact cls_lt hb
theorem cls_bound {l : List Nat} : ∀ x ∈ cls l, x < 256 := by
  intro x hx
  obtain ⟨i, hi⟩ := List.mem_iff_getElem?.1 hx
  have hlt := (List.getElem?_eq_some_iff.1 hi).1
  rw [cls_length] at hlt
  rw [cls_get hlt] at hi
  have := cls_lt (l := l) hlt
  have := many_le l
  have := Option.some.inj hi
  omega
/-- What the least byte of a class is. -/
theorem lb_spec {c : List Nat} {k b : Nat} (hb : b < 256) (hk : c.getD b 0 = k) : lb c k 0 ≤ b ∧ c.getD (lb c k 0) 0 = k ∧ ∀ j, j < lb c k 0 → c.getD j 0 ≠ k := by
  have key : ∀ n i, i + n = 256 → i ≤ b → lb c k i ≤ b ∧ i ≤ lb c k i ∧ c.getD (lb c k i) 0 = k ∧ ∀ j, i ≤ j → j < lb c k i → c.getD j 0 ≠ k := by
    intro n
    induction n with
    | zero => intro i h1 h2; omega
    | succ n ih =>
      intro i h1 h2
      rw [lb_step (by omega)]
      by_cases h : c.getD i 0 = k
      · rw [if_pos h]; exact ⟨h2, Nat.le_refl _, h, fun j h3 h4 => by omega⟩
      · rw [if_neg h]
        have hib : i ≠ b := fun e => h (by rw [e]; exact hk)
        obtain ⟨q1, q2, q3, q4⟩ := ih (i + 1) (by omega) (by omega)
        refine ⟨q1, by omega, q3, fun j h3 h4 => ?_⟩
        rcases Nat.eq_or_lt_of_le h3 with e | e
        · subst e; exact h
        · exact q4 j e h4
  obtain ⟨q1, _, q3, q4⟩ := key 256 0 (by omega) (by omega)
  exact ⟨q1, q3, fun j hj => q4 j (by omega) hj⟩
/-- Each class has a byte. -/
theorem cls_has {l : List Nat} {k : Nat} (hk : k < many l) : ∃ b, b < 256 ∧ (cls l).getD b 0 = k := by
  have hm : (dd (sigs l))[k]'hk ∈ sigs l := mem_dd.1 (List.getElem_mem hk)
  obtain ⟨b, hb, e⟩ := List.mem_map.1 hm
  have hb := mem_bs.1 hb
  refine ⟨b, hb, ?_⟩
  rw [cls_getD hb, e]
  have h1 : (dd (sigs l))[k]? = some ((dd (sigs l))[k]'hk) := List.getElem?_eq_getElem hk
  unfold ix
  refine pos_of h1 fun j hj h2 => ?_
  have hn := nodup_dd (sigs l)
  have hj2 := (List.getElem?_eq_some_iff.1 h2).1
  rw [List.getElem?_eq_getElem hj2] at h2
  exact List.pairwise_iff_getElem.1 hn j k hj2 hk hj (Option.some.inj h2)
theorem lb_cls {l : List Nat} {k : Nat} (hk : k < many l) : lb (cls l) k 0 < 256 ∧ (cls l).getD (lb (cls l) k 0) 0 = k ∧ ∀ j, j < lb (cls l) k 0 → (cls l).getD j 0 ≠ k := by
  obtain ⟨b, hb, e⟩ := cls_has hk
  obtain ⟨h1, h2, h3⟩ := lb_spec hb e
  exact ⟨by omega, h2, h3⟩
theorem sigs_take_mem {l : List Nat} {i : Nat} {s : List Bool} (h : s ∈ (sigs l).take i) : ∃ j, j < i ∧ j < 256 ∧ sig l j = s := by
  obtain ⟨j, hj⟩ := List.mem_iff_getElem?.1 h
  rw [List.getElem?_take] at hj
  split at hj
  · rename_i hji
    have h1 := (List.getElem?_eq_some_iff.1 hj).1
    rw [sigs_length] at h1
    rw [sigs_get h1] at hj
    exact ⟨j, hji, h1, Option.some.inj hj⟩
  · cases hj
/-- A class' number is no greater than how many there are ahead. -/
theorem cls_le_ahead {l : List Nat} {i : Nat} (hi : i < 256) : (cls l).getD i 0 ≤ (dd ((sigs l).take i)).length := by
  have hsl : i < (sigs l).length := by rw [sigs_length]; exact hi
  have hse : (sigs l)[i] = sig l i := by have := sigs_get (l := l) hi; rw [List.getElem?_eq_getElem hsl] at this; exact Option.some.inj this
  have htake : (sigs l).take (i + 1) = (sigs l).take i ++ [sig l i] := by rw [List.take_succ_eq_append_getElem hsl, hse]
  have h2 := idx_stable (l := (sigs l).take (i + 1)) (m := (sigs l).drop (i + 1)) (p := sig l i) (by rw [htake]; simp)
  rw [List.take_append_drop] at h2
  rw [cls_getD hi, h2]
  have h3 := idx_lt (l := (sigs l).take (i + 1)) (p := sig l i) (by rw [htake]; simp)
  have h4 : (dd ((sigs l).take (i + 1))).length ≤ (dd ((sigs l).take i)).length + 1 := by rw [htake, dd_append]; exact addN_length _ _
  omega
/-- All classes ahead of a number have bytes ahead. -/
theorem cls_ahead {l : List Nat} {i k : Nat} (hi : i ≤ 256) (hk : k < (dd ((sigs l).take i)).length) : ∃ j, j < i ∧ (cls l).getD j 0 = k := by
  have hm : (dd ((sigs l).take i))[k]'hk ∈ (sigs l).take i := mem_dd.1 (List.getElem_mem hk)
  obtain ⟨j, h1, h2, h3⟩ := sigs_take_mem hm
  refine ⟨j, h1, ?_⟩
  have h4 := idx_stable (l := (sigs l).take i) (m := (sigs l).drop i) (p := sig l j) (by rw [h3]; exact hm)
  rw [List.take_append_drop] at h4
  rw [cls_getD h2, h4, h3]
  have h5 : (dd ((sigs l).take i))[k]? = some ((dd ((sigs l).take i))[k]'hk) := List.getElem?_eq_getElem hk
  unfold ix
  refine pos_of h5 fun q hq h6 => ?_
  have hn := nodup_dd ((sigs l).take i)
  have hq2 := (List.getElem?_eq_some_iff.1 h6).1
  rw [List.getElem?_eq_getElem hq2] at h6
  exact List.pairwise_iff_getElem.1 hn q k hq2 hk hq (Option.some.inj h6)
/-- Least bytes rise. -/
theorem lb_rises {l : List Nat} {j k : Nat} (hjk : j < k) (hk : k < many l) : lb (cls l) j 0 < lb (cls l) k 0 := by
  obtain ⟨h1, h2, h3⟩ := lb_cls hk
  have h4 := cls_le_ahead (l := l) h1
  rw [h2] at h4
  obtain ⟨q, h5, h6⟩ := cls_ahead (l := l) (i := lb (cls l) k 0) (k := j) (by omega) (by omega)
  have := (lb_spec (c := cls l) (k := j) (b := q) (by omega) h6).1
  omega
theorem many_pos (l : List Nat) : 0 < many l := by
  have := cls_many (l := l) (b := 0) (by omega)
  omega
theorem firstZ_cls (l : List Nat) : firstZ (cls l) (many l : Int) = (List.range (many l)).map fun k => lb (cls l) k 0 := by
  unfold firstZ
  have h1 := many_pos l
  have h2 := many_le l
  rw [if_neg (by omega)]; simp
/-- Classes are dealt in their order. -/
theorem rt_cls (l : List Nat) : ∀ i, i ≤ 256 → rt (cls l) i = some (dd ((sigs l).take i)).length := by
  intro i
  induction i with
  | zero => intro _; rfl
  | succ i ih =>
    intro hi
    simp only [rt, ih (by omega), Option.bind_some]
    have h1 := cls_le_ahead (l := l) (i := i) (by omega)
    rw [if_neg (by omega)]
    have hsl : i < (sigs l).length := by rw [sigs_length]; omega
    have hse : (sigs l)[i] = sig l i := by have := sigs_get (l := l) (b := i) (by omega); rw [List.getElem?_eq_getElem hsl] at this; exact Option.some.inj this
    have htake : (sigs l).take (i + 1) = (sigs l).take i ++ [sig l i] := by rw [List.take_succ_eq_append_getElem hsl, hse]
    rw [htake, dd_append]
    by_cases hm : sig l i ∈ dd ((sigs l).take i)
    · have h2 : (cls l).getD i 0 < (dd ((sigs l).take i)).length := by
        have h4 := idx_stable (l := (sigs l).take i) (m := (sigs l).drop i) (p := sig l i) (mem_dd.1 hm)
        rw [List.take_append_drop] at h4
        rw [cls_getD (by omega), h4]
        exact idx_lt (mem_dd.1 hm)
      rw [if_neg (by omega)]
      unfold addN; rw [if_pos hm]
    · have h2 : (cls l).getD i 0 = (dd ((sigs l).take i)).length := by
        have h4 := idx_stable (l := (sigs l).take (i + 1)) (m := (sigs l).drop (i + 1)) (p := sig l i) (by rw [htake]; simp)
        rw [List.take_append_drop] at h4
        rw [cls_getD (by omega), h4, htake, ix_new hm]
      rw [if_pos h2]
      unfold addN; rw [if_neg hm]; simp
theorem right_cls (l : List Nat) : rightB (cls l) (many l : Int) = true := by
  unfold rightB
  rw [rt_cls l 256 (Nat.le_refl _), List.take_of_length_le (by rw [sigs_length]; omega)]
  simp [many]
end V
end Go.Proofs.Ytmmdcdjkmakgpaa

