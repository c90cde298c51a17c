/- The law SplitWhole as the machine runs it.
   No condition. -/
import Derived.Test.YtnjdhgbepoefiaaCS
set_option linter.unusedVariables false
set_option linter.unusedSimpArgs false
namespace Go.Proofs.Ytnjdhgbepoefiaa
namespace V
open PA
theorem sig_bit {l : List Nat} {i a b : Nat} (hi : i < l.length) (h : sig l a = sig l b) : l[i].testBit a = l[i].testBit b := by
  have h1 : (sig l a)[i]? = some (l[i].testBit a) := by simp [sig, hi]
  have h2 : (sig l b)[i]? = some (l[i].testBit b) := by simp [sig, hi]
  rw [h, h2] at h1
  exact (Option.some.inj h1).symm
/-- A set has a class whole, or nothing of it. -/
theorem whole {x : List Nat} {i k : Nat} (hi : i < x.length) (hk : k < many x) : (listS (andS [x[i], clsS (cls x) (k : Int)])).length = 0 ∨ (listS (andS [x[i], clsS (cls x) (k : Int)])).length = (mem (cls x) (k : Int) 256).length := by
  obtain ⟨p1, p2, p3⟩ := lb_cls hk
  have hbit : ∀ b, b < 256 → (cls x).getD b 0 = k → x[i].testBit b = x[i].testBit (lb (cls x) k 0) := fun b hb hbk => sig_bit hi ((cls_eq hb p1).1 (by rw [hbk, p2]))
  cases hw : x[i].testBit (lb (cls x) k 0) with
  | false =>
    left
    have : listS (andS [x[i], clsS (cls x) (k : Int)]) = [] := by
      unfold listS lst
      rw [List.filter_eq_nil_iff]
      intro b hb
      have hb := List.mem_range.1 hb
      rw [andS_bit hb, clsS_bit hb]
      by_cases hbk : (cls x).getD b 0 = k
      · rw [hbit b hb hbk, hw]; simp
      · rw [decide_eq_false hbk]; simp
    rw [this]; rfl
  | true =>
    right
    have : listS (andS [x[i], clsS (cls x) (k : Int)]) = mem (cls x) (k : Int) 256 := by
      unfold listS lst mem
      apply List.filter_congr
      intro b hb
      have hb := List.mem_range.1 hb
      rw [andS_bit hb, clsS_bit hb]
      by_cases hbk : (cls x).getD b 0 = k
      · rw [hbit b hb hbk, hw, decide_eq_true hbk, decide_eq_true (by rw [hbk])]; rfl
      · rw [decide_eq_false hbk, decide_eq_false (by omega)]; simp
    rw [this]
def sumTo (c : List Nat) (i k : Nat) : Nat := ((List.range k).map fun (j : Nat) => (mem c (j : Int) i).length).sum
theorem sumTo_succ (c : List Nat) (i k : Nat) : sumTo c i (k + 1) = sumTo c i k + (mem c (k : Int) i).length := by
  unfold sumTo
  rw [List.range_succ, List.map_append, List.sum_append]; simp
theorem sumTo_step (c : List Nat) (i k : Nat) : sumTo c (i + 1) k = sumTo c i k + (if c.getD i 0 < k then 1 else 0) := by
  induction k with
  | zero => rw [if_neg (by omega)]; rfl
  | succ k ih =>
    rw [sumTo_succ, sumTo_succ, ih, mem_succ]
    by_cases h : c.getD i 0 = k
    · have e1 : ¬ c.getD i 0 < k := by omega
      have e2 : c.getD i 0 < k + 1 := by omega
      have e3 : ((c.getD i 0 : Nat) : Int) = (k : Int) := by rw [h]
      rw [if_neg e1, if_pos e3, if_pos e2, List.length_append, List.length_singleton]
      omega
    · rw [if_neg (show ¬ ((c.getD i 0 : Nat) : Int) = (k : Int) by omega), List.append_nil]
      by_cases h2 : c.getD i 0 < k
      · rw [if_pos h2, if_pos (by omega)]; omega
      · rw [if_neg h2, if_neg (by omega)]; omega
theorem sum_all (l : List Nat) : sumTo (cls l) 256 (many l) = 256 := by
  have key : ∀ i, i ≤ 256 → sumTo (cls l) i (many l) = i := by
    intro i
    induction i with
    | zero =>
      intro _
      have : ∀ k, sumTo (cls l) 0 k = 0 := by
        intro k
        induction k with
        | zero => rfl
        | succ k ih => rw [sumTo_succ, ih]; rfl
      exact this _
    | succ i ih => intro hi; rw [sumTo_step, ih (by omega), if_pos (cls_many (by omega))]
  exact key 256 (Nat.le_refl _)
theorem sumTo_le (l : List Nat) (k : Nat) : sumTo (cls l) 256 k ≤ 256 * k := by
  induction k with
  | zero => exact Nat.zero_le _
  | succ k ih => rw [sumTo_succ]; have := mem_len (cls l) (k : Int) 256; omega
theorem mem_pos {x : List Nat} {k : Nat} (hk : k < many x) : 0 < (mem (cls x) (k : Int) 256).length := by
  obtain ⟨p1, p2, p3⟩ := lb_cls hk
  have : lb (cls x) k 0 ∈ mem (cls x) (k : Int) 256 := by
    unfold mem
    rw [List.mem_filter]
    exact ⟨List.mem_range.2 p1, decide_eq_true (by rw [p2])⟩
  exact List.length_pos_of_mem this
theorem or_all (x : List Nat) : orS ((List.range (many x)).map fun (k : Nat) => clsS (cls x) (k : Int)) = ofBytes 0 (span 0 256) := by
  have hs : ∀ b, b < 256 → (ofBytes 0 (span 0 256)).testBit b = true := fun b hb => by
    rw [testBit_ofBytes]
    have : b ∈ span 0 256 := by unfold span; exact List.mem_map.2 ⟨b, List.mem_range.2 hb, by omega⟩
    rw [decide_eq_true this]; simp
  refine set_ext (orS_lt _) (ofBytes_lt (by decide) fun b hb => ?_) fun b hb => ?_
  · unfold span at hb
    obtain ⟨q, hq, rfl⟩ := List.mem_map.1 hb
    have := List.mem_range.1 hq
    omega
  · rw [hs b hb, orS_bit hb]
    unfold anyB
    rw [List.any_eq_true]
    refine ⟨clsS (cls x) ((cls x).getD b 0 : Nat), List.mem_map.2 ⟨_, List.mem_range.2 (cls_many hb), rfl⟩, ?_⟩
    rw [clsS_bit hb]; simp
end V
end Go.Proofs.Ytnjdhgbepoefiaa
