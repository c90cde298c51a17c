/- Sets of bytes as numbers; numbering by first appearance. Plain: no program in sight.
   No condition. -/

set_option linter.unusedVariables false
set_option linter.unusedSimpArgs false
namespace Go.Proofs.Ytmmdcdjkmakgpaa
namespace PA
/-! ### Sets of bytes as numbers -/
def word (m i : Nat) : Nat := m / 2 ^ (64 * i) % 2 ^ 64
theorem word_lt (m i : Nat) : word m i < 18446744073709551616 := by unfold word; exact Nat.mod_lt _ (by decide)
theorem testBit_word (m i j : Nat) : (word m i).testBit j = (decide (j < 64) && m.testBit (64 * i + j)) := by
  unfold word
  rw [Nat.testBit_mod_two_pow, Nat.testBit_div_two_pow, Nat.add_comm]
theorem word_has (m b : Nat) : (word m (b / 64) / 2 ^ (b % 64) % 2 = 1) ↔ m.testBit b = true := by
  have h := testBit_word m (b / 64) (b % 64)
  rw [Nat.testBit_eq_decide_div_mod_eq] at h
  have h1 : b % 64 < 64 := Nat.mod_lt _ (by decide)
  rw [Nat.div_add_mod] at h
  simp only [h1, decide_true, Bool.true_and] at h
  rw [← h]; simp
theorem word_or (m b i : Nat) : word (m ||| 2 ^ b) i = if i = b / 64 then word m i ||| 2 ^ (b % 64) else word m i := by
  apply Nat.eq_of_testBit_eq
  intro j
  rw [testBit_word, Nat.testBit_or, Nat.testBit_two_pow]
  by_cases h : i = b / 64
  · rw [if_pos h, Nat.testBit_or, testBit_word, Nat.testBit_two_pow]
    subst h
    by_cases hj : j < 64
    · have : (b = 64 * (b / 64) + j) ↔ (b % 64 = j) := by omega
      simp [hj, this]
    · have : ¬ (b % 64 = j) := by have := Nat.mod_lt b (show 64 > 0 by decide); omega
      simp [hj, this]
  · rw [if_neg h, testBit_word]
    by_cases hj : j < 64
    · have : ¬ (b = 64 * i + j) := by omega
      simp [hj, this]
    · simp [hj]
theorem pow_mul_or (k a b : Nat) : 2 ^ k * (a ||| b) = 2 ^ k * a ||| 2 ^ k * b := by
  apply Nat.eq_of_testBit_eq
  intro j
  simp only [Nat.testBit_or, Nat.testBit_two_pow_mul]
  cases decide (j ≥ k) <;> simp
theorem even_or_one {a : Nat} (h : a % 2 = 0) : a ||| 1 = a + 1 := by
  have h2 : a = 2 ^ 1 * (a / 2) := by omega
  have := Nat.two_pow_add_eq_or_of_lt (show 1 < 2 ^ 1 by decide) (a / 2)
  rw [← h2] at this; exact this.symm
theorem add_pow {x k : Nat} (h : x.testBit k = false) : x + 2 ^ k = x ||| 2 ^ k := by
  have hr : x % 2 ^ k < 2 ^ k := Nat.mod_lt _ (Nat.two_pow_pos k)
  have ha : (x / 2 ^ k) % 2 = 0 := by
    rw [Nat.testBit_eq_decide_div_mod_eq] at h
    have : ¬ (x / 2 ^ k % 2 = 1) := by simpa using h
    omega
  have e1 := Nat.two_pow_add_eq_or_of_lt hr (x / 2 ^ k)
  have e2 := Nat.two_pow_add_eq_or_of_lt hr (x / 2 ^ k + 1)
  have e0 : 2 ^ k * (x / 2 ^ k) + x % 2 ^ k = x := Nat.div_add_mod _ _
  have e3 : x + 2 ^ k = 2 ^ k * (x / 2 ^ k + 1) + x % 2 ^ k := by rw [Nat.mul_add, Nat.mul_one]; omega
  have e4 : 2 ^ k * (x / 2 ^ k + 1) = 2 ^ k * (x / 2 ^ k) ||| 2 ^ k := by
    rw [← even_or_one ha, pow_mul_or, Nat.mul_one]
  have hx : x ||| 2 ^ k = (2 ^ k * (x / 2 ^ k) ||| x % 2 ^ k) ||| 2 ^ k := by rw [← e1, e0]
  rw [e3, e2, e4, hx, Nat.or_assoc, Nat.or_comm (2 ^ k) (x % 2 ^ k), ← Nat.or_assoc]
theorem or_pow_self {x k : Nat} (h : x.testBit k = true) : x ||| 2 ^ k = x := by
  apply Nat.eq_of_testBit_eq
  intro j
  rw [Nat.testBit_or, Nat.testBit_two_pow]
  by_cases e : k = j
  · subst e; simp [h]
  · simp [e]
theorem or_lt_256 {m b : Nat} (hm : m < 2 ^ 256) (hb : b < 256) : m ||| 2 ^ b < 2 ^ 256 := Nat.or_lt_two_pow hm (Nat.pow_lt_pow_right (by decide) hb)
theorem set_ext {m n : Nat} (hm : m < 2 ^ 256) (hn : n < 2 ^ 256) (h : ∀ b, b < 256 → m.testBit b = n.testBit b) : m = n := by
  apply Nat.eq_of_testBit_eq
  intro j
  by_cases hj : j < 256
  · exact h j hj
  · rw [Nat.testBit_lt_two_pow (Nat.lt_of_lt_of_le hm (Nat.pow_le_pow_right (by decide) (by omega))), Nat.testBit_lt_two_pow (Nat.lt_of_lt_of_le hn (Nat.pow_le_pow_right (by decide) (by omega)))]
theorem word_ext {m n : Nat} (hm : m < 2 ^ 256) (hn : n < 2 ^ 256) (h : ∀ i, i < 4 → word m i = word n i) : m = n := by
  refine set_ext hm hn fun b hb => ?_
  have h1 := testBit_word m (b / 64) (b % 64)
  have h2 := testBit_word n (b / 64) (b % 64)
  rw [h (b / 64) (by omega), h2, Nat.div_add_mod] at h1
  have h3 : b % 64 < 64 := Nat.mod_lt _ (by decide)
  simpa [h3] using h1.symm
/-- A set out of four words. -/
def ofWords (a b c d : Nat) : Nat := a + 2 ^ 64 * b + 2 ^ 128 * c + 2 ^ 192 * d
theorem ofWords_lt {a b c d : Nat} (ha : a < 2 ^ 64) (hb : b < 2 ^ 64) (hc : c < 2 ^ 64) (hd : d < 2 ^ 64) : ofWords a b c d < 2 ^ 256 := by unfold ofWords; omega
theorem word_ofWords {a b c d : Nat} (ha : a < 2 ^ 64) (hb : b < 2 ^ 64) (hc : c < 2 ^ 64) (hd : d < 2 ^ 64) :
    word (ofWords a b c d) 0 = a ∧ word (ofWords a b c d) 1 = b ∧ word (ofWords a b c d) 2 = c ∧ word (ofWords a b c d) 3 = d := by
  unfold word ofWords
  simp only [Nat.reduceMul, Nat.reducePow, Nat.div_one]
  omega
end PA
end Go.Proofs.Ytmmdcdjkmakgpaa
