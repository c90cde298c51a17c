/- Texts laid one behind the other: PA, PB, CA, NA, NB, NC, ND, NE.
   No condition. -/
import Derived.Test.YtepbdkfkfcckoaaV3
import Derived.Test.YtepbdkfkfcckoaaG
import Derived.Test.YtepbdkfkfcckoaaW1
/- Sets of bytes as numbers; numbering by first appearance. Plain: no program in sight.
   No condition. -/
set_option linter.unusedVariables false
set_option linter.unusedSimpArgs false
namespace Go.Proofs.Ytepbdkfkfcckoaa
namespace PA
/-! ### Sets of bytes as numbers -/
def word (m i : Nat) : Nat := m / 2 ^ (64 * i) % 2 ^ 64
theorem word_lt (m i : Nat) : word m i < 18446744073709551616 := by unfold word; exact Nat.mod_lt _ (by decide)
theorem testBit_word (m i j : Nat) : (word m i).testBit j = (decide (j < 64) && m.testBit (64 * i + j)) := by
  unfold word
  rw [Nat.testBit_mod_two_pow, Nat.testBit_div_two_pow, Nat.add_comm]
theorem word_has (m b : Nat) : (word m (b / 64) / 2 ^ (b % 64) % 2 = 1) ↔ m.testBit b = true := by
  have h := testBit_word m (b / 64) (b % 64)
  rw [Nat.testBit_eq_decide_div_mod_eq] at h
  have h1 : b % 64 < 64 := Nat.mod_lt _ (by decide)
  rw [Nat.div_add_mod] at h
  simp only [h1, decide_true, Bool.true_and] at h
  rw [← h]; simp
theorem word_or (m b i : Nat) : word (m ||| 2 ^ b) i = if i = b / 64 then word m i ||| 2 ^ (b % 64) else word m i := by
  apply Nat.eq_of_testBit_eq
  intro j
  rw [testBit_word, Nat.testBit_or, Nat.testBit_two_pow]
  by_cases h : i = b / 64
  · rw [if_pos h, Nat.testBit_or, testBit_word, Nat.testBit_two_pow]
    subst h
    by_cases hj : j < 64
    · have : (b = 64 * (b / 64) + j) ↔ (b % 64 = j) := by omega
      simp [hj, this]
    · have : ¬ (b % 64 = j) := by have := Nat.mod_lt b (show 64 > 0 by decide); omega
      simp [hj, this]
  · rw [if_neg h, testBit_word]
    by_cases hj : j < 64
    · have : ¬ (b = 64 * i + j) := by omega
      simp [hj, this]
    · simp [hj]
theorem pow_mul_or (k a b : Nat) : 2 ^ k * (a ||| b) = 2 ^ k * a ||| 2 ^ k * b := by
  apply Nat.eq_of_testBit_eq
  intro j
  simp only [Nat.testBit_or, Nat.testBit_two_pow_mul]
  cases decide (j ≥ k) <;> simp
theorem even_or_one {a : Nat} (h : a % 2 = 0) : a ||| 1 = a + 1 := by
  have h2 : a = 2 ^ 1 * (a / 2) := by omega
  have := Nat.two_pow_add_eq_or_of_lt (show 1 < 2 ^ 1 by decide) (a / 2)
  rw [← h2] at this; exact this.symm
theorem add_pow {x k : Nat} (h : x.testBit k = false) : x + 2 ^ k = x ||| 2 ^ k := by
  have hr : x % 2 ^ k < 2 ^ k := Nat.mod_lt _ (Nat.two_pow_pos k)
  have ha : (x / 2 ^ k) % 2 = 0 := by
    rw [Nat.testBit_eq_decide_div_mod_eq] at h
    have : ¬ (x / 2 ^ k % 2 = 1) := by simpa using h
    omega
  have e1 := Nat.two_pow_add_eq_or_of_lt hr (x / 2 ^ k)
  have e2 := Nat.two_pow_add_eq_or_of_lt hr (x / 2 ^ k + 1)
  have e0 : 2 ^ k * (x / 2 ^ k) + x % 2 ^ k = x := Nat.div_add_mod _ _
  have e3 : x + 2 ^ k = 2 ^ k * (x / 2 ^ k + 1) + x % 2 ^ k := by rw [Nat.mul_add, Nat.mul_one]; omega
  have e4 : 2 ^ k * (x / 2 ^ k + 1) = 2 ^ k * (x / 2 ^ k) ||| 2 ^ k := by
    rw [← even_or_one ha, pow_mul_or, Nat.mul_one]
  have hx : x ||| 2 ^ k = (2 ^ k * (x / 2 ^ k) ||| x % 2 ^ k) ||| 2 ^ k := by rw [← e1, e0]
  rw [e3, e2, e4, hx, Nat.or_assoc, Nat.or_comm (2 ^ k) (x % 2 ^ k), ← Nat.or_assoc]
theorem or_pow_self {x k : Nat} (h : x.testBit k = true) : x ||| 2 ^ k = x := by
  apply Nat.eq_of_testBit_eq
  intro j
  rw [Nat.testBit_or, Nat.testBit_two_pow]
  by_cases e : k = j
  · subst e; simp [h]
  · simp [e]
theorem or_lt_256 {m b : Nat} (hm : m < 2 ^ 256) (hb : b < 256) : m ||| 2 ^ b < 2 ^ 256 := Nat.or_lt_two_pow hm (Nat.pow_lt_pow_right (by decide) hb)
theorem set_ext {m n : Nat} (hm : m < 2 ^ 256) (hn : n < 2 ^ 256) (h : ∀ b, b < 256 → m.testBit b = n.testBit b) : m = n := by
  apply Nat.eq_of_testBit_eq
  intro j
  by_cases hj : j < 256
  · exact h j hj
  · rw [Nat.testBit_lt_two_pow (Nat.lt_of_lt_of_le hm (Nat.pow_le_pow_right (by decide) (by omega))), Nat.testBit_lt_two_pow (Nat.lt_of_lt_of_le hn (Nat.pow_le_pow_right (by decide) (by omega)))]
theorem word_ext {m n : Nat} (hm : m < 2 ^ 256) (hn : n < 2 ^ 256) (h : ∀ i, i < 4 → word m i = word n i) : m = n := by
  refine set_ext hm hn fun b hb => ?_
  have h1 := testBit_word m (b / 64) (b % 64)
  have h2 := testBit_word n (b / 64) (b % 64)
  rw [h (b / 64) (by omega), h2, Nat.div_add_mod] at h1
  have h3 : b % 64 < 64 := Nat.mod_lt _ (by decide)
  simpa [h3] using h1.symm
/-- A set out of four words. -/
def ofWords (a b c d : Nat) : Nat := a + 2 ^ 64 * b + 2 ^ 128 * c + 2 ^ 192 * d
theorem ofWords_lt {a b c d : Nat} (ha : a < 2 ^ 64) (hb : b < 2 ^ 64) (hc : c < 2 ^ 64) (hd : d < 2 ^ 64) : ofWords a b c d < 2 ^ 256 := by unfold ofWords; omega
theorem word_ofWords {a b c d : Nat} (ha : a < 2 ^ 64) (hb : b < 2 ^ 64) (hc : c < 2 ^ 64) (hd : d < 2 ^ 64) :
    word (ofWords a b c d) 0 = a ∧ word (ofWords a b c d) 1 = b ∧ word (ofWords a b c d) 2 = c ∧ word (ofWords a b c d) 3 = d := by
  unfold word ofWords
  simp only [Nat.reduceMul, Nat.reducePow, Nat.div_one]
  omega
end PA
end Go.Proofs.Ytepbdkfkfcckoaa

/- Numbering by first appearance. Plain: no program in sight.
   No condition. -/
set_option linter.unusedVariables false
set_option linter.unusedSimpArgs false
namespace Go.Proofs.Ytepbdkfkfcckoaa
namespace PA
section
variable {α β : Type} [DecidableEq α] [DecidableEq β]
/-- One more, if it is not there. -/
def addN (s : List α) (p : α) : List α := if p ∈ s then s else s ++ [p]
/-- Each once, in the order of first appearance. -/
def dd (l : List α) : List α := l.foldl addN []
def pos (s : List α) (p : α) : Nat := s.idxOf p
theorem pos_self (s : List α) (p : α) : pos (p :: s) p = 0 := by simp [pos]
theorem pos_ne {s : List α} {p q : α} (h : q ≠ p) : pos (q :: s) p = pos s p + 1 := by
  unfold pos; rw [List.idxOf_cons, beq_eq_false_iff_ne.2 h]; rfl
theorem pos_of {s : List α} {p : α} {k : Nat} (hk : s[k]? = some p) (hn : ∀ j, j < k → s[j]? ≠ some p) : pos s p = k := by
  induction s generalizing k with
  | nil => simp at hk
  | cons q s ih =>
    cases k with
    | zero => simp at hk; subst hk; exact pos_self _ _
    | succ k =>
      have h0 := hn 0 (by omega)
      rw [pos_ne (fun e => h0 (by simp [e]))]
      rw [ih (by simpa using hk) fun j hj => by have := hn (j + 1) (by omega); simpa using this]
/-- The place of first appearance. -/
def ix (l : List α) (p : α) : Nat := pos (dd l) p
def num (l : List α) : List Nat := l.map (ix l)
theorem dd_append (l : List α) (p : α) : dd (l ++ [p]) = addN (dd l) p := by simp [dd]
theorem mem_addN {s : List α} {p q : α} : q ∈ addN s p ↔ q ∈ s ∨ q = p := by
  unfold addN
  by_cases h : p ∈ s
  · rw [if_pos h]
    constructor
    · exact .inl
    · rintro (h1 | rfl)
      · exact h1
      · exact h
  · rw [if_neg h]; simp
theorem mem_fold {l s : List α} {q : α} : q ∈ l.foldl addN s ↔ q ∈ s ∨ q ∈ l := by
  induction l generalizing s with
  | nil => simp
  | cons p l ih => rw [List.foldl_cons, ih, mem_addN]; simp [or_assoc]
theorem mem_dd {l : List α} {q : α} : q ∈ dd l ↔ q ∈ l := by unfold dd; rw [mem_fold]; simp
theorem addN_prefix (s : List α) (p : α) : ∃ r, addN s p = s ++ r := by
  unfold addN
  by_cases h : p ∈ s
  · exact ⟨[], by rw [if_pos h]; simp⟩
  · exact ⟨[p], by rw [if_neg h]⟩
theorem fold_prefix (l s : List α) : ∃ r, l.foldl addN s = s ++ r := by
  induction l generalizing s with
  | nil => exact ⟨[], by simp⟩
  | cons p l ih =>
    obtain ⟨r, h⟩ := addN_prefix s p
    obtain ⟨r', h'⟩ := ih (addN s p)
    exact ⟨r ++ r', by rw [List.foldl_cons, h', h, List.append_assoc]⟩
theorem dd_prefix (l m : List α) : ∃ r, dd (l ++ m) = dd l ++ r := by
  unfold dd
  rw [List.foldl_append]
  exact fold_prefix m _
theorem idx_stable {l m : List α} {p : α} (h : p ∈ l) : ix (l ++ m) p = ix l p := by
  unfold ix pos
  obtain ⟨r, hr⟩ := dd_prefix l m
  rw [hr, List.idxOf_append, if_pos (mem_dd.2 h)]
theorem addN_length (s : List α) (p : α) : (addN s p).length ≤ s.length + 1 := by
  unfold addN
  by_cases h : p ∈ s
  · rw [if_pos h]; omega
  · rw [if_neg h]; simp
theorem fold_length (l s : List α) : (l.foldl addN s).length ≤ s.length + l.length := by
  induction l generalizing s with
  | nil => simp
  | cons p l ih => rw [List.foldl_cons]; have := ih (addN s p); have := addN_length s p; simp; omega
theorem dd_length (l : List α) : (dd l).length ≤ l.length := by have := fold_length l []; unfold dd; simpa using this
theorem idx_lt {l : List α} {p : α} (h : p ∈ l) : ix l p < (dd l).length := List.idxOf_lt_length_iff.2 (mem_dd.2 h)
theorem ix_new {l : List α} {p : α} (h : ¬ p ∈ dd l) : ix (l ++ [p]) p = (dd l).length := by
  unfold ix pos
  rw [dd_append]
  unfold addN
  rw [if_neg h, List.idxOf_append, if_neg h]
  simp
theorem get_idx {l : List α} {p : α} (h : p ∈ l) : (dd l)[ix l p]? = some p := by
  have h1 := idx_lt h
  unfold ix pos at h1 ⊢
  rw [List.getElem?_eq_getElem h1, List.getElem_idxOf]
theorem idx_inj {l : List α} {p q : α} (hp : p ∈ l) (hq : q ∈ l) (h : ix l p = ix l q) : p = q := by
  have h1 := get_idx hp
  rw [h, get_idx hq] at h1
  exact (Option.some.inj h1).symm
theorem nodup_addN {s : List α} {p : α} (h : s.Nodup) : (addN s p).Nodup := by
  unfold addN
  by_cases hp : p ∈ s
  · rw [if_pos hp]; exact h
  · rw [if_neg hp]
    rw [List.nodup_append]
    refine ⟨h, by simp, ?_⟩
    intro a ha b hb e
    simp at hb
    subst hb; subst e
    exact hp ha
theorem nodup_dd (l : List α) : (dd l).Nodup := by
  have key : ∀ (l s : List α), s.Nodup → (l.foldl addN s).Nodup := by
    intro l
    induction l with
    | nil => intro s h; exact h
    | cons p l ih => intro s h; exact ih _ (nodup_addN h)
  exact key l [] (by simp)
theorem num_length (l : List α) : (num l).length = l.length := by simp [num]
theorem num_get {l : List α} {i : Nat} (hi : i < l.length) : (num l)[i]? = some (ix l l[i]) := by simp [num, hi]
/-- Numbering goes by likeness alone. -/
theorem dd_map {f : α → β} {l : List α} (hf : ∀ a ∈ l, ∀ b ∈ l, f a = f b → a = b) : dd (l.map f) = (dd l).map f := by
  have key : ∀ (m s : List α), (∀ a ∈ s ++ m, ∀ b ∈ s ++ m, f a = f b → a = b) → (m.map f).foldl addN (s.map f) = (m.foldl addN s).map f := by
    intro m
    induction m with
    | nil => intro s _; rfl
    | cons p m ih =>
      intro s h
      rw [List.map_cons, List.foldl_cons, List.foldl_cons]
      have e : addN (s.map f) (f p) = (addN s p).map f := by
        unfold addN
        by_cases hp : p ∈ s
        · rw [if_pos hp, if_pos (List.mem_map_of_mem hp)]
        · have : ¬ f p ∈ s.map f := by
            intro hm
            obtain ⟨q, hq, e⟩ := List.mem_map.1 hm
            have := h q (by simp [hq]) p (by simp) e
            subst this; exact hp hq
          rw [if_neg hp, if_neg this]; simp
      rw [e]
      refine ih _ fun a ha b hb => h a ?_ b ?_
      · rw [List.mem_append, mem_addN] at ha; simp; grind
      · rw [List.mem_append, mem_addN] at hb; simp; grind
  have := key l [] (by simpa using hf)
  simpa [dd] using this
theorem idxOf_map {f : α → β} {s : List α} {p : α} (hf : ∀ a ∈ s, f a = f p → a = p) : (s.map f).idxOf (f p) = s.idxOf p := by
  induction s with
  | nil => rfl
  | cons a s ih =>
    rw [List.map_cons, List.idxOf_cons, List.idxOf_cons]
    by_cases e : a = p
    · subst e; simp
    · have : ¬ f a = f p := fun h => e (hf a (by simp) h)
      rw [beq_eq_false_iff_ne.2 e, beq_eq_false_iff_ne.2 this, ih fun a ha => hf a (by simp [ha])]
theorem num_map {f : α → β} {l : List α} (hf : ∀ a ∈ l, ∀ b ∈ l, f a = f b → a = b) : num (l.map f) = num l := by
  unfold num ix pos
  rw [dd_map hf, List.map_map]
  refine List.map_congr_left fun p hp => ?_
  exact idxOf_map fun a ha e => hf a (mem_dd.1 ha) p hp e
theorem dd_map_length {f : α → β} {l : List α} (hf : ∀ a ∈ l, ∀ b ∈ l, f a = f b → a = b) : (dd (l.map f)).length = (dd l).length := by rw [dd_map hf]; simp
end
/-! ### Bytes dealt to classes -/
/-- All bytes. -/
@[irreducible] def bs : List Nat := List.range 256
theorem bs_length : bs.length = 256 := by unfold bs; simp
theorem mem_bs {b : Nat} : b ∈ bs ↔ b < 256 := by unfold bs; exact List.mem_range
theorem bs_get {b : Nat} (hb : b < 256) : bs[b]? = some b := by unfold bs; rw [List.getElem?_range hb]
def sig (l : List Nat) (b : Nat) : List Bool := l.map fun s => s.testBit b
def sigs (l : List Nat) : List (List Bool) := bs.map (sig l)
/-- The classes of all bytes, and how many there are. -/
def cls (l : List Nat) : List Nat := num (sigs l)
def many (l : List Nat) : Nat := (dd (sigs l)).length
/-- What a set makes of classes. -/
def pairs (c : List Nat) (x : Nat) : List (Nat × Bool) := bs.map fun b => (c.getD b 0, x.testBit b)
theorem sigs_length (l : List Nat) : (sigs l).length = 256 := by rw [sigs, List.length_map, bs_length]
theorem cls_length (l : List Nat) : (cls l).length = 256 := by rw [cls, num_length, sigs_length]
theorem sig_mem {l : List Nat} {b : Nat} (hb : b < 256) : sig l b ∈ sigs l := List.mem_map_of_mem (mem_bs.2 hb)
theorem sigs_get {l : List Nat} {b : Nat} (hb : b < 256) : (sigs l)[b]? = some (sig l b) := by rw [sigs, List.getElem?_map, bs_get hb]; rfl
theorem cls_get {l : List Nat} {b : Nat} (hb : b < 256) : (cls l)[b]? = some (ix (sigs l) (sig l b)) := by
  rw [cls, num, List.getElem?_map, sigs_get hb]; rfl
theorem sig_snoc (l : List Nat) (x b : Nat) : sig (l ++ [x]) b = sig l b ++ [x.testBit b] := by simp [sig]
theorem cls_step (l : List Nat) (x : Nat) : num (pairs (cls l) x) = cls (l ++ [x]) ∧ (dd (pairs (cls l) x)).length = many (l ++ [x]) := by
  let f : List Bool → Nat × Bool := fun s => (ix (sigs l) s.dropLast, s.getLastD false)
  have e : pairs (cls l) x = (sigs (l ++ [x])).map f := by
    unfold pairs
    rw [sigs, List.map_map]
    refine List.map_congr_left fun b hb => ?_
    have hb := mem_bs.1 hb
    simp only [Function.comp, f, sig_snoc]
    rw [List.dropLast_concat, List.getLastD_concat, List.getD_eq_getElem?_getD, cls_get hb]
    rfl
  have hf : ∀ a ∈ sigs (l ++ [x]), ∀ b ∈ sigs (l ++ [x]), f a = f b → a = b := by
    intro a ha b hb h
    obtain ⟨i, hi, rfl⟩ := List.mem_map.1 ha
    obtain ⟨j, hj, rfl⟩ := List.mem_map.1 hb
    simp only [f, sig_snoc, List.dropLast_concat, List.getLastD_concat, Prod.mk.injEq] at h
    have := idx_inj (l := sigs l) (sig_mem (mem_bs.1 hi)) (sig_mem (mem_bs.1 hj)) h.1
    rw [sig_snoc, sig_snoc, this, h.2]
  rw [e, num_map hf, dd_map_length hf]
  exact ⟨rfl, rfl⟩
theorem many_le (l : List Nat) : many l ≤ 256 := by have := dd_length (sigs l); rw [sigs_length] at this; exact this
theorem cls_lt {l : List Nat} {b : Nat} (hb : b < 256) : ix (sigs l) (sig l b) < many l := idx_lt (sig_mem hb)
theorem sigs_nil : sigs [] = List.replicate 256 [] := by
  have : sigs [] = bs.map (fun _ => ([] : List Bool)) := rfl
  rw [this, List.map_const', bs_length]
theorem dd_rep (a : List Bool) : dd (List.replicate 256 a) = [a] := by
  have key : ∀ n, (List.replicate n a).foldl addN [a] = [a] := by
    intro n
    induction n with
    | zero => rfl
    | succ n ih => rw [List.replicate_succ, List.foldl_cons]; unfold addN at ih ⊢; rw [if_pos (by simp)]; exact ih
  unfold dd
  rw [show 256 = 255 + 1 from rfl, List.replicate_succ, List.foldl_cons]
  exact key 255
theorem many_nil : many [] = 1 := by rw [many, sigs_nil, dd_rep]; rfl
theorem cls_nil : cls [] = List.replicate 256 0 := by
  rw [cls, sigs_nil, num, List.map_replicate]
  unfold ix
  rw [dd_rep, pos_self]
end PA
end Go.Proofs.Ytepbdkfkfcckoaa

/- What the functions on sets of bytes hand back.
   No condition. -/
set_option linter.unusedVariables false
set_option linter.unusedSimpArgs false
namespace Go.Proofs.Ytepbdkfkfcckoaa
namespace V
open PA
def setL (m : Nat) : List Value := [.int .u64 (word m 0), .int .u64 (word m 1), .int .u64 (word m 2), .int .u64 (word m 3)]
def setV (m : Nat) : Value := .agg #[.int .u64 (word m 0), .int .u64 (word m 1), .int .u64 (word m 2), .int .u64 (word m 3)]
theorem setV_cells (m : Nat) : Value.cells (setV m) = (setL m).toArray := rfl
theorem setL_get {m i : Nat} (hi : i < 4) : (setL m)[i]? = some (.int .u64 (word m i)) := by
  match i, hi with
  | 0, _ => rfl
  | 1, _ => rfl
  | 2, _ => rfl
  | 3, _ => rfl
theorem zer_Set : zer Try.prog y_api_Set = some (setV 0) := by kernel_rfl
theorem cast_le {q : Nat} (h : q < 18446744073709551616) : (q : Int) ≤ 18446744073709551615 := by omega
theorem bset_Has_c {ro : Ro} {m b : Nat} (hb : b < 256) {h : T Obj} {nx : Nat} {K : KV} (hf : Fr h nx) (hK : ∀ nx', nx ≤ nx' → K (.bool (m.testBit b)) h nx') : callP Try.prog ro i_bset_Has [setV m, .int .u8 b] h nx K := by
  apply bset_Has_of
  unfold bset_Has
  have h1 : ((b:Int) / 64).toNat = b / 64 := by omega
  have h2 : ((b:Int) % 64).toNat = b % 64 := by omega
  have h3 := word_lt m (b / 64)
  have h4 : b / 64 < 4 := by omega
  have h5 := setL_get (m := m) h4
  have h6 : word m (b / 64) / 2 ^ (b % 64) ≤ word m (b / 64) := Nat.div_le_self _ _
  have h7 : ((word m (b / 64) / 2 ^ (b % 64) : Nat) : Int) ≤ 18446744073709551615 := cast_le (Nat.lt_of_le_of_lt h6 h3)
  simp (disch := first | omega | exact Int.natCast_nonneg _ | assumption) only [newP_eq, setV_cells, bindP_some', intB_quo, intB_rem, intB_shr_u64, intB_eql, intB_and64, wr_u8, wr_u64, ptr_at, ixArr_at, load1_own, T.get_upd_same, cellsIn_some, Option.bind, h1, h2, Nat.zero_add, Nat.mul_one, h5]
  refine ⟨h, (Sub.refl h).new hf (Nat.le_refl _), ?_⟩
  have e : (decide (((Nat.land ((word m (b / 64) / 2 ^ (b % 64) : Nat) : Int).toNat (1 : Int).toNat : Nat) : Int) = 1)) = m.testBit b := by
    have h9 := word_has m b
    have h8 : Nat.land (word m (b / 64) / 2 ^ (b % 64)) 1 = word m (b / 64) / 2 ^ (b % 64) % 2 := Nat.and_one_is_mod _
    rw [Int.toNat_natCast, show (1 : Int).toNat = 1 from rfl, h8]
    cases hm : m.testBit b with
    | true => rw [hm] at h9; have := h9.2 rfl; rw [this]; rfl
    | false =>
      rw [hm] at h9
      have : ¬ (word m (b / 64) / 2 ^ (b % 64) % 2 = 1) := fun e => by have := h9.1 e; cases this
      apply decide_eq_false; omega
  rw [e]
  exact hK _ (by omega)
theorem ref01_Has_c {ro : Ro} {m b : Nat} (hb : b < 256) {h : T Obj} {nx : Nat} {K : KV} (hf : Fr h nx) (hK : ∀ nx', nx ≤ nx' → K (.bool (m.testBit b)) h nx') : callP Try.prog ro i_ref01_Has [setV m, .int .u8 b] h nx K := by
  apply ref01_Has_of
  unfold ref01_Has
  have h1 : ((b:Int) / 64).toNat = b / 64 := by omega
  have h2 : ((b:Int) % 64).toNat = b % 64 := by omega
  have h3 := word_lt m (b / 64)
  have h4 : b / 64 < 4 := by omega
  have h5 := setL_get (m := m) h4
  have h6 : word m (b / 64) / 2 ^ (b % 64) ≤ word m (b / 64) := Nat.div_le_self _ _
  have h7 : ((word m (b / 64) / 2 ^ (b % 64) : Nat) : Int) ≤ 18446744073709551615 := cast_le (Nat.lt_of_le_of_lt h6 h3)
  simp (disch := first | omega | exact Int.natCast_nonneg _ | assumption) only [newP_eq, setV_cells, bindP_some', intB_quo, intB_rem, intB_shr_u64, intB_eql, wr_u8, wr_u64, ptr_at, ixArr_at, load1_own, T.get_upd_same, cellsIn_some, Option.bind, h1, h2, Nat.zero_add, Nat.mul_one, h5]
  refine ⟨h, (Sub.refl h).new hf (Nat.le_refl _), ?_⟩
  have e : (decide ((((word m (b / 64) / 2 ^ (b % 64) : Nat) : Int) % 2) = 1)) = m.testBit b := by
    have h9 := word_has m b
    cases hm : m.testBit b with
    | true => rw [hm] at h9; have := h9.2 rfl; apply decide_eq_true; omega
    | false =>
      rw [hm] at h9
      have : ¬ (word m (b / 64) / 2 ^ (b % 64) % 2 = 1) := fun e => by have := h9.1 e; cases this
      apply decide_eq_false; omega
  rw [e]
  exact hK _ (by omega)
end V
end Go.Proofs.Ytepbdkfkfcckoaa

/- Places and where one may be, in plain lists: what is right, a step, a rule, how far one comes.
   No condition. -/
set_option linter.unusedVariables false
set_option linter.unusedSimpArgs false
namespace Go.Proofs.Ytepbdkfkfcckoaa
namespace V
structure PosD where
  s : Nat
  lo : Int
  hi : Int
  rule : Int
  last : Bool
  next : List Int
structure GlD where
  first : List Int
  p : List PosD
structure HeldD where
  p : Int
  n : List Int
structure CfgD where
  b : Bool
  l : List HeldD
/-- Do numbers rise, from 'last' on, below 'many'? -/
def rz (last many : Int) : List Int → Bool
  | [] => true
  | x :: r => decide (last < x) && (decide (x < many) && rz x many r)
def mayD (many : Int) (p : PosD) : Bool := decide (p.s ≠ 0) && (decide (1 ≤ p.lo) && (decide (p.lo ≤ p.hi) && (decide (p.hi ≤ 4096) && (decide (0 ≤ p.rule) && (decide (p.rule < 512) && rz (-1) many p.next)))))
def rightD (g : GlD) : Bool := decide (g.p.length ≤ 512) && (rz (-1) g.p.length g.first && g.p.all (mayD g.p.length))
def dummy : PosD := ⟨0, 0, 0, 0, false, []⟩
def GlD.at (g : GlD) (i : Int) : PosD := g.p.getD i.toNat dummy
def fitsL (g : GlD) (place : Int) : List HeldD → Bool
  | [] => true
  | h :: r => decide (place < h.p) && (decide (h.p < g.p.length) && (!h.n.isEmpty && (rz 0 ((g.at h.p).hi + 1) h.n && fitsL g h.p r)))
def fitsD (g : GlD) (c : CfgD) : Bool := if c.b then c.l.isEmpty else fitsL g (-1) c.l
def rightC (g : GlD) (c : CfgD) : Bool := rightD g && fitsD g c
def ripeD (g : GlD) (h : HeldD) : Bool := decide ((g.at h.p).lo ≤ h.n.getLastD 0)
def hasD (g : GlD) (b : Nat) (q : Int) : Bool := (g.at q).s.testBit b
def entersD (g : GlD) (c : CfgD) (q : Int) : Bool := if c.b then g.first.contains q else c.l.any fun h => ripeD g h && (g.at h.p).next.contains q
def upD (hi : Int) (n : List Int) : List Int := (n.filter fun x => decide (x < hi)).map (· + 1)
def staysL (g : GlD) (q : Int) (l : List HeldD) : List Int := l.flatMap fun h => if h.p = q then upD (g.at q).hi h.n else []
def cntD (g : GlD) (c : CfgD) (b : Nat) (q : Int) : List Int := if hasD g b q then (if entersD g c q then [1] else []) ++ staysL g q c.l else []
def heldOf (q : Int) (n : List Int) : List HeldD := if n = [] then [] else [⟨q, n⟩]
def stepL (g : GlD) (c : CfgD) (b : Nat) : List HeldD := (List.range g.p.length).flatMap fun q : Nat => heldOf q (cntD g c b q)
def stepD (g : GlD) (c : CfgD) (b : Nat) : CfgD := ⟨false, stepL g c b⟩
def StepC (g : GlD) (c : CfgD) (b : Nat) : CfgD := if rightC g c then stepD g c b else ⟨false, []⟩
def rul (g : GlD) (best : Int) : List HeldD → Int
  | [] => best
  | h :: r => rul g (if (g.at h.p).last && (ripeD g h && (decide (best < 0) || decide ((g.at h.p).rule < best))) then (g.at h.p).rule else best) r
def ruleD (g : GlD) (c : CfgD) : Int := rul g (-1) c.l
def RuleC (g : GlD) (c : CfgD) : Int := if rightC g c then ruleD g c else -1
/-- From a state on, over bytes: how far, by which rule; 'i': how many bytes are ahead. -/
def lon (g : GlD) (c : CfgD) (to best : Int) (i : Nat) : List Nat → Int × Int
  | [] => (to, best)
  | b :: w => let d := stepD g c b
    if 0 ≤ ruleD g d then lon g d ((i : Int) + 1) (ruleD g d) (i + 1) w else lon g d to best (i + 1) w
def startD : CfgD := ⟨true, []⟩
/-! ### Numbers that rise -/
theorem rz_cons (a m x : Int) (r : List Int) : rz a m (x :: r) = (decide (a < x) && (decide (x < m) && rz x m r)) := rfl
theorem fitsL_cons (g : GlD) (a : Int) (h : HeldD) (r : List HeldD) : fitsL g a (h :: r) = (decide (a < h.p) && (decide (h.p < g.p.length) && (!h.n.isEmpty && (rz 0 ((g.at h.p).hi + 1) h.n && fitsL g h.p r)))) := rfl
theorem rul_cons (g : GlD) (best : Int) (h : HeldD) (r : List HeldD) : rul g best (h :: r) = rul g (if (g.at h.p).last && (ripeD g h && (decide (best < 0) || decide ((g.at h.p).rule < best))) then (g.at h.p).rule else best) r := rfl
theorem rz_mem : ∀ {l : List Int} {a m : Int}, rz a m l = true → ∀ x ∈ l, a < x ∧ x < m
  | [], a, m, h, x, hx => by cases hx
  | y :: r, a, m, h, x, hx => by
    simp only [rz, Bool.and_eq_true, decide_eq_true_eq] at h
    rcases List.mem_cons.1 hx with rfl | hx
    · exact ⟨h.1, h.2.1⟩
    · have := rz_mem h.2.2 x hx; omega
theorem rz_mono : ∀ {l : List Int} {a b m : Int}, b ≤ a → rz a m l = true → rz b m l = true
  | [], a, b, m, _, h => rfl
  | y :: r, a, b, m, hb, h => by
    simp only [rz, Bool.and_eq_true, decide_eq_true_eq] at h ⊢
    exact ⟨by omega, h.2⟩
theorem rz_up : ∀ {l : List Int} {a m k : Int}, rz a m l = true → rz (a + 1) (k + 1) (upD k l) = true
  | [], a, m, k, h => rfl
  | y :: r, a, m, k, h => by
    simp only [rz, Bool.and_eq_true, decide_eq_true_eq] at h
    unfold upD
    by_cases hy : y < k
    · rw [List.filter_cons_of_pos (by simpa using hy), List.map_cons]
      have := rz_up (k := k) h.2.2
      simp only [rz, Bool.and_eq_true, decide_eq_true_eq]
      exact ⟨by omega, by omega, this⟩
    · rw [List.filter_cons_of_neg (by simpa using hy)]
      exact rz_mono (by omega) (rz_up (k := k) h.2.2)
theorem fitsL_mono {g : GlD} : ∀ {l : List HeldD} {a b : Int}, b ≤ a → fitsL g a l = true → fitsL g b l = true
  | [], a, b, _, h => rfl
  | y :: r, a, b, hb, h => by
    simp only [fitsL, Bool.and_eq_true, decide_eq_true_eq] at h ⊢
    exact ⟨by omega, h.2⟩
theorem fitsL_mem {g : GlD} : ∀ {l : List HeldD} {a : Int}, fitsL g a l = true → ∀ x ∈ l, a < x.p ∧ x.p < g.p.length ∧ x.n ≠ [] ∧ rz 0 ((g.at x.p).hi + 1) x.n = true
  | [], a, h, x, hx => by cases hx
  | y :: r, a, h, x, hx => by
    simp only [fitsL, Bool.and_eq_true, decide_eq_true_eq] at h
    rcases List.mem_cons.1 hx with rfl | hx
    · exact ⟨h.1, h.2.1, by simpa using h.2.2.1, h.2.2.2.1⟩
    · have := fitsL_mem h.2.2.2.2 x hx
      exact ⟨by omega, this.2⟩
theorem fitsL_len {g : GlD} : ∀ {l : List HeldD} {a : Int}, fitsL g a l = true → a < g.p.length → (l.length : Int) + a + 1 ≤ g.p.length
  | [], a, h, ha => by simp; omega
  | y :: r, a, h, ha => by
    simp only [fitsL, Bool.and_eq_true, decide_eq_true_eq] at h
    have := fitsL_len h.2.2.2.2 (by omega)
    rw [List.length_cons]; omega
theorem fits_len {g : GlD} {c : CfgD} (h : fitsD g c = true) : c.l.length ≤ g.p.length := by
  unfold fitsD at h
  by_cases hb : c.b = true
  · rw [if_pos hb] at h
    have : c.l = [] := by simpa using h
    rw [this]; simp
  · rw [if_neg hb] at h
    have := fitsL_len h (by omega); omega
theorem fits_mem {g : GlD} {c : CfgD} (h : fitsD g c = true) : ∀ x ∈ c.l, 0 ≤ x.p ∧ x.p < g.p.length ∧ x.n ≠ [] ∧ rz 0 ((g.at x.p).hi + 1) x.n = true := by
  unfold fitsD at h
  by_cases hb : c.b = true
  · rw [if_pos hb] at h
    have : c.l = [] := by simpa using h
    rw [this]; intro x hx; cases hx
  · rw [if_neg hb] at h
    intro x hx
    have := fitsL_mem h x hx
    exact ⟨by omega, this.2⟩
theorem fits_at {g : GlD} {c : CfgD} (h : fitsD g c = true) {k : Nat} (hk : k < c.l.length) : 0 ≤ (c.l[k]).p ∧ (c.l[k]).p < g.p.length ∧ (c.l[k]).n ≠ [] ∧ rz 0 ((g.at (c.l[k]).p).hi + 1) (c.l[k]).n = true := fits_mem h _ (List.getElem_mem _)
theorem last_get {l : List Int} (h : l ≠ []) : l[l.length - 1]? = some (l.getLastD 0) := by
  rw [← List.getLast?_eq_getElem?, List.getLast?_eq_some_getLast h]
  cases l with
  | nil => exact absurd rfl h
  | cons x r => simp [List.getLastD]
/-- What no place ahead has does not stay. -/
theorem staysL_lt {g : GlD} {q : Int} : ∀ {l : List HeldD} {a : Int}, fitsL g a l = true → q ≤ a → staysL g q l = []
  | [], a, h, hq => rfl
  | y :: r, a, h, hq => by
    simp only [fitsL, Bool.and_eq_true, decide_eq_true_eq] at h
    unfold staysL
    rw [List.flatMap_cons, if_neg (by omega)]
    exact staysL_lt h.2.2.2.2 (by omega)
theorem stays_rz {g : GlD} {q : Int} : ∀ {l : List HeldD} {a : Int}, fitsL g a l = true → rz 1 ((g.at q).hi + 1) (staysL g q l) = true
  | [], a, h => rfl
  | y :: r, a, h => by
    have h' := h
    simp only [fitsL, Bool.and_eq_true, decide_eq_true_eq] at h
    unfold staysL
    rw [List.flatMap_cons]
    by_cases e : y.p = q
    · subst e
      have := staysL_lt (q := y.p) h.2.2.2.2 (Int.le_refl _)
      unfold staysL at this
      rw [if_pos rfl, this, List.append_nil]
      exact rz_up h.2.2.2.1
    · rw [if_neg e]
      exact stays_rz h.2.2.2.2
theorem cnt_rz {g : GlD} {c : CfgD} {b : Nat} {q : Int} (hc : fitsD g c = true) (hq : 1 ≤ (g.at q).hi) : rz 0 ((g.at q).hi + 1) (cntD g c b q) = true := by
  unfold cntD
  have hs : rz 1 ((g.at q).hi + 1) (staysL g q c.l) = true := by
    unfold fitsD at hc
    by_cases hb : c.b = true
    · rw [if_pos hb] at hc
      have : c.l = [] := by simpa using hc
      rw [this]; rfl
    · rw [if_neg hb] at hc; exact stays_rz hc
  by_cases h1 : hasD g b q = true
  · rw [if_pos h1]
    by_cases h2 : entersD g c q = true
    · rw [if_pos h2]
      show rz 0 _ (1 :: staysL g q c.l) = true
      simp only [rz, Bool.and_eq_true, decide_eq_true_eq]
      exact ⟨by omega, by omega, hs⟩
    · rw [if_neg h2]; exact rz_mono (by omega) hs
  · rw [if_neg h1]; rfl
theorem at_get {g : GlD} {i : Int} (h0 : 0 ≤ i) (h1 : i.toNat < g.p.length) : g.p[i.toNat] = g.at i := by
  unfold GlD.at
  rw [List.getD_eq_getElem?_getD, List.getElem?_eq_getElem h1]; rfl
theorem right_hi {g : GlD} (hg : rightD g = true) {q : Nat} (hq : q < g.p.length) : mayD g.p.length (g.at q) = true := by
  unfold rightD at hg
  simp only [Bool.and_eq_true, List.all_eq_true] at hg
  refine hg.2.2 _ ?_
  unfold GlD.at
  rw [Int.toNat_natCast, List.getD_eq_getElem?_getD, List.getElem?_eq_getElem hq]
  exact List.getElem_mem _
theorem may_spec {many : Int} {p : PosD} (h : mayD many p = true) : p.s ≠ 0 ∧ 1 ≤ p.lo ∧ p.lo ≤ p.hi ∧ p.hi ≤ 4096 ∧ 0 ≤ p.rule ∧ p.rule < 512 ∧ rz (-1) many p.next = true := by
  unfold mayD at h
  simp only [Bool.and_eq_true, decide_eq_true_eq] at h
  exact h
theorem right_at {g : GlD} (hg : rightD g = true) {i : Int} (h0 : 0 ≤ i) (h1 : i < g.p.length) : mayD g.p.length (g.at i) = true := by
  have := right_hi hg (q := i.toNat) (by omega)
  rwa [Int.toNat_of_nonneg h0] at this
theorem right_len {g : GlD} (hg : rightD g = true) : g.p.length ≤ 512 := by
  unfold rightD at hg
  simp only [Bool.and_eq_true, decide_eq_true_eq] at hg
  exact hg.1
theorem step_fits_aux {g : GlD} {c : CfgD} {b : Nat} (hg : rightD g = true) (hc : fitsD g c = true) : ∀ (n a : Nat), a + n = g.p.length → fitsL g ((a : Int) - 1) ((List.range' a n).flatMap fun q : Nat => heldOf q (cntD g c b q)) = true
  | 0, a, _ => rfl
  | n + 1, a, h => by
    rw [List.range'_succ, List.flatMap_cons]
    have ih := step_fits_aux (b := b) hg hc n (a + 1) (by omega)
    have ih' : fitsL g a ((List.range' (a + 1) n).flatMap fun q : Nat => heldOf q (cntD g c b q)) = true := by
      rw [show ((a + 1 : Nat) : Int) - 1 = (a : Int) by omega] at ih; exact ih
    have hm := may_spec (right_hi hg (show a < g.p.length by omega))
    have hz := cnt_rz (b := b) (q := (a : Int)) hc (by omega)
    unfold heldOf
    by_cases e : cntD g c b a = []
    · rw [if_pos e]
      exact fitsL_mono (by omega) ih'
    · rw [if_neg e]
      show fitsL g _ (⟨a, cntD g c b a⟩ :: _) = true
      simp only [fitsL, Bool.and_eq_true, decide_eq_true_eq]
      exact ⟨by omega, by omega, by simpa using e, hz, ih'⟩
/-- Behind a byte it may be so. -/
theorem step_fits {g : GlD} {c : CfgD} {b : Nat} (hg : rightD g = true) (hc : fitsD g c = true) : fitsD g (stepD g c b) = true := by
  unfold fitsD stepD stepL
  have := step_fits_aux (b := b) hg hc g.p.length 0 (by omega)
  rw [← List.range_eq_range'] at this
  simpa using this
theorem start_fits (g : GlD) : fitsD g startD = true := rfl
theorem mem_stepL {g : GlD} {c : CfgD} {b : Nat} {h : HeldD} (hh : h ∈ stepL g c b) : ∃ q : Nat, q < g.p.length ∧ h = ⟨q, cntD g c b q⟩ ∧ cntD g c b q ≠ [] := by
  unfold stepL at hh
  rw [List.mem_flatMap] at hh
  obtain ⟨q, hq, hh⟩ := hh
  unfold heldOf at hh
  split at hh
  · cases hh
  · rename_i e
    simp at hh
    exact ⟨q, by simpa using hq, hh, e⟩
theorem stepL_nil {g : GlD} {c : CfgD} {b : Nat} (h : ∀ q : Nat, q < g.p.length → cntD g c b q = []) : stepL g c b = [] := by
  unfold stepL
  rw [List.flatMap_eq_nil_iff]
  intro q hq
  unfold heldOf
  rw [if_pos (h q (by simpa using hq))]
/-- From nowhere one comes nowhere. -/
theorem stepL_none {g : GlD} {b : Nat} : stepL g ⟨false, []⟩ b = [] := stepL_nil fun q _ => by
  unfold cntD entersD staysL
  simp
theorem lon_none {g : GlD} : ∀ (w : List Nat) (to best : Int) (i : Nat), lon g ⟨false, []⟩ to best i w = (to, best)
  | [], _, _, _ => rfl
  | b :: w, to, best, i => by
    unfold lon
    have e : stepD g ⟨false, []⟩ b = ⟨false, []⟩ := by unfold stepD; rw [stepL_none]
    simp only [e]
    have : ¬ (0 : Int) ≤ ruleD g ⟨false, []⟩ := by unfold ruleD rul; decide
    rw [if_neg this]
    exact lon_none w to best (i + 1)
end V
end Go.Proofs.Ytepbdkfkfcckoaa

/- Places, as the machine reads them; what glush.Right hands back.
   No condition. -/
set_option linter.unusedVariables false
set_option linter.unusedSimpArgs false
namespace Go.Proofs.Ytepbdkfkfcckoaa
namespace V
open PA
attribute [local irreducible] bindP ifP condP newP optP exP beqP
def posL (p : PosD) (nv : Value) : List Value := setL p.s ++ [.int .i64 p.lo, .int .i64 p.hi, .int .i64 p.rule, .bool p.last, nv]
def RPos (ro : Ro) (h : T Obj) (x : List Value) (p : PosD) : Prop := ∃ nv, x = posL p nv ∧ ZI ro h nv p.next ∧ p.s < 2 ^ 256
theorem RPos.sub {ro : Ro} {h h' : T Obj} (hs : Sub h h') : ∀ x d, RPos ro h x d → RPos ro h' x d := fun x d ⟨nv, h1, h2, h3⟩ => ⟨nv, h1, h2.sub hs, h3⟩
/-- Places, as a value. -/
def RG (ro : Ro) (h : T Obj) (v : Value) (g : GlD) : Prop := ∃ a b, v = .agg #[a, b] ∧ ZI ro h a g.first ∧ SlR ro h b 9 (RPos ro h) g.p
theorem RG.sub {ro : Ro} {h h' : T Obj} {v : Value} {g : GlD} (hs : Sub h h') (hg : RG ro h v g) : RG ro h' v g := by
  obtain ⟨a, b, h1, h2, h3⟩ := hg
  exact ⟨a, b, h1, h2.sub hs, h3.sub hs (RPos.sub hs)⟩
theorem eqCells_bits {m n : Nat} (hm : m < 2 ^ 256) (hn : n < 2 ^ 256) : eqCells [1, 1, 1, 1] (setL m) (setL n) = some (decide (m = n)) := by
  have h : (setL m = setL n) ↔ m = n := by
    constructor
    · intro h
      refine word_ext hm hn fun i hi => ?_
      have h1 := setL_get (m := m) hi
      rw [h, setL_get hi] at h1
      have := Option.some.inj h1
      simp only [Value.int.injEq, true_and] at this
      omega
    · rintro rfl; rfl
  have h2 : eqCells [1, 1, 1, 1] (setL m) (setL n) = some (decide (((word m 0 : Nat) : Int) = (word n 0 : Nat)) && (decide (((word m 1 : Nat) : Int) = (word n 1 : Nat)) && (decide (((word m 2 : Nat) : Int) = (word n 2 : Nat)) && (decide (((word m 3 : Nat) : Int) = (word n 3 : Nat)) && true)))) := rfl
  rw [h2]
  congr 1
  by_cases e : m = n
  · subst e; simp
  · rw [decide_eq_false e]
    rw [← h] at e
    simp only [setL, List.cons.injEq, Value.int.injEq, true_and, and_true] at e
    simp only [Bool.and_true, ← Bool.decide_and]
    exact decide_eq_false e
theorem neq_set0 {m : Nat} (hm : m < 2 ^ 256) : aggB [1, 1, 1, 1] .neq (.agg (setL m).toArray) (setV 0) = some (.bool (!decide (m = 0))) := by
  have e2 : setV 0 = .agg (setL 0).toArray := rfl
  rw [e2]
  unfold aggB
  simp only [tl, eqCells_bits hm (show (0 : Nat) < 2 ^ 256 by decide), Option.bind]
theorem eql_set0 {m : Nat} (hm : m < 2 ^ 256) : aggB [1, 1, 1, 1] .eql (.agg (setL m).toArray) (setV 0) = some (.bool (decide (m = 0))) := by
  have e2 : setV 0 = .agg (setL 0).toArray := rfl
  rw [e2]
  unfold aggB
  simp only [tl, eqCells_bits hm (show (0 : Nat) < 2 ^ 256 by decide), Option.bind]
theorem neq_set0_s {m : Nat} (hm : m < 2 ^ 256) {K : Value → Prop} (h1 : m ≠ 0 → K (.bool true)) (h2 : m = 0 → K (.bool false)) : bindP (aggB [1, 1, 1, 1] .neq (.agg (setL m).toArray) (setV 0)) K := by
  rw [neq_set0 hm]
  by_cases h : m = 0
  · rw [decide_eq_true h]; exact bindP_mk rfl (h2 h)
  · rw [decide_eq_false h]; exact bindP_mk rfl (h1 h)
theorem eql_set0_s {m : Nat} (hm : m < 2 ^ 256) {K : Value → Prop} (h1 : m = 0 → K (.bool true)) (h2 : m ≠ 0 → K (.bool false)) : bindP (aggB [1, 1, 1, 1] .eql (.agg (setL m).toArray) (setV 0)) K := by
  rw [eql_set0 hm]
  by_cases h : m = 0
  · rw [decide_eq_true h]; exact bindP_mk rfl (h1 h)
  · rw [decide_eq_false h]; exact bindP_mk rfl (h2 h)
theorem plain_Set : plainTy Try.prog 20 y_api_Set = some [1, 1, 1, 1] := by kernel_rfl
theorem build_Set0 : buildV Try.prog y_api_Set [] = some (setV 0) := by kernel_rfl
theorem posL_ok {p : PosD} {nv : Value} (h : cellOk nv = true) : (posL p nv).all cellOk = true := by
  have : (posL p nv).all cellOk = (cellOk nv && true) := rfl
  rw [this, h]; rfl
theorem posL_take (p : PosD) (nv : Value) : ((posL p nv).drop 0).take 4 = setL p.s := rfl
theorem glush_rises_c {ro : Ro} {v : Value} {l : List Int} {many : Int} (hm : many ≤ 1000000) {h : T Obj} {nx : Nat} {K : KV} (hv : ZI ro h v l) (hK : ∀ nx', nx ≤ nx' → K (.bool (rz (-1) many l)) h nx') : callP Try.prog ro i_glush_rises [v, .int .i64 many] h nx K := by
  apply glush_rises_of
  unfold glush_rises
  generalize hR : rz (-1) many l = R at hK
  refine bindP_mk hv.len ?_
  refine loopP_rule (fun j e h' nx' => ∃ (k : Nat) (last : Int), k + j = l.length ∧ nx ≤ nx' ∧ h' = h ∧ e 1 = .int .i64 many ∧ e 5 = .int .i64 last ∧ e 8 = v ∧ e 9 = .int .i64 l.length ∧ e 10 = .int .i64 k ∧ (k : Int) ≤ last + 1 ∧ rz last many (l.drop k) = R) ?_ (n := l.length) ⟨0, -1, by omega, by omega, rfl, rfl, rfl, rfl, rfl, rfl, by omega, hR⟩
  rintro j e h' nx' ⟨k, last, hj, hnx, rfl, e1, e5, e8, e9, e10, hk1, hr⟩ Q' hq hx
  unfold glush_rises_L1
  rw [e1, e5, e8, e9, e10]
  (repeat (first | refine bindP_mk (by simp (disch := first | omega | exact Int.natCast_nonneg _ | assumption) only [BB, decide_true, decide_false, Bool.not_true, Bool.not_false, Option.bind_some, T.get_upd_same, T.get_upd_ne, if_pos, Nat.zero_add, Nat.mul_one, Nat.add_zero, Int.toNat_natCast, ↓reduceIte, Nat.reduceLeDiff, Nat.reduceAdd, Nat.le_refl, intB_eql, intB_neq, intB_lss, intB_leq, intB_gtr, intB_geq] <;> rfl) ?_ | refine newP_mk ?_ | refine optP_mk ?_ | with_reducible refine condP_t ?_ | with_reducible refine condP_f ?_ | with_reducible refine ifP_tt' ?_ | with_reducible refine ifP_ff' ?_ | with_reducible refine ifP_tf' ?_ | with_reducible refine ifP_ft' ?_ | with_reducible refine ifP_u' ?_ | refine optP_mk0 ?_))
  refine condP_d (fun hk => ?_) (fun hk => ?_)
  · have hk : k < l.length := by omega
    rw [drop_cons hk, rz_cons] at hr
    refine bindP_mk (hv.ix _ hk) (bindP_mk (hv.load hk) ?_)
    generalize l[k] = x at hr
    (repeat (first | refine bindP_mk (by simp (disch := first | omega | exact Int.natCast_nonneg _ | assumption) only [BB, decide_true, decide_false, Bool.not_true, Bool.not_false, Option.bind_some, T.get_upd_same, T.get_upd_ne, if_pos, Nat.zero_add, Nat.mul_one, Nat.add_zero, Int.toNat_natCast, ↓reduceIte, Nat.reduceLeDiff, Nat.reduceAdd, Nat.le_refl, intB_eql, intB_neq, intB_lss, intB_leq, intB_gtr, intB_geq] <;> rfl) ?_ | refine newP_mk ?_ | refine optP_mk ?_ | with_reducible refine condP_t ?_ | with_reducible refine condP_f ?_ | with_reducible refine ifP_tt' ?_ | with_reducible refine ifP_ff' ?_ | with_reducible refine ifP_tf' ?_ | with_reducible refine ifP_ft' ?_ | with_reducible refine ifP_u' ?_ | refine optP_mk0 ?_))
    by_cases h1 : x ≤ last
    · rw [decide_eq_true h1]
      (repeat (first | refine bindP_mk (by simp (disch := first | omega | exact Int.natCast_nonneg _ | assumption) only [BB, decide_true, decide_false, Bool.not_true, Bool.not_false, Option.bind_some, T.get_upd_same, T.get_upd_ne, if_pos, Nat.zero_add, Nat.mul_one, Nat.add_zero, Int.toNat_natCast, ↓reduceIte, Nat.reduceLeDiff, Nat.reduceAdd, Nat.le_refl, intB_eql, intB_neq, intB_lss, intB_leq, intB_gtr, intB_geq] <;> rfl) ?_ | refine newP_mk ?_ | refine optP_mk ?_ | with_reducible refine condP_t ?_ | with_reducible refine condP_f ?_ | with_reducible refine ifP_tt' ?_ | with_reducible refine ifP_ff' ?_ | with_reducible refine ifP_tf' ?_ | with_reducible refine ifP_ft' ?_ | with_reducible refine ifP_u' ?_ | refine optP_mk0 ?_))
      refine hx _ _ _ _ (fun e => by cases e) (exP_r ?_)
      refine ⟨_, Sub.refl _, kb hK ?_ (by omega)⟩
      rw [← hr, decide_eq_false (by omega)]; rfl
    · rw [decide_eq_false h1]
      (repeat (first | refine bindP_mk (by simp (disch := first | omega | exact Int.natCast_nonneg _ | assumption) only [BB, decide_true, decide_false, Bool.not_true, Bool.not_false, Option.bind_some, T.get_upd_same, T.get_upd_ne, if_pos, Nat.zero_add, Nat.mul_one, Nat.add_zero, Int.toNat_natCast, ↓reduceIte, Nat.reduceLeDiff, Nat.reduceAdd, Nat.le_refl, intB_eql, intB_neq, intB_lss, intB_leq, intB_gtr, intB_geq] <;> rfl) ?_ | refine newP_mk ?_ | refine optP_mk ?_ | with_reducible refine condP_t ?_ | with_reducible refine condP_f ?_ | with_reducible refine ifP_tt' ?_ | with_reducible refine ifP_ff' ?_ | with_reducible refine ifP_tf' ?_ | with_reducible refine ifP_ft' ?_ | with_reducible refine ifP_u' ?_ | refine optP_mk0 ?_))
      by_cases h2 : many ≤ x
      · rw [decide_eq_true h2]
        (repeat (first | refine bindP_mk (by simp (disch := first | omega | exact Int.natCast_nonneg _ | assumption) only [BB, decide_true, decide_false, Bool.not_true, Bool.not_false, Option.bind_some, T.get_upd_same, T.get_upd_ne, if_pos, Nat.zero_add, Nat.mul_one, Nat.add_zero, Int.toNat_natCast, ↓reduceIte, Nat.reduceLeDiff, Nat.reduceAdd, Nat.le_refl, intB_eql, intB_neq, intB_lss, intB_leq, intB_gtr, intB_geq] <;> rfl) ?_ | refine newP_mk ?_ | refine optP_mk ?_ | with_reducible refine condP_t ?_ | with_reducible refine condP_f ?_ | with_reducible refine ifP_tt' ?_ | with_reducible refine ifP_ff' ?_ | with_reducible refine ifP_tf' ?_ | with_reducible refine ifP_ft' ?_ | with_reducible refine ifP_u' ?_ | refine optP_mk0 ?_))
        refine hx _ _ _ _ (fun e => by cases e) (exP_r ?_)
        refine ⟨_, Sub.refl _, kb hK ?_ (by omega)⟩
        rw [← hr, decide_eq_false (show ¬ x < many by omega)]; simp
      · rw [decide_eq_false h2]
        (repeat (first | refine bindP_mk (by simp (disch := first | omega | exact Int.natCast_nonneg _ | assumption) only [BB, decide_true, decide_false, Bool.not_true, Bool.not_false, Option.bind_some, T.get_upd_same, T.get_upd_ne, if_pos, Nat.zero_add, Nat.mul_one, Nat.add_zero, Int.toNat_natCast, ↓reduceIte, Nat.reduceLeDiff, Nat.reduceAdd, Nat.le_refl, intB_eql, intB_neq, intB_lss, intB_leq, intB_gtr, intB_geq] <;> rfl) ?_ | refine newP_mk ?_ | refine optP_mk ?_ | with_reducible refine condP_t ?_ | with_reducible refine condP_f ?_ | with_reducible refine ifP_tt' ?_ | with_reducible refine ifP_ff' ?_ | with_reducible refine ifP_tf' ?_ | with_reducible refine ifP_ft' ?_ | with_reducible refine ifP_u' ?_ | refine optP_mk0 ?_))
        refine hq (j - 1) _ _ _ _ (by omega) ⟨k + 1, x, by omega, by omega, rfl, e1, rfl, e8, e9, rfl, by omega, ?_⟩ (Sub.refl _)
        rw [← hr, decide_eq_true (show last < x by omega), decide_eq_true (show x < many by omega)]; rfl
  · refine hx _ _ _ _ (fun e => by cases e) (exP_e (beqP_t ?_))
    unfold glush_rises_j1
    rw [drop_all (by omega)] at hr
    exact ⟨_, Sub.refl _, kb hK hr.symm (by omega)⟩
set_option maxRecDepth 4000 in
theorem glush_may_c {ro : Ro} {p : PosD} {nv : Value} {many : Int} (hm : many ≤ 1000000) {h : T Obj} {nx : Nat} {K : KV} (hf : Fr h nx) (hs : p.s < 2 ^ 256) (hn : ZI ro h nv p.next) (hK : ∀ nx', nx ≤ nx' → K (.bool (mayD many p)) h nx') : callP Try.prog ro i_glush_may [.agg (posL p nv).toArray, .int .i64 many] h nx K := by
  apply glush_may_of
  unfold glush_may
  refine newP_mk ?_
  have hs1 : Sub h (h.upd nx (some (.cells (Value.cells (.agg (posL p nv).toArray)) y_api_Pos))) := (Sub.refl h).new hf (Nat.le_refl _)
  have g : (h.upd nx (some (.cells (Value.cells (.agg (posL p nv).toArray)) y_api_Pos))).get nx = some (.cells (posL p nv).toArray y_api_Pos) := by rw [T.get_upd_same]; rfl
  generalize h.upd nx (some (.cells (Value.cells (.agg (posL p nv).toArray)) y_api_Pos)) = h1 at hs1 g
  have hK' : ∀ (b : Bool) n, mayD many p = b → nx ≤ n → ∃ h', Sub h' h1 ∧ K (.bool b) h' n := fun b n e hn => ⟨h, hs1, kb hK e hn⟩
  unfold mayD at hK'
  (repeat (first | refine bindP_mk (by simp (disch := first | omega | exact Int.natCast_nonneg _ | assumption) only [BB, decide_true, decide_false, Bool.not_true, Bool.not_false, Option.bind_some, T.get_upd_same, T.get_upd_ne, if_pos, Nat.zero_add, Nat.mul_one, Nat.add_zero, Int.toNat_natCast, ↓reduceIte, Nat.reduceLeDiff, Nat.reduceAdd, Nat.le_refl, intB_eql, intB_neq, intB_lss, intB_leq, intB_gtr, intB_geq, g, posL_take] <;> rfl) ?_ | refine newP_mk ?_ | refine optP_mk ?_ | with_reducible refine condP_t ?_ | with_reducible refine condP_f ?_ | with_reducible refine ifP_tt' ?_ | with_reducible refine ifP_ff' ?_ | with_reducible refine ifP_tf' ?_ | with_reducible refine ifP_ft' ?_ | with_reducible refine ifP_u' ?_ | refine optP_mk0 ?_))
  refine bindP_mk build_Set0 (bindP_mk plain_Set (neq_set0_s hs (fun h0 => ?_) (fun h0 => ?_)))
  rotate_left
  · (repeat (first | refine lss_t (by omega) ?_ | refine lss_f (by omega) ?_ | refine leq_t (by omega) ?_ | refine leq_f (by omega) ?_ | refine gtr_t (by omega) ?_ | refine gtr_f (by omega) ?_ | refine geq_t (by omega) ?_ | refine geq_f (by omega) ?_ | refine eql_t (by omega) ?_ | refine eql_f (by omega) ?_ | refine neq_t (by omega) ?_ | refine neq_f (by omega) ?_ | refine bindP_mk (by simp (disch := first | omega | exact Int.natCast_nonneg _ | assumption) only [BB, decide_true, decide_false, Bool.not_true, Bool.not_false, Option.bind_some, T.get_upd_same, T.get_upd_ne, if_pos, Nat.zero_add, Nat.mul_one, Nat.add_zero, Int.toNat_natCast, ↓reduceIte, Nat.reduceLeDiff, Nat.reduceAdd, Nat.le_refl, g] <;> rfl) ?_ | refine newP_mk ?_ | refine optP_mk ?_ | with_reducible refine condP_t ?_ | with_reducible refine condP_f ?_ | with_reducible refine ifP_tt' ?_ | with_reducible refine ifP_ff' ?_ | with_reducible refine ifP_tf' ?_ | with_reducible refine ifP_ft' ?_ | with_reducible refine ifP_u' ?_ | refine optP_mk0 ?_))
    exact hK' _ _ (by simp [h0]) (by omega)
  · (repeat (first | refine lss_t (by omega) ?_ | refine lss_f (by omega) ?_ | refine leq_t (by omega) ?_ | refine leq_f (by omega) ?_ | refine gtr_t (by omega) ?_ | refine gtr_f (by omega) ?_ | refine geq_t (by omega) ?_ | refine geq_f (by omega) ?_ | refine eql_t (by omega) ?_ | refine eql_f (by omega) ?_ | refine neq_t (by omega) ?_ | refine neq_f (by omega) ?_ | refine bindP_mk (by simp (disch := first | omega | exact Int.natCast_nonneg _ | assumption) only [BB, decide_true, decide_false, Bool.not_true, Bool.not_false, Option.bind_some, T.get_upd_same, T.get_upd_ne, if_pos, Nat.zero_add, Nat.mul_one, Nat.add_zero, Int.toNat_natCast, ↓reduceIte, Nat.reduceLeDiff, Nat.reduceAdd, Nat.le_refl, g] <;> rfl) ?_ | refine newP_mk ?_ | refine optP_mk ?_ | with_reducible refine condP_t ?_ | with_reducible refine condP_f ?_ | with_reducible refine ifP_tt' ?_ | with_reducible refine ifP_ff' ?_ | with_reducible refine ifP_tf' ?_ | with_reducible refine ifP_ft' ?_ | with_reducible refine ifP_u' ?_ | refine optP_mk0 ?_))
    iterate 5 ((first | refine lss_s (fun hb => ?_) (fun hb => ?_) | refine leq_s (fun hb => ?_) (fun hb => ?_) | refine gtr_s (fun hb => ?_) (fun hb => ?_) | refine geq_s (fun hb => ?_) (fun hb => ?_) | refine eql_s (fun hb => ?_) (fun hb => ?_) | refine neq_s (fun hb => ?_) (fun hb => ?_)); rotate_left; (focus ((repeat (first | refine lss_t (by omega) ?_ | refine lss_f (by omega) ?_ | refine leq_t (by omega) ?_ | refine leq_f (by omega) ?_ | refine gtr_t (by omega) ?_ | refine gtr_f (by omega) ?_ | refine geq_t (by omega) ?_ | refine geq_f (by omega) ?_ | refine eql_t (by omega) ?_ | refine eql_f (by omega) ?_ | refine neq_t (by omega) ?_ | refine neq_f (by omega) ?_ | refine bindP_mk (by simp (disch := first | omega | exact Int.natCast_nonneg _ | assumption) only [BB, decide_true, decide_false, Bool.not_true, Bool.not_false, Option.bind_some, T.get_upd_same, T.get_upd_ne, if_pos, Nat.zero_add, Nat.mul_one, Nat.add_zero, Int.toNat_natCast, ↓reduceIte, Nat.reduceLeDiff, Nat.reduceAdd, Nat.le_refl, g] <;> rfl) ?_ | refine newP_mk ?_ | refine optP_mk ?_ | with_reducible refine condP_t ?_ | with_reducible refine condP_f ?_ | with_reducible refine ifP_tt' ?_ | with_reducible refine ifP_ff' ?_ | with_reducible refine ifP_tf' ?_ | with_reducible refine ifP_ft' ?_ | with_reducible refine ifP_u' ?_ | refine optP_mk0 ?_)); refine hK' _ _ ?_ (by omega); simp only [Bool.and_eq_false_iff, decide_eq_false_iff_not]; omega)); (repeat (first | refine lss_t (by omega) ?_ | refine lss_f (by omega) ?_ | refine leq_t (by omega) ?_ | refine leq_f (by omega) ?_ | refine gtr_t (by omega) ?_ | refine gtr_f (by omega) ?_ | refine geq_t (by omega) ?_ | refine geq_f (by omega) ?_ | refine eql_t (by omega) ?_ | refine eql_f (by omega) ?_ | refine neq_t (by omega) ?_ | refine neq_f (by omega) ?_ | refine bindP_mk (by simp (disch := first | omega | exact Int.natCast_nonneg _ | assumption) only [BB, decide_true, decide_false, Bool.not_true, Bool.not_false, Option.bind_some, T.get_upd_same, T.get_upd_ne, if_pos, Nat.zero_add, Nat.mul_one, Nat.add_zero, Int.toNat_natCast, ↓reduceIte, Nat.reduceLeDiff, Nat.reduceAdd, Nat.le_refl, g] <;> rfl) ?_ | refine newP_mk ?_ | refine optP_mk ?_ | with_reducible refine condP_t ?_ | with_reducible refine condP_f ?_ | with_reducible refine ifP_tt' ?_ | with_reducible refine ifP_ff' ?_ | with_reducible refine ifP_tf' ?_ | with_reducible refine ifP_ft' ?_ | with_reducible refine ifP_u' ?_ | refine optP_mk0 ?_)))
    refine glush_rises_c hm (hn.sub hs1) fun n hn => ?_
    (repeat (first | refine lss_t (by omega) ?_ | refine lss_f (by omega) ?_ | refine leq_t (by omega) ?_ | refine leq_f (by omega) ?_ | refine gtr_t (by omega) ?_ | refine gtr_f (by omega) ?_ | refine geq_t (by omega) ?_ | refine geq_f (by omega) ?_ | refine eql_t (by omega) ?_ | refine eql_f (by omega) ?_ | refine neq_t (by omega) ?_ | refine neq_f (by omega) ?_ | refine bindP_mk (by simp (disch := first | omega | exact Int.natCast_nonneg _ | assumption) only [BB, decide_true, decide_false, Bool.not_true, Bool.not_false, Option.bind_some, T.get_upd_same, T.get_upd_ne, if_pos, Nat.zero_add, Nat.mul_one, Nat.add_zero, Int.toNat_natCast, ↓reduceIte, Nat.reduceLeDiff, Nat.reduceAdd, Nat.le_refl, g] <;> rfl) ?_ | refine newP_mk ?_ | refine optP_mk ?_ | with_reducible refine condP_t ?_ | with_reducible refine condP_f ?_ | with_reducible refine ifP_tt' ?_ | with_reducible refine ifP_ff' ?_ | with_reducible refine ifP_tf' ?_ | with_reducible refine ifP_ft' ?_ | with_reducible refine ifP_u' ?_ | refine optP_mk0 ?_))
    refine hK' _ _ ?_ (by omega)
    rw [decide_eq_true h0]
    repeat rw [decide_eq_true (by omega), Bool.true_and]
    rfl
/-- Where a list first keeps to something. -/
def findI {D : Type} (q : D → Bool) (k : Int) : List D → Int
  | [] => -1
  | x :: r => if q x then k else findI q (k + 1) r
theorem findI_cons {D : Type} (q : D → Bool) (k : Int) (x : D) (r : List D) : findI q k (x :: r) = if q x then k else findI q (k + 1) r := rfl
theorem findI_any {D : Type} (q : D → Bool) : ∀ (l : List D) (k : Int), 0 ≤ k → decide (0 ≤ findI q k l) = l.any q
  | [], k, hk => rfl
  | x :: r, k, hk => by
    rw [findI_cons, List.any_cons]
    by_cases h : q x = true
    · rw [if_pos h, h]; simp [hk]
    · rw [if_neg h, findI_any q r (k + 1) (by omega)]; simp [h]
theorem pos_IndexFunc_c {ro : Ro} {v f : Value} {D : Type} {l : List D} {R : List Value → D → Prop} {q : D → Bool} (hlen : l.length ≤ 1000000) {h : T Obj} {nx : Nat} {K : KV} (hv : SlR ro h v 9 R l)
    (hf : ∀ (i : Nat) (hi : i < l.length) x n K', R x l[i] → nx ≤ n → (∀ n', n ≤ n' → K' (.bool (q l[i])) h n') → callF (callP Try.prog ro) f [.agg x.toArray] h n K')
    (hK : ∀ nx', nx ≤ nx' → K (.int .i64 (findI q 0 l)) h nx') : callP Try.prog ro i_slices_IndexFunc_api_Pos_api_Pos [v, f] h nx K := by
  apply slices_IndexFunc_api_Pos_api_Pos_of
  unfold slices_IndexFunc_api_Pos_api_Pos
  generalize hR : findI q 0 l = r at hK
  refine bindP_mk hv.len ?_
  refine loopP_rule (fun j e h' nx' => ∃ (k : Nat), k + j = l.length ∧ nx ≤ nx' ∧ h' = h ∧ e 0 = v ∧ e 1 = f ∧ e 7 = .int .i64 l.length ∧ e 8 = .int .i64 k ∧ findI q k (l.drop k) = r) ?_ (n := l.length) ⟨0, by omega, by omega, rfl, rfl, rfl, rfl, rfl, hR⟩
  rintro j e h' nx' ⟨k, hj, hnx, rfl, e0, e1, e7, e8, hr⟩ Q' hq hx
  unfold slices_IndexFunc_api_Pos_api_Pos_L1
  rw [e0, e1, e7, e8]
  refine lss_s (fun hk => ?_) (fun hk => ?_)
  · have hk : k < l.length := by omega
    rw [drop_cons hk, findI_cons] at hr
    obtain ⟨x, hx1, hx2, hx3, hx4, hx5⟩ := hv.at hk
    (repeat (first | refine lss_t (by omega) ?_ | refine lss_f (by omega) ?_ | refine leq_t (by omega) ?_ | refine leq_f (by omega) ?_ | refine gtr_t (by omega) ?_ | refine gtr_f (by omega) ?_ | refine geq_t (by omega) ?_ | refine geq_f (by omega) ?_ | refine eql_t (by omega) ?_ | refine eql_f (by omega) ?_ | refine neq_t (by omega) ?_ | refine neq_f (by omega) ?_ | refine bindP_mk (by simp (disch := first | omega | exact Int.natCast_nonneg _ | assumption) only [BB, decide_true, decide_false, Bool.not_true, Bool.not_false, Option.bind_some, T.get_upd_same, T.get_upd_ne, if_pos, Nat.zero_add, Nat.mul_one, Nat.add_zero, Int.toNat_natCast, ↓reduceIte, Nat.reduceLeDiff, Nat.reduceAdd, Nat.le_refl] <;> rfl) ?_ | refine newP_mk ?_ | refine optP_mk ?_ | with_reducible refine condP_t ?_ | with_reducible refine condP_f ?_ | with_reducible refine ifP_tt' ?_ | with_reducible refine ifP_ff' ?_ | with_reducible refine ifP_tf' ?_ | with_reducible refine ifP_ft' ?_ | with_reducible refine ifP_u' ?_ | refine optP_mk0 ?_))
    refine bindP_mk (hv.ix _ hk) (bindP_mk hx3 ?_)
    refine hf k hk x _ _ hx1 (by omega) fun n hn => ?_
    cases hc : q l[k] with
    | true =>
      rw [hc, if_pos rfl] at hr
      (repeat (first | refine lss_t (by omega) ?_ | refine lss_f (by omega) ?_ | refine leq_t (by omega) ?_ | refine leq_f (by omega) ?_ | refine gtr_t (by omega) ?_ | refine gtr_f (by omega) ?_ | refine geq_t (by omega) ?_ | refine geq_f (by omega) ?_ | refine eql_t (by omega) ?_ | refine eql_f (by omega) ?_ | refine neq_t (by omega) ?_ | refine neq_f (by omega) ?_ | refine bindP_mk (by simp (disch := first | omega | exact Int.natCast_nonneg _ | assumption) only [BB, decide_true, decide_false, Bool.not_true, Bool.not_false, Option.bind_some, T.get_upd_same, T.get_upd_ne, if_pos, Nat.zero_add, Nat.mul_one, Nat.add_zero, Int.toNat_natCast, ↓reduceIte, Nat.reduceLeDiff, Nat.reduceAdd, Nat.le_refl] <;> rfl) ?_ | refine newP_mk ?_ | refine optP_mk ?_ | with_reducible refine condP_t ?_ | with_reducible refine condP_f ?_ | with_reducible refine ifP_tt' ?_ | with_reducible refine ifP_ff' ?_ | with_reducible refine ifP_tf' ?_ | with_reducible refine ifP_ft' ?_ | with_reducible refine ifP_u' ?_ | refine optP_mk0 ?_))
      refine hx _ _ _ _ (fun e => by cases e) (exP_r ?_)
      exact ⟨_, Sub.refl _, ki hK hr.symm (by omega)⟩
    | false =>
      rw [hc, if_neg (by decide)] at hr
      (repeat (first | refine lss_t (by omega) ?_ | refine lss_f (by omega) ?_ | refine leq_t (by omega) ?_ | refine leq_f (by omega) ?_ | refine gtr_t (by omega) ?_ | refine gtr_f (by omega) ?_ | refine geq_t (by omega) ?_ | refine geq_f (by omega) ?_ | refine eql_t (by omega) ?_ | refine eql_f (by omega) ?_ | refine neq_t (by omega) ?_ | refine neq_f (by omega) ?_ | refine bindP_mk (by simp (disch := first | omega | exact Int.natCast_nonneg _ | assumption) only [BB, decide_true, decide_false, Bool.not_true, Bool.not_false, Option.bind_some, T.get_upd_same, T.get_upd_ne, if_pos, Nat.zero_add, Nat.mul_one, Nat.add_zero, Int.toNat_natCast, ↓reduceIte, Nat.reduceLeDiff, Nat.reduceAdd, Nat.le_refl] <;> rfl) ?_ | refine newP_mk ?_ | refine optP_mk ?_ | with_reducible refine condP_t ?_ | with_reducible refine condP_f ?_ | with_reducible refine ifP_tt' ?_ | with_reducible refine ifP_ff' ?_ | with_reducible refine ifP_tf' ?_ | with_reducible refine ifP_ft' ?_ | with_reducible refine ifP_u' ?_ | refine optP_mk0 ?_))
      exact hq (j - 1) _ _ _ _ (by omega) ⟨k + 1, by omega, by omega, rfl, e0, e1, e7, rfl, hr⟩ (Sub.refl _)
  · (repeat (first | refine lss_t (by omega) ?_ | refine lss_f (by omega) ?_ | refine leq_t (by omega) ?_ | refine leq_f (by omega) ?_ | refine gtr_t (by omega) ?_ | refine gtr_f (by omega) ?_ | refine geq_t (by omega) ?_ | refine geq_f (by omega) ?_ | refine eql_t (by omega) ?_ | refine eql_f (by omega) ?_ | refine neq_t (by omega) ?_ | refine neq_f (by omega) ?_ | refine bindP_mk (by simp (disch := first | omega | exact Int.natCast_nonneg _ | assumption) only [BB, decide_true, decide_false, Bool.not_true, Bool.not_false, Option.bind_some, T.get_upd_same, T.get_upd_ne, if_pos, Nat.zero_add, Nat.mul_one, Nat.add_zero, Int.toNat_natCast, ↓reduceIte, Nat.reduceLeDiff, Nat.reduceAdd, Nat.le_refl] <;> rfl) ?_ | refine newP_mk ?_ | refine optP_mk ?_ | with_reducible refine condP_t ?_ | with_reducible refine condP_f ?_ | with_reducible refine ifP_tt' ?_ | with_reducible refine ifP_ff' ?_ | with_reducible refine ifP_tf' ?_ | with_reducible refine ifP_ft' ?_ | with_reducible refine ifP_u' ?_ | refine optP_mk0 ?_))
    refine hx _ _ _ _ (fun e => by cases e) (exP_e (beqP_t ?_))
    unfold slices_IndexFunc_api_Pos_api_Pos_j1
    rw [drop_all (by omega)] at hr
    exact ⟨_, Sub.refl _, ki hK hr.symm (by omega)⟩
theorem pos_ContainsFunc_c {ro : Ro} {v f : Value} {D : Type} {l : List D} {R : List Value → D → Prop} {q : D → Bool} (hlen : l.length ≤ 1000000) {h : T Obj} {nx : Nat} {K : KV} (hv : SlR ro h v 9 R l)
    (hf : ∀ (i : Nat) (hi : i < l.length) x n K', R x l[i] → nx ≤ n → (∀ n', n ≤ n' → K' (.bool (q l[i])) h n') → callF (callP Try.prog ro) f [.agg x.toArray] h n K')
    (hK : ∀ nx', nx ≤ nx' → K (.bool (l.any q)) h nx') : callP Try.prog ro i_slices_ContainsFunc_api_Pos_api_Pos [v, f] h nx K := by
  apply slices_ContainsFunc_api_Pos_api_Pos_of
  unfold slices_ContainsFunc_api_Pos_api_Pos
  refine pos_IndexFunc_c hlen hv (fun i hi x n K' hx hn hk => hf i hi x n K' hx (by omega) hk) fun n hn => ?_
  rw [← findI_any q l 0 (by omega)] at hK
  (first | refine lss_s (fun hb => ?_) (fun hb => ?_) | refine leq_s (fun hb => ?_) (fun hb => ?_) | refine gtr_s (fun hb => ?_) (fun hb => ?_) | refine geq_s (fun hb => ?_) (fun hb => ?_) | refine eql_s (fun hb => ?_) (fun hb => ?_) | refine neq_s (fun hb => ?_) (fun hb => ?_))
  · exact ⟨_, Sub.refl _, kb hK (decide_eq_true hb) (by omega)⟩
  · exact ⟨_, Sub.refl _, kb hK (decide_eq_false (by omega)) (by omega)⟩
theorem glush_Right_1_c {ro : Ro} {p : PosD} {nv a b : Value} {P : List PosD} {id : Nat} (hP : P.length ≤ 1000000) {h : T Obj} {nx : Nat} {K : KV} (hf : Fr h nx) (hs : p.s < 2 ^ 256) (hn : ZI ro h nv p.next)
    (g0 : h.get id = some (.cells #[a, b] y_api_Glush)) (hb : SlR ro h b 9 (RPos ro h) P) (hK : ∀ nx', nx ≤ nx' → K (.bool (!mayD P.length p)) h nx') : callP Try.prog ro i_glush_Right_1 [.agg (posL p nv).toArray, ptr id] h nx K := by
  apply glush_Right_1_of
  unfold glush_Right_1
  refine newP_mk ?_
  have hid : id < nx := by
    rcases Nat.lt_or_ge id nx with h1 | h1
    · exact h1
    · rw [hf id h1] at g0; cases g0
  have hs1 : Sub h (h.upd nx (some (.cells (Value.cells (.agg (posL p nv).toArray)) y_api_Pos))) := (Sub.refl h).new hf (Nat.le_refl _)
  have hf1 : Fr (h.upd nx (some (.cells (Value.cells (.agg (posL p nv).toArray)) y_api_Pos))) (nx + 1) := hf.upd (by omega) (by omega)
  have g : (h.upd nx (some (.cells (Value.cells (.agg (posL p nv).toArray)) y_api_Pos))).get nx = some (.cells (posL p nv).toArray y_api_Pos) := by rw [T.get_upd_same]; rfl
  have g1 := hs1 _ _ g0
  generalize h.upd nx (some (.cells (Value.cells (.agg (posL p nv).toArray)) y_api_Pos)) = h1 at hs1 hf1 g g1
  refine bindP_mk (loadA_all g rfl) ?_
  (repeat (first | refine lss_t (by omega) ?_ | refine lss_f (by omega) ?_ | refine leq_t (by omega) ?_ | refine leq_f (by omega) ?_ | refine gtr_t (by omega) ?_ | refine gtr_f (by omega) ?_ | refine geq_t (by omega) ?_ | refine geq_f (by omega) ?_ | refine eql_t (by omega) ?_ | refine eql_f (by omega) ?_ | refine neq_t (by omega) ?_ | refine neq_f (by omega) ?_ | refine bindP_mk (by simp (disch := first | omega | exact Int.natCast_nonneg _ | assumption) only [BB, decide_true, decide_false, Bool.not_true, Bool.not_false, Option.bind_some, T.get_upd_same, T.get_upd_ne, if_pos, Nat.zero_add, Nat.mul_one, Nat.add_zero, Int.toNat_natCast, ↓reduceIte, Nat.reduceLeDiff, Nat.reduceAdd, Nat.le_refl, g1] <;> rfl) ?_ | refine newP_mk ?_ | refine optP_mk ?_ | with_reducible refine condP_t ?_ | with_reducible refine condP_f ?_ | with_reducible refine ifP_tt' ?_ | with_reducible refine ifP_ff' ?_ | with_reducible refine ifP_tf' ?_ | with_reducible refine ifP_ft' ?_ | with_reducible refine ifP_u' ?_ | refine optP_mk0 ?_))
  refine bindP_mk hb.len ?_
  refine glush_may_c (by omega) (hf1.mono (by omega)) hs (hn.sub hs1) fun n hn => ?_
  (repeat (first | refine lss_t (by omega) ?_ | refine lss_f (by omega) ?_ | refine leq_t (by omega) ?_ | refine leq_f (by omega) ?_ | refine gtr_t (by omega) ?_ | refine gtr_f (by omega) ?_ | refine geq_t (by omega) ?_ | refine geq_f (by omega) ?_ | refine eql_t (by omega) ?_ | refine eql_f (by omega) ?_ | refine neq_t (by omega) ?_ | refine neq_f (by omega) ?_ | refine bindP_mk (by simp (disch := first | omega | exact Int.natCast_nonneg _ | assumption) only [BB, decide_true, decide_false, Bool.not_true, Bool.not_false, Option.bind_some, T.get_upd_same, T.get_upd_ne, if_pos, Nat.zero_add, Nat.mul_one, Nat.add_zero, Int.toNat_natCast, ↓reduceIte, Nat.reduceLeDiff, Nat.reduceAdd, Nat.le_refl] <;> rfl) ?_ | refine newP_mk ?_ | refine optP_mk ?_ | with_reducible refine condP_t ?_ | with_reducible refine condP_f ?_ | with_reducible refine ifP_tt' ?_ | with_reducible refine ifP_ff' ?_ | with_reducible refine ifP_tf' ?_ | with_reducible refine ifP_ft' ?_ | with_reducible refine ifP_u' ?_ | refine optP_mk0 ?_))
  exact ⟨h, hs1, hK _ (by omega)⟩
theorem all_not {D : Type} (q : D → Bool) (l : List D) : (!(l.any fun x => !q x)) = l.all q := by
  induction l with
  | nil => rfl
  | cons x r ih => rw [List.any_cons, List.all_cons, Bool.not_or, ih, Bool.not_not]
theorem glush_Right_c {ro : Ro} {v : Value} {g : GlD} {h : T Obj} {nx : Nat} {K : KV} (hf : Fr h nx) (hg : RG ro h v g) (hK : ∀ nx', nx ≤ nx' → K (.bool (rightD g)) h nx') : callP Try.prog ro i_glush_Right [v] h nx K := by
  obtain ⟨a, b, rfl, ha, hb⟩ := hg
  apply glush_Right_of
  unfold glush_Right
  refine newP_mk ?_
  have hs1 : Sub h (h.upd nx (some (.cells (Value.cells (.agg #[a, b])) y_api_Glush))) := (Sub.refl h).new hf (Nat.le_refl _)
  have hf1 : Fr (h.upd nx (some (.cells (Value.cells (.agg #[a, b])) y_api_Glush))) (nx + 1) := hf.upd (by omega) (by omega)
  have g1 : (h.upd nx (some (.cells (Value.cells (.agg #[a, b])) y_api_Glush))).get nx = some (.cells #[a, b] y_api_Glush) := by rw [T.get_upd_same]; rfl
  generalize h.upd nx (some (.cells (Value.cells (.agg #[a, b])) y_api_Glush)) = h1 at hs1 hf1 g1
  have hK' : ∀ (c : Bool) n, rightD g = c → nx ≤ n → ∃ h', Sub h' h1 ∧ K (.bool c) h' n := fun c n e hn => ⟨h, hs1, kb hK e hn⟩
  unfold rightD at hK'
  have hl := hb.len
  have hb1 := hb.sub hs1 (RPos.sub hs1)
  (repeat (first | refine lss_t (by omega) ?_ | refine lss_f (by omega) ?_ | refine leq_t (by omega) ?_ | refine leq_f (by omega) ?_ | refine gtr_t (by omega) ?_ | refine gtr_f (by omega) ?_ | refine geq_t (by omega) ?_ | refine geq_f (by omega) ?_ | refine eql_t (by omega) ?_ | refine eql_f (by omega) ?_ | refine neq_t (by omega) ?_ | refine neq_f (by omega) ?_ | refine bindP_mk (by simp (disch := first | omega | exact Int.natCast_nonneg _ | assumption) only [BB, decide_true, decide_false, Bool.not_true, Bool.not_false, Option.bind_some, T.get_upd_same, T.get_upd_ne, if_pos, Nat.zero_add, Nat.mul_one, Nat.add_zero, Int.toNat_natCast, ↓reduceIte, Nat.reduceLeDiff, Nat.reduceAdd, Nat.le_refl, g1, hl] <;> rfl) ?_ | refine newP_mk ?_ | refine optP_mk ?_ | with_reducible refine condP_t ?_ | with_reducible refine condP_f ?_ | with_reducible refine ifP_tt' ?_ | with_reducible refine ifP_ff' ?_ | with_reducible refine ifP_tf' ?_ | with_reducible refine ifP_ft' ?_ | with_reducible refine ifP_u' ?_ | refine optP_mk0 ?_))
  (first | refine lss_s (fun hb => ?_) (fun hb => ?_) | refine leq_s (fun hb => ?_) (fun hb => ?_) | refine gtr_s (fun hb => ?_) (fun hb => ?_) | refine geq_s (fun hb => ?_) (fun hb => ?_) | refine eql_s (fun hb => ?_) (fun hb => ?_) | refine neq_s (fun hb => ?_) (fun hb => ?_))
  · (repeat (first | refine lss_t (by omega) ?_ | refine lss_f (by omega) ?_ | refine leq_t (by omega) ?_ | refine leq_f (by omega) ?_ | refine gtr_t (by omega) ?_ | refine gtr_f (by omega) ?_ | refine geq_t (by omega) ?_ | refine geq_f (by omega) ?_ | refine eql_t (by omega) ?_ | refine eql_f (by omega) ?_ | refine neq_t (by omega) ?_ | refine neq_f (by omega) ?_ | refine bindP_mk (by simp (disch := first | omega | exact Int.natCast_nonneg _ | assumption) only [BB, decide_true, decide_false, Bool.not_true, Bool.not_false, Option.bind_some, T.get_upd_same, T.get_upd_ne, if_pos, Nat.zero_add, Nat.mul_one, Nat.add_zero, Int.toNat_natCast, ↓reduceIte, Nat.reduceLeDiff, Nat.reduceAdd, Nat.le_refl, g1, hl] <;> rfl) ?_ | refine newP_mk ?_ | refine optP_mk ?_ | with_reducible refine condP_t ?_ | with_reducible refine condP_f ?_ | with_reducible refine ifP_tt' ?_ | with_reducible refine ifP_ff' ?_ | with_reducible refine ifP_tf' ?_ | with_reducible refine ifP_ft' ?_ | with_reducible refine ifP_u' ?_ | refine optP_mk0 ?_))
    exact hK' _ _ (by rw [decide_eq_false (by omega)]; rfl) (by omega)
  · (repeat (first | refine lss_t (by omega) ?_ | refine lss_f (by omega) ?_ | refine leq_t (by omega) ?_ | refine leq_f (by omega) ?_ | refine gtr_t (by omega) ?_ | refine gtr_f (by omega) ?_ | refine geq_t (by omega) ?_ | refine geq_f (by omega) ?_ | refine eql_t (by omega) ?_ | refine eql_f (by omega) ?_ | refine neq_t (by omega) ?_ | refine neq_f (by omega) ?_ | refine bindP_mk (by simp (disch := first | omega | exact Int.natCast_nonneg _ | assumption) only [BB, decide_true, decide_false, Bool.not_true, Bool.not_false, Option.bind_some, T.get_upd_same, T.get_upd_ne, if_pos, Nat.zero_add, Nat.mul_one, Nat.add_zero, Int.toNat_natCast, ↓reduceIte, Nat.reduceLeDiff, Nat.reduceAdd, Nat.le_refl, g1, hl] <;> rfl) ?_ | refine newP_mk ?_ | refine optP_mk ?_ | with_reducible refine condP_t ?_ | with_reducible refine condP_f ?_ | with_reducible refine ifP_tt' ?_ | with_reducible refine ifP_ff' ?_ | with_reducible refine ifP_tf' ?_ | with_reducible refine ifP_ft' ?_ | with_reducible refine ifP_u' ?_ | refine optP_mk0 ?_))
    refine glush_rises_c (by omega) (ha.sub hs1) fun n hn => ?_
    cases hr : rz (-1) g.p.length g.first with
    | false =>
      (repeat (first | refine lss_t (by omega) ?_ | refine lss_f (by omega) ?_ | refine leq_t (by omega) ?_ | refine leq_f (by omega) ?_ | refine gtr_t (by omega) ?_ | refine gtr_f (by omega) ?_ | refine geq_t (by omega) ?_ | refine geq_f (by omega) ?_ | refine eql_t (by omega) ?_ | refine eql_f (by omega) ?_ | refine neq_t (by omega) ?_ | refine neq_f (by omega) ?_ | refine bindP_mk (by simp (disch := first | omega | exact Int.natCast_nonneg _ | assumption) only [BB, decide_true, decide_false, Bool.not_true, Bool.not_false, Option.bind_some, T.get_upd_same, T.get_upd_ne, if_pos, Nat.zero_add, Nat.mul_one, Nat.add_zero, Int.toNat_natCast, ↓reduceIte, Nat.reduceLeDiff, Nat.reduceAdd, Nat.le_refl, g1, hl] <;> rfl) ?_ | refine newP_mk ?_ | refine optP_mk ?_ | with_reducible refine condP_t ?_ | with_reducible refine condP_f ?_ | with_reducible refine ifP_tt' ?_ | with_reducible refine ifP_ff' ?_ | with_reducible refine ifP_tf' ?_ | with_reducible refine ifP_ft' ?_ | with_reducible refine ifP_u' ?_ | refine optP_mk0 ?_))
      exact hK' _ _ (by rw [hr]; simp) (by omega)
    | true =>
      (repeat (first | refine lss_t (by omega) ?_ | refine lss_f (by omega) ?_ | refine leq_t (by omega) ?_ | refine leq_f (by omega) ?_ | refine gtr_t (by omega) ?_ | refine gtr_f (by omega) ?_ | refine geq_t (by omega) ?_ | refine geq_f (by omega) ?_ | refine eql_t (by omega) ?_ | refine eql_f (by omega) ?_ | refine neq_t (by omega) ?_ | refine neq_f (by omega) ?_ | refine bindP_mk (by simp (disch := first | omega | exact Int.natCast_nonneg _ | assumption) only [BB, decide_true, decide_false, Bool.not_true, Bool.not_false, Option.bind_some, T.get_upd_same, T.get_upd_ne, if_pos, Nat.zero_add, Nat.mul_one, Nat.add_zero, Int.toNat_natCast, ↓reduceIte, Nat.reduceLeDiff, Nat.reduceAdd, Nat.le_refl, g1, hl] <;> rfl) ?_ | refine newP_mk ?_ | refine optP_mk ?_ | with_reducible refine condP_t ?_ | with_reducible refine condP_f ?_ | with_reducible refine ifP_tt' ?_ | with_reducible refine ifP_ff' ?_ | with_reducible refine ifP_tf' ?_ | with_reducible refine ifP_ft' ?_ | with_reducible refine ifP_u' ?_ | refine optP_mk0 ?_))
      refine pos_ContainsFunc_c (q := fun p => !mayD g.p.length p) (by omega) hb1 (fun i hi x n' K' hx hn' hk' => ?_) fun n' hn' => ?_
      · obtain ⟨nv, rfl, h2, h3⟩ := hx
        exact glush_Right_1_c (by omega) (hf1.mono (by omega)) h3 h2 g1 hb1 hk'
      · (repeat (first | refine lss_t (by omega) ?_ | refine lss_f (by omega) ?_ | refine leq_t (by omega) ?_ | refine leq_f (by omega) ?_ | refine gtr_t (by omega) ?_ | refine gtr_f (by omega) ?_ | refine geq_t (by omega) ?_ | refine geq_f (by omega) ?_ | refine eql_t (by omega) ?_ | refine eql_f (by omega) ?_ | refine neq_t (by omega) ?_ | refine neq_f (by omega) ?_ | refine bindP_mk (by simp (disch := first | omega | exact Int.natCast_nonneg _ | assumption) only [BB, decide_true, decide_false, Bool.not_true, Bool.not_false, Option.bind_some, T.get_upd_same, T.get_upd_ne, if_pos, Nat.zero_add, Nat.mul_one, Nat.add_zero, Int.toNat_natCast, ↓reduceIte, Nat.reduceLeDiff, Nat.reduceAdd, Nat.le_refl] <;> rfl) ?_ | refine newP_mk ?_ | refine optP_mk ?_ | with_reducible refine condP_t ?_ | with_reducible refine condP_f ?_ | with_reducible refine ifP_tt' ?_ | with_reducible refine ifP_ff' ?_ | with_reducible refine ifP_tf' ?_ | with_reducible refine ifP_ft' ?_ | with_reducible refine ifP_u' ?_ | refine optP_mk0 ?_))
        refine hK' _ _ ?_ (by omega)
        rw [all_not, decide_eq_true (by omega), hr]; rfl
end V
end Go.Proofs.Ytepbdkfkfcckoaa

/- What the reference's Right (places) hands back.
   No condition. -/
set_option linter.unusedVariables false
set_option linter.unusedSimpArgs false
namespace Go.Proofs.Ytepbdkfkfcckoaa
namespace V
open PA
attribute [local irreducible] bindP ifP condP newP optP exP beqP
set_option maxRecDepth 4000 in
theorem ref09_rises_c {ro : Ro} {v : Value} {l : List Int} {many : Int} (hm : many ≤ 1000000) {h : T Obj} {nx : Nat} {K : KV} (hv : ZI ro h v l) (hK : ∀ nx', nx ≤ nx' → K (.bool (rz (-1) many l)) h nx') : callP Try.prog ro i_ref09_rises [v, .int .i64 many] h nx K := by
  apply ref09_rises_of
  unfold ref09_rises
  generalize hR : rz (-1) many l = R at hK
  refine loopP_rule (fun j e h' nx' => ∃ (k : Nat) (last : Int), k + j = l.length ∧ nx ≤ nx' ∧ h' = h ∧ e 0 = v ∧ e 1 = .int .i64 many ∧ e 5 = .int .i64 k ∧ (k : Int) ≤ last + 1 ∧ last ≤ 1000000 ∧ (k = 0 → last = -1) ∧ (∀ q, q + 1 = k → l[q]? = some last) ∧ rz last many (l.drop k) = R) ?_ (n := l.length) ⟨0, -1, by omega, by omega, rfl, rfl, rfl, rfl, by omega, by omega, fun _ => rfl, fun q hq => by omega, hR⟩
  rintro j e h' nx' ⟨k, last, hj, hnx, rfl, e0, e1, e5, hk1, hk2, hk0, hkp, hr⟩ Q' hq hx
  unfold ref09_rises_L1
  rw [e0, e1, e5]
  refine bindP_mk hv.len ?_
  refine lss_s (fun hk => ?_) (fun hk => ?_)
  · have hk : k < l.length := by omega
    have hxk : l[k]? = some l[k] := List.getElem?_eq_getElem hk
    rw [drop_cons hk, rz_cons] at hr
    (repeat (first | refine lss_t (by omega) ?_ | refine lss_f (by omega) ?_ | refine leq_t (by omega) ?_ | refine leq_f (by omega) ?_ | refine gtr_t (by omega) ?_ | refine gtr_f (by omega) ?_ | refine geq_t (by omega) ?_ | refine geq_f (by omega) ?_ | refine eql_t (by omega) ?_ | refine eql_f (by omega) ?_ | refine neq_t (by omega) ?_ | refine neq_f (by omega) ?_ | refine bindP_mk (by simp (disch := first | omega | exact Int.natCast_nonneg _ | assumption) only [BB, decide_true, decide_false, Bool.not_true, Bool.not_false, Option.bind_some, T.get_upd_same, T.get_upd_ne, if_pos, Nat.zero_add, Nat.mul_one, Nat.add_zero, Int.toNat_natCast, ↓reduceIte, Nat.reduceLeDiff, Nat.reduceAdd, Nat.le_refl] <;> rfl) ?_ | refine newP_mk ?_ | refine optP_mk ?_ | with_reducible refine condP_t ?_ | with_reducible refine condP_f ?_ | with_reducible refine ifP_tt' ?_ | with_reducible refine ifP_ff' ?_ | with_reducible refine ifP_tf' ?_ | with_reducible refine ifP_ft' ?_ | with_reducible refine ifP_u' ?_ | refine optP_mk0 ?_))
    refine bindP_mk (hv.ix _ hk) (bindP_mk (hv.load hk) ?_)
    generalize l[k] = x at hr hxk
    have hfin : ∀ (e' : Env) n, e' 4 = .bool false → (¬ last < x ∨ ¬ x < many) → nx ≤ n → Q' .ret e' h' n := fun e' n h4 hc hn => by
      refine hx _ _ _ _ (fun e => by cases e) (exP_r ?_)
      rw [h4]
      refine ⟨_, Sub.refl _, kb hK ?_ hn⟩
      rw [← hr]
      rcases hc with hc | hc
      · rw [decide_eq_false hc]; rfl
      · rw [decide_eq_false hc]; simp
    have hok : ∀ (e' : Env) n, e' 0 = v → e' 1 = .int .i64 many → e' 5 = .int .i64 ((k : Int) + 1) → last < x → x < many → nx ≤ n → Q' .normal e' h' n := fun e' n g0 g1 g5 hc1 hc2 hn => by
      refine hq (j - 1) _ _ _ _ (by omega) ⟨k + 1, x, by omega, hn, rfl, g0, g1, g5, by omega, by omega, fun h => by omega, fun q hq => ?_, ?_⟩ (Sub.refl _)
      · have : q = k := by omega
        subst this; exact hxk
      · rw [← hr, decide_eq_true hc1, decide_eq_true hc2]; rfl
    (first | refine lss_s (fun hb => ?_) (fun hb => ?_) | refine leq_s (fun hb => ?_) (fun hb => ?_) | refine gtr_s (fun hb => ?_) (fun hb => ?_) | refine geq_s (fun hb => ?_) (fun hb => ?_) | refine eql_s (fun hb => ?_) (fun hb => ?_) | refine neq_s (fun hb => ?_) (fun hb => ?_))
    · (repeat (first | refine lss_t (by omega) ?_ | refine lss_f (by omega) ?_ | refine leq_t (by omega) ?_ | refine leq_f (by omega) ?_ | refine gtr_t (by omega) ?_ | refine gtr_f (by omega) ?_ | refine geq_t (by omega) ?_ | refine geq_f (by omega) ?_ | refine eql_t (by omega) ?_ | refine eql_f (by omega) ?_ | refine neq_t (by omega) ?_ | refine neq_f (by omega) ?_ | refine bindP_mk (by simp (disch := first | omega | exact Int.natCast_nonneg _ | assumption) only [BB, decide_true, decide_false, Bool.not_true, Bool.not_false, Option.bind_some, T.get_upd_same, T.get_upd_ne, if_pos, Nat.zero_add, Nat.mul_one, Nat.add_zero, Int.toNat_natCast, ↓reduceIte, Nat.reduceLeDiff, Nat.reduceAdd, Nat.le_refl] <;> rfl) ?_ | refine newP_mk ?_ | refine optP_mk ?_ | with_reducible refine condP_t ?_ | with_reducible refine condP_f ?_ | with_reducible refine ifP_tt' ?_ | with_reducible refine ifP_ff' ?_ | with_reducible refine ifP_tf' ?_ | with_reducible refine ifP_ft' ?_ | with_reducible refine ifP_u' ?_ | refine optP_mk0 ?_))
      exact hfin _ _ rfl (.inl (by omega)) (by omega)
    · (repeat (first | refine lss_t (by omega) ?_ | refine lss_f (by omega) ?_ | refine leq_t (by omega) ?_ | refine leq_f (by omega) ?_ | refine gtr_t (by omega) ?_ | refine gtr_f (by omega) ?_ | refine geq_t (by omega) ?_ | refine geq_f (by omega) ?_ | refine eql_t (by omega) ?_ | refine eql_f (by omega) ?_ | refine neq_t (by omega) ?_ | refine neq_f (by omega) ?_ | refine bindP_mk (by simp (disch := first | omega | exact Int.natCast_nonneg _ | assumption) only [BB, decide_true, decide_false, Bool.not_true, Bool.not_false, Option.bind_some, T.get_upd_same, T.get_upd_ne, if_pos, Nat.zero_add, Nat.mul_one, Nat.add_zero, Int.toNat_natCast, ↓reduceIte, Nat.reduceLeDiff, Nat.reduceAdd, Nat.le_refl] <;> rfl) ?_ | refine newP_mk ?_ | refine optP_mk ?_ | with_reducible refine condP_t ?_ | with_reducible refine condP_f ?_ | with_reducible refine ifP_tt' ?_ | with_reducible refine ifP_ff' ?_ | with_reducible refine ifP_tf' ?_ | with_reducible refine ifP_ft' ?_ | with_reducible refine ifP_u' ?_ | refine optP_mk0 ?_))
      refine bindP_mk (hv.ix _ hk) ?_
      (repeat (first | refine lss_t (by omega) ?_ | refine lss_f (by omega) ?_ | refine leq_t (by omega) ?_ | refine leq_f (by omega) ?_ | refine gtr_t (by omega) ?_ | refine gtr_f (by omega) ?_ | refine geq_t (by omega) ?_ | refine geq_f (by omega) ?_ | refine eql_t (by omega) ?_ | refine eql_f (by omega) ?_ | refine neq_t (by omega) ?_ | refine neq_f (by omega) ?_ | refine bindP_mk (by simp (disch := first | omega | exact Int.natCast_nonneg _ | assumption) only [BB, decide_true, decide_false, Bool.not_true, Bool.not_false, Option.bind_some, T.get_upd_same, T.get_upd_ne, if_pos, Nat.zero_add, Nat.mul_one, Nat.add_zero, Int.toNat_natCast, ↓reduceIte, Nat.reduceLeDiff, Nat.reduceAdd, Nat.le_refl] <;> rfl) ?_ | refine newP_mk ?_ | refine optP_mk ?_ | with_reducible refine condP_t ?_ | with_reducible refine condP_f ?_ | with_reducible refine ifP_tt' ?_ | with_reducible refine ifP_ff' ?_ | with_reducible refine ifP_tf' ?_ | with_reducible refine ifP_ft' ?_ | with_reducible refine ifP_u' ?_ | refine optP_mk0 ?_))
      refine bindP_mk (hv.load' hxk) ?_
      (repeat (first | refine lss_t (by omega) ?_ | refine lss_f (by omega) ?_ | refine leq_t (by omega) ?_ | refine leq_f (by omega) ?_ | refine gtr_t (by omega) ?_ | refine gtr_f (by omega) ?_ | refine geq_t (by omega) ?_ | refine geq_f (by omega) ?_ | refine eql_t (by omega) ?_ | refine eql_f (by omega) ?_ | refine neq_t (by omega) ?_ | refine neq_f (by omega) ?_ | refine bindP_mk (by simp (disch := first | omega | exact Int.natCast_nonneg _ | assumption) only [BB, decide_true, decide_false, Bool.not_true, Bool.not_false, Option.bind_some, T.get_upd_same, T.get_upd_ne, if_pos, Nat.zero_add, Nat.mul_one, Nat.add_zero, Int.toNat_natCast, ↓reduceIte, Nat.reduceLeDiff, Nat.reduceAdd, Nat.le_refl] <;> rfl) ?_ | refine newP_mk ?_ | refine optP_mk ?_ | with_reducible refine condP_t ?_ | with_reducible refine condP_f ?_ | with_reducible refine ifP_tt' ?_ | with_reducible refine ifP_ff' ?_ | with_reducible refine ifP_tf' ?_ | with_reducible refine ifP_ft' ?_ | with_reducible refine ifP_u' ?_ | refine optP_mk0 ?_))
      (first | refine lss_s (fun hb => ?_) (fun hb => ?_) | refine leq_s (fun hb => ?_) (fun hb => ?_) | refine gtr_s (fun hb => ?_) (fun hb => ?_) | refine geq_s (fun hb => ?_) (fun hb => ?_) | refine eql_s (fun hb => ?_) (fun hb => ?_) | refine neq_s (fun hb => ?_) (fun hb => ?_))
      · (repeat (first | refine lss_t (by omega) ?_ | refine lss_f (by omega) ?_ | refine leq_t (by omega) ?_ | refine leq_f (by omega) ?_ | refine gtr_t (by omega) ?_ | refine gtr_f (by omega) ?_ | refine geq_t (by omega) ?_ | refine geq_f (by omega) ?_ | refine eql_t (by omega) ?_ | refine eql_f (by omega) ?_ | refine neq_t (by omega) ?_ | refine neq_f (by omega) ?_ | refine bindP_mk (by simp (disch := first | omega | exact Int.natCast_nonneg _ | assumption) only [BB, decide_true, decide_false, Bool.not_true, Bool.not_false, Option.bind_some, T.get_upd_same, T.get_upd_ne, if_pos, Nat.zero_add, Nat.mul_one, Nat.add_zero, Int.toNat_natCast, ↓reduceIte, Nat.reduceLeDiff, Nat.reduceAdd, Nat.le_refl] <;> rfl) ?_ | refine newP_mk ?_ | refine optP_mk ?_ | with_reducible refine condP_t ?_ | with_reducible refine condP_f ?_ | with_reducible refine ifP_tt' ?_ | with_reducible refine ifP_ff' ?_ | with_reducible refine ifP_tf' ?_ | with_reducible refine ifP_ft' ?_ | with_reducible refine ifP_u' ?_ | refine optP_mk0 ?_))
        exact hfin _ _ rfl (.inr (by omega)) (by omega)
      · (repeat (first | refine lss_t (by omega) ?_ | refine lss_f (by omega) ?_ | refine leq_t (by omega) ?_ | refine leq_f (by omega) ?_ | refine gtr_t (by omega) ?_ | refine gtr_f (by omega) ?_ | refine geq_t (by omega) ?_ | refine geq_f (by omega) ?_ | refine eql_t (by omega) ?_ | refine eql_f (by omega) ?_ | refine neq_t (by omega) ?_ | refine neq_f (by omega) ?_ | refine bindP_mk (by simp (disch := first | omega | exact Int.natCast_nonneg _ | assumption) only [BB, decide_true, decide_false, Bool.not_true, Bool.not_false, Option.bind_some, T.get_upd_same, T.get_upd_ne, if_pos, Nat.zero_add, Nat.mul_one, Nat.add_zero, Int.toNat_natCast, ↓reduceIte, Nat.reduceLeDiff, Nat.reduceAdd, Nat.le_refl] <;> rfl) ?_ | refine newP_mk ?_ | refine optP_mk ?_ | with_reducible refine condP_t ?_ | with_reducible refine condP_f ?_ | with_reducible refine ifP_tt' ?_ | with_reducible refine ifP_ff' ?_ | with_reducible refine ifP_tf' ?_ | with_reducible refine ifP_ft' ?_ | with_reducible refine ifP_u' ?_ | refine optP_mk0 ?_))
        (first | refine lss_s (fun hb => ?_) (fun hb => ?_) | refine leq_s (fun hb => ?_) (fun hb => ?_) | refine gtr_s (fun hb => ?_) (fun hb => ?_) | refine geq_s (fun hb => ?_) (fun hb => ?_) | refine eql_s (fun hb => ?_) (fun hb => ?_) | refine neq_s (fun hb => ?_) (fun hb => ?_))
        · have h2 := hkp (k - 1) (by omega)
          have h3 := (List.getElem?_eq_some_iff.1 h2).1
          have h4 : ((k : Int) - 1).toNat = k - 1 := by omega
          (repeat (first | refine lss_t (by omega) ?_ | refine lss_f (by omega) ?_ | refine leq_t (by omega) ?_ | refine leq_f (by omega) ?_ | refine gtr_t (by omega) ?_ | refine gtr_f (by omega) ?_ | refine geq_t (by omega) ?_ | refine geq_f (by omega) ?_ | refine eql_t (by omega) ?_ | refine eql_f (by omega) ?_ | refine neq_t (by omega) ?_ | refine neq_f (by omega) ?_ | refine bindP_mk (by simp (disch := first | omega | exact Int.natCast_nonneg _ | assumption) only [BB, decide_true, decide_false, Bool.not_true, Bool.not_false, Option.bind_some, T.get_upd_same, T.get_upd_ne, if_pos, Nat.zero_add, Nat.mul_one, Nat.add_zero, Int.toNat_natCast, ↓reduceIte, Nat.reduceLeDiff, Nat.reduceAdd, Nat.le_refl] <;> rfl) ?_ | refine newP_mk ?_ | refine optP_mk ?_ | with_reducible refine condP_t ?_ | with_reducible refine condP_f ?_ | with_reducible refine ifP_tt' ?_ | with_reducible refine ifP_ff' ?_ | with_reducible refine ifP_tf' ?_ | with_reducible refine ifP_ft' ?_ | with_reducible refine ifP_u' ?_ | refine optP_mk0 ?_))
          refine bindP_mk (hv.ixI _ (by omega) (by omega)) ?_
          rw [h4]
          (repeat (first | refine lss_t (by omega) ?_ | refine lss_f (by omega) ?_ | refine leq_t (by omega) ?_ | refine leq_f (by omega) ?_ | refine gtr_t (by omega) ?_ | refine gtr_f (by omega) ?_ | refine geq_t (by omega) ?_ | refine geq_f (by omega) ?_ | refine eql_t (by omega) ?_ | refine eql_f (by omega) ?_ | refine neq_t (by omega) ?_ | refine neq_f (by omega) ?_ | refine bindP_mk (by simp (disch := first | omega | exact Int.natCast_nonneg _ | assumption) only [BB, decide_true, decide_false, Bool.not_true, Bool.not_false, Option.bind_some, T.get_upd_same, T.get_upd_ne, if_pos, Nat.zero_add, Nat.mul_one, Nat.add_zero, Int.toNat_natCast, ↓reduceIte, Nat.reduceLeDiff, Nat.reduceAdd, Nat.le_refl] <;> rfl) ?_ | refine newP_mk ?_ | refine optP_mk ?_ | with_reducible refine condP_t ?_ | with_reducible refine condP_f ?_ | with_reducible refine ifP_tt' ?_ | with_reducible refine ifP_ff' ?_ | with_reducible refine ifP_tf' ?_ | with_reducible refine ifP_ft' ?_ | with_reducible refine ifP_u' ?_ | refine optP_mk0 ?_))
          refine bindP_mk (hv.load' h2) ?_
          (repeat (first | refine lss_t (by omega) ?_ | refine lss_f (by omega) ?_ | refine leq_t (by omega) ?_ | refine leq_f (by omega) ?_ | refine gtr_t (by omega) ?_ | refine gtr_f (by omega) ?_ | refine geq_t (by omega) ?_ | refine geq_f (by omega) ?_ | refine eql_t (by omega) ?_ | refine eql_f (by omega) ?_ | refine neq_t (by omega) ?_ | refine neq_f (by omega) ?_ | refine bindP_mk (by simp (disch := first | omega | exact Int.natCast_nonneg _ | assumption) only [BB, decide_true, decide_false, Bool.not_true, Bool.not_false, Option.bind_some, T.get_upd_same, T.get_upd_ne, if_pos, Nat.zero_add, Nat.mul_one, Nat.add_zero, Int.toNat_natCast, ↓reduceIte, Nat.reduceLeDiff, Nat.reduceAdd, Nat.le_refl] <;> rfl) ?_ | refine newP_mk ?_ | refine optP_mk ?_ | with_reducible refine condP_t ?_ | with_reducible refine condP_f ?_ | with_reducible refine ifP_tt' ?_ | with_reducible refine ifP_ff' ?_ | with_reducible refine ifP_tf' ?_ | with_reducible refine ifP_ft' ?_ | with_reducible refine ifP_u' ?_ | refine optP_mk0 ?_))
          refine bindP_mk (hv.ix _ hk) ?_
          (repeat (first | refine lss_t (by omega) ?_ | refine lss_f (by omega) ?_ | refine leq_t (by omega) ?_ | refine leq_f (by omega) ?_ | refine gtr_t (by omega) ?_ | refine gtr_f (by omega) ?_ | refine geq_t (by omega) ?_ | refine geq_f (by omega) ?_ | refine eql_t (by omega) ?_ | refine eql_f (by omega) ?_ | refine neq_t (by omega) ?_ | refine neq_f (by omega) ?_ | refine bindP_mk (by simp (disch := first | omega | exact Int.natCast_nonneg _ | assumption) only [BB, decide_true, decide_false, Bool.not_true, Bool.not_false, Option.bind_some, T.get_upd_same, T.get_upd_ne, if_pos, Nat.zero_add, Nat.mul_one, Nat.add_zero, Int.toNat_natCast, ↓reduceIte, Nat.reduceLeDiff, Nat.reduceAdd, Nat.le_refl] <;> rfl) ?_ | refine newP_mk ?_ | refine optP_mk ?_ | with_reducible refine condP_t ?_ | with_reducible refine condP_f ?_ | with_reducible refine ifP_tt' ?_ | with_reducible refine ifP_ff' ?_ | with_reducible refine ifP_tf' ?_ | with_reducible refine ifP_ft' ?_ | with_reducible refine ifP_u' ?_ | refine optP_mk0 ?_))
          refine bindP_mk (hv.load' hxk) ?_
          (repeat (first | refine lss_t (by omega) ?_ | refine lss_f (by omega) ?_ | refine leq_t (by omega) ?_ | refine leq_f (by omega) ?_ | refine gtr_t (by omega) ?_ | refine gtr_f (by omega) ?_ | refine geq_t (by omega) ?_ | refine geq_f (by omega) ?_ | refine eql_t (by omega) ?_ | refine eql_f (by omega) ?_ | refine neq_t (by omega) ?_ | refine neq_f (by omega) ?_ | refine bindP_mk (by simp (disch := first | omega | exact Int.natCast_nonneg _ | assumption) only [BB, decide_true, decide_false, Bool.not_true, Bool.not_false, Option.bind_some, T.get_upd_same, T.get_upd_ne, if_pos, Nat.zero_add, Nat.mul_one, Nat.add_zero, Int.toNat_natCast, ↓reduceIte, Nat.reduceLeDiff, Nat.reduceAdd, Nat.le_refl] <;> rfl) ?_ | refine newP_mk ?_ | refine optP_mk ?_ | with_reducible refine condP_t ?_ | with_reducible refine condP_f ?_ | with_reducible refine ifP_tt' ?_ | with_reducible refine ifP_ff' ?_ | with_reducible refine ifP_tf' ?_ | with_reducible refine ifP_ft' ?_ | with_reducible refine ifP_u' ?_ | refine optP_mk0 ?_))
          (first | refine lss_s (fun hb => ?_) (fun hb => ?_) | refine leq_s (fun hb => ?_) (fun hb => ?_) | refine gtr_s (fun hb => ?_) (fun hb => ?_) | refine geq_s (fun hb => ?_) (fun hb => ?_) | refine eql_s (fun hb => ?_) (fun hb => ?_) | refine neq_s (fun hb => ?_) (fun hb => ?_))
          · (repeat (first | refine lss_t (by omega) ?_ | refine lss_f (by omega) ?_ | refine leq_t (by omega) ?_ | refine leq_f (by omega) ?_ | refine gtr_t (by omega) ?_ | refine gtr_f (by omega) ?_ | refine geq_t (by omega) ?_ | refine geq_f (by omega) ?_ | refine eql_t (by omega) ?_ | refine eql_f (by omega) ?_ | refine neq_t (by omega) ?_ | refine neq_f (by omega) ?_ | refine bindP_mk (by simp (disch := first | omega | exact Int.natCast_nonneg _ | assumption) only [BB, decide_true, decide_false, Bool.not_true, Bool.not_false, Option.bind_some, T.get_upd_same, T.get_upd_ne, if_pos, Nat.zero_add, Nat.mul_one, Nat.add_zero, Int.toNat_natCast, ↓reduceIte, Nat.reduceLeDiff, Nat.reduceAdd, Nat.le_refl] <;> rfl) ?_ | refine newP_mk ?_ | refine optP_mk ?_ | with_reducible refine condP_t ?_ | with_reducible refine condP_f ?_ | with_reducible refine ifP_tt' ?_ | with_reducible refine ifP_ff' ?_ | with_reducible refine ifP_tf' ?_ | with_reducible refine ifP_ft' ?_ | with_reducible refine ifP_u' ?_ | refine optP_mk0 ?_))
            exact hfin _ _ rfl (.inl (by omega)) (by omega)
          · (repeat (first | refine lss_t (by omega) ?_ | refine lss_f (by omega) ?_ | refine leq_t (by omega) ?_ | refine leq_f (by omega) ?_ | refine gtr_t (by omega) ?_ | refine gtr_f (by omega) ?_ | refine geq_t (by omega) ?_ | refine geq_f (by omega) ?_ | refine eql_t (by omega) ?_ | refine eql_f (by omega) ?_ | refine neq_t (by omega) ?_ | refine neq_f (by omega) ?_ | refine bindP_mk (by simp (disch := first | omega | exact Int.natCast_nonneg _ | assumption) only [BB, decide_true, decide_false, Bool.not_true, Bool.not_false, Option.bind_some, T.get_upd_same, T.get_upd_ne, if_pos, Nat.zero_add, Nat.mul_one, Nat.add_zero, Int.toNat_natCast, ↓reduceIte, Nat.reduceLeDiff, Nat.reduceAdd, Nat.le_refl] <;> rfl) ?_ | refine newP_mk ?_ | refine optP_mk ?_ | with_reducible refine condP_t ?_ | with_reducible refine condP_f ?_ | with_reducible refine ifP_tt' ?_ | with_reducible refine ifP_ff' ?_ | with_reducible refine ifP_tf' ?_ | with_reducible refine ifP_ft' ?_ | with_reducible refine ifP_u' ?_ | refine optP_mk0 ?_))
            exact hok _ _ e0 e1 rfl (by omega) (by omega) (by omega)
        · (repeat (first | refine lss_t (by omega) ?_ | refine lss_f (by omega) ?_ | refine leq_t (by omega) ?_ | refine leq_f (by omega) ?_ | refine gtr_t (by omega) ?_ | refine gtr_f (by omega) ?_ | refine geq_t (by omega) ?_ | refine geq_f (by omega) ?_ | refine eql_t (by omega) ?_ | refine eql_f (by omega) ?_ | refine neq_t (by omega) ?_ | refine neq_f (by omega) ?_ | refine bindP_mk (by simp (disch := first | omega | exact Int.natCast_nonneg _ | assumption) only [BB, decide_true, decide_false, Bool.not_true, Bool.not_false, Option.bind_some, T.get_upd_same, T.get_upd_ne, if_pos, Nat.zero_add, Nat.mul_one, Nat.add_zero, Int.toNat_natCast, ↓reduceIte, Nat.reduceLeDiff, Nat.reduceAdd, Nat.le_refl] <;> rfl) ?_ | refine newP_mk ?_ | refine optP_mk ?_ | with_reducible refine condP_t ?_ | with_reducible refine condP_f ?_ | with_reducible refine ifP_tt' ?_ | with_reducible refine ifP_ff' ?_ | with_reducible refine ifP_tf' ?_ | with_reducible refine ifP_ft' ?_ | with_reducible refine ifP_u' ?_ | refine optP_mk0 ?_))
          exact hok _ _ e0 e1 rfl (by omega) (by omega) (by omega)
  · (repeat (first | refine lss_t (by omega) ?_ | refine lss_f (by omega) ?_ | refine leq_t (by omega) ?_ | refine leq_f (by omega) ?_ | refine gtr_t (by omega) ?_ | refine gtr_f (by omega) ?_ | refine geq_t (by omega) ?_ | refine geq_f (by omega) ?_ | refine eql_t (by omega) ?_ | refine eql_f (by omega) ?_ | refine neq_t (by omega) ?_ | refine neq_f (by omega) ?_ | refine bindP_mk (by simp (disch := first | omega | exact Int.natCast_nonneg _ | assumption) only [BB, decide_true, decide_false, Bool.not_true, Bool.not_false, Option.bind_some, T.get_upd_same, T.get_upd_ne, if_pos, Nat.zero_add, Nat.mul_one, Nat.add_zero, Int.toNat_natCast, ↓reduceIte, Nat.reduceLeDiff, Nat.reduceAdd, Nat.le_refl] <;> rfl) ?_ | refine newP_mk ?_ | refine optP_mk ?_ | with_reducible refine condP_t ?_ | with_reducible refine condP_f ?_ | with_reducible refine ifP_tt' ?_ | with_reducible refine ifP_ff' ?_ | with_reducible refine ifP_tf' ?_ | with_reducible refine ifP_ft' ?_ | with_reducible refine ifP_u' ?_ | refine optP_mk0 ?_))
    refine hx _ _ _ _ (fun e => by cases e) (exP_e (beqP_t ?_))
    unfold ref09_rises_j1
    rw [drop_all (by omega)] at hr
    exact ⟨_, Sub.refl _, kb hK hr.symm (by omega)⟩
theorem zer_Pos : zer Try.prog y_api_Pos = some (.agg (posL dummy (.slice none 0 0)).toArray) := by kernel_rfl
set_option maxRecDepth 4000 in
theorem ref09_Right_c {ro : Ro} {v : Value} {g : GlD} {h : T Obj} {nx : Nat} {K : KV} (hf : Fr h nx) (hg : RG ro h v g) (hK : ∀ nx', nx ≤ nx' → K (.bool (rightD g)) h nx') : callP Try.prog ro i_ref09_Right [v] h nx K := by
  obtain ⟨a, b, rfl, ha, hb⟩ := hg
  apply ref09_Right_of
  unfold ref09_Right
  refine newP_mk ?_
  have hs1 : Sub h (h.upd nx (some (.cells (Value.cells (.agg #[a, b])) y_api_Glush))) := (Sub.refl h).new hf (Nat.le_refl _)
  have hf1 : Fr (h.upd nx (some (.cells (Value.cells (.agg #[a, b])) y_api_Glush))) (nx + 1) := hf.upd (by omega) (by omega)
  have g1 : (h.upd nx (some (.cells (Value.cells (.agg #[a, b])) y_api_Glush))).get nx = some (.cells #[a, b] y_api_Glush) := by rw [T.get_upd_same]; rfl
  generalize h.upd nx (some (.cells (Value.cells (.agg #[a, b])) y_api_Glush)) = h1 at hs1 hf1 g1
  have hK' : ∀ (c : Bool) n, rightD g = c → nx ≤ n → ∃ h', Sub h' h1 ∧ K (.bool c) h' n := fun c n e hn => ⟨h, hs1, kb hK e hn⟩
  unfold rightD at hK'
  have hl := hb.len
  have hb1 := hb.sub hs1 (RPos.sub hs1)
  (repeat (first | refine lss_t (by omega) ?_ | refine lss_f (by omega) ?_ | refine leq_t (by omega) ?_ | refine leq_f (by omega) ?_ | refine gtr_t (by omega) ?_ | refine gtr_f (by omega) ?_ | refine geq_t (by omega) ?_ | refine geq_f (by omega) ?_ | refine eql_t (by omega) ?_ | refine eql_f (by omega) ?_ | refine neq_t (by omega) ?_ | refine neq_f (by omega) ?_ | refine bindP_mk (by simp (disch := first | omega | exact Int.natCast_nonneg _ | assumption) only [BB, decide_true, decide_false, Bool.not_true, Bool.not_false, Option.bind_some, T.get_upd_same, T.get_upd_ne, if_pos, Nat.zero_add, Nat.mul_one, Nat.add_zero, Int.toNat_natCast, ↓reduceIte, Nat.reduceLeDiff, Nat.reduceAdd, Nat.le_refl, g1, hl] <;> rfl) ?_ | refine newP_mk ?_ | refine optP_mk ?_ | with_reducible refine condP_t ?_ | with_reducible refine condP_f ?_ | with_reducible refine ifP_tt' ?_ | with_reducible refine ifP_ff' ?_ | with_reducible refine ifP_tf' ?_ | with_reducible refine ifP_ft' ?_ | with_reducible refine ifP_u' ?_ | refine optP_mk0 ?_))
  (first | refine lss_s (fun hb => ?_) (fun hb => ?_) | refine leq_s (fun hb => ?_) (fun hb => ?_) | refine gtr_s (fun hb => ?_) (fun hb => ?_) | refine geq_s (fun hb => ?_) (fun hb => ?_) | refine eql_s (fun hb => ?_) (fun hb => ?_) | refine neq_s (fun hb => ?_) (fun hb => ?_))
  · (repeat (first | refine lss_t (by omega) ?_ | refine lss_f (by omega) ?_ | refine leq_t (by omega) ?_ | refine leq_f (by omega) ?_ | refine gtr_t (by omega) ?_ | refine gtr_f (by omega) ?_ | refine geq_t (by omega) ?_ | refine geq_f (by omega) ?_ | refine eql_t (by omega) ?_ | refine eql_f (by omega) ?_ | refine neq_t (by omega) ?_ | refine neq_f (by omega) ?_ | refine bindP_mk (by simp (disch := first | omega | exact Int.natCast_nonneg _ | assumption) only [BB, decide_true, decide_false, Bool.not_true, Bool.not_false, Option.bind_some, T.get_upd_same, T.get_upd_ne, if_pos, Nat.zero_add, Nat.mul_one, Nat.add_zero, Int.toNat_natCast, ↓reduceIte, Nat.reduceLeDiff, Nat.reduceAdd, Nat.le_refl, g1, hl] <;> rfl) ?_ | refine newP_mk ?_ | refine optP_mk ?_ | with_reducible refine condP_t ?_ | with_reducible refine condP_f ?_ | with_reducible refine ifP_tt' ?_ | with_reducible refine ifP_ff' ?_ | with_reducible refine ifP_tf' ?_ | with_reducible refine ifP_ft' ?_ | with_reducible refine ifP_u' ?_ | refine optP_mk0 ?_))
    exact hK' _ _ (by rw [decide_eq_false (by omega)]; rfl) (by omega)
  · (repeat (first | refine lss_t (by omega) ?_ | refine lss_f (by omega) ?_ | refine leq_t (by omega) ?_ | refine leq_f (by omega) ?_ | refine gtr_t (by omega) ?_ | refine gtr_f (by omega) ?_ | refine geq_t (by omega) ?_ | refine geq_f (by omega) ?_ | refine eql_t (by omega) ?_ | refine eql_f (by omega) ?_ | refine neq_t (by omega) ?_ | refine neq_f (by omega) ?_ | refine bindP_mk (by simp (disch := first | omega | exact Int.natCast_nonneg _ | assumption) only [BB, decide_true, decide_false, Bool.not_true, Bool.not_false, Option.bind_some, T.get_upd_same, T.get_upd_ne, if_pos, Nat.zero_add, Nat.mul_one, Nat.add_zero, Int.toNat_natCast, ↓reduceIte, Nat.reduceLeDiff, Nat.reduceAdd, Nat.le_refl, g1, hl] <;> rfl) ?_ | refine newP_mk ?_ | refine optP_mk ?_ | with_reducible refine condP_t ?_ | with_reducible refine condP_f ?_ | with_reducible refine ifP_tt' ?_ | with_reducible refine ifP_ff' ?_ | with_reducible refine ifP_tf' ?_ | with_reducible refine ifP_ft' ?_ | with_reducible refine ifP_u' ?_ | refine optP_mk0 ?_))
    refine ref09_rises_c (by omega) (ha.sub hs1) fun n hn => ?_
    cases hr : rz (-1) g.p.length g.first with
    | false =>
      (repeat (first | refine lss_t (by omega) ?_ | refine lss_f (by omega) ?_ | refine leq_t (by omega) ?_ | refine leq_f (by omega) ?_ | refine gtr_t (by omega) ?_ | refine gtr_f (by omega) ?_ | refine geq_t (by omega) ?_ | refine geq_f (by omega) ?_ | refine eql_t (by omega) ?_ | refine eql_f (by omega) ?_ | refine neq_t (by omega) ?_ | refine neq_f (by omega) ?_ | refine bindP_mk (by simp (disch := first | omega | exact Int.natCast_nonneg _ | assumption) only [BB, decide_true, decide_false, Bool.not_true, Bool.not_false, Option.bind_some, T.get_upd_same, T.get_upd_ne, if_pos, Nat.zero_add, Nat.mul_one, Nat.add_zero, Int.toNat_natCast, ↓reduceIte, Nat.reduceLeDiff, Nat.reduceAdd, Nat.le_refl, g1, hl] <;> rfl) ?_ | refine newP_mk ?_ | refine optP_mk ?_ | with_reducible refine condP_t ?_ | with_reducible refine condP_f ?_ | with_reducible refine ifP_tt' ?_ | with_reducible refine ifP_ff' ?_ | with_reducible refine ifP_tf' ?_ | with_reducible refine ifP_ft' ?_ | with_reducible refine ifP_u' ?_ | refine optP_mk0 ?_))
      exact hK' _ _ (by rw [hr]; simp) (by omega)
    | true =>
      (repeat (first | refine lss_t (by omega) ?_ | refine lss_f (by omega) ?_ | refine leq_t (by omega) ?_ | refine leq_f (by omega) ?_ | refine gtr_t (by omega) ?_ | refine gtr_f (by omega) ?_ | refine geq_t (by omega) ?_ | refine geq_f (by omega) ?_ | refine eql_t (by omega) ?_ | refine eql_f (by omega) ?_ | refine neq_t (by omega) ?_ | refine neq_f (by omega) ?_ | refine bindP_mk (by simp (disch := first | omega | exact Int.natCast_nonneg _ | assumption) only [BB, decide_true, decide_false, Bool.not_true, Bool.not_false, Option.bind_some, T.get_upd_same, T.get_upd_ne, if_pos, Nat.zero_add, Nat.mul_one, Nat.add_zero, Int.toNat_natCast, ↓reduceIte, Nat.reduceLeDiff, Nat.reduceAdd, Nat.le_refl, g1, hl] <;> rfl) ?_ | refine newP_mk ?_ | refine optP_mk ?_ | with_reducible refine condP_t ?_ | with_reducible refine condP_f ?_ | with_reducible refine ifP_tt' ?_ | with_reducible refine ifP_ff' ?_ | with_reducible refine ifP_tf' ?_ | with_reducible refine ifP_ft' ?_ | with_reducible refine ifP_u' ?_ | refine optP_mk0 ?_))
      rw [hr, decide_eq_true (by omega)] at hK'
      simp only [Bool.true_and] at hK'
      generalize hR : g.p.all (mayD g.p.length) = R at hK'
      refine loopP_rule (fun j e h' nx' => ∃ (k : Nat), k + j = g.p.length ∧ nx + 1 ≤ nx' ∧ h' = h1 ∧ e 1 = ptr nx ∧ e 3 = .int .i64 k ∧ (g.p.drop k).all (mayD g.p.length) = R) ?_ (n := g.p.length) ⟨0, by omega, by omega, rfl, rfl, rfl, hR⟩
      rintro j e h' nx' ⟨k, hj, hnx, rfl, e1, e3, hr2⟩ Q' hq hx
      unfold ref09_Right_L1
      rw [e1, e3]
      (repeat (first | refine lss_t (by omega) ?_ | refine lss_f (by omega) ?_ | refine leq_t (by omega) ?_ | refine leq_f (by omega) ?_ | refine gtr_t (by omega) ?_ | refine gtr_f (by omega) ?_ | refine geq_t (by omega) ?_ | refine geq_f (by omega) ?_ | refine eql_t (by omega) ?_ | refine eql_f (by omega) ?_ | refine neq_t (by omega) ?_ | refine neq_f (by omega) ?_ | refine bindP_mk (by simp (disch := first | omega | exact Int.natCast_nonneg _ | assumption) only [BB, decide_true, decide_false, Bool.not_true, Bool.not_false, Option.bind_some, T.get_upd_same, T.get_upd_ne, if_pos, Nat.zero_add, Nat.mul_one, Nat.add_zero, Int.toNat_natCast, ↓reduceIte, Nat.reduceLeDiff, Nat.reduceAdd, Nat.le_refl, g1, hl] <;> rfl) ?_ | refine newP_mk ?_ | refine optP_mk ?_ | with_reducible refine condP_t ?_ | with_reducible refine condP_f ?_ | with_reducible refine ifP_tt' ?_ | with_reducible refine ifP_ff' ?_ | with_reducible refine ifP_tf' ?_ | with_reducible refine ifP_ft' ?_ | with_reducible refine ifP_u' ?_ | refine optP_mk0 ?_))
      refine lss_s (fun hk => ?_) (fun hk => ?_)
      · have hk : k < g.p.length := by omega
        rw [drop_cons hk, List.all_cons] at hr2
        obtain ⟨x, ⟨nv, rfl, hn1, hn2⟩, hx2, hx3, hx4, hx5⟩ := hb1.at hk
        generalize g.p[k] = p at hr2 hx2 hx3 hx5 hn1 hn2
        (repeat (first | refine lss_t (by omega) ?_ | refine lss_f (by omega) ?_ | refine leq_t (by omega) ?_ | refine leq_f (by omega) ?_ | refine gtr_t (by omega) ?_ | refine gtr_f (by omega) ?_ | refine geq_t (by omega) ?_ | refine geq_f (by omega) ?_ | refine eql_t (by omega) ?_ | refine eql_f (by omega) ?_ | refine neq_t (by omega) ?_ | refine neq_f (by omega) ?_ | refine bindP_mk (by simp (disch := first | omega | exact Int.natCast_nonneg _ | assumption) only [BB, decide_true, decide_false, Bool.not_true, Bool.not_false, Option.bind_some, T.get_upd_same, T.get_upd_ne, if_pos, Nat.zero_add, Nat.mul_one, Nat.add_zero, Int.toNat_natCast, ↓reduceIte, Nat.reduceLeDiff, Nat.reduceAdd, Nat.le_refl, g1, hl] <;> rfl) ?_ | refine newP_mk ?_ | refine optP_mk ?_ | with_reducible refine condP_t ?_ | with_reducible refine condP_f ?_ | with_reducible refine ifP_tt' ?_ | with_reducible refine ifP_ff' ?_ | with_reducible refine ifP_tf' ?_ | with_reducible refine ifP_ft' ?_ | with_reducible refine ifP_u' ?_ | refine optP_mk0 ?_))
        refine bindP_mk (hb1.ix _ hk) (bindP_mk hx3 (bindP_mk zer_Pos (newP_mk ?_)))
        refine bindP_mk (storeA_own (l := posL dummy (.slice none 0 0)) (vs := posL p nv) (e := y_api_Pos) (f := (0, 0)) (by rw [T.get_upd_same]; rfl) rfl rfl rfl (posL_ok hn1.ok)) ?_
        have hs2 : Sub h' ((h'.upd (nx' + 10) (some (.cells (Value.cells (.agg (posL dummy (.slice none 0 0)).toArray)) y_api_Pos))).upd (nx' + 10) (some (.cells (posL p nv).toArray y_api_Pos))) := ((Sub.refl h').new hf1 (by omega)).new hf1 (by omega)
        have hf2 : Fr ((h'.upd (nx' + 10) (some (.cells (Value.cells (.agg (posL dummy (.slice none 0 0)).toArray)) y_api_Pos))).upd (nx' + 10) (some (.cells (posL p nv).toArray y_api_Pos))) (nx' + 11) := ((hf1.mono (show nx + 1 ≤ nx' + 11 by omega)).upd (Nat.le_refl _) (by omega)).upd (Nat.le_refl _) (by omega)
        have g2 : ((h'.upd (nx' + 10) (some (.cells (Value.cells (.agg (posL dummy (.slice none 0 0)).toArray)) y_api_Pos))).upd (nx' + 10) (some (.cells (posL p nv).toArray y_api_Pos))).get (nx' + 10) = some (.cells (posL p nv).toArray y_api_Pos) := by rw [T.get_upd_same]
        have g3 := hs2 _ _ g1
        generalize (h'.upd (nx' + 10) (some (.cells (Value.cells (.agg (posL dummy (.slice none 0 0)).toArray)) y_api_Pos))).upd (nx' + 10) (some (.cells (posL p nv).toArray y_api_Pos)) = h2 at hs2 hf2 g2 g3
        have hfin : ∀ (e' : Env) n, e' 2 = .bool false → mayD g.p.length p = false → nx ≤ n → Q' .ret e' h2 n := fun e' n h4 hc hn => by
          refine hx _ _ _ _ (fun e => by cases e) (exP_r ?_)
          rw [h4]
          obtain ⟨h9, q1, q2⟩ := hK' false n (by rw [← hr2, hc]; rfl) hn
          exact ⟨h9, q1.trans hs2, q2⟩
        have hok : ∀ (e' : Env) n, e' 1 = ptr nx → e' 3 = .int .i64 ((k : Int) + 1) → mayD g.p.length p = true → nx + 1 ≤ n → Q' .normal e' h2 n := fun e' n q1 q3 hc hn => by
          refine hq (j - 1) _ h' _ _ (by omega) ⟨k + 1, by omega, hn, rfl, q1, q3, ?_⟩ hs2
          rw [← hr2, hc, Bool.true_and]
        unfold mayD at hfin hok
        (repeat (first | refine lss_t (by omega) ?_ | refine lss_f (by omega) ?_ | refine leq_t (by omega) ?_ | refine leq_f (by omega) ?_ | refine gtr_t (by omega) ?_ | refine gtr_f (by omega) ?_ | refine geq_t (by omega) ?_ | refine geq_f (by omega) ?_ | refine eql_t (by omega) ?_ | refine eql_f (by omega) ?_ | refine neq_t (by omega) ?_ | refine neq_f (by omega) ?_ | refine bindP_mk (by simp (disch := first | omega | exact Int.natCast_nonneg _ | assumption) only [BB, decide_true, decide_false, Bool.not_true, Bool.not_false, Option.bind_some, T.get_upd_same, T.get_upd_ne, if_pos, Nat.zero_add, Nat.mul_one, Nat.add_zero, Int.toNat_natCast, ↓reduceIte, Nat.reduceLeDiff, Nat.reduceAdd, Nat.le_refl, g2, g3, posL_take] <;> rfl) ?_ | refine newP_mk ?_ | refine optP_mk ?_ | with_reducible refine condP_t ?_ | with_reducible refine condP_f ?_ | with_reducible refine ifP_tt' ?_ | with_reducible refine ifP_ff' ?_ | with_reducible refine ifP_tf' ?_ | with_reducible refine ifP_ft' ?_ | with_reducible refine ifP_u' ?_ | refine optP_mk0 ?_))
        refine bindP_mk build_Set0 (bindP_mk plain_Set (eql_set0_s hn2 (fun h0 => ?_) (fun h0 => ?_)))
        · (repeat (first | refine lss_t (by omega) ?_ | refine lss_f (by omega) ?_ | refine leq_t (by omega) ?_ | refine leq_f (by omega) ?_ | refine gtr_t (by omega) ?_ | refine gtr_f (by omega) ?_ | refine geq_t (by omega) ?_ | refine geq_f (by omega) ?_ | refine eql_t (by omega) ?_ | refine eql_f (by omega) ?_ | refine neq_t (by omega) ?_ | refine neq_f (by omega) ?_ | refine bindP_mk (by simp (disch := first | omega | exact Int.natCast_nonneg _ | assumption) only [BB, decide_true, decide_false, Bool.not_true, Bool.not_false, Option.bind_some, T.get_upd_same, T.get_upd_ne, if_pos, Nat.zero_add, Nat.mul_one, Nat.add_zero, Int.toNat_natCast, ↓reduceIte, Nat.reduceLeDiff, Nat.reduceAdd, Nat.le_refl, g2, g3] <;> rfl) ?_ | refine newP_mk ?_ | refine optP_mk ?_ | with_reducible refine condP_t ?_ | with_reducible refine condP_f ?_ | with_reducible refine ifP_tt' ?_ | with_reducible refine ifP_ff' ?_ | with_reducible refine ifP_tf' ?_ | with_reducible refine ifP_ft' ?_ | with_reducible refine ifP_u' ?_ | refine optP_mk0 ?_))
          exact hfin _ _ rfl (by simp [h0]) (by omega)
        · (repeat (first | refine lss_t (by omega) ?_ | refine lss_f (by omega) ?_ | refine leq_t (by omega) ?_ | refine leq_f (by omega) ?_ | refine gtr_t (by omega) ?_ | refine gtr_f (by omega) ?_ | refine geq_t (by omega) ?_ | refine geq_f (by omega) ?_ | refine eql_t (by omega) ?_ | refine eql_f (by omega) ?_ | refine neq_t (by omega) ?_ | refine neq_f (by omega) ?_ | refine bindP_mk (by simp (disch := first | omega | exact Int.natCast_nonneg _ | assumption) only [BB, decide_true, decide_false, Bool.not_true, Bool.not_false, Option.bind_some, T.get_upd_same, T.get_upd_ne, if_pos, Nat.zero_add, Nat.mul_one, Nat.add_zero, Int.toNat_natCast, ↓reduceIte, Nat.reduceLeDiff, Nat.reduceAdd, Nat.le_refl, g2, g3] <;> rfl) ?_ | refine newP_mk ?_ | refine optP_mk ?_ | with_reducible refine condP_t ?_ | with_reducible refine condP_f ?_ | with_reducible refine ifP_tt' ?_ | with_reducible refine ifP_ff' ?_ | with_reducible refine ifP_tf' ?_ | with_reducible refine ifP_ft' ?_ | with_reducible refine ifP_u' ?_ | refine optP_mk0 ?_))
          iterate 5 ((first | refine lss_s (fun hb => ?_) (fun hb => ?_) | refine leq_s (fun hb => ?_) (fun hb => ?_) | refine gtr_s (fun hb => ?_) (fun hb => ?_) | refine geq_s (fun hb => ?_) (fun hb => ?_) | refine eql_s (fun hb => ?_) (fun hb => ?_) | refine neq_s (fun hb => ?_) (fun hb => ?_)); (focus ((repeat (first | refine lss_t (by omega) ?_ | refine lss_f (by omega) ?_ | refine leq_t (by omega) ?_ | refine leq_f (by omega) ?_ | refine gtr_t (by omega) ?_ | refine gtr_f (by omega) ?_ | refine geq_t (by omega) ?_ | refine geq_f (by omega) ?_ | refine eql_t (by omega) ?_ | refine eql_f (by omega) ?_ | refine neq_t (by omega) ?_ | refine neq_f (by omega) ?_ | refine bindP_mk (by simp (disch := first | omega | exact Int.natCast_nonneg _ | assumption) only [BB, decide_true, decide_false, Bool.not_true, Bool.not_false, Option.bind_some, T.get_upd_same, T.get_upd_ne, if_pos, Nat.zero_add, Nat.mul_one, Nat.add_zero, Int.toNat_natCast, ↓reduceIte, Nat.reduceLeDiff, Nat.reduceAdd, Nat.le_refl, g2, g3] <;> rfl) ?_ | refine newP_mk ?_ | refine optP_mk ?_ | with_reducible refine condP_t ?_ | with_reducible refine condP_f ?_ | with_reducible refine ifP_tt' ?_ | with_reducible refine ifP_ff' ?_ | with_reducible refine ifP_tf' ?_ | with_reducible refine ifP_ft' ?_ | with_reducible refine ifP_u' ?_ | refine optP_mk0 ?_)); refine hfin _ _ rfl ?_ (by omega); simp only [Bool.and_eq_false_iff, decide_eq_false_iff_not]; omega)); (repeat (first | refine lss_t (by omega) ?_ | refine lss_f (by omega) ?_ | refine leq_t (by omega) ?_ | refine leq_f (by omega) ?_ | refine gtr_t (by omega) ?_ | refine gtr_f (by omega) ?_ | refine geq_t (by omega) ?_ | refine geq_f (by omega) ?_ | refine eql_t (by omega) ?_ | refine eql_f (by omega) ?_ | refine neq_t (by omega) ?_ | refine neq_f (by omega) ?_ | refine bindP_mk (by simp (disch := first | omega | exact Int.natCast_nonneg _ | assumption) only [BB, decide_true, decide_false, Bool.not_true, Bool.not_false, Option.bind_some, T.get_upd_same, T.get_upd_ne, if_pos, Nat.zero_add, Nat.mul_one, Nat.add_zero, Int.toNat_natCast, ↓reduceIte, Nat.reduceLeDiff, Nat.reduceAdd, Nat.le_refl, g2, g3, hl] <;> rfl) ?_ | refine newP_mk ?_ | refine optP_mk ?_ | with_reducible refine condP_t ?_ | with_reducible refine condP_f ?_ | with_reducible refine ifP_tt' ?_ | with_reducible refine ifP_ff' ?_ | with_reducible refine ifP_tf' ?_ | with_reducible refine ifP_ft' ?_ | with_reducible refine ifP_u' ?_ | refine optP_mk0 ?_)))
          (repeat (first | refine lss_t (by omega) ?_ | refine lss_f (by omega) ?_ | refine leq_t (by omega) ?_ | refine leq_f (by omega) ?_ | refine gtr_t (by omega) ?_ | refine gtr_f (by omega) ?_ | refine geq_t (by omega) ?_ | refine geq_f (by omega) ?_ | refine eql_t (by omega) ?_ | refine eql_f (by omega) ?_ | refine neq_t (by omega) ?_ | refine neq_f (by omega) ?_ | refine bindP_mk (by simp (disch := first | omega | exact Int.natCast_nonneg _ | assumption) only [BB, decide_true, decide_false, Bool.not_true, Bool.not_false, Option.bind_some, T.get_upd_same, T.get_upd_ne, if_pos, Nat.zero_add, Nat.mul_one, Nat.add_zero, Int.toNat_natCast, ↓reduceIte, Nat.reduceLeDiff, Nat.reduceAdd, Nat.le_refl, g2, g3, hl] <;> rfl) ?_ | refine newP_mk ?_ | refine optP_mk ?_ | with_reducible refine condP_t ?_ | with_reducible refine condP_f ?_ | with_reducible refine ifP_tt' ?_ | with_reducible refine ifP_ff' ?_ | with_reducible refine ifP_tf' ?_ | with_reducible refine ifP_ft' ?_ | with_reducible refine ifP_u' ?_ | refine optP_mk0 ?_))
          refine ref09_rises_c (by omega) (hn1.sub hs2) fun n hn => ?_
          cases hr3 : rz (-1) g.p.length p.next with
          | false =>
            (repeat (first | refine lss_t (by omega) ?_ | refine lss_f (by omega) ?_ | refine leq_t (by omega) ?_ | refine leq_f (by omega) ?_ | refine gtr_t (by omega) ?_ | refine gtr_f (by omega) ?_ | refine geq_t (by omega) ?_ | refine geq_f (by omega) ?_ | refine eql_t (by omega) ?_ | refine eql_f (by omega) ?_ | refine neq_t (by omega) ?_ | refine neq_f (by omega) ?_ | refine bindP_mk (by simp (disch := first | omega | exact Int.natCast_nonneg _ | assumption) only [BB, decide_true, decide_false, Bool.not_true, Bool.not_false, Option.bind_some, T.get_upd_same, T.get_upd_ne, if_pos, Nat.zero_add, Nat.mul_one, Nat.add_zero, Int.toNat_natCast, ↓reduceIte, Nat.reduceLeDiff, Nat.reduceAdd, Nat.le_refl] <;> rfl) ?_ | refine newP_mk ?_ | refine optP_mk ?_ | with_reducible refine condP_t ?_ | with_reducible refine condP_f ?_ | with_reducible refine ifP_tt' ?_ | with_reducible refine ifP_ff' ?_ | with_reducible refine ifP_tf' ?_ | with_reducible refine ifP_ft' ?_ | with_reducible refine ifP_u' ?_ | refine optP_mk0 ?_))
            exact hfin _ _ rfl (by rw [hr3]; simp) (by omega)
          | true =>
            (repeat (first | refine lss_t (by omega) ?_ | refine lss_f (by omega) ?_ | refine leq_t (by omega) ?_ | refine leq_f (by omega) ?_ | refine gtr_t (by omega) ?_ | refine gtr_f (by omega) ?_ | refine geq_t (by omega) ?_ | refine geq_f (by omega) ?_ | refine eql_t (by omega) ?_ | refine eql_f (by omega) ?_ | refine neq_t (by omega) ?_ | refine neq_f (by omega) ?_ | refine bindP_mk (by simp (disch := first | omega | exact Int.natCast_nonneg _ | assumption) only [BB, decide_true, decide_false, Bool.not_true, Bool.not_false, Option.bind_some, T.get_upd_same, T.get_upd_ne, if_pos, Nat.zero_add, Nat.mul_one, Nat.add_zero, Int.toNat_natCast, ↓reduceIte, Nat.reduceLeDiff, Nat.reduceAdd, Nat.le_refl] <;> rfl) ?_ | refine newP_mk ?_ | refine optP_mk ?_ | with_reducible refine condP_t ?_ | with_reducible refine condP_f ?_ | with_reducible refine ifP_tt' ?_ | with_reducible refine ifP_ff' ?_ | with_reducible refine ifP_tf' ?_ | with_reducible refine ifP_ft' ?_ | with_reducible refine ifP_u' ?_ | refine optP_mk0 ?_))
            refine hok _ _ e1 rfl ?_ (by omega)
            rw [hr3, decide_eq_true h0]
            repeat rw [decide_eq_true (by omega), Bool.true_and]
            rfl
      · (repeat (first | refine lss_t (by omega) ?_ | refine lss_f (by omega) ?_ | refine leq_t (by omega) ?_ | refine leq_f (by omega) ?_ | refine gtr_t (by omega) ?_ | refine gtr_f (by omega) ?_ | refine geq_t (by omega) ?_ | refine geq_f (by omega) ?_ | refine eql_t (by omega) ?_ | refine eql_f (by omega) ?_ | refine neq_t (by omega) ?_ | refine neq_f (by omega) ?_ | refine bindP_mk (by simp (disch := first | omega | exact Int.natCast_nonneg _ | assumption) only [BB, decide_true, decide_false, Bool.not_true, Bool.not_false, Option.bind_some, T.get_upd_same, T.get_upd_ne, if_pos, Nat.zero_add, Nat.mul_one, Nat.add_zero, Int.toNat_natCast, ↓reduceIte, Nat.reduceLeDiff, Nat.reduceAdd, Nat.le_refl] <;> rfl) ?_ | refine newP_mk ?_ | refine optP_mk ?_ | with_reducible refine condP_t ?_ | with_reducible refine condP_f ?_ | with_reducible refine ifP_tt' ?_ | with_reducible refine ifP_ff' ?_ | with_reducible refine ifP_tf' ?_ | with_reducible refine ifP_ft' ?_ | with_reducible refine ifP_u' ?_ | refine optP_mk0 ?_))
        refine hx _ _ _ _ (fun e => by cases e) (exP_e (beqP_t ?_))
        unfold ref09_Right_j1
        rw [drop_all (by omega)] at hr2
        exact hK' _ _ (by exact hr2.symm) (by omega)
end V
end Go.Proofs.Ytepbdkfkfcckoaa

/- Where one may be, as the machine reads it; what nca's fits, Right, ripe, rule, Rule hand back.
   No condition. -/
set_option linter.unusedVariables false
set_option linter.unusedSimpArgs false
namespace Go.Proofs.Ytepbdkfkfcckoaa
namespace V
open PA
attribute [local irreducible] bindP ifP condP newP optP exP beqP
def RHeld (ro : Ro) (h : T Obj) (x : List Value) (d : HeldD) : Prop := ∃ nv, x = [.int .i64 d.p, nv] ∧ ZI ro h nv d.n
theorem RHeld.sub {ro : Ro} {h h' : T Obj} (hs : Sub h h') : ∀ x d, RHeld ro h x d → RHeld ro h' x d := fun x d ⟨nv, h1, h2⟩ => ⟨nv, h1, h2.sub hs⟩
/-- Where one may be, as a value. -/
def RCfg (ro : Ro) (h : T Obj) (v : Value) (c : CfgD) : Prop := ∃ a, v = .agg #[.bool c.b, a] ∧ SlR ro h a 2 (RHeld ro h) c.l
theorem RCfg.sub {ro : Ro} {h h' : T Obj} {v : Value} {c : CfgD} (hs : Sub h h') (hg : RCfg ro h v c) : RCfg ro h' v c := by
  obtain ⟨a, h1, h3⟩ := hg
  exact ⟨a, h1, h3.sub hs (RHeld.sub hs)⟩
theorem zer_Held : zer Try.prog y_api_Held = some (.agg #[.int .i64 0, .slice none 0 0]) := by kernel_rfl
theorem held_ok {p : Int} {nv : Value} (h : cellOk nv = true) : [Value.int .i64 p, nv].all cellOk = true := by
  have : [Value.int .i64 p, nv].all cellOk = (cellOk nv && true) := rfl
  rw [this, h]; rfl
theorem P_at {ro : Ro} {h hr : T Obj} {b : Value} {g : GlD} (hb : SlR ro h b 9 (RPos ro hr) g.p) {i : Int} (h0 : 0 ≤ i) (h1 : i < g.p.length) : ∃ nv, ZI ro hr nv (g.at i).next ∧ (g.at i).s < 2 ^ 256 ∧ ixSl 9 b (.int .i64 i) = some (elPtr 9 b i.toNat) ∧
    loadA ro h 9 (elPtr 9 b i.toNat) = some (.agg (posL (g.at i) nv).toArray) ∧ (∀ k, fwdP k (elPtr 9 b i.toNat) = some (elPtrK 9 b i.toNat k)) ∧ ∀ k w, (posL (g.at i) nv)[k]? = some w → load1 ro h (elPtrK 9 b i.toNat k) = some w := by
  obtain ⟨x, ⟨nv, rfl, hn1, hn2⟩, hx2, hx3, hx4, hx5⟩ := hb.at (i := i.toNat) (by omega)
  rw [at_get h0 (by omega)] at hn1 hn2 hx3 hx5
  exact ⟨nv, hn1, hn2, hb.ixI _ h0 h1, hx3, hx4, hx5⟩
/-- The set of a place, read through a pointer to it. -/
theorem P_set {ro : Ro} {h hr : T Obj} {b : Value} {g : GlD} (hb : SlR ro h b 9 (RPos ro hr) g.p) {i : Int} (h0 : 0 ≤ i) (h1 : i < g.p.length) : loadA ro h 4 (elPtrK 9 b i.toNat 0) = some (setV (g.at i).s) := by
  obtain ⟨x, ⟨nv, rfl, hn1, hn2⟩, hx⟩ := hb.loadAK (i := i.toNat) (by omega)
  rw [at_get h0 (by omega)] at hx
  exact hx 0 4 (by simp [posL, setL])
set_option maxRecDepth 4000 in
theorem nca_fits_c {ro : Ro} {v w : Value} {g : GlD} {c : CfgD} (hr : rightD g = true) {h : T Obj} {nx : Nat} {K : KV} (hf : Fr h nx) (hg : RG ro h v g) (hc : RCfg ro h w c) (hK : ∀ nx', nx ≤ nx' → K (.bool (fitsD g c)) h nx') : callP Try.prog ro i_nca_fits [v, w] h nx K := by
  obtain ⟨a, b, rfl, ha, hP⟩ := hg
  obtain ⟨a2, rfl, hl⟩ := hc
  apply nca_fits_of
  unfold nca_fits
  refine param_mk hf (Nat.le_refl _) fun h1 hs1 hf1 g1 _ => ?_
  refine param_mk hf1 (Nat.le_refl _) fun h2 hs2 hf2 g2 _ => ?_
  have g1 := hs2 _ _ g1
  have hs := hs1.trans hs2
  have hP := hP.sub hs (RPos.sub hs)
  have hl := hl.sub hs (RHeld.sub hs)
  have hbl := hP.len
  have hll := hl.len
  have hlen := right_len hr
  have hK' : ∀ (c' : Bool) n, fitsD g c = c' → nx ≤ n → ∃ h', Sub h' h2 ∧ K (.bool c') h' n := fun c' n e hn => ⟨h, hs, kb hK e hn⟩
  unfold fitsD at hK'
  (repeat (first | refine lss_t (by omega) ?_ | refine lss_f (by omega) ?_ | refine leq_t (by omega) ?_ | refine leq_f (by omega) ?_ | refine gtr_t (by omega) ?_ | refine gtr_f (by omega) ?_ | refine geq_t (by omega) ?_ | refine geq_f (by omega) ?_ | refine eql_t (by omega) ?_ | refine eql_f (by omega) ?_ | refine neq_t (by omega) ?_ | refine neq_f (by omega) ?_ | refine bindP_mk (by simp (disch := first | omega | exact Int.natCast_nonneg _ | assumption) only [BB, decide_true, decide_false, Bool.not_true, Bool.not_false, Option.bind_some, T.get_upd_same, T.get_upd_ne, if_pos, Nat.zero_add, Nat.mul_one, Nat.add_zero, Int.toNat_natCast, ↓reduceIte, Nat.reduceLeDiff, Nat.reduceAdd, Nat.le_refl, g1, g2] <;> rfl) ?_ | refine newP_mk ?_ | refine optP_mk ?_ | with_reducible refine condP_t ?_ | with_reducible refine condP_f ?_ | with_reducible refine ifP_tt' ?_ | with_reducible refine ifP_ff' ?_ | with_reducible refine ifP_tf' ?_ | with_reducible refine ifP_ft' ?_ | with_reducible refine ifP_u' ?_ | refine optP_mk0 ?_))
  cases hcb : c.b with
  | true =>
    rw [hcb, if_pos rfl] at hK'
    (repeat (first | refine lss_t (by omega) ?_ | refine lss_f (by omega) ?_ | refine leq_t (by omega) ?_ | refine leq_f (by omega) ?_ | refine gtr_t (by omega) ?_ | refine gtr_f (by omega) ?_ | refine geq_t (by omega) ?_ | refine geq_f (by omega) ?_ | refine eql_t (by omega) ?_ | refine eql_f (by omega) ?_ | refine neq_t (by omega) ?_ | refine neq_f (by omega) ?_ | refine bindP_mk (by simp (disch := first | omega | exact Int.natCast_nonneg _ | assumption) only [BB, decide_true, decide_false, Bool.not_true, Bool.not_false, Option.bind_some, T.get_upd_same, T.get_upd_ne, if_pos, Nat.zero_add, Nat.mul_one, Nat.add_zero, Int.toNat_natCast, ↓reduceIte, Nat.reduceLeDiff, Nat.reduceAdd, Nat.le_refl, g1, g2, hll] <;> rfl) ?_ | refine newP_mk ?_ | refine optP_mk ?_ | with_reducible refine condP_t ?_ | with_reducible refine condP_f ?_ | with_reducible refine ifP_tt' ?_ | with_reducible refine ifP_ff' ?_ | with_reducible refine ifP_tf' ?_ | with_reducible refine ifP_ft' ?_ | with_reducible refine ifP_u' ?_ | refine optP_mk0 ?_))
    refine eql_s (fun he => ?_) (fun he => ?_)
    · exact hK' _ _ (by rw [eq_len he]; rfl) (by omega)
    · exact hK' _ _ (ne_len he) (by omega)
  | false =>
    rw [hcb, if_neg (by decide)] at hK'
    (repeat (first | refine lss_t (by omega) ?_ | refine lss_f (by omega) ?_ | refine leq_t (by omega) ?_ | refine leq_f (by omega) ?_ | refine gtr_t (by omega) ?_ | refine gtr_f (by omega) ?_ | refine geq_t (by omega) ?_ | refine geq_f (by omega) ?_ | refine eql_t (by omega) ?_ | refine eql_f (by omega) ?_ | refine neq_t (by omega) ?_ | refine neq_f (by omega) ?_ | refine bindP_mk (by simp (disch := first | omega | exact Int.natCast_nonneg _ | assumption) only [BB, decide_true, decide_false, Bool.not_true, Bool.not_false, Option.bind_some, T.get_upd_same, T.get_upd_ne, if_pos, Nat.zero_add, Nat.mul_one, Nat.add_zero, Int.toNat_natCast, ↓reduceIte, Nat.reduceLeDiff, Nat.reduceAdd, Nat.le_refl, g1, g2, hll] <;> rfl) ?_ | refine newP_mk ?_ | refine optP_mk ?_ | with_reducible refine condP_t ?_ | with_reducible refine condP_f ?_ | with_reducible refine ifP_tt' ?_ | with_reducible refine ifP_ff' ?_ | with_reducible refine ifP_tf' ?_ | with_reducible refine ifP_ft' ?_ | with_reducible refine ifP_u' ?_ | refine optP_mk0 ?_))
    generalize hR : fitsL g (-1) c.l = R at hK'
    refine loopP_rule (fun j e h' nx' => ∃ (k : Nat) (last : Int), k + j = c.l.length ∧ nx + 2 ≤ nx' ∧ h' = h2 ∧ e 2 = ptr nx ∧ e 5 = .int .i64 last ∧ e 18 = a2 ∧ e 19 = .int .i64 c.l.length ∧ e 20 = .int .i64 k ∧ (k : Int) ≤ last + 1 ∧ last ≤ 1000000 ∧ fitsL g last (c.l.drop k) = R) ?_ (n := c.l.length) ⟨0, -1, by omega, by omega, rfl, rfl, rfl, rfl, rfl, rfl, by omega, by omega, hR⟩
    rintro j e h' nx' ⟨k, last, hj, hnx, rfl, e2, e5, e18, e19, e20, hk1, hk2, hr2⟩ Q' hq hx
    unfold nca_fits_L1
    rw [e2, e5, e18, e19, e20]
    refine lss_s (fun hk => ?_) (fun hk => ?_)
    · have hk : k < c.l.length := by omega
      rw [drop_cons hk, fitsL_cons] at hr2
      obtain ⟨x, ⟨nv, rfl, hn1⟩, hx2, hx3, hx4, hx5⟩ := hl.at hk
      generalize c.l[k] = d at hr2 hx2 hx3 hx5 hn1
      (repeat (first | refine lss_t (by omega) ?_ | refine lss_f (by omega) ?_ | refine leq_t (by omega) ?_ | refine leq_f (by omega) ?_ | refine gtr_t (by omega) ?_ | refine gtr_f (by omega) ?_ | refine geq_t (by omega) ?_ | refine geq_f (by omega) ?_ | refine eql_t (by omega) ?_ | refine eql_f (by omega) ?_ | refine neq_t (by omega) ?_ | refine neq_f (by omega) ?_ | refine bindP_mk (by simp (disch := first | omega | exact Int.natCast_nonneg _ | assumption) only [BB, decide_true, decide_false, Bool.not_true, Bool.not_false, Option.bind_some, T.get_upd_same, T.get_upd_ne, if_pos, Nat.zero_add, Nat.mul_one, Nat.add_zero, Int.toNat_natCast, ↓reduceIte, Nat.reduceLeDiff, Nat.reduceAdd, Nat.le_refl] <;> rfl) ?_ | refine newP_mk ?_ | refine optP_mk ?_ | with_reducible refine condP_t ?_ | with_reducible refine condP_f ?_ | with_reducible refine ifP_tt' ?_ | with_reducible refine ifP_ff' ?_ | with_reducible refine ifP_tf' ?_ | with_reducible refine ifP_ft' ?_ | with_reducible refine ifP_u' ?_ | refine optP_mk0 ?_))
      refine bindP_mk (hl.ix _ hk) (bindP_mk hx3 ?_)
      refine local_mk zer_Held rfl rfl rfl (held_ok hn1.ok) hf2 (by omega) fun h3 hs3 hf3 g3 _ => ?_
      have g1 := hs3 _ _ g1
      have g2 := hs3 _ _ g2
      have hP := hP.sub hs3 (RPos.sub hs3)
      have hn1 := hn1.sub hs3
      have hnl := hn1.len
      have hfin : ∀ (e' : Env) n, e' 4 = .bool false → R = false → nx ≤ n → Q' .ret e' h3 n := fun e' n h4 hc hn => by
        refine hx _ _ _ _ (fun e => by cases e) (exP_r ?_)
        rw [h4]
        obtain ⟨h9, q1, q2⟩ := hK' false n hc hn
        exact ⟨h9, q1.trans hs3, q2⟩
      (repeat (first | refine lss_t (by omega) ?_ | refine lss_f (by omega) ?_ | refine leq_t (by omega) ?_ | refine leq_f (by omega) ?_ | refine gtr_t (by omega) ?_ | refine gtr_f (by omega) ?_ | refine geq_t (by omega) ?_ | refine geq_f (by omega) ?_ | refine eql_t (by omega) ?_ | refine eql_f (by omega) ?_ | refine neq_t (by omega) ?_ | refine neq_f (by omega) ?_ | refine bindP_mk (by simp (disch := first | omega | exact Int.natCast_nonneg _ | assumption) only [BB, decide_true, decide_false, Bool.not_true, Bool.not_false, Option.bind_some, T.get_upd_same, T.get_upd_ne, if_pos, Nat.zero_add, Nat.mul_one, Nat.add_zero, Int.toNat_natCast, ↓reduceIte, Nat.reduceLeDiff, Nat.reduceAdd, Nat.le_refl, g3] <;> rfl) ?_ | refine newP_mk ?_ | refine optP_mk ?_ | with_reducible refine condP_t ?_ | with_reducible refine condP_f ?_ | with_reducible refine ifP_tt' ?_ | with_reducible refine ifP_ff' ?_ | with_reducible refine ifP_tf' ?_ | with_reducible refine ifP_ft' ?_ | with_reducible refine ifP_u' ?_ | refine optP_mk0 ?_))
      (first | refine lss_s (fun hb => ?_) (fun hb => ?_) | refine leq_s (fun hb => ?_) (fun hb => ?_) | refine gtr_s (fun hb => ?_) (fun hb => ?_) | refine geq_s (fun hb => ?_) (fun hb => ?_) | refine eql_s (fun hb => ?_) (fun hb => ?_) | refine neq_s (fun hb => ?_) (fun hb => ?_))
      · (repeat (first | refine lss_t (by omega) ?_ | refine lss_f (by omega) ?_ | refine leq_t (by omega) ?_ | refine leq_f (by omega) ?_ | refine gtr_t (by omega) ?_ | refine gtr_f (by omega) ?_ | refine geq_t (by omega) ?_ | refine geq_f (by omega) ?_ | refine eql_t (by omega) ?_ | refine eql_f (by omega) ?_ | refine neq_t (by omega) ?_ | refine neq_f (by omega) ?_ | refine bindP_mk (by simp (disch := first | omega | exact Int.natCast_nonneg _ | assumption) only [BB, decide_true, decide_false, Bool.not_true, Bool.not_false, Option.bind_some, T.get_upd_same, T.get_upd_ne, if_pos, Nat.zero_add, Nat.mul_one, Nat.add_zero, Int.toNat_natCast, ↓reduceIte, Nat.reduceLeDiff, Nat.reduceAdd, Nat.le_refl, g1, g2, g3, hbl, hnl] <;> rfl) ?_ | refine newP_mk ?_ | refine optP_mk ?_ | with_reducible refine condP_t ?_ | with_reducible refine condP_f ?_ | with_reducible refine ifP_tt' ?_ | with_reducible refine ifP_ff' ?_ | with_reducible refine ifP_tf' ?_ | with_reducible refine ifP_ft' ?_ | with_reducible refine ifP_u' ?_ | refine optP_mk0 ?_))
        exact hfin _ _ rfl (by rw [← hr2, decide_eq_false (by omega)]; rfl) (by omega)
      · (repeat (first | refine lss_t (by omega) ?_ | refine lss_f (by omega) ?_ | refine leq_t (by omega) ?_ | refine leq_f (by omega) ?_ | refine gtr_t (by omega) ?_ | refine gtr_f (by omega) ?_ | refine geq_t (by omega) ?_ | refine geq_f (by omega) ?_ | refine eql_t (by omega) ?_ | refine eql_f (by omega) ?_ | refine neq_t (by omega) ?_ | refine neq_f (by omega) ?_ | refine bindP_mk (by simp (disch := first | omega | exact Int.natCast_nonneg _ | assumption) only [BB, decide_true, decide_false, Bool.not_true, Bool.not_false, Option.bind_some, T.get_upd_same, T.get_upd_ne, if_pos, Nat.zero_add, Nat.mul_one, Nat.add_zero, Int.toNat_natCast, ↓reduceIte, Nat.reduceLeDiff, Nat.reduceAdd, Nat.le_refl, g1, g2, g3, hbl, hnl] <;> rfl) ?_ | refine newP_mk ?_ | refine optP_mk ?_ | with_reducible refine condP_t ?_ | with_reducible refine condP_f ?_ | with_reducible refine ifP_tt' ?_ | with_reducible refine ifP_ff' ?_ | with_reducible refine ifP_tf' ?_ | with_reducible refine ifP_ft' ?_ | with_reducible refine ifP_u' ?_ | refine optP_mk0 ?_))
        (first | refine lss_s (fun hb => ?_) (fun hb => ?_) | refine leq_s (fun hb => ?_) (fun hb => ?_) | refine gtr_s (fun hb => ?_) (fun hb => ?_) | refine geq_s (fun hb => ?_) (fun hb => ?_) | refine eql_s (fun hb => ?_) (fun hb => ?_) | refine neq_s (fun hb => ?_) (fun hb => ?_))
        · (repeat (first | refine lss_t (by omega) ?_ | refine lss_f (by omega) ?_ | refine leq_t (by omega) ?_ | refine leq_f (by omega) ?_ | refine gtr_t (by omega) ?_ | refine gtr_f (by omega) ?_ | refine geq_t (by omega) ?_ | refine geq_f (by omega) ?_ | refine eql_t (by omega) ?_ | refine eql_f (by omega) ?_ | refine neq_t (by omega) ?_ | refine neq_f (by omega) ?_ | refine bindP_mk (by simp (disch := first | omega | exact Int.natCast_nonneg _ | assumption) only [BB, decide_true, decide_false, Bool.not_true, Bool.not_false, Option.bind_some, T.get_upd_same, T.get_upd_ne, if_pos, Nat.zero_add, Nat.mul_one, Nat.add_zero, Int.toNat_natCast, ↓reduceIte, Nat.reduceLeDiff, Nat.reduceAdd, Nat.le_refl, g1, g2, g3, hbl, hnl] <;> rfl) ?_ | refine newP_mk ?_ | refine optP_mk ?_ | with_reducible refine condP_t ?_ | with_reducible refine condP_f ?_ | with_reducible refine ifP_tt' ?_ | with_reducible refine ifP_ff' ?_ | with_reducible refine ifP_tf' ?_ | with_reducible refine ifP_ft' ?_ | with_reducible refine ifP_u' ?_ | refine optP_mk0 ?_))
          exact hfin _ _ rfl (by rw [← hr2, decide_eq_false (show ¬ d.p < (g.p.length : Int) by omega)]; simp) (by omega)
        · (repeat (first | refine lss_t (by omega) ?_ | refine lss_f (by omega) ?_ | refine leq_t (by omega) ?_ | refine leq_f (by omega) ?_ | refine gtr_t (by omega) ?_ | refine gtr_f (by omega) ?_ | refine geq_t (by omega) ?_ | refine geq_f (by omega) ?_ | refine eql_t (by omega) ?_ | refine eql_f (by omega) ?_ | refine neq_t (by omega) ?_ | refine neq_f (by omega) ?_ | refine bindP_mk (by simp (disch := first | omega | exact Int.natCast_nonneg _ | assumption) only [BB, decide_true, decide_false, Bool.not_true, Bool.not_false, Option.bind_some, T.get_upd_same, T.get_upd_ne, if_pos, Nat.zero_add, Nat.mul_one, Nat.add_zero, Int.toNat_natCast, ↓reduceIte, Nat.reduceLeDiff, Nat.reduceAdd, Nat.le_refl, g1, g2, g3, hbl, hnl] <;> rfl) ?_ | refine newP_mk ?_ | refine optP_mk ?_ | with_reducible refine condP_t ?_ | with_reducible refine condP_f ?_ | with_reducible refine ifP_tt' ?_ | with_reducible refine ifP_ff' ?_ | with_reducible refine ifP_tf' ?_ | with_reducible refine ifP_ft' ?_ | with_reducible refine ifP_u' ?_ | refine optP_mk0 ?_))
          refine eql_s (fun he => ?_) (fun he => ?_)
          · (repeat (first | refine lss_t (by omega) ?_ | refine lss_f (by omega) ?_ | refine leq_t (by omega) ?_ | refine leq_f (by omega) ?_ | refine gtr_t (by omega) ?_ | refine gtr_f (by omega) ?_ | refine geq_t (by omega) ?_ | refine geq_f (by omega) ?_ | refine eql_t (by omega) ?_ | refine eql_f (by omega) ?_ | refine neq_t (by omega) ?_ | refine neq_f (by omega) ?_ | refine bindP_mk (by simp (disch := first | omega | exact Int.natCast_nonneg _ | assumption) only [BB, decide_true, decide_false, Bool.not_true, Bool.not_false, Option.bind_some, T.get_upd_same, T.get_upd_ne, if_pos, Nat.zero_add, Nat.mul_one, Nat.add_zero, Int.toNat_natCast, ↓reduceIte, Nat.reduceLeDiff, Nat.reduceAdd, Nat.le_refl, g1, g2, g3, hbl, hnl] <;> rfl) ?_ | refine newP_mk ?_ | refine optP_mk ?_ | with_reducible refine condP_t ?_ | with_reducible refine condP_f ?_ | with_reducible refine ifP_tt' ?_ | with_reducible refine ifP_ff' ?_ | with_reducible refine ifP_tf' ?_ | with_reducible refine ifP_ft' ?_ | with_reducible refine ifP_u' ?_ | refine optP_mk0 ?_))
            refine hfin _ _ rfl ?_ (by omega)
            rw [← hr2, eq_len he]; simp
          · (repeat (first | refine lss_t (by omega) ?_ | refine lss_f (by omega) ?_ | refine leq_t (by omega) ?_ | refine leq_f (by omega) ?_ | refine gtr_t (by omega) ?_ | refine gtr_f (by omega) ?_ | refine geq_t (by omega) ?_ | refine geq_f (by omega) ?_ | refine eql_t (by omega) ?_ | refine eql_f (by omega) ?_ | refine neq_t (by omega) ?_ | refine neq_f (by omega) ?_ | refine bindP_mk (by simp (disch := first | omega | exact Int.natCast_nonneg _ | assumption) only [BB, decide_true, decide_false, Bool.not_true, Bool.not_false, Option.bind_some, T.get_upd_same, T.get_upd_ne, if_pos, Nat.zero_add, Nat.mul_one, Nat.add_zero, Int.toNat_natCast, ↓reduceIte, Nat.reduceLeDiff, Nat.reduceAdd, Nat.le_refl, g1, g2, g3, hbl, hnl] <;> rfl) ?_ | refine newP_mk ?_ | refine optP_mk ?_ | with_reducible refine condP_t ?_ | with_reducible refine condP_f ?_ | with_reducible refine ifP_tt' ?_ | with_reducible refine ifP_ff' ?_ | with_reducible refine ifP_tf' ?_ | with_reducible refine ifP_ft' ?_ | with_reducible refine ifP_u' ?_ | refine optP_mk0 ?_))
            rw [decide_eq_true (show last < d.p by omega), decide_eq_true (show d.p < (g.p.length : Int) by omega), ne_len he] at hr2
            simp only [Bool.true_and, Bool.not_false] at hr2
            have hmay := may_spec (right_at hr (i := d.p) (by omega) (by omega))
            obtain ⟨pv, -, -, p3, -, p5, p6⟩ := P_at hP (i := d.p) (by omega) (by omega)
            have p7 := p6 5 _ rfl
            generalize hR3 : rz 0 ((g.at d.p).hi + 1) d.n = R3 at hr2
            refine loopP_rule (fun j2 e' h'' n'' => ∃ (k2 : Nat) (cnt : Int), k2 + j2 = d.n.length ∧ nx + 2 ≤ n'' ∧ h'' = h3 ∧ e' 2 = ptr nx ∧ e' 5 = .int .i64 d.p ∧ e' 18 = a2 ∧ e' 19 = .int .i64 c.l.length ∧ e' 20 = .int .i64 k ∧ e' 7 = ptr (nx' + 3) ∧ e' 8 = .int .i64 cnt ∧ e' 45 = nv ∧ e' 46 = .int .i64 d.n.length ∧ e' 47 = .int .i64 k2 ∧ (k2 : Int) ≤ cnt ∧ cnt ≤ 1000000 ∧ rz cnt ((g.at d.p).hi + 1) (d.n.drop k2) = R3) ?_ (n := d.n.length) ⟨0, 0, by omega, by omega, rfl, e2, rfl, e18, e19, e20, rfl, rfl, rfl, rfl, rfl, by omega, by omega, hR3⟩
            rintro j2 e' h'' n'' ⟨k2, cnt, hj2, hn'', rfl, f2, f5, f18, f19, f20, f7, f8, f45, f46, f47, hc1, hc2, hr4⟩ Q2 hq2 hx2
            unfold nca_fits_L2
            rw [f2, f7, f8, f45, f46, f47]
            refine lss_s (fun hk3 => ?_) (fun hk3 => ?_)
            · have hk3 : k2 < d.n.length := by omega
              rw [drop_cons hk3, rz_cons] at hr4
              (repeat (first | refine lss_t (by omega) ?_ | refine lss_f (by omega) ?_ | refine leq_t (by omega) ?_ | refine leq_f (by omega) ?_ | refine gtr_t (by omega) ?_ | refine gtr_f (by omega) ?_ | refine geq_t (by omega) ?_ | refine geq_f (by omega) ?_ | refine eql_t (by omega) ?_ | refine eql_f (by omega) ?_ | refine neq_t (by omega) ?_ | refine neq_f (by omega) ?_ | refine bindP_mk (by simp (disch := first | omega | exact Int.natCast_nonneg _ | assumption) only [BB, decide_true, decide_false, Bool.not_true, Bool.not_false, Option.bind_some, T.get_upd_same, T.get_upd_ne, if_pos, Nat.zero_add, Nat.mul_one, Nat.add_zero, Int.toNat_natCast, ↓reduceIte, Nat.reduceLeDiff, Nat.reduceAdd, Nat.le_refl] <;> rfl) ?_ | refine newP_mk ?_ | refine optP_mk ?_ | with_reducible refine condP_t ?_ | with_reducible refine condP_f ?_ | with_reducible refine ifP_tt' ?_ | with_reducible refine ifP_ff' ?_ | with_reducible refine ifP_tf' ?_ | with_reducible refine ifP_ft' ?_ | with_reducible refine ifP_u' ?_ | refine optP_mk0 ?_))
              refine bindP_mk (hn1.ix _ hk3) (bindP_mk (hn1.load hk3) ?_)
              generalize d.n[k2] = y at hr4
              have hfin2 : ∀ (e' : Env) n, e' 4 = .bool false → R3 = false → nx ≤ n → Q2 .ret e' h'' n := fun e' n h4 hc hn => by
                refine hx2 _ _ _ _ (fun e => by cases e) (exP_r ?_)
                exact hfin _ _ h4 (by rw [← hr2, hc]; rfl) hn
              (first | refine lss_s (fun hb => ?_) (fun hb => ?_) | refine leq_s (fun hb => ?_) (fun hb => ?_) | refine gtr_s (fun hb => ?_) (fun hb => ?_) | refine geq_s (fun hb => ?_) (fun hb => ?_) | refine eql_s (fun hb => ?_) (fun hb => ?_) | refine neq_s (fun hb => ?_) (fun hb => ?_))
              · (repeat (first | refine lss_t (by omega) ?_ | refine lss_f (by omega) ?_ | refine leq_t (by omega) ?_ | refine leq_f (by omega) ?_ | refine gtr_t (by omega) ?_ | refine gtr_f (by omega) ?_ | refine geq_t (by omega) ?_ | refine geq_f (by omega) ?_ | refine eql_t (by omega) ?_ | refine eql_f (by omega) ?_ | refine neq_t (by omega) ?_ | refine neq_f (by omega) ?_ | refine bindP_mk (by simp (disch := first | omega | exact Int.natCast_nonneg _ | assumption) only [BB, decide_true, decide_false, Bool.not_true, Bool.not_false, Option.bind_some, T.get_upd_same, T.get_upd_ne, if_pos, Nat.zero_add, Nat.mul_one, Nat.add_zero, Int.toNat_natCast, ↓reduceIte, Nat.reduceLeDiff, Nat.reduceAdd, Nat.le_refl] <;> rfl) ?_ | refine newP_mk ?_ | refine optP_mk ?_ | with_reducible refine condP_t ?_ | with_reducible refine condP_f ?_ | with_reducible refine ifP_tt' ?_ | with_reducible refine ifP_ff' ?_ | with_reducible refine ifP_tf' ?_ | with_reducible refine ifP_ft' ?_ | with_reducible refine ifP_u' ?_ | refine optP_mk0 ?_))
                exact hfin2 _ _ rfl (by rw [← hr4, decide_eq_false (by omega)]; rfl) (by omega)
              · (repeat (first | refine lss_t (by omega) ?_ | refine lss_f (by omega) ?_ | refine leq_t (by omega) ?_ | refine leq_f (by omega) ?_ | refine gtr_t (by omega) ?_ | refine gtr_f (by omega) ?_ | refine geq_t (by omega) ?_ | refine geq_f (by omega) ?_ | refine eql_t (by omega) ?_ | refine eql_f (by omega) ?_ | refine neq_t (by omega) ?_ | refine neq_f (by omega) ?_ | refine bindP_mk (by simp (disch := first | omega | exact Int.natCast_nonneg _ | assumption) only [BB, decide_true, decide_false, Bool.not_true, Bool.not_false, Option.bind_some, T.get_upd_same, T.get_upd_ne, if_pos, Nat.zero_add, Nat.mul_one, Nat.add_zero, Int.toNat_natCast, ↓reduceIte, Nat.reduceLeDiff, Nat.reduceAdd, Nat.le_refl, g1, g3, p3, p5, p7] <;> rfl) ?_ | refine newP_mk ?_ | refine optP_mk ?_ | with_reducible refine condP_t ?_ | with_reducible refine condP_f ?_ | with_reducible refine ifP_tt' ?_ | with_reducible refine ifP_ff' ?_ | with_reducible refine ifP_tf' ?_ | with_reducible refine ifP_ft' ?_ | with_reducible refine ifP_u' ?_ | refine optP_mk0 ?_))
                (first | refine lss_s (fun hb => ?_) (fun hb => ?_) | refine leq_s (fun hb => ?_) (fun hb => ?_) | refine gtr_s (fun hb => ?_) (fun hb => ?_) | refine geq_s (fun hb => ?_) (fun hb => ?_) | refine eql_s (fun hb => ?_) (fun hb => ?_) | refine neq_s (fun hb => ?_) (fun hb => ?_))
                · (repeat (first | refine lss_t (by omega) ?_ | refine lss_f (by omega) ?_ | refine leq_t (by omega) ?_ | refine leq_f (by omega) ?_ | refine gtr_t (by omega) ?_ | refine gtr_f (by omega) ?_ | refine geq_t (by omega) ?_ | refine geq_f (by omega) ?_ | refine eql_t (by omega) ?_ | refine eql_f (by omega) ?_ | refine neq_t (by omega) ?_ | refine neq_f (by omega) ?_ | refine bindP_mk (by simp (disch := first | omega | exact Int.natCast_nonneg _ | assumption) only [BB, decide_true, decide_false, Bool.not_true, Bool.not_false, Option.bind_some, T.get_upd_same, T.get_upd_ne, if_pos, Nat.zero_add, Nat.mul_one, Nat.add_zero, Int.toNat_natCast, ↓reduceIte, Nat.reduceLeDiff, Nat.reduceAdd, Nat.le_refl] <;> rfl) ?_ | refine newP_mk ?_ | refine optP_mk ?_ | with_reducible refine condP_t ?_ | with_reducible refine condP_f ?_ | with_reducible refine ifP_tt' ?_ | with_reducible refine ifP_ff' ?_ | with_reducible refine ifP_tf' ?_ | with_reducible refine ifP_ft' ?_ | with_reducible refine ifP_u' ?_ | refine optP_mk0 ?_))
                  exact hfin2 _ _ rfl (by rw [← hr4, decide_eq_false (show ¬ y < (g.at d.p).hi + 1 by omega)]; simp) (by omega)
                · (repeat (first | refine lss_t (by omega) ?_ | refine lss_f (by omega) ?_ | refine leq_t (by omega) ?_ | refine leq_f (by omega) ?_ | refine gtr_t (by omega) ?_ | refine gtr_f (by omega) ?_ | refine geq_t (by omega) ?_ | refine geq_f (by omega) ?_ | refine eql_t (by omega) ?_ | refine eql_f (by omega) ?_ | refine neq_t (by omega) ?_ | refine neq_f (by omega) ?_ | refine bindP_mk (by simp (disch := first | omega | exact Int.natCast_nonneg _ | assumption) only [BB, decide_true, decide_false, Bool.not_true, Bool.not_false, Option.bind_some, T.get_upd_same, T.get_upd_ne, if_pos, Nat.zero_add, Nat.mul_one, Nat.add_zero, Int.toNat_natCast, ↓reduceIte, Nat.reduceLeDiff, Nat.reduceAdd, Nat.le_refl] <;> rfl) ?_ | refine newP_mk ?_ | refine optP_mk ?_ | with_reducible refine condP_t ?_ | with_reducible refine condP_f ?_ | with_reducible refine ifP_tt' ?_ | with_reducible refine ifP_ff' ?_ | with_reducible refine ifP_tf' ?_ | with_reducible refine ifP_ft' ?_ | with_reducible refine ifP_u' ?_ | refine optP_mk0 ?_))
                  refine hq2 (j2 - 1) _ _ _ _ (by omega) ⟨k2 + 1, y, by omega, by omega, rfl, f2, f5, f18, f19, f20, f7, rfl, f45, f46, rfl, by omega, by omega, ?_⟩ (Sub.refl _)
                  rw [← hr4, decide_eq_true (show cnt < y by omega), decide_eq_true (show y < (g.at d.p).hi + 1 by omega)]; rfl
            · (repeat (first | refine lss_t (by omega) ?_ | refine lss_f (by omega) ?_ | refine leq_t (by omega) ?_ | refine leq_f (by omega) ?_ | refine gtr_t (by omega) ?_ | refine gtr_f (by omega) ?_ | refine geq_t (by omega) ?_ | refine geq_f (by omega) ?_ | refine eql_t (by omega) ?_ | refine eql_f (by omega) ?_ | refine neq_t (by omega) ?_ | refine neq_f (by omega) ?_ | refine bindP_mk (by simp (disch := first | omega | exact Int.natCast_nonneg _ | assumption) only [BB, decide_true, decide_false, Bool.not_true, Bool.not_false, Option.bind_some, T.get_upd_same, T.get_upd_ne, if_pos, Nat.zero_add, Nat.mul_one, Nat.add_zero, Int.toNat_natCast, ↓reduceIte, Nat.reduceLeDiff, Nat.reduceAdd, Nat.le_refl] <;> rfl) ?_ | refine newP_mk ?_ | refine optP_mk ?_ | with_reducible refine condP_t ?_ | with_reducible refine condP_f ?_ | with_reducible refine ifP_tt' ?_ | with_reducible refine ifP_ff' ?_ | with_reducible refine ifP_tf' ?_ | with_reducible refine ifP_ft' ?_ | with_reducible refine ifP_u' ?_ | refine optP_mk0 ?_))
              refine hx2 _ _ _ _ (fun e => by cases e) (exP_e (beqP_t ?_))
              unfold nca_fits_j2
              rw [drop_all (by omega)] at hr4
              have hr4 : R3 = true := hr4.symm
              rw [hr4, Bool.true_and] at hr2
              rw [show (puts e' [(48, Value.bool false)]) 20 = .int .i64 k from f20]
              (repeat (first | refine lss_t (by omega) ?_ | refine lss_f (by omega) ?_ | refine leq_t (by omega) ?_ | refine leq_f (by omega) ?_ | refine gtr_t (by omega) ?_ | refine gtr_f (by omega) ?_ | refine geq_t (by omega) ?_ | refine geq_f (by omega) ?_ | refine eql_t (by omega) ?_ | refine eql_f (by omega) ?_ | refine neq_t (by omega) ?_ | refine neq_f (by omega) ?_ | refine bindP_mk (by simp (disch := first | omega | exact Int.natCast_nonneg _ | assumption) only [BB, decide_true, decide_false, Bool.not_true, Bool.not_false, Option.bind_some, T.get_upd_same, T.get_upd_ne, if_pos, Nat.zero_add, Nat.mul_one, Nat.add_zero, Int.toNat_natCast, ↓reduceIte, Nat.reduceLeDiff, Nat.reduceAdd, Nat.le_refl] <;> rfl) ?_ | refine newP_mk ?_ | refine optP_mk ?_ | with_reducible refine condP_t ?_ | with_reducible refine condP_f ?_ | with_reducible refine ifP_tt' ?_ | with_reducible refine ifP_ff' ?_ | with_reducible refine ifP_tf' ?_ | with_reducible refine ifP_ft' ?_ | with_reducible refine ifP_u' ?_ | refine optP_mk0 ?_))
              exact hq (j - 1) _ h' _ _ (by omega) ⟨k + 1, d.p, by omega, by omega, rfl, f2, f5, f18, f19, rfl, by omega, by omega, hr2⟩ hs3
    · (repeat (first | refine lss_t (by omega) ?_ | refine lss_f (by omega) ?_ | refine leq_t (by omega) ?_ | refine leq_f (by omega) ?_ | refine gtr_t (by omega) ?_ | refine gtr_f (by omega) ?_ | refine geq_t (by omega) ?_ | refine geq_f (by omega) ?_ | refine eql_t (by omega) ?_ | refine eql_f (by omega) ?_ | refine neq_t (by omega) ?_ | refine neq_f (by omega) ?_ | refine bindP_mk (by simp (disch := first | omega | exact Int.natCast_nonneg _ | assumption) only [BB, decide_true, decide_false, Bool.not_true, Bool.not_false, Option.bind_some, T.get_upd_same, T.get_upd_ne, if_pos, Nat.zero_add, Nat.mul_one, Nat.add_zero, Int.toNat_natCast, ↓reduceIte, Nat.reduceLeDiff, Nat.reduceAdd, Nat.le_refl] <;> rfl) ?_ | refine newP_mk ?_ | refine optP_mk ?_ | with_reducible refine condP_t ?_ | with_reducible refine condP_f ?_ | with_reducible refine ifP_tt' ?_ | with_reducible refine ifP_ff' ?_ | with_reducible refine ifP_tf' ?_ | with_reducible refine ifP_ft' ?_ | with_reducible refine ifP_u' ?_ | refine optP_mk0 ?_))
      refine hx _ _ _ _ (fun e => by cases e) (exP_e (beqP_t ?_))
      unfold nca_fits_j1
      rw [drop_all (by omega)] at hr2
      exact hK' _ _ hr2.symm (by omega)
theorem nca_Right_c {ro : Ro} {v w : Value} {g : GlD} {c : CfgD} {h : T Obj} {nx : Nat} {K : KV} (hf : Fr h nx) (hg : RG ro h v g) (hc : RCfg ro h w c) (hK : ∀ nx', nx ≤ nx' → K (.bool (rightC g c)) h nx') : callP Try.prog ro i_nca_Right [v, w] h nx K := by
  obtain ⟨a, b, rfl, ha, hP⟩ := hg
  obtain ⟨a2, rfl, hl⟩ := hc
  apply nca_Right_of
  unfold nca_Right
  refine param_mk hf (Nat.le_refl _) fun h1 hs1 hf1 g1 _ => ?_
  refine param_mk hf1 (Nat.le_refl _) fun h2 hs2 hf2 g2 _ => ?_
  have g1 := hs2 _ _ g1
  have hs := hs1.trans hs2
  have hG : RG ro h2 (.agg #[a, b]) g := ⟨a, b, rfl, ha.sub hs, hP.sub hs (RPos.sub hs)⟩
  have hC : RCfg ro h2 (.agg #[.bool c.b, a2]) c := ⟨a2, rfl, hl.sub hs (RHeld.sub hs)⟩
  unfold rightC at hK
  refine bindP_mk (loadA_all (l := [a, b]) g1 rfl) ?_
  refine glush_Right_c (hf2.mono (by omega)) hG fun n hn => ?_
  cases hr : rightD g with
  | false =>
    (repeat (first | refine lss_t (by omega) ?_ | refine lss_f (by omega) ?_ | refine leq_t (by omega) ?_ | refine leq_f (by omega) ?_ | refine gtr_t (by omega) ?_ | refine gtr_f (by omega) ?_ | refine geq_t (by omega) ?_ | refine geq_f (by omega) ?_ | refine eql_t (by omega) ?_ | refine eql_f (by omega) ?_ | refine neq_t (by omega) ?_ | refine neq_f (by omega) ?_ | refine bindP_mk (by simp (disch := first | omega | exact Int.natCast_nonneg _ | assumption) only [BB, decide_true, decide_false, Bool.not_true, Bool.not_false, Option.bind_some, T.get_upd_same, T.get_upd_ne, if_pos, Nat.zero_add, Nat.mul_one, Nat.add_zero, Int.toNat_natCast, ↓reduceIte, Nat.reduceLeDiff, Nat.reduceAdd, Nat.le_refl] <;> rfl) ?_ | refine newP_mk ?_ | refine optP_mk ?_ | with_reducible refine condP_t ?_ | with_reducible refine condP_f ?_ | with_reducible refine ifP_tt' ?_ | with_reducible refine ifP_ff' ?_ | with_reducible refine ifP_tf' ?_ | with_reducible refine ifP_ft' ?_ | with_reducible refine ifP_u' ?_ | refine optP_mk0 ?_))
    exact ⟨h, hs, kb hK (by rw [hr]; rfl) (by omega)⟩
  | true =>
    (repeat (first | refine lss_t (by omega) ?_ | refine lss_f (by omega) ?_ | refine leq_t (by omega) ?_ | refine leq_f (by omega) ?_ | refine gtr_t (by omega) ?_ | refine gtr_f (by omega) ?_ | refine geq_t (by omega) ?_ | refine geq_f (by omega) ?_ | refine eql_t (by omega) ?_ | refine eql_f (by omega) ?_ | refine neq_t (by omega) ?_ | refine neq_f (by omega) ?_ | refine bindP_mk (by simp (disch := first | omega | exact Int.natCast_nonneg _ | assumption) only [BB, decide_true, decide_false, Bool.not_true, Bool.not_false, Option.bind_some, T.get_upd_same, T.get_upd_ne, if_pos, Nat.zero_add, Nat.mul_one, Nat.add_zero, Int.toNat_natCast, ↓reduceIte, Nat.reduceLeDiff, Nat.reduceAdd, Nat.le_refl] <;> rfl) ?_ | refine newP_mk ?_ | refine optP_mk ?_ | with_reducible refine condP_t ?_ | with_reducible refine condP_f ?_ | with_reducible refine ifP_tt' ?_ | with_reducible refine ifP_ff' ?_ | with_reducible refine ifP_tf' ?_ | with_reducible refine ifP_ft' ?_ | with_reducible refine ifP_u' ?_ | refine optP_mk0 ?_))
    refine bindP_mk (loadA_all (l := [a, b]) g1 rfl) ?_
    (repeat (first | refine lss_t (by omega) ?_ | refine lss_f (by omega) ?_ | refine leq_t (by omega) ?_ | refine leq_f (by omega) ?_ | refine gtr_t (by omega) ?_ | refine gtr_f (by omega) ?_ | refine geq_t (by omega) ?_ | refine geq_f (by omega) ?_ | refine eql_t (by omega) ?_ | refine eql_f (by omega) ?_ | refine neq_t (by omega) ?_ | refine neq_f (by omega) ?_ | refine bindP_mk (by simp (disch := first | omega | exact Int.natCast_nonneg _ | assumption) only [BB, decide_true, decide_false, Bool.not_true, Bool.not_false, Option.bind_some, T.get_upd_same, T.get_upd_ne, if_pos, Nat.zero_add, Nat.mul_one, Nat.add_zero, Int.toNat_natCast, ↓reduceIte, Nat.reduceLeDiff, Nat.reduceAdd, Nat.le_refl] <;> rfl) ?_ | refine newP_mk ?_ | refine optP_mk ?_ | with_reducible refine condP_t ?_ | with_reducible refine condP_f ?_ | with_reducible refine ifP_tt' ?_ | with_reducible refine ifP_ff' ?_ | with_reducible refine ifP_tf' ?_ | with_reducible refine ifP_ft' ?_ | with_reducible refine ifP_u' ?_ | refine optP_mk0 ?_))
    refine bindP_mk (loadA_all (l := [.bool c.b, a2]) g2 rfl) ?_
    (repeat (first | refine lss_t (by omega) ?_ | refine lss_f (by omega) ?_ | refine leq_t (by omega) ?_ | refine leq_f (by omega) ?_ | refine gtr_t (by omega) ?_ | refine gtr_f (by omega) ?_ | refine geq_t (by omega) ?_ | refine geq_f (by omega) ?_ | refine eql_t (by omega) ?_ | refine eql_f (by omega) ?_ | refine neq_t (by omega) ?_ | refine neq_f (by omega) ?_ | refine bindP_mk (by simp (disch := first | omega | exact Int.natCast_nonneg _ | assumption) only [BB, decide_true, decide_false, Bool.not_true, Bool.not_false, Option.bind_some, T.get_upd_same, T.get_upd_ne, if_pos, Nat.zero_add, Nat.mul_one, Nat.add_zero, Int.toNat_natCast, ↓reduceIte, Nat.reduceLeDiff, Nat.reduceAdd, Nat.le_refl] <;> rfl) ?_ | refine newP_mk ?_ | refine optP_mk ?_ | with_reducible refine condP_t ?_ | with_reducible refine condP_f ?_ | with_reducible refine ifP_tt' ?_ | with_reducible refine ifP_ff' ?_ | with_reducible refine ifP_tf' ?_ | with_reducible refine ifP_ft' ?_ | with_reducible refine ifP_u' ?_ | refine optP_mk0 ?_))
    refine nca_fits_c hr (hf2.mono (by omega)) hG hC fun n2 hn2 => ?_
    (repeat (first | refine lss_t (by omega) ?_ | refine lss_f (by omega) ?_ | refine leq_t (by omega) ?_ | refine leq_f (by omega) ?_ | refine gtr_t (by omega) ?_ | refine gtr_f (by omega) ?_ | refine geq_t (by omega) ?_ | refine geq_f (by omega) ?_ | refine eql_t (by omega) ?_ | refine eql_f (by omega) ?_ | refine neq_t (by omega) ?_ | refine neq_f (by omega) ?_ | refine bindP_mk (by simp (disch := first | omega | exact Int.natCast_nonneg _ | assumption) only [BB, decide_true, decide_false, Bool.not_true, Bool.not_false, Option.bind_some, T.get_upd_same, T.get_upd_ne, if_pos, Nat.zero_add, Nat.mul_one, Nat.add_zero, Int.toNat_natCast, ↓reduceIte, Nat.reduceLeDiff, Nat.reduceAdd, Nat.le_refl] <;> rfl) ?_ | refine newP_mk ?_ | refine optP_mk ?_ | with_reducible refine condP_t ?_ | with_reducible refine condP_f ?_ | with_reducible refine ifP_tt' ?_ | with_reducible refine ifP_ff' ?_ | with_reducible refine ifP_tf' ?_ | with_reducible refine ifP_ft' ?_ | with_reducible refine ifP_u' ?_ | refine optP_mk0 ?_))
    exact ⟨h, hs, kb hK (by rw [hr]; rfl) (by omega)⟩
end V
end Go.Proofs.Ytepbdkfkfcckoaa

/- What ripe and rule (nca and the reference) hand back.
   No condition. -/
set_option linter.unusedVariables false
set_option linter.unusedSimpArgs false
namespace Go.Proofs.Ytepbdkfkfcckoaa
namespace V
open PA
attribute [local irreducible] bindP ifP condP newP optP exP beqP
theorem rz_len : ∀ {l : List Int} {a m : Int}, rz a m l = true → a < m → (l.length : Int) + a + 1 ≤ m
  | [], a, m, h, ha => by simp; omega
  | y :: r, a, m, h, ha => by
    simp only [rz, Bool.and_eq_true, decide_eq_true_eq] at h
    have := rz_len h.2.2 (by omega)
    rw [List.length_cons]; omega
theorem held_len {g : GlD} {c : CfgD} (hg : rightD g = true) (hc : fitsD g c = true) {k : Nat} (hk : k < c.l.length) : (c.l[k]).n.length ≤ 4096 := by
  have h1 := fits_at hc hk
  have h2 := may_spec (right_at hg h1.1 h1.2.1)
  have := rz_len h1.2.2.2 (by omega)
  omega
set_option maxRecDepth 4000 in
theorem nca_ripe_c {ro : Ro} {v nv : Value} {g : GlD} {d : HeldD} (h0 : 0 ≤ d.p) (h1 : d.p < g.p.length) (hne : d.n ≠ []) (hlen : d.n.length ≤ 1000000) {h : T Obj} {nx : Nat} {K : KV} (hf : Fr h nx) (hg : RG ro h v g) (hn : ZI ro h nv d.n) (hK : ∀ nx', nx ≤ nx' → K (.bool (ripeD g d)) h nx') : callP Try.prog ro i_nca_ripe [v, .agg #[.int .i64 d.p, nv]] h nx K := by
  obtain ⟨a, b, rfl, ha, hP⟩ := hg
  apply nca_ripe_of
  unfold nca_ripe
  refine param_mk hf (Nat.le_refl _) fun h2 hs1 hf1 g1 _ => ?_
  refine param_mk hf1 (Nat.le_refl _) fun h3 hs2 hf2 g2 _ => ?_
  have g1 := hs2 _ _ g1
  have hs := hs1.trans hs2
  have hP := hP.sub hs (RPos.sub hs)
  have hn := hn.sub hs
  have hnl := hn.len
  have hl0 : 0 < d.n.length := List.length_pos_iff.2 hne
  obtain ⟨pv, -, -, p3, -, p5, p6⟩ := P_at hP (i := d.p) h0 h1
  have p7 := p6 4 _ rfl
  (repeat (first | refine lss_t (by omega) ?_ | refine lss_f (by omega) ?_ | refine leq_t (by omega) ?_ | refine leq_f (by omega) ?_ | refine gtr_t (by omega) ?_ | refine gtr_f (by omega) ?_ | refine geq_t (by omega) ?_ | refine geq_f (by omega) ?_ | refine eql_t (by omega) ?_ | refine eql_f (by omega) ?_ | refine neq_t (by omega) ?_ | refine neq_f (by omega) ?_ | refine bindP_mk (by simp (disch := first | omega | exact Int.natCast_nonneg _ | assumption) only [BB, decide_true, decide_false, Bool.not_true, Bool.not_false, Option.bind_some, T.get_upd_same, T.get_upd_ne, if_pos, Nat.zero_add, Nat.mul_one, Nat.add_zero, Int.toNat_natCast, ↓reduceIte, Nat.reduceLeDiff, Nat.reduceAdd, Nat.le_refl, g1, g2, hnl] <;> rfl) ?_ | refine newP_mk ?_ | refine optP_mk ?_ | with_reducible refine condP_t ?_ | with_reducible refine condP_f ?_ | with_reducible refine ifP_tt' ?_ | with_reducible refine ifP_ff' ?_ | with_reducible refine ifP_tf' ?_ | with_reducible refine ifP_ft' ?_ | with_reducible refine ifP_u' ?_ | refine optP_mk0 ?_))
  refine bindP_mk (hn.ixI _ (by omega) (by omega)) ?_
  rw [show ((d.n.length : Int) - 1).toNat = d.n.length - 1 by omega]
  refine bindP_mk (hn.load' (last_get hne)) ?_
  (repeat (first | refine lss_t (by omega) ?_ | refine lss_f (by omega) ?_ | refine leq_t (by omega) ?_ | refine leq_f (by omega) ?_ | refine gtr_t (by omega) ?_ | refine gtr_f (by omega) ?_ | refine geq_t (by omega) ?_ | refine geq_f (by omega) ?_ | refine eql_t (by omega) ?_ | refine eql_f (by omega) ?_ | refine neq_t (by omega) ?_ | refine neq_f (by omega) ?_ | refine bindP_mk (by simp (disch := first | omega | exact Int.natCast_nonneg _ | assumption) only [BB, decide_true, decide_false, Bool.not_true, Bool.not_false, Option.bind_some, T.get_upd_same, T.get_upd_ne, if_pos, Nat.zero_add, Nat.mul_one, Nat.add_zero, Int.toNat_natCast, ↓reduceIte, Nat.reduceLeDiff, Nat.reduceAdd, Nat.le_refl, g1, g2, p3, p5, p7] <;> rfl) ?_ | refine newP_mk ?_ | refine optP_mk ?_ | with_reducible refine condP_t ?_ | with_reducible refine condP_f ?_ | with_reducible refine ifP_tt' ?_ | with_reducible refine ifP_ff' ?_ | with_reducible refine ifP_tf' ?_ | with_reducible refine ifP_ft' ?_ | with_reducible refine ifP_u' ?_ | refine optP_mk0 ?_))
  unfold ripeD at hK
  (first | refine lss_s (fun hb => ?_) (fun hb => ?_) | refine leq_s (fun hb => ?_) (fun hb => ?_) | refine gtr_s (fun hb => ?_) (fun hb => ?_) | refine geq_s (fun hb => ?_) (fun hb => ?_) | refine eql_s (fun hb => ?_) (fun hb => ?_) | refine neq_s (fun hb => ?_) (fun hb => ?_))
  · exact ⟨h, hs, kb hK (decide_eq_true (by omega)) (by omega)⟩
  · exact ⟨h, hs, kb hK (decide_eq_false (by omega)) (by omega)⟩
set_option maxRecDepth 4000 in
theorem ref10_ripe_c {ro : Ro} {v nv : Value} {g : GlD} {d : HeldD} (h0 : 0 ≤ d.p) (h1 : d.p < g.p.length) (hne : d.n ≠ []) (hlen : d.n.length ≤ 1000000) {h : T Obj} {nx : Nat} {K : KV} (hf : Fr h nx) (hg : RG ro h v g) (hn : ZI ro h nv d.n) (hK : ∀ nx', nx ≤ nx' → K (.bool (ripeD g d)) h nx') : callP Try.prog ro i_ref10_ripe [v, .agg #[.int .i64 d.p, nv]] h nx K := by
  obtain ⟨a, b, rfl, ha, hP⟩ := hg
  apply ref10_ripe_of
  unfold ref10_ripe
  refine param_mk hf (Nat.le_refl _) fun h2 hs1 hf1 g1 _ => ?_
  refine param_mk hf1 (Nat.le_refl _) fun h3 hs2 hf2 g2 _ => ?_
  have g1 := hs2 _ _ g1
  have hs := hs1.trans hs2
  have hP := hP.sub hs (RPos.sub hs)
  have hn := hn.sub hs
  have hnl := hn.len
  have hl0 : 0 < d.n.length := List.length_pos_iff.2 hne
  obtain ⟨pv, -, -, p3, -, p5, p6⟩ := P_at hP (i := d.p) h0 h1
  have p7 := p6 4 _ rfl
  (repeat (first | refine lss_t (by omega) ?_ | refine lss_f (by omega) ?_ | refine leq_t (by omega) ?_ | refine leq_f (by omega) ?_ | refine gtr_t (by omega) ?_ | refine gtr_f (by omega) ?_ | refine geq_t (by omega) ?_ | refine geq_f (by omega) ?_ | refine eql_t (by omega) ?_ | refine eql_f (by omega) ?_ | refine neq_t (by omega) ?_ | refine neq_f (by omega) ?_ | refine bindP_mk (by simp (disch := first | omega | exact Int.natCast_nonneg _ | assumption) only [BB, decide_true, decide_false, Bool.not_true, Bool.not_false, Option.bind_some, T.get_upd_same, T.get_upd_ne, if_pos, Nat.zero_add, Nat.mul_one, Nat.add_zero, Int.toNat_natCast, ↓reduceIte, Nat.reduceLeDiff, Nat.reduceAdd, Nat.le_refl, g1, g2, hnl] <;> rfl) ?_ | refine newP_mk ?_ | refine optP_mk ?_ | with_reducible refine condP_t ?_ | with_reducible refine condP_f ?_ | with_reducible refine ifP_tt' ?_ | with_reducible refine ifP_ff' ?_ | with_reducible refine ifP_tf' ?_ | with_reducible refine ifP_ft' ?_ | with_reducible refine ifP_u' ?_ | refine optP_mk0 ?_))
  refine bindP_mk (hn.ixI _ (by omega) (by omega)) ?_
  rw [show ((d.n.length : Int) - 1).toNat = d.n.length - 1 by omega]
  refine bindP_mk (hn.load' (last_get hne)) ?_
  (repeat (first | refine lss_t (by omega) ?_ | refine lss_f (by omega) ?_ | refine leq_t (by omega) ?_ | refine leq_f (by omega) ?_ | refine gtr_t (by omega) ?_ | refine gtr_f (by omega) ?_ | refine geq_t (by omega) ?_ | refine geq_f (by omega) ?_ | refine eql_t (by omega) ?_ | refine eql_f (by omega) ?_ | refine neq_t (by omega) ?_ | refine neq_f (by omega) ?_ | refine bindP_mk (by simp (disch := first | omega | exact Int.natCast_nonneg _ | assumption) only [BB, decide_true, decide_false, Bool.not_true, Bool.not_false, Option.bind_some, T.get_upd_same, T.get_upd_ne, if_pos, Nat.zero_add, Nat.mul_one, Nat.add_zero, Int.toNat_natCast, ↓reduceIte, Nat.reduceLeDiff, Nat.reduceAdd, Nat.le_refl, g1, g2, p3, p5, p7] <;> rfl) ?_ | refine newP_mk ?_ | refine optP_mk ?_ | with_reducible refine condP_t ?_ | with_reducible refine condP_f ?_ | with_reducible refine ifP_tt' ?_ | with_reducible refine ifP_ff' ?_ | with_reducible refine ifP_tf' ?_ | with_reducible refine ifP_ft' ?_ | with_reducible refine ifP_u' ?_ | refine optP_mk0 ?_))
  unfold ripeD at hK
  (first | refine lss_s (fun hb => ?_) (fun hb => ?_) | refine leq_s (fun hb => ?_) (fun hb => ?_) | refine gtr_s (fun hb => ?_) (fun hb => ?_) | refine geq_s (fun hb => ?_) (fun hb => ?_) | refine eql_s (fun hb => ?_) (fun hb => ?_) | refine neq_s (fun hb => ?_) (fun hb => ?_))
  · exact ⟨h, hs, kb hK (decide_eq_true (by omega)) (by omega)⟩
  · exact ⟨h, hs, kb hK (decide_eq_false (by omega)) (by omega)⟩
theorem zer_Pos' : zer Try.prog y_api_Pos = some (.agg (posL dummy (.slice none 0 0)).toArray) := zer_Pos
set_option maxRecDepth 4000 in
theorem nca_rule_c {ro : Ro} {v w : Value} {g : GlD} {c : CfgD} (hr : rightD g = true) (hft : fitsD g c = true) {h : T Obj} {nx : Nat} {K : KV} (hf : Fr h nx) (hg : RG ro h v g) (hc : RCfg ro h w c) (hK : ∀ nx', nx ≤ nx' → K (.int .i64 (ruleD g c)) h nx') : callP Try.prog ro i_nca_rule [v, w] h nx K := by
  obtain ⟨a, b, rfl, ha, hP⟩ := hg
  obtain ⟨a2, rfl, hl⟩ := hc
  apply nca_rule_of
  unfold nca_rule
  refine param_mk hf (Nat.le_refl _) fun h1 hs1 hf1 g1 _ => ?_
  refine param_mk hf1 (Nat.le_refl _) fun h2 hs2 hf2 g2 _ => ?_
  have g1 := hs2 _ _ g1
  have hs := hs1.trans hs2
  have hP := hP.sub hs (RPos.sub hs)
  have ha := ha.sub hs
  have hl := hl.sub hs (RHeld.sub hs)
  have hll := hl.len
  have hlen := right_len hr
  have hlen2 := fits_len hft
  unfold ruleD at hK
  generalize hR : rul g (-1) c.l = R at hK
  (repeat (first | refine lss_t (by omega) ?_ | refine lss_f (by omega) ?_ | refine leq_t (by omega) ?_ | refine leq_f (by omega) ?_ | refine gtr_t (by omega) ?_ | refine gtr_f (by omega) ?_ | refine geq_t (by omega) ?_ | refine geq_f (by omega) ?_ | refine eql_t (by omega) ?_ | refine eql_f (by omega) ?_ | refine neq_t (by omega) ?_ | refine neq_f (by omega) ?_ | refine bindP_mk (by simp (disch := first | omega | exact Int.natCast_nonneg _ | assumption) only [BB, decide_true, decide_false, Bool.not_true, Bool.not_false, Option.bind_some, T.get_upd_same, T.get_upd_ne, if_pos, Nat.zero_add, Nat.mul_one, Nat.add_zero, Int.toNat_natCast, ↓reduceIte, Nat.reduceLeDiff, Nat.reduceAdd, Nat.le_refl, g1, g2, hll] <;> rfl) ?_ | refine newP_mk ?_ | refine optP_mk ?_ | with_reducible refine condP_t ?_ | with_reducible refine condP_f ?_ | with_reducible refine ifP_tt' ?_ | with_reducible refine ifP_ff' ?_ | with_reducible refine ifP_tf' ?_ | with_reducible refine ifP_ft' ?_ | with_reducible refine ifP_u' ?_ | refine optP_mk0 ?_))
  refine loopP_rule (fun j e h' nx' => ∃ (k : Nat) (best : Int), k + j = c.l.length ∧ nx + 2 ≤ nx' ∧ h' = h2 ∧ e 2 = ptr nx ∧ e 5 = .int .i64 best ∧ e 10 = a2 ∧ e 11 = .int .i64 c.l.length ∧ e 12 = .int .i64 k ∧ rul g best (c.l.drop k) = R) ?_ (n := c.l.length) ⟨0, -1, by omega, by omega, rfl, rfl, rfl, rfl, rfl, rfl, hR⟩
  rintro j e h' nx' ⟨k, best, hj, hnx, rfl, e2, e5, e10, e11, e12, hr2⟩ Q' hq hx
  unfold nca_rule_L1
  rw [e2, e5, e10, e11, e12]
  refine lss_s (fun hk => ?_) (fun hk => ?_)
  · have hk : k < c.l.length := by omega
    have hin := fits_at hft hk
    have hdl := held_len hr hft hk
    rw [drop_cons hk, rul_cons] at hr2
    obtain ⟨x, ⟨nv, rfl, hn1⟩, hx2, hx3, hx4, hx5⟩ := hl.at hk
    generalize c.l[k] = d at hr2 hx2 hx3 hx5 hn1 hin hdl
    obtain ⟨i1, i2, i3, i4⟩ := hin
    (repeat (first | refine lss_t (by omega) ?_ | refine lss_f (by omega) ?_ | refine leq_t (by omega) ?_ | refine leq_f (by omega) ?_ | refine gtr_t (by omega) ?_ | refine gtr_f (by omega) ?_ | refine geq_t (by omega) ?_ | refine geq_f (by omega) ?_ | refine eql_t (by omega) ?_ | refine eql_f (by omega) ?_ | refine neq_t (by omega) ?_ | refine neq_f (by omega) ?_ | refine bindP_mk (by simp (disch := first | omega | exact Int.natCast_nonneg _ | assumption) only [BB, decide_true, decide_false, Bool.not_true, Bool.not_false, Option.bind_some, T.get_upd_same, T.get_upd_ne, if_pos, Nat.zero_add, Nat.mul_one, Nat.add_zero, Int.toNat_natCast, ↓reduceIte, Nat.reduceLeDiff, Nat.reduceAdd, Nat.le_refl] <;> rfl) ?_ | refine newP_mk ?_ | refine optP_mk ?_ | with_reducible refine condP_t ?_ | with_reducible refine condP_f ?_ | with_reducible refine ifP_tt' ?_ | with_reducible refine ifP_ff' ?_ | with_reducible refine ifP_tf' ?_ | with_reducible refine ifP_ft' ?_ | with_reducible refine ifP_u' ?_ | refine optP_mk0 ?_))
    refine bindP_mk (hl.ix _ hk) (bindP_mk hx3 ?_)
    refine local_mk zer_Held rfl rfl rfl (held_ok hn1.ok) hf2 (by omega) fun h3 hs3 hf3 g3 _ => ?_
    have hP3 := hP.sub hs3 (RPos.sub hs3)
    obtain ⟨pv, q1, q2, p3, p4, p5, p6⟩ := P_at hP3 (i := d.p) i1 i2
    have g13 := hs3 _ _ g1
    (repeat (first | refine lss_t (by omega) ?_ | refine lss_f (by omega) ?_ | refine leq_t (by omega) ?_ | refine leq_f (by omega) ?_ | refine gtr_t (by omega) ?_ | refine gtr_f (by omega) ?_ | refine geq_t (by omega) ?_ | refine geq_f (by omega) ?_ | refine eql_t (by omega) ?_ | refine eql_f (by omega) ?_ | refine neq_t (by omega) ?_ | refine neq_f (by omega) ?_ | refine bindP_mk (by simp (disch := first | omega | exact Int.natCast_nonneg _ | assumption) only [BB, decide_true, decide_false, Bool.not_true, Bool.not_false, Option.bind_some, T.get_upd_same, T.get_upd_ne, if_pos, Nat.zero_add, Nat.mul_one, Nat.add_zero, Int.toNat_natCast, ↓reduceIte, Nat.reduceLeDiff, Nat.reduceAdd, Nat.le_refl, g13, g3, p3, p4] <;> rfl) ?_ | refine newP_mk ?_ | refine optP_mk ?_ | with_reducible refine condP_t ?_ | with_reducible refine condP_f ?_ | with_reducible refine ifP_tt' ?_ | with_reducible refine ifP_ff' ?_ | with_reducible refine ifP_tf' ?_ | with_reducible refine ifP_ft' ?_ | with_reducible refine ifP_u' ?_ | refine optP_mk0 ?_))
    refine local_mk zer_Pos rfl rfl rfl (posL_ok q1.ok) hf3 (by omega) fun h4 hs4 hf4 g4 _ => ?_
    have hs34 := hs3.trans hs4
    have g14 := hs4 _ _ g13
    have g34 := hs4 _ _ g3
    have hn4 := (hn1.sub hs3).sub hs4
    have hG4 : RG ro h4 (.agg #[a, b]) g := ⟨a, b, rfl, ha.sub hs34, hP.sub hs34 (RPos.sub hs34)⟩
    have hok : ∀ (e' : Env) n (best' : Int), e' 2 = ptr nx → e' 5 = .int .i64 best' → e' 10 = a2 → e' 11 = .int .i64 c.l.length → e' 12 = .int .i64 k → (if (g.at d.p).last && (ripeD g d && (decide (best < 0) || decide ((g.at d.p).rule < best))) then (g.at d.p).rule else best) = best' → nx + 2 ≤ n → nca_rule_j2 ro Q' e' h4 n := by
      intro e' n best' f2 f5 f10 f11 f12 hb hn
      unfold nca_rule_j2
      rw [f12]
      (repeat (first | refine lss_t (by omega) ?_ | refine lss_f (by omega) ?_ | refine leq_t (by omega) ?_ | refine leq_f (by omega) ?_ | refine gtr_t (by omega) ?_ | refine gtr_f (by omega) ?_ | refine geq_t (by omega) ?_ | refine geq_f (by omega) ?_ | refine eql_t (by omega) ?_ | refine eql_f (by omega) ?_ | refine neq_t (by omega) ?_ | refine neq_f (by omega) ?_ | refine bindP_mk (by simp (disch := first | omega | exact Int.natCast_nonneg _ | assumption) only [BB, decide_true, decide_false, Bool.not_true, Bool.not_false, Option.bind_some, T.get_upd_same, T.get_upd_ne, if_pos, Nat.zero_add, Nat.mul_one, Nat.add_zero, Int.toNat_natCast, ↓reduceIte, Nat.reduceLeDiff, Nat.reduceAdd, Nat.le_refl] <;> rfl) ?_ | refine newP_mk ?_ | refine optP_mk ?_ | with_reducible refine condP_t ?_ | with_reducible refine condP_f ?_ | with_reducible refine ifP_tt' ?_ | with_reducible refine ifP_ff' ?_ | with_reducible refine ifP_tf' ?_ | with_reducible refine ifP_ft' ?_ | with_reducible refine ifP_u' ?_ | refine optP_mk0 ?_))
      rw [hb] at hr2
      exact hq (j - 1) _ h' _ _ (by omega) ⟨k + 1, best', by omega, by omega, rfl, f2, f5, f10, f11, rfl, hr2⟩ hs34
    (repeat (first | refine lss_t (by omega) ?_ | refine lss_f (by omega) ?_ | refine leq_t (by omega) ?_ | refine leq_f (by omega) ?_ | refine gtr_t (by omega) ?_ | refine gtr_f (by omega) ?_ | refine geq_t (by omega) ?_ | refine geq_f (by omega) ?_ | refine eql_t (by omega) ?_ | refine eql_f (by omega) ?_ | refine neq_t (by omega) ?_ | refine neq_f (by omega) ?_ | refine bindP_mk (by simp (disch := first | omega | exact Int.natCast_nonneg _ | assumption) only [BB, decide_true, decide_false, Bool.not_true, Bool.not_false, Option.bind_some, T.get_upd_same, T.get_upd_ne, if_pos, Nat.zero_add, Nat.mul_one, Nat.add_zero, Int.toNat_natCast, ↓reduceIte, Nat.reduceLeDiff, Nat.reduceAdd, Nat.le_refl, g4] <;> rfl) ?_ | refine newP_mk ?_ | refine optP_mk ?_ | with_reducible refine condP_t ?_ | with_reducible refine condP_f ?_ | with_reducible refine ifP_tt' ?_ | with_reducible refine ifP_ff' ?_ | with_reducible refine ifP_tf' ?_ | with_reducible refine ifP_ft' ?_ | with_reducible refine ifP_u' ?_ | refine optP_mk0 ?_))
    cases hla : (g.at d.p).last with
    | false =>
      rw [hla] at hok
      (repeat (first | refine lss_t (by omega) ?_ | refine lss_f (by omega) ?_ | refine leq_t (by omega) ?_ | refine leq_f (by omega) ?_ | refine gtr_t (by omega) ?_ | refine gtr_f (by omega) ?_ | refine geq_t (by omega) ?_ | refine geq_f (by omega) ?_ | refine eql_t (by omega) ?_ | refine eql_f (by omega) ?_ | refine neq_t (by omega) ?_ | refine neq_f (by omega) ?_ | refine bindP_mk (by simp (disch := first | omega | exact Int.natCast_nonneg _ | assumption) only [BB, decide_true, decide_false, Bool.not_true, Bool.not_false, Option.bind_some, T.get_upd_same, T.get_upd_ne, if_pos, Nat.zero_add, Nat.mul_one, Nat.add_zero, Int.toNat_natCast, ↓reduceIte, Nat.reduceLeDiff, Nat.reduceAdd, Nat.le_refl] <;> rfl) ?_ | refine newP_mk ?_ | refine optP_mk ?_ | with_reducible refine condP_t ?_ | with_reducible refine condP_f ?_ | with_reducible refine ifP_tt' ?_ | with_reducible refine ifP_ff' ?_ | with_reducible refine ifP_tf' ?_ | with_reducible refine ifP_ft' ?_ | with_reducible refine ifP_u' ?_ | refine optP_mk0 ?_))
      exact hok _ _ best e2 e5 e10 e11 e12 (if_neg (by simp)) (by omega)
    | true =>
      rw [hla] at hok
      (repeat (first | refine lss_t (by omega) ?_ | refine lss_f (by omega) ?_ | refine leq_t (by omega) ?_ | refine leq_f (by omega) ?_ | refine gtr_t (by omega) ?_ | refine gtr_f (by omega) ?_ | refine geq_t (by omega) ?_ | refine geq_f (by omega) ?_ | refine eql_t (by omega) ?_ | refine eql_f (by omega) ?_ | refine neq_t (by omega) ?_ | refine neq_f (by omega) ?_ | refine bindP_mk (by simp (disch := first | omega | exact Int.natCast_nonneg _ | assumption) only [BB, decide_true, decide_false, Bool.not_true, Bool.not_false, Option.bind_some, T.get_upd_same, T.get_upd_ne, if_pos, Nat.zero_add, Nat.mul_one, Nat.add_zero, Int.toNat_natCast, ↓reduceIte, Nat.reduceLeDiff, Nat.reduceAdd, Nat.le_refl] <;> rfl) ?_ | refine newP_mk ?_ | refine optP_mk ?_ | with_reducible refine condP_t ?_ | with_reducible refine condP_f ?_ | with_reducible refine ifP_tt' ?_ | with_reducible refine ifP_ff' ?_ | with_reducible refine ifP_tf' ?_ | with_reducible refine ifP_ft' ?_ | with_reducible refine ifP_u' ?_ | refine optP_mk0 ?_))
      refine bindP_mk (loadA_all (l := [a, b]) g14 rfl) ?_
      (repeat (first | refine lss_t (by omega) ?_ | refine lss_f (by omega) ?_ | refine leq_t (by omega) ?_ | refine leq_f (by omega) ?_ | refine gtr_t (by omega) ?_ | refine gtr_f (by omega) ?_ | refine geq_t (by omega) ?_ | refine geq_f (by omega) ?_ | refine eql_t (by omega) ?_ | refine eql_f (by omega) ?_ | refine neq_t (by omega) ?_ | refine neq_f (by omega) ?_ | refine bindP_mk (by simp (disch := first | omega | exact Int.natCast_nonneg _ | assumption) only [BB, decide_true, decide_false, Bool.not_true, Bool.not_false, Option.bind_some, T.get_upd_same, T.get_upd_ne, if_pos, Nat.zero_add, Nat.mul_one, Nat.add_zero, Int.toNat_natCast, ↓reduceIte, Nat.reduceLeDiff, Nat.reduceAdd, Nat.le_refl] <;> rfl) ?_ | refine newP_mk ?_ | refine optP_mk ?_ | with_reducible refine condP_t ?_ | with_reducible refine condP_f ?_ | with_reducible refine ifP_tt' ?_ | with_reducible refine ifP_ff' ?_ | with_reducible refine ifP_tf' ?_ | with_reducible refine ifP_ft' ?_ | with_reducible refine ifP_u' ?_ | refine optP_mk0 ?_))
      refine bindP_mk (loadA_all (l := [.int .i64 d.p, nv]) g34 rfl) ?_
      (repeat (first | refine lss_t (by omega) ?_ | refine lss_f (by omega) ?_ | refine leq_t (by omega) ?_ | refine leq_f (by omega) ?_ | refine gtr_t (by omega) ?_ | refine gtr_f (by omega) ?_ | refine geq_t (by omega) ?_ | refine geq_f (by omega) ?_ | refine eql_t (by omega) ?_ | refine eql_f (by omega) ?_ | refine neq_t (by omega) ?_ | refine neq_f (by omega) ?_ | refine bindP_mk (by simp (disch := first | omega | exact Int.natCast_nonneg _ | assumption) only [BB, decide_true, decide_false, Bool.not_true, Bool.not_false, Option.bind_some, T.get_upd_same, T.get_upd_ne, if_pos, Nat.zero_add, Nat.mul_one, Nat.add_zero, Int.toNat_natCast, ↓reduceIte, Nat.reduceLeDiff, Nat.reduceAdd, Nat.le_refl] <;> rfl) ?_ | refine newP_mk ?_ | refine optP_mk ?_ | with_reducible refine condP_t ?_ | with_reducible refine condP_f ?_ | with_reducible refine ifP_tt' ?_ | with_reducible refine ifP_ff' ?_ | with_reducible refine ifP_tf' ?_ | with_reducible refine ifP_ft' ?_ | with_reducible refine ifP_u' ?_ | refine optP_mk0 ?_))
      refine nca_ripe_c i1 i2 i3 (by omega) (hf4.mono (by omega)) hG4 hn4 fun n hn => ?_
      cases hri : ripeD g d with
      | false =>
        rw [hri] at hok
        (repeat (first | refine lss_t (by omega) ?_ | refine lss_f (by omega) ?_ | refine leq_t (by omega) ?_ | refine leq_f (by omega) ?_ | refine gtr_t (by omega) ?_ | refine gtr_f (by omega) ?_ | refine geq_t (by omega) ?_ | refine geq_f (by omega) ?_ | refine eql_t (by omega) ?_ | refine eql_f (by omega) ?_ | refine neq_t (by omega) ?_ | refine neq_f (by omega) ?_ | refine bindP_mk (by simp (disch := first | omega | exact Int.natCast_nonneg _ | assumption) only [BB, decide_true, decide_false, Bool.not_true, Bool.not_false, Option.bind_some, T.get_upd_same, T.get_upd_ne, if_pos, Nat.zero_add, Nat.mul_one, Nat.add_zero, Int.toNat_natCast, ↓reduceIte, Nat.reduceLeDiff, Nat.reduceAdd, Nat.le_refl] <;> rfl) ?_ | refine newP_mk ?_ | refine optP_mk ?_ | with_reducible refine condP_t ?_ | with_reducible refine condP_f ?_ | with_reducible refine ifP_tt' ?_ | with_reducible refine ifP_ff' ?_ | with_reducible refine ifP_tf' ?_ | with_reducible refine ifP_ft' ?_ | with_reducible refine ifP_u' ?_ | refine optP_mk0 ?_))
        exact hok _ _ best e2 e5 e10 e11 e12 (if_neg (by simp)) (by omega)
      | true =>
        rw [hri] at hok
        (repeat (first | refine lss_t (by omega) ?_ | refine lss_f (by omega) ?_ | refine leq_t (by omega) ?_ | refine leq_f (by omega) ?_ | refine gtr_t (by omega) ?_ | refine gtr_f (by omega) ?_ | refine geq_t (by omega) ?_ | refine geq_f (by omega) ?_ | refine eql_t (by omega) ?_ | refine eql_f (by omega) ?_ | refine neq_t (by omega) ?_ | refine neq_f (by omega) ?_ | refine bindP_mk (by simp (disch := first | omega | exact Int.natCast_nonneg _ | assumption) only [BB, decide_true, decide_false, Bool.not_true, Bool.not_false, Option.bind_some, T.get_upd_same, T.get_upd_ne, if_pos, Nat.zero_add, Nat.mul_one, Nat.add_zero, Int.toNat_natCast, ↓reduceIte, Nat.reduceLeDiff, Nat.reduceAdd, Nat.le_refl] <;> rfl) ?_ | refine newP_mk ?_ | refine optP_mk ?_ | with_reducible refine condP_t ?_ | with_reducible refine condP_f ?_ | with_reducible refine ifP_tt' ?_ | with_reducible refine ifP_ff' ?_ | with_reducible refine ifP_tf' ?_ | with_reducible refine ifP_ft' ?_ | with_reducible refine ifP_u' ?_ | refine optP_mk0 ?_))
        (first | refine lss_s (fun hb => ?_) (fun hb => ?_) | refine leq_s (fun hb => ?_) (fun hb => ?_) | refine gtr_s (fun hb => ?_) (fun hb => ?_) | refine geq_s (fun hb => ?_) (fun hb => ?_) | refine eql_s (fun hb => ?_) (fun hb => ?_) | refine neq_s (fun hb => ?_) (fun hb => ?_))
        · (repeat (first | refine lss_t (by omega) ?_ | refine lss_f (by omega) ?_ | refine leq_t (by omega) ?_ | refine leq_f (by omega) ?_ | refine gtr_t (by omega) ?_ | refine gtr_f (by omega) ?_ | refine geq_t (by omega) ?_ | refine geq_f (by omega) ?_ | refine eql_t (by omega) ?_ | refine eql_f (by omega) ?_ | refine neq_t (by omega) ?_ | refine neq_f (by omega) ?_ | refine bindP_mk (by simp (disch := first | omega | exact Int.natCast_nonneg _ | assumption) only [BB, decide_true, decide_false, Bool.not_true, Bool.not_false, Option.bind_some, T.get_upd_same, T.get_upd_ne, if_pos, Nat.zero_add, Nat.mul_one, Nat.add_zero, Int.toNat_natCast, ↓reduceIte, Nat.reduceLeDiff, Nat.reduceAdd, Nat.le_refl, g4] <;> rfl) ?_ | refine newP_mk ?_ | refine optP_mk ?_ | with_reducible refine condP_t ?_ | with_reducible refine condP_f ?_ | with_reducible refine ifP_tt' ?_ | with_reducible refine ifP_ff' ?_ | with_reducible refine ifP_tf' ?_ | with_reducible refine ifP_ft' ?_ | with_reducible refine ifP_u' ?_ | refine optP_mk0 ?_))
          exact hok _ _ _ e2 rfl e10 e11 e12 (if_pos (by rw [decide_eq_true (by omega)]; rfl)) (by omega)
        · (repeat (first | refine lss_t (by omega) ?_ | refine lss_f (by omega) ?_ | refine leq_t (by omega) ?_ | refine leq_f (by omega) ?_ | refine gtr_t (by omega) ?_ | refine gtr_f (by omega) ?_ | refine geq_t (by omega) ?_ | refine geq_f (by omega) ?_ | refine eql_t (by omega) ?_ | refine eql_f (by omega) ?_ | refine neq_t (by omega) ?_ | refine neq_f (by omega) ?_ | refine bindP_mk (by simp (disch := first | omega | exact Int.natCast_nonneg _ | assumption) only [BB, decide_true, decide_false, Bool.not_true, Bool.not_false, Option.bind_some, T.get_upd_same, T.get_upd_ne, if_pos, Nat.zero_add, Nat.mul_one, Nat.add_zero, Int.toNat_natCast, ↓reduceIte, Nat.reduceLeDiff, Nat.reduceAdd, Nat.le_refl, g4] <;> rfl) ?_ | refine newP_mk ?_ | refine optP_mk ?_ | with_reducible refine condP_t ?_ | with_reducible refine condP_f ?_ | with_reducible refine ifP_tt' ?_ | with_reducible refine ifP_ff' ?_ | with_reducible refine ifP_tf' ?_ | with_reducible refine ifP_ft' ?_ | with_reducible refine ifP_u' ?_ | refine optP_mk0 ?_))
          (first | refine lss_s (fun hb => ?_) (fun hb => ?_) | refine leq_s (fun hb => ?_) (fun hb => ?_) | refine gtr_s (fun hb => ?_) (fun hb => ?_) | refine geq_s (fun hb => ?_) (fun hb => ?_) | refine eql_s (fun hb => ?_) (fun hb => ?_) | refine neq_s (fun hb => ?_) (fun hb => ?_))
          · (repeat (first | refine lss_t (by omega) ?_ | refine lss_f (by omega) ?_ | refine leq_t (by omega) ?_ | refine leq_f (by omega) ?_ | refine gtr_t (by omega) ?_ | refine gtr_f (by omega) ?_ | refine geq_t (by omega) ?_ | refine geq_f (by omega) ?_ | refine eql_t (by omega) ?_ | refine eql_f (by omega) ?_ | refine neq_t (by omega) ?_ | refine neq_f (by omega) ?_ | refine bindP_mk (by simp (disch := first | omega | exact Int.natCast_nonneg _ | assumption) only [BB, decide_true, decide_false, Bool.not_true, Bool.not_false, Option.bind_some, T.get_upd_same, T.get_upd_ne, if_pos, Nat.zero_add, Nat.mul_one, Nat.add_zero, Int.toNat_natCast, ↓reduceIte, Nat.reduceLeDiff, Nat.reduceAdd, Nat.le_refl, g4] <;> rfl) ?_ | refine newP_mk ?_ | refine optP_mk ?_ | with_reducible refine condP_t ?_ | with_reducible refine condP_f ?_ | with_reducible refine ifP_tt' ?_ | with_reducible refine ifP_ff' ?_ | with_reducible refine ifP_tf' ?_ | with_reducible refine ifP_ft' ?_ | with_reducible refine ifP_u' ?_ | refine optP_mk0 ?_))
            exact hok _ _ _ e2 rfl e10 e11 e12 (if_pos (by rw [decide_eq_true (show (g.at d.p).rule < best by omega)]; simp)) (by omega)
          · (repeat (first | refine lss_t (by omega) ?_ | refine lss_f (by omega) ?_ | refine leq_t (by omega) ?_ | refine leq_f (by omega) ?_ | refine gtr_t (by omega) ?_ | refine gtr_f (by omega) ?_ | refine geq_t (by omega) ?_ | refine geq_f (by omega) ?_ | refine eql_t (by omega) ?_ | refine eql_f (by omega) ?_ | refine neq_t (by omega) ?_ | refine neq_f (by omega) ?_ | refine bindP_mk (by simp (disch := first | omega | exact Int.natCast_nonneg _ | assumption) only [BB, decide_true, decide_false, Bool.not_true, Bool.not_false, Option.bind_some, T.get_upd_same, T.get_upd_ne, if_pos, Nat.zero_add, Nat.mul_one, Nat.add_zero, Int.toNat_natCast, ↓reduceIte, Nat.reduceLeDiff, Nat.reduceAdd, Nat.le_refl, g4] <;> rfl) ?_ | refine newP_mk ?_ | refine optP_mk ?_ | with_reducible refine condP_t ?_ | with_reducible refine condP_f ?_ | with_reducible refine ifP_tt' ?_ | with_reducible refine ifP_ff' ?_ | with_reducible refine ifP_tf' ?_ | with_reducible refine ifP_ft' ?_ | with_reducible refine ifP_u' ?_ | refine optP_mk0 ?_))
            exact hok _ _ best e2 e5 e10 e11 e12 (if_neg (by rw [decide_eq_false (show ¬ best < 0 by omega), decide_eq_false (show ¬ (g.at d.p).rule < best by omega)]; simp)) (by omega)
  · (repeat (first | refine lss_t (by omega) ?_ | refine lss_f (by omega) ?_ | refine leq_t (by omega) ?_ | refine leq_f (by omega) ?_ | refine gtr_t (by omega) ?_ | refine gtr_f (by omega) ?_ | refine geq_t (by omega) ?_ | refine geq_f (by omega) ?_ | refine eql_t (by omega) ?_ | refine eql_f (by omega) ?_ | refine neq_t (by omega) ?_ | refine neq_f (by omega) ?_ | refine bindP_mk (by simp (disch := first | omega | exact Int.natCast_nonneg _ | assumption) only [BB, decide_true, decide_false, Bool.not_true, Bool.not_false, Option.bind_some, T.get_upd_same, T.get_upd_ne, if_pos, Nat.zero_add, Nat.mul_one, Nat.add_zero, Int.toNat_natCast, ↓reduceIte, Nat.reduceLeDiff, Nat.reduceAdd, Nat.le_refl] <;> rfl) ?_ | refine newP_mk ?_ | refine optP_mk ?_ | with_reducible refine condP_t ?_ | with_reducible refine condP_f ?_ | with_reducible refine ifP_tt' ?_ | with_reducible refine ifP_ff' ?_ | with_reducible refine ifP_tf' ?_ | with_reducible refine ifP_ft' ?_ | with_reducible refine ifP_u' ?_ | refine optP_mk0 ?_))
    refine hx _ _ _ _ (fun e => by cases e) (exP_e (beqP_t ?_))
    unfold nca_rule_j1
    rw [drop_all (by omega)] at hr2
    rw [show (puts e [(13, Value.bool false)]) 5 = .int .i64 best from e5]
    exact ⟨h, hs, ki hK hr2.symm (by omega)⟩
set_option maxRecDepth 4000 in
theorem ref10_rule_c {ro : Ro} {v w : Value} {g : GlD} {c : CfgD} (hr : rightD g = true) (hft : fitsD g c = true) {h : T Obj} {nx : Nat} {K : KV} (hf : Fr h nx) (hg : RG ro h v g) (hc : RCfg ro h w c) (hK : ∀ nx', nx ≤ nx' → K (.int .i64 (ruleD g c)) h nx') : callP Try.prog ro i_ref10_rule [v, w] h nx K := by
  obtain ⟨a, b, rfl, ha, hP⟩ := hg
  obtain ⟨a2, rfl, hl⟩ := hc
  apply ref10_rule_of
  unfold ref10_rule
  refine param_mk hf (Nat.le_refl _) fun h1 hs1 hf1 g1 _ => ?_
  refine param_mk hf1 (Nat.le_refl _) fun h2 hs2 hf2 g2 _ => ?_
  have g1 := hs2 _ _ g1
  have hs := hs1.trans hs2
  have hP := hP.sub hs (RPos.sub hs)
  have ha := ha.sub hs
  have hl := hl.sub hs (RHeld.sub hs)
  have hll := hl.len
  have hlen := right_len hr
  have hlen2 := fits_len hft
  unfold ruleD at hK
  generalize hR : rul g (-1) c.l = R at hK
  refine loopP_rule (fun j e h' nx' => ∃ (k : Nat) (best : Int), k + j = c.l.length ∧ nx + 2 ≤ nx' ∧ h' = h2 ∧ e 2 = ptr nx ∧ e 3 = ptr (nx + 1) ∧ e 5 = .int .i64 best ∧ e 6 = .int .i64 k ∧ rul g best (c.l.drop k) = R) ?_ (n := c.l.length) ⟨0, -1, by omega, by omega, rfl, rfl, rfl, rfl, rfl, hR⟩
  rintro j e h' nx' ⟨k, best, hj, hnx, rfl, e2, e3, e5, e6, hr2⟩ Q' hq hx
  unfold ref10_rule_L1
  rw [e2, e3, e5, e6]
  (repeat (first | refine lss_t (by omega) ?_ | refine lss_f (by omega) ?_ | refine leq_t (by omega) ?_ | refine leq_f (by omega) ?_ | refine gtr_t (by omega) ?_ | refine gtr_f (by omega) ?_ | refine geq_t (by omega) ?_ | refine geq_f (by omega) ?_ | refine eql_t (by omega) ?_ | refine eql_f (by omega) ?_ | refine neq_t (by omega) ?_ | refine neq_f (by omega) ?_ | refine bindP_mk (by simp (disch := first | omega | exact Int.natCast_nonneg _ | assumption) only [BB, decide_true, decide_false, Bool.not_true, Bool.not_false, Option.bind_some, T.get_upd_same, T.get_upd_ne, if_pos, Nat.zero_add, Nat.mul_one, Nat.add_zero, Int.toNat_natCast, ↓reduceIte, Nat.reduceLeDiff, Nat.reduceAdd, Nat.le_refl, g1, g2, hll] <;> rfl) ?_ | refine newP_mk ?_ | refine optP_mk ?_ | with_reducible refine condP_t ?_ | with_reducible refine condP_f ?_ | with_reducible refine ifP_tt' ?_ | with_reducible refine ifP_ff' ?_ | with_reducible refine ifP_tf' ?_ | with_reducible refine ifP_ft' ?_ | with_reducible refine ifP_u' ?_ | refine optP_mk0 ?_))
  refine lss_s (fun hk => ?_) (fun hk => ?_)
  · have hk : k < c.l.length := by omega
    have hin := fits_at hft hk
    have hdl := held_len hr hft hk
    rw [drop_cons hk, rul_cons] at hr2
    obtain ⟨x, ⟨nv, rfl, hn1⟩, hx2, hx3, hx4, hx5⟩ := hl.at hk
    generalize c.l[k] = d at hr2 hx2 hx3 hx5 hn1 hin hdl
    obtain ⟨i1, i2, i3, i4⟩ := hin
    have hix := hl.ix .i64 hk
    have hp0 := hx5 0 _ rfl
    obtain ⟨pv, q1, q2, p3, p4, p5, p6⟩ := P_at hP (i := d.p) i1 i2
    (repeat (first | refine lss_t (by omega) ?_ | refine lss_f (by omega) ?_ | refine leq_t (by omega) ?_ | refine leq_f (by omega) ?_ | refine gtr_t (by omega) ?_ | refine gtr_f (by omega) ?_ | refine geq_t (by omega) ?_ | refine geq_f (by omega) ?_ | refine eql_t (by omega) ?_ | refine eql_f (by omega) ?_ | refine neq_t (by omega) ?_ | refine neq_f (by omega) ?_ | refine bindP_mk (by simp (disch := first | omega | exact Int.natCast_nonneg _ | assumption) only [BB, decide_true, decide_false, Bool.not_true, Bool.not_false, Option.bind_some, T.get_upd_same, T.get_upd_ne, if_pos, Nat.zero_add, Nat.mul_one, Nat.add_zero, Int.toNat_natCast, ↓reduceIte, Nat.reduceLeDiff, Nat.reduceAdd, Nat.le_refl, g1, g2, hix, hx4, hp0, p3, p4] <;> rfl) ?_ | refine newP_mk ?_ | refine optP_mk ?_ | with_reducible refine condP_t ?_ | with_reducible refine condP_f ?_ | with_reducible refine ifP_tt' ?_ | with_reducible refine ifP_ff' ?_ | with_reducible refine ifP_tf' ?_ | with_reducible refine ifP_ft' ?_ | with_reducible refine ifP_u' ?_ | refine optP_mk0 ?_))
    refine local_mk zer_Pos rfl rfl rfl (posL_ok q1.ok) hf2 (by omega) fun h4 hs4 hf4 g4 _ => ?_
    have g14 := hs4 _ _ g1
    have g24 := hs4 _ _ g2
    have hn4 := hn1.sub hs4
    have hl4 := hl.sub hs4 (RHeld.sub hs4)
    have hG4 : RG ro h4 (.agg #[a, b]) g := ⟨a, b, rfl, ha.sub hs4, hP.sub hs4 (RPos.sub hs4)⟩
    have hx34 : loadA ro h4 2 (elPtr 2 a2 k) = some (.agg #[.int .i64 d.p, nv]) := by
      unfold V.loadA at hx3 ⊢
      obtain ⟨ad, y1, y2⟩ := bind_some' hx3
      obtain ⟨l9, y3, y4⟩ := bind_some' y2
      rw [y1, Option.bind_some, cellsAt_sub hs4 y3, Option.bind_some, y4]
    have hok : ∀ (e' : Env) n (best' : Int), e' 2 = ptr nx → e' 3 = ptr (nx + 1) → e' 5 = .int .i64 best' → e' 6 = .int .i64 k → (if (g.at d.p).last && (ripeD g d && (decide (best < 0) || decide ((g.at d.p).rule < best))) then (g.at d.p).rule else best) = best' → nx + 2 ≤ n → ref10_rule_j2 ro Q' e' h4 n := by
      intro e' n best' f2 f3 f5 f6 hb hn
      unfold ref10_rule_j2
      rw [f6]
      (repeat (first | refine lss_t (by omega) ?_ | refine lss_f (by omega) ?_ | refine leq_t (by omega) ?_ | refine leq_f (by omega) ?_ | refine gtr_t (by omega) ?_ | refine gtr_f (by omega) ?_ | refine geq_t (by omega) ?_ | refine geq_f (by omega) ?_ | refine eql_t (by omega) ?_ | refine eql_f (by omega) ?_ | refine neq_t (by omega) ?_ | refine neq_f (by omega) ?_ | refine bindP_mk (by simp (disch := first | omega | exact Int.natCast_nonneg _ | assumption) only [BB, decide_true, decide_false, Bool.not_true, Bool.not_false, Option.bind_some, T.get_upd_same, T.get_upd_ne, if_pos, Nat.zero_add, Nat.mul_one, Nat.add_zero, Int.toNat_natCast, ↓reduceIte, Nat.reduceLeDiff, Nat.reduceAdd, Nat.le_refl] <;> rfl) ?_ | refine newP_mk ?_ | refine optP_mk ?_ | with_reducible refine condP_t ?_ | with_reducible refine condP_f ?_ | with_reducible refine ifP_tt' ?_ | with_reducible refine ifP_ff' ?_ | with_reducible refine ifP_tf' ?_ | with_reducible refine ifP_ft' ?_ | with_reducible refine ifP_u' ?_ | refine optP_mk0 ?_))
      rw [hb] at hr2
      exact hq (j - 1) _ h' _ _ (by omega) ⟨k + 1, best', by omega, by omega, rfl, f2, f3, f5, rfl, hr2⟩ hs4
    (repeat (first | refine lss_t (by omega) ?_ | refine lss_f (by omega) ?_ | refine leq_t (by omega) ?_ | refine leq_f (by omega) ?_ | refine gtr_t (by omega) ?_ | refine gtr_f (by omega) ?_ | refine geq_t (by omega) ?_ | refine geq_f (by omega) ?_ | refine eql_t (by omega) ?_ | refine eql_f (by omega) ?_ | refine neq_t (by omega) ?_ | refine neq_f (by omega) ?_ | refine bindP_mk (by simp (disch := first | omega | exact Int.natCast_nonneg _ | assumption) only [BB, decide_true, decide_false, Bool.not_true, Bool.not_false, Option.bind_some, T.get_upd_same, T.get_upd_ne, if_pos, Nat.zero_add, Nat.mul_one, Nat.add_zero, Int.toNat_natCast, ↓reduceIte, Nat.reduceLeDiff, Nat.reduceAdd, Nat.le_refl, g4] <;> rfl) ?_ | refine newP_mk ?_ | refine optP_mk ?_ | with_reducible refine condP_t ?_ | with_reducible refine condP_f ?_ | with_reducible refine ifP_tt' ?_ | with_reducible refine ifP_ff' ?_ | with_reducible refine ifP_tf' ?_ | with_reducible refine ifP_ft' ?_ | with_reducible refine ifP_u' ?_ | refine optP_mk0 ?_))
    cases hla : (g.at d.p).last with
    | false =>
      rw [hla] at hok
      (repeat (first | refine lss_t (by omega) ?_ | refine lss_f (by omega) ?_ | refine leq_t (by omega) ?_ | refine leq_f (by omega) ?_ | refine gtr_t (by omega) ?_ | refine gtr_f (by omega) ?_ | refine geq_t (by omega) ?_ | refine geq_f (by omega) ?_ | refine eql_t (by omega) ?_ | refine eql_f (by omega) ?_ | refine neq_t (by omega) ?_ | refine neq_f (by omega) ?_ | refine bindP_mk (by simp (disch := first | omega | exact Int.natCast_nonneg _ | assumption) only [BB, decide_true, decide_false, Bool.not_true, Bool.not_false, Option.bind_some, T.get_upd_same, T.get_upd_ne, if_pos, Nat.zero_add, Nat.mul_one, Nat.add_zero, Int.toNat_natCast, ↓reduceIte, Nat.reduceLeDiff, Nat.reduceAdd, Nat.le_refl] <;> rfl) ?_ | refine newP_mk ?_ | refine optP_mk ?_ | with_reducible refine condP_t ?_ | with_reducible refine condP_f ?_ | with_reducible refine ifP_tt' ?_ | with_reducible refine ifP_ff' ?_ | with_reducible refine ifP_tf' ?_ | with_reducible refine ifP_ft' ?_ | with_reducible refine ifP_u' ?_ | refine optP_mk0 ?_))
      exact hok _ _ best e2 e3 e5 e6 (if_neg (by simp)) (by omega)
    | true =>
      rw [hla] at hok
      (repeat (first | refine lss_t (by omega) ?_ | refine lss_f (by omega) ?_ | refine leq_t (by omega) ?_ | refine leq_f (by omega) ?_ | refine gtr_t (by omega) ?_ | refine gtr_f (by omega) ?_ | refine geq_t (by omega) ?_ | refine geq_f (by omega) ?_ | refine eql_t (by omega) ?_ | refine eql_f (by omega) ?_ | refine neq_t (by omega) ?_ | refine neq_f (by omega) ?_ | refine bindP_mk (by simp (disch := first | omega | exact Int.natCast_nonneg _ | assumption) only [BB, decide_true, decide_false, Bool.not_true, Bool.not_false, Option.bind_some, T.get_upd_same, T.get_upd_ne, if_pos, Nat.zero_add, Nat.mul_one, Nat.add_zero, Int.toNat_natCast, ↓reduceIte, Nat.reduceLeDiff, Nat.reduceAdd, Nat.le_refl] <;> rfl) ?_ | refine newP_mk ?_ | refine optP_mk ?_ | with_reducible refine condP_t ?_ | with_reducible refine condP_f ?_ | with_reducible refine ifP_tt' ?_ | with_reducible refine ifP_ff' ?_ | with_reducible refine ifP_tf' ?_ | with_reducible refine ifP_ft' ?_ | with_reducible refine ifP_u' ?_ | refine optP_mk0 ?_))
      refine bindP_mk (loadA_all (l := [a, b]) g14 rfl) ?_
      (repeat (first | refine lss_t (by omega) ?_ | refine lss_f (by omega) ?_ | refine leq_t (by omega) ?_ | refine leq_f (by omega) ?_ | refine gtr_t (by omega) ?_ | refine gtr_f (by omega) ?_ | refine geq_t (by omega) ?_ | refine geq_f (by omega) ?_ | refine eql_t (by omega) ?_ | refine eql_f (by omega) ?_ | refine neq_t (by omega) ?_ | refine neq_f (by omega) ?_ | refine bindP_mk (by simp (disch := first | omega | exact Int.natCast_nonneg _ | assumption) only [BB, decide_true, decide_false, Bool.not_true, Bool.not_false, Option.bind_some, T.get_upd_same, T.get_upd_ne, if_pos, Nat.zero_add, Nat.mul_one, Nat.add_zero, Int.toNat_natCast, ↓reduceIte, Nat.reduceLeDiff, Nat.reduceAdd, Nat.le_refl, g24, hix] <;> rfl) ?_ | refine newP_mk ?_ | refine optP_mk ?_ | with_reducible refine condP_t ?_ | with_reducible refine condP_f ?_ | with_reducible refine ifP_tt' ?_ | with_reducible refine ifP_ff' ?_ | with_reducible refine ifP_tf' ?_ | with_reducible refine ifP_ft' ?_ | with_reducible refine ifP_u' ?_ | refine optP_mk0 ?_))
      refine bindP_mk hx34 ?_
      (repeat (first | refine lss_t (by omega) ?_ | refine lss_f (by omega) ?_ | refine leq_t (by omega) ?_ | refine leq_f (by omega) ?_ | refine gtr_t (by omega) ?_ | refine gtr_f (by omega) ?_ | refine geq_t (by omega) ?_ | refine geq_f (by omega) ?_ | refine eql_t (by omega) ?_ | refine eql_f (by omega) ?_ | refine neq_t (by omega) ?_ | refine neq_f (by omega) ?_ | refine bindP_mk (by simp (disch := first | omega | exact Int.natCast_nonneg _ | assumption) only [BB, decide_true, decide_false, Bool.not_true, Bool.not_false, Option.bind_some, T.get_upd_same, T.get_upd_ne, if_pos, Nat.zero_add, Nat.mul_one, Nat.add_zero, Int.toNat_natCast, ↓reduceIte, Nat.reduceLeDiff, Nat.reduceAdd, Nat.le_refl] <;> rfl) ?_ | refine newP_mk ?_ | refine optP_mk ?_ | with_reducible refine condP_t ?_ | with_reducible refine condP_f ?_ | with_reducible refine ifP_tt' ?_ | with_reducible refine ifP_ff' ?_ | with_reducible refine ifP_tf' ?_ | with_reducible refine ifP_ft' ?_ | with_reducible refine ifP_u' ?_ | refine optP_mk0 ?_))
      refine ref10_ripe_c i1 i2 i3 (by omega) (hf4.mono (by omega)) hG4 hn4 fun n hn => ?_
      cases hri : ripeD g d with
      | false =>
        rw [hri] at hok
        (repeat (first | refine lss_t (by omega) ?_ | refine lss_f (by omega) ?_ | refine leq_t (by omega) ?_ | refine leq_f (by omega) ?_ | refine gtr_t (by omega) ?_ | refine gtr_f (by omega) ?_ | refine geq_t (by omega) ?_ | refine geq_f (by omega) ?_ | refine eql_t (by omega) ?_ | refine eql_f (by omega) ?_ | refine neq_t (by omega) ?_ | refine neq_f (by omega) ?_ | refine bindP_mk (by simp (disch := first | omega | exact Int.natCast_nonneg _ | assumption) only [BB, decide_true, decide_false, Bool.not_true, Bool.not_false, Option.bind_some, T.get_upd_same, T.get_upd_ne, if_pos, Nat.zero_add, Nat.mul_one, Nat.add_zero, Int.toNat_natCast, ↓reduceIte, Nat.reduceLeDiff, Nat.reduceAdd, Nat.le_refl] <;> rfl) ?_ | refine newP_mk ?_ | refine optP_mk ?_ | with_reducible refine condP_t ?_ | with_reducible refine condP_f ?_ | with_reducible refine ifP_tt' ?_ | with_reducible refine ifP_ff' ?_ | with_reducible refine ifP_tf' ?_ | with_reducible refine ifP_ft' ?_ | with_reducible refine ifP_u' ?_ | refine optP_mk0 ?_))
        exact hok _ _ best e2 e3 e5 e6 (if_neg (by simp)) (by omega)
      | true =>
        rw [hri] at hok
        (repeat (first | refine lss_t (by omega) ?_ | refine lss_f (by omega) ?_ | refine leq_t (by omega) ?_ | refine leq_f (by omega) ?_ | refine gtr_t (by omega) ?_ | refine gtr_f (by omega) ?_ | refine geq_t (by omega) ?_ | refine geq_f (by omega) ?_ | refine eql_t (by omega) ?_ | refine eql_f (by omega) ?_ | refine neq_t (by omega) ?_ | refine neq_f (by omega) ?_ | refine bindP_mk (by simp (disch := first | omega | exact Int.natCast_nonneg _ | assumption) only [BB, decide_true, decide_false, Bool.not_true, Bool.not_false, Option.bind_some, T.get_upd_same, T.get_upd_ne, if_pos, Nat.zero_add, Nat.mul_one, Nat.add_zero, Int.toNat_natCast, ↓reduceIte, Nat.reduceLeDiff, Nat.reduceAdd, Nat.le_refl] <;> rfl) ?_ | refine newP_mk ?_ | refine optP_mk ?_ | with_reducible refine condP_t ?_ | with_reducible refine condP_f ?_ | with_reducible refine ifP_tt' ?_ | with_reducible refine ifP_ff' ?_ | with_reducible refine ifP_tf' ?_ | with_reducible refine ifP_ft' ?_ | with_reducible refine ifP_u' ?_ | refine optP_mk0 ?_))
        (first | refine lss_s (fun hb => ?_) (fun hb => ?_) | refine leq_s (fun hb => ?_) (fun hb => ?_) | refine gtr_s (fun hb => ?_) (fun hb => ?_) | refine geq_s (fun hb => ?_) (fun hb => ?_) | refine eql_s (fun hb => ?_) (fun hb => ?_) | refine neq_s (fun hb => ?_) (fun hb => ?_))
        · (repeat (first | refine lss_t (by omega) ?_ | refine lss_f (by omega) ?_ | refine leq_t (by omega) ?_ | refine leq_f (by omega) ?_ | refine gtr_t (by omega) ?_ | refine gtr_f (by omega) ?_ | refine geq_t (by omega) ?_ | refine geq_f (by omega) ?_ | refine eql_t (by omega) ?_ | refine eql_f (by omega) ?_ | refine neq_t (by omega) ?_ | refine neq_f (by omega) ?_ | refine bindP_mk (by simp (disch := first | omega | exact Int.natCast_nonneg _ | assumption) only [BB, decide_true, decide_false, Bool.not_true, Bool.not_false, Option.bind_some, T.get_upd_same, T.get_upd_ne, if_pos, Nat.zero_add, Nat.mul_one, Nat.add_zero, Int.toNat_natCast, ↓reduceIte, Nat.reduceLeDiff, Nat.reduceAdd, Nat.le_refl, g4] <;> rfl) ?_ | refine newP_mk ?_ | refine optP_mk ?_ | with_reducible refine condP_t ?_ | with_reducible refine condP_f ?_ | with_reducible refine ifP_tt' ?_ | with_reducible refine ifP_ff' ?_ | with_reducible refine ifP_tf' ?_ | with_reducible refine ifP_ft' ?_ | with_reducible refine ifP_u' ?_ | refine optP_mk0 ?_))
          exact hok _ _ _ e2 e3 rfl e6 (if_pos (by rw [decide_eq_true (by omega)]; rfl)) (by omega)
        · (repeat (first | refine lss_t (by omega) ?_ | refine lss_f (by omega) ?_ | refine leq_t (by omega) ?_ | refine leq_f (by omega) ?_ | refine gtr_t (by omega) ?_ | refine gtr_f (by omega) ?_ | refine geq_t (by omega) ?_ | refine geq_f (by omega) ?_ | refine eql_t (by omega) ?_ | refine eql_f (by omega) ?_ | refine neq_t (by omega) ?_ | refine neq_f (by omega) ?_ | refine bindP_mk (by simp (disch := first | omega | exact Int.natCast_nonneg _ | assumption) only [BB, decide_true, decide_false, Bool.not_true, Bool.not_false, Option.bind_some, T.get_upd_same, T.get_upd_ne, if_pos, Nat.zero_add, Nat.mul_one, Nat.add_zero, Int.toNat_natCast, ↓reduceIte, Nat.reduceLeDiff, Nat.reduceAdd, Nat.le_refl, g4] <;> rfl) ?_ | refine newP_mk ?_ | refine optP_mk ?_ | with_reducible refine condP_t ?_ | with_reducible refine condP_f ?_ | with_reducible refine ifP_tt' ?_ | with_reducible refine ifP_ff' ?_ | with_reducible refine ifP_tf' ?_ | with_reducible refine ifP_ft' ?_ | with_reducible refine ifP_u' ?_ | refine optP_mk0 ?_))
          (first | refine lss_s (fun hb => ?_) (fun hb => ?_) | refine leq_s (fun hb => ?_) (fun hb => ?_) | refine gtr_s (fun hb => ?_) (fun hb => ?_) | refine geq_s (fun hb => ?_) (fun hb => ?_) | refine eql_s (fun hb => ?_) (fun hb => ?_) | refine neq_s (fun hb => ?_) (fun hb => ?_))
          · (repeat (first | refine lss_t (by omega) ?_ | refine lss_f (by omega) ?_ | refine leq_t (by omega) ?_ | refine leq_f (by omega) ?_ | refine gtr_t (by omega) ?_ | refine gtr_f (by omega) ?_ | refine geq_t (by omega) ?_ | refine geq_f (by omega) ?_ | refine eql_t (by omega) ?_ | refine eql_f (by omega) ?_ | refine neq_t (by omega) ?_ | refine neq_f (by omega) ?_ | refine bindP_mk (by simp (disch := first | omega | exact Int.natCast_nonneg _ | assumption) only [BB, decide_true, decide_false, Bool.not_true, Bool.not_false, Option.bind_some, T.get_upd_same, T.get_upd_ne, if_pos, Nat.zero_add, Nat.mul_one, Nat.add_zero, Int.toNat_natCast, ↓reduceIte, Nat.reduceLeDiff, Nat.reduceAdd, Nat.le_refl, g4] <;> rfl) ?_ | refine newP_mk ?_ | refine optP_mk ?_ | with_reducible refine condP_t ?_ | with_reducible refine condP_f ?_ | with_reducible refine ifP_tt' ?_ | with_reducible refine ifP_ff' ?_ | with_reducible refine ifP_tf' ?_ | with_reducible refine ifP_ft' ?_ | with_reducible refine ifP_u' ?_ | refine optP_mk0 ?_))
            exact hok _ _ _ e2 e3 rfl e6 (if_pos (by rw [decide_eq_true (show (g.at d.p).rule < best by omega)]; simp)) (by omega)
          · (repeat (first | refine lss_t (by omega) ?_ | refine lss_f (by omega) ?_ | refine leq_t (by omega) ?_ | refine leq_f (by omega) ?_ | refine gtr_t (by omega) ?_ | refine gtr_f (by omega) ?_ | refine geq_t (by omega) ?_ | refine geq_f (by omega) ?_ | refine eql_t (by omega) ?_ | refine eql_f (by omega) ?_ | refine neq_t (by omega) ?_ | refine neq_f (by omega) ?_ | refine bindP_mk (by simp (disch := first | omega | exact Int.natCast_nonneg _ | assumption) only [BB, decide_true, decide_false, Bool.not_true, Bool.not_false, Option.bind_some, T.get_upd_same, T.get_upd_ne, if_pos, Nat.zero_add, Nat.mul_one, Nat.add_zero, Int.toNat_natCast, ↓reduceIte, Nat.reduceLeDiff, Nat.reduceAdd, Nat.le_refl, g4] <;> rfl) ?_ | refine newP_mk ?_ | refine optP_mk ?_ | with_reducible refine condP_t ?_ | with_reducible refine condP_f ?_ | with_reducible refine ifP_tt' ?_ | with_reducible refine ifP_ff' ?_ | with_reducible refine ifP_tf' ?_ | with_reducible refine ifP_ft' ?_ | with_reducible refine ifP_u' ?_ | refine optP_mk0 ?_))
            exact hok _ _ best e2 e3 e5 e6 (if_neg (by rw [decide_eq_false (show ¬ best < 0 by omega), decide_eq_false (show ¬ (g.at d.p).rule < best by omega)]; simp)) (by omega)
  · (repeat (first | refine lss_t (by omega) ?_ | refine lss_f (by omega) ?_ | refine leq_t (by omega) ?_ | refine leq_f (by omega) ?_ | refine gtr_t (by omega) ?_ | refine gtr_f (by omega) ?_ | refine geq_t (by omega) ?_ | refine geq_f (by omega) ?_ | refine eql_t (by omega) ?_ | refine eql_f (by omega) ?_ | refine neq_t (by omega) ?_ | refine neq_f (by omega) ?_ | refine bindP_mk (by simp (disch := first | omega | exact Int.natCast_nonneg _ | assumption) only [BB, decide_true, decide_false, Bool.not_true, Bool.not_false, Option.bind_some, T.get_upd_same, T.get_upd_ne, if_pos, Nat.zero_add, Nat.mul_one, Nat.add_zero, Int.toNat_natCast, ↓reduceIte, Nat.reduceLeDiff, Nat.reduceAdd, Nat.le_refl] <;> rfl) ?_ | refine newP_mk ?_ | refine optP_mk ?_ | with_reducible refine condP_t ?_ | with_reducible refine condP_f ?_ | with_reducible refine ifP_tt' ?_ | with_reducible refine ifP_ff' ?_ | with_reducible refine ifP_tf' ?_ | with_reducible refine ifP_ft' ?_ | with_reducible refine ifP_u' ?_ | refine optP_mk0 ?_))
    refine hx _ _ _ _ (fun e => by cases e) (exP_e (beqP_t ?_))
    unfold ref10_rule_j1
    rw [drop_all (by omega)] at hr2
    refine ⟨h, hs, ?_⟩
    show K (e 5) h _
    rw [e5]
    exact ki hK hr2.symm (by omega)
end V
end Go.Proofs.Ytepbdkfkfcckoaa
