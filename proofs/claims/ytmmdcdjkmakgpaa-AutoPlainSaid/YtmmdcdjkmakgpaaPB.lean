/- Numbering by first appearance. Plain: no program in sight.
   No condition. -/
import Derived.Test.YtmmdcdjkmakgpaaPA
set_option linter.unusedVariables false
set_option linter.unusedSimpArgs false
namespace Go.Proofs.Ytmmdcdjkmakgpaa
namespace PA
section
variable {α β : Type} [DecidableEq α] [DecidableEq β]
/-- One more, if it is not there. -/
def addN (s : List α) (p : α) : List α := if p ∈ s then s else s ++ [p]
/-- Each once, in the order of first appearance. -/
def dd (l : List α) : List α := l.foldl addN []
def pos (s : List α) (p : α) : Nat := s.idxOf p
theorem pos_self (s : List α) (p : α) : pos (p :: s) p = 0 := by simp [pos]
theorem pos_ne {s : List α} {p q : α} (h : q ≠ p) : pos (q :: s) p = pos s p + 1 := by
  unfold pos; rw [List.idxOf_cons, beq_eq_false_iff_ne.2 h]; rfl
theorem pos_of {s : List α} {p : α} {k : Nat} (hk : s[k]? = some p) (hn : ∀ j, j < k → s[j]? ≠ some p) : pos s p = k := by
  induction s generalizing k with
  | nil => simp at hk
  | cons q s ih =>
    cases k with
    | zero => simp at hk; subst hk; exact pos_self _ _
    | succ k =>
      have h0 := hn 0 (by omega)
      rw [pos_ne (fun e => h0 (by simp [e]))]
      rw [ih (by simpa using hk) fun j hj => by have := hn (j + 1) (by omega); simpa using this]
/-- The place of first appearance. -/
def ix (l : List α) (p : α) : Nat := pos (dd l) p
def num (l : List α) : List Nat := l.map (ix l)
theorem dd_append (l : List α) (p : α) : dd (l ++ [p]) = addN (dd l) p := by simp [dd]
theorem mem_addN {s : List α} {p q : α} : q ∈ addN s p ↔ q ∈ s ∨ q = p := by
  unfold addN
  by_cases h : p ∈ s
  · rw [if_pos h]
    constructor
    · exact .inl
    · rintro (h1 | rfl)
      · exact h1
      · exact h
  · rw [if_neg h]; simp
theorem mem_fold {l s : List α} {q : α} : q ∈ l.foldl addN s ↔ q ∈ s ∨ q ∈ l := by
  induction l generalizing s with
  | nil => simp
  | cons p l ih => rw [List.foldl_cons, ih, mem_addN]; simp [or_assoc]
theorem mem_dd {l : List α} {q : α} : q ∈ dd l ↔ q ∈ l := by unfold dd; rw [mem_fold]; simp
theorem addN_prefix (s : List α) (p : α) : ∃ r, addN s p = s ++ r := by
  unfold addN
  by_cases h : p ∈ s
  · exact ⟨[], by rw [if_pos h]; simp⟩
  · exact ⟨[p], by rw [if_neg h]⟩
theorem fold_prefix (l s : List α) : ∃ r, l.foldl addN s = s ++ r := by
  induction l generalizing s with
  | nil => exact ⟨[], by simp⟩
  | cons p l ih =>
    obtain ⟨r, h⟩ := addN_prefix s p
    obtain ⟨r', h'⟩ := ih (addN s p)
    exact ⟨r ++ r', by rw [List.foldl_cons, h', h, List.append_assoc]⟩
theorem dd_prefix (l m : List α) : ∃ r, dd (l ++ m) = dd l ++ r := by
  unfold dd
  rw [List.foldl_append]
  exact fold_prefix m _
theorem idx_stable {l m : List α} {p : α} (h : p ∈ l) : ix (l ++ m) p = ix l p := by
  unfold ix pos
  obtain ⟨r, hr⟩ := dd_prefix l m
  rw [hr, List.idxOf_append, if_pos (mem_dd.2 h)]
theorem addN_length (s : List α) (p : α) : (addN s p).length ≤ s.length + 1 := by
  unfold addN
  by_cases h : p ∈ s
  · rw [if_pos h]; omega
  · rw [if_neg h]; simp
theorem fold_length (l s : List α) : (l.foldl addN s).length ≤ s.length + l.length := by
  induction l generalizing s with
  | nil => simp
  | cons p l ih => rw [List.foldl_cons]; have := ih (addN s p); have := addN_length s p; simp; omega
theorem dd_length (l : List α) : (dd l).length ≤ l.length := by have := fold_length l []; unfold dd; simpa using this
theorem idx_lt {l : List α} {p : α} (h : p ∈ l) : ix l p < (dd l).length := List.idxOf_lt_length_iff.2 (mem_dd.2 h)
theorem ix_new {l : List α} {p : α} (h : ¬ p ∈ dd l) : ix (l ++ [p]) p = (dd l).length := by
  unfold ix pos
  rw [dd_append]
  unfold addN
  rw [if_neg h, List.idxOf_append, if_neg h]
  simp
theorem get_idx {l : List α} {p : α} (h : p ∈ l) : (dd l)[ix l p]? = some p := by
  have h1 := idx_lt h
  unfold ix pos at h1 ⊢
  rw [List.getElem?_eq_getElem h1, List.getElem_idxOf]
theorem idx_inj {l : List α} {p q : α} (hp : p ∈ l) (hq : q ∈ l) (h : ix l p = ix l q) : p = q := by
  have h1 := get_idx hp
  rw [h, get_idx hq] at h1
  exact (Option.some.inj h1).symm
theorem nodup_addN {s : List α} {p : α} (h : s.Nodup) : (addN s p).Nodup := by
  unfold addN
  by_cases hp : p ∈ s
  · rw [if_pos hp]; exact h
  · rw [if_neg hp]
    rw [List.nodup_append]
    refine ⟨h, by simp, ?_⟩
    intro a ha b hb e
    simp at hb
    subst hb; subst e
    exact hp ha
theorem nodup_dd (l : List α) : (dd l).Nodup := by
  have key : ∀ (l s : List α), s.Nodup → (l.foldl addN s).Nodup := by
    intro l
    induction l with
    | nil => intro s h; exact h
    | cons p l ih => intro s h; exact ih _ (nodup_addN h)
  exact key l [] (by simp)
theorem num_length (l : List α) : (num l).length = l.length := by simp [num]
theorem num_get {l : List α} {i : Nat} (hi : i < l.length) : (num l)[i]? = some (ix l l[i]) := by simp [num, hi]
/-- Numbering goes by likeness alone. -/
theorem dd_map {f : α → β} {l : List α} (hf : ∀ a ∈ l, ∀ b ∈ l, f a = f b → a = b) : dd (l.map f) = (dd l).map f := by
  have key : ∀ (m s : List α), (∀ a ∈ s ++ m, ∀ b ∈ s ++ m, f a = f b → a = b) → (m.map f).foldl addN (s.map f) = (m.foldl addN s).map f := by
    intro m
    induction m with
    | nil => intro s _; rfl
    | cons p m ih =>
      intro s h
      rw [List.map_cons, List.foldl_cons, List.foldl_cons]
      have e : addN (s.map f) (f p) = (addN s p).map f := by
        unfold addN
        by_cases hp : p ∈ s
        · rw [if_pos hp, if_pos (List.mem_map_of_mem hp)]
        · have : ¬ f p ∈ s.map f := by
            intro hm
            obtain ⟨q, hq, e⟩ := List.mem_map.1 hm
            have := h q (by simp [hq]) p (by simp) e
            subst this; exact hp hq
          rw [if_neg hp, if_neg this]; simp
      rw [e]
      refine ih _ fun a ha b hb => h a ?_ b ?_
      · rw [List.mem_append, mem_addN] at ha; simp; grind
      · rw [List.mem_append, mem_addN] at hb; simp; grind
  have := key l [] (by simpa using hf)
  simpa [dd] using this
theorem idxOf_map {f : α → β} {s : List α} {p : α} (hf : ∀ a ∈ s, f a = f p → a = p) : (s.map f).idxOf (f p) = s.idxOf p := by
  induction s with
  | nil => rfl
  | cons a s ih =>
    rw [List.map_cons, List.idxOf_cons, List.idxOf_cons]
    by_cases e : a = p
    · subst e; simp
    · have : ¬ f a = f p := fun h => e (hf a (by simp) h)
      rw [beq_eq_false_iff_ne.2 e, beq_eq_false_iff_ne.2 this, ih fun a ha => hf a (by simp [ha])]
theorem num_map {f : α → β} {l : List α} (hf : ∀ a ∈ l, ∀ b ∈ l, f a = f b → a = b) : num (l.map f) = num l := by
  unfold num ix pos
  rw [dd_map hf, List.map_map]
  refine List.map_congr_left fun p hp => ?_
  exact idxOf_map fun a ha e => hf a (mem_dd.1 ha) p hp e
theorem dd_map_length {f : α → β} {l : List α} (hf : ∀ a ∈ l, ∀ b ∈ l, f a = f b → a = b) : (dd (l.map f)).length = (dd l).length := by rw [dd_map hf]; simp
end
/-! ### Bytes dealt to classes -/
/-- All bytes. -/
@[irreducible] def bs : List Nat := List.range 256
theorem bs_length : bs.length = 256 := by unfold bs; simp
theorem mem_bs {b : Nat} : b ∈ bs ↔ b < 256 := by unfold bs; exact List.mem_range
theorem bs_get {b : Nat} (hb : b < 256) : bs[b]? = some b := by unfold bs; rw [List.getElem?_range hb]
def sig (l : List Nat) (b : Nat) : List Bool := l.map fun s => s.testBit b
def sigs (l : List Nat) : List (List Bool) := bs.map (sig l)
/-- The classes of all bytes, and how many there are. -/
def cls (l : List Nat) : List Nat := num (sigs l)
def many (l : List Nat) : Nat := (dd (sigs l)).length
/-- What a set makes of classes. -/
def pairs (c : List Nat) (x : Nat) : List (Nat × Bool) := bs.map fun b => (c.getD b 0, x.testBit b)
theorem sigs_length (l : List Nat) : (sigs l).length = 256 := by rw [sigs, List.length_map, bs_length]
theorem cls_length (l : List Nat) : (cls l).length = 256 := by rw [cls, num_length, sigs_length]
theorem sig_mem {l : List Nat} {b : Nat} (hb : b < 256) : sig l b ∈ sigs l := List.mem_map_of_mem (mem_bs.2 hb)
theorem sigs_get {l : List Nat} {b : Nat} (hb : b < 256) : (sigs l)[b]? = some (sig l b) := by rw [sigs, List.getElem?_map, bs_get hb]; rfl
theorem cls_get {l : List Nat} {b : Nat} (hb : b < 256) : (cls l)[b]? = some (ix (sigs l) (sig l b)) := by
  rw [cls, num, List.getElem?_map, sigs_get hb]; rfl
theorem sig_snoc (l : List Nat) (x b : Nat) : sig (l ++ [x]) b = sig l b ++ [x.testBit b] := by simp [sig]
theorem cls_step (l : List Nat) (x : Nat) : num (pairs (cls l) x) = cls (l ++ [x]) ∧ (dd (pairs (cls l) x)).length = many (l ++ [x]) := by
  let f : List Bool → Nat × Bool := fun s => (ix (sigs l) s.dropLast, s.getLastD false)
  have e : pairs (cls l) x = (sigs (l ++ [x])).map f := by
    unfold pairs
    rw [sigs, List.map_map]
    refine List.map_congr_left fun b hb => ?_
    have hb := mem_bs.1 hb
    simp only [Function.comp, f, sig_snoc]
    rw [List.dropLast_concat, List.getLastD_concat, List.getD_eq_getElem?_getD, cls_get hb]
    rfl
  have hf : ∀ a ∈ sigs (l ++ [x]), ∀ b ∈ sigs (l ++ [x]), f a = f b → a = b := by
    intro a ha b hb h
    obtain ⟨i, hi, rfl⟩ := List.mem_map.1 ha
    obtain ⟨j, hj, rfl⟩ := List.mem_map.1 hb
    simp only [f, sig_snoc, List.dropLast_concat, List.getLastD_concat, Prod.mk.injEq] at h
    have := idx_inj (l := sigs l) (sig_mem (mem_bs.1 hi)) (sig_mem (mem_bs.1 hj)) h.1
    rw [sig_snoc, sig_snoc, this, h.2]
  rw [e, num_map hf, dd_map_length hf]
  exact ⟨rfl, rfl⟩
theorem many_le (l : List Nat) : many l ≤ 256 := by have := dd_length (sigs l); rw [sigs_length] at this; exact this
theorem cls_lt {l : List Nat} {b : Nat} (hb : b < 256) : ix (sigs l) (sig l b) < many l := idx_lt (sig_mem hb)
theorem sigs_nil : sigs [] = List.replicate 256 [] := by
  have : sigs [] = bs.map (fun _ => ([] : List Bool)) := rfl
  rw [this, List.map_const', bs_length]
theorem dd_rep (a : List Bool) : dd (List.replicate 256 a) = [a] := by
  have key : ∀ n, (List.replicate n a).foldl addN [a] = [a] := by
    intro n
    induction n with
    | zero => rfl
    | succ n ih => rw [List.replicate_succ, List.foldl_cons]; unfold addN at ih ⊢; rw [if_pos (by simp)]; exact ih
  unfold dd
  rw [show 256 = 255 + 1 from rfl, List.replicate_succ, List.foldl_cons]
  exact key 255
theorem many_nil : many [] = 1 := by rw [many, sigs_nil, dd_rep]; rfl
theorem cls_nil : cls [] = List.replicate 256 0 := by
  rw [cls, sigs_nil, num, List.map_replicate]
  unfold ix
  rw [dd_rep, pos_self]
end PA
end Go.Proofs.Ytmmdcdjkmakgpaa
