/- What the automaton of places is. Plain: no program in sight.
   No condition. -/
import Derived.Test.YtmmdcdjkmakgpaaBP
set_option linter.unusedVariables false
set_option linter.unusedSimpArgs false
namespace Go.Proofs.Ytmmdcdjkmakgpaa
namespace V
open PA
/-- States of unlike places, the first one of none. -/
structure Base (g : GlD) (S : List StateD) : Prop where
  ok : SOk g S
  few : S.length ≤ 256
  zero : ∃ s, S[0]? = some s ∧ s.l = []
  pos : ∀ (i : Nat) s, 0 < i → S[i]? = some s → s.l ≠ []
  dist : ∀ (i j : Nat) s t, S[i]? = some s → S[j]? = some t → s.l = t.l → i = j
/-- A move by a byte: to the state of the places that are entered, or stay. -/
def MvOk (g : GlD) (en st : Int → Bool) (b : Nat) (S : List StateD) (m : MoveD) : Prop :=
  (lZ g en st b = [] ∧ m.to = -1 ∧ m.ops = []) ∨ (lZ g en st b ≠ [] ∧ ∃ (k : Nat) (t : StateD), m.to = (k : Int) ∧ S[k]? = some t ∧ t.l = lZ g en st b ∧ m.ops = opsZ g en st (lZ g en st b))
def Ext (S S' : List StateD) : Prop := ∃ T, S' = S ++ T ∧ ∀ t ∈ T, t.rule = [] ∧ t.next = []
theorem Ext.refl (S : List StateD) : Ext S S := ⟨[], by simp, fun t ht => by cases ht⟩
theorem Ext.trans {a b c : List StateD} (h1 : Ext a b) (h2 : Ext b c) : Ext a c := by
  obtain ⟨T, rfl, h3⟩ := h1
  obtain ⟨U, rfl, h4⟩ := h2
  refine ⟨T ++ U, by rw [List.append_assoc], fun t ht => ?_⟩
  rcases List.mem_append.1 ht with ht | ht
  · exact h3 t ht
  · exact h4 t ht
/-- The places of states that are there stay. -/
def Grows (S S' : List StateD) : Prop := ∀ (i : Nat) s, S[i]? = some s → ∃ s', S'[i]? = some s' ∧ s'.l = s.l
theorem Grows.refl (S : List StateD) : Grows S S := fun i s h => ⟨s, h, rfl⟩
theorem Grows.trans {a b c : List StateD} (h1 : Grows a b) (h2 : Grows b c) : Grows a c := fun i s h => by
  obtain ⟨s1, h3, h4⟩ := h1 i s h
  obtain ⟨s2, h5, h6⟩ := h2 i s1 h3
  exact ⟨s2, h5, h6.trans h4⟩
theorem Ext.grows {S S' : List StateD} (h : Ext S S') : Grows S S' := fun i s hs => by
  obtain ⟨T, rfl, _⟩ := h
  have := (List.getElem?_eq_some_iff.1 hs).1
  exact ⟨s, by rw [List.getElem?_append_left this]; exact hs, rfl⟩
theorem MvOk.mono {g : GlD} {en st : Int → Bool} {b : Nat} {S S' : List StateD} {m : MoveD} (h : MvOk g en st b S m) (hg : Grows S S') : MvOk g en st b S' m := by
  rcases h with h | ⟨h1, k, t, h2, h3, h4, h5⟩
  · exact .inl h
  · obtain ⟨t', h6, h7⟩ := hg k t h3
    exact .inr ⟨h1, k, t', h2, h6, h7.trans h4, h5⟩
theorem goesZ_spec {g : GlD} {en st : Int → Bool} {b : Nat} {S : List StateD} (hb : Base g S) (h0 : (goesZ g en st b S).2.1 = 0) : Base g (goesZ g en st b S).2.2 ∧ Ext S (goesZ g en st b S).2.2 ∧ MvOk g en st b (goesZ g en st b S).2.2 (goesZ g en st b S).1 := by
  by_cases hl : lZ g en st b = []
  · rw [goesZ_nil hl]
    exact ⟨hb, Ext.refl _, .inl ⟨hl, rfl, rfl⟩⟩
  · have hrz := lZ_rz g en st b
    rw [goesZ_ne hl] at h0 ⊢
    dsimp only at h0 ⊢
    generalize hlz : lZ g en st b = l at hl h0 hrz
    unfold findZ at h0 ⊢
    cases hf : S.findIdx? (isL l) with
    | some k =>
      rw [hf] at h0
      obtain ⟨hk, h1, _⟩ := List.findIdx?_eq_some_iff_getElem.1 hf
      have h1 : (S[k]).l = l := of_decide_eq_true h1
      exact ⟨hb, Ext.refl _, .inr ⟨by rw [hlz]; exact hl, k, S[k], rfl, List.getElem?_eq_getElem hk, by rw [hlz]; exact h1, by rw [hlz]⟩⟩
    | none =>
      rw [hf] at h0
      dsimp only at h0 ⊢
      have hn := List.findIdx?_eq_none_iff.1 hf
      by_cases h3 : 3 < (regsZ g l).length
      · rw [if_pos h3] at h0; exact absurd h0 (by show ¬ (110 : Int) = 0; decide)
      · rw [if_neg h3] at h0 ⊢
        by_cases h4 : 256 ≤ S.length
        · rw [if_pos h4] at h0; exact absurd h0 (by show ¬ (3 : Int) = 0; decide)
        · rw [if_neg h4]
          have hne : ∀ s ∈ S, s.l ≠ l := fun s hs e => by
            have := hn s hs
            unfold isL at this
            exact absurd e (of_decide_eq_false this)
          have hget : ∀ (i : Nat) s, (S ++ [(⟨l, regsZ g l, [], []⟩ : StateD)])[i]? = some s → (S[i]? = some s) ∨ (i = S.length ∧ s = ⟨l, regsZ g l, [], []⟩) := fun i s hs => by
            rcases Nat.lt_or_ge i S.length with hi | hi
            · rw [List.getElem?_append_left hi] at hs; exact .inl hs
            · rw [List.getElem?_append_right hi] at hs
              generalize hq : i - S.length = q at hs
              cases q with
              | zero => simp at hs; exact .inr ⟨by omega, hs.symm⟩
              | succ q => simp at hs
          refine ⟨⟨fun s hs => ?_, by simp; omega, ?_, fun i s hi hs => ?_, fun i j s t hs ht he => ?_⟩, ⟨[⟨l, regsZ g l, [], []⟩], rfl, fun t ht => ?_⟩, .inr ⟨by rw [hlz]; exact hl, S.length, ⟨l, regsZ g l, [], []⟩, rfl, by simp, by rw [hlz], by rw [hlz]⟩⟩
          · rcases List.mem_append.1 hs with hs | hs
            · exact hb.ok s hs
            · simp at hs; subst hs; exact ⟨hrz, rfl, by show (regsZ g l).length ≤ 3; omega⟩
          · obtain ⟨s, h5, h6⟩ := hb.zero
            exact ⟨s, by rw [List.getElem?_append_left (List.getElem?_eq_some_iff.1 h5).1]; exact h5, h6⟩
          · rcases hget i s hs with hs | ⟨_, rfl⟩
            · exact hb.pos i s hi hs
            · exact hl
          · rcases hget i s hs with hs | ⟨hi, rfl⟩
            · rcases hget j t ht with ht | ⟨hj, rfl⟩
              · exact hb.dist i j s t hs ht he
              · exact absurd he (hne s (List.mem_of_getElem? hs))
            · rcases hget j t ht with ht | ⟨hj, rfl⟩
              · exact absurd he.symm (hne t (List.mem_of_getElem? ht))
              · omega
          · simp at ht; subst ht; exact ⟨rfl, rfl⟩
theorem rowZ_spec {g : GlD} {en st : Int → Bool} : ∀ {B : List Nat} {S : List StateD}, Base g S → (rowZ g en st B S).1 = 0 → Base g (rowZ g en st B S).2.2 ∧ Ext S (rowZ g en st B S).2.2 ∧ (rowZ g en st B S).2.1.length = B.length ∧ ∀ (j : Nat) b m, B[j]? = some b → (rowZ g en st B S).2.1[j]? = some m → MvOk g en st b (rowZ g en st B S).2.2 m
  | [], S, hb, _ => ⟨hb, Ext.refl _, rfl, fun j b m hj => by simp at hj⟩
  | b :: r, S, hb, h0 => by
    rw [rowZ_cons] at h0 ⊢
    by_cases h1 : (goesZ g en st b S).2.1 = 0
    · rw [if_pos h1] at h0 ⊢
      obtain ⟨g1, g2, g3⟩ := goesZ_spec hb h1
      obtain ⟨r1, r2, r3, r4⟩ := rowZ_spec (B := r) g1 h0
      refine ⟨r1, g2.trans r2, by simp [r3], fun j b' m hj hm => ?_⟩
      cases j with
      | zero => simp at hj hm; subst hj; subst hm; exact g3.mono r2.grows
      | succ j => exact r4 j b' m (by simpa using hj) (by simpa using hm)
    · rw [if_neg h1] at h0; exact absurd h0 h1
/-- How many codes are done. -/
def doneZ (k c i : Nat) (s : StateD) : Nat := if i < k then (codesD (s.r.length : Int)).toNat else if i = k then c else 0
/-- The automaton as far as it is made. -/
structure Made (g : GlD) (B : List Nat) (S : List StateD) (k c : Nat) : Prop where
  base : Base g S
  cnt : ∀ (i : Nat) s, S[i]? = some s → s.rule.length = doneZ k c i s ∧ s.next.length = doneZ k c i s
  rule : ∀ (i : Nat) s (q : Nat) ru, S[i]? = some s → s.rule[q]? = some ru → ru = ruleZ g (-1) (digs g s.l q)
  next : ∀ (i : Nat) s (q : Nat) row, S[i]? = some s → s.next[q]? = some row → row.length = B.length ∧ ∀ (j : Nat) b m, B[j]? = some b → row[j]? = some m → MvOk g (entersZ g i (digs g s.l q)) (staysZ (digs g s.l q)) b S m
theorem Base.modify {g : GlD} {S : List StateD} (hb : Base g S) (k : Nat) (rule : Int) (row : List MoveD) : Base g (S.modify k (addRow rule row)) ∧ Grows S (S.modify k (addRow rule row)) := by
  have hget : ∀ (i : Nat) s, (S.modify k (addRow rule row))[i]? = some s → ∃ t, S[i]? = some t ∧ t.l = s.l := fun i s hs => by
    by_cases hi : i = k
    · subst hi
      rw [modify_self] at hs
      cases hq : S[i]? with
      | none => rw [hq] at hs; cases hs
      | some t => rw [hq] at hs; cases hs; exact ⟨t, rfl, rfl⟩
    · rw [modify_ne hi] at hs; exact ⟨s, hs, rfl⟩
  have hgr : Grows S (S.modify k (addRow rule row)) := fun i s hs => by
    by_cases hi : i = k
    · subst hi; exact ⟨addRow rule row s, by rw [modify_self, hs]; rfl, rfl⟩
    · exact ⟨s, by rw [modify_ne hi]; exact hs, rfl⟩
  refine ⟨⟨modify_ok hb.ok _ _ _, by rw [List.length_modify]; exact hb.few, ?_, fun i s hi hs => ?_, fun i j s t hs ht he => ?_⟩, hgr⟩
  · obtain ⟨s, h1, h2⟩ := hb.zero
    obtain ⟨s', h3, h4⟩ := hgr 0 s h1
    exact ⟨s', h3, h4.trans h2⟩
  · obtain ⟨t, h1, h2⟩ := hget i s hs
    rw [← h2]; exact hb.pos i t hi h1
  · obtain ⟨s1, h1, h2⟩ := hget i s hs
    obtain ⟨t1, h3, h4⟩ := hget j t ht
    exact hb.dist i j s1 t1 h1 h3 (by rw [h2, h4, he])
theorem codeZ_spec {g : GlD} {B : List Nat} {S : List StateD} {k c : Nat} (hm : Made g B S k c) (hk : k < S.length) (h0 : (codeZ g B k (c : Int) S).1 = 0) : Made g B (codeZ g B k (c : Int) S).2 k (c + 1) ∧ Grows S (codeZ g B k (c : Int) S).2 := by
  obtain ⟨s, hs⟩ : ∃ s, S[k]? = some s := ⟨_, List.getElem?_eq_getElem hk⟩
  have hlk : lAt S k = s.l := by unfold lAt; rw [List.getD_eq_getElem?_getD, hs]; rfl
  have hcz : codeZ g B k (c : Int) S = if (rowZ g (entersZ g k (digs g s.l c)) (staysZ (digs g s.l c)) B S).1 = 0 then (0, (rowZ g (entersZ g k (digs g s.l c)) (staysZ (digs g s.l c)) B S).2.2.modify k (addRow (ruleZ g (-1) (digs g s.l c)) (rowZ g (entersZ g k (digs g s.l c)) (staysZ (digs g s.l c)) B S).2.1)) else ((rowZ g (entersZ g k (digs g s.l c)) (staysZ (digs g s.l c)) B S).1, S) := by
    unfold codeZ; rw [hlk]
  rw [hcz] at h0 ⊢
  by_cases h1 : (rowZ g (entersZ g k (digs g s.l c)) (staysZ (digs g s.l c)) B S).1 = 0
  · rw [if_pos h1]
    obtain ⟨r1, r2, r3, r4⟩ := rowZ_spec hm.base h1
    generalize rowZ g (entersZ g k (digs g s.l c)) (staysZ (digs g s.l c)) B S = Z at r1 r2 r3 r4
    dsimp only
    obtain ⟨b1, b2⟩ := r1.modify k (ruleZ g (-1) (digs g s.l c)) Z.2.1
    have hgr := r2.grows.trans b2
    obtain ⟨T, hT, hT2⟩ := r2
    have hZk : Z.2.2[k]? = some s := by rw [hT, List.getElem?_append_left hk]; exact hs
    have hget : ∀ (i : Nat) t, (Z.2.2.modify k (addRow (ruleZ g (-1) (digs g s.l c)) Z.2.1))[i]? = some t → (i = k ∧ t = addRow (ruleZ g (-1) (digs g s.l c)) Z.2.1 s) ∨ (i ≠ k ∧ i < S.length ∧ S[i]? = some t) ∨ (S.length ≤ i ∧ t.rule = [] ∧ t.next = []) := fun i t ht => by
      by_cases hi : i = k
      · subst hi
        rw [modify_self, hZk] at ht
        cases ht; exact .inl ⟨rfl, rfl⟩
      · rw [modify_ne hi, hT] at ht
        rcases Nat.lt_or_ge i S.length with hil | hil
        · rw [List.getElem?_append_left hil] at ht; exact .inr (.inl ⟨hi, hil, ht⟩)
        · rw [List.getElem?_append_right hil] at ht
          exact .inr (.inr ⟨hil, hT2 t (List.mem_of_getElem? ht)⟩)
    refine ⟨⟨b1, fun i t ht => ?_, fun i t q ru ht hq => ?_, fun i t q row ht hq => ?_⟩, hgr⟩
    · rcases hget i t ht with ⟨rfl, rfl⟩ | ⟨h2, h3, h4⟩ | ⟨h2, h3, h4⟩
      · have := hm.cnt i s hs
        unfold doneZ at this ⊢
        rw [if_neg (by omega), if_pos rfl] at this ⊢
        show (s.rule ++ [_]).length = _ ∧ (s.next ++ [_]).length = _
        simp [this.1, this.2]
      · have := hm.cnt i t h4
        unfold doneZ at this ⊢
        by_cases hik : i < k
        · rw [if_pos hik] at this ⊢; exact this
        · rw [if_neg hik, if_neg h2] at this ⊢; exact this
      · unfold doneZ
        rw [if_neg (by omega), if_neg (by omega), h3, h4]; exact ⟨rfl, rfl⟩
    · rcases hget i t ht with ⟨rfl, rfl⟩ | ⟨h2, h3, h4⟩ | ⟨h2, h3, h4⟩
      · have hq : (s.rule ++ [ruleZ g (-1) (digs g s.l c)])[q]? = some ru := hq
        have hc := hm.cnt i s hs
        unfold doneZ at hc
        rw [if_neg (by omega), if_pos rfl] at hc
        rcases Nat.lt_or_ge q s.rule.length with hql | hql
        · rw [List.getElem?_append_left hql] at hq; exact hm.rule i s q ru hs hq
        · rw [List.getElem?_append_right hql] at hq
          have hqc : q = c := by
            have := (List.getElem?_eq_some_iff.1 hq).1
            simp at this; omega
          subst hqc
          rw [hc.1, Nat.sub_self] at hq
          simp at hq; exact hq.symm
      · exact hm.rule i t q ru h4 hq
      · rw [h3] at hq; simp at hq
    · rcases hget i t ht with ⟨rfl, rfl⟩ | ⟨h2, h3, h4⟩ | ⟨h2, h3, h4⟩
      · have hq2 : (s.next ++ [Z.2.1])[q]? = some row := hq
        have hc := hm.cnt i s hs
        unfold doneZ at hc
        rw [if_neg (by omega), if_pos rfl] at hc
        rcases Nat.lt_or_ge q s.next.length with hql | hql
        · rw [List.getElem?_append_left hql] at hq2
          obtain ⟨n1, n2⟩ := hm.next i s q row hs hq2
          exact ⟨n1, fun j b m hj hm9 => (n2 j b m hj hm9).mono hgr⟩
        · rw [List.getElem?_append_right hql] at hq2
          have hqc : q = c := by
            have := (List.getElem?_eq_some_iff.1 hq2).1
            simp at this; omega
          subst hqc
          rw [hc.2, Nat.sub_self] at hq2
          simp at hq2; subst hq2
          exact ⟨r3, fun j b m hj hm9 => (r4 j b m hj hm9).mono b2⟩
      · obtain ⟨n1, n2⟩ := hm.next i t q row h4 hq
        exact ⟨n1, fun j b m hj hm9 => (n2 j b m hj hm9).mono hgr⟩
      · rw [h4] at hq; simp at hq
  · rw [if_neg h1] at h0; exact absurd h0 h1
theorem codesZ_spec {g : GlD} {B : List Nat} {k : Nat} : ∀ {n c : Nat} {S : List StateD}, Made g B S k c → k < S.length → (codesZ g B k n (c : Int) S).1 = 0 → Made g B (codesZ g B k n (c : Int) S).2 k (c + n) ∧ Grows S (codesZ g B k n (c : Int) S).2
  | 0, c, S, hm, _, _ => ⟨hm, Grows.refl _⟩
  | n + 1, c, S, hm, hk, h0 => by
    rw [codesZ_succ] at h0 ⊢
    by_cases h1 : (codeZ g B k (c : Int) S).1 = 0
    · rw [if_pos h1] at h0 ⊢
      obtain ⟨c1, c2⟩ := codeZ_spec hm hk h1
      have hk2 : k < (codeZ g B k (c : Int) S).2.length := by
        obtain ⟨s', h3, _⟩ := c2 k _ (List.getElem?_eq_getElem hk)
        exact (List.getElem?_eq_some_iff.1 h3).1
      obtain ⟨d1, d2⟩ := codesZ_spec (n := n) (c := c + 1) c1 hk2 h0
      refine ⟨?_, c2.trans d2⟩
      rw [show c + (n + 1) = c + 1 + n by omega]; exact d1
    · rw [if_neg h1] at h0; exact absurd h0 h1
theorem Grows.len {S S' : List StateD} (h : Grows S S') : S.length ≤ S'.length := by
  rcases Nat.lt_or_ge S'.length S.length with hl | hl
  · obtain ⟨s', h1, _⟩ := h S'.length _ (List.getElem?_eq_getElem hl)
    rw [List.getElem?_eq_none (Nat.le_refl _)] at h1; cases h1
  · exact hl
/-- From one state to the next. -/
theorem Made.next' {g : GlD} {B : List Nat} {S : List StateD} {k : Nat} {s : StateD} (hs : S[k]? = some s) (hm : Made g B S k (codesD (s.r.length : Int)).toNat) : Made g B S (k + 1) 0 := by
  refine ⟨hm.base, fun i t ht => ?_, hm.rule, hm.next⟩
  have := hm.cnt i t ht
  unfold doneZ at this ⊢
  by_cases h1 : i < k
  · rw [if_pos h1] at this; rw [if_pos (by omega)]; exact this
  · by_cases h2 : i = k
    · subst h2
      rw [if_neg h1, if_pos rfl] at this
      rw [if_pos (by omega)]
      rw [hs] at ht; cases ht; exact this
    · rw [if_neg h1, if_neg h2] at this
      rw [if_neg (by omega)]
      by_cases h3 : i = k + 1
      · rw [if_pos h3]; exact this
      · rw [if_neg h3]; exact this
theorem allZ_spec {g : GlD} {B : List Nat} : ∀ {n k : Nat} {S : List StateD}, Made g B S k 0 → k ≤ S.length → k + n = 256 → (allZ g B n k S).1 = 0 → Made g B (allZ g B n k S).2 (allZ g B n k S).2.length 0 ∧ Grows S (allZ g B n k S).2
  | 0, k, S, hm, hk, hn, h0 => by
    have : k = S.length := by have := hm.base.few; omega
    exact ⟨by rw [this] at hm; exact hm, Grows.refl _⟩
  | n + 1, k, S, hm, hk, hn, h0 => by
    rw [allZ_succ] at h0 ⊢
    by_cases h1 : k < S.length
    · rw [if_pos h1] at h0 ⊢
      obtain ⟨s, hs⟩ : ∃ s, S[k]? = some s := ⟨_, List.getElem?_eq_getElem h1⟩
      have hgd : S.getD k noS = s := by rw [List.getD_eq_getElem?_getD, hs]; rfl
      rw [hgd] at h0 ⊢
      by_cases h2 : (codesZ g B k (codesD (s.r.length : Int)).toNat 0 S).1 = 0
      · rw [if_pos h2] at h0 ⊢
        obtain ⟨c1, c2⟩ := codesZ_spec (c := 0) hm h1 h2
        have hz : ((0 : Nat) : Int) = 0 := rfl
        rw [hz, Nat.zero_add] at c1
        rw [hz] at c2
        obtain ⟨s', h3, h4⟩ := c2 k s hs
        have hr : s'.r = s.r := by
          rw [(hm.base.ok s (List.mem_of_getElem? hs)).2.1, (c1.base.ok s' (List.mem_of_getElem? h3)).2.1, h4]
        have c3 := Made.next' h3 (by rw [hr]; exact c1)
        obtain ⟨d1, d2⟩ := allZ_spec (n := n) c3 (by have := (List.getElem?_eq_some_iff.1 h3).1; omega) (by omega) h0
        exact ⟨d1, c2.trans d2⟩
      · rw [if_neg h2] at h0; exact absurd h0 h2
    · rw [if_neg h1]
      have : k = S.length := by omega
      exact ⟨by rw [this] at hm; exact hm, Grows.refl _⟩
theorem made0 (g : GlD) (B : List Nat) : Made g B [noS] 0 0 := by
  have h1 : ∀ (i : Nat) s, [noS][i]? = some s → i = 0 ∧ s = noS := fun i s h => by
    cases i with
    | zero => simp at h; exact ⟨rfl, h.symm⟩
    | succ i => simp at h
  refine ⟨⟨fun s hs => ?_, by simp, ⟨noS, rfl, rfl⟩, fun i s hi hs => ?_, fun i j s t hs ht _ => ?_⟩, fun i s hs => ?_, fun i s q ru hs hq => ?_, fun i s q row hs hq => ?_⟩
  · simp at hs; subst hs; exact ⟨rfl, rfl, Nat.zero_le _⟩
  · have := (h1 i s hs).1; omega
  · rw [(h1 i s hs).1, (h1 j t ht).1]
  · obtain ⟨rfl, rfl⟩ := h1 i s hs; exact ⟨rfl, rfl⟩
  · obtain ⟨rfl, rfl⟩ := h1 i s hs; simp [noS] at hq
  · obtain ⟨rfl, rfl⟩ := h1 i s hs; simp [noS] at hq
/-- The whole automaton, where there is no error. -/
theorem all_made {g : GlD} {B : List Nat} (h0 : (allZ g B 256 0 [noS]).1 = 0) : Made g B (allZ g B 256 0 [noS]).2 (allZ g B 256 0 [noS]).2.length 0 := (allZ_spec (made0 g B) (Nat.zero_le _) rfl h0).1
theorem Made.codes {g : GlD} {B : List Nat} {S : List StateD} (hm : Made g B S S.length 0) {i : Nat} {s : StateD} (hs : S[i]? = some s) : s.rule.length = (codesD (s.r.length : Int)).toNat ∧ s.next.length = (codesD (s.r.length : Int)).toNat := by
  have := hm.cnt i s hs
  unfold doneZ at this
  rw [if_pos (List.getElem?_eq_some_iff.1 hs).1] at this
  exact this
end V
end Go.Proofs.Ytmmdcdjkmakgpaa
