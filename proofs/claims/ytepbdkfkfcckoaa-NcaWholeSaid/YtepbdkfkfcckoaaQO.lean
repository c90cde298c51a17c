/- Texts laid one behind the other: MD, MJ, MK, ML, MM, MN, MO, MP, MT, NY, MQ, LWhole.
   No condition. -/
import Derived.Test.YtepbdkfkfcckoaaQO5
set_option linter.unusedVariables false
set_option linter.unusedSimpArgs false
set_option linter.unusedVariables false
set_option linter.unusedSimpArgs false
namespace Go.Proofs.Ytepbdkfkfcckoaa
namespace V
theorem way_sim {w : List Nat} {P P' : List PosD} {F : List Int} {a c : Int} (hF : rz (a - 1) c F = true) (hn : ∀ q, a ≤ q → q < c → rz (a - 1) c (posAt P q).next = true) (he : ∀ q, a ≤ q → q < c → (posAt P q).s = (posAt P' q).s ∧ (posAt P q).lo = (posAt P' q).lo ∧ (posAt P q).hi = (posAt P' q).hi ∧ (posAt P q).next = (posAt P' q).next) {i : Nat} {q : Int} {j : Nat} (h : Way w P F i q j) : Way w P' F i q j := by
  induction h with
  | first h1 h2 => have := rz_mem hF _ h1; have g := he _ (by omega) this.2; exact .first h1 ((seg_eq ⟨g.1, g.2.1, g.2.2.1⟩).1 h2)
  | step h1 h2 h3 ih =>
    have hp := way_in hF hn h1
    have := rz_mem (hn _ hp.1 hp.2.1) _ h2
    have g := he _ (by omega) this.2
    exact .step ih (by rw [← (he _ hp.1 hp.2.1).2.2.2]; exact h2) ((seg_eq ⟨g.1, g.2.1, g.2.2.1⟩).1 h3)
theorem way_both {w : List Nat} {P : List PosD} {F G : List Int} {i : Nat} {q : Int} {j : Nat} : Way w P (bothD F G) i q j ↔ Way w P F i q j ∨ Way w P G i q j := by
  constructor
  · intro h
    induction h with
    | first h1 h2 =>
      rcases in_both.1 h1 with h1 | h1
      · exact .inl (.first h1 h2)
      · exact .inr (.first h1 h2)
    | step h1 h2 h3 ih =>
      rcases ih with ih | ih
      · exact .inl (.step ih h2 h3)
      · exact .inr (.step ih h2 h3)
  · rintro (h | h)
    · induction h with
      | first h1 h2 => exact .first (in_both.2 (.inl h1)) h2
      | step h1 h2 h3 ih => exact .step ih h2 h3
    · induction h with
      | first h1 h2 => exact .first (in_both.2 (.inr h1)) h2
      | step h1 h2 h3 ih => exact .step ih h2 h3
theorem last_spec : ∀ (from_ : List Int) (k m : Int) (P : List PosD), -1 ≤ k → rz k m from_ = true → m ≤ P.length → (setLast P from_).length = P.length ∧
    ∀ i : Nat, (setLast P from_)[i]? = (P[i]?).map fun p => if (i : Int) ∈ from_ then { p with last := true } else p
  | [], k, m, P, _, _, _ => ⟨rfl, fun i => by unfold setLast; cases h : P[i]? <;> simp [h]⟩
  | x :: r, k, m, P, hk, h, hm => by
    rw [rz_cons] at h
    simp only [Bool.and_eq_true, decide_eq_true_eq] at h
    obtain ⟨h1, h2⟩ := last_spec r x m (P.modify x.toNat fun p => { p with last := true }) (by omega) h.2.2 (by simpa using hm)
    refine ⟨by simpa [setLast] using h1, fun i => ?_⟩
    have e : setLast P (x :: r) = setLast (P.modify x.toNat fun p => { p with last := true }) r := rfl
    rw [e, h2, List.getElem?_modify]
    by_cases hi : x.toNat = i
    · have hx : (i : Int) = x := by omega
      cases P[i]? with
      | none => rfl
      | some p => rw [hx]; by_cases hr : x ∈ r <;> simp [hr, hi]
    · have hx : ¬ (i : Int) = x := by omega
      cases P[i]? with
      | none => rfl
      | some p => simp [hx, hi]
theorem last_at {P : List PosD} {from_ : List Int} {k m : Int} (hk : -1 ≤ k) (h : rz k m from_ = true) (hm : m ≤ P.length) {q : Int} (h0 : 0 ≤ q) (h1 : q < P.length) : posAt (setLast P from_) q = if q ∈ from_ then { posAt P q with last := true } else posAt P q := by
  have := (last_spec from_ k m P hk h hm).2 q.toNat
  rw [Int.toNat_of_nonneg h0, List.getElem?_eq_getElem (show q.toNat < P.length by omega)] at this
  unfold posAt
  rw [List.getD_eq_getElem?_getD, this, List.getD_eq_getElem?_getD, List.getElem?_eq_getElem (show q.toNat < P.length by omega)]
  rfl
def Acc (w : List Nat) (P : List PosD) (F : List Int) (i j : Nat) (r : Int) : Prop := ∃ q, Way w P F i q j ∧ (posAt P q).last = true ∧ (posAt P q).rule = r
structure Fl (w : List Nat) (P : List PosD) (F : List Int) (Ms : List (Nat → Nat → Prop)) : Prop where
  first : rz (-1) P.length F = true
  at_ : ∀ q : Int, 0 ≤ q → q < P.length → (posAt P q).s ≠ 0 ∧ 1 ≤ (posAt P q).lo ∧ (posAt P q).lo ≤ (posAt P q).hi ∧ (posAt P q).hi ≤ 4096 ∧ 0 ≤ (posAt P q).rule ∧ (posAt P q).rule < Ms.length ∧ rz (-1) P.length (posAt P q).next = true
  lang : ∀ i j r, Acc w P F i j r ↔ ∃ (k : Nat) (M : Nat → Nat → Prop), r = (k : Int) ∧ Ms[k]? = some M ∧ M i j ∧ i < j
theorem Fl.nil (w : List Nat) : Fl w [] [] [] := by
  refine ⟨rfl, fun q h1 h2 => by simp at h2; omega, fun i j r => ?_⟩
  constructor
  · rintro ⟨q, h1, -, -⟩
    exfalso
    induction h1 with
    | first h _ => cases h
    | step _ _ _ ih => exact ih
  · rintro ⟨k, M, _, h, _⟩
    simp at h
theorem Fl.snoc {w : List Nat} {P P' : List PosD} {F : List Int} {Ms : List (Nat → Nat → Prop)} {x : InfD} {M : Nat → Nat → Prop} (h : Fl w P F Ms) (hg : Grow Ms.length P P') (hx : LOk w P' P.length P'.length x M) :
    Fl w (setLast P' x.last) (bothD F x.first) (Ms ++ [M]) := by
  have hlen := (last_spec x.last _ _ P' (by omega) hx.last (Int.le_refl _)).1
  have hle := hg.le
  have hat : ∀ q : Int, 0 ≤ q → q < P'.length → posAt (setLast P' x.last) q = if q ∈ x.last then { posAt P' q with last := true } else posAt P' q := fun q h0 h1 => last_at (by omega) hx.last (Int.le_refl _) h0 h1
  have hno : ∀ q : Int, q < P.length → ¬ q ∈ x.last := fun q h1 h2 => by have := rz_mem hx.last _ h2; omega
  have hsame : ∀ q : Int, 0 ≤ q → q < P'.length → (posAt P' q).s = (posAt (setLast P' x.last) q).s ∧ (posAt P' q).lo = (posAt (setLast P' x.last) q).lo ∧ (posAt P' q).hi = (posAt (setLast P' x.last) q).hi ∧ (posAt P' q).next = (posAt (setLast P' x.last) q).next ∧ (posAt P' q).rule = (posAt (setLast P' x.last) q).rule := fun q h0 h1 => by
    rw [hat q h0 h1]; split <;> exact ⟨rfl, rfl, rfl, rfl, rfl⟩
  have hold : ∀ q : Int, 0 ≤ q → q < P.length → posAt (setLast P' x.last) q = posAt P q := fun q h0 h1 => by rw [hat q h0 (by omega), if_neg (hno q h1), hg.old q h0 h1]
  have f0 : rz ((0 : Int) - 1) P.length F = true := h.first
  have n0 : ∀ q : Int, 0 ≤ q → q < P.length → rz ((0 : Int) - 1) P.length (posAt P q).next = true := fun q h0 h1 => (h.at_ q h0 h1).2.2.2.2.2.2
  have w0 : ∀ i q j, Way w (setLast P' x.last) F i q j ↔ Way w P F i q j := fun i q j =>
    ⟨fun g => way_same f0 (fun q h0 h1 => by rw [hold q h0 h1]; exact n0 q h0 h1) (fun q h0 h1 => (hold q h0 h1).symm) g, fun g => way_same f0 n0 (fun q h0 h1 => hold q h0 h1) g⟩
  have w1 : ∀ i q j, Way w (setLast P' x.last) x.first i q j ↔ Way w P' x.first i q j := fun i q j =>
    ⟨fun g => way_sim hx.first (fun q h0 h1 => by rw [← (hsame q (by omega) h1).2.2.2.1]; exact hx.next q h0 h1) (fun q h0 h1 => by have := hsame q (by omega) h1; exact ⟨this.1.symm, this.2.1.symm, this.2.2.1.symm, this.2.2.2.1.symm⟩) g,
      fun g => way_sim hx.first hx.next (fun q h0 h1 => by have := hsame q (by omega) h1; exact ⟨this.1, this.2.1, this.2.2.1, this.2.2.2.1⟩) g⟩
  refine ⟨rz_bothI (rz_in h.first (Int.le_refl _) (by omega)) (rz_in hx.first (by omega) (by omega)), fun q h0 h1 => ?_, fun i j r => ?_⟩
  · rw [hlen] at h1 ⊢
    have g := hsame q h0 h1
    rw [← g.1, ← g.2.1, ← g.2.2.1, ← g.2.2.2.1, ← g.2.2.2.2, List.length_append, List.length_singleton]
    by_cases hq : q < P.length
    · rw [hg.old q h0 hq]
      have := h.at_ q h0 hq
      exact ⟨this.1, this.2.1, this.2.2.1, this.2.2.2.1, this.2.2.2.2.1, by have := this.2.2.2.2.2.1; omega, rz_in this.2.2.2.2.2.2 (Int.le_refl _) (by omega)⟩
    · have := hg.new q (by omega) h1
      unfold plOk at this
      exact ⟨this.1, this.2.1, this.2.2.1, this.2.2.2.1, by omega, by omega, rz_in (hx.next q (by omega) h1) (by omega) (by omega)⟩
  · unfold Acc
    have hM := hx.lang i j
    constructor
    · rintro ⟨q, g1, g2, g3⟩
      rw [way_both, w0, w1] at g1
      rcases g1 with g1 | g1
      · have gi := way_in f0 n0 g1
        rw [hold q gi.1 gi.2.1] at g2 g3
        obtain ⟨k, N, g4, g5, g6⟩ := (h.lang i j r).1 ⟨q, g1, g2, g3⟩
        exact ⟨k, N, g4, by rw [List.getElem?_append_left (List.getElem?_eq_some_iff.1 g5).1]; exact g5, g6⟩
      · have gi := way_in hx.first hx.next g1
        have gn := hg.new q gi.1 gi.2.1
        rw [hat q (by omega) gi.2.1] at g2 g3
        by_cases hq : q ∈ x.last
        · rw [if_pos hq] at g3
          refine ⟨Ms.length, M, by rw [← g3]; exact gn.2.2.2.2.1, by simp, (hM.2 (.inr ⟨q, hq, g1⟩)), gi.2.2⟩
        · rw [if_neg hq, gn.2.2.2.2.2] at g2; cases g2
    · rintro ⟨k, N, rfl, g2, g3, g4⟩
      by_cases hk : k < Ms.length
      · rw [List.getElem?_append_left hk] at g2
        obtain ⟨q, g5, g6, g7⟩ := (h.lang i j k).2 ⟨k, N, rfl, g2, g3, g4⟩
        have gi := way_in f0 n0 g5
        exact ⟨q, way_both.2 (.inl ((w0 i q j).2 g5)), by rw [hold q gi.1 gi.2.1]; exact g6, by rw [hold q gi.1 gi.2.1]; exact g7⟩
      · have hk2 : k = Ms.length := by
          have := (List.getElem?_eq_some_iff.1 g2).1
          simp at this; omega
        subst hk2
        simp at g2
        subst g2
        rcases hM.1 g3 with ⟨_, e⟩ | ⟨q, g5, g6⟩
        · omega
        · have gi := way_in hx.first hx.next g6
          have gn := hg.new q gi.1 gi.2.1
          refine ⟨q, way_both.2 (.inr ((w1 i q j).2 g6)), ?_, ?_⟩
          · rw [hat q (by omega) gi.2.1, if_pos g5]
          · rw [hat q (by omega) gi.2.1, if_pos g5]; exact gn.2.2.2.2.1
def treeM (w : List Nat) (t : List NodeD) : Nat → Nat → Prop := meanD t w t.length (t.length - 1)
theorem ofL_ok {w : List Nat} : ∀ (ts : List (List NodeD)) (Ms : List (Nat → Nat → Prop)) (F : List Int) (P : List PosD) (g : GlD), (∀ t ∈ ts, right8 t = true) → Fl w P F Ms → P.length ≤ 512 → ofL ts Ms.length F P = some g → Fl w g.p g.first (Ms ++ ts.map (treeM w)) ∧ g.p.length ≤ 512
  | [], Ms, F, P, g, _, h, hp, e => by
    cases e
    simpa using ⟨h, hp⟩
  | t :: r, Ms, F, P, g, hr, h, hp, e => by
    have ht := hr t (by simp)
    have hl := right4_len (l := t) (by unfold right8 plain6 at ht; simp only [Bool.and_eq_true] at ht; exact ht.1.2)
    obtain ⟨g1, g2⟩ := node_ok ht w Ms.length t.length (t.length - 1) (by omega) (by omega) (by omega) P
    have hs := h.snoc g1 g2
    unfold ofL at e
    simp only at e
    split at e
    · cases e
    · rename_i hn
      have := ofL_ok r (Ms ++ [treeM w t]) _ _ g (fun t ht => hr t (by simp [ht])) hs (by omega) (by simpa using e)
      simpa using this
def InN (c : CfgD) (q n : Int) : Prop := ∃ h ∈ c.l, h.p = q ∧ n ∈ h.n
def Ent (w : List Nat) (g : GlD) (f : Nat) (q : Int) (k : Nat) : Prop := (k = f ∧ q ∈ g.first) ∨ ∃ p, Way w g.p g.first f p k ∧ q ∈ (posAt g.p p).next
def Hold (w : List Nat) (g : GlD) (f : Nat) (q n : Int) (i : Nat) : Prop := 1 ≤ n ∧ n ≤ (posAt g.p q).hi ∧ ∃ k : Nat, (k : Int) + n = i ∧ Ent w g f q k ∧ ∀ m, k ≤ m → m < i → ∃ b, w[m]? = some b ∧ (posAt g.p q).s.testBit b = true
structure HSim (w : List Nat) (g : GlD) (f : Nat) (c : CfgD) (i : Nat) : Prop where
  fits : fitsD g c = true
  held : (i = f ∧ c = startD) ∨ (f < i ∧ c.b = false ∧ ∀ q n, InN c q n ↔ Hold w g f q n i)
theorem g_at (g : GlD) (q : Int) : g.at q = posAt g.p q := rfl
theorem right_in {w : List Nat} {g : GlD} {Ms : List (Nat → Nat → Prop)} (h : Fl w g.p g.first Ms) (hl : g.p.length ≤ 512) (hm : Ms.length ≤ 512) : rightD g = true := by
  unfold rightD
  simp only [Bool.and_eq_true, decide_eq_true_eq, List.all_eq_true]
  refine ⟨hl, h.first, fun p hp => ?_⟩
  obtain ⟨i, hi, rfl⟩ := List.mem_iff_getElem.1 hp
  have e : posAt g.p (i : Int) = g.p[i] := by
    unfold posAt
    rw [Int.toNat_natCast, List.getD_eq_getElem?_getD, List.getElem?_eq_getElem hi]; rfl
  have := h.at_ i (by omega) (by omega)
  rw [e] at this
  unfold mayD
  simp only [Bool.and_eq_true, decide_eq_true_eq]
  exact ⟨this.1, this.2.1, this.2.2.1, this.2.2.2.1, this.2.2.2.2.1, by omega, this.2.2.2.2.2.2⟩
theorem last_max : ∀ {l : List Int} {a m : Int}, rz a m l = true → ∀ x ∈ l, x ≤ l.getLastD 0
  | [x], a, m, h, y, hy => by
    rw [List.mem_singleton] at hy
    subst hy; exact Int.le_refl _
  | x :: z :: r, a, m, h, y, hy => by
    rw [rz_cons] at h
    simp only [Bool.and_eq_true, decide_eq_true_eq] at h
    have e : (x :: z :: r).getLastD 0 = (z :: r).getLastD 0 := by simp [List.getLastD]
    rw [e]
    rcases List.mem_cons.1 hy with rfl | hy
    · have h1 := last_max h.2.2 z (by simp)
      have h2 := rz_mem h.2.2 z (by simp)
      omega
    · exact last_max h.2.2 y hy
theorem last_mem {l : List Int} (h : l ≠ []) : l.getLastD 0 ∈ l := List.mem_of_getElem? (last_get h)
theorem ripe_way {w : List Nat} {g : GlD} {f : Nat} {c : CfgD} {i : Nat} (hr : rightD g = true) (hfi : f < i) (hft : fitsD g c = true) (h : ∀ q n, InN c q n ↔ Hold w g f q n i) (q : Int) : (∃ h ∈ c.l, h.p = q ∧ ripeD g h = true) ↔ Way w g.p g.first f q i := by
  constructor
  · rintro ⟨x, h1, rfl, h2⟩
    unfold ripeD at h2
    simp only [decide_eq_true_eq] at h2
    have hm := fits_mem hft x h1
    obtain ⟨h3, h4, k, h5, h6, h7⟩ := (h x.p _).1 ⟨x, h1, rfl, last_mem hm.2.2.1⟩
    rw [g_at] at h2
    have hs : seg w g.p x.p k i := ⟨by omega, by omega, by omega, h7⟩
    rcases h6 with ⟨rfl, h6⟩ | ⟨p, h6, h8⟩
    · exact .first h6 hs
    · exact .step h6 h8 hs
  · intro hw
    have key : ∀ k, Ent w g f q k → seg w g.p q k i → ∃ h ∈ c.l, h.p = q ∧ ripeD g h = true := fun k he hs => by
      have hq : 0 ≤ q ∧ q < g.p.length := by
        rcases he with ⟨_, h1⟩ | ⟨p, h1, h2⟩
        · have := rz_mem (by unfold rightD at hr; simp only [Bool.and_eq_true] at hr; exact hr.2.1) _ h1
          omega
        · have hp := way_in (a := 0) (c := g.p.length) (by unfold rightD at hr; simp only [Bool.and_eq_true] at hr; exact hr.2.1) (fun q h0 h1 => (may_spec (right_at hr h0 h1)).2.2.2.2.2.2) h1
          have := rz_mem (may_spec (right_at hr hp.1 hp.2.1)).2.2.2.2.2.2 _ h2
          omega
      have hm := may_spec (right_at hr hq.1 hq.2)
      rw [g_at] at hm
      obtain ⟨s1, s2, s3, s4⟩ := hs
      obtain ⟨x, h1, h2, h3⟩ := (h q ((i : Int) - k)).2 ⟨by omega, s3, k, by omega, he, s4⟩
      refine ⟨x, h1, h2, ?_⟩
      have hx := fits_mem hft x h1
      have := last_max hx.2.2.2 _ h3
      unfold ripeD
      rw [h2, g_at]
      simp only [decide_eq_true_eq]
      omega
    cases hw with
    | first h1 h2 => exact key f (.inl ⟨rfl, h1⟩) h2
    | step h1 h2 h3 => exact key _ (.inr ⟨_, h1, h2⟩) h3
theorem ent_in {w : List Nat} {g : GlD} {f : Nat} {q : Int} {k : Nat} (hr : rightD g = true) (he : Ent w g f q k) : 0 ≤ q ∧ q < g.p.length := by
  have hf : rz ((0 : Int) - 1) g.p.length g.first = true := by unfold rightD at hr; simp only [Bool.and_eq_true] at hr; exact hr.2.1
  rcases he with ⟨_, h1⟩ | ⟨p, h1, h2⟩
  · have := rz_mem hf _ h1; omega
  · have hp := way_in (a := 0) (c := g.p.length) hf (fun q h0 h1 => (may_spec (right_at hr h0 h1)).2.2.2.2.2.2) h1
    have := rz_mem (may_spec (right_at hr hp.1 hp.2.1)).2.2.2.2.2.2 _ h2
    omega
theorem ent_le {w : List Nat} {g : GlD} {f : Nat} {q : Int} {k : Nat} (hr : rightD g = true) (he : Ent w g f q k) : f ≤ k := by
  have hf : rz ((0 : Int) - 1) g.p.length g.first = true := by unfold rightD at hr; simp only [Bool.and_eq_true] at hr; exact hr.2.1
  rcases he with ⟨h, h1⟩ | ⟨p, h1, h2⟩
  · omega
  · have hp := way_in (a := 0) (c := g.p.length) hf (fun q h0 h1 => (may_spec (right_at hr h0 h1)).2.2.2.2.2.2) h1
    omega
theorem in_step {g : GlD} {c : CfgD} {b : Nat} {q n : Int} : InN (stepD g c b) q n ↔ 0 ≤ q ∧ q < g.p.length ∧ n ∈ cntD g c b q := by
  unfold InN
  constructor
  · rintro ⟨h, h1, h2, h3⟩
    obtain ⟨k, h4, rfl, h5⟩ := mem_stepL h1
    have h2 : (k : Int) = q := h2
    subst h2
    exact ⟨by omega, by omega, h3⟩
  · rintro ⟨h1, h2, h3⟩
    refine ⟨⟨q, cntD g c b q⟩, ?_, rfl, h3⟩
    unfold stepD stepL
    rw [List.mem_flatMap]
    refine ⟨q.toNat, List.mem_range.2 (by omega), ?_⟩
    rw [Int.toNat_of_nonneg h1]
    unfold heldOf
    rw [if_neg (fun e => by rw [e] at h3; cases h3)]
    simp
theorem in_stays {g : GlD} {q n : Int} {l : List HeldD} : n ∈ staysL g q l ↔ ∃ h ∈ l, h.p = q ∧ ∃ m ∈ h.n, m < (g.at q).hi ∧ m + 1 = n := by
  unfold staysL
  rw [List.mem_flatMap]
  constructor
  · rintro ⟨h, h1, h2⟩
    split at h2
    · rename_i e
      unfold upD at h2
      rw [List.mem_map] at h2
      obtain ⟨m, h3, h4⟩ := h2
      rw [List.mem_filter] at h3
      exact ⟨h, h1, e, m, h3.1, by simpa using h3.2, h4⟩
    · cases h2
  · rintro ⟨h, h1, e, m, h3, h4, h5⟩
    refine ⟨h, h1, ?_⟩
    rw [if_pos e]
    unfold upD
    rw [List.mem_map]
    exact ⟨m, List.mem_filter.2 ⟨h3, by simpa using h4⟩, h5⟩
theorem HSim.enters {w : List Nat} {g : GlD} {f : Nat} {c : CfgD} {i : Nat} (hr : rightD g = true) (h : HSim w g f c i) (q : Int) : entersD g c q = true ↔ Ent w g f q i := by
  rcases h.held with ⟨rfl, rfl⟩ | ⟨h1, h2, h3⟩
  · unfold entersD startD Ent
    simp only [if_true, List.contains_iff_mem, true_and]
    constructor
    · exact .inl
    · rintro (h | ⟨p, h1, _⟩)
      · exact h
      · have hp := way_in (a := 0) (c := g.p.length) (by unfold rightD at hr; simp only [Bool.and_eq_true] at hr; exact hr.2.1) (fun q h0 h1 => (may_spec (right_at hr h0 h1)).2.2.2.2.2.2) h1
        omega
  · unfold entersD
    rw [h2]
    simp only [Bool.false_eq_true, if_false, List.any_eq_true, Bool.and_eq_true, List.contains_iff_mem]
    have hw := ripe_way hr h1 h.fits h3
    constructor
    · rintro ⟨x, h4, h5, h6⟩
      exact .inr ⟨x.p, (hw x.p).1 ⟨x, h4, rfl, h5⟩, h6⟩
    · rintro (⟨h4, _⟩ | ⟨p, h4, h5⟩)
      · omega
      · obtain ⟨x, h6, h7, h8⟩ := (hw p).2 h4
        exact ⟨x, h6, h8, by rw [h7]; exact h5⟩
theorem HSim.step {w : List Nat} {g : GlD} {f : Nat} {c : CfgD} {i b : Nat} (hr : rightD g = true) (h : HSim w g f c i) (hb : w[i]? = some b) : HSim w g f (stepD g c b) (i + 1) := by
  have hfi : f ≤ i := by rcases h.held with ⟨e, _⟩ | ⟨h1, _⟩ <;> omega
  refine ⟨step_fits hr h.fits, .inr ⟨by omega, rfl, fun q n => ?_⟩⟩
  rw [in_step]
  have hen := h.enters hr q
  have hst : n ∈ staysL g q c.l ↔ n - 1 < (posAt g.p q).hi ∧ Hold w g f q (n - 1) i := by
    rw [in_stays]
    rcases h.held with ⟨rfl, rfl⟩ | ⟨h1, h2, h3⟩
    · constructor
      · rintro ⟨x, h1, _⟩; cases h1
      · rintro ⟨_, h1, _, k, h2, h3, _⟩
        have := ent_le hr h3
        omega
    · constructor
      · rintro ⟨x, h4, h5, m, h6, h7, h8⟩
        have e : m = n - 1 := by omega
        subst e
        exact ⟨h7, (h3 q _).1 ⟨x, h4, h5, h6⟩⟩
      · rintro ⟨h4, h5⟩
        obtain ⟨x, h6, h7, h8⟩ := (h3 q _).2 h5
        exact ⟨x, h6, h7, n - 1, h8, h4, by omega⟩
  unfold cntD
  constructor
  · rintro ⟨h0, h1, h2⟩
    have hm := may_spec (right_at hr h0 h1)
    rw [g_at] at hm
    split at h2
    · rename_i hh
      rw [List.mem_append] at h2
      rcases h2 with h2 | h2
      · split at h2
        · rename_i he
          rw [List.mem_singleton] at h2
          subst h2
          refine ⟨by omega, by omega, i, by omega, hen.1 he, fun m g1 g2 => ?_⟩
          have : m = i := by omega
          subst this
          exact ⟨b, hb, hh⟩
        · cases h2
      · obtain ⟨g1, g2, g3, k, g4, g5, g6⟩ := hst.1 h2
        refine ⟨by omega, by omega, k, by omega, g5, fun m g7 g8 => ?_⟩
        by_cases hmi : m < i
        · exact g6 m g7 hmi
        · have : m = i := by omega
          subst this
          exact ⟨b, hb, hh⟩
    · cases h2
  · rintro ⟨g1, g2, k, g3, g4, g5⟩
    have hq := ent_in hr g4
    have hki := ent_le hr g4
    have hh : hasD g b q = true := by
      obtain ⟨b2, h6, h7⟩ := g5 i (by omega) (by omega)
      rw [hb] at h6
      cases h6
      exact h7
    refine ⟨hq.1, hq.2, ?_⟩
    rw [if_pos hh, List.mem_append]
    by_cases hn : n = 1
    · have : k = i := by omega
      subst this
      rw [if_pos (hen.2 g4)]
      exact .inl (by simp [hn])
    · exact .inr (hst.2 ⟨by omega, by omega, by omega, k, by omega, g4, fun m h1 h2 => g5 m h1 (by omega)⟩)
theorem rul_spec {g : GlD} (hr : rightD g = true) : ∀ (l : List HeldD) (best : Int), (∀ x ∈ l, 0 ≤ x.p ∧ x.p < g.p.length) → -1 ≤ best →
    (rul g best l = best ∨ ∃ h ∈ l, (g.at h.p).last = true ∧ ripeD g h = true ∧ (g.at h.p).rule = rul g best l) ∧ (0 ≤ best → 0 ≤ rul g best l ∧ rul g best l ≤ best) ∧ ∀ h ∈ l, (g.at h.p).last = true → ripeD g h = true → 0 ≤ rul g best l ∧ rul g best l ≤ (g.at h.p).rule
  | [], best, _, _ => ⟨.inl rfl, fun h => ⟨h, Int.le_refl _⟩, fun h hh => by cases hh⟩
  | x :: r, best, hm, hb => by
    rw [rul_cons]
    have h1 := hm x (by simp)
    have h2 := may_spec (right_at hr h1.1 h1.2)
    by_cases hc : ((g.at x.p).last && (ripeD g x && (decide (best < 0) || decide ((g.at x.p).rule < best)))) = true
    · rw [if_pos hc]
      simp only [Bool.and_eq_true, Bool.or_eq_true, decide_eq_true_eq] at hc
      obtain ⟨i1, i2, i3⟩ := rul_spec hr r (g.at x.p).rule (fun y hy => hm y (by simp [hy])) (by omega)
      have i2' := i2 (by omega)
      refine ⟨.inr ?_, fun h0 => ⟨i2'.1, by omega⟩, fun y hy h3 h4 => ?_⟩
      · rcases i1 with i1 | ⟨y, h3, h4, h5, h6⟩
        · exact ⟨x, by simp, hc.1, hc.2.1, i1.symm⟩
        · exact ⟨y, by simp [h3], h4, h5, h6⟩
      · rcases List.mem_cons.1 hy with rfl | hy
        · exact i2'
        · exact i3 y hy h3 h4
    · rw [if_neg hc]
      obtain ⟨i1, i2, i3⟩ := rul_spec hr r best (fun y hy => hm y (by simp [hy])) hb
      refine ⟨?_, i2, fun y hy h3 h4 => ?_⟩
      · rcases i1 with i1 | ⟨y, h3, h4⟩
        · exact .inl i1
        · exact .inr ⟨y, by simp [h3], h4⟩
      · rcases List.mem_cons.1 hy with rfl | hy
        · simp only [Bool.and_eq_true, Bool.or_eq_true, decide_eq_true_eq] at hc
          have h5 : ¬ (best < 0 ∨ (g.at y.p).rule < best) := fun h => hc ⟨h3, h4, h⟩
          have := i2 (by omega)
          omega
        · exact i3 y hy h3 h4
theorem HSim.rule {w : List Nat} {g : GlD} {Ms : List (Nat → Nat → Prop)} {f : Nat} {c : CfgD} {i : Nat} (hF : Fl w g.p g.first Ms) (hr : rightD g = true) (h : HSim w g f c i) (hi : f < i) :
    (ruleD g c = -1 ∧ ∀ (k : Nat) (M : Nat → Nat → Prop), Ms[k]? = some M → ¬ M f i) ∨ ∃ (k : Nat) (M : Nat → Nat → Prop), ruleD g c = k ∧ Ms[k]? = some M ∧ M f i ∧ ∀ (k2 : Nat) (N : Nat → Nat → Prop), Ms[k2]? = some N → N f i → k ≤ k2 := by
  rcases h.held with ⟨e, _⟩ | ⟨_, _, h3⟩
  · omega
  · have hw := ripe_way hr hi h.fits h3
    obtain ⟨r1, _, r3⟩ := rul_spec hr c.l (-1) (fun x hx => ⟨(fits_mem h.fits x hx).1, (fits_mem h.fits x hx).2.1⟩) (Int.le_refl _)
    have hall : ∀ (k : Nat) (M : Nat → Nat → Prop), Ms[k]? = some M → M f i → 0 ≤ ruleD g c ∧ ruleD g c ≤ k := fun k M h4 h5 => by
      obtain ⟨q, h6, h7, h8⟩ := (hF.lang f i k).2 ⟨k, M, rfl, h4, h5, hi⟩
      obtain ⟨x, h9, rfl, h10⟩ := (hw q).2 h6
      have := r3 x h9 h7 h10
      rw [g_at, h8] at this
      exact this
    rcases r1 with r1 | ⟨x, h4, h5, h6, h7⟩
    · left
      refine ⟨r1, fun k M h4 h5 => ?_⟩
      have := hall k M h4 h5
      unfold ruleD at this
      omega
    · right
      have hway := (hw x.p).1 ⟨x, h4, rfl, h6⟩
      obtain ⟨k, M, h8, h9, h10, _⟩ := (hF.lang f i (ruleD g c)).1 ⟨x.p, hway, h5, h7⟩
      exact ⟨k, M, h8, h9, h10, fun k2 N h11 h12 => by have := (hall k2 N h11 h12).2; omega⟩
def BestOf (A : Nat → Nat → Prop) (t : Int × Int × Bool) : Prop := (t = (0, 0, false) ∧ ∀ j r, ¬ A j r) ∨ ∃ j r : Nat, t = ((j : Int), (r : Int), true) ∧ A j r ∧ (∀ j' r', A j' r' → j' ≤ j) ∧ ∀ r', A j r' → r ≤ r'
theorem BestOf.uniq {A : Nat → Nat → Prop} {t u : Int × Int × Bool} (h1 : BestOf A t) (h2 : BestOf A u) : t = u := by
  rcases h1 with ⟨rfl, h1⟩ | ⟨j, r, rfl, a1, b1, c1⟩ <;> rcases h2 with ⟨rfl, h2⟩ | ⟨k, s, rfl, a2, b2, c2⟩
  · rfl
  · exact absurd a2 (h1 _ _)
  · exact absurd a1 (h2 _ _)
  · have e : j = k := Nat.le_antisymm (b2 _ _ a1) (b1 _ _ a2)
    subst e
    have : r = s := Nat.le_antisymm (c1 _ a2) (c2 _ a1)
    subst this; rfl
theorem lon_best {w : List Nat} {g : GlD} {Ms : List (Nat → Nat → Prop)} {f : Nat} (hF : Fl w g.p g.first Ms) (hr : rightD g = true) : ∀ (n i : Nat) (c : CfgD) (to best : Int), i + n = w.length → HSim w g f c i →
    (lon g c to best i (w.drop i) = (to, best) ∧ ∀ (j k : Nat) (M : Nat → Nat → Prop), i < j → j ≤ w.length → Ms[k]? = some M → ¬ M f j) ∨
    ∃ (j k : Nat) (M : Nat → Nat → Prop), lon g c to best i (w.drop i) = ((j : Int), (k : Int)) ∧ i < j ∧ j ≤ w.length ∧ Ms[k]? = some M ∧ M f j ∧ (∀ (j' k' : Nat) (N : Nat → Nat → Prop), i < j' → j' ≤ w.length → Ms[k']? = some N → N f j' → j' ≤ j) ∧ ∀ (k' : Nat) (N : Nat → Nat → Prop), Ms[k']? = some N → N f j → k ≤ k'
  | 0, i, c, to, best, h, hs => by
    left
    rw [List.drop_eq_nil_of_le (by omega)]
    exact ⟨rfl, fun j k M h1 h2 => by omega⟩
  | n + 1, i, c, to, best, h, hs => by
    have hi : i < w.length := by omega
    have hb : w[i]? = some w[i] := List.getElem?_eq_getElem hi
    have hs2 := hs.step hr hb
    have hfi : f < i + 1 := by rcases hs.held with ⟨e, _⟩ | ⟨h1, _⟩ <;> omega
    rw [List.drop_eq_getElem_cons hi]
    show _ ∨ _
    have e : ∀ to best, lon g c to best i (w[i] :: w.drop (i + 1)) = if 0 ≤ ruleD g (stepD g c w[i]) then lon g (stepD g c w[i]) ((i : Int) + 1) (ruleD g (stepD g c w[i])) (i + 1) (w.drop (i + 1)) else lon g (stepD g c w[i]) to best (i + 1) (w.drop (i + 1)) := fun _ _ => rfl
    rw [e]
    rcases hs2.rule hF hr hfi with ⟨r1, r2⟩ | ⟨k, M, r1, r2, r3, r4⟩
    · rw [if_neg (by omega)]
      rcases lon_best hF hr n (i + 1) (stepD g c w[i]) to best (by omega) hs2 with ⟨h1, h2⟩ | ⟨j, k, M, h1, h2, h3, h4, h5, h6, h7⟩
      · left
        refine ⟨h1, fun j k M h3 h4 h5 => ?_⟩
        by_cases hj : j = i + 1
        · subst hj; exact r2 k M h5
        · exact h2 j k M (by omega) h4 h5
      · right
        refine ⟨j, k, M, h1, by omega, h3, h4, h5, fun j' k' N g1 g2 g3 g4 => ?_, h7⟩
        by_cases hj : j' = i + 1
        · omega
        · exact h6 j' k' N (by omega) g2 g3 g4
    · rw [if_pos (by omega)]
      right
      rcases lon_best hF hr n (i + 1) (stepD g c w[i]) ((i : Int) + 1) (ruleD g (stepD g c w[i])) (by omega) hs2 with ⟨h1, h2⟩ | ⟨j, k, M, h1, h2, h3, h4, h5, h6, h7⟩
      · refine ⟨i + 1, k, M, by rw [h1, r1]; simp, by omega, by omega, r2, r3, fun j' k' N g1 g2 g3 g4 => ?_, r4⟩
        by_cases hj : j' ≤ i + 1
        · exact hj
        · exact absurd g4 (h2 j' k' N (by omega) g2 g3)
      · refine ⟨j, k, M, h1, by omega, h3, h4, h5, fun j' k' N g1 g2 g3 g4 => ?_, h7⟩
        by_cases hj : j' = i + 1
        · omega
        · exact h6 j' k' N (by omega) g2 g3 g4
def AccT (w : List Nat) (ts : List (List NodeD)) (f j r : Nat) : Prop := f < j ∧ j ≤ w.length ∧ ∃ t, ts[r]? = some t ∧ treeM w t f j
def resT (r : Int × Int) : Int × Int × Bool := if r.2 < 0 then (0, 0, false) else (r.1, r.2, true)
theorem of_long {w : List Nat} {ts : List (List NodeD)} {g : GlD} {f : Nat} (hts : ∀ t ∈ ts, right8 t = true) (hn : ts.length ≤ 512) (ho : ofL ts 0 [] [] = some g) (hf : f ≤ w.length) : rightD g = true ∧ BestOf (AccT w ts f) (resT (lon g startD 0 (-1) f (w.drop f))) := by
  obtain ⟨hF, hl⟩ := ofL_ok (w := w) ts [] [] [] g hts (Fl.nil w) (by simp) ho
  rw [List.nil_append] at hF
  have hr := right_in hF hl (by simpa using hn)
  refine ⟨hr, ?_⟩
  have hget : ∀ (k : Nat) (M : Nat → Nat → Prop), (ts.map (treeM w))[k]? = some M ↔ ∃ t, ts[k]? = some t ∧ treeM w t = M := fun k M => by
    rw [List.getElem?_map]
    cases ts[k]? <;> simp
  rcases lon_best (f := f) hF hr (w.length - f) f startD 0 (-1) (by omega) ⟨start_fits g, .inl ⟨rfl, rfl⟩⟩ with ⟨h1, h2⟩ | ⟨j, k, M, h1, h2, h3, h4, h5, h6, h7⟩
  · left
    rw [h1]
    exact ⟨rfl, fun j r ⟨g1, g2, t, g3, g4⟩ => h2 j r _ g1 g2 ((hget r _).2 ⟨t, g3, rfl⟩) g4⟩
  · right
    rw [h1]
    obtain ⟨t, g1, g2⟩ := (hget k M).1 h4
    subst g2
    refine ⟨j, k, ?_, ⟨h2, h3, t, g1, h5⟩, fun j' r' ⟨g1, g2, t, g3, g4⟩ => h6 j' r' _ g1 g2 ((hget r' _).2 ⟨t, g3, rfl⟩) g4, fun r' ⟨g1, g2, t, g3, g4⟩ => h7 r' _ ((hget r' _).2 ⟨t, g3, rfl⟩) g4⟩
    unfold resT
    rw [if_neg (by omega)]
end V
end Go.Proofs.Ytepbdkfkfcckoaa
set_option linter.unusedVariables false
set_option linter.unusedSimpArgs false
namespace Go.Proofs.Ytepbdkfkfcckoaa
namespace V
open PA
attribute [local irreducible] bindP ifP condP newP optP exP beqP
def idxK (x : List Bool) (k : Nat) : List Int := (List.range k).flatMap fun j : Nat => if x[j]? = some true then [(j : Int)] else []
theorem idxK_succ (x : List Bool) (k : Nat) : idxK x (k + 1) = idxK x k ++ (if x[k]? = some true then [(k : Int)] else []) := by simp [idxK, List.range_succ]
theorem idxK_len (x : List Bool) : ∀ k, (idxK x k).length ≤ k
  | 0 => by simp [idxK]
  | k + 1 => by
    rw [idxK_succ, List.length_append]
    have := idxK_len x k
    split <;> simp <;> omega
theorem mem_idxK {x : List Bool} {k : Nat} {y : Int} : y ∈ idxK x k ↔ ∃ j : Nat, j < k ∧ y = (j : Int) ∧ Has x j := by
  unfold idxK Has
  rw [List.mem_flatMap]
  constructor
  · rintro ⟨j, h1, h2⟩
    split at h2
    · rename_i h3
      exact ⟨j, List.mem_range.1 h1, by simpa using h2, h3⟩
    · cases h2
  · rintro ⟨j, h1, rfl, h3⟩
    exact ⟨j, List.mem_range.2 h1, by rw [if_pos h3]; simp⟩
theorem rz_app {b m : Int} : ∀ {l : List Int} {a : Int} {x : Int}, rz a m l = true → a < x → (∀ y ∈ l, y < x) → x < m → rz a m (l ++ [x]) = true
  | [], a, x, _, h1, _, h2 => by rw [List.nil_append, rz_cons]; simp only [Bool.and_eq_true, decide_eq_true_eq]; exact ⟨h1, h2, rfl⟩
  | y :: r, a, x, h, h1, h2, h3 => by
    rw [rz_cons] at h
    simp only [Bool.and_eq_true, decide_eq_true_eq] at h
    rw [List.cons_append, rz_cons]
    simp only [Bool.and_eq_true, decide_eq_true_eq]
    exact ⟨h.1, h.2.1, rz_app (b := b) h.2.2 (h2 y (by simp)) (fun z hz => h2 z (by simp [hz])) h3⟩
theorem rz_idxK (x : List Bool) : ∀ k : Nat, rz (-1) k (idxK x k) = true
  | 0 => rfl
  | k + 1 => by
    rw [idxK_succ]
    have ih := rz_le (n := ((k + 1 : Nat) : Int)) (by omega) (rz_idxK x k)
    split
    · exact rz_app (b := 0) ih (by omega) (fun y hy => by obtain ⟨j, h1, rfl, _⟩ := mem_idxK.1 hy; omega) (by omega)
    · rw [List.append_nil]; exact ih
def endX (l : List NodeD) (w : List Nat) (f : Nat) : List Bool := endsD l w l.length (l.length - 1) ((noneL w).set f true)
def endsF (l : List NodeD) (w : List Nat) (f : Int) : List Int := if plain6 l = true ∧ 0 ≤ f ∧ f ≤ w.length then idxK (endX l w f.toNat) (w.length + 1) else []
def isT (l : List NodeD) (w : List Nat) : Bool := !(endsF l w 0).isEmpty && decide ((endsF l w 0).getLastD 0 = w.length)
theorem shape_lo {l : List NodeD} (h : right4 l = true) : ∀ n ∈ l, 0 ≤ n.lo := fun n hn => by
  unfold right4 at h
  simp only [Bool.and_eq_true, List.all_eq_true] at h
  have hs := h.2.2.1 n hn
  unfold shapeD at hs
  split at hs
  · simp at hs; omega
  · split at hs
    · simp at hs; omega
    · split at hs
      · simp at hs; omega
      · split at hs
        · simp at hs; omega
        · cases hs
theorem endX_len {l : List NodeD} {w : List Nat} (hp : right4 l = true) (f : Nat) : (endX l w f).length = w.length + 1 := ends_len (shape_lo hp) (by simp [noneL])
theorem endX_has {l : List NodeD} {w : List Nat} (hp : right4 l = true) {f : Nat} (hf : f ≤ w.length) (j : Nat) : Has (endX l w f) j ↔ treeM w l f j := by
  have hl : ((noneL w).set f true).length = w.length + 1 := by simp [noneL]
  unfold endX
  rw [(ends_goes (shape_lo hp) l.length (l.length - 1) _ hl).2]
  have hh : ∀ i, Has ((noneL w).set f true) i ↔ i = f := fun i => by
    unfold Has
    rw [List.getElem?_set]
    by_cases e : f = i
    · subst e
      rw [if_pos rfl, if_pos (by simp [noneL]; omega)]
      simp
    · rw [if_neg e]
      have := noneL_has w i
      unfold Has at this
      constructor
      · intro h; exact absurd h this
      · intro h; exact absurd h.symm e
  constructor
  · rintro ⟨i, h1, h2⟩
    rw [hh] at h1; subst h1
    exact h2
  · intro h
    exact ⟨f, (hh f).2 rfl, h⟩
theorem endsF_mem {l : List NodeD} {w : List Nat} (hp : plain6 l = true) {f : Nat} (hf : f ≤ w.length) (y : Int) : y ∈ endsF l w f ↔ ∃ j : Nat, y = (j : Int) ∧ j ≤ w.length ∧ treeM w l f j := by
  have h4 : right4 l = true := by unfold plain6 at hp; simp only [Bool.and_eq_true] at hp; exact hp.2
  unfold endsF
  rw [if_pos ⟨hp, by omega, by omega⟩, mem_idxK, Int.toNat_natCast]
  constructor
  · rintro ⟨j, h1, h2, h3⟩
    exact ⟨j, h2, by omega, (endX_has h4 hf j).1 h3⟩
  · rintro ⟨j, h1, h2, h3⟩
    exact ⟨j, by omega, h1, (endX_has h4 hf j).2 h3⟩
theorem endsF_rz (l : List NodeD) (w : List Nat) (f : Int) : rz (-1) (w.length + 1) (endsF l w f) = true := by
  unfold endsF
  split
  · have := rz_idxK (endX l w f.toNat) (w.length + 1)
    simpa using this
  · rfl
theorem is_spec {l : List NodeD} {w : List Nat} (hp : plain6 l = true) : isT l w = true ↔ treeM w l 0 w.length := by
  have hmx := fun x hx => last_max (endsF_rz l w ((0 : Nat) : Int)) x hx
  have hm := fun y => endsF_mem (w := w) hp (f := 0) (Nat.zero_le _) y
  have h0 : endsF l w ((0 : Nat) : Int) = endsF l w 0 := rfl
  rw [h0] at hmx hm
  unfold isT
  simp only [Bool.and_eq_true, decide_eq_true_eq, Bool.not_eq_true', List.isEmpty_eq_false_iff]
  constructor
  · rintro ⟨h1, h2⟩
    obtain ⟨j, h3, h4, h5⟩ := (hm _).1 (last_mem h1)
    have : j = w.length := by omega
    subst this; exact h5
  · intro h
    have h1 := (hm (w.length : Int)).2 ⟨w.length, rfl, Nat.le_refl _, h⟩
    refine ⟨fun e => (by rw [e] at h1; cases h1), ?_⟩
    have h2 := hmx _ h1
    obtain ⟨j, h3, h4, _⟩ := (hm _).1 (last_mem (l := endsF l w 0) fun e => by rw [e] at h1; cases h1)
    omega
set_option maxRecDepth 4000 in
set_option maxHeartbeats 4000000 in
theorem ref07_Ends_c {ro : Ro} {v : Value} {l : List NodeD} {s : ByteArray} {f : Int} (hlen : l.length ≤ 1000000) (hw : (bts s).length ≤ 900000) {h : T Obj} {nx : Nat} {K : KV} (hl : RTree ro h v l) (hf : Fr h nx)
    (hK : ∀ r h' nx', nx ≤ nx' → Sub h h' → Fr h' nx' → ZI ro h' r (endsF l (bts s) f) → K r h' nx') : callP Try.prog ro i_ref07_Ends [v, .string s, .int .i64 f] h nx K := by
  apply ref07_Ends_of
  unfold ref07_Ends
  have hls := lenStr_bts s
  have hvl := SlR.len hl
  refine ref06_Plain_c hlen hl (hf.mono (by omega)) fun n1 hn1 => ?_
  have hno : ∀ m, ¬ (plain6 l = true ∧ 0 ≤ f ∧ f ≤ (bts s).length) → nx ≤ m → ∃ h2, Sub h2 h ∧ K (.slice none 0 0) h2 m := fun m hc hm => by
    refine ⟨h, Sub.refl _, hK _ _ _ hm (Sub.refl _) (hf.mono hm) ?_⟩
    unfold endsF
    rw [if_neg hc]
    exact Sl.nil
  cases hp : plain6 l with
  | false =>
    (repeat (first | refine bindP_mk (by simp (disch := first | omega | exact Int.natCast_nonneg _ | assumption) only [BB, B2, ↓reduceIte, Nat.reduceLeDiff, Nat.reduceAdd, CC] <;> rfl) ?_ | refine newP_mk ?_ | refine optP_mk ?_ | with_reducible first | refine condP_t ?_ | refine condP_f ?_ | refine ifP_tt' ?_ | refine ifP_ff' ?_ | refine ifP_tf' ?_ | refine ifP_ft' ?_ | refine ifP_u' ?_ | refine optP_mk0 ?_))
    exact hno _ (by simp [hp]) (by omega)
  | true =>
    have h4 : right4 l = true := by unfold plain6 at hp; simp only [Bool.and_eq_true] at hp; exact hp.2
    have hl4 := right4_len h4
    (repeat (first | refine bindP_mk (by simp (disch := first | omega | exact Int.natCast_nonneg _ | assumption) only [BB, B2, ↓reduceIte, Nat.reduceLeDiff, Nat.reduceAdd, CC] <;> rfl) ?_ | refine newP_mk ?_ | refine optP_mk ?_ | with_reducible first | refine condP_t ?_ | refine condP_f ?_ | refine ifP_tt' ?_ | refine ifP_ff' ?_ | refine ifP_tf' ?_ | refine ifP_ft' ?_ | refine ifP_u' ?_ | refine optP_mk0 ?_))
    refine lss_s (fun hf0 => ?_) (fun hf0 => ?_)
    · (repeat (first | refine bindP_mk (by simp (disch := first | omega | exact Int.natCast_nonneg _ | assumption) only [BB, B2, ↓reduceIte, Nat.reduceLeDiff, Nat.reduceAdd, CC] <;> rfl) ?_ | refine newP_mk ?_ | refine optP_mk ?_ | with_reducible first | refine condP_t ?_ | refine condP_f ?_ | refine ifP_tt' ?_ | refine ifP_ff' ?_ | refine ifP_tf' ?_ | refine ifP_ft' ?_ | refine ifP_u' ?_ | refine optP_mk0 ?_))
      exact hno _ (by omega) (by omega)
    · (repeat (first | refine bindP_mk (by simp (disch := first | omega | exact Int.natCast_nonneg _ | assumption) only [BB, B2, ↓reduceIte, Nat.reduceLeDiff, Nat.reduceAdd, CC, hls] <;> rfl) ?_ | refine newP_mk ?_ | refine optP_mk ?_ | with_reducible first | refine condP_t ?_ | refine condP_f ?_ | refine ifP_tt' ?_ | refine ifP_ff' ?_ | refine ifP_tf' ?_ | refine ifP_ft' ?_ | refine ifP_u' ?_ | refine optP_mk0 ?_))
      refine gtr_s (fun hf1 => ?_) (fun hf1 => ?_)
      · (repeat (first | refine bindP_mk (by simp (disch := first | omega | exact Int.natCast_nonneg _ | assumption) only [BB, B2, ↓reduceIte, Nat.reduceLeDiff, Nat.reduceAdd, CC] <;> rfl) ?_ | refine newP_mk ?_ | refine optP_mk ?_ | with_reducible first | refine condP_t ?_ | refine condP_f ?_ | refine ifP_tt' ?_ | refine ifP_ff' ?_ | refine ifP_tf' ?_ | refine ifP_ft' ?_ | refine ifP_u' ?_ | refine optP_mk0 ?_))
        exact hno _ (by omega) (by omega)
      · (repeat (first | refine bindP_mk (by simp (disch := first | omega | exact Int.natCast_nonneg _ | assumption) only [BB, B2, ↓reduceIte, Nat.reduceLeDiff, Nat.reduceAdd, CC] <;> rfl) ?_ | refine newP_mk ?_ | refine optP_mk ?_ | with_reducible first | refine condP_t ?_ | refine condP_f ?_ | refine ifP_tt' ?_ | refine ifP_ff' ?_ | refine ifP_tf' ?_ | refine ifP_ft' ?_ | refine ifP_u' ?_ | refine optP_mk0 ?_))
        obtain ⟨f, rfl⟩ : ∃ g : Nat, f = g := ⟨f.toNat, by omega⟩
        unfold endsF at hK
        rw [if_pos ⟨hp, by omega, by omega⟩, Int.toNat_natCast] at hK
        refine ref07_places_c (by omega) (hf.mono (by omega)) fun r h2 n2 hn2 hs2 hf2 ho => ?_
        have hnl : (noneL (bts s)).length = (bts s).length + 1 := by simp [noneL]
        have y1 := (ho.sl (ro := ro)).ix .i64 (i := f) (by rw [blC_len]; omega)
        obtain ⟨h3, w1, w2, w3, w4⟩ := putB (b := true) ho (i := f) (by omega)
        have hs3 : Sub h h3 := ho.sub w3 hf (by omega) hs2
        refine bindP_mk y1 (bindP_mk w1 ?_)
        (repeat (first | refine bindP_mk (by simp (disch := first | omega | exact Int.natCast_nonneg _ | assumption) only [BB, B2, ↓reduceIte, Nat.reduceLeDiff, Nat.reduceAdd, CC, hvl] <;> rfl) ?_ | refine newP_mk ?_ | refine optP_mk ?_ | with_reducible first | refine condP_t ?_ | refine condP_f ?_ | refine ifP_tt' ?_ | refine ifP_ff' ?_ | refine ifP_tf' ?_ | refine ifP_ft' ?_ | refine ifP_u' ?_ | refine optP_mk0 ?_))
        refine ref07_ends_c (h0 := h) hl h4 (shape_lo h4) (by omega) l.length (l.length - 1) (by omega) (by omega) (by omega) _ r h3 _ _ (by rw [List.length_set]; exact hnl) hs3 (w4 _ (hf2.mono (by omega))) w2.sl fun r2 h4' n4 hn4 hs4 hf4 z => ?_
        have z : ZB ro h4' r2 (endX l (bts s) f) := z
        have hxl := endX_len (w := bts s) h4 f
        have hzl := z.len
        rw [hxl] at hzl
        refine loopP_rule (fun m e h' nx' => ∃ (k : Nat) (ov : Value), k + m = (bts s).length + 1 ∧ n4 ≤ nx' ∧ e 8 = r2 ∧ e 9 = ov ∧ e 10 = .int .i64 k ∧ Sub h4' h' ∧ Fr h' nx' ∧ OwnT h' ov 1 y_int (intsZ (idxK (endX l (bts s) f) k)) n4) ?_ (n := (bts s).length + 1)
          ⟨0, _, by omega, by omega, rfl, rfl, rfl, Sub.refl _, hf4.mono (by omega), OwnT.nil⟩
        rintro m e h' nx' ⟨k, ov, hkm, hnx, e8, e9, e10, hs', hf', ho'⟩ Q' hq hx
        unfold ref07_Ends_L1
        rw [e8, e9, e10]
        (repeat (first | refine bindP_mk (by simp (disch := first | omega | exact Int.natCast_nonneg _ | assumption) only [BB, B2, ↓reduceIte, Nat.reduceLeDiff, Nat.reduceAdd, CC, hzl] <;> rfl) ?_ | refine newP_mk ?_ | refine optP_mk ?_ | with_reducible first | refine condP_t ?_ | refine condP_f ?_ | refine ifP_tt' ?_ | refine ifP_ff' ?_ | refine ifP_tf' ?_ | refine ifP_ft' ?_ | refine ifP_u' ?_ | refine optP_mk0 ?_))
        refine lss_s (fun hi => ?_) (fun hi => ?_)
        · have hi : k < (endX l (bts s) f).length := by omega
          have y2 := (z.sub hs').ix .i64 hi
          have y3 := (z.sub hs').load hi
          have hsc := idxK_succ (endX l (bts s) f) k
          rw [List.getElem?_eq_getElem hi] at hsc
          have hil := idxK_len (endX l (bts s) f) k
          have hnext : ∀ (e' : Env) h3 n ov', nx' ≤ n → OwnT h3 ov' 1 y_int (intsZ (idxK (endX l (bts s) f) (k + 1))) n4 → Fr h3 n → Sub h4' h3 → e' 8 = r2 → e' 9 = ov' → e' 10 = .int .i64 k → ref07_Ends_j2 ro Q' e' h3 n := fun e' h3 n ov' hn ho3 hf3 hs3 q8 q9 q10 => by
            unfold ref07_Ends_j2
            rw [q10]
            (repeat (first | refine bindP_mk (by simp (disch := first | omega | exact Int.natCast_nonneg _ | assumption) only [BB, B2, ↓reduceIte, Nat.reduceLeDiff, Nat.reduceAdd, CC] <;> rfl) ?_ | refine newP_mk ?_ | refine optP_mk ?_ | with_reducible first | refine condP_t ?_ | refine condP_f ?_ | refine ifP_tt' ?_ | refine ifP_ff' ?_ | refine ifP_tf' ?_ | refine ifP_ft' ?_ | refine ifP_u' ?_ | refine optP_mk0 ?_))
            exact hq (m - 1) _ _ _ _ (by omega) ⟨k + 1, ov', by omega, by omega, q8, q9, rfl, hs3, hf3.mono (by omega), ho3⟩ (Sub.refl _)
          (repeat (first | refine bindP_mk (by simp (disch := first | omega | exact Int.natCast_nonneg _ | assumption) only [BB, B2, ↓reduceIte, Nat.reduceLeDiff, Nat.reduceAdd, CC, y2, y3] <;> rfl) ?_ | refine newP_mk ?_ | refine optP_mk ?_ | with_reducible first | refine condP_t ?_ | refine condP_f ?_ | refine ifP_tt' ?_ | refine ifP_ff' ?_ | refine ifP_tf' ?_ | refine ifP_ft' ?_ | refine ifP_u' ?_ | refine optP_mk0 ?_))
          cases hb : (endX l (bts s) f)[k] with
          | true =>
            rw [hb, if_pos rfl] at hsc
            (repeat (first | refine bindP_mk (by simp (disch := first | omega | exact Int.natCast_nonneg _ | assumption) only [BB, B2, ↓reduceIte, Nat.reduceLeDiff, Nat.reduceAdd, CC] <;> rfl) ?_ | refine newP_mk ?_ | refine optP_mk ?_ | with_reducible first | refine condP_t ?_ | refine condP_f ?_ | refine ifP_tt' ?_ | refine ifP_ff' ?_ | refine ifP_tf' ?_ | refine ifP_ft' ?_ | refine ifP_u' ?_ | refine optP_mk0 ?_))
            refine mapp_int ho' (by omega) hf' (by omega) (by omega) (by omega) fun r5 h5 q h6 o1 o2 o3 o4 => ?_
            rw [← hsc] at o1
            exact hnext _ _ _ r5 (by dsimp only; omega) o1 (o3.mono (by dsimp only; omega)) (ho'.sub o2 hf4 (Nat.le_refl _) hs') e8 rfl e10
          | false =>
            rw [hb, if_neg (by simp), List.append_nil] at hsc
            (repeat (first | refine bindP_mk (by simp (disch := first | omega | exact Int.natCast_nonneg _ | assumption) only [BB, B2, ↓reduceIte, Nat.reduceLeDiff, Nat.reduceAdd, CC] <;> rfl) ?_ | refine newP_mk ?_ | refine optP_mk ?_ | with_reducible first | refine condP_t ?_ | refine condP_f ?_ | refine ifP_tt' ?_ | refine ifP_ff' ?_ | refine ifP_tf' ?_ | refine ifP_ft' ?_ | refine ifP_u' ?_ | refine optP_mk0 ?_))
            rw [← hsc] at ho'
            exact hnext _ _ _ ov (by omega) ho' (hf'.mono (by omega)) hs' e8 e9 e10
        · (repeat (first | refine bindP_mk (by simp (disch := first | omega | exact Int.natCast_nonneg _ | assumption) only [BB, B2, ↓reduceIte, Nat.reduceLeDiff, Nat.reduceAdd, CC] <;> rfl) ?_ | refine newP_mk ?_ | refine optP_mk ?_ | with_reducible first | refine condP_t ?_ | refine condP_f ?_ | refine ifP_tt' ?_ | refine ifP_ff' ?_ | refine ifP_tf' ?_ | refine ifP_ft' ?_ | refine ifP_u' ?_ | refine optP_mk0 ?_))
          refine hx _ _ _ _ (fun e => by cases e) (exP_e (beqP_t ?_))
          unfold ref07_Ends_j1
          show ∃ h45, Sub h45 h' ∧ K (e 9) h45 _
          rw [e9]
          have : k = (bts s).length + 1 := by omega
          subst this
          exact ⟨h', Sub.refl _, hK _ _ _ (by omega) (hs3.trans (hs4.trans hs')) (hf'.mono (by omega)) ho'.sl⟩
theorem endsF_len (l : List NodeD) (w : List Nat) (f : Int) : (endsF l w f).length ≤ w.length + 1 := by
  unfold endsF
  split
  · exact idxK_len _ _
  · simp
set_option maxRecDepth 4000 in
set_option maxHeartbeats 4000000 in
theorem ref07_Is_c {ro : Ro} {v : Value} {l : List NodeD} {s : ByteArray} (hlen : l.length ≤ 1000000) (hw : (bts s).length ≤ 900000) {h : T Obj} {nx : Nat} {K : KV} (hl : RTree ro h v l) (hf : Fr h nx)
    (hK : ∀ nx', nx ≤ nx' → K (.bool (isT l (bts s))) h nx') : callP Try.prog ro i_ref07_Is [v, .string s] h nx K := by
  apply ref07_Is_of
  unfold ref07_Is
  refine ref07_Ends_c hlen hw hl (hf.mono (by omega)) fun r h2 n2 hn2 hs2 hf2 z => ?_
  have hzl := z.len
  have hls := lenStr_bts s
  have hll := endsF_len l (bts s) 0
  have hK' : ∀ (b : Bool) m, isT l (bts s) = b → nx ≤ m → ∃ h3, Sub h3 h2 ∧ K (.bool b) h3 m := fun b m e hm => ⟨h, hs2, kb hK e hm⟩
  unfold isT at hK'
  generalize endsF l (bts s) 0 = E at *
  (repeat (first | refine bindP_mk (by simp (disch := first | omega | exact Int.natCast_nonneg _ | assumption) only [BB, B2, ↓reduceIte, Nat.reduceLeDiff, Nat.reduceAdd, CC, hzl] <;> rfl) ?_ | refine newP_mk ?_ | refine optP_mk ?_ | with_reducible first | refine condP_t ?_ | refine condP_f ?_ | refine ifP_tt' ?_ | refine ifP_ff' ?_ | refine ifP_tf' ?_ | refine ifP_ft' ?_ | refine ifP_u' ?_ | refine optP_mk0 ?_))
  refine gtr_s (fun h0 => ?_) (fun h0 => ?_)
  · have hne : E ≠ [] := fun e => by rw [e] at h0; simp at h0
    have hpos : 0 < E.length := List.length_pos_iff.2 hne
    have hie : E.isEmpty = false := by cases E <;> simp_all
    have y1 := z.ixI .i64 (i := (E.length : Int) - 1) (by omega) (by omega)
    have y2 := z.load' (i := E.length - 1) (last_get hne)
    rw [show ((E.length : Int) - 1).toNat = E.length - 1 by omega] at y1
    (repeat (first | refine bindP_mk (by simp (disch := first | omega | exact Int.natCast_nonneg _ | assumption) only [BB, B2, ↓reduceIte, Nat.reduceLeDiff, Nat.reduceAdd, CC, hzl, y1, y2, hls] <;> rfl) ?_ | refine newP_mk ?_ | refine optP_mk ?_ | with_reducible first | refine condP_t ?_ | refine condP_f ?_ | refine ifP_tt' ?_ | refine ifP_ff' ?_ | refine ifP_tf' ?_ | refine ifP_ft' ?_ | refine ifP_u' ?_ | refine optP_mk0 ?_))
    refine eql_s (fun h1 => ?_) (fun h1 => ?_)
    · (repeat (first | refine bindP_mk (by simp (disch := first | omega | exact Int.natCast_nonneg _ | assumption) only [BB, B2, ↓reduceIte, Nat.reduceLeDiff, Nat.reduceAdd, CC] <;> rfl) ?_ | refine newP_mk ?_ | refine optP_mk ?_ | with_reducible first | refine condP_t ?_ | refine condP_f ?_ | refine ifP_tt' ?_ | refine ifP_ff' ?_ | refine ifP_tf' ?_ | refine ifP_ft' ?_ | refine ifP_u' ?_ | refine optP_mk0 ?_))
      exact hK' _ _ (by rw [hie, decide_eq_true h1]; rfl) (by omega)
    · (repeat (first | refine bindP_mk (by simp (disch := first | omega | exact Int.natCast_nonneg _ | assumption) only [BB, B2, ↓reduceIte, Nat.reduceLeDiff, Nat.reduceAdd, CC] <;> rfl) ?_ | refine newP_mk ?_ | refine optP_mk ?_ | with_reducible first | refine condP_t ?_ | refine condP_f ?_ | refine ifP_tt' ?_ | refine ifP_ff' ?_ | refine ifP_tf' ?_ | refine ifP_ft' ?_ | refine ifP_u' ?_ | refine optP_mk0 ?_))
      exact hK' _ _ (by rw [decide_eq_false h1, Bool.and_false]) (by omega)
  · (repeat (first | refine bindP_mk (by simp (disch := first | omega | exact Int.natCast_nonneg _ | assumption) only [BB, B2, ↓reduceIte, Nat.reduceLeDiff, Nat.reduceAdd, CC] <;> rfl) ?_ | refine newP_mk ?_ | refine optP_mk ?_ | with_reducible first | refine condP_t ?_ | refine condP_f ?_ | refine ifP_tt' ?_ | refine ifP_ff' ?_ | refine ifP_tf' ?_ | refine ifP_ft' ?_ | refine ifP_u' ?_ | refine optP_mk0 ?_))
    have hie : E = [] := eq_len (by omega)
    exact hK' _ _ (by rw [hie]; rfl) (by omega)
end V
end Go.Proofs.Ytepbdkfkfcckoaa
set_option linter.unusedVariables false
set_option linter.unusedSimpArgs false
namespace Go.Proofs.Ytepbdkfkfcckoaa
namespace V
open PA
attribute [local irreducible] bindP ifP condP newP optP exP beqP
abbrev IT (h : T Obj) (v : Value) (l : List Int) (lo : Nat) : Prop := OwnT h v 1 y_int (intsZ l) lo
theorem IT.z {ro : Ro} {h : T Obj} {v : Value} {l : List Int} {lo : Nat} (ho : IT h v l lo) : ZI ro h v l := OwnT.sl ho
theorem bothD_drop {a b : List Int} {i k : Nat} (hi : i < a.length) (hk : k < b.length) : bothD (a.drop i) (b.drop k) = if a[i] < b[k] then a[i] :: bothD (a.drop (i + 1)) (b.drop k) else if a[i] = b[k] then b[k] :: bothD (a.drop (i + 1)) (b.drop (k + 1)) else b[k] :: bothD (a.drop i) (b.drop (k + 1)) := by
  rw [drop_cons hi, drop_cons hk, bothD_cons]
set_option maxRecDepth 4000 in
set_option maxHeartbeats 4000000 in
theorem ref09_both_c {ro : Ro} {a b : List Int} {av bv : Value} (ha' : a.length ≤ 100000) (hb' : b.length ≤ 100000) {h : T Obj} {nx : Nat} {K : KV} (hf : Fr h nx) (ha : ZI ro h av a) (hb : ZI ro h bv b)
    (hK : ∀ r h' nx', nx ≤ nx' → Sub h h' → Fr h' nx' → IT h' r (bothD a b) nx → Gap nx h h' → K r h' nx') : callP Try.prog ro i_ref09_both [av, bv] h nx K := by
  apply ref09_both_of
  unfold ref09_both
  have hal := ha.len
  have hbl := hb.len
  refine loopP_rule (fun m e h' nx' => ∃ (i k : Nat) (o : List Int) (ov : Value), i ≤ a.length ∧ k ≤ b.length ∧ m = (a.length - i) + (b.length - k) ∧ o.length ≤ i + k ∧ nx ≤ nx' ∧ e 0 = av ∧ e 1 = bv ∧ e 5 = ov ∧ e 6 = .int .i64 i ∧ e 7 = .int .i64 k ∧ Sub h h' ∧ Fr h' nx' ∧ IT h' ov o nx ∧ Gap nx h h' ∧ bothD a b = o ++ bothD (a.drop i) (b.drop k)) ?_ (n := a.length + b.length)
    ⟨0, 0, [], _, by omega, by omega, by omega, by simp, by omega, rfl, rfl, rfl, rfl, rfl, Sub.refl _, hf.mono (by omega), OwnT.nil, Gap.refl _ _, rfl⟩
  rintro m e h' nx' ⟨i, k, o, ov, hi, hk, hm, hol, hnx, e0, e1, e5, e6, e7, hs', hf', ho', hgp, hr⟩ Q' hq hx
  unfold ref09_both_L1
  rw [e0, e1, e5, e6, e7]
  have hj2 : ∀ (e' : Env) (i2 n : Nat) (hkb : k < b.length), i2 ≤ a.length → i ≤ i2 → i2 ≤ i + 1 → bothD (a.drop i) (b.drop k) = b[k] :: bothD (a.drop i2) (b.drop (k + 1)) → nx' ≤ n → e' 0 = av → e' 1 = bv → e' 5 = ov → e' 6 = .int .i64 i2 → e' 7 = .int .i64 k → ref09_both_j2 ro Q' e' h' n := fun e' i2 n hkb h1 h2 h3 h4 hn q0 q1 q5 q6 q7 => by
    unfold ref09_both_j2
    rw [q1, q5, q7]
    have y1 := (hb.sub hs').ix .i64 hkb
    have y2 := (hb.sub hs').load hkb
    (repeat (first | refine bindP_mk (by simp (disch := first | omega | exact Int.natCast_nonneg _ | assumption) only [BB, B2, ↓reduceIte, Nat.reduceLeDiff, Nat.reduceAdd, CC, y1, y2] <;> rfl) ?_ | refine newP_mk ?_ | refine optP_mk ?_ | with_reducible first | refine condP_t ?_ | refine condP_f ?_ | refine ifP_tt' ?_ | refine ifP_ff' ?_ | refine ifP_tf' ?_ | refine ifP_ft' ?_ | refine ifP_u' ?_ | refine optP_mk0 ?_))
    refine mapp_int ho' (by omega) hf' (by omega) (by omega) (by omega) fun r5 h5 q h6 o1 o2 o3 o4 => ?_
    (repeat (first | refine bindP_mk (by simp (disch := first | omega | exact Int.natCast_nonneg _ | assumption) only [BB, B2, ↓reduceIte, Nat.reduceLeDiff, Nat.reduceAdd, CC] <;> rfl) ?_ | refine newP_mk ?_ | refine optP_mk ?_ | with_reducible first | refine condP_t ?_ | refine condP_f ?_ | refine ifP_tt' ?_ | refine ifP_ff' ?_ | refine ifP_tf' ?_ | refine ifP_ft' ?_ | refine ifP_u' ?_ | refine optP_mk0 ?_))
    rw [h4] at hr
    exact hq ((a.length - i2) + (b.length - (k + 1))) _ _ _ _ (by omega) ⟨i2, k + 1, o ++ [b[k]], r5, by omega, by omega, rfl, by simp; omega, by dsimp only; omega, q0, q1, rfl, q6, rfl, ho'.sub o2 hf (Nat.le_refl _) hs', o3.mono (by dsimp only; omega), o1, hgp.trans o4 (by omega), by rw [hr]; simp⟩ (Sub.refl _)
  by_cases hia : i < a.length
  · have y1 := (ha.sub hs').ix .i64 hia
    have y2 := (ha.sub hs').load hia
    by_cases hkb : k < b.length
    · have y3 := (hb.sub hs').ix .i64 hkb
      have y4 := (hb.sub hs').load hkb
      have hd := bothD_drop hia hkb
      (repeat (first | refine bindP_mk (by simp (disch := first | omega | exact Int.natCast_nonneg _ | assumption) only [BB, B2, ↓reduceIte, Nat.reduceLeDiff, Nat.reduceAdd, CC, hal, hbl, y1, y2, y3, y4] <;> rfl) ?_ | refine newP_mk ?_ | refine optP_mk ?_ | with_reducible first | refine condP_t ?_ | refine condP_f ?_ | refine ifP_tt' ?_ | refine ifP_ff' ?_ | refine ifP_tf' ?_ | refine ifP_ft' ?_ | refine ifP_u' ?_ | refine optP_mk0 ?_))
      refine lss_s (fun hab => ?_) (fun hab => ?_)
      · rw [if_pos hab] at hd
        (repeat (first | refine bindP_mk (by simp (disch := first | omega | exact Int.natCast_nonneg _ | assumption) only [BB, B2, ↓reduceIte, Nat.reduceLeDiff, Nat.reduceAdd, CC, y1, y2] <;> rfl) ?_ | refine newP_mk ?_ | refine optP_mk ?_ | with_reducible first | refine condP_t ?_ | refine condP_f ?_ | refine ifP_tt' ?_ | refine ifP_ff' ?_ | refine ifP_tf' ?_ | refine ifP_ft' ?_ | refine ifP_u' ?_ | refine optP_mk0 ?_))
        refine mapp_int ho' (by omega) hf' (by omega) (by omega) (by omega) fun r5 h5 q h6 o1 o2 o3 o4 => ?_
        (repeat (first | refine bindP_mk (by simp (disch := first | omega | exact Int.natCast_nonneg _ | assumption) only [BB, B2, ↓reduceIte, Nat.reduceLeDiff, Nat.reduceAdd, CC] <;> rfl) ?_ | refine newP_mk ?_ | refine optP_mk ?_ | with_reducible first | refine condP_t ?_ | refine condP_f ?_ | refine ifP_tt' ?_ | refine ifP_ff' ?_ | refine ifP_tf' ?_ | refine ifP_ft' ?_ | refine ifP_u' ?_ | refine optP_mk0 ?_))
        rw [hd] at hr
        exact hq ((a.length - (i + 1)) + (b.length - k)) _ _ _ _ (by omega) ⟨i + 1, k, o ++ [a[i]], r5, by omega, by omega, rfl, by simp; omega, by dsimp only; omega, e0, e1, rfl, rfl, e7, ho'.sub o2 hf (Nat.le_refl _) hs', o3.mono (by dsimp only; omega), o1, hgp.trans o4 (by omega), by rw [hr]; simp⟩ (Sub.refl _)
      · rw [if_neg (by omega)] at hd
        (repeat (first | refine bindP_mk (by simp (disch := first | omega | exact Int.natCast_nonneg _ | assumption) only [BB, B2, ↓reduceIte, Nat.reduceLeDiff, Nat.reduceAdd, CC, hal, y1, y2, y3, y4] <;> rfl) ?_ | refine newP_mk ?_ | refine optP_mk ?_ | with_reducible first | refine condP_t ?_ | refine condP_f ?_ | refine ifP_tt' ?_ | refine ifP_ff' ?_ | refine ifP_tf' ?_ | refine ifP_ft' ?_ | refine ifP_u' ?_ | refine optP_mk0 ?_))
        refine eql_s (fun he => ?_) (fun he => ?_)
        · rw [if_pos he] at hd
          (repeat (first | refine bindP_mk (by simp (disch := first | omega | exact Int.natCast_nonneg _ | assumption) only [BB, B2, ↓reduceIte, Nat.reduceLeDiff, Nat.reduceAdd, CC] <;> rfl) ?_ | refine newP_mk ?_ | refine optP_mk ?_ | with_reducible first | refine condP_t ?_ | refine condP_f ?_ | refine ifP_tt' ?_ | refine ifP_ff' ?_ | refine ifP_tf' ?_ | refine ifP_ft' ?_ | refine ifP_u' ?_ | refine optP_mk0 ?_))
          exact hj2 _ (i + 1) _ hkb (by omega) (by omega) (by omega) hd (by omega) e0 e1 e5 rfl e7
        · rw [if_neg he] at hd
          (repeat (first | refine bindP_mk (by simp (disch := first | omega | exact Int.natCast_nonneg _ | assumption) only [BB, B2, ↓reduceIte, Nat.reduceLeDiff, Nat.reduceAdd, CC] <;> rfl) ?_ | refine newP_mk ?_ | refine optP_mk ?_ | with_reducible first | refine condP_t ?_ | refine condP_f ?_ | refine ifP_tt' ?_ | refine ifP_ff' ?_ | refine ifP_tf' ?_ | refine ifP_ft' ?_ | refine ifP_u' ?_ | refine optP_mk0 ?_))
          exact hj2 _ i _ hkb (by omega) (by omega) (by omega) hd (by omega) e0 e1 e5 e6 e7
    · have hbe : b.drop k = [] := drop_all (by omega)
      (repeat (first | refine bindP_mk (by simp (disch := first | omega | exact Int.natCast_nonneg _ | assumption) only [BB, B2, ↓reduceIte, Nat.reduceLeDiff, Nat.reduceAdd, CC, hal, hbl, y1, y2] <;> rfl) ?_ | refine newP_mk ?_ | refine optP_mk ?_ | with_reducible first | refine condP_t ?_ | refine condP_f ?_ | refine ifP_tt' ?_ | refine ifP_ff' ?_ | refine ifP_tf' ?_ | refine ifP_ft' ?_ | refine ifP_u' ?_ | refine optP_mk0 ?_))
      refine mapp_int ho' (by omega) hf' (by omega) (by omega) (by omega) fun r5 h5 q h6 o1 o2 o3 o4 => ?_
      (repeat (first | refine bindP_mk (by simp (disch := first | omega | exact Int.natCast_nonneg _ | assumption) only [BB, B2, ↓reduceIte, Nat.reduceLeDiff, Nat.reduceAdd, CC] <;> rfl) ?_ | refine newP_mk ?_ | refine optP_mk ?_ | with_reducible first | refine condP_t ?_ | refine condP_f ?_ | refine ifP_tt' ?_ | refine ifP_ff' ?_ | refine ifP_tf' ?_ | refine ifP_ft' ?_ | refine ifP_u' ?_ | refine optP_mk0 ?_))
      rw [hbe, bothD_nil', drop_cons hia] at hr
      exact hq ((a.length - (i + 1)) + (b.length - k)) _ _ _ _ (by omega) ⟨i + 1, k, o ++ [a[i]], r5, by omega, by omega, rfl, by simp; omega, by dsimp only; omega, e0, e1, rfl, rfl, e7, ho'.sub o2 hf (Nat.le_refl _) hs', o3.mono (by dsimp only; omega), o1, hgp.trans o4 (by omega), by rw [hbe, bothD_nil', hr]; simp⟩ (Sub.refl _)
  · have hae : a.drop i = [] := drop_all (by omega)
    by_cases hkb : k < b.length
    · (repeat (first | refine bindP_mk (by simp (disch := first | omega | exact Int.natCast_nonneg _ | assumption) only [BB, B2, ↓reduceIte, Nat.reduceLeDiff, Nat.reduceAdd, CC, hal, hbl] <;> rfl) ?_ | refine newP_mk ?_ | refine optP_mk ?_ | with_reducible first | refine condP_t ?_ | refine condP_f ?_ | refine ifP_tt' ?_ | refine ifP_ff' ?_ | refine ifP_tf' ?_ | refine ifP_ft' ?_ | refine ifP_u' ?_ | refine optP_mk0 ?_))
      refine hj2 _ i _ hkb (by omega) (by omega) (by omega) ?_ (by omega) e0 e1 e5 e6 e7
      rw [hae, bothD_nil, bothD_nil, drop_cons hkb]
    · (repeat (first | refine bindP_mk (by simp (disch := first | omega | exact Int.natCast_nonneg _ | assumption) only [BB, B2, ↓reduceIte, Nat.reduceLeDiff, Nat.reduceAdd, CC, hal, hbl] <;> rfl) ?_ | refine newP_mk ?_ | refine optP_mk ?_ | with_reducible first | refine condP_t ?_ | refine condP_f ?_ | refine ifP_tt' ?_ | refine ifP_ff' ?_ | refine ifP_tf' ?_ | refine ifP_ft' ?_ | refine ifP_u' ?_ | refine optP_mk0 ?_))
      refine hx _ _ _ _ (fun e => by cases e) (exP_e (beqP_t ?_))
      unfold ref09_both_j1
      show ∃ h1, Sub h1 h' ∧ K (e 5) h1 _
      rw [e5]
      rw [hae, bothD_nil, drop_all (show b.length ≤ k by omega), List.append_nil] at hr
      exact ⟨h', Sub.refl _, hK _ _ _ (by omega) hs' (hf'.mono (by omega)) (by rw [hr]; exact ho') hgp⟩
def bT : Obj → Bool
  | .cells _ e _ => e == y_api_Pos || e == y_raddleref09_builder
  | _ => false
def BK (lo : Nat) (h h' : T Obj) : Prop := ∀ k o, h.get k = some o → (k < lo ∨ bT o = false) → h'.get k = some o
theorem BK.refl (lo : Nat) (h : T Obj) : BK lo h h := fun _ _ h _ => h
theorem Sub.bk {lo : Nat} {h h' : T Obj} (hs : Sub h h') : BK lo h h' := fun k o hk _ => hs k o hk
theorem BK.trans {lo : Nat} {a b c : T Obj} (h1 : BK lo a b) (h2 : BK lo b c) : BK lo a c := fun k o hk hc => h2 k o (h1 k o hk hc) hc
theorem BK.low {lo : Nat} {h0 h h' : T Obj} (hb : BK lo h h') (hf : Fr h0 lo) (hs : Sub h0 h) : Sub h0 h' := fun k o hk => hb k o (hs k o hk) (.inl (hf.lt' hk))
theorem BK.cells {lo k : Nat} {h h' : T Obj} {c : Array Value} {e : TypeId} {f : Nat × Nat} (hb : BK lo h h') (hk : h.get k = some (.cells c e f)) (he : (e == y_api_Pos || e == y_raddleref09_builder) = false) : h'.get k = some (.cells c e f) := hb k _ hk (.inr he)
theorem BK.own {lo lo' z : Nat} {h h' : T Obj} {v : Value} {e : TypeId} {l : List (List Value)} (hb : BK lo h h') (ho : OwnT h v z e l lo') (he : (e == y_api_Pos || e == y_raddleref09_builder) = false) : OwnT h' v z e l lo' := by
  rcases ho with ho | ⟨id, h1, rfl, h4, h5⟩
  · exact .inl ho
  · exact .inr ⟨id, h1, rfl, h4, hb.cells h5 he⟩
theorem BK.it {lo lo' : Nat} {h h' : T Obj} {v : Value} {l : List Int} (hb : BK lo h h') (ho : IT h v l lo') : IT h' v l lo' := hb.own ho (by decide)
theorem BK.upd {lo k : Nat} {h h' : T Obj} {o : Option Obj} {c : Array Value} {e : TypeId} {f : Nat × Nat} (hb : BK lo h h') (hk : h'.get k = some (.cells c e f)) (hlo : lo ≤ k) (he : (e == y_api_Pos || e == y_raddleref09_builder) = true) : BK lo h (h'.upd k o) := fun i x hi hc => by
  have h1 := hb i x hi hc
  by_cases e2 : i = k
  · subst e2
    exfalso
    rw [hk] at h1
    cases h1
    rcases hc with hc | hc
    · omega
    · have hc : (e == y_api_Pos || e == y_raddleref09_builder) = false := hc
      rw [he] at hc; cases hc
  · rw [T.get_upd_ne _ _ e2]; exact h1
def posC (ps : List (PosD × Value)) : List (List Value) := ps.map fun x => posL x.1 x.2
theorem posC_len (ps : List (PosD × Value)) : (posC ps).length = ps.length := by simp [posC]
structure PB (h : T Obj) (bid : Nat) (pv : Value) (lo : Nat) (ps : List (PosD × Value)) : Prop where
  blk : h.get bid = some (.cells #[pv] y_raddleref09_builder)
  lb : lo ≤ bid
  ow : OwnT h pv 9 y_api_Pos (posC ps) lo
  els : ∀ x ∈ ps, IT h x.2 x.1.next lo ∧ x.1.s < 2 ^ 256
theorem PB.sub {h h' : T Obj} {bid lo : Nat} {pv : Value} {ps : List (PosD × Value)} (hp : PB h bid pv lo ps) (hs : Sub h h') : PB h' bid pv lo ps :=
  ⟨hs _ _ hp.blk, hp.lb, hp.ow.keepS hs, fun x hx => ⟨(hp.els x hx).1.keepS hs, (hp.els x hx).2⟩⟩
theorem posC_flat : ∀ (ps : List (PosD × Value)), (posC ps).flatten.length = ps.length * 9
  | [] => rfl
  | x :: r => by
    have := posC_flat r
    simp only [posC, List.map_cons, List.flatten_cons, List.length_append, List.length_cons] at this ⊢
    have e : (posL x.1 x.2).length = 9 := rfl
    omega
theorem posC_set : ∀ (ps : List (PosD × Value)) (i : Nat) (p : PosD) (nv nv' : Value) (nx : List Int), ps[i]? = some (p, nv) → (posC ps).flatten.set (i * 9 + 8) nv' = (posC (ps.set i ({ p with next := nx }, nv'))).flatten
  | [], i, p, nv, nv', nx, h => by simp at h
  | x :: r, 0, p, nv, nv', nx, h => by
    simp at h
    subst h
    rfl
  | x :: r, i + 1, p, nv, nv', nx, h => by
    have ih := posC_set r i p nv nv' nx (by simpa using h)
    have e : (posL x.1 x.2).length = 9 := rfl
    simp only [posC, List.map_cons, List.flatten_cons, List.set_cons_succ] at ih ⊢
    rw [← ih, List.set_append_right _ _ (by omega)]
    congr 2
    omega
theorem PB.put {h : T Obj} {bid lo i : Nat} {pv nv nv' : Value} {p : PosD} {ps : List (PosD × Value)} {nx : List Int} (hp : PB h bid pv lo ps) (hi : ps[i]? = some (p, nv)) (hn : IT h nv' nx lo) :
    ∃ h', storeN 1 h (elPtrK 9 pv i 8) nv' = some h' ∧ PB h' bid pv lo (ps.set i ({ p with next := nx }, nv')) ∧ BK lo h h' ∧ (∀ n, Fr h n → Fr h' n) ∧ ∀ n, Gap n h h' := by
  have hil := (List.getElem?_eq_some_iff.1 hi).1
  rcases hp.ow with ⟨_, h1⟩ | ⟨id, h1, rfl, h2, h3⟩
  · have := congrArg List.length h1
    rw [posC_len, List.length_nil] at this
    omega
  · have hel : elPtrK 9 (.slice (some (own id 9)) (posC ps).length (posC ps).length) i 8 = at_ id (0 + (i * 9 + 8)) 0 := rfl
    have hst := store1_own (z := 0) (off := 0 + (i * 9 + 8)) (v := nv') h3 (by rw [posC_flat]; omega) (hn.z (ro := fun _ => none)).ok (by rcases hn with ⟨rfl, _⟩ | ⟨_, _, rfl, _⟩ <;> rfl)
    have hne : bid ≠ id := fun e => by
      have := hp.blk
      rw [e, h3] at this
      have e2 : y_api_Pos = y_raddleref09_builder := congrArg (fun o => match o with | some (Obj.cells _ e _) => e | _ => 0) this
      exact absurd e2 (by decide)
    have hbk : BK lo h (h.upd id (some (.cells ((posC ps).flatten.set (0 + (i * 9 + 8)) nv').toArray y_api_Pos))) := (BK.refl lo h).upd h3 h1 (by decide)
    refine ⟨_, by rw [hel]; exact hst, ⟨by rw [T.get_upd_ne _ _ hne]; exact hp.blk, hp.lb, .inr ⟨id, h1, ?_, ?_, ?_⟩, fun x hx => ?_⟩, hbk, (fun n hf => hf.upd (Nat.le_refl _) (hf.lt' h3)), fun n => (Gap.refl n h).upd h3⟩
    · rw [posC_len, posC_len, List.length_set]
    · intro x hx
      unfold posC at hx
      obtain ⟨y, _, rfl⟩ := List.mem_map.1 hx
      rfl
    · show (h.upd id _).get id = _
      rw [T.get_upd_same, Nat.zero_add, posC_set ps i p nv nv' nx hi]
    · rcases List.mem_or_eq_of_mem_set hx with hx | rfl
      · exact ⟨hbk.it (hp.els x hx).1, (hp.els x hx).2⟩
      · exact ⟨hbk.it hn, (hp.els (p, nv) (List.mem_of_getElem? hi)).2⟩
theorem PB.get {ro : Ro} {h : T Obj} {bid lo i : Nat} {pv nv : Value} {p : PosD} {ps : List (PosD × Value)} (hp : PB h bid pv lo ps) (hi : ps[i]? = some (p, nv)) (k : IntKind) : ixSl 9 pv (.int k (i : Int)) = some (elPtr 9 pv i) ∧ (∀ j, fwdP j (elPtr 9 pv i) = some (elPtrK 9 pv i j)) ∧ load1 ro h (elPtrK 9 pv i 8) = some nv := by
  have hil := (List.getElem?_eq_some_iff.1 hi).1
  have hsl := hp.ow.sl (ro := ro)
  have hg : (posC ps)[i]? = some (posL p nv) := by unfold posC; rw [List.getElem?_map, hi]; rfl
  exact ⟨hsl.ix k (by rw [posC_len]; exact hil), fun j => hsl.fwd (by rw [posC_len]; exact hil) j, hsl.load1K hg rfl⟩
theorem link_take (P : List PosD) (from_ to : List Int) (i : Nat) (hi : i < from_.length) : linkD P (from_.take (i + 1)) to = (linkD P (from_.take i) to).modify (from_[i]).toNat fun p => { p with next := bothD p.next to } := by
  unfold linkD
  rw [List.take_succ_eq_append_getElem hi, List.foldl_append]; rfl
theorem fst_set (ps : List (PosD × Value)) (i : Nat) (x : PosD × Value) : (ps.set i x).map Prod.fst = (ps.map Prod.fst).set i x.1 := by rw [List.map_set]
theorem modify_set {P : List PosD} {i : Nat} {p : PosD} {f : PosD → PosD} (hi : P[i]? = some p) : P.modify i f = P.set i (f p) := by
  refine List.ext_getElem? fun j => ?_
  have hil := (List.getElem?_eq_some_iff.1 hi).1
  rw [List.getElem?_modify, List.getElem?_set]
  by_cases e : i = j
  · subst e
    rw [if_pos rfl, if_pos hil, hi]; simp
  · rw [if_neg e]
    cases P[j]? <;> simp [e]
theorem link_rz {m : Int} {to : List Int} (hto : rz (-1) m to = true) : ∀ (from_ : List Int) (P : List PosD), (∀ x ∈ P, rz (-1) m x.next = true) → ∀ x ∈ linkD P from_ to, rz (-1) m x.next = true
  | [], P, h => h
  | q :: r, P, h => by
    have e : linkD P (q :: r) to = linkD (P.modify q.toNat fun p => { p with next := bothD p.next to }) r to := rfl
    rw [e]
    refine link_rz hto r _ fun x hx => ?_
    obtain ⟨j, hj⟩ := List.getElem?_of_mem hx
    rw [List.getElem?_modify] at hj
    cases hp : P[j]? with
    | none => rw [hp] at hj; simp at hj
    | some p =>
      have hpm := h p (List.mem_of_getElem? hp)
      rw [hp] at hj
      simp only [Option.map_eq_map, Option.map_some, Option.some.injEq] at hj
      rw [← hj]
      split
      · exact rz_bothI hpm hto
      · exact hpm
theorem rz_le_len {m : Int} {l : List Int} (h : rz (-1) m l = true) (h0 : 0 ≤ m) : (l.length : Int) ≤ m := by
  have := rz_len h (by omega)
  omega
set_option maxRecDepth 4000 in
set_option maxHeartbeats 4000000 in
theorem ref09_link_c {ro : Ro} {from_ to : List Int} {fv tv : Value} {bid lo : Nat} {pv : Value} {ps : List (PosD × Value)} {h : T Obj} {nx : Nat} {K : KV} (hp : PB h bid pv lo ps) (hlo : lo ≤ nx) (hf : Fr h nx) (hfr : IT h fv from_ lo) (hto : IT h tv to lo) {N : Nat} (hN : N ≤ 2000) (hfr2 : rz (-1) ps.length from_ = true) (hpN : ps.length ≤ N) (hto2 : rz (-1) N to = true) (hnx : ∀ x ∈ ps, rz (-1) N x.1.next = true)
    (hK : ∀ ps' h' nx', nx ≤ nx' → BK lo h h' → Fr h' nx' → Gap nx h h' → PB h' bid pv lo ps' → ps'.map Prod.fst = linkD (ps.map Prod.fst) from_ to → K (.tuple #[]) h' nx') : callP Try.prog ro i_ref09_builder_link [ptr bid, fv, tv] h nx K := by
  have hin : ∀ q ∈ from_, 0 ≤ q ∧ q < ps.length := fun q hq => by have := rz_mem hfr2 q hq; omega
  have hfl := rz_le_len hfr2 (by omega)
  have htl := rz_le_len hto2 (by omega)
  have hb2 : ∀ i, ∀ x ∈ linkD (ps.map Prod.fst) (from_.take i) to, x.next.length ≤ 2000 := fun i x hx => by
    have := rz_le_len (link_rz hto2 (from_.take i) (ps.map Prod.fst) (fun y hy => by obtain ⟨z, hz, rfl⟩ := List.mem_map.1 hy; exact hnx z hz) x hx) (by omega)
    omega
  apply ref09_builder_link_of
  unfold ref09_builder_link
  refine loopP_rule (fun m e h' nx' => ∃ (i : Nat) (qs : List (PosD × Value)), i + m = from_.length ∧ nx ≤ nx' ∧ e 0 = ptr bid ∧ e 1 = fv ∧ e 2 = tv ∧ e 6 = .int .i64 i ∧ BK lo h h' ∧ Fr h' nx' ∧ Gap nx h h' ∧ PB h' bid pv lo qs ∧ qs.length = ps.length ∧ qs.map Prod.fst = linkD (ps.map Prod.fst) (from_.take i) to) ?_ (n := from_.length)
    ⟨0, ps, by omega, by omega, rfl, rfl, rfl, rfl, BK.refl _ _, hf.mono (by omega), Gap.refl _ _, hp, rfl, rfl⟩
  rintro m e h' nx' ⟨i, qs, him, hnx, e0, e1, e2, e6, hbk, hf', hgp, hp', hql, hqm⟩ Q' hq hx
  unfold ref09_builder_link_L1
  rw [e0, e1, e2, e6]
  have hfz := (hbk.it hfr).z (ro := ro)
  have hzl := hfz.len
  (repeat (first | refine bindP_mk (by simp (disch := first | omega | exact Int.natCast_nonneg _ | assumption) only [BB, B2, ↓reduceIte, Nat.reduceLeDiff, Nat.reduceAdd, CC, hzl] <;> rfl) ?_ | refine newP_mk ?_ | refine optP_mk ?_ | with_reducible first | refine condP_t ?_ | refine condP_f ?_ | refine ifP_tt' ?_ | refine ifP_ff' ?_ | refine ifP_tf' ?_ | refine ifP_ft' ?_ | refine ifP_u' ?_ | refine optP_mk0 ?_))
  refine lss_s (fun hi => ?_) (fun hi => ?_)
  · have hi : i < from_.length := by omega
    have y1 := hfz.ix .i64 hi
    have y2 := hfz.load hi
    have hlt := link_take (ps.map Prod.fst) from_ to i hi
    have hrg := hin _ (List.getElem_mem hi)
    generalize from_[i] = q at *
    obtain ⟨j, rfl⟩ : ∃ j : Nat, q = j := ⟨q.toNat, by omega⟩
    rw [Int.toNat_natCast, ← hqm] at hlt
    have hjl : j < qs.length := by omega
    obtain ⟨⟨p, nv⟩, hpj⟩ : ∃ x, qs[j]? = some x := ⟨_, List.getElem?_eq_getElem hjl⟩
    have hpm : (qs.map Prod.fst)[j]? = some p := by rw [List.getElem?_map, hpj]; rfl
    rw [modify_set hpm] at hlt
    obtain ⟨w1, w2, w3⟩ := PB.get (ro := ro) hp' hpj .i64
    have w2' := w2 8
    have lb := load1_get (ro := ro) (z := 0) (l := [pv]) (off := 0) hp'.blk rfl
    have hel := hp'.els _ (List.mem_of_getElem? hpj)
    have hnb := hb2 i p (by rw [← hqm]; exact List.mem_of_getElem? hpm)
    have hnil : nilCk (at_ bid 0 0) = some (at_ bid 0 0) := rfl
    rw [ptr_at]
    (repeat (first | refine bindP_mk (by simp (disch := first | omega | exact Int.natCast_nonneg _ | assumption) only [BB, B2, ↓reduceIte, Nat.reduceLeDiff, Nat.reduceAdd, CC, hnil, lb, y1, y2, w1, w2', w3] <;> rfl) ?_ | refine newP_mk ?_ | refine optP_mk ?_ | with_reducible first | refine condP_t ?_ | refine condP_f ?_ | refine ifP_tt' ?_ | refine ifP_ff' ?_ | refine ifP_tf' ?_ | refine ifP_ft' ?_ | refine ifP_u' ?_ | refine optP_mk0 ?_))
    refine ref09_both_c (a := p.next) (b := to) (by omega) (by omega) (hf'.mono (by omega)) hel.1.z (hbk.it hto).z fun r h2 n2 hn2 hs2 hf2 hr hg2 => ?_
    refine ⟨hfz.same hs2 (by rw [intsZ_len]; exact hi), sameV_own hp'.blk (hs2 _ _ hp'.blk), ?_⟩
    obtain ⟨h3, s1, s2, s3, s4, s5⟩ := (hp'.sub hs2).put hpj (hr.mono (by omega))
    (repeat (first | refine bindP_mk (by simp (disch := first | omega | exact Int.natCast_nonneg _ | assumption) only [BB, B2, ↓reduceIte, Nat.reduceLeDiff, Nat.reduceAdd, CC, w1, w2'] <;> rfl) ?_ | refine newP_mk ?_ | refine optP_mk ?_ | with_reducible first | refine condP_t ?_ | refine condP_f ?_ | refine ifP_tt' ?_ | refine ifP_ff' ?_ | refine ifP_tf' ?_ | refine ifP_ft' ?_ | refine ifP_u' ?_ | refine optP_mk0 ?_))
    refine bindP_mk s1 ?_
    (repeat (first | refine bindP_mk (by simp (disch := first | omega | exact Int.natCast_nonneg _ | assumption) only [BB, B2, ↓reduceIte, Nat.reduceLeDiff, Nat.reduceAdd, CC] <;> rfl) ?_ | refine newP_mk ?_ | refine optP_mk ?_ | with_reducible first | refine condP_t ?_ | refine condP_f ?_ | refine ifP_tt' ?_ | refine ifP_ff' ?_ | refine ifP_tf' ?_ | refine ifP_ft' ?_ | refine ifP_u' ?_ | refine optP_mk0 ?_))
    exact hq (m - 1) _ _ _ _ (by omega) ⟨i + 1, _, by omega, by omega, by rw [← ptr_at] at *; exact e0, e1, e2, rfl, (hbk.trans hs2.bk).trans s3, s4 _ (hf2.mono (by omega)), (hgp.trans hg2 (by omega)).trans (s5 nx) (Nat.le_refl _), s2, by rw [List.length_set]; exact hql, by rw [fst_set, hlt]⟩ (Sub.refl _)
  · (repeat (first | refine bindP_mk (by simp (disch := first | omega | exact Int.natCast_nonneg _ | assumption) only [BB, B2, ↓reduceIte, Nat.reduceLeDiff, Nat.reduceAdd, CC] <;> rfl) ?_ | refine newP_mk ?_ | refine optP_mk ?_ | with_reducible first | refine condP_t ?_ | refine condP_f ?_ | refine ifP_tt' ?_ | refine ifP_ff' ?_ | refine ifP_tf' ?_ | refine ifP_ft' ?_ | refine ifP_u' ?_ | refine optP_mk0 ?_))
    refine hx _ _ _ _ (fun e => by cases e) (exP_e (beqP_t ?_))
    rw [List.take_of_length_le (by omega)] at hqm
    exact ⟨h', Sub.refl _, hK _ _ _ (by omega) hbk (hf'.mono (by omega)) hgp hp' hqm⟩
end V
end Go.Proofs.Ytepbdkfkfcckoaa
set_option linter.unusedVariables false
set_option linter.unusedSimpArgs false
namespace Go.Proofs.Ytepbdkfkfcckoaa
namespace V
open PA
attribute [local irreducible] bindP ifP condP newP optP exP beqP
def infL (x : InfD) (fv lv : Value) : List Value := [.bool x.null, fv, lv]
def RInf (h : T Obj) (v : Value) (x : InfD) (lo : Nat) : Prop := ∃ fv lv, v = .agg (infL x fv lv).toArray ∧ IT h fv x.first lo ∧ IT h lv x.last lo
theorem RInf.bk {lo lo' : Nat} {h h' : T Obj} {v : Value} {x : InfD} (hr : RInf h v x lo') (hb : BK lo h h') : RInf h' v x lo' := by
  obtain ⟨fv, lv, h1, h2, h3⟩ := hr
  exact ⟨fv, lv, h1, hb.it h2, hb.it h3⟩
theorem RInf.mono {lo lo' : Nat} {h : T Obj} {v : Value} {x : InfD} (hr : RInf h v x lo) (hl : lo' ≤ lo) : RInf h v x lo' := by
  obtain ⟨fv, lv, h1, h2, h3⟩ := hr
  exact ⟨fv, lv, h1, h2.mono hl, h3.mono hl⟩
theorem OwnT.updT {h : T Obj} {v : Value} {z : Nat} {e e' : TypeId} {l : List (List Value)} {lo k : Nat} {c : Array Value} {f : Nat × Nat} {o : Option Obj} (ho : OwnT h v z e l lo) (hk : h.get k = some (.cells c e' f)) (he : e' ≠ e) : OwnT (h.upd k o) v z e l lo := by
  rcases ho with ho | ⟨id, h1, rfl, h4, h5⟩
  · exact .inl ho
  · refine .inr ⟨id, h1, rfl, h4, ?_⟩
    rw [T.get_upd_ne _ _ (fun e2 => ?_)]
    · exact h5
    · subst e2
      rw [hk] at h5
      have e3 : e' = e := congrArg (fun o => match o with | some (Obj.cells _ e _) => e | _ => 0) h5
      exact he e3
theorem PB.updT {h : T Obj} {bid k lo : Nat} {pv : Value} {ps : List (PosD × Value)} {c : Array Value} {e : TypeId} {f : Nat × Nat} {o : Option Obj} (hp : PB h bid pv lo ps) (hk : h.get k = some (.cells c e f)) (h1 : e ≠ y_raddleref09_builder) (h2 : e ≠ y_api_Pos) (h3 : e ≠ y_int) : PB (h.upd k o) bid pv lo ps := by
  refine ⟨?_, hp.lb, hp.ow.updT hk h2, fun x hx => ⟨(hp.els x hx).1.updT hk h3, (hp.els x hx).2⟩⟩
  rw [T.get_upd_ne _ _ (fun e2 => ?_)]
  · exact hp.blk
  · subst e2
    have := hp.blk
    rw [hk] at this
    have e3 : e = y_raddleref09_builder := congrArg (fun o => match o with | some (Obj.cells _ e _) => e | _ => 0) this
    exact h1 e3
theorem BK.new {lo k n : Nat} {h h' : T Obj} {o : Option Obj} (hb : BK lo h h') (hf : Fr h n) (hk : n ≤ k) : BK lo h (h'.upd k o) := fun i x hi hc => by
  have := hf.lt' hi
  rw [T.get_upd_ne _ _ (by omega)]
  exact hb i x hi hc
theorem zer_Inf : zer Try.prog y_raddleref09_info = some (.agg (infL (noInf false) (.slice none 0 0) (.slice none 0 0)).toArray) := by kernel_rfl
theorem build_inf (b : Bool) : buildV Try.prog y_raddleref09_info [(0, .bool b)] = some (.agg (infL (noInf b) (.slice none 0 0) (.slice none 0 0)).toArray) := by kernel_rfl
theorem mlit_pos (aid : Nat) (p : PosD) (nv : Value) : sliceLitV Try.prog y_s_api_Pos aid 1 [(0, .agg (posL p nv).toArray)] = some (.slice (some (own aid 9)) 1 1, some (.cells (posL p nv).toArray y_api_Pos)) := by kernel_rfl
theorem build_P (s : Nat) (a b r : Int) : buildV Try.prog y_api_Pos [(0, setV s), (1, .int .i64 a), (2, .int .i64 b), (3, .int .i64 r)] = some (.agg (posL ⟨s, a, b, r, false, []⟩ (.slice none 0 0)).toArray) := by kernel_rfl
theorem mund_pos : und Try.prog y_s_api_Pos = some (.slice y_api_Pos) := by kernel_rfl
theorem mtin_pos : ∃ i, tin Try.prog y_api_Pos = some i ∧ i.size = 9 ∧ i.bytes = 88 := mtinOf (by kernel_rfl)
theorem mzer_pos : zer Try.prog y_api_Pos = some (.agg (posL dummy (.slice none 0 0)).toArray) := by kernel_rfl
theorem build_i2 (id : Nat) : buildV Try.prog y_raddleref09_info [(1, .slice (some (own id 1)) 1 1), (2, .slice (some (own id 1)) 1 1)] = some (.agg (infL ⟨false, [], []⟩ (.slice (some (own id 1)) 1 1) (.slice (some (own id 1)) 1 1)).toArray) := by kernel_rfl
theorem posC_snoc (ps : List (PosD × Value)) (x : PosD × Value) : posC (ps ++ [x]) = posC ps ++ [posL x.1 x.2] := by simp [posC]
set_option maxRecDepth 4000 in
set_option maxHeartbeats 4000000 in
theorem ref09_put_c {ro : Ro} {s : Nat} {a b rule : Int} {bid lo : Nat} {pv : Value} {ps : List (PosD × Value)} {h : T Obj} {nx : Nat} {K : KV} (hp : PB h bid pv lo ps) (hlo : lo ≤ nx) (hf : Fr h nx) (hs : s < 2 ^ 256) (hlen : ps.length ≤ 100000)
    (hK : ∀ r pv' h' nx', nx ≤ nx' → BK lo h h' → Fr h' nx' → Gap nx h h' → PB h' bid pv' lo (ps ++ [(⟨s, a, b, rule, false, []⟩, .slice none 0 0)]) → RInf h' r ⟨false, [(ps.length : Int)], [(ps.length : Int)]⟩ lo → K r h' nx') :
    callP Try.prog ro i_ref09_builder_put [ptr bid, .agg (posL ⟨s, a, b, rule, false, []⟩ (.slice none 0 0)).toArray] h nx K := by
  apply ref09_builder_put_of
  unfold ref09_builder_put
  have hbl := hf.lt' hp.blk
  refine param_mk hf (Nat.le_refl _) fun h1 hs1 hf1 g1 hg1 => ?_
  have g1 : h1.get nx = some (.cells (posL ⟨s, a, b, rule, false, []⟩ (.slice none 0 0)).toArray y_api_Pos) := g1
  refine bindP_mk zer_Inf ?_
  refine obj_mk hf1 (Nat.le_refl _) fun h2 hs2 hf2 g2 hg2 => ?_
  have hp2 := (hp.sub hs1).sub hs2
  have lb := load1_get (ro := ro) (z := 0) (l := [pv]) (off := 0) hp2.blk rfl
  have hnil : nilCk (at_ bid 0 0) = some (at_ bid 0 0) := rfl
  have lA := loadA_all (ro := ro) (z := 0) (n := 9) (hs2 _ _ g1) rfl
  rw [ptr_at]
  (repeat (first | refine bindP_mk (by simp (disch := first | omega | exact Int.natCast_nonneg _ | assumption) only [BB, B2, ↓reduceIte, Nat.reduceLeDiff, Nat.reduceAdd, CC, hnil, lb, lA] <;> rfl) ?_ | refine newP_mk ?_ | refine optP_mk ?_ | with_reducible first | refine condP_t ?_ | refine condP_f ?_ | refine ifP_tt' ?_ | refine ifP_ff' ?_ | refine ifP_tf' ?_ | refine ifP_ft' ?_ | refine ifP_u' ?_ | refine optP_mk0 ?_))
  obtain ⟨i, t1, t2, t3⟩ := mtin_pos
  have hbig : (100001 : Nat) * 88 ≤ big := by decide
  refine mapp_lit (z := 9) (mlit_pos _ _ _) rfl hp2.ow mund_pos t1 t2 (by omega) mzer_pos rfl rfl (by rw [t3, posC_len]; omega) (by rw [posC_len]; omega) hf2 (by omega) (by omega) (by omega) fun h3 qq hh1 q1 q2 q3 q4 => ?_
  -- the builder's block
  have hb3 : h3.get bid = some (.cells #[pv] y_raddleref09_builder) := q2 _ _ hp2.blk (hp2.ow.ne hp2.blk (by decide))
  have hlen2 : (posC ps ++ [posL ⟨s, a, b, rule, false, []⟩ (.slice none 0 0)]).length = ps.length + 1 := by simp [posC_len]
  rw [hlen2] at q1 ⊢
  rw [← posC_snoc ps (⟨s, a, b, rule, false, []⟩, .slice none 0 0)] at q1
  have hst := store1_own (z := 0) (off := 0) (l := [pv]) (v := .slice (some (own (nx + 13) 9)) (ps.length + 1) (ps.length + 1)) hb3 (by simp) rfl rfl
  generalize hpv : Value.slice (some (own (nx + 13) 9)) (ps.length + 1) (ps.length + 1) = pv' at q1 hst ⊢
  (repeat (first | refine bindP_mk (by simp (disch := first | omega | exact Int.natCast_nonneg _ | assumption) only [BB, B2, ↓reduceIte, Nat.reduceLeDiff, Nat.reduceAdd, CC, hnil] <;> rfl) ?_ | refine newP_mk ?_ | refine optP_mk ?_ | with_reducible first | refine condP_t ?_ | refine condP_f ?_ | refine ifP_tt' ?_ | refine ifP_ff' ?_ | refine ifP_tf' ?_ | refine ifP_ft' ?_ | refine ifP_u' ?_ | refine optP_mk0 ?_))
  refine bindP_mk hst ?_
  generalize hh4 : h3.upd bid (some (.cells ([pv].set 0 pv').toArray y_raddleref09_builder)) = h4
  have hf4 : Fr h4 (nx + 14) := by rw [← hh4]; exact (q3.mono (by omega)).upd (Nat.le_refl _) (by omega)
  have g4 : h4.get bid = some (.cells #[pv'] y_raddleref09_builder) := by rw [← hh4]; exact T.get_upd_same _ _ _
  have g4' : ∀ k, k ≠ bid → h4.get k = h3.get k := fun k hk => by rw [← hh4]; exact T.get_upd_ne _ _ hk
  have hs12 : Sub h h2 := hs1.trans hs2
  have hne4 : sblk pv' = some (nx + 13) := by rw [← hpv]; rfl
  have hbk4 : BK lo h h4 := fun k o hk hc => by
    have hkn := hf.lt' hk
    have hkb : k ≠ bid := fun e => by
      subst e
      rw [hp.blk] at hk
      cases hk
      rcases hc with hc | hc
      · have := hp.lb; omega
      · exact Bool.noConfusion (show true = false from hc)
    rw [g4' k hkb]
    refine q2 _ _ (hs12 _ _ hk) ?_
    rcases hp2.ow with ⟨e1, _⟩ | ⟨id, w1, e1, w2, w3⟩
    · rw [e1]; intro h; cases h
    · rw [e1]
      intro h
      have e3 : id = k := Option.some.inj h
      subst e3
      have := hs12 _ _ hk
      rw [w3] at this
      cases this
      rcases hc with hc | hc
      · omega
      · exact Bool.noConfusion (show true = false from hc)
  have ho4 : OwnT h4 pv' 9 y_api_Pos (posC (ps ++ [(⟨s, a, b, rule, false, []⟩, .slice none 0 0)])) lo := by
    rcases q1 with ⟨e1, e2⟩ | ⟨id, w1, e1, w2, w3⟩
    · exact .inl ⟨e1, e2⟩
    · refine .inr ⟨id, w1, e1, w2, ?_⟩
      rw [g4' id (fun e => ?_)]
      · exact w3
      · subst e
        rw [hb3] at w3
        have e2 : y_raddleref09_builder = y_api_Pos := congrArg (fun o => match o with | some (Obj.cells _ e _) => e | _ => 0) w3
        exact absurd e2 (by decide)
  have hp4 : PB h4 bid pv' lo (ps ++ [(⟨s, a, b, rule, false, []⟩, .slice none 0 0)]) := ⟨g4, hp.lb, ho4, fun x hx => by
    rcases List.mem_append.1 hx with hx | hx
    · exact ⟨hbk4.it (hp.els x hx).1, (hp.els x hx).2⟩
    · rw [List.mem_singleton] at hx
      subst hx
      exact ⟨OwnT.nil, hs⟩⟩
  have lb4 := load1_get (ro := ro) (z := 0) (l := [pv']) (off := 0) g4 rfl
  have hpl : lenSl pv' = some (.int .i64 ((ps.length : Int) + 1)) := by rw [← hpv]; rfl
  (repeat (first | refine bindP_mk (by simp (disch := first | omega | exact Int.natCast_nonneg _ | assumption) only [BB, B2, ↓reduceIte, Nat.reduceLeDiff, Nat.reduceAdd, CC, hnil, lb4] <;> rfl) ?_ | refine newP_mk ?_ | refine optP_mk ?_ | with_reducible first | refine condP_t ?_ | refine condP_f ?_ | refine ifP_tt' ?_ | refine ifP_ff' ?_ | refine ifP_tf' ?_ | refine ifP_ft' ?_ | refine ifP_u' ?_ | refine optP_mk0 ?_))
  refine bindP_mk hpl (bindP_mk (intB_sub _ _ _) ?_)
  rw [wr_i64 (by omega) (by omega)]
  have g2' : h4.get (nx + 1) = some (.cells (infL (noInf false) (.slice none 0 0) (.slice none 0 0)).toArray y_raddleref09_info) := by
    rw [g4' _ (by omega)]
    exact q2 _ _ g2 (hp2.ow.ne g2 (by decide))
  refine bindP_mk (mlit_int _ _) ?_
  refine optP_mk ?_
  generalize hh5 : h4.upd _ (some (.cells [Value.int .i64 ((ps.length : Int) + 1 - 1)].toArray y_int)) = h5
  have hs5 : Sub h4 h5 := by rw [← hh5]; exact (Sub.refl h4).new hf4 (by dsimp only; omega)
  have hf5 : Fr h5 (nx + 13 + 1 + 7) := by rw [← hh5]; exact (hf4.mono (by omega)).upd (Nat.le_refl _) (by dsimp only; omega)
  have g5 : h5.get (nx + 13 + 1 + 6) = some (.cells [Value.int .i64 ((ps.length : Int) + 1 - 1)].toArray y_int) := by rw [← hh5]; exact T.get_upd_same _ _ _
  refine bindP_mk (build_i2 _) ?_
  refine bindP_mk (storeA_own (l := infL (noInf false) (.slice none 0 0) (.slice none 0 0)) (vs := infL ⟨false, [], []⟩ (.slice (some (own (nx + 13 + 1 + 6) 1)) 1 1) (.slice (some (own (nx + 13 + 1 + 6) 1)) 1 1)) (hs5 _ _ g2') rfl rfl rfl rfl) ?_
  refine bindP_mk (loadA_all (by rw [T.get_upd_same]) rfl) ?_
  refine ⟨_, Sub.refl _, ?_⟩
  have g6 := hs5 _ _ g2'
  refine hK _ pv' _ _ ?_ ?_ ?_ ?_ ?_ ?_
  · dsimp only; omega
  · exact (hbk4.trans hs5.bk).new hf (by omega)
  · exact (hf5.mono (by dsimp only; omega)).upd (Nat.le_refl _) (by dsimp only; omega)
  · have a1 : Gap nx h h2 := fun k hk hn => by rw [hg2 k (by omega), hg1 k (by omega)]; exact hn
    have a2 : Gap nx h h4 := by rw [← hh4]; exact (a1.trans q4 (by omega)).upd hb3
    have a3 : Gap nx h h5 := by rw [← hh5]; exact a2.new (by dsimp only; omega)
    exact a3.new (by omega)
  · exact (hp4.sub hs5).updT g6 (by decide) (by decide) (by decide)
  · have hit : IT (h5.upd (nx + 1) (some (.cells (infL ⟨false, [], []⟩ (.slice (some (own (nx + 13 + 1 + 6) 1)) 1 1) (.slice (some (own (nx + 13 + 1 + 6) 1)) 1 1)).toArray y_raddleref09_info))) (.slice (some (own (nx + 13 + 1 + 6) 1)) 1 1) [(ps.length : Int)] lo := by
      refine OwnT.updT (.inr ⟨nx + 13 + 1 + 6, by omega, rfl, by simp [intsZ], ?_⟩) g6 (by decide)
      rw [show ((ps.length : Int) + 1 - 1) = ps.length by omega] at g5
      exact g5
    exact ⟨_, _, rfl, hit, hit⟩
def infC (zs : List (InfD × Value × Value)) : List (List Value) := zs.map fun z => infL z.1 z.2.1 z.2.2
theorem infC_len (zs : List (InfD × Value × Value)) : (infC zs).length = zs.length := by simp [infC]
structure RInfs (h : T Obj) (v : Value) (zs : List (InfD × Value × Value)) (lo : Nat) : Prop where
  ow : OwnT h v 3 y_raddleref09_info (infC zs) lo
  els : ∀ z ∈ zs, IT h z.2.1 z.1.first lo ∧ IT h z.2.2 z.1.last lo
theorem RInfs.bk {lo lo' : Nat} {h h' : T Obj} {v : Value} {zs : List (InfD × Value × Value)} (hr : RInfs h v zs lo') (hb : BK lo h h') : RInfs h' v zs lo' := ⟨hb.own hr.ow (by decide), fun z hz => ⟨hb.it (hr.els z hz).1, hb.it (hr.els z hz).2⟩⟩
theorem rz_then {m : Int} {x y : InfD} (h1 : rz (-1) m x.first = true) (h2 : rz (-1) m x.last = true) (h3 : rz (-1) m y.first = true) (h4 : rz (-1) m y.last = true) : rz (-1) m (thenI x y).first = true ∧ rz (-1) m (thenI x y).last = true := by
  unfold thenI
  simp only
  constructor
  · split
    · exact rz_bothI h1 h3
    · exact h1
  · split
    · exact rz_bothI h2 h4
    · exact h4
theorem link_len (P : List PosD) (to : List Int) : ∀ (from_ : List Int), ∀ P : List PosD, (linkD P from_ to).length = P.length
  | [], P => rfl
  | q :: r, P => by
    have e : linkD P (q :: r) to = linkD (P.modify q.toNat fun p => { p with next := bothD p.next to }) r to := rfl
    rw [e, link_len P to r]; simp
set_option maxRecDepth 4000 in
set_option maxHeartbeats 8000000 in
theorem ref09_cat_c {ro : Ro} {zs : List (InfD × Value × Value)} {kv : Value} {bid lo : Nat} {pv : Value} {ps : List (PosD × Value)} {h : T Obj} {nx : Nat} {K : KV} (hp : PB h bid pv lo ps) (hlo : lo ≤ nx) (hf : Fr h nx) (hz : RInfs h kv zs lo) (hzl : zs.length ≤ 1000000) (hN : ps.length ≤ 2000)
    (hrz : ∀ z ∈ zs, rz (-1) ps.length z.1.first = true ∧ rz (-1) ps.length z.1.last = true) (hnx : ∀ x ∈ ps, rz (-1) ps.length x.1.next = true)
    (hK : ∀ r ps' h' nx', nx ≤ nx' → BK lo h h' → Fr h' nx' → Gap nx h h' → PB h' bid pv lo ps' → ps'.map Prod.fst = (catD (zs.map Prod.fst) (noInf true) (ps.map Prod.fst)).2 → RInf h' r (catD (zs.map Prod.fst) (noInf true) (ps.map Prod.fst)).1 lo → K r h' nx') :
    callP Try.prog ro i_ref09_builder_cat [ptr bid, kv] h nx K := by
  apply ref09_builder_cat_of
  unfold ref09_builder_cat
  have hbl := hf.lt' hp.blk
  refine bindP_mk zer_Inf ?_
  refine obj_mk hf (Nat.le_refl _) fun h1 hs1 hf1 g1 hg1 => ?_
  refine bindP_mk (build_inf true) ?_
  refine local_mk (n := 3) (x := infL (noInf true) (.slice none 0 0) (.slice none 0 0)) zer_Inf rfl rfl rfl rfl hf1 (by omega) fun h2 hs2 hf2 g2 hg2 => ?_
  have g1' := hs2 _ _ g1
  refine loopP_rule (fun m e h' nx' => ∃ (i : Nat) (x : InfD) (fv lv : Value) (qs : List (PosD × Value)), i + m = zs.length ∧ nx + 5 ≤ nx' ∧ e 0 = ptr bid ∧ e 1 = kv ∧ e 4 = ptr nx ∧ e 5 = ptr (nx + 2) ∧ e 6 = .int .i64 i ∧ BK lo h h' ∧ Fr h' nx' ∧ Gap nx h h' ∧ PB h' bid pv lo qs ∧ h'.get nx = some (.cells (infL (noInf false) (.slice none 0 0) (.slice none 0 0)).toArray y_raddleref09_info) ∧
      h'.get (nx + 2) = some (.cells (infL x fv lv).toArray y_raddleref09_info) ∧ IT h' fv x.first lo ∧ IT h' lv x.last lo ∧ rz (-1) ps.length x.first = true ∧ rz (-1) ps.length x.last = true ∧ qs.length = ps.length ∧ (∀ y ∈ qs, rz (-1) ps.length y.1.next = true) ∧
      catD (zs.map Prod.fst) (noInf true) (ps.map Prod.fst) = catD ((zs.drop i).map Prod.fst) x (qs.map Prod.fst)) ?_ (n := zs.length)
    ⟨0, noInf true, _, _, ps, by omega, by omega, rfl, rfl, rfl, rfl, rfl, (hs1.trans hs2).bk, hf2.mono (by omega), (fun k hk hn => by rw [hg2 k (by omega), hg1 k (by omega)]; exact hn), (hp.sub hs1).sub hs2, g1', g2, OwnT.nil, OwnT.nil, rfl, rfl, rfl, hnx, rfl⟩
  rintro m e h' nx' ⟨i, x, fv, lv, qs, him, hnx', e0, e1, e4, e5, e6, hbk, hf', hgp, hp', gr, go, hfv, hlv, hrf, hrl, hql, hqn, hcat⟩ Q' hq hx
  unfold ref09_builder_cat_L1
  rw [e0, e1, e5, e6]
  have hz' := hz.bk hbk
  have hkl : lenSl kv = some (.int .i64 zs.length) := by
    have := (hz'.ow.sl (ro := ro)).len
    rwa [infC_len] at this
  (repeat (first | refine bindP_mk (by simp (disch := first | omega | exact Int.natCast_nonneg _ | assumption) only [BB, B2, ↓reduceIte, Nat.reduceLeDiff, Nat.reduceAdd, CC, hkl] <;> rfl) ?_ | refine newP_mk ?_ | refine optP_mk ?_ | with_reducible first | refine condP_t ?_ | refine condP_f ?_ | refine ifP_tt' ?_ | refine ifP_ff' ?_ | refine ifP_tf' ?_ | refine ifP_ft' ?_ | refine ifP_u' ?_ | refine optP_mk0 ?_))
  refine lss_s (fun hi => ?_) (fun hi => ?_)
  · have hi : i < zs.length := by omega
    have hsl := hz'.ow.sl (ro := ro)
    have hgi : (infC zs)[i]? = some (infL (zs[i]).1 (zs[i]).2.1 (zs[i]).2.2) := by unfold infC; rw [List.getElem?_map, List.getElem?_eq_getElem hi]; rfl
    have y1 := hsl.ix .i64 (i := i) (by rw [infC_len]; exact hi)
    have y2 := hsl.loadA hgi
    have hzi := hz.els _ (List.getElem_mem hi)
    have hrz2 := hrz _ (List.getElem_mem hi)
    rw [drop_cons hi, List.map_cons] at hcat
    have hcat : catD (zs.map Prod.fst) (noInf true) (ps.map Prod.fst) = catD ((zs.drop (i + 1)).map Prod.fst) (thenI x zs[i].1) (linkD (qs.map Prod.fst) x.last zs[i].1.first) := hcat
    generalize zs[i] = z at *
    obtain ⟨y, yf, yl⟩ := z
    simp only at hzi hrz2 hcat y2 hgi
    have hyf := hbk.it hzi.1
    have hyl := hbk.it hzi.2
    obtain ⟨hrt1, hrt2⟩ := rz_then hrf hrl hrz2.1 hrz2.2
    (repeat (first | refine bindP_mk (by simp (disch := first | omega | exact Int.natCast_nonneg _ | assumption) only [BB, B2, ↓reduceIte, Nat.reduceLeDiff, Nat.reduceAdd, CC, y1, y2] <;> rfl) ?_ | refine newP_mk ?_ | refine optP_mk ?_ | with_reducible first | refine condP_t ?_ | refine condP_f ?_ | refine ifP_tt' ?_ | refine ifP_ff' ?_ | refine ifP_tf' ?_ | refine ifP_ft' ?_ | refine ifP_u' ?_ | refine optP_mk0 ?_))
    refine local_mk (n := 3) (x := infL y yf yl) zer_Inf rfl rfl rfl (by have h1 := hyf.z (ro := ro); have h2 := hyl.z (ro := ro); simp [infL, h1.ok, h2.ok]; rfl) hf' (by omega) fun h3 hs3 hf3 g3 hg3 => ?_
    have go3 := hs3 _ _ go
    have lo2 := load1_get (ro := ro) (z := 0) (off := 2) (v := lv) go3 rfl
    have lk1 := load1_get (ro := ro) (z := 0) (off := 1) (v := yf) g3 rfl
    (repeat (first | refine bindP_mk (by simp (disch := first | omega | exact Int.natCast_nonneg _ | assumption) only [BB, B2, ↓reduceIte, Nat.reduceLeDiff, Nat.reduceAdd, CC, lo2, lk1] <;> rfl) ?_ | refine newP_mk ?_ | refine optP_mk ?_ | with_reducible first | refine condP_t ?_ | refine condP_f ?_ | refine ifP_tt' ?_ | refine ifP_ff' ?_ | refine ifP_tf' ?_ | refine ifP_ft' ?_ | refine ifP_u' ?_ | refine optP_mk0 ?_))
    refine ref09_link_c (ro := ro) (N := ps.length) (hp'.sub hs3) (by omega) (hf3.mono (by omega)) (hlv.keepS hs3) (hyf.keepS hs3) hN (by rw [hql]; exact hrl) (by omega) hrz2.1 hqn fun qs2 h4 n4 hn4 hb4 hf4 hg4 hp4 hqm => ?_
    have hg3' : Gap nx h' h3 := fun k hk hn => by rw [hg3 k (by omega)]; exact hn
    have hgp4 : Gap nx h h4 := hgp.trans (hg3'.trans hg4 (by omega)) (Nat.le_refl _)
    have hbk4 := (hbk.trans hs3.bk).trans hb4
    have go4 := hb4.cells go3 (by decide)
    have gr4 := hb4.cells (hs3 _ _ gr) (by decide)
    have gk4 := hb4.cells g3 (by decide)
    have hfv4 := hb4.it (hfv.keepS hs3)
    have hlv4 := hb4.it (hlv.keepS hs3)
    have hyf4 := hb4.it (hyf.keepS hs3)
    have hyl4 := hb4.it (hyl.keepS hs3)
    have hq2l : qs2.length = ps.length := by
      have := congrArg List.length hqm
      rw [List.length_map, link_len [], List.length_map] at this
      omega
    have hq2n : ∀ y ∈ qs2, rz (-1) ps.length y.1.next = true := fun w hw => by
      refine link_rz hrz2.1 x.last (qs.map Prod.fst) (fun u hu => ?_) w.1 ?_
      · obtain ⟨t, ht, rfl⟩ := List.mem_map.1 hu; exact hqn t ht
      · rw [← hqm]; exact List.mem_map.2 ⟨w, hw, rfl⟩
    rw [← hqm] at hcat
    clear hqm
    have hlf := rz_le_len hrf (by omega)
    have hll := rz_le_len hrl (by omega)
    have hlyf := rz_le_len hrz2.1 (by omega)
    have hlyl := rz_le_len hrz2.2 (by omega)
    -- the end of a round
    have hj4 : ∀ (e' : Env) h5 n5 (fv2 lv2 : Value) (F L : List Int), F = (thenI x y).first → L = (thenI x y).last → nx' ≤ n5 → BK lo h h5 → Fr h5 n5 → Gap nx h h5 → PB h5 bid pv lo qs2 → h5.get nx = some (.cells (infL (noInf false) (.slice none 0 0) (.slice none 0 0)).toArray y_raddleref09_info) →
        h5.get (nx + 2) = some (.cells [Value.bool x.null, fv2, lv2].toArray y_raddleref09_info) → h5.get (nx' + 8) = some (.cells (infL y yf yl).toArray y_raddleref09_info) → IT h5 fv2 F lo → IT h5 lv2 L lo → e' 0 = ptr bid → e' 1 = kv → e' 4 = ptr nx → e' 5 = ptr (nx + 2) → e' 6 = .int .i64 i → e' 7 = ptr (nx' + 8) → ref09_builder_cat_j4 ro Q' e' h5 n5 := fun e' h5 n5 fv2 lv2 F L hF hL hn5 hbk5 hf5 hgp5 hp5 gr5 go5 gk5 i1 i2 q0 q1 q4 q5 q6 q7 => by
      subst hF hL
      unfold ref09_builder_cat_j4
      rw [q5, q7]
      have lo0 := load1_get (ro := ro) (z := 0) (off := 0) (v := .bool x.null) go5 rfl
      have lk0 := load1_get (ro := ro) (z := 0) (off := 0) (v := .bool y.null) gk5 rfl
      have hst := store1_own (z := 0) (off := 0) (v := .bool (x.null && y.null)) go5 (by simp) rfl rfl
      have hfin : ∀ (e2 : Env) n6, n5 ≤ n6 → e2 0 = ptr bid → e2 1 = kv → e2 4 = ptr nx → e2 5 = ptr (nx + 2) → e2 6 = .int .i64 i → ref09_builder_cat_j2 ro Q' e2 (h5.upd (nx + 2) (some (.cells ([Value.bool x.null, fv2, lv2].set 0 (.bool (x.null && y.null))).toArray y_raddleref09_info))) n6 := fun e2 n6 hn6 p0 p1 p4 p5 p6 => by
        unfold ref09_builder_cat_j2
        rw [p6]
        (repeat (first | refine bindP_mk (by simp (disch := first | omega | exact Int.natCast_nonneg _ | assumption) only [BB, B2, ↓reduceIte, Nat.reduceLeDiff, Nat.reduceAdd, CC] <;> rfl) ?_ | refine newP_mk ?_ | refine optP_mk ?_ | with_reducible first | refine condP_t ?_ | refine condP_f ?_ | refine ifP_tt' ?_ | refine ifP_ff' ?_ | refine ifP_tf' ?_ | refine ifP_ft' ?_ | refine ifP_u' ?_ | refine optP_mk0 ?_))
        exact hq (m - 1) _ _ _ _ (by omega) ⟨i + 1, thenI x y, fv2, lv2, qs2, by omega, by omega, p0, p1, p4, p5, rfl, hbk5.new hf (by omega), (hf5.mono (by omega)).upd (Nat.le_refl _) (by omega), hgp5.upd go5, hp5.updT go5 (by decide) (by decide) (by decide), by rw [T.get_upd_ne _ _ (by omega)]; exact gr5, by rw [T.get_upd_same]; rfl, i1.updT go5 (by decide), i2.updT go5 (by decide), hrt1, hrt2, hq2l, hq2n, hcat⟩ (Sub.refl _)
      (repeat (first | refine bindP_mk (by simp (disch := first | omega | exact Int.natCast_nonneg _ | assumption) only [BB, B2, ↓reduceIte, Nat.reduceLeDiff, Nat.reduceAdd, CC, lo0] <;> rfl) ?_ | refine newP_mk ?_ | refine optP_mk ?_ | with_reducible first | refine condP_t ?_ | refine condP_f ?_ | refine ifP_tt' ?_ | refine ifP_ff' ?_ | refine ifP_tf' ?_ | refine ifP_ft' ?_ | refine ifP_u' ?_ | refine optP_mk0 ?_))
      cases hxn : x.null with
      | true =>
        (repeat (first | refine bindP_mk (by simp (disch := first | omega | exact Int.natCast_nonneg _ | assumption) only [BB, B2, ↓reduceIte, Nat.reduceLeDiff, Nat.reduceAdd, CC, lk0] <;> rfl) ?_ | refine newP_mk ?_ | refine optP_mk ?_ | with_reducible first | refine condP_t ?_ | refine condP_f ?_ | refine ifP_tt' ?_ | refine ifP_ff' ?_ | refine ifP_tf' ?_ | refine ifP_ft' ?_ | refine ifP_u' ?_ | refine optP_mk0 ?_))
        rw [hxn, Bool.true_and] at hst hfin
        refine bindP_mk hst ?_
        exact hfin _ _ (by omega) q0 q1 q4 q5 q6
      | false =>
        (repeat (first | refine bindP_mk (by simp (disch := first | omega | exact Int.natCast_nonneg _ | assumption) only [BB, B2, ↓reduceIte, Nat.reduceLeDiff, Nat.reduceAdd, CC] <;> rfl) ?_ | refine newP_mk ?_ | refine optP_mk ?_ | with_reducible first | refine condP_t ?_ | refine condP_f ?_ | refine ifP_tt' ?_ | refine ifP_ff' ?_ | refine ifP_tf' ?_ | refine ifP_ft' ?_ | refine ifP_u' ?_ | refine optP_mk0 ?_))
        rw [hxn, Bool.false_and] at hst hfin
        refine bindP_mk hst ?_
        exact hfin _ _ (by omega) q0 q1 q4 q5 q6
    have hj3 : ∀ (e' : Env) h5 n5 (fv2 : Value), nx' + 9 ≤ n5 → BK lo h h5 → Fr h5 n5 → Gap nx h h5 → PB h5 bid pv lo qs2 → h5.get nx = some (.cells (infL (noInf false) (.slice none 0 0) (.slice none 0 0)).toArray y_raddleref09_info) →
        h5.get (nx + 2) = some (.cells [Value.bool x.null, fv2, lv].toArray y_raddleref09_info) → h5.get (nx' + 8) = some (.cells (infL y yf yl).toArray y_raddleref09_info) → IT h5 fv2 (thenI x y).first lo → IT h5 lv x.last lo → IT h5 yl y.last lo → e' 0 = ptr bid → e' 1 = kv → e' 4 = ptr nx → e' 5 = ptr (nx + 2) → e' 6 = .int .i64 i → e' 7 = ptr (nx' + 8) → ref09_builder_cat_j3 ro Q' e' h5 n5 := fun e' h5 n5 fv2 hn5 hbk5 hf5 hgp5 hp5 gr5 go5 gk5 i1 i2 i3 q0 q1 q4 q5 q6 q7 => by
      unfold ref09_builder_cat_j3
      rw [q5, q7]
      have lo2 := load1_get (ro := ro) (z := 0) (off := 2) (v := lv) go5 rfl
      have lk0 := load1_get (ro := ro) (z := 0) (off := 0) (v := .bool y.null) gk5 rfl
      have lk2 := load1_get (ro := ro) (z := 0) (off := 2) (v := yl) gk5 rfl
      have hth : (thenI x y).last = if y.null then bothD x.last y.last else y.last := rfl
      (repeat (first | refine bindP_mk (by simp (disch := first | omega | exact Int.natCast_nonneg _ | assumption) only [BB, B2, ↓reduceIte, Nat.reduceLeDiff, Nat.reduceAdd, CC, lk0] <;> rfl) ?_ | refine newP_mk ?_ | refine optP_mk ?_ | with_reducible first | refine condP_t ?_ | refine condP_f ?_ | refine ifP_tt' ?_ | refine ifP_ff' ?_ | refine ifP_tf' ?_ | refine ifP_ft' ?_ | refine ifP_u' ?_ | refine optP_mk0 ?_))
      cases hyn : y.null with
      | true =>
        (repeat (first | refine bindP_mk (by simp (disch := first | omega | exact Int.natCast_nonneg _ | assumption) only [BB, B2, ↓reduceIte, Nat.reduceLeDiff, Nat.reduceAdd, CC, lo2, lk2] <;> rfl) ?_ | refine newP_mk ?_ | refine optP_mk ?_ | with_reducible first | refine condP_t ?_ | refine condP_f ?_ | refine ifP_tt' ?_ | refine ifP_ff' ?_ | refine ifP_tf' ?_ | refine ifP_ft' ?_ | refine ifP_u' ?_ | refine optP_mk0 ?_))
        refine ref09_both_c (a := x.last) (b := y.last) (by omega) (by omega) (hf5.mono (by omega)) i2.z i3.z fun r h6 n6 hn6 hs6 hf6 hr hg6 => ?_
        have hst := store1_own (z := 0) (off := 2) (v := r) (hs6 _ _ go5) (by simp) (hr.z (ro := ro)).ok (by rcases hr with ⟨rfl, _⟩ | ⟨_, _, rfl, _⟩ <;> rfl)
        (repeat (first | refine bindP_mk (by simp (disch := first | omega | exact Int.natCast_nonneg _ | assumption) only [BB, B2, ↓reduceIte, Nat.reduceLeDiff, Nat.reduceAdd, CC] <;> rfl) ?_ | refine newP_mk ?_ | refine optP_mk ?_ | with_reducible first | refine condP_t ?_ | refine condP_f ?_ | refine ifP_tt' ?_ | refine ifP_ff' ?_ | refine ifP_tf' ?_ | refine ifP_ft' ?_ | refine ifP_u' ?_ | refine optP_mk0 ?_))
        refine bindP_mk hst ?_
        have go6 := hs6 _ _ go5
        refine hj4 _ _ _ fv2 r _ _ rfl (by rw [hth, hyn]; rfl) (by omega) ((hbk5.trans hs6.bk).new hf (by omega)) ((hf6.mono (by omega)).upd (Nat.le_refl _) (by omega)) ((hgp5.trans hg6 (by omega)).upd go6) ((hp5.sub hs6).updT go6 (by decide) (by decide) (by decide)) (by rw [T.get_upd_ne _ _ (by omega)]; exact hs6 _ _ gr5) (by rw [T.get_upd_same]; rfl) (by rw [T.get_upd_ne _ _ (by omega)]; exact hs6 _ _ gk5) ((i1.keepS hs6).updT go6 (by decide)) ((hr.mono (by omega)).updT go6 (by decide)) q0 q1 q4 q5 q6 q7
      | false =>
        have hst := store1_own (z := 0) (off := 2) (v := yl) go5 (by simp) (i3.z (ro := ro)).ok (by rcases i3 with ⟨rfl, _⟩ | ⟨_, _, rfl, _⟩ <;> rfl)
        (repeat (first | refine bindP_mk (by simp (disch := first | omega | exact Int.natCast_nonneg _ | assumption) only [BB, B2, ↓reduceIte, Nat.reduceLeDiff, Nat.reduceAdd, CC, lk2] <;> rfl) ?_ | refine newP_mk ?_ | refine optP_mk ?_ | with_reducible first | refine condP_t ?_ | refine condP_f ?_ | refine ifP_tt' ?_ | refine ifP_ff' ?_ | refine ifP_tf' ?_ | refine ifP_ft' ?_ | refine ifP_u' ?_ | refine optP_mk0 ?_))
        refine bindP_mk hst ?_
        refine hj4 _ _ _ fv2 yl _ _ rfl (by rw [hth, hyn]; rfl) (by omega) (hbk5.new hf (by omega)) ((hf5.mono (by omega)).upd (Nat.le_refl _) (by omega)) (hgp5.upd go5) (hp5.updT go5 (by decide) (by decide) (by decide)) (by rw [T.get_upd_ne _ _ (by omega)]; exact gr5) (by rw [T.get_upd_same]; rfl) (by rw [T.get_upd_ne _ _ (by omega)]; exact gk5) (i1.updT go5 (by decide)) (i3.updT go5 (by decide)) q0 q1 q4 q5 q6 q7
    have lo0 := load1_get (ro := ro) (z := 0) (off := 0) (v := .bool x.null) go4 rfl
    have lo1 := load1_get (ro := ro) (z := 0) (off := 1) (v := fv) go4 rfl
    have lk1' := load1_get (ro := ro) (z := 0) (off := 1) (v := yf) gk4 rfl
    have hth : (thenI x y).first = if x.null then bothD x.first y.first else x.first := rfl
    (repeat (first | refine bindP_mk (by simp (disch := first | omega | exact Int.natCast_nonneg _ | assumption) only [BB, B2, ↓reduceIte, Nat.reduceLeDiff, Nat.reduceAdd, CC, lo0] <;> rfl) ?_ | refine newP_mk ?_ | refine optP_mk ?_ | with_reducible first | refine condP_t ?_ | refine condP_f ?_ | refine ifP_tt' ?_ | refine ifP_ff' ?_ | refine ifP_tf' ?_ | refine ifP_ft' ?_ | refine ifP_u' ?_ | refine optP_mk0 ?_))
    cases hxn : x.null with
    | true =>
      (repeat (first | refine bindP_mk (by simp (disch := first | omega | exact Int.natCast_nonneg _ | assumption) only [BB, B2, ↓reduceIte, Nat.reduceLeDiff, Nat.reduceAdd, CC, lo1, lk1'] <;> rfl) ?_ | refine newP_mk ?_ | refine optP_mk ?_ | with_reducible first | refine condP_t ?_ | refine condP_f ?_ | refine ifP_tt' ?_ | refine ifP_ff' ?_ | refine ifP_tf' ?_ | refine ifP_ft' ?_ | refine ifP_u' ?_ | refine optP_mk0 ?_))
      refine ref09_both_c (a := x.first) (b := y.first) (by omega) (by omega) (hf4.mono (by omega)) hfv4.z hyf4.z fun r h6 n6 hn6 hs6 hf6 hr hg6 => ?_
      have go6 := hs6 _ _ go4
      have hst := store1_own (z := 0) (off := 1) (v := r) go6 (by simp [infL]) (hr.z (ro := ro)).ok (by rcases hr with ⟨rfl, _⟩ | ⟨_, _, rfl, _⟩ <;> rfl)
      (repeat (first | refine bindP_mk (by simp (disch := first | omega | exact Int.natCast_nonneg _ | assumption) only [BB, B2, ↓reduceIte, Nat.reduceLeDiff, Nat.reduceAdd, CC] <;> rfl) ?_ | refine newP_mk ?_ | refine optP_mk ?_ | with_reducible first | refine condP_t ?_ | refine condP_f ?_ | refine ifP_tt' ?_ | refine ifP_ff' ?_ | refine ifP_tf' ?_ | refine ifP_ft' ?_ | refine ifP_u' ?_ | refine optP_mk0 ?_))
      refine bindP_mk hst ?_
      refine hj3 _ _ _ r (by omega) ((hbk4.trans hs6.bk).new hf (by omega)) ((hf6.mono (by omega)).upd (Nat.le_refl _) (by omega)) ((hgp4.trans hg6 (by omega)).upd go6) ((hp4.sub hs6).updT go6 (by decide) (by decide) (by decide)) (by rw [T.get_upd_ne _ _ (by omega)]; exact hs6 _ _ gr4) (by rw [T.get_upd_same]; rfl) (by rw [T.get_upd_ne _ _ (by omega)]; exact hs6 _ _ gk4) (by rw [hth, hxn]; exact (hr.mono (by omega)).updT go6 (by decide)) ((hlv4.keepS hs6).updT go6 (by decide)) ((hyl4.keepS hs6).updT go6 (by decide)) e0 e1 e4 e5 e6 rfl
    | false =>
      (repeat (first | refine bindP_mk (by simp (disch := first | omega | exact Int.natCast_nonneg _ | assumption) only [BB, B2, ↓reduceIte, Nat.reduceLeDiff, Nat.reduceAdd, CC] <;> rfl) ?_ | refine newP_mk ?_ | refine optP_mk ?_ | with_reducible first | refine condP_t ?_ | refine condP_f ?_ | refine ifP_tt' ?_ | refine ifP_ff' ?_ | refine ifP_tf' ?_ | refine ifP_ft' ?_ | refine ifP_u' ?_ | refine optP_mk0 ?_))
      exact hj3 _ _ _ fv (by omega) hbk4 (hf4.mono (by omega)) hgp4 hp4 gr4 go4 gk4 (by rw [hth, hxn]; exact hfv4) hlv4 hyl4 e0 e1 e4 e5 e6 rfl
  · (repeat (first | refine bindP_mk (by simp (disch := first | omega | exact Int.natCast_nonneg _ | assumption) only [BB, B2, ↓reduceIte, Nat.reduceLeDiff, Nat.reduceAdd, CC] <;> rfl) ?_ | refine newP_mk ?_ | refine optP_mk ?_ | with_reducible first | refine condP_t ?_ | refine condP_f ?_ | refine ifP_tt' ?_ | refine ifP_ff' ?_ | refine ifP_tf' ?_ | refine ifP_ft' ?_ | refine ifP_u' ?_ | refine optP_mk0 ?_))
    refine hx _ _ _ _ (fun e => by cases e) (exP_e (beqP_t ?_))
    rw [drop_all (by omega)] at hcat
    have hcat : catD (zs.map Prod.fst) (noInf true) (ps.map Prod.fst) = (x, qs.map Prod.fst) := hcat
    rw [hcat] at hK
    unfold ref09_builder_cat_j1
    show bindP (loadA ro h' 3 (e 5)) fun t51 => bindP (storeN 3 h' (e 4) t51) fun h8 => bindP (loadA ro h8 3 (e 4)) fun r9 => _
    rw [e4, e5]
    have hok : (infL x fv lv).all cellOk = true := by have h1 := hfv.z (ro := ro); have h2 := hlv.z (ro := ro); simp [infL, h1.ok, h2.ok]; rfl
    refine bindP_mk (loadA_all go rfl) (bindP_mk (storeA_own (l := infL (noInf false) (.slice none 0 0) (.slice none 0 0)) (vs := infL x fv lv) gr rfl rfl rfl hok) (bindP_mk (loadA_all (by rw [T.get_upd_same]) rfl) ?_))
    refine ⟨_, Sub.refl _, hK _ qs _ _ (by omega) (hbk.new hf (Nat.le_refl _)) ((hf'.mono (by omega)).upd (Nat.le_refl _) (by omega)) (hgp.upd gr) (hp'.updT gr (by decide) (by decide) (by decide)) rfl ⟨fv, lv, rfl, hfv.updT gr (by decide), hlv.updT gr (by decide)⟩⟩
end V
end Go.Proofs.Ytepbdkfkfcckoaa
set_option linter.unusedVariables false
set_option linter.unusedSimpArgs false
namespace Go.Proofs.Ytepbdkfkfcckoaa
namespace V
open PA
attribute [local irreducible] bindP ifP condP newP optP exP beqP
theorem cat_len : ∀ (xs : List InfD) (x : InfD) (P : List PosD), (catD xs x P).2.length = P.length
  | [], x, P => rfl
  | y :: r, x, P => by
    show (catD r (thenI x y) (linkD P x.last y.first)).2.length = _
    rw [cat_len r, link_len []]
theorem kidsI_len {f : Int → List PosD → InfD × List PosD} {g : Int → Nat} : ∀ (ks : List Int) (P : List PosD), (∀ k ∈ ks, ∀ P, (f k P).2.length ≤ P.length + g k) → (kidsI f ks P).2.length ≤ P.length + (ks.map g).sum
  | [], P, h => by simp [kidsI]
  | k :: r, P, h => by
    have h1 := h k (by simp) P
    have h2 := kidsI_len r (f k P).2 (fun k hk => h k (by simp [hk]))
    simp only [kidsI, List.map_cons, List.sum_cons]
    omega
theorem node_len (l : List NodeD) (rule : Int) : ∀ (n : Nat) (a : Int) (P : List PosD), (nodeD l rule n a P).2.length ≤ P.length + visits l n a
  | 0, a, P => by simp [nodeD, visits]
  | n + 1, a, P => by
    have hk := kidsI_len (f := nodeD l rule n) (g := fun k => visits l n k) (ndAt l a).l P (fun k _ P => node_len l rule n k P)
    unfold nodeD visits
    split
    · show P.length ≤ _; omega
    · split
      · simp [putD]
      · split
        · simp [putD]
        · simp only
          split
          · rw [cat_len]; omega
          · split
            · simp only; rw [link_len []]; omega
            · simp only; omega
theorem node_in {l : List NodeD} (hr : right8 l = true) {rule : Int} {n : Nat} {a : Int} (h0 : 0 ≤ a) (h1 : a < n) (h2 : a < l.length) {P : List PosD} (hP : ∀ x ∈ P, rz (-1) P.length x.next = true) :
    P.length ≤ (nodeD l rule n a P).2.length ∧ rz (-1) (nodeD l rule n a P).2.length (nodeD l rule n a P).1.first = true ∧ rz (-1) (nodeD l rule n a P).2.length (nodeD l rule n a P).1.last = true ∧ ∀ x ∈ (nodeD l rule n a P).2, rz (-1) (nodeD l rule n a P).2.length x.next = true := by
  obtain ⟨g, k⟩ := node_ok hr [] rule n a h0 h1 h2 P
  have hle := g.le
  refine ⟨hle, rz_in k.first (by omega) (Int.le_refl _), rz_in k.last (by omega) (Int.le_refl _), fun x hx => ?_⟩
  obtain ⟨j, hj, rfl⟩ := List.mem_iff_getElem.1 hx
  have e : ∀ (Q : List PosD) (hq : j < Q.length), posAt Q (j : Int) = Q[j] := fun Q hq => by
    unfold posAt
    rw [Int.toNat_natCast, List.getD_eq_getElem?_getD, List.getElem?_eq_getElem hq]; rfl
  rw [← e _ hj]
  by_cases hjp : j < P.length
  · rw [g.old (j : Int) (by omega) (by omega), e P hjp]
    exact rz_in (hP _ (List.getElem_mem hjp)) (Int.le_refl _) (by omega)
  · exact rz_in (k.next (j : Int) (by omega) (by omega)) (by omega) (Int.le_refl _)
theorem kids_in {l : List NodeD} (hr : right8 l = true) {rule : Int} {n : Nat} : ∀ (ks : List Int) (P : List PosD), (∀ k ∈ ks, 0 ≤ k ∧ k < n ∧ k < l.length) → (∀ x ∈ P, rz (-1) P.length x.next = true) →
    P.length ≤ (kidsI (nodeD l rule n) ks P).2.length ∧ (∀ y ∈ (kidsI (nodeD l rule n) ks P).1, rz (-1) (kidsI (nodeD l rule n) ks P).2.length y.first = true ∧ rz (-1) (kidsI (nodeD l rule n) ks P).2.length y.last = true) ∧ ∀ x ∈ (kidsI (nodeD l rule n) ks P).2, rz (-1) (kidsI (nodeD l rule n) ks P).2.length x.next = true
  | [], P, _, hP => ⟨Nat.le_refl _, fun y hy => (by cases hy), hP⟩
  | k :: r, P, hk, hP => by
    have hk0 := hk k (by simp)
    obtain ⟨a1, a2, a3, a4⟩ := node_in hr (rule := rule) hk0.1 hk0.2.1 hk0.2.2 hP
    obtain ⟨b1, b2, b3⟩ := kids_in hr (rule := rule) (n := n) r (nodeD l rule n k P).2 (fun k hk2 => hk k (by simp [hk2])) a4
    simp only [kidsI]
    refine ⟨Nat.le_trans a1 b1, fun y hy => ?_, b3⟩
    rcases List.mem_cons.1 hy with rfl | hy
    · exact ⟨rz_in a2 (Int.le_refl _) (by omega), rz_in a3 (Int.le_refl _) (by omega)⟩
    · exact b2 y hy
theorem rz_or {m : Int} {x y : InfD} (h1 : rz (-1) m x.first = true) (h2 : rz (-1) m x.last = true) (h3 : rz (-1) m y.first = true) (h4 : rz (-1) m y.last = true) : rz (-1) m (orI x y).first = true ∧ rz (-1) m (orI x y).last = true := ⟨rz_bothI h1 h3, rz_bothI h2 h4⟩
def NodeK (lo bid nx : Nat) (h : T Obj) (X : InfD) (P : List PosD) (K : KV) : Prop := ∀ r pv' ps' h' nx', nx ≤ nx' → BK lo h h' → Fr h' nx' → Gap nx h h' → PB h' bid pv' lo ps' → ps'.map Prod.fst = P → RInf h' r X lo → K r h' nx'
theorem inf_ok {h : T Obj} {fv lv : Value} {x : InfD} {lo : Nat} (h1 : IT h fv x.first lo) (h2 : IT h lv x.last lo) : (infL x fv lv).all cellOk = true := by
  have g1 := h1.z (ro := fun _ => none)
  have g2 := h2.z (ro := fun _ => none)
  simp [infL, g1.ok, g2.ok]; rfl
theorem it_cells {h : T Obj} {v : Value} {l : List Int} {lo : Nat} (ho : IT h v l lo) : cellOk v = true ∧ v.cells = #[v] := ⟨(ho.z (ro := fun _ => none)).ok, by rcases ho with ⟨rfl, _⟩ | ⟨_, _, rfl, _⟩ <;> rfl⟩
theorem node_ret {ro : Ro} {lo bid nx m : Nat} {h h' : T Obj} {X : InfD} {P : List PosD} {K : KV} {pv fv lv : Value} {x0 : InfD} {f0 l0 : Value} {ps : List (PosD × Value)} (hK : NodeK lo bid nx h X P K) (hf : Fr h nx) (hm : nx < m) (hb : BK lo h h') (hf' : Fr h' m) (hgp : Gap nx h h') (hp : PB h' bid pv lo ps) (hps : ps.map Prod.fst = P)
    (g : h'.get nx = some (.cells (infL x0 f0 l0).toArray y_raddleref09_info)) (h1 : IT h' fv X.first lo) (h2 : IT h' lv X.last lo) (n1 : Nat) (hn1 : m ≤ n1) :
    bindP (storeN 3 h' (ptr nx) (.agg (infL X fv lv).toArray)) fun h8 => bindP (loadA ro h8 3 (ptr nx)) fun r9 => ∃ h10, Sub h10 h8 ∧ K r9 h10 n1 := by
  refine bindP_mk (storeA_own (l := infL x0 f0 l0) (vs := infL X fv lv) g rfl rfl rfl (inf_ok h1 h2)) (bindP_mk (loadA_all (by rw [T.get_upd_same]) rfl) ?_)
  exact ⟨_, Sub.refl _, hK _ pv ps _ _ (by omega) (hb.new hf (Nat.le_refl _)) ((hf'.mono (by omega)).upd (Nat.le_refl _) (by omega)) (hgp.upd g) (hp.updT g (by decide) (by decide) (by decide)) hps ⟨fv, lv, rfl, h1.updT g (by decide), h2.updT g (by decide)⟩⟩
set_option maxRecDepth 4000 in
set_option maxHeartbeats 8000000 in
theorem node_j1 {ro : Ro} {nd : NodeD} {nlv kv pv : Value} {zs : List (InfD × Value × Value)} {ps : List (PosD × Value)} {h h' : T Obj} {bid lo nx n1 : Nat} {K : KV} {e : Env} {X : InfD} {P : List PosD} {x0 : InfD} {f0 l0 : Value} (hK : NodeK lo bid nx h X P K) (hf : Fr h nx) (hlo : lo ≤ nx) (hn1 : nx + 6 ≤ n1) (hb : BK lo h h') (hf' : Fr h' n1) (hgp : Gap nx h h') (hp : PB h' bid pv lo ps) (hN : ps.length ≤ 2000)
    (g : h'.get nx = some (.cells (infL x0 f0 l0).toArray y_raddleref09_info)) (gn : h'.get (nx + 5) = some (.cells (nodL nd nlv).toArray y_api_Node)) (hz : RInfs h' kv zs lo) (hzl : zs.length ≤ 1000000) (hrz : ∀ z ∈ zs, rz (-1) ps.length z.1.first = true ∧ rz (-1) ps.length z.1.last = true) (hnx : ∀ x ∈ ps, rz (-1) ps.length x.1.next = true)
    (e0 : e 0 = ptr bid) (e8 : e 8 = ptr nx) (e9 : e 9 = ptr (nx + 5)) (e10 : e 10 = kv)
    (hXP : (X, P) = if nd.op = 3 then catD (zs.map Prod.fst) (noInf true) (ps.map Prod.fst) else if nd.op = 5 then ((zs.map Prod.fst).foldl orI (noInf (decide (nd.op = 5))), linkD (ps.map Prod.fst) ((zs.map Prod.fst).foldl orI (noInf (decide (nd.op = 5)))).last ((zs.map Prod.fst).foldl orI (noInf (decide (nd.op = 5)))).first) else ((zs.map Prod.fst).foldl orI (noInf (decide (nd.op = 5))), ps.map Prod.fst)) : ref09_builder_node_j1 ro K e h' n1 := by
  unfold ref09_builder_node_j1
  rw [e0, e8, e9, e10]
  obtain ⟨g0, g5, g6, g7, g8⟩ := nodL_get nd nlv
  have l0' := load1_get (ro := ro) (z := 0) gn g0
  (repeat (first | refine bindP_mk (by simp (disch := first | omega | exact Int.natCast_nonneg _ | assumption) only [BB, B2, ↓reduceIte, Nat.reduceLeDiff, Nat.reduceAdd, CC, l0'] <;> rfl) ?_ | refine newP_mk ?_ | refine optP_mk ?_ | with_reducible first | refine condP_t ?_ | refine condP_f ?_ | refine ifP_tt' ?_ | refine ifP_ff' ?_ | refine ifP_tf' ?_ | refine ifP_ft' ?_ | refine ifP_u' ?_ | refine optP_mk0 ?_))
  refine eql_s (fun h3 => ?_) (fun h3 => ?_)
  · rw [if_pos (show nd.op = 3 by omega)] at hXP
    refine condP_t ?_
    refine ref09_cat_c hp (by omega) (hf'.mono (by omega)) hz hzl hN hrz hnx fun r ps' h2 n2 hn2 hb2 hf2 hg2 hp2 hps2 hr2 => ?_
    obtain ⟨fv, lv, rfl, i1, i2⟩ := hr2
    rw [← hXP] at i1 i2 hps2 ⊢
    exact node_ret hK hf (by omega) (hb.trans hb2) hf2 (hgp.trans hg2 (by omega)) hp2 hps2 (hb2.cells g (by decide)) i1 i2 _ (by omega)
  · rw [if_neg (show ¬ nd.op = 3 by omega)] at hXP
    have hb5 : decide ((nd.op : Int) = 5) = decide (nd.op = 5) := by
      by_cases h5 : nd.op = 5
      · rw [decide_eq_true h5, decide_eq_true (by omega)]
      · rw [decide_eq_false h5, decide_eq_false (by omega)]
    (repeat (first | refine bindP_mk (by simp (disch := first | omega | exact Int.natCast_nonneg _ | assumption) only [BB, B2, ↓reduceIte, Nat.reduceLeDiff, Nat.reduceAdd, CC, l0'] <;> rfl) ?_ | refine newP_mk ?_ | refine optP_mk ?_ | with_reducible first | refine condP_t ?_ | refine condP_f ?_ | refine ifP_tt' ?_ | refine ifP_ff' ?_ | refine ifP_tf' ?_ | refine ifP_ft' ?_ | refine ifP_u' ?_ | refine optP_mk0 ?_))
    refine bindP_mk (intB_eql _ _ _) ?_
    rw [hb5]
    generalize hB : decide (nd.op = 5) = B at hXP
    refine bindP_mk (build_inf B) ?_
    refine local_mk (n := 3) (x := infL (noInf B) (.slice none 0 0) (.slice none 0 0)) zer_Inf rfl rfl rfl rfl hf' (by omega) fun h1 hs1 hf1 g1 hg1 => ?_
    generalize hO : n1 + 7 = o at g1 hf1 ⊢
    refine loopP_rule (fun m e h2 nx' => ∃ (i : Nat) (x : InfD) (fv lv : Value), i + m = zs.length ∧ o < nx' ∧ e 0 = ptr bid ∧ e 8 = ptr nx ∧ e 9 = ptr (nx + 5) ∧ e 10 = kv ∧ e 12 = ptr o ∧ e 13 = .int .i64 i ∧ BK lo h' h2 ∧ Fr h2 nx' ∧ Gap nx h h2 ∧ PB h2 bid pv lo ps ∧
        h2.get o = some (.cells (infL x fv lv).toArray y_raddleref09_info) ∧ IT h2 fv x.first lo ∧ IT h2 lv x.last lo ∧ rz (-1) ps.length x.first = true ∧ rz (-1) ps.length x.last = true ∧ (zs.map Prod.fst).foldl orI (noInf B) = ((zs.drop i).map Prod.fst).foldl orI x) ?_ (n := zs.length)
      ⟨0, noInf B, _, _, by omega, by omega, e0, e8, e9, e10, rfl, rfl, hs1.bk, hf1.mono (by omega), (fun k hk hn => by rw [hg1 k (by omega)]; exact hgp k hk hn), hp.sub hs1, g1, OwnT.nil, OwnT.nil, rfl, rfl, rfl⟩
    rintro m e h2 nx' ⟨i, x, fv, lv, him, hnx', e0, e8, e9, e10, e12, e13, hbk, hf2, hgp2, hp2, go, i1, i2, r1, r2, hfo⟩ Q' hq hx
    unfold ref09_builder_node_L1
    rw [e10, e12, e13]
    have hz' := hz.bk hbk
    have hkl : lenSl kv = some (.int .i64 zs.length) := by
      have := (hz'.ow.sl (ro := ro)).len
      rwa [infC_len] at this
    (repeat (first | refine bindP_mk (by simp (disch := first | omega | exact Int.natCast_nonneg _ | assumption) only [BB, B2, ↓reduceIte, Nat.reduceLeDiff, Nat.reduceAdd, CC, hkl] <;> rfl) ?_ | refine newP_mk ?_ | refine optP_mk ?_ | with_reducible first | refine condP_t ?_ | refine condP_f ?_ | refine ifP_tt' ?_ | refine ifP_ff' ?_ | refine ifP_tf' ?_ | refine ifP_ft' ?_ | refine ifP_u' ?_ | refine optP_mk0 ?_))
    refine lss_s (fun hi => ?_) (fun hi => ?_)
    · have hi : i < zs.length := by omega
      have hsl := hz'.ow.sl (ro := ro)
      have hgi : (infC zs)[i]? = some (infL (zs[i]).1 (zs[i]).2.1 (zs[i]).2.2) := by unfold infC; rw [List.getElem?_map, List.getElem?_eq_getElem hi]; rfl
      have y1 := hsl.ix .i64 (i := i) (by rw [infC_len]; exact hi)
      have hzi := hz.els _ (List.getElem_mem hi)
      have hrz2 := hrz _ (List.getElem_mem hi)
      rw [drop_cons hi, List.map_cons, List.foldl_cons] at hfo
      have y2 := hsl.fwd (i := i) (by rw [infC_len]; exact hi)
      have y3 : ∀ h3, BK lo h' h3 → load1 ro h3 (elPtrK 3 kv i 0) = some (.bool (zs[i]).1.null) ∧ load1 ro h3 (elPtrK 3 kv i 1) = some (zs[i]).2.1 ∧ load1 ro h3 (elPtrK 3 kv i 2) = some (zs[i]).2.2 := fun h3 hb3 => by
        have hsl3 := (hz.bk hb3).ow.sl (ro := ro)
        exact ⟨hsl3.load1K hgi rfl, hsl3.load1K hgi rfl, hsl3.load1K hgi rfl⟩
      generalize zs[i] = z at *
      obtain ⟨y, yf, yl⟩ := z
      simp only at hzi hrz2 hfo y3 hgi
      have hyf := hbk.it hzi.1
      have hyl := hbk.it hzi.2
      obtain ⟨hrt1, hrt2⟩ := rz_or r1 r2 hrz2.1 hrz2.2
      have hlf := rz_le_len r1 (by omega)
      have hll := rz_le_len r2 (by omega)
      have hlyf := rz_le_len hrz2.1 (by omega)
      have hlyl := rz_le_len hrz2.2 (by omega)
      have lo0 := load1_get (ro := ro) (z := 0) (off := 0) (v := .bool x.null) go rfl
      have y20 := y2 0
      have y21 := y2 1
      have y22 := y2 2
      obtain ⟨w0, -, -⟩ := y3 h2 hbk
      have hst : ∀ c : Bool, storeN 1 h2 (at_ o 0 0) (.bool c) = some (h2.upd o (some (.cells [Value.bool c, fv, lv].toArray y_raddleref09_info))) := fun c => store1_own (z := 0) (off := 0) (v := .bool c) go (by simp [infL]) rfl rfl
      have hor : (orI x y).null = (x.null || y.null) := rfl
      (repeat (first | refine bindP_mk (by simp (disch := first | omega | exact Int.natCast_nonneg _ | assumption) only [BB, B2, ↓reduceIte, Nat.reduceLeDiff, Nat.reduceAdd, CC, lo0] <;> rfl) ?_ | refine newP_mk ?_ | refine optP_mk ?_ | with_reducible first | refine condP_t ?_ | refine condP_f ?_ | refine ifP_tt' ?_ | refine ifP_ff' ?_ | refine ifP_tf' ?_ | refine ifP_ft' ?_ | refine ifP_u' ?_ | refine optP_mk0 ?_))
      cases hxn : x.null <;> rw [hxn] at hor
      · (repeat (first | refine bindP_mk (by simp (disch := first | omega | exact Int.natCast_nonneg _ | assumption) only [BB, B2, ↓reduceIte, Nat.reduceLeDiff, Nat.reduceAdd, CC, y1, y20, w0] <;> rfl) ?_ | refine newP_mk ?_ | refine optP_mk ?_ | with_reducible first | refine condP_t ?_ | refine condP_f ?_ | refine ifP_tt' ?_ | refine ifP_ff' ?_ | refine ifP_tf' ?_ | refine ifP_ft' ?_ | refine ifP_u' ?_ | refine optP_mk0 ?_))
        rw [Bool.false_or] at hor
        refine bindP_mk (hst _) ?_
        generalize hc3 : h2.upd o _ = h3
        have go3 : h3.get o = some (.cells [Value.bool (orI x y).null, fv, lv].toArray y_raddleref09_info) := by rw [← hc3, hor]; exact T.get_upd_same _ _ _
        have hb3 : BK lo h' h3 := by rw [← hc3]; exact hbk.new hf' (by omega)
        have hf3 : Fr h3 nx' := by rw [← hc3]; exact hf2.upd (Nat.le_refl _) (by omega)
        have hgp3 : Gap nx h h3 := by rw [← hc3]; exact hgp2.upd go
        have hp3 : PB h3 bid pv lo ps := by rw [← hc3]; exact hp2.updT go (by decide) (by decide) (by decide)
        have i13 : IT h3 fv x.first lo := by rw [← hc3]; exact i1.updT go (by decide)
        have i23 : IT h3 lv x.last lo := by rw [← hc3]; exact i2.updT go (by decide)
        clear hc3
        obtain ⟨-, w1, -⟩ := y3 h3 hb3
        have lo1 := load1_get (ro := ro) (z := 0) (off := 1) (v := fv) go3 rfl
        (repeat (first | refine bindP_mk (by simp (disch := first | omega | exact Int.natCast_nonneg _ | assumption) only [BB, B2, ↓reduceIte, Nat.reduceLeDiff, Nat.reduceAdd, CC, lo1, y1, y21, w1] <;> rfl) ?_ | refine newP_mk ?_ | refine optP_mk ?_ | with_reducible first | refine condP_t ?_ | refine condP_f ?_ | refine ifP_tt' ?_ | refine ifP_ff' ?_ | refine ifP_tf' ?_ | refine ifP_ft' ?_ | refine ifP_u' ?_ | refine optP_mk0 ?_))
        refine ref09_both_c (a := x.first) (b := y.first) (by omega) (by omega) (hf3.mono (by omega)) i13.z (hb3.it hzi.1).z fun r h4 n4 hn4 hs4 hf4 hr hg4 => ?_
        have go4 := hs4 _ _ go3
        have hst4 := store1_own (z := 0) (off := 1) (v := r) go4 (by simp) (it_cells hr).1 (it_cells hr).2
        (repeat (first | refine bindP_mk (by simp (disch := first | omega | exact Int.natCast_nonneg _ | assumption) only [BB, B2, ↓reduceIte, Nat.reduceLeDiff, Nat.reduceAdd, CC] <;> rfl) ?_ | refine newP_mk ?_ | refine optP_mk ?_ | with_reducible first | refine condP_t ?_ | refine condP_f ?_ | refine ifP_tt' ?_ | refine ifP_ff' ?_ | refine ifP_tf' ?_ | refine ifP_ft' ?_ | refine ifP_u' ?_ | refine optP_mk0 ?_))
        refine bindP_mk hst4 ?_
        generalize hc5 : h4.upd o _ = h5
        have go5 : h5.get o = some (.cells [Value.bool (orI x y).null, r, lv].toArray y_raddleref09_info) := by rw [← hc5]; exact T.get_upd_same _ _ _
        have hb5 : BK lo h' h5 := by rw [← hc5]; exact (hb3.trans hs4.bk).new hf' (by omega)
        have hf5 : Fr h5 n4 := by rw [← hc5]; exact hf4.upd (Nat.le_refl _) (by omega)
        have hgp5 : Gap nx h h5 := by rw [← hc5]; exact (hgp3.trans hg4 (by omega)).upd go4
        have hp5 : PB h5 bid pv lo ps := by rw [← hc5]; exact (hp3.sub hs4).updT go4 (by decide) (by decide) (by decide)
        have i15 : IT h5 r (orI x y).first lo := by rw [← hc5]; exact (hr.mono (by omega)).updT go4 (by decide)
        have i25 : IT h5 lv x.last lo := by rw [← hc5]; exact (i23.keepS hs4).updT go4 (by decide)
        clear hc5
        obtain ⟨-, -, w2⟩ := y3 h5 hb5
        have lo2 := load1_get (ro := ro) (z := 0) (off := 2) (v := lv) go5 rfl
        (repeat (first | refine bindP_mk (by simp (disch := first | omega | exact Int.natCast_nonneg _ | assumption) only [BB, B2, ↓reduceIte, Nat.reduceLeDiff, Nat.reduceAdd, CC, lo2, y1, y22, w2] <;> rfl) ?_ | refine newP_mk ?_ | refine optP_mk ?_ | with_reducible first | refine condP_t ?_ | refine condP_f ?_ | refine ifP_tt' ?_ | refine ifP_ff' ?_ | refine ifP_tf' ?_ | refine ifP_ft' ?_ | refine ifP_u' ?_ | refine optP_mk0 ?_))
        refine ref09_both_c (a := x.last) (b := y.last) (by omega) (by omega) (hf5.mono (by omega)) i25.z (hb5.it hzi.2).z fun r6 h6 n6 hn6 hs6 hf6 hr6 hg6 => ?_
        have go6 := hs6 _ _ go5
        have hst6 := store1_own (z := 0) (off := 2) (v := r6) go6 (by simp) (it_cells hr6).1 (it_cells hr6).2
        (repeat (first | refine bindP_mk (by simp (disch := first | omega | exact Int.natCast_nonneg _ | assumption) only [BB, B2, ↓reduceIte, Nat.reduceLeDiff, Nat.reduceAdd, CC] <;> rfl) ?_ | refine newP_mk ?_ | refine optP_mk ?_ | with_reducible first | refine condP_t ?_ | refine condP_f ?_ | refine ifP_tt' ?_ | refine ifP_ff' ?_ | refine ifP_tf' ?_ | refine ifP_ft' ?_ | refine ifP_u' ?_ | refine optP_mk0 ?_))
        refine bindP_mk hst6 ?_
        (repeat (first | refine bindP_mk (by simp (disch := first | omega | exact Int.natCast_nonneg _ | assumption) only [BB, B2, ↓reduceIte, Nat.reduceLeDiff, Nat.reduceAdd, CC] <;> rfl) ?_ | refine newP_mk ?_ | refine optP_mk ?_ | with_reducible first | refine condP_t ?_ | refine condP_f ?_ | refine ifP_tt' ?_ | refine ifP_ff' ?_ | refine ifP_tf' ?_ | refine ifP_ft' ?_ | refine ifP_u' ?_ | refine optP_mk0 ?_))
        exact hq (m - 1) _ _ _ _ (by omega) ⟨i + 1, orI x y, r, r6, by omega, by omega, e0, e8, e9, e10, e12, rfl, (hb5.trans hs6.bk).new hf' (by omega), (hf6.mono (by omega)).upd (Nat.le_refl _) (by omega), (hgp5.trans hg6 (by omega)).upd go6, (hp5.sub hs6).updT go6 (by decide) (by decide) (by decide), by rw [T.get_upd_same]; rfl, (i15.keepS hs6).updT go6 (by decide), (hr6.mono (by omega)).updT go6 (by decide), hrt1, hrt2, hfo⟩ (Sub.refl _)
      · (repeat (first | refine bindP_mk (by simp (disch := first | omega | exact Int.natCast_nonneg _ | assumption) only [BB, B2, ↓reduceIte, Nat.reduceLeDiff, Nat.reduceAdd, CC] <;> rfl) ?_ | refine newP_mk ?_ | refine optP_mk ?_ | with_reducible first | refine condP_t ?_ | refine condP_f ?_ | refine ifP_tt' ?_ | refine ifP_ff' ?_ | refine ifP_tf' ?_ | refine ifP_ft' ?_ | refine ifP_u' ?_ | refine optP_mk0 ?_))
        rw [Bool.true_or] at hor
        refine bindP_mk (hst _) ?_
        generalize hc3 : h2.upd o _ = h3
        have go3 : h3.get o = some (.cells [Value.bool (orI x y).null, fv, lv].toArray y_raddleref09_info) := by rw [← hc3, hor]; exact T.get_upd_same _ _ _
        have hb3 : BK lo h' h3 := by rw [← hc3]; exact hbk.new hf' (by omega)
        have hf3 : Fr h3 nx' := by rw [← hc3]; exact hf2.upd (Nat.le_refl _) (by omega)
        have hgp3 : Gap nx h h3 := by rw [← hc3]; exact hgp2.upd go
        have hp3 : PB h3 bid pv lo ps := by rw [← hc3]; exact hp2.updT go (by decide) (by decide) (by decide)
        have i13 : IT h3 fv x.first lo := by rw [← hc3]; exact i1.updT go (by decide)
        have i23 : IT h3 lv x.last lo := by rw [← hc3]; exact i2.updT go (by decide)
        clear hc3
        obtain ⟨-, w1, -⟩ := y3 h3 hb3
        have lo1 := load1_get (ro := ro) (z := 0) (off := 1) (v := fv) go3 rfl
        (repeat (first | refine bindP_mk (by simp (disch := first | omega | exact Int.natCast_nonneg _ | assumption) only [BB, B2, ↓reduceIte, Nat.reduceLeDiff, Nat.reduceAdd, CC, lo1, y1, y21, w1] <;> rfl) ?_ | refine newP_mk ?_ | refine optP_mk ?_ | with_reducible first | refine condP_t ?_ | refine condP_f ?_ | refine ifP_tt' ?_ | refine ifP_ff' ?_ | refine ifP_tf' ?_ | refine ifP_ft' ?_ | refine ifP_u' ?_ | refine optP_mk0 ?_))
        refine ref09_both_c (a := x.first) (b := y.first) (by omega) (by omega) (hf3.mono (by omega)) i13.z (hb3.it hzi.1).z fun r h4 n4 hn4 hs4 hf4 hr hg4 => ?_
        have go4 := hs4 _ _ go3
        have hst4 := store1_own (z := 0) (off := 1) (v := r) go4 (by simp) (it_cells hr).1 (it_cells hr).2
        (repeat (first | refine bindP_mk (by simp (disch := first | omega | exact Int.natCast_nonneg _ | assumption) only [BB, B2, ↓reduceIte, Nat.reduceLeDiff, Nat.reduceAdd, CC] <;> rfl) ?_ | refine newP_mk ?_ | refine optP_mk ?_ | with_reducible first | refine condP_t ?_ | refine condP_f ?_ | refine ifP_tt' ?_ | refine ifP_ff' ?_ | refine ifP_tf' ?_ | refine ifP_ft' ?_ | refine ifP_u' ?_ | refine optP_mk0 ?_))
        refine bindP_mk hst4 ?_
        generalize hc5 : h4.upd o _ = h5
        have go5 : h5.get o = some (.cells [Value.bool (orI x y).null, r, lv].toArray y_raddleref09_info) := by rw [← hc5]; exact T.get_upd_same _ _ _
        have hb5 : BK lo h' h5 := by rw [← hc5]; exact (hb3.trans hs4.bk).new hf' (by omega)
        have hf5 : Fr h5 n4 := by rw [← hc5]; exact hf4.upd (Nat.le_refl _) (by omega)
        have hgp5 : Gap nx h h5 := by rw [← hc5]; exact (hgp3.trans hg4 (by omega)).upd go4
        have hp5 : PB h5 bid pv lo ps := by rw [← hc5]; exact (hp3.sub hs4).updT go4 (by decide) (by decide) (by decide)
        have i15 : IT h5 r (orI x y).first lo := by rw [← hc5]; exact (hr.mono (by omega)).updT go4 (by decide)
        have i25 : IT h5 lv x.last lo := by rw [← hc5]; exact (i23.keepS hs4).updT go4 (by decide)
        clear hc5
        obtain ⟨-, -, w2⟩ := y3 h5 hb5
        have lo2 := load1_get (ro := ro) (z := 0) (off := 2) (v := lv) go5 rfl
        (repeat (first | refine bindP_mk (by simp (disch := first | omega | exact Int.natCast_nonneg _ | assumption) only [BB, B2, ↓reduceIte, Nat.reduceLeDiff, Nat.reduceAdd, CC, lo2, y1, y22, w2] <;> rfl) ?_ | refine newP_mk ?_ | refine optP_mk ?_ | with_reducible first | refine condP_t ?_ | refine condP_f ?_ | refine ifP_tt' ?_ | refine ifP_ff' ?_ | refine ifP_tf' ?_ | refine ifP_ft' ?_ | refine ifP_u' ?_ | refine optP_mk0 ?_))
        refine ref09_both_c (a := x.last) (b := y.last) (by omega) (by omega) (hf5.mono (by omega)) i25.z (hb5.it hzi.2).z fun r6 h6 n6 hn6 hs6 hf6 hr6 hg6 => ?_
        have go6 := hs6 _ _ go5
        have hst6 := store1_own (z := 0) (off := 2) (v := r6) go6 (by simp) (it_cells hr6).1 (it_cells hr6).2
        (repeat (first | refine bindP_mk (by simp (disch := first | omega | exact Int.natCast_nonneg _ | assumption) only [BB, B2, ↓reduceIte, Nat.reduceLeDiff, Nat.reduceAdd, CC] <;> rfl) ?_ | refine newP_mk ?_ | refine optP_mk ?_ | with_reducible first | refine condP_t ?_ | refine condP_f ?_ | refine ifP_tt' ?_ | refine ifP_ff' ?_ | refine ifP_tf' ?_ | refine ifP_ft' ?_ | refine ifP_u' ?_ | refine optP_mk0 ?_))
        refine bindP_mk hst6 ?_
        (repeat (first | refine bindP_mk (by simp (disch := first | omega | exact Int.natCast_nonneg _ | assumption) only [BB, B2, ↓reduceIte, Nat.reduceLeDiff, Nat.reduceAdd, CC] <;> rfl) ?_ | refine newP_mk ?_ | refine optP_mk ?_ | with_reducible first | refine condP_t ?_ | refine condP_f ?_ | refine ifP_tt' ?_ | refine ifP_ff' ?_ | refine ifP_tf' ?_ | refine ifP_ft' ?_ | refine ifP_u' ?_ | refine optP_mk0 ?_))
        exact hq (m - 1) _ _ _ _ (by omega) ⟨i + 1, orI x y, r, r6, by omega, by omega, e0, e8, e9, e10, e12, rfl, (hb5.trans hs6.bk).new hf' (by omega), (hf6.mono (by omega)).upd (Nat.le_refl _) (by omega), (hgp5.trans hg6 (by omega)).upd go6, (hp5.sub hs6).updT go6 (by decide) (by decide) (by decide), by rw [T.get_upd_same]; rfl, (i15.keepS hs6).updT go6 (by decide), (hr6.mono (by omega)).updT go6 (by decide), hrt1, hrt2, hfo⟩ (Sub.refl _)
    · (repeat (first | refine bindP_mk (by simp (disch := first | omega | exact Int.natCast_nonneg _ | assumption) only [BB, B2, ↓reduceIte, Nat.reduceLeDiff, Nat.reduceAdd, CC] <;> rfl) ?_ | refine newP_mk ?_ | refine optP_mk ?_ | with_reducible first | refine condP_t ?_ | refine condP_f ?_ | refine ifP_tt' ?_ | refine ifP_ff' ?_ | refine ifP_tf' ?_ | refine ifP_ft' ?_ | refine ifP_u' ?_ | refine optP_mk0 ?_))
      refine hx _ _ _ _ (fun e => by cases e) (exP_e (beqP_t ?_))
      rw [drop_all (by omega)] at hfo
      have hfo : (zs.map Prod.fst).foldl orI (noInf B) = x := hfo
      rw [hfo] at hXP
      unfold ref09_builder_node_j2
      have l02 := load1_get (ro := ro) (z := 0) (hbk.cells gn (by decide)) g0
      have hgr := hbk.cells g (by decide)
      have hj3 : ∀ (e' : Env) h3 n3 (qs : List (PosD × Value)), n1 ≤ n3 → BK lo h2 h3 → Fr h3 n3 → Gap nx h h3 → PB h3 bid pv lo qs → qs.map Prod.fst = P → X = x → e' 8 = ptr nx → e' 12 = ptr o → ref09_builder_node_j3 ro K e' h3 n3 := fun e' h3 n3 qs hn3 hb3 hf3 hgp3 hp3 hqP hXx q8 q12 => by
        subst hXx
        unfold ref09_builder_node_j3
        rw [q8, q12]
        refine bindP_mk (loadA_all (hb3.cells go (by decide)) rfl) ?_
        exact node_ret hK hf (by omega) (hb.trans (hbk.trans hb3)) hf3 hgp3 hp3 hqP (hb3.cells hgr (by decide)) (hb3.it i1) (hb3.it i2) (n3 + 2) (by omega)
      generalize hE : puts e _ = E
      have E0 : E 0 = ptr bid := by rw [← hE]; exact e0
      have E8 : E 8 = ptr nx := by rw [← hE]; exact e8
      have E9 : E 9 = ptr (nx + 5) := by rw [← hE]; exact e9
      have E12 : E 12 = ptr o := by rw [← hE]; exact e12
      rw [E0, E9, E12]
      (repeat (first | refine bindP_mk (by simp (disch := first | omega | exact Int.natCast_nonneg _ | assumption) only [BB, B2, ↓reduceIte, Nat.reduceLeDiff, Nat.reduceAdd, CC, l02] <;> rfl) ?_ | refine newP_mk ?_ | refine optP_mk ?_ | with_reducible first | refine condP_t ?_ | refine condP_f ?_ | refine ifP_tt' ?_ | refine ifP_ff' ?_ | refine ifP_tf' ?_ | refine ifP_ft' ?_ | refine ifP_u' ?_ | refine optP_mk0 ?_))
      refine eql_s (fun h5 => ?_) (fun h5 => ?_)
      · have h5' : nd.op = 5 := by omega
        rw [if_pos h5'] at hXP
        have lo1 := load1_get (ro := ro) (z := 0) (off := 1) (v := fv) go rfl
        have lo2 := load1_get (ro := ro) (z := 0) (off := 2) (v := lv) go rfl
        (repeat (first | refine bindP_mk (by simp (disch := first | omega | exact Int.natCast_nonneg _ | assumption) only [BB, B2, ↓reduceIte, Nat.reduceLeDiff, Nat.reduceAdd, CC, lo1, lo2] <;> rfl) ?_ | refine newP_mk ?_ | refine optP_mk ?_ | with_reducible first | refine condP_t ?_ | refine condP_f ?_ | refine ifP_tt' ?_ | refine ifP_ff' ?_ | refine ifP_tf' ?_ | refine ifP_ft' ?_ | refine ifP_u' ?_ | refine optP_mk0 ?_))
        refine ref09_link_c (ro := ro) (N := ps.length) hp2 (by omega) (hf2.mono (by omega)) i2 i1 hN r2 (Nat.le_refl _) r1 hnx fun qs h4 n4 hn4 hb4 hf4 hg4 hp4 hqm => ?_
        exact hj3 _ _ _ qs (by omega) hb4 hf4 (hgp2.trans hg4 (by omega)) hp4 (by rw [hqm]; exact (congrArg Prod.snd hXP).symm) (congrArg Prod.fst hXP) E8 E12
      · have h5' : ¬ nd.op = 5 := by omega
        rw [if_neg h5'] at hXP
        (repeat (first | refine bindP_mk (by simp (disch := first | omega | exact Int.natCast_nonneg _ | assumption) only [BB, B2, ↓reduceIte, Nat.reduceLeDiff, Nat.reduceAdd, CC] <;> rfl) ?_ | refine newP_mk ?_ | refine optP_mk ?_ | with_reducible first | refine condP_t ?_ | refine condP_f ?_ | refine ifP_tt' ?_ | refine ifP_ff' ?_ | refine ifP_tf' ?_ | refine ifP_ft' ?_ | refine ifP_u' ?_ | refine optP_mk0 ?_))
        exact hj3 _ _ _ ps (by omega) (BK.refl _ _) (hf2.mono (by omega)) hgp2 hp2 (congrArg Prod.snd hXP).symm (congrArg Prod.fst hXP) E8 E12
theorem OwnT.kpT {h h' : T Obj} {v w : Value} {z z' : Nat} {e e' : TypeId} {l l' : List (List Value)} {lo lo' : Nat} (ho : OwnT h v z e l lo) (hw : OwnT h w z' e' l' lo') (he : e ≠ e') (hk : Kp w h h') : OwnT h' v z e l lo := by
  rcases ho with ho | ⟨id, h1, rfl, h4, h5⟩
  · exact .inl ho
  · exact .inr ⟨id, h1, rfl, h4, hk id _ h5 (hw.ne h5 he)⟩
theorem PB.kpT {h h' : T Obj} {bid lo z : Nat} {pv w : Value} {ps : List (PosD × Value)} {l' : List (List Value)} {lo' : Nat} (hp : PB h bid pv lo ps) (hw : OwnT h w z y_raddleref09_info l' lo') (hk : Kp w h h') : PB h' bid pv lo ps :=
  ⟨hk _ _ hp.blk (hw.ne hp.blk (by decide)), hp.lb, hp.ow.kpT hw (by decide) hk, fun x hx => ⟨(hp.els x hx).1.kpT hw (by decide) hk, (hp.els x hx).2⟩⟩
theorem mlit_inf (aid : Nat) (x : InfD) (fv lv : Value) : sliceLitV Try.prog y_s_raddleref09_info aid 1 [(0, .agg (infL x fv lv).toArray)] = some (.slice (some (own aid 3)) 1 1, some (.cells (infL x fv lv).toArray y_raddleref09_info)) := by kernel_rfl
theorem mund_inf : und Try.prog y_s_raddleref09_info = some (.slice y_raddleref09_info) := by kernel_rfl
theorem mtin_inf : ∃ i, tin Try.prog y_raddleref09_info = some i ∧ i.size = 3 ∧ i.bytes = 56 := mtinOf (by kernel_rfl)
theorem sum_ge {g : Int → Nat} : ∀ (r : List Int), (∀ k ∈ r, 1 ≤ g k) → r.length ≤ (r.map g).sum
  | [], _ => Nat.le_refl _
  | k :: r, h => by
    have h1 := h k (by simp)
    have h2 := sum_ge r fun k hk => h k (by simp [hk])
    simp only [List.length_cons, List.map_cons, List.sum_cons]
    omega
theorem kids_snoc {f : Int → List PosD → InfD × List PosD} (k : Int) (r : List Int) (P : List PosD) : kidsI f (k :: r) P = ((f k P).1 :: (kidsI f r (f k P).2).1, (kidsI f r (f k P).2).2) := rfl
theorem infC_snoc (zs : List (InfD × Value × Value)) (z : InfD × Value × Value) : infC (zs ++ [z]) = infC zs ++ [infL z.1 z.2.1 z.2.2] := by simp [infC]
set_option maxRecDepth 4000 in
set_option maxHeartbeats 8000000 in
theorem ref09_node_c {ro : Ro} {v : Value} {l : List NodeD} {h0 : T Obj} {bid lo : Nat} {rule : Int} (hl : RTree ro h0 v l) (hr8 : right8 l = true) (hf0 : Fr h0 lo) : ∀ (n : Nat) (a : Int) (ps : List (PosD × Value)) (pv : Value) (h : T Obj) (nx : Nat) (K : KV), 0 ≤ a → a < n → a < l.length → Sub h0 h → Fr h nx → lo ≤ nx → PB h bid pv lo ps → ps.length + visits l n a ≤ 2000 → (∀ x ∈ ps, rz (-1) ps.length x.1.next = true) →
    NodeK lo bid nx h (nodeD l rule n a (ps.map Prod.fst)).1 (nodeD l rule n a (ps.map Prod.fst)).2 K → callP Try.prog ro i_ref09_builder_node [ptr bid, v, .int .i64 a, .int .i64 rule] h nx K
  | 0, a, ps, pv, h, nx, K, _, _, _, _, _, _, _, _, _, _ => by omega
  | n + 1, a, ps, pv, h, nx, K, ha0, ha1, ha2, hs, hf, hlo, hp, hvis, hnx, hK => by
    apply ref09_builder_node_of
    unfold ref09_builder_node
    have hr6 : plain6 l = true := by unfold right8 at hr8; simp only [Bool.and_eq_true] at hr8; exact hr8.1
    have hr4 : right4 l = true := by unfold plain6 at hr6; simp only [Bool.and_eq_true] at hr6; exact hr6.2
    have hkids := kids_lt hr4 ha0 ha2
    have hsh := shape_at hr4 (x := a) (by omega)
    have hl4 := right4_len hr4
    have hplk := plain_kids hr6 ha0 ha2
    have hvk : visits l (n + 1) a = ((ndAt l a).l.map fun k => visits l n k).sum + 1 := rfl
    have hE : nodeD l rule (n + 1) a (ps.map Prod.fst) = (if (ndAt l a).op = 1 then (noInf true, ps.map Prod.fst)
      else if (ndAt l a).op = 2 then putD (ps.map Prod.fst) (ndAt l a).s 1 1 rule
      else if (ndAt l a).op = 5 ∧ (ndAt l a).hi ≠ -1 then putD (ps.map Prod.fst) (ndAt l ((ndAt l a).l.headD 0)).s (ndAt l a).lo (ndAt l a).hi rule
      else
        if (ndAt l a).op = 3 then catD (kidsI (nodeD l rule n) (ndAt l a).l (ps.map Prod.fst)).1 (noInf true) (kidsI (nodeD l rule n) (ndAt l a).l (ps.map Prod.fst)).2
        else if (ndAt l a).op = 5 then ((kidsI (nodeD l rule n) (ndAt l a).l (ps.map Prod.fst)).1.foldl orI (noInf (decide ((ndAt l a).op = 5))), linkD (kidsI (nodeD l rule n) (ndAt l a).l (ps.map Prod.fst)).2 ((kidsI (nodeD l rule n) (ndAt l a).l (ps.map Prod.fst)).1.foldl orI (noInf (decide ((ndAt l a).op = 5)))).last ((kidsI (nodeD l rule n) (ndAt l a).l (ps.map Prod.fst)).1.foldl orI (noInf (decide ((ndAt l a).op = 5)))).first)
          else ((kidsI (nodeD l rule n) (ndAt l a).l (ps.map Prod.fst)).1.foldl orI (noInf (decide ((ndAt l a).op = 5))), (kidsI (nodeD l rule n) (ndAt l a).l (ps.map Prod.fst)).2)) := rfl
    generalize hXP : nodeD l rule (n + 1) a (ps.map Prod.fst) = XP at hK hE
    obtain ⟨X, P⟩ := XP
    simp only at hK
    clear hXP
    have hkid2 := fun (h5 : (ndAt l a).op = 5) => nd_at (hl.sub hs) (hplk h5).2.1 (hplk h5).2.2
    obtain ⟨nlv, z10, z2, z3, z4, z5, -, -, -, -, z80⟩ := nd_at hl ha0 ha2
    have z1 := z10.sub hs
    have z8 := loadA_sub hs z80
    have ihk : ∀ k ∈ (ndAt l a).l, ∀ (ps : List (PosD × Value)) (pv : Value) (h : T Obj) (nx : Nat) (K : KV), Sub h0 h → Fr h nx → lo ≤ nx → PB h bid pv lo ps → ps.length + visits l n k ≤ 2000 → (∀ x ∈ ps, rz (-1) ps.length x.1.next = true) →
        NodeK lo bid nx h (nodeD l rule n k (ps.map Prod.fst)).1 (nodeD l rule n k (ps.map Prod.fst)).2 K → callP Try.prog ro i_ref09_builder_node [ptr bid, v, .int .i64 k, .int .i64 rule] h nx K := fun k hk ps pv h nx K =>
      ref09_node_c hl hr8 hf0 n k ps pv h nx K (hkids k hk).1 (by have := (hkids k hk).2; omega) (by have := (hkids k hk).2; omega)
    have hin : ∀ k ∈ (ndAt l a).l, 0 ≤ k ∧ k < n ∧ k < l.length := fun k hk => ⟨(hkids k hk).1, by have := (hkids k hk).2; omega, by have := (hkids k hk).2; omega⟩
    generalize ndAt l a = nd at *
    refine bindP_mk zer_Inf ?_
    refine obj_mk hf (Nat.le_refl _) fun h1 hs1 hf1 g1 hg1 => ?_
    have z8' := loadA_sub hs1 z8
    (repeat (first | refine bindP_mk (by simp (disch := first | omega | exact Int.natCast_nonneg _ | assumption) only [BB, B2, ↓reduceIte, Nat.reduceLeDiff, Nat.reduceAdd, CC, z4, z8'] <;> rfl) ?_ | refine newP_mk ?_ | refine optP_mk ?_ | with_reducible first | refine condP_t ?_ | refine condP_f ?_ | refine ifP_tt' ?_ | refine ifP_ff' ?_ | refine ifP_tf' ?_ | refine ifP_ft' ?_ | refine ifP_u' ?_ | refine optP_mk0 ?_))
    refine local_mk (n := 9) (x := nodL nd nlv) zer_Node rfl rfl rfl (nodL_ok z1.ok) hf1 (by omega) fun h2 hs2 hf2 g2 hg2 => ?_
    obtain ⟨g0, g5, g6, g7, g8⟩ := nodL_get nd nlv
    have l0 := load1_get (ro := ro) (z := 0) g2 g0
    have l5 := load1_get (ro := ro) (z := 0) g2 g5
    have l6 := load1_get (ro := ro) (z := 0) g2 g6
    have l7 := load1_get (ro := ro) (z := 0) g2 g7
    have hset : loadA ro h2 4 (at_ (nx + 5) 1 0) = some (setV nd.s) := by
      rw [loadA_own, g2]
      rfl
    have gr := hs2 _ _ g1
    have hs12 := hs1.trans hs2
    have hp2 := hp.sub hs12
    have hgp2 : Gap nx h h2 := fun k hk hn => by rw [hg2 k (by omega), hg1 k (by omega)]; exact hn
    by_cases o1 : nd.op = 1
    · rw [if_pos o1] at hE
      have hX : X = noInf true := congrArg Prod.fst hE
      have hP : P = ps.map Prod.fst := congrArg Prod.snd hE
      subst hX hP
      (repeat (first | refine bindP_mk (by simp (disch := first | omega | exact Int.natCast_nonneg _ | assumption) only [BB, B2, ↓reduceIte, Nat.reduceLeDiff, Nat.reduceAdd, CC, l0] <;> rfl) ?_ | refine newP_mk ?_ | refine optP_mk ?_ | with_reducible first | refine condP_t ?_ | refine condP_f ?_ | refine ifP_tt' ?_ | refine ifP_ff' ?_ | refine ifP_tf' ?_ | refine ifP_ft' ?_ | refine ifP_u' ?_ | refine optP_mk0 ?_))
      refine bindP_mk (build_inf true) ?_
      exact node_ret (ro := ro) hK hf (by omega) hs12.bk hf2 hgp2 hp2 rfl gr OwnT.nil OwnT.nil _ (by omega)
    · rw [if_neg o1] at hE
      by_cases o2 : nd.op = 2
      · rw [if_pos o2] at hE
        have hX : X = ⟨false, [((ps.map Prod.fst).length : Int)], [((ps.map Prod.fst).length : Int)]⟩ := congrArg Prod.fst hE
        have hP : P = ps.map Prod.fst ++ [⟨nd.s, 1, 1, rule, false, []⟩] := congrArg Prod.snd hE
        (repeat (first | refine bindP_mk (by simp (disch := first | omega | exact Int.natCast_nonneg _ | assumption) only [BB, B2, ↓reduceIte, Nat.reduceLeDiff, Nat.reduceAdd, CC, l0, hset] <;> rfl) ?_ | refine newP_mk ?_ | refine optP_mk ?_ | with_reducible first | refine condP_t ?_ | refine condP_f ?_ | refine ifP_tt' ?_ | refine ifP_ff' ?_ | refine ifP_tf' ?_ | refine ifP_ft' ?_ | refine ifP_u' ?_ | refine optP_mk0 ?_))
        refine bindP_mk (build_P _ _ _ _) ?_
        refine ref09_put_c hp2 (by omega) (hf2.mono (by omega)) z2 (by omega) fun r pv' h3 n3 hn3 hb3 hf3 hg3 hp3 hr3 => ?_
        obtain ⟨fv, lv, rfl, i1, i2⟩ := hr3
        have hlm : ((ps.map Prod.fst).length : Int) = (ps.length : Int) := by rw [List.length_map]
        rw [hlm] at hX
        subst hX
        exact node_ret (ro := ro) hK hf (by omega) (hs12.bk.trans hb3) hf3 (hgp2.trans hg3 (by omega)) hp3 (by rw [hP, List.map_append]; rfl) (hb3.cells gr (by decide)) i1 i2 _ (by omega)
      · rw [if_neg o2] at hE
        by_cases o5 : nd.op = 5 ∧ nd.hi ≠ -1
        · rw [if_pos o5] at hE
          obtain ⟨lv2, q1, q2, q3, q4, q5, q6, q7, _, _, q8⟩ := hkid2 o5.1
          have hne := (hplk o5.1).1
          have hhd := head_get hne
          have y1 := (z1.sub hs12).ix .i64 hne
          have y2 := (z1.sub hs12).load hne
          rw [hhd] at y2
          have hk0 := (hplk o5.1).2.1
          have hk1 := (hplk o5.1).2.2
          have hset2 : loadA ro h2 4 (elPtrK 9 v (nd.l.headD 0).toNat 1) = some (setV (ndAt l (nd.l.headD 0)).s) := by
            obtain ⟨x, ⟨lvx, hx1, hx2⟩, hx3⟩ := SlR.loadAK (hl.sub (hs.trans hs12)) (i := (nd.l.headD 0).toNat) (by omega)
            have e : l[(nd.l.headD 0).toNat]'(by omega) = ndAt l (nd.l.headD 0) := by
              unfold ndAt
              rw [List.getD_eq_getElem?_getD, List.getElem?_eq_getElem (by omega)]; rfl
            rw [e] at hx1
            have := hx3 1 4 (by rw [hx1]; exact Nat.le_of_ble_eq_true rfl)
            rw [this, hx1]; rfl
          have q4' := q4
          have q51 := q5 1
          generalize nd.l.headD 0 = k at *
          have y1' : ixSl 1 nlv (.int .i64 0) = some (elPtr 1 nlv 0) := y1
          have hX : X = ⟨false, [((ps.map Prod.fst).length : Int)], [((ps.map Prod.fst).length : Int)]⟩ := congrArg Prod.fst hE
          have hP : P = ps.map Prod.fst ++ [⟨(ndAt l k).s, nd.lo, nd.hi, rule, false, []⟩] := congrArg Prod.snd hE
          have hh5 : nd.op = 5 := o5.1
          have hhi : nd.hi ≠ -1 := o5.2
          (repeat (first | refine bindP_mk (by simp (disch := first | omega | exact Int.natCast_nonneg _ | assumption) only [BB, B2, ↓reduceIte, Nat.reduceLeDiff, Nat.reduceAdd, CC, l0, l7, l5, y1', y2, q4', q51, hset2, l6] <;> rfl) ?_ | refine newP_mk ?_ | refine optP_mk ?_ | with_reducible first | refine condP_t ?_ | refine condP_f ?_ | refine ifP_tt' ?_ | refine ifP_ff' ?_ | refine ifP_tf' ?_ | refine ifP_ft' ?_ | refine ifP_u' ?_ | refine optP_mk0 ?_))
          refine bindP_mk (build_P _ _ _ _) ?_
          refine ref09_put_c hp2 (by omega) (hf2.mono (by omega)) q2 (by omega) fun r pv' h3 n3 hn3 hb3 hf3 hg3 hp3 hr3 => ?_
          obtain ⟨fv, lv, rfl, i1, i2⟩ := hr3
          have hlm : ((ps.map Prod.fst).length : Int) = (ps.length : Int) := by rw [List.length_map]
          rw [hlm] at hX
          subst hX
          exact node_ret (ro := ro) hK hf (by omega) (hs12.bk.trans hb3) hf3 (hgp2.trans hg3 (by omega)) hp3 (by rw [hP, List.map_append]; rfl) (hb3.cells gr (by decide)) i1 i2 _ (by omega)
        · rw [if_neg o5] at hE
          -- the kids
          have main : ∀ m e, nx + 8 ≤ m → e 0 = ptr bid → e 1 = v → e 3 = .int .i64 rule → e 8 = ptr nx → e 9 = ptr (nx + 5) → e 10 = .slice none 0 0 → e 11 = .int .i64 ((0 : Nat) : Int) →
              loopP (ref09_builder_node_L2 ro) e h2 m fun x170 e167 h168 n169 => exP x170 (ref09_builder_node_j1 ro K e167 h168 n169) (fun i171 => beqP (Nat.beq i171 0) (ref09_builder_node_j1 ro K e167 h168 n169) (False)) (bindP (loadA ro h168 3 (e167 8)) fun r172 => ∃ h173, Sub h173 h168 ∧ K r172 h173 n169) := fun m e hm e0 e1 e3 e8 e9 e10 e11 => by
            obtain ⟨i0, t1, t2, t3⟩ := mtin_inf
            have hbig : (1000001 : Nat) * 56 ≤ big := by decide
            have hz12 := z1.sub hs12
            have hsum : ps.length + (nd.l.map fun k => visits l n k).sum ≤ 1999 := by omega
            have hvpos : ∀ k ∈ nd.l, 1 ≤ visits l n k := fun k hk => by
              have := (hin k hk).2.1
              have := (hin k hk).1
              cases n with
              | zero => omega
              | succ n => show 1 ≤ _ + 1; omega
            have hkl : nd.l.length ≤ (nd.l.map fun k => visits l n k).sum := sum_ge nd.l hvpos
            refine loopP_rule (fun m e h' nx' => ∃ (i : Nat) (zs : List (InfD × Value × Value)) (qs : List (PosD × Value)) (pv2 kv : Value), i + m = nd.l.length ∧ nx + 8 ≤ nx' ∧ e 0 = ptr bid ∧ e 1 = v ∧ e 3 = .int .i64 rule ∧ e 8 = ptr nx ∧ e 9 = ptr (nx + 5) ∧ e 10 = kv ∧ e 11 = .int .i64 i ∧ BK lo h h' ∧ BK lo h2 h' ∧ Fr h' nx' ∧ Gap nx h h' ∧ PB h' bid pv2 lo qs ∧ OwnT h' kv 3 y_raddleref09_info (infC zs) (nx + 6) ∧
                (∀ z ∈ zs, IT h' z.2.1 z.1.first lo ∧ IT h' z.2.2 z.1.last lo) ∧ zs.length = i ∧ kidsI (nodeD l rule n) nd.l (ps.map Prod.fst) = (zs.map Prod.fst ++ (kidsI (nodeD l rule n) (nd.l.drop i) (qs.map Prod.fst)).1, (kidsI (nodeD l rule n) (nd.l.drop i) (qs.map Prod.fst)).2) ∧
                qs.length + ((nd.l.drop i).map fun k => visits l n k).sum ≤ 1999 ∧ ∀ x ∈ qs, rz (-1) qs.length x.1.next = true) ?_ (n := nd.l.length)
              ⟨0, [], ps, pv, _, by omega, hm, e0, e1, e3, e8, e9, e10, e11, hs12.bk, BK.refl _ _, hf2.mono (by omega), hgp2, hp2, OwnT.nil, (fun z hz => by cases hz), rfl, rfl, hsum, hnx⟩
            rintro m e h' nx' ⟨i, zs, qs, pv2, kv, him, hnx', e0, e1, e3, e8, e9, e10, e11, hbk, hbk2, hf', hgp, hp', hko, hels, hzi, hki, hqv, hqn⟩ Q' hq hx
            unfold ref09_builder_node_L2
            rw [e0, e1, e3, e9, e10, e11]
            have l5' := load1_get (ro := ro) (z := 0) (hbk2.cells g2 (by decide)) g5
            have hsl : Sub h0 h' := hbk.low hf0 hs
            have zz : ZI ro h' nlv nd.l := z10.sub hsl
            have zl := zz.len
            unfold lenB at z3
            (repeat (first | refine bindP_mk (by simp (disch := first | omega | exact Int.natCast_nonneg _ | assumption) only [BB, B2, ↓reduceIte, Nat.reduceLeDiff, Nat.reduceAdd, CC, l5', zl] <;> rfl) ?_ | refine newP_mk ?_ | refine optP_mk ?_ | with_reducible first | refine condP_t ?_ | refine condP_f ?_ | refine ifP_tt' ?_ | refine ifP_ff' ?_ | refine ifP_tf' ?_ | refine ifP_ft' ?_ | refine ifP_u' ?_ | refine optP_mk0 ?_))
            refine lss_s (fun hi => ?_) (fun hi => ?_)
            · have hi : i < nd.l.length := by omega
              have y1 := zz.ix .i64 hi
              have y2 := zz.load hi
              rw [drop_cons hi, kids_snoc] at hki
              rw [drop_cons hi, List.map_cons, List.sum_cons] at hqv
              have ihk2 := ihk nd.l[i] (List.getElem_mem _)
              have hin2 := hin nd.l[i] (List.getElem_mem _)
              generalize nd.l[i] = k at *
              have hni := node_in hr8 (rule := rule) hin2.1 hin2.2.1 hin2.2.2 (P := qs.map Prod.fst) (fun x hx => by
                obtain ⟨y, hy, rfl⟩ := List.mem_map.1 hx
                rw [List.length_map]; exact hqn y hy)
              have hnl := node_len l rule n k (qs.map Prod.fst)
              rw [List.length_map] at hnl
              have ihk3 := fun (nx1 : Nat) (K1 : KV) a1 a2 => ihk2 qs pv2 h' nx1 K1 hsl a1 a2 hp' (by omega) hqn
              generalize nodeD l rule n k (qs.map Prod.fst) = xp at *
              obtain ⟨x, P2⟩ := xp
              simp only at hki hni hnl ihk3
              (repeat (first | refine bindP_mk (by simp (disch := first | omega | exact Int.natCast_nonneg _ | assumption) only [BB, B2, ↓reduceIte, Nat.reduceLeDiff, Nat.reduceAdd, CC, l5', y1, y2] <;> rfl) ?_ | refine newP_mk ?_ | refine optP_mk ?_ | with_reducible first | refine condP_t ?_ | refine condP_f ?_ | refine ifP_tt' ?_ | refine ifP_ff' ?_ | refine ifP_tf' ?_ | refine ifP_ft' ?_ | refine ifP_u' ?_ | refine optP_mk0 ?_))
              refine ihk3 _ _ (hf'.mono (by omega)) (by omega) fun r pv3 qs3 h3 n3 hn3 hb3 hf3 hg3 hp3 hqs3 hr3 => ?_
              obtain ⟨fv, lv, rfl, i1, i2⟩ := hr3
              have hko3 := hb3.own hko (by decide)
              refine mapp_lit (z := 3) (lo := nx + 6) (nx := n3) (mlit_inf n3 x fv lv) rfl hko3 mund_inf t1 t2 (by omega) zer_Inf rfl (inf_ok i1 i2) (by rw [t3, infC_len]; omega) (by rw [infC_len]; omega) hf3 (by omega) (by omega) (by omega) fun h4 qq hh1 w1 w2 w3 w4 => ?_
              rw [← infC_snoc zs (x, fv, lv)] at w1 ⊢
              (repeat (first | refine bindP_mk (by simp (disch := first | omega | exact Int.natCast_nonneg _ | assumption) only [BB, B2, ↓reduceIte, Nat.reduceLeDiff, Nat.reduceAdd, CC] <;> rfl) ?_ | refine newP_mk ?_ | refine optP_mk ?_ | with_reducible first | refine condP_t ?_ | refine condP_f ?_ | refine ifP_tt' ?_ | refine ifP_ff' ?_ | refine ifP_tf' ?_ | refine ifP_ft' ?_ | refine ifP_u' ?_ | refine optP_mk0 ?_))
              have hq3l : qs3.length = P2.length := by rw [← hqs3, List.length_map]
              refine hq (m - 1) _ _ _ _ (by omega) ⟨i + 1, zs ++ [(x, fv, lv)], qs3, pv3, _, by omega, by dsimp only; omega, e0, e1, e3, e8, e9, rfl, rfl,
                (fun q o hq hc => w2 q o ((hbk.trans hb3) q o hq hc) (hko3.lt (by have := hf.lt' hq; omega))), (fun q o hq hc => w2 q o ((hbk2.trans hb3) q o hq hc) (hko3.lt (by
                  have := hf2.lt' hq
                  omega))), w3.mono (by dsimp only; omega), (hgp.trans hg3 (by omega)).trans w4 (by omega), hp3.kpT hko3 w2, w1, fun z hz => ?_, by rw [List.length_append, hzi]; rfl, ?_, by rw [hq3l]; omega, fun y hy => ?_⟩ (Sub.refl _)
              · rcases List.mem_append.1 hz with hz | hz
                · exact ⟨(hb3.it (hels z hz).1).kpT hko3 (by decide) w2, (hb3.it (hels z hz).2).kpT hko3 (by decide) w2⟩
                · rw [List.mem_singleton] at hz
                  subst hz
                  exact ⟨i1.kpT hko3 (by decide) w2, i2.kpT hko3 (by decide) w2⟩
              · rw [hki, ← hqs3]; simp
              · rw [hq3l]
                exact hni.2.2.2 y.1 (by rw [← hqs3]; exact List.mem_map.2 ⟨y, hy, rfl⟩)
            · rw [drop_all (by omega)] at hki
              (repeat (first | refine bindP_mk (by simp (disch := first | omega | exact Int.natCast_nonneg _ | assumption) only [BB, B2, ↓reduceIte, Nat.reduceLeDiff, Nat.reduceAdd, CC] <;> rfl) ?_ | refine newP_mk ?_ | refine optP_mk ?_ | with_reducible first | refine condP_t ?_ | refine condP_f ?_ | refine ifP_tt' ?_ | refine ifP_ff' ?_ | refine ifP_tf' ?_ | refine ifP_ft' ?_ | refine ifP_u' ?_ | refine optP_mk0 ?_))
              refine hx _ _ _ _ (fun e => by cases e) (exP_e (beqP_t ?_))
              have hki : kidsI (nodeD l rule n) nd.l (ps.map Prod.fst) = (zs.map Prod.fst, qs.map Prod.fst) := by rw [hki]; simp [kidsI]
              have hki2 := kids_in hr8 (rule := rule) (n := n) nd.l (ps.map Prod.fst) hin (fun x hx => by
                obtain ⟨y, hy, rfl⟩ := List.mem_map.1 hx
                rw [List.length_map]; exact hnx y hy)
              rw [hki] at hE hki2
              simp only [List.length_map] at hki2
              refine node_j1 hK hf hlo (by omega) hbk (hf'.mono (by omega)) hgp hp' (by omega) (hbk2.cells gr (by decide)) (hbk2.cells g2 (by decide)) ⟨hko.mono (by omega), hels⟩ (by omega) (fun z hz => hki2.2.1 z.1 (List.mem_map.2 ⟨z, hz, rfl⟩)) hqn e0 e8 e9 e10 hE
          have hc5 : ¬ (nd.op = 5 ∧ nd.hi ≠ -1) := o5
          by_cases h5 : nd.op = 5
          · have hh : nd.hi = -1 := by
              by_cases e : nd.hi = -1
              · exact e
              · exact absurd ⟨h5, e⟩ o5
            (repeat (first | refine bindP_mk (by simp (disch := first | omega | exact Int.natCast_nonneg _ | assumption) only [BB, B2, ↓reduceIte, Nat.reduceLeDiff, Nat.reduceAdd, CC, l0, l7] <;> rfl) ?_ | refine newP_mk ?_ | refine optP_mk ?_ | with_reducible first | refine condP_t ?_ | refine condP_f ?_ | refine ifP_tt' ?_ | refine ifP_ff' ?_ | refine ifP_tf' ?_ | refine ifP_ft' ?_ | refine ifP_u' ?_ | refine optP_mk0 ?_))
            exact main _ _ (by omega) rfl rfl rfl rfl rfl rfl rfl
          · (repeat (first | refine bindP_mk (by simp (disch := first | omega | exact Int.natCast_nonneg _ | assumption) only [BB, B2, ↓reduceIte, Nat.reduceLeDiff, Nat.reduceAdd, CC, l0] <;> rfl) ?_ | refine newP_mk ?_ | refine optP_mk ?_ | with_reducible first | refine condP_t ?_ | refine condP_f ?_ | refine ifP_tt' ?_ | refine ifP_ff' ?_ | refine ifP_tf' ?_ | refine ifP_ft' ?_ | refine ifP_u' ?_ | refine optP_mk0 ?_))
            exact main _ _ (by omega) rfl rfl rfl rfl rfl rfl rfl
end V
end Go.Proofs.Ytepbdkfkfcckoaa
set_option linter.unusedVariables false
set_option linter.unusedSimpArgs false
namespace Go.Proofs.Ytepbdkfkfcckoaa
namespace V
open PA
attribute [local irreducible] bindP ifP condP newP optP exP beqP
def RTrees (ro : Ro) (h : T Obj) (v : Value) (ts : List (List NodeD)) : Prop := SlR ro h v 1 (fun x t => ∃ w, x = [w] ∧ RTree ro h w t) ts
theorem RTrees.sub {ro : Ro} {h h' : T Obj} {v : Value} {ts : List (List NodeD)} (hs : Sub h h') (hr : RTrees ro h v ts) : RTrees ro h' v ts := SlR.sub hs (fun x t ⟨w, h1, h2⟩ => ⟨w, h1, h2.sub hs⟩) hr
theorem RTrees.at {ro : Ro} {h : T Obj} {v : Value} {ts : List (List NodeD)} (hr : RTrees ro h v ts) {i : Nat} (hi : i < ts.length) : ∃ w, RTree ro h w ts[i] ∧ load1 ro h (elPtr 1 v i) = some w := by
  obtain ⟨w, ⟨w', e, h1⟩, h2⟩ := SlR.at1 hr hi
  cases e
  exact ⟨w, h1, h2⟩
theorem posC_last : ∀ (ps : List (PosD × Value)) (i : Nat) (p : PosD) (nv : Value), ps[i]? = some (p, nv) → (posC ps).flatten.set (i * 9 + 7) (.bool true) = (posC (ps.set i ({ p with last := true }, nv))).flatten
  | [], i, p, nv, h => by simp at h
  | x :: r, 0, p, nv, h => by
    simp at h
    subst h
    rfl
  | x :: r, i + 1, p, nv, h => by
    have ih := posC_last r i p nv (by simpa using h)
    have e : (posL x.1 x.2).length = 9 := rfl
    simp only [posC, List.map_cons, List.flatten_cons, List.set_cons_succ] at ih ⊢
    rw [← ih, List.set_append_right _ _ (by omega)]
    congr 2
    omega
theorem PB.putLast {h : T Obj} {bid lo i : Nat} {pv nv : Value} {p : PosD} {ps : List (PosD × Value)} (hp : PB h bid pv lo ps) (hi : ps[i]? = some (p, nv)) :
    ∃ h', storeN 1 h (elPtrK 9 pv i 7) (.bool true) = some h' ∧ PB h' bid pv lo (ps.set i ({ p with last := true }, nv)) ∧ BK lo h h' ∧ ∀ n, Fr h n → Fr h' n := by
  have hil := (List.getElem?_eq_some_iff.1 hi).1
  rcases hp.ow with ⟨_, h1⟩ | ⟨id, h1, rfl, h2, h3⟩
  · have := congrArg List.length h1
    rw [posC_len, List.length_nil] at this
    omega
  · have hel : elPtrK 9 (.slice (some (V.own id 9)) (posC ps).length (posC ps).length) i 7 = at_ id (0 + (i * 9 + 7)) 0 := rfl
    have hst := store1_own (z := 0) (off := 0 + (i * 9 + 7)) (v := .bool true) h3 (by rw [posC_flat]; omega) rfl rfl
    have hne : bid ≠ id := fun e => by
      have := hp.blk
      rw [e, h3] at this
      have e2 : y_api_Pos = y_raddleref09_builder := congrArg (fun o => match o with | some (Obj.cells _ e _) => e | _ => 0) this
      exact absurd e2 (by decide)
    have hbk : BK lo h (h.upd id (some (.cells ((posC ps).flatten.set (0 + (i * 9 + 7)) (.bool true)).toArray y_api_Pos))) := (BK.refl lo h).upd h3 h1 (by decide)
    refine ⟨_, by rw [hel]; exact hst, ⟨by rw [T.get_upd_ne _ _ hne]; exact hp.blk, hp.lb, .inr ⟨id, h1, ?_, ?_, ?_⟩, fun x hx => ?_⟩, hbk, fun n hf => hf.upd (Nat.le_refl _) (hf.lt' h3)⟩
    · rw [posC_len, posC_len, List.length_set]
    · intro x hx
      unfold posC at hx
      obtain ⟨y, _, rfl⟩ := List.mem_map.1 hx
      rfl
    · show (h.upd id _).get id = _
      rw [T.get_upd_same, Nat.zero_add, posC_last ps i p nv hi]
    · rcases List.mem_or_eq_of_mem_set hx with hx | rfl
      · exact ⟨hbk.it (hp.els x hx).1, (hp.els x hx).2⟩
      · exact ⟨hbk.it (hp.els (p, nv) (List.mem_of_getElem? hi)).1, (hp.els (p, nv) (List.mem_of_getElem? hi)).2⟩
theorem PB.slr {ro : Ro} {h : T Obj} {bid lo : Nat} {pv : Value} {ps : List (PosD × Value)} (hp : PB h bid pv lo ps) : SlR ro h pv 9 (RPos ro h) (ps.map Prod.fst) := by
  refine ⟨posC ps, hp.ow.sl, by rw [posC_len, List.length_map], fun i x d hx hd => ?_⟩
  unfold posC at hx
  rw [List.getElem?_map] at hx hd
  cases hq : ps[i]? with
  | none => rw [hq] at hx; cases hx
  | some y =>
    rw [hq] at hx hd
    cases hx
    cases hd
    have := hp.els y (List.mem_of_getElem? hq)
    exact ⟨y.2, rfl, this.1.z, this.2⟩
theorem last_take (P : List PosD) (l : List Int) (i : Nat) (hi : i < l.length) : setLast P (l.take (i + 1)) = (setLast P (l.take i)).modify (l[i]).toNat fun p => { p with last := true } := by
  unfold setLast
  rw [List.take_succ_eq_append_getElem hi, List.foldl_append]; rfl
theorem last_len : ∀ (l : List Int) (P : List PosD), (setLast P l).length = P.length
  | [], P => rfl
  | x :: r, P => by
    have e : setLast P (x :: r) = setLast (P.modify x.toNat fun p => { p with last := true }) r := rfl
    rw [e, last_len r]; simp
theorem last_next {Q : PosD → Prop} (hQ : ∀ p, Q p → Q { p with last := true }) : ∀ (l : List Int) (P : List PosD), (∀ x ∈ P, Q x) → ∀ x ∈ setLast P l, Q x
  | [], P, h => h
  | y :: r, P, h => by
    have e : setLast P (y :: r) = setLast (P.modify y.toNat fun p => { p with last := true }) r := rfl
    rw [e]
    refine last_next hQ r _ fun x hx => ?_
    obtain ⟨j, hj⟩ := List.getElem?_of_mem hx
    rw [List.getElem?_modify] at hj
    cases hp : P[j]? with
    | none => rw [hp] at hj; simp at hj
    | some p =>
      have hpm := h p (List.mem_of_getElem? hp)
      rw [hp] at hj
      simp only [Option.map_eq_map, Option.map_some, Option.some.injEq] at hj
      rw [← hj]
      split
      · exact hQ p hpm
      · exact hpm
theorem ofL_cons (t : List NodeD) (r : List (List NodeD)) (k : Nat) (F : List Int) (P : List PosD) : ofL (t :: r) k F P = if 512 < (setLast (nodeD t k t.length (t.length - 1) P).2 (nodeD t k t.length (t.length - 1) P).1.last).length then none else ofL r (k + 1) (bothD F (nodeD t k t.length (t.length - 1) P).1.first) (setLast (nodeD t k t.length (t.length - 1) P).2 (nodeD t k t.length (t.length - 1) P).1.last) := rfl
theorem zer_Glu : zer Try.prog y_api_Glush = some (.agg #[.slice none 0 0, .slice none 0 0]) := by kernel_rfl
theorem build_Glu : buildV Try.prog y_api_Glush [] = some (.agg #[.slice none 0 0, .slice none 0 0]) := by kernel_rfl
theorem build_bld : buildV Try.prog y_raddleref09_builder [] = some (.agg #[.slice none 0 0]) := by kernel_rfl
def OfK (ro : Ro) (ts : List (List NodeD)) (h : T Obj) (nx : Nat) (K : KV) : Prop := ∀ r (e : Int) h' nx', nx ≤ nx' → Sub h h' → Fr h' nx' → (match ofL ts 0 [] [] with | some g => e = 0 ∧ RG ro h' r g | none => e = 3 ∧ r = .agg #[.slice none 0 0, .slice none 0 0]) → K (.tuple #[r, .int .i64 e]) h' nx'
set_option maxRecDepth 4000 in
set_option maxHeartbeats 8000000 in
theorem of_L2 {ro : Ro} {lv pv : Value} {ps : List (PosD × Value)} {L : List Int} {h : T Obj} {bid lo xid nx : Nat} {Q : KE} {e : Env} {x0 x1 v0 v2 v6 v7 : Value} (hp : PB h bid pv lo ps) (hf : Fr h nx) (gx : h.get xid = some (.cells #[x0, x1, lv] y_raddleref09_info)) (hL : IT h lv L lo) (hLr : rz (-1) ps.length L = true) (hN : ps.length ≤ 3000)
    (e0 : e 0 = v0) (e2 : e 2 = v2) (e5 : e 5 = ptr bid) (e6 : e 6 = v6) (e7 : e 7 = v7) (e8 : e 8 = ptr xid) (e9 : e 9 = .int .i64 ((0 : Nat) : Int)) {J : Env → T Obj → Nat → Prop} {J3 : Env → T Obj → Nat → Prop}
    (hJ : ∀ e' ps' h' nx', nx ≤ nx' → BK lo h h' → Fr h' nx' → PB h' bid pv lo ps' → ps'.map Prod.fst = setLast (ps.map Prod.fst) L → e' 0 = v0 → e' 2 = v2 → e' 5 = ptr bid → e' 6 = v6 → e' 7 = v7 → J e' h' nx') :
    loopP (ref09_Of_L2 ro) e h nx fun x73 e70 h71 n72 => exP x73 (J e70 h71 n72) (fun i74 => beqP (Nat.beq i74 4) (J e70 h71 n72) (beqP (Nat.beq i74 3) (J3 e70 h71 n72) (Q (.exit i74) e70 h71 n72))) (Q .ret e70 h71 n72) := by
  have hLl := rz_le_len hLr (by omega)
  refine loopP_rule (fun m e2 h' nx' => ∃ (i : Nat) (qs : List (PosD × Value)), i + m = L.length ∧ nx ≤ nx' ∧ e2 5 = ptr bid ∧ e2 8 = ptr xid ∧ e2 9 = .int .i64 i ∧ BK lo h h' ∧ Fr h' nx' ∧ PB h' bid pv lo qs ∧ qs.length = ps.length ∧ qs.map Prod.fst = setLast (ps.map Prod.fst) (L.take i) ∧ e2 0 = v0 ∧ e2 2 = v2 ∧ e2 6 = v6 ∧ e2 7 = v7) ?_ (n := L.length)
    ⟨0, ps, by omega, by omega, e5, e8, e9, BK.refl _ _, hf, hp, rfl, rfl, e0, e2, e6, e7⟩
  rintro m e2 h' nx' ⟨i, qs, him, hnx', e25, e28, e29, hbk, hf', hp', hql, hqm, e20, e22, e26, e27⟩ Q' hq hx
  unfold ref09_Of_L2
  rw [e25, e28, e29]
  have gx' := hbk.cells gx (by decide)
  have lx := load1_get (ro := ro) (z := 0) (l := [x0, x1, lv]) (off := 2) gx' rfl
  have hz := (hbk.it hL).z (ro := ro)
  have hzl := hz.len
  (repeat (first | refine bindP_mk (by simp (disch := first | omega | exact Int.natCast_nonneg _ | assumption) only [BB, B2, ↓reduceIte, Nat.reduceLeDiff, Nat.reduceAdd, CC, lx, hzl] <;> rfl) ?_ | refine newP_mk ?_ | refine optP_mk ?_ | with_reducible first | refine condP_t ?_ | refine condP_f ?_ | refine ifP_tt' ?_ | refine ifP_ff' ?_ | refine ifP_tf' ?_ | refine ifP_ft' ?_ | refine ifP_u' ?_ | refine optP_mk0 ?_))
  refine lss_s (fun hi => ?_) (fun hi => ?_)
  · have hi : i < L.length := by omega
    have y1 := hz.ix .i64 hi
    have y2 := hz.load hi
    have hlt := last_take (ps.map Prod.fst) L i hi
    have hrg := rz_mem hLr _ (List.getElem_mem hi)
    generalize L[i] = q at *
    obtain ⟨j, rfl⟩ : ∃ j : Nat, q = j := ⟨q.toNat, by omega⟩
    rw [Int.toNat_natCast, ← hqm] at hlt
    have hjl : j < qs.length := by omega
    obtain ⟨⟨p, nv⟩, hpj⟩ : ∃ x, qs[j]? = some x := ⟨_, List.getElem?_eq_getElem hjl⟩
    have hpm : (qs.map Prod.fst)[j]? = some p := by rw [List.getElem?_map, hpj]; rfl
    rw [modify_set hpm] at hlt
    obtain ⟨w1, w2, w3⟩ := PB.get (ro := ro) hp' hpj .i64
    have w2' := w2 7
    have lb := load1_get (ro := ro) (z := 0) (l := [pv]) (off := 0) hp'.blk rfl
    have hnil : nilCk (at_ bid 0 0) = some (at_ bid 0 0) := rfl
    obtain ⟨h3, s1, s2, s3, s4⟩ := hp'.putLast hpj
    rw [ptr_at] at *
    (repeat (first | refine bindP_mk (by simp (disch := first | omega | exact Int.natCast_nonneg _ | assumption) only [BB, B2, ↓reduceIte, Nat.reduceLeDiff, Nat.reduceAdd, CC, hnil, lb, lx, y1, y2, w1, w2'] <;> rfl) ?_ | refine newP_mk ?_ | refine optP_mk ?_ | with_reducible first | refine condP_t ?_ | refine condP_f ?_ | refine ifP_tt' ?_ | refine ifP_ff' ?_ | refine ifP_tf' ?_ | refine ifP_ft' ?_ | refine ifP_u' ?_ | refine optP_mk0 ?_))
    refine bindP_mk s1 ?_
    (repeat (first | refine bindP_mk (by simp (disch := first | omega | exact Int.natCast_nonneg _ | assumption) only [BB, B2, ↓reduceIte, Nat.reduceLeDiff, Nat.reduceAdd, CC] <;> rfl) ?_ | refine newP_mk ?_ | refine optP_mk ?_ | with_reducible first | refine condP_t ?_ | refine condP_f ?_ | refine ifP_tt' ?_ | refine ifP_ff' ?_ | refine ifP_tf' ?_ | refine ifP_ft' ?_ | refine ifP_u' ?_ | refine optP_mk0 ?_))
    exact hq (m - 1) _ _ _ _ (by omega) ⟨i + 1, _, by omega, by omega, e25, e28, rfl, hbk.trans s3, s4 _ (hf'.mono (by omega)), s2, by rw [List.length_set]; exact hql, by rw [fst_set, hlt], e20, e22, e26, e27⟩ (Sub.refl _)
  · (repeat (first | refine bindP_mk (by simp (disch := first | omega | exact Int.natCast_nonneg _ | assumption) only [BB, B2, ↓reduceIte, Nat.reduceLeDiff, Nat.reduceAdd, CC] <;> rfl) ?_ | refine newP_mk ?_ | refine optP_mk ?_ | with_reducible first | refine condP_t ?_ | refine condP_f ?_ | refine ifP_tt' ?_ | refine ifP_ff' ?_ | refine ifP_tf' ?_ | refine ifP_ft' ?_ | refine ifP_u' ?_ | refine optP_mk0 ?_))
    refine hx _ _ _ _ (fun e => by cases e) (exP_e (beqP_t ?_))
    rw [List.take_of_length_le (by omega)] at hqm
    exact hJ _ qs h' _ (by omega) hbk (hf'.mono (by omega)) hp' hqm e20 e22 e25 e26 e27
set_option maxRecDepth 4000 in
set_option maxHeartbeats 8000000 in
theorem of_j1 {ro : Ro} {v : Value} {ts : List (List NodeD)} {h h' : T Obj} {nx n1 : Nat} {K : KV} {e : Env} (hts : RTrees ro h v ts) (hr : ∀ t ∈ ts, right8 t = true) (hn : ts.length ≤ 512) (hs : Sub h h') (hf0 : Fr h nx) (hn1 : nx < n1) (hf : Fr h' n1) (gr : h'.get nx = some (.cells #[.slice none 0 0, .slice none 0 0] y_api_Glush)) (hK : OfK ro ts h nx K) (e0 : e 0 = v) (e2 : e 2 = ptr nx) : ref09_Of_j1 ro K e h' n1 := by
  unfold ref09_Of_j1
  refine bindP_mk build_bld ?_
  refine obj_mk hf (by omega) fun h1 hs1 hf1 g1 _ => ?_
  have g1 : h1.get (n1 + 1) = some (.cells #[.slice none 0 0] y_raddleref09_builder) := g1
  refine bindP_mk build_Glu ?_
  refine local_mk (n := 2) (x := [.slice none 0 0, .slice none 0 0]) zer_Glu rfl rfl rfl rfl hf1 (by omega) fun h2 hs2 hf2 g2 _ => ?_
  have hp2 : PB h2 (n1 + 1) (.slice none 0 0) n1 [] := ⟨hs2 _ _ g1, by omega, OwnT.nil, fun x hx => by cases hx⟩
  have gr2 := hs2 _ _ (hs1 _ _ gr)
  refine loopP_rule (fun m e h3 nx' => ∃ (i : Nat) (F : List Int) (ps : List (PosD × Value)) (pv fv : Value), i + m = ts.length ∧ n1 + 7 ≤ nx' ∧ e 0 = v ∧ e 2 = ptr nx ∧ e 5 = ptr (n1 + 1) ∧ e 6 = ptr (n1 + 4) ∧ e 7 = .int .i64 i ∧ BK n1 h' h3 ∧ Fr h3 nx' ∧ PB h3 (n1 + 1) pv n1 ps ∧ h3.get (n1 + 4) = some (.cells #[fv, .slice none 0 0] y_api_Glush) ∧ IT h3 fv F n1 ∧
      ps.length ≤ 512 ∧ rz (-1) ps.length F = true ∧ (∀ x ∈ ps, rz (-1) ps.length x.1.next = true) ∧ ofL ts 0 [] [] = ofL (ts.drop i) i F (ps.map Prod.fst)) ?_ (n := ts.length)
    ⟨0, [], [], _, _, by omega, by omega, e0, e2, rfl, rfl, rfl, (hs1.trans hs2).bk, hf2.mono (by omega), hp2, g2, OwnT.nil, by simp, rfl, (fun x hx => by cases hx), rfl⟩
  rintro m e h3 nx' ⟨i, F, ps, pv, fv, him, hnx', e0, e2, e5, e6, e7, hbk, hf3, hp, gg, hF, hpl, hFr, hnxr, hof⟩ Q' hq hx
  unfold ref09_Of_L1
  rw [e0, e5, e6, e7]
  have hs0 : Sub h h3 := (hbk.low (hf0.mono (Nat.le_of_lt hn1)) hs)
  have hs' : Sub h' h3 := hbk.low hf (Sub.refl _)
  have hvl := SlR.len hts
  (repeat (first | refine bindP_mk (by simp (disch := first | omega | exact Int.natCast_nonneg _ | assumption) only [BB, B2, ↓reduceIte, Nat.reduceLeDiff, Nat.reduceAdd, CC, hvl] <;> rfl) ?_ | refine newP_mk ?_ | refine optP_mk ?_ | with_reducible first | refine condP_t ?_ | refine condP_f ?_ | refine ifP_tt' ?_ | refine ifP_ff' ?_ | refine ifP_tf' ?_ | refine ifP_ft' ?_ | refine ifP_u' ?_ | refine optP_mk0 ?_))
  refine lss_s (fun hi => ?_) (fun hi => ?_)
  · have hi : i < ts.length := by omega
    obtain ⟨w, ht, hw⟩ := (hts.sub hs0).at hi
    have hix := SlR.ix hts .i64 hi
    have ht8 := hr ts[i] (List.getElem_mem hi)
    rw [drop_cons hi, ofL_cons] at hof
    obtain ⟨w0, ht0, hw0⟩ := hts.at hi
    have hww : w0 = w := by
      have := load1_sub hs0 hw0
      rw [this] at hw; exact Option.some.inj hw
    subst hww
    generalize ts[i] = t at *
    have ht4 : right4 t = true := by unfold right8 plain6 at ht8; simp only [Bool.and_eq_true] at ht8; exact ht8.1.2
    have htl := right4_len ht4
    have htlen := SlR.len ht
    have hvs := visits_all ht4
    have hni := node_in ht8 (rule := (i : Int)) (n := t.length) (a := t.length - 1) (by omega) (by omega) (by omega) (P := ps.map Prod.fst) (fun x hx => by
      obtain ⟨y, hy, rfl⟩ := List.mem_map.1 hx
      rw [List.length_map]; exact hnxr y hy)
    have hnl := node_len t (i : Int) t.length (t.length - 1) (ps.map Prod.fst)
    rw [List.length_map, hvs] at hnl
    have hnode := fun (K1 : KV) (n5 : Nat) a b => ref09_node_c (ro := ro) (bid := n1 + 1) (rule := (i : Int)) ht0 ht8 (hf0.mono (Nat.le_of_lt hn1)) t.length (t.length - 1) ps pv h3 n5 K1 (by omega) (by omega) (by omega) hs0 a b hp (by rw [hvs]; omega) hnxr
    generalize nodeD t (i : Int) t.length (t.length - 1) (ps.map Prod.fst) = xp at *
    obtain ⟨x, P2⟩ := xp
    simp only at hni hnl hnode hof
    (repeat (first | refine bindP_mk (by simp (disch := first | omega | exact Int.natCast_nonneg _ | assumption) only [BB, B2, ↓reduceIte, Nat.reduceLeDiff, Nat.reduceAdd, CC, hix, hw, htlen] <;> rfl) ?_ | refine newP_mk ?_ | refine optP_mk ?_ | with_reducible first | refine condP_t ?_ | refine condP_f ?_ | refine ifP_tt' ?_ | refine ifP_ff' ?_ | refine ifP_tf' ?_ | refine ifP_ft' ?_ | refine ifP_u' ?_ | refine optP_mk0 ?_))
    refine hnode _ _ (hf3.mono (by omega)) (by omega) fun r pv4 ps4 h4 n4 hn4 hb4 hf4 hg4 hp4 hps4 hr4 => ?_
    obtain ⟨xf, xl, rfl, i1, i2⟩ := hr4
    have gg4 := hb4.cells gg (by decide)
    generalize hA : nx' + 17 = a at *
    have hna : h4.get a = none := hg4 a (by omega) (hf3 a (by omega))
    refine bindP_mk zer_Inf (newP_mk (bindP_mk (storeA_own (l := infL (noInf false) (.slice none 0 0) (.slice none 0 0)) (vs := infL x xf xl) (by rw [T.get_upd_same]; rfl) rfl rfl rfl (inf_ok i1 i2)) ?_))
    generalize hh5 : (h4.upd a _).upd a _ = h5
    have hs5 : Sub h4 h5 := by
      rw [← hh5]
      intro k o hk
      have hka : k ≠ a := fun e => by rw [e, hna] at hk; cases hk
      rw [T.get_upd_ne _ _ hka, T.get_upd_ne _ _ hka]; exact hk
    have g5 : h5.get a = some (.cells (infL x xf xl).toArray y_raddleref09_info) := by rw [← hh5]; exact T.get_upd_same _ _ _
    have hf5 : Fr h5 n4 := by rw [← hh5]; exact (hf4.upd (Nat.le_refl _) (by omega)).upd (Nat.le_refl _) (by omega)
    clear hh5
    have gg5 := hs5 _ _ gg4
    have lg0 := load1_get (ro := ro) (z := 0) (l := [fv, .slice none 0 0]) (off := 0) gg5 rfl
    have lx1 := load1_get (ro := ro) (z := 0) (off := 1) (v := xf) g5 rfl
    have hP2l : ps4.length = P2.length := by rw [← hps4, List.length_map]
    have hlF := rz_le_len hFr (by omega)
    have hlx := rz_le_len hni.2.1 (by omega)
    (repeat (first | refine bindP_mk (by simp (disch := first | omega | exact Int.natCast_nonneg _ | assumption) only [BB, B2, ↓reduceIte, Nat.reduceLeDiff, Nat.reduceAdd, CC, lg0, lx1] <;> rfl) ?_ | refine newP_mk ?_ | refine optP_mk ?_ | with_reducible first | refine condP_t ?_ | refine condP_f ?_ | refine ifP_tt' ?_ | refine ifP_ff' ?_ | refine ifP_tf' ?_ | refine ifP_ft' ?_ | refine ifP_u' ?_ | refine optP_mk0 ?_))
    refine ref09_both_c (a := F) (b := x.first) (by omega) (by omega) (hf5.mono (by omega)) (IT.z ((hb4.it hF).keepS hs5)) (IT.z (i1.keepS hs5)) fun r6 h6 n6 hn6 hs6 hf6 hr6 _ => ?_
    have gg6 := hs6 _ _ gg5
    have hst := store1_own (z := 0) (off := 0) (l := [fv, .slice none 0 0]) (v := r6) gg6 (by simp) (it_cells hr6).1 (it_cells hr6).2
    (repeat (first | refine bindP_mk (by simp (disch := first | omega | exact Int.natCast_nonneg _ | assumption) only [BB, B2, ↓reduceIte, Nat.reduceLeDiff, Nat.reduceAdd, CC] <;> rfl) ?_ | refine newP_mk ?_ | refine optP_mk ?_ | with_reducible first | refine condP_t ?_ | refine condP_f ?_ | refine ifP_tt' ?_ | refine ifP_ff' ?_ | refine ifP_tf' ?_ | refine ifP_ft' ?_ | refine ifP_u' ?_ | refine optP_mk0 ?_))
    refine bindP_mk hst ?_
    generalize hh7 : h6.upd (n1 + 4) _ = h7
    have gg7 : h7.get (n1 + 4) = some (.cells #[r6, .slice none 0 0] y_api_Glush) := by rw [← hh7]; exact T.get_upd_same _ _ _
    have hbk7 : BK n1 h' h7 := by rw [← hh7]; exact (((hbk.trans hb4).trans hs5.bk).trans hs6.bk).new hf (by omega)
    have hf7 : Fr h7 n6 := by rw [← hh7]; exact hf6.upd (Nat.le_refl _) (by omega)
    have hp7 : PB h7 (n1 + 1) pv4 n1 ps4 := by rw [← hh7]; exact ((hp4.sub hs5).sub hs6).updT gg6 (by decide) (by decide) (by decide)
    have i17 : IT h7 r6 (bothD F x.first) n1 := by rw [← hh7]; exact (hr6.mono (by omega)).updT gg6 (by decide)
    have i27 : IT h7 xl x.last n1 := by rw [← hh7]; exact ((i2.keepS hs5).keepS hs6).updT gg6 (by decide)
    have g7 : h7.get a = some (.cells (infL x xf xl).toArray y_raddleref09_info) := by
      rw [← hh7, T.get_upd_ne _ _ (by omega)]; exact hs6 _ _ g5
    clear hh7
    generalize hE : puts e _ = E
    have E0 : E 0 = v := by rw [← hE]; exact e0
    have E2 : E 2 = ptr nx := by rw [← hE]; exact e2
    have E5 : E 5 = ptr (n1 + 1) := by rw [← hE]; exact e5
    have E6 : E 6 = ptr (n1 + 4) := by rw [← hE]; exact e6
    have E7 : E 7 = .int .i64 i := by rw [← hE]; exact e7
    have E8 : E 8 = ptr a := by rw [← hE]; rfl
    have E9 : E 9 = .int .i64 ((0 : Nat) : Int) := by rw [← hE]; rfl
    clear hE
    refine of_L2 (x0 := .bool x.null) (x1 := xf) (lv := xl) (L := x.last) (bid := n1 + 1) (lo := n1) (xid := a) (ps := ps4) (v0 := v) (v2 := ptr nx) (v6 := ptr (n1 + 4)) (v7 := .int .i64 i) (J := ref09_Of_j4 ro Q') (nx := n6 + 3) hp7 (hf7.mono (by omega)) g7 i27 (by rw [hP2l]; exact hni.2.2.1) (by omega) E0 E2 E5 E6 E7 E8 E9 fun e' ps8 h8 n8 hn8 hb8 hf8 hp8 hps8 q0 q2 q5 q6 q7 => ?_
    have hnil : nilCk (at_ (n1 + 1) 0 0) = some (at_ (n1 + 1) 0 0) := rfl
    have lb8 := load1_get (ro := ro) (z := 0) (l := [pv4]) (off := 0) hp8.blk rfl
    rw [hps4] at hps8
    have hP8l : ps8.length = P2.length := by
      have := congrArg List.length hps8
      rw [List.length_map, last_len] at this
      exact this
    have hpvl : lenSl pv4 = some (.int .i64 ps8.length) := by
      have := (hp8.ow.sl (ro := ro)).len
      rwa [posC_len] at this
    rw [last_len] at hof
    unfold ref09_Of_j4
    rw [q2, q5, ptr_at]
    (repeat (first | refine bindP_mk (by simp (disch := first | omega | exact Int.natCast_nonneg _ | assumption) only [BB, B2, ↓reduceIte, Nat.reduceLeDiff, Nat.reduceAdd, CC, hnil, lb8, hpvl] <;> rfl) ?_ | refine newP_mk ?_ | refine optP_mk ?_ | with_reducible first | refine condP_t ?_ | refine condP_f ?_ | refine ifP_tt' ?_ | refine ifP_ff' ?_ | refine ifP_tf' ?_ | refine ifP_ft' ?_ | refine ifP_u' ?_ | refine optP_mk0 ?_))
    refine gtr_s (fun hbig => ?_) (fun hbig => ?_)
    · rw [if_pos (by omega)] at hof
      have gr8 := (hbk7.trans hb8).cells (hs2 _ _ (hs1 _ _ gr) |> fun _ => gr) (by decide)
      (repeat (first | refine bindP_mk (by simp (disch := first | omega | exact Int.natCast_nonneg _ | assumption) only [BB, B2, ↓reduceIte, Nat.reduceLeDiff, Nat.reduceAdd, CC] <;> rfl) ?_ | refine newP_mk ?_ | refine optP_mk ?_ | with_reducible first | refine condP_t ?_ | refine condP_f ?_ | refine ifP_tt' ?_ | refine ifP_ff' ?_ | refine ifP_tf' ?_ | refine ifP_ft' ?_ | refine ifP_u' ?_ | refine optP_mk0 ?_))
      refine bindP_mk build_Glu ?_
      refine bindP_mk (storeA_own (l := [.slice none 0 0, .slice none 0 0]) (vs := [.slice none 0 0, .slice none 0 0]) gr8 rfl rfl rfl rfl) ?_
      refine hx _ _ _ _ (fun e => by cases e) (exP_r ?_)
      show bindP (loadA ro _ 2 (e' 2)) _
      rw [q2]
      refine bindP_mk (loadA_all (l := [.slice none 0 0, .slice none 0 0]) (by rw [T.get_upd_same]) rfl) ?_
      refine ⟨_, Sub.refl _, hK _ 3 _ _ (by omega) ?_ ((hf8.mono (by omega)).upd (Nat.le_refl _) (by omega)) ?_⟩
      · exact ((hbk7.trans hb8).low (hf0.mono (Nat.le_of_lt hn1)) hs).new hf0 (Nat.le_refl _)
      · rw [hof]; exact ⟨rfl, rfl⟩
    · rw [if_neg (by omega), ← hps8] at hof
      (repeat (first | refine bindP_mk (by simp (disch := first | omega | exact Int.natCast_nonneg _ | assumption) only [BB, B2, ↓reduceIte, Nat.reduceLeDiff, Nat.reduceAdd, CC] <;> rfl) ?_ | refine newP_mk ?_ | refine optP_mk ?_ | with_reducible first | refine condP_t ?_ | refine condP_f ?_ | refine ifP_tt' ?_ | refine ifP_ff' ?_ | refine ifP_tf' ?_ | refine ifP_ft' ?_ | refine ifP_u' ?_ | refine optP_mk0 ?_))
      unfold ref09_Of_j3
      have q7' : ∀ z, (puts e' z) 7 = (puts e' z) 7 := fun _ => rfl
      show bindP (intB .add (e' 7) _) _
      rw [q7]
      (repeat (first | refine bindP_mk (by simp (disch := first | omega | exact Int.natCast_nonneg _ | assumption) only [BB, B2, ↓reduceIte, Nat.reduceLeDiff, Nat.reduceAdd, CC] <;> rfl) ?_ | refine newP_mk ?_ | refine optP_mk ?_ | with_reducible first | refine condP_t ?_ | refine condP_f ?_ | refine ifP_tt' ?_ | refine ifP_ff' ?_ | refine ifP_tf' ?_ | refine ifP_ft' ?_ | refine ifP_u' ?_ | refine optP_mk0 ?_))
      refine hq (m - 1) _ _ _ _ (by omega) ⟨i + 1, bothD F x.first, ps8, pv4, r6, by omega, by omega, q0, q2, q5, q6, rfl, hbk7.trans hb8, hf8.mono (by omega), hp8, hb8.cells gg7 (by decide), hb8.it i17, by omega, ?_, fun y hy => ?_, hof⟩ (Sub.refl _)
      · rw [hP8l]
        exact rz_bothI (rz_in hFr (Int.le_refl _) (by have := hni.1; rw [List.length_map] at this; omega)) hni.2.1
      · have hq2 := last_next (Q := fun p => rz (-1) P2.length p.next = true) (fun p h => h) x.last P2 hni.2.2.2 y.1 (by rw [← hps8]; exact List.mem_map.2 ⟨y, hy, rfl⟩)
        rw [hP8l]; exact hq2
  · (repeat (first | refine bindP_mk (by simp (disch := first | omega | exact Int.natCast_nonneg _ | assumption) only [BB, B2, ↓reduceIte, Nat.reduceLeDiff, Nat.reduceAdd, CC] <;> rfl) ?_ | refine newP_mk ?_ | refine optP_mk ?_ | with_reducible first | refine condP_t ?_ | refine condP_f ?_ | refine ifP_tt' ?_ | refine ifP_ff' ?_ | refine ifP_tf' ?_ | refine ifP_ft' ?_ | refine ifP_u' ?_ | refine optP_mk0 ?_))
    refine hx _ _ _ _ (fun e => by cases e) (exP_e (beqP_t ?_))
    rw [drop_all (by omega)] at hof
    have hof : ofL ts 0 [] [] = some ⟨F, ps.map Prod.fst⟩ := hof
    unfold ref09_Of_j2
    generalize hE : puts e _ = E
    have E2 : E 2 = ptr nx := by rw [← hE]; exact e2
    have E5 : E 5 = ptr (n1 + 1) := by rw [← hE]; exact e5
    have E6 : E 6 = ptr (n1 + 4) := by rw [← hE]; exact e6
    rw [E2, E5, E6, ptr_at, ptr_at]
    have hnil : nilCk (at_ (n1 + 1) 0 0) = some (at_ (n1 + 1) 0 0) := rfl
    have lb := load1_get (ro := ro) (z := 0) (l := [pv]) (off := 0) hp.blk rfl
    have hpok : cellOk pv = true := (hp.ow.sl (ro := ro)).ok
    have hst := store1_own (z := 0) (off := 1) (l := [fv, .slice none 0 0]) (v := pv) gg (by simp) hpok (by rcases hp.ow with ⟨e, _⟩ | ⟨_, _, e, _⟩ <;> rw [e] <;> rfl)
    (repeat (first | refine bindP_mk (by simp (disch := first | omega | exact Int.natCast_nonneg _ | assumption) only [BB, B2, ↓reduceIte, Nat.reduceLeDiff, Nat.reduceAdd, CC, hnil, lb] <;> rfl) ?_ | refine newP_mk ?_ | refine optP_mk ?_ | with_reducible first | refine condP_t ?_ | refine condP_f ?_ | refine ifP_tt' ?_ | refine ifP_ff' ?_ | refine ifP_tf' ?_ | refine ifP_ft' ?_ | refine ifP_u' ?_ | refine optP_mk0 ?_))
    refine bindP_mk hst ?_
    generalize hh4 : h3.upd (n1 + 4) _ = h4
    have gg4 : h4.get (n1 + 4) = some (.cells [fv, pv].toArray y_api_Glush) := by rw [← hh4]; exact T.get_upd_same _ _ _
    have gr4 : h4.get nx = some (.cells [Value.slice none 0 0, .slice none 0 0].toArray y_api_Glush) := by rw [← hh4, T.get_upd_ne _ _ (by omega)]; exact hbk.cells gr (by decide)
    have hp4 : PB h4 (n1 + 1) pv n1 ps := by rw [← hh4]; exact hp.updT gg (by decide) (by decide) (by decide)
    have hF4 : IT h4 fv F n1 := by rw [← hh4]; exact hF.updT gg (by decide)
    have hs4 : Sub h h4 := by rw [← hh4]; exact hs0.new hf0 (by omega)
    have hf4 : Fr h4 nx' := by rw [← hh4]; exact hf3.upd (Nat.le_refl _) (by omega)
    clear hh4
    refine bindP_mk (loadA_all gg4 rfl) ?_
    refine bindP_mk (storeA_own (l := [.slice none 0 0, .slice none 0 0]) (vs := [fv, pv]) gr4 rfl rfl rfl (by simp [hpok, (it_cells hF4).1])) ?_
    refine bindP_mk (loadA_all (l := [fv, pv]) (by rw [T.get_upd_same]) rfl) ?_
    refine ⟨_, Sub.refl _, hK _ 0 _ _ (by omega) (hs4.new hf0 (Nat.le_refl _)) ((hf4.mono (by omega)).upd (Nat.le_refl _) (by omega)) ?_⟩
    rw [hof]
    have hp5 := hp4.updT gr4 (o := some (.cells [fv, pv].toArray y_api_Glush)) (by decide) (by decide) (by decide)
    exact ⟨rfl, fv, pv, rfl, IT.z (hF4.updT gr4 (by decide)), hp5.slr⟩
set_option maxRecDepth 4000 in
set_option maxHeartbeats 8000000 in
theorem ref09_Of_c {ro : Ro} {v : Value} {ts : List (List NodeD)} {h : T Obj} {nx : Nat} {K : KV} (hf : Fr h nx) (hts : RTrees ro h v ts) (hr : ∀ t ∈ ts, right8 t = true) (hn : ts.length ≤ 512) (hK : OfK ro ts h nx K) : callP Try.prog ro i_ref09_Of [v] h nx K := by
  apply ref09_Of_of
  unfold ref09_Of
  refine bindP_mk zer_Glu ?_
  refine obj_mk hf (Nat.le_refl _) fun h1 hs1 hf1 g1 _ => ?_
  have g1 : h1.get nx = some (.cells #[.slice none 0 0, .slice none 0 0] y_api_Glush) := g1
  have hvl := SlR.len hts
  (repeat (first | refine bindP_mk (by simp (disch := first | omega | exact Int.natCast_nonneg _ | assumption) only [BB, B2, ↓reduceIte, Nat.reduceLeDiff, Nat.reduceAdd, CC, hvl] <;> rfl) ?_ | refine newP_mk ?_ | refine optP_mk ?_ | with_reducible first | refine condP_t ?_ | refine condP_f ?_ | refine ifP_tt' ?_ | refine ifP_ff' ?_ | refine ifP_tf' ?_ | refine ifP_ft' ?_ | refine ifP_u' ?_ | refine optP_mk0 ?_))
  refine loopP_rule (fun m e h' nx' => ∃ i : Nat, i + m = ts.length ∧ nx + 6 ≤ nx' ∧ e 0 = v ∧ e 2 = ptr nx ∧ e 4 = .int .i64 i ∧ h' = h1) ?_ (n := ts.length) ⟨0, by omega, by omega, rfl, rfl, rfl, rfl⟩
  rintro m e h' nx' ⟨i, him, hnx, e0, e2, e4, rfl⟩ Q' hq hx
  unfold ref09_Of_L3
  rw [e0, e2, e4]
  (repeat (first | refine bindP_mk (by simp (disch := first | omega | exact Int.natCast_nonneg _ | assumption) only [BB, B2, ↓reduceIte, Nat.reduceLeDiff, Nat.reduceAdd, CC, hvl] <;> rfl) ?_ | refine newP_mk ?_ | refine optP_mk ?_ | with_reducible first | refine condP_t ?_ | refine condP_f ?_ | refine ifP_tt' ?_ | refine ifP_ff' ?_ | refine ifP_tf' ?_ | refine ifP_ft' ?_ | refine ifP_u' ?_ | refine optP_mk0 ?_))
  refine lss_s (fun hi => ?_) (fun hi => ?_)
  · have hi : i < ts.length := by omega
    obtain ⟨w, ht, hw⟩ := (hts.sub hs1).at hi
    have hix := SlR.ix hts .i64 hi
    have ht8 := hr ts[i] (List.getElem_mem hi)
    generalize ts[i] = t at *
    have ht4 : right4 t = true := by unfold right8 plain6 at ht8; simp only [Bool.and_eq_true] at ht8; exact ht8.1.2
    have htl := right4_len ht4
    (repeat (first | refine bindP_mk (by simp (disch := first | omega | exact Int.natCast_nonneg _ | assumption) only [BB, B2, ↓reduceIte, Nat.reduceLeDiff, Nat.reduceAdd, CC, hix, hw] <;> rfl) ?_ | refine newP_mk ?_ | refine optP_mk ?_ | with_reducible first | refine condP_t ?_ | refine condP_f ?_ | refine ifP_tt' ?_ | refine ifP_ff' ?_ | refine ifP_tf' ?_ | refine ifP_ft' ?_ | refine ifP_u' ?_ | refine optP_mk0 ?_))
    refine ref08_Right_c (by omega) ht (hf1.mono (by omega)) fun n2 hn2 => ?_
    rw [ht8]
    (repeat (first | refine bindP_mk (by simp (disch := first | omega | exact Int.natCast_nonneg _ | assumption) only [BB, B2, ↓reduceIte, Nat.reduceLeDiff, Nat.reduceAdd, CC] <;> rfl) ?_ | refine newP_mk ?_ | refine optP_mk ?_ | with_reducible first | refine condP_t ?_ | refine condP_f ?_ | refine ifP_tt' ?_ | refine ifP_ff' ?_ | refine ifP_tf' ?_ | refine ifP_ft' ?_ | refine ifP_u' ?_ | refine optP_mk0 ?_))
    exact hq (m - 1) _ _ _ _ (by omega) ⟨i + 1, by omega, by omega, e0, e2, rfl, rfl⟩ (Sub.refl _)
  · (repeat (first | refine bindP_mk (by simp (disch := first | omega | exact Int.natCast_nonneg _ | assumption) only [BB, B2, ↓reduceIte, Nat.reduceLeDiff, Nat.reduceAdd, CC] <;> rfl) ?_ | refine newP_mk ?_ | refine optP_mk ?_ | with_reducible first | refine condP_t ?_ | refine condP_f ?_ | refine ifP_tt' ?_ | refine ifP_ff' ?_ | refine ifP_tf' ?_ | refine ifP_ft' ?_ | refine ifP_u' ?_ | refine optP_mk0 ?_))
    refine hx _ _ _ _ (fun e => by cases e) (exP_e (beqP_t ?_))
    exact of_j1 hts hr hn hs1 hf (by omega) (hf1.mono (by omega)) g1 hK e0 e2
end V
end Go.Proofs.Ytepbdkfkfcckoaa
set_option linter.unusedVariables false
set_option linter.unusedSimpArgs false
namespace Go.Proofs.Ytepbdkfkfcckoaa
namespace V
open PA
attribute [local irreducible] bindP ifP condP newP optP exP beqP
def selT : Nat → List (List NodeD) → List (List NodeD)
  | _, [] => []
  | i, t :: r => (if i < 4 ∧ t.length ≤ 60 ∧ right8 t = true then [t] else []) ++ selT (i + 1) r
theorem selT_right : ∀ (ll : List (List NodeD)) (i : Nat), ∀ t ∈ selT i ll, right8 t = true ∧ t.length ≤ 60
  | [], i, t, h => by cases h
  | u :: r, i, t, h => by
    unfold selT at h
    rcases List.mem_append.1 h with h | h
    · split at h
      · rename_i h1
        rw [List.mem_singleton] at h; subst h
        exact ⟨h1.2.2, h1.2.1⟩
      · cases h
    · exact selT_right r (i + 1) t h
theorem selT_len : ∀ (ll : List (List NodeD)) (i : Nat), (selT i ll).length ≤ 4 - i
  | [], i => by simp [selT]
  | u :: r, i => by
    have := selT_len r (i + 1)
    unfold selT
    rw [List.length_append]
    split
    · rename_i h; simp; omega
    · simp; omega
theorem selT_cons (i : Nat) (t : List NodeD) (r : List (List NodeD)) : selT i (t :: r) = (if i < 4 ∧ t.length ≤ 60 ∧ right8 t = true then [t] else []) ++ selT (i + 1) r := rfl
end V
end Go.Proofs.Ytepbdkfkfcckoaa
set_option linter.unusedVariables false
set_option linter.unusedSimpArgs false
namespace Go.Proofs.Ytepbdkfkfcckoaa
namespace V
open PA
attribute [local irreducible] bindP ifP condP newP optP exP beqP
def oneC (ws : List Value) : List (List Value) := ws.map fun w => [w]
theorem oneC_len (ws : List Value) : (oneC ws).length = ws.length := by simp [oneC]
theorem mlit_tree (aid : Nat) (o : Option Addr) (n c : Nat) : sliceLitV Try.prog y_s_s_api_Node aid 1 [(0, .slice o n c)] = some (.slice (some (own aid 1)) 1 1, some (.cells [Value.slice o n c].toArray y_s_api_Node)) := by kernel_rfl
theorem mund_trees : und Try.prog y_s_s_api_Node = some (.slice y_s_api_Node) := by kernel_rfl
theorem mtin_tree : ∃ i, tin Try.prog y_s_api_Node = some i ∧ i.size = 1 ∧ i.bytes = 24 := mtinOf (by kernel_rfl)
theorem mzer_tree : zer Try.prog y_s_api_Node = some (.slice none 0 0) := by kernel_rfl
structure Sel (ro : Ro) (h : T Obj) (v : Value) (ws : List Value) (ts : List (List NodeD)) (lo : Nat) : Prop where
  ow : OwnT h v 1 y_s_api_Node (oneC ws) lo
  len : ws.length = ts.length
  els : ∀ (i : Nat) w t, ws[i]? = some w → ts[i]? = some t → RTree ro .e w t
theorem Sub.ofE (h : T Obj) : Sub .e h := fun k o hk => absurd hk (by rw [T.get_e]; intro h; cases h)
theorem Sel.trees {ro : Ro} {h : T Obj} {v : Value} {ws : List Value} {ts : List (List NodeD)} {lo : Nat} (hs : Sel ro h v ws ts lo) : RTrees ro h v ts := by
  refine ⟨oneC ws, hs.ow.sl, by rw [oneC_len, hs.len], fun i x t hx ht => ?_⟩
  unfold oneC at hx
  rw [List.getElem?_map] at hx
  cases hw : ws[i]? with
  | none => rw [hw] at hx; cases hx
  | some w =>
    rw [hw] at hx
    cases hx
    exact ⟨w, rfl, (hs.els i w t hw ht).sub (Sub.ofE h)⟩
theorem RTree.slice {ro : Ro} {h : T Obj} {w : Value} {t : List NodeD} (ht : RTree ro h w t) : ∃ o n c, w = .slice o n c := by
  obtain ⟨cs, h1, _⟩ := ht
  rcases h1 with ⟨rfl, _⟩ | ⟨a, cap, rfl, _⟩
  · exact ⟨none, 0, 0, rfl⟩
  · exact ⟨_, _, _, rfl⟩
theorem Sel.snoc {ro : Ro} {h : T Obj} {v w : Value} {t : List NodeD} {ws : List Value} {ts : List (List NodeD)} {nx n1 n2 lo : Nat} {K : Value × Option Obj → T Obj → Value × T Obj × Nat → Prop} (hs : Sel ro h v ws ts lo) (ht : RTree ro .e w t) (hl : ws.length ≤ 1000) (hf : Fr h nx) (hlo : lo ≤ nx) (hn1 : nx ≤ n1) (hn2 : n1 < n2)
    (hK : ∀ r h' q h1, Sel ro h' r (ws ++ [w]) (ts ++ [t]) lo → Kp v h h' → Fr h' (n2 + 1) → K q h1 (r, h', n2 + 1)) :
    bindP (sliceLitV Try.prog y_s_s_api_Node n1 1 [(0, w)]) fun r => optP h n1 r.2 fun h' => bindP (appendV Try.prog ro h' n2 #[y_s_s_api_Node, y_s_s_api_Node] [v, r.1]) (K r h') := by
  obtain ⟨i, t1, t2, t3⟩ := mtin_tree
  obtain ⟨o, n, c, rfl⟩ := ht.slice
  have hbig : (1001 : Nat) * 24 ≤ big := by decide
  have hok : cellOk (.slice o n c) = true := by
    obtain ⟨cs, h1, _⟩ := ht
    exact h1.ok
  refine mapp_lit (z := 1) (mlit_tree n1 o n c) rfl hs.ow mund_trees t1 t2 (by omega) mzer_tree rfl (by simp [hok]) (by rw [t3, oneC_len]; omega) (by rw [oneC_len]; omega) hf hlo hn1 hn2 fun h' q h1 q1 q2 q3 q4 => ?_
  have e : oneC ws ++ [[.slice o n c]] = oneC (ws ++ [.slice o n c]) := by simp [oneC]
  rw [e] at q1 ⊢
  refine hK _ h' q h1 ⟨q1, by simp [hs.len], fun j w2 t2 hw2 ht2 => ?_⟩ q2 q3
  by_cases hj : j < ws.length
  · rw [List.getElem?_append_left hj] at hw2
    rw [List.getElem?_append_left (by rw [← hs.len]; exact hj)] at ht2
    exact hs.els j w2 t2 hw2 ht2
  · have h3 := (List.getElem?_eq_some_iff.1 hw2).1
    simp at h3
    have e2 : j = ws.length := by omega
    subst e2
    simp at hw2
    rw [hs.len] at ht2
    simp at ht2
    subst hw2 ht2
    exact ht
theorem Sel.sub {ro : Ro} {h h' : T Obj} {v : Value} {ws : List Value} {ts : List (List NodeD)} {lo : Nat} (hs : Sel ro h v ws ts lo) (hh : Sub h h') : Sel ro h' v ws ts lo := ⟨hs.ow.keepS hh, hs.len, hs.els⟩
def few20 (s : ByteArray) : ByteArray := s.extract 0 (min s.size 20)
theorem few20_len (s : ByteArray) : (bts (few20 s)).length ≤ 20 := by
  unfold few20
  rw [bts_extract, List.length_take]; omega
end V
end Go.Proofs.Ytepbdkfkfcckoaa
set_option linter.unusedVariables false
set_option linter.unusedSimpArgs false
set_option maxRecDepth 16000
namespace Go.Proofs.Ytepbdkfkfcckoaa
namespace V
open PA Go.ChangeShapes Go.WideShapes Go.ChangeAt Go.RowKit Go.Deep
section
variable {H : Type} {enc : TypeId × Value → H} {W : World}
theorem u8_cellM {n : Nat} {cs : List Value} {y : DataW H × List MemPlace} (h : DataW.trod enc Try.prog W 0 (fun _ => true) true n y_uint8 cs = some y) : ∃ a : Nat, cs = [.int .u8 (a : Int)] ∧ a < 256 := by
  have hu : Try.prog.underlying y_uint8 = some (.int .u8) := by kernel_rfl
  obtain ⟨a, rfl, _, hw⟩ := DataW.trod_int hu h
  have := wf_u8 hw
  exact ⟨a.toNat, by rw [Int.toNat_of_nonneg this.1], by omega⟩
theorem str_cellM {n : Nat} {cs : List Value} {y : DataW H × List MemPlace} (h : DataW.trod enc Try.prog W 0 (fun _ => true) true n y_string cs = some y) : ∃ s : ByteArray, cs = [.string s] := by
  have hu : Try.prog.underlying y_string = some .string := by kernel_rfl
  obtain ⟨a, rfl, _⟩ := DataW.trod_string hu h
  exact ⟨_, rfl⟩
theorem mnorm_len {N : Nat} {v v' : Value} {o : Option Addr} {l c : Nat} (hv : v = .slice o l c) (h : norm N v = some v') : lenSl v' = some (.int .i64 l) := by
  subst hv
  unfold norm at h
  split at h
  · rename_i h1
    cases h
    cases h1
    rfl
  · rename_i h1
    cases h1
    split at h
    · cases h; rfl
    · cases h
  · rename_i h1; cases h1
  · split at h
    · cases h; rfl
    · cases h
theorem mopen_slB {D : Type} {t e : TypeId} {z : Nat} {R : List Value → D → Prop} (ht : Try.prog.underlying t = some (.slice e)) (hz : Try.prog.cellsOf e = z) (hz0 : 0 < z) {fuel : Nat} {cs : List Value} {x : DataW H × List MemPlace} (h : DataW.trod enc Try.prog W 0 (fun _ => true) true fuel t cs = some x)
    (hel : ∀ n cs' y, DataW.trod enc Try.prog W 0 (fun _ => true) true n e cs' = some y → ∃ cs'', normL W.heap.size cs' = some cs'' ∧ ∃ d, R cs'' d) : ∃ v v' l, cs = [v] ∧ norm W.heap.size v = some v' ∧ SlR (roOf W) .e v' z R l ∧ l.length ≤ lenB := by
  obtain ⟨v, v', hv, hn, l, hl, hall⟩ := open_sl ht hz hz0 h (El := fun x => ∃ d, R x d) hel
  have hbound : l.length ≤ lenB := by
    have hlen := hl.len
    rcases open_slice ht h with ⟨h1, _⟩ | ⟨a, len, cap, m, n, D, Pl, h1, _, hle, hm, _⟩
    · rw [hv] at h1
      have h2 := mnorm_len (List.cons.inj h1).1 hn
      rw [hlen] at h2
      simp only [Option.some.injEq, Value.int.injEq, true_and] at h2
      have : l.length = 0 := by omega
      rw [this]; unfold lenB; omega
    · rw [hv] at h1
      have h2 := mnorm_len (List.cons.inj h1).1 hn
      rw [hlen] at h2
      simp only [Option.some.injEq, Value.int.injEq, true_and] at h2
      unfold maxLen at hm
      unfold lenB
      omega
  refine ⟨v, v', ?_⟩
  have e : ∃ ds : List D, l.length = ds.length ∧ ∀ (i : Nat) x d, l[i]? = some x → ds[i]? = some d → R x d := by
    clear hl hbound
    induction l with
    | nil => exact ⟨[], rfl, fun i x d hx => by simp at hx⟩
    | cons x l ih =>
      obtain ⟨ds, h1, h2⟩ := ih fun y hy => hall y (by simp [hy])
      obtain ⟨d, hd⟩ := hall x (by simp)
      refine ⟨d :: ds, by simp [h1], fun i x' d' hx hd' => ?_⟩
      cases i with
      | zero => simp at hx hd'; subst hx; subst hd'; exact hd
      | succ i => exact h2 i x' d' (by simpa using hx) (by simpa using hd')
  obtain ⟨ds, h1, h2⟩ := e
  exact ⟨ds, hv, hn, ⟨l, hl, h1, h2⟩, by rw [← h1]; exact hbound⟩
theorem mints_cellB {n : Nat} {cs : List Value} {y : DataW H × List MemPlace} (h : DataW.trod enc Try.prog W 0 (fun _ => true) true n y_s_int cs = some y) : ∃ v v' l, cs = [v] ∧ norm W.heap.size v = some v' ∧ ZI (roOf W) .e v' l ∧ l.length ≤ lenB := by
  have hu : Try.prog.underlying y_s_int = some (.slice y_int) := by kernel_rfl
  have hc : Try.prog.cellsOf y_int = 1 := by kernel_rfl
  obtain ⟨v, v', l, hv, hn, ⟨cs, h1, h2, h3⟩, hb⟩ := mopen_slB (R := fun x (a : Int) => x = [Value.int .i64 a]) hu hc (by omega) h fun n cs' y hy => by
    obtain ⟨a, rfl⟩ := int_cell hy
    exact ⟨_, rfl, a, rfl⟩
  refine ⟨v, v', l, hv, hn, ?_, hb⟩
  have e : cs = intsZ l := by
    refine List.ext_getElem? fun i => ?_
    unfold intsZ
    rw [List.getElem?_map]
    cases hi : l[i]? with
    | none =>
      have := List.getElem?_eq_none_iff.1 hi
      rw [List.getElem?_eq_none (by omega)]; rfl
    | some a =>
      have hil := (List.getElem?_eq_some_iff.1 hi).1
      have hx : cs[i]? = some (cs[i]'(by omega)) := List.getElem?_eq_getElem (by omega)
      rw [hx, h3 i _ a hx hi]; rfl
  unfold ZI
  rw [← e]; exact h1
theorem node_cells {n : Nat} {cs : List Value} {y : DataW H × List MemPlace} (h : DataW.trod enc Try.prog W 0 (fun _ => true) true n y_api_Node cs = some y) : ∃ cs'', normL W.heap.size cs = some cs'' ∧ ∃ d, RNode (roOf W) .e cs'' d := by
  have hL : fieldsOf Try.prog y_api_Node = some [(0, y_uint8), (1, y_api_Set), (5, y_s_int), (6, y_int), (7, y_int), (8, y_string)] := by kernel_rfl
  have c0 : Try.prog.cellsOf y_api_Node = 9 := by kernel_rfl
  have c1 : Try.prog.cellsOf y_uint8 = 1 := by kernel_rfl
  have c2 : Try.prog.cellsOf y_api_Set = 4 := by kernel_rfl
  have c3 : Try.prog.cellsOf y_s_int = 1 := by kernel_rfl
  have c4 : Try.prog.cellsOf y_int = 1 := by kernel_rfl
  have c5 : Try.prog.cellsOf y_string = 1 := by kernel_rfl
  obtain ⟨hlen, m, hf⟩ := trod_fields hL h
  obtain ⟨_, f0⟩ := hf 0 _ _ rfl
  obtain ⟨_, f1⟩ := hf 1 _ _ rfl
  obtain ⟨_, f2⟩ := hf 2 _ _ rfl
  obtain ⟨_, f3⟩ := hf 3 _ _ rfl
  obtain ⟨_, f4⟩ := hf 4 _ _ rfl
  obtain ⟨_, f5⟩ := hf 5 _ _ rfl
  rw [c0] at hlen
  rw [c1] at f0
  rw [c2] at f1
  rw [c3] at f2
  rw [c4] at f3 f4
  rw [c5] at f5
  obtain ⟨op, g0, hop⟩ := u8_cellM f0
  obtain ⟨s, hs, g1⟩ := set_cells f1
  obtain ⟨v, v', l, g2, hn, hz, hb⟩ := mints_cellB f2
  obtain ⟨lo, g3⟩ := int_cell f3
  obtain ⟨hi, g4⟩ := int_cell f4
  obtain ⟨nm, g5⟩ := str_cellM f5
  match cs, hlen with
  | [a0, a1, a2, a3, a4, a5, a6, a7, a8], _ =>
    simp at g0 g1 g2 g3 g4 g5
    subst g0 g2 g3 g4 g5
    have e : [a1, a2, a3, a4] = setL s := g1
    refine ⟨nodL ⟨op, s, l, lo, hi, nm⟩ v', ?_, _, v', rfl, hz, hs, hb⟩
    have e2 : [Value.int .u8 (op : Int), a1, a2, a3, a4, a5, .int .i64 lo, .int .i64 hi, .string nm] = [Value.int .u8 (op : Int)] ++ setL s ++ [a5, .int .i64 lo, .int .i64 hi, .string nm] := by rw [← e]; rfl
    rw [e2]
    unfold setL nodL
    simp only [setL, List.cons_append, List.nil_append, normL, hn]
    rfl
theorem tree_cell {n : Nat} {cs : List Value} {y : DataW H × List MemPlace} (h : DataW.trod enc Try.prog W 0 (fun _ => true) true n y_s_api_Node cs = some y) : ∃ cs'', normL W.heap.size cs = some cs'' ∧ ∃ t : List NodeD, ∃ w, cs'' = [w] ∧ RTree (roOf W) .e w t := by
  have hu : Try.prog.underlying y_s_api_Node = some (.slice y_api_Node) := by kernel_rfl
  have hc : Try.prog.cellsOf y_api_Node = 9 := by kernel_rfl
  obtain ⟨v, v', l, rfl, hn, hz, _⟩ := mopen_slB hu hc (by omega) h fun n cs' y hy => node_cells hy
  exact ⟨[v'], by simp only [normL, hn]; rfl, l, v', rfl, hz⟩
theorem open_trees {v : Value} {d : DataW H} {p : List MemPlace} (h : DataW.Trod enc Try.prog W 0 (fun _ => true) true y_s_s_api_Node v d p) {base : Nat} (hval : Value.okWide Try.prog W .any base y_s_s_api_Node v) : ∃ v' ll, Arg W.heap.size v' v ∧ RTrees (roOf W) .e v' ll ∧ ll.length ≤ lenB := by
  have hu : Try.prog.underlying y_s_s_api_Node = some (.slice y_s_api_Node) := by kernel_rfl
  have hc : Try.prog.cellsOf y_s_api_Node = 1 := by kernel_rfl
  obtain ⟨fuel, hf⟩ := h
  obtain ⟨v1, v', l, g0, hn, hz, hb⟩ := mopen_slB hu hc (by omega) hf fun n cs' y hy => tree_cell hy
  obtain ⟨o, n, c, rfl⟩ := okWide_slice hu hval
  have : v1 = .slice o n c := by
    have e : (Value.slice o n c).cells.toList = [.slice o n c] := rfl
    rw [e] at g0
    simpa using g0.symm
  subst this
  exact ⟨v', l, .one hn, hz, hb⟩
end
end V
end Go.Proofs.Ytepbdkfkfcckoaa
set_option linter.unusedVariables false
set_option linter.unusedSimpArgs false
namespace Go.Proofs.Ytepbdkfkfcckoaa
namespace V
open PA
attribute [local irreducible] bindP ifP condP newP optP exP beqP
set_option maxRecDepth 4000 in
theorem nca_Step_S {ro : Ro} {v w : Value} {g : GlD} {c : CfgD} {by_ : Nat} (hby : by_ < 256) {h : T Obj} {nx : Nat} {K : KV} (hf : Fr h nx) (hg : RG ro h v g) (hc : RCfg ro h w c)
    (hK : ∀ r h' nx', nx ≤ nx' → Sub h h' → Fr h' nx' → RCfgS ro h' r (StepC g c by_) nx → K r h' nx') : callP Try.prog ro i_nca_Step [v, w, .int .u8 (by_ : Int)] h nx K := by
  obtain ⟨a, b, rfl, ha, hP⟩ := hg
  obtain ⟨a2, rfl, hl⟩ := hc
  apply nca_Step_of
  unfold nca_Step
  refine param_mk hf (Nat.le_refl _) fun h1 hs1 hf1 g1 _ => ?_
  refine param_mk hf1 (Nat.le_refl _) fun h2 hs2 hf2 g2 _ => ?_
  refine bindP_mk zer_Config ?_
  refine obj_mk hf2 (Nat.le_refl _) fun h3 hs3 hf3 g3 _ => ?_
  have g1 := hs3 _ _ (hs2 _ _ g1)
  have g2 := hs3 _ _ g2
  have hs := (hs1.trans hs2).trans hs3
  have hG : RG ro h3 (.agg #[a, b]) g := ⟨a, b, rfl, ha.sub hs, hP.sub hs (RPos.sub hs)⟩
  have hC : RCfg ro h3 (.agg #[.bool c.b, a2]) c := ⟨a2, rfl, hl.sub hs (RHeld.sub hs)⟩
  refine bindP_mk (loadA_all (l := [a, b]) g1 rfl) ?_
  refine bindP_mk (loadA_all (l := [.bool c.b, a2]) g2 rfl) ?_
  refine nca_Right_c (hf3.mono (by omega)) hG hC fun n hn => ?_
  cases hrc : rightC g c with
  | false =>
    have hst : StepC g c by_ = ⟨false, []⟩ := by unfold StepC; rw [hrc]; rfl
    rw [hst] at hK
    (repeat (first | refine bindP_mk (by simp (disch := first | omega | exact Int.natCast_nonneg _ | assumption) only [BB, B2, ↓reduceIte, Nat.reduceLeDiff, Nat.reduceAdd, CC] <;> rfl) ?_ | refine newP_mk ?_ | refine optP_mk ?_ | with_reducible first | refine condP_t ?_ | refine condP_f ?_ | refine ifP_tt' ?_ | refine ifP_ff' ?_ | refine ifP_tf' ?_ | refine ifP_ft' ?_ | refine ifP_u' ?_ | refine optP_mk0 ?_))
    refine bindP_mk build_Config0 ?_
    refine bindP_mk (storeA_own (l := [.bool false, .slice none 0 0]) (vs := [.bool false, .slice none 0 0]) g3 rfl rfl rfl rfl) ?_
    refine bindP_mk (loadA_all (l := [.bool false, .slice none 0 0]) (by rw [T.get_upd_same]) rfl) ?_
    exact ⟨h, hs.new hf (by omega), hK _ _ _ (by omega) (Sub.refl _) (hf.mono (by omega)) fun _ _ => ⟨_, rfl, SlR.nil⟩⟩
  | true =>
    have hst : StepC g c by_ = stepD g c by_ := by unfold StepC; rw [hrc]; rfl
    rw [hst] at hK
    unfold rightC at hrc
    simp only [Bool.and_eq_true] at hrc
    (repeat (first | refine bindP_mk (by simp (disch := first | omega | exact Int.natCast_nonneg _ | assumption) only [BB, B2, ↓reduceIte, Nat.reduceLeDiff, Nat.reduceAdd, CC] <;> rfl) ?_ | refine newP_mk ?_ | refine optP_mk ?_ | with_reducible first | refine condP_t ?_ | refine condP_f ?_ | refine ifP_tt' ?_ | refine ifP_ff' ?_ | refine ifP_tf' ?_ | refine ifP_ft' ?_ | refine ifP_u' ?_ | refine optP_mk0 ?_))
    refine bindP_mk (loadA_all (l := [a, b]) g1 rfl) ?_
    refine bindP_mk (loadA_all (l := [.bool c.b, a2]) g2 rfl) ?_
    refine nca_step_c hrc.1 hrc.2 hby (hf3.mono (by omega)) hG hC fun r h4 n4 hn4 q1 q2 q3 => ?_
    have q4 := q3
    obtain ⟨a3, rfl, hl3⟩ := q4.now
    have hok3 : cellOk a3 = true := by obtain ⟨cs, h9, _⟩ := hl3; exact h9.ok
    refine bindP_mk (storeA_own (l := [.bool false, .slice none 0 0]) (vs := [.bool (stepD g c by_).b, a3]) (q1 _ _ g3) rfl rfl rfl (two_ok hok3)) ?_
    refine bindP_mk (loadA_all (l := [.bool (stepD g c by_).b, a3]) (by rw [T.get_upd_same]) rfl) ?_
    refine ⟨(h4.upd (nx + 2) (some (.cells [Value.bool (stepD g c by_).b, a3].toArray y_api_Config))), Sub.refl _, hK _ _ _ (by omega) (fun k o hk => ?_) ((q2.mono (by omega)).upd (Nat.le_refl _) (by omega)) fun h5 h6 => ?_⟩
    · have := hf.lt' hk
      rw [T.get_upd_ne _ _ (by omega)]
      exact q1 _ _ (hs _ _ hk)
    · exact q3 _ fun k hk => by rw [h6 k (by omega)]; exact T.get_upd_ne _ _ (by omega)
end V
end Go.Proofs.Ytepbdkfkfcckoaa
set_option linter.unusedVariables false
set_option linter.unusedSimpArgs false
namespace Go.Proofs.Ytepbdkfkfcckoaa
namespace V
open PA
attribute [local irreducible] bindP ifP condP newP optP exP beqP
def WantOf (A : Nat → Prop) (x : Int) : Prop := (x = -1 ∧ ∀ r, ¬ A r) ∨ ∃ r : Nat, x = (r : Int) ∧ A r ∧ ∀ r', A r' → r ≤ r'
theorem WantOf.uniq {A : Nat → Prop} {x y : Int} (h1 : WantOf A x) (h2 : WantOf A y) : x = y := by
  rcases h1 with ⟨rfl, h1⟩ | ⟨r, rfl, a1, b1⟩ <;> rcases h2 with ⟨rfl, h2⟩ | ⟨s, rfl, a2, b2⟩
  · rfl
  · exact absurd a2 (h1 _)
  · exact absurd a1 (h2 _)
  · have e : r = s := Nat.le_antisymm (b1 _ a2) (b2 _ a1)
    subst e; rfl
def wantS (w : List Nat) : Nat → Int → List (List NodeD) → Int
  | _, b, [] => b
  | k, b, t :: r => wantS w (k + 1) (if b < 0 ∧ isT t w = true then (k : Int) else b) r
def AccW (w : List Nat) (ts : List (List NodeD)) (r : Nat) : Prop := ∃ t, ts[r]? = some t ∧ treeM w t 0 w.length
theorem want_all {w : List Nat} : ∀ (r P : List (List NodeD)) (b : Int), (∀ t ∈ r, plain6 t = true) → WantOf (AccW w P) b → WantOf (AccW w (P ++ r)) (wantS w P.length b r)
  | [], P, b, _, h => by rw [List.append_nil]; exact h
  | t :: r, P, b, ht, h => by
    have hs : ∀ x, AccW w (P ++ [t]) x ↔ AccW w P x ∨ (x = P.length ∧ treeM w t 0 w.length) := fun x => by
      unfold AccW
      constructor
      · rintro ⟨u, h1, h2⟩
        by_cases hx : x < P.length
        · rw [List.getElem?_append_left hx] at h1; exact .inl ⟨u, h1, h2⟩
        · have := (List.getElem?_eq_some_iff.1 h1).1
          simp at this
          have e : x = P.length := by omega
          subst e
          simp at h1
          subst h1
          exact .inr ⟨rfl, h2⟩
      · rintro (⟨u, h1, h2⟩ | ⟨rfl, h2⟩)
        · exact ⟨u, by rw [List.getElem?_append_left (List.getElem?_eq_some_iff.1 h1).1]; exact h1, h2⟩
        · exact ⟨t, by simp, h2⟩
    have hstep : WantOf (AccW w (P ++ [t])) (if b < 0 ∧ isT t w = true then (P.length : Int) else b) := by
      have hi := is_spec (w := w) (ht t (by simp))
      rcases h with ⟨rfl, hn⟩ | ⟨r0, rfl, a1, b1⟩
      · by_cases hq : isT t w = true
        · rw [if_pos ⟨by omega, hq⟩]
          refine .inr ⟨P.length, rfl, (hs _).2 (.inr ⟨rfl, hi.1 hq⟩), fun r' h => ?_⟩
          rcases (hs r').1 h with h | ⟨h, _⟩
          · exact absurd h (hn _)
          · omega
        · rw [if_neg (fun h => hq h.2)]
          refine .inl ⟨rfl, fun x h => ?_⟩
          rcases (hs x).1 h with h | ⟨_, h⟩
          · exact hn _ h
          · exact hq (hi.2 h)
      · rw [if_neg (by omega)]
        refine .inr ⟨r0, rfl, (hs _).2 (.inl a1), fun r' h => ?_⟩
        rcases (hs r').1 h with h | ⟨h, _⟩
        · exact b1 _ h
        · obtain ⟨u, h1, _⟩ := a1
          have := (List.getElem?_eq_some_iff.1 h1).1
          omega
    have := want_all r (P ++ [t]) _ (fun u hu => ht u (by simp [hu])) hstep
    rw [List.append_assoc, List.singleton_append, List.length_append, List.length_singleton] at this
    exact this
theorem wantS_cons (w : List Nat) (k : Nat) (b : Int) (t : List NodeD) (r : List (List NodeD)) : wantS w k b (t :: r) = wantS w (k + 1) (if b < 0 ∧ isT t w = true then (k : Int) else b) r := rfl
theorem whole_ok {w : List Nat} {ts : List (List NodeD)} {g : GlD} {c : CfgD} (hts : ∀ t ∈ ts, right8 t = true) (hn : ts.length ≤ 512) (ho : ofL ts 0 [] [] = some g) (hw : 0 < w.length) (hs : HSim w g 0 c w.length) : RuleC g c = wantS w 0 (-1) ts := by
  obtain ⟨hF, hl⟩ := ofL_ok (w := w) ts [] [] [] g hts (Fl.nil w) (by simp) ho
  rw [List.nil_append] at hF
  have hr := right_in hF hl (by simpa using hn)
  have hget : ∀ (k : Nat) (M : Nat → Nat → Prop), (ts.map (treeM w))[k]? = some M ↔ ∃ t, ts[k]? = some t ∧ treeM w t = M := fun k M => by
    rw [List.getElem?_map]
    cases ts[k]? <;> simp
  have h1 : WantOf (AccW w ts) (ruleD g c) := by
    rcases hs.rule hF hr hw with ⟨h1, h2⟩ | ⟨k, M, h1, h2, h3, h4⟩
    · exact .inl ⟨h1, fun r ⟨t, q1, q2⟩ => h2 r _ ((hget r _).2 ⟨t, q1, rfl⟩) q2⟩
    · obtain ⟨t, q1, q2⟩ := (hget k M).1 h2
      subst q2
      exact .inr ⟨k, h1, ⟨t, q1, h3⟩, fun r' ⟨t', q3, q4⟩ => h4 r' _ ((hget r' _).2 ⟨t', q3, rfl⟩) q4⟩
  have h2 := want_all ts [] (-1) (fun t ht => by have := hts t ht; unfold right8 at this; simp only [Bool.and_eq_true] at this; exact this.1) (.inl ⟨rfl, fun r ⟨t, h, _⟩ => by simp at h⟩ : WantOf (AccW w []) (-1))
  rw [List.nil_append] at h2
  have h3 : RuleC g c = ruleD g c := by unfold RuleC rightC; rw [hr, hs.fits]; rfl
  rw [h3]
  exact h1.uniq h2
theorem step_C {w : List Nat} {g : GlD} {c : CfgD} {i b : Nat} (hr : rightD g = true) (hs : HSim w g 0 c i) : StepC g c b = stepD g c b := by
  unfold StepC rightC
  rw [hr, hs.fits]; rfl
theorem right_of_ofL {ts : List (List NodeD)} {g : GlD} (hts : ∀ t ∈ ts, right8 t = true) (hn : ts.length ≤ 512) (ho : ofL ts 0 [] [] = some g) : rightD g = true := (of_long (w := []) (f := 0) hts hn ho (Nat.le_refl _)).1
set_option maxRecDepth 8000 in
set_option maxHeartbeats 4000000 in
theorem whole_j2 {ro : Ro} {xv fa pa ca : Value} {ws : List Value} {ts : List (List NodeD)} {g : GlD} {c : CfgD} {y : ByteArray} {h : T Obj} {lo nx gid cid : Nat} {K : KV} {e : Env} (hs : Sel ro h xv ws ts lo) (hf : Fr h nx) (hts : ∀ t ∈ ts, right8 t = true ∧ t.length ≤ 60) (htl : ts.length ≤ 4) (hyl : (bts y).length ≤ 20)
    (gg : h.get gid = some (.cells [fa, pa].toArray y_api_Glush)) (hG : RG ro h (.agg #[fa, pa]) g) (gc : h.get cid = some (.cells [Value.bool c.b, ca].toArray y_api_Config)) (hC : RCfg ro h (.agg #[.bool c.b, ca]) c) (hfin : RuleC g c = wantS (bts y) 0 (-1) ts)
    (e5 : e 5 = .bool true) (e6 : e 6 = xv) (e9 : e 9 = ptr gid) (e11 : e 11 = .string y) (e12 : e 12 = ptr cid) (hK : ∀ h' nx', K (.bool true) h' nx') : law10_NcaWhole_j2 ro K e h nx := by
  unfold law10_NcaWhole_j2
  rw [e6]
  have hxl : lenSl xv = some (.int .i64 ts.length) := by
    have := (hs.ow.sl (ro := ro)).len
    rwa [oneC_len, hs.len] at this
  (repeat (first | refine bindP_mk (by simp (disch := first | omega | exact Int.natCast_nonneg _ | assumption) only [BB, B2, ↓reduceIte, Nat.reduceLeDiff, Nat.reduceAdd, CC, hxl] <;> rfl) ?_ | refine newP_mk ?_ | refine optP_mk ?_ | with_reducible first | refine condP_t ?_ | refine condP_f ?_ | refine ifP_tt' ?_ | refine ifP_ff' ?_ | refine ifP_tf' ?_ | refine ifP_ft' ?_ | refine ifP_u' ?_ | refine optP_mk0 ?_))
  refine loopP_rule (fun m e h' nx' => ∃ (k : Nat) (b : Int), k + m = ts.length ∧ nx ≤ nx' ∧ e 5 = .bool true ∧ e 9 = ptr gid ∧ e 11 = .string y ∧ e 12 = ptr cid ∧ e 14 = .int .i64 b ∧ e 72 = xv ∧ e 73 = .int .i64 ts.length ∧ e 74 = .int .i64 k ∧ h' = h ∧ wantS (bts y) 0 (-1) ts = wantS (bts y) k b (ts.drop k)) ?_ (n := ts.length)
    ⟨0, -1, by omega, by omega, e5, e9, e11, e12, rfl, rfl, rfl, rfl, rfl, rfl⟩
  rintro m e h' nx' ⟨k, b, hkm, hnx, e5, e9, e11, e12, e14, e72, e73, e74, rfl, hb⟩ Q' hq hx
  unfold law10_NcaWhole_L1
  rw [e11, e14, e72, e73, e74]
  refine lss_s (fun hi => ?_) (fun hi => ?_)
  · have hi : k < ts.length := by omega
    obtain ⟨w, ht, hw⟩ := hs.trees.at hi
    have hix := SlR.ix hs.trees .i64 hi
    have htk := hts ts[k] (List.getElem_mem hi)
    rw [drop_cons hi, wantS_cons] at hb
    generalize ts[k] = t at *
    have hnext : ∀ (e' : Env) n3 (b3 : Int), nx ≤ n3 → wantS (bts y) 0 (-1) ts = wantS (bts y) (k + 1) b3 (ts.drop (k + 1)) → e' 5 = .bool true → e' 9 = ptr gid → e' 11 = .string y → e' 12 = ptr cid → e' 14 = .int .i64 b3 → e' 72 = xv → e' 73 = .int .i64 ts.length → e' 74 = .int .i64 k → law10_NcaWhole_j4 ro Q' e' h' n3 := fun e' n3 b3 hn3 hb3 q5 q9 q11 q12 q14 q72 q73 q74 => by
      unfold law10_NcaWhole_j4
      rw [q74]
      (repeat (first | refine bindP_mk (by simp (disch := first | omega | exact Int.natCast_nonneg _ | assumption) only [BB, B2, ↓reduceIte, Nat.reduceLeDiff, Nat.reduceAdd, CC] <;> rfl) ?_ | refine newP_mk ?_ | refine optP_mk ?_ | with_reducible first | refine condP_t ?_ | refine condP_f ?_ | refine ifP_tt' ?_ | refine ifP_ff' ?_ | refine ifP_tf' ?_ | refine ifP_ft' ?_ | refine ifP_u' ?_ | refine optP_mk0 ?_))
      exact hq (m - 1) _ _ _ _ (by omega) ⟨k + 1, b3, by omega, by omega, q5, q9, q11, q12, q14, q72, q73, rfl, rfl, hb3⟩ (Sub.refl _)
    (repeat (first | refine bindP_mk (by simp (disch := first | omega | exact Int.natCast_nonneg _ | assumption) only [BB, B2, ↓reduceIte, Nat.reduceLeDiff, Nat.reduceAdd, CC, hix, hw] <;> rfl) ?_ | refine newP_mk ?_ | refine optP_mk ?_ | with_reducible first | refine condP_t ?_ | refine condP_f ?_ | refine ifP_tt' ?_ | refine ifP_ff' ?_ | refine ifP_tf' ?_ | refine ifP_ft' ?_ | refine ifP_u' ?_ | refine optP_mk0 ?_))
    refine lss_s (fun hb0 => ?_) (fun hb0 => ?_)
    · (repeat (first | refine bindP_mk (by simp (disch := first | omega | exact Int.natCast_nonneg _ | assumption) only [BB, B2, ↓reduceIte, Nat.reduceLeDiff, Nat.reduceAdd, CC] <;> rfl) ?_ | refine newP_mk ?_ | refine optP_mk ?_ | with_reducible first | refine condP_t ?_ | refine condP_f ?_ | refine ifP_tt' ?_ | refine ifP_ff' ?_ | refine ifP_tf' ?_ | refine ifP_ft' ?_ | refine ifP_u' ?_ | refine optP_mk0 ?_))
      refine ref07_Is_c (by omega) (by omega) ht (hf.mono (by omega)) fun n3 hn3 => ?_
      cases hit : isT t (bts y) with
      | true =>
        rw [if_pos ⟨hb0, hit⟩] at hb
        (repeat (first | refine bindP_mk (by simp (disch := first | omega | exact Int.natCast_nonneg _ | assumption) only [BB, B2, ↓reduceIte, Nat.reduceLeDiff, Nat.reduceAdd, CC] <;> rfl) ?_ | refine newP_mk ?_ | refine optP_mk ?_ | with_reducible first | refine condP_t ?_ | refine condP_f ?_ | refine ifP_tt' ?_ | refine ifP_ff' ?_ | refine ifP_tf' ?_ | refine ifP_ft' ?_ | refine ifP_u' ?_ | refine optP_mk0 ?_))
        exact hnext _ _ _ (by omega) hb e5 e9 e11 e12 rfl e72 e73 e74
      | false =>
        rw [if_neg (by simp [hit])] at hb
        (repeat (first | refine bindP_mk (by simp (disch := first | omega | exact Int.natCast_nonneg _ | assumption) only [BB, B2, ↓reduceIte, Nat.reduceLeDiff, Nat.reduceAdd, CC] <;> rfl) ?_ | refine newP_mk ?_ | refine optP_mk ?_ | with_reducible first | refine condP_t ?_ | refine condP_f ?_ | refine ifP_tt' ?_ | refine ifP_ff' ?_ | refine ifP_tf' ?_ | refine ifP_ft' ?_ | refine ifP_u' ?_ | refine optP_mk0 ?_))
        exact hnext _ _ _ (by omega) hb e5 e9 e11 e12 e14 e72 e73 e74
    · rw [if_neg (by omega)] at hb
      (repeat (first | refine bindP_mk (by simp (disch := first | omega | exact Int.natCast_nonneg _ | assumption) only [BB, B2, ↓reduceIte, Nat.reduceLeDiff, Nat.reduceAdd, CC] <;> rfl) ?_ | refine newP_mk ?_ | refine optP_mk ?_ | with_reducible first | refine condP_t ?_ | refine condP_f ?_ | refine ifP_tt' ?_ | refine ifP_ff' ?_ | refine ifP_tf' ?_ | refine ifP_ft' ?_ | refine ifP_u' ?_ | refine optP_mk0 ?_))
      exact hnext _ _ _ (by omega) hb e5 e9 e11 e12 e14 e72 e73 e74
  · rw [drop_all (by omega)] at hb
    have hb : wantS (bts y) 0 (-1) ts = b := hb
    rw [hb] at hfin
    (repeat (first | refine bindP_mk (by simp (disch := first | omega | exact Int.natCast_nonneg _ | assumption) only [BB, B2, ↓reduceIte, Nat.reduceLeDiff, Nat.reduceAdd, CC] <;> rfl) ?_ | refine newP_mk ?_ | refine optP_mk ?_ | with_reducible first | refine condP_t ?_ | refine condP_f ?_ | refine ifP_tt' ?_ | refine ifP_ff' ?_ | refine ifP_tf' ?_ | refine ifP_ft' ?_ | refine ifP_u' ?_ | refine optP_mk0 ?_))
    refine hx _ _ _ _ (fun e => by cases e) (exP_e (beqP_t ?_))
    unfold law10_NcaWhole_j3
    generalize hE : puts e _ = E
    have E5 : E 5 = .bool true := by rw [← hE]; exact e5
    have E9 : E 9 = ptr gid := by rw [← hE]; exact e9
    have E12 : E 12 = ptr cid := by rw [← hE]; exact e12
    have E14 : E 14 = .int .i64 b := by rw [← hE]; exact e14
    rw [E5, E9, E12, E14]
    have lA := loadA_all (ro := ro) (z := 0) (n := 2) gg rfl
    have lB := loadA_all (ro := ro) (z := 0) (n := 2) gc rfl
    rw [ptr_at, ptr_at]
    (repeat (first | refine bindP_mk (by simp (disch := first | omega | exact Int.natCast_nonneg _ | assumption) only [BB, B2, ↓reduceIte, Nat.reduceLeDiff, Nat.reduceAdd, CC, lA, lB] <;> rfl) ?_ | refine newP_mk ?_ | refine optP_mk ?_ | with_reducible first | refine condP_t ?_ | refine condP_f ?_ | refine ifP_tt' ?_ | refine ifP_ff' ?_ | refine ifP_tf' ?_ | refine ifP_ft' ?_ | refine ifP_u' ?_ | refine optP_mk0 ?_))
    refine nca_Rule_c (hf.mono (by omega)) hG hC fun n3 hn3 => ?_
    rw [hfin]
    (repeat (first | refine bindP_mk (by simp (disch := first | omega | exact Int.natCast_nonneg _ | assumption) only [BB, B2, ↓reduceIte, Nat.reduceLeDiff, Nat.reduceAdd, CC] <;> rfl) ?_ | refine newP_mk ?_ | refine optP_mk ?_ | with_reducible first | refine condP_t ?_ | refine condP_f ?_ | refine ifP_tt' ?_ | refine ifP_ff' ?_ | refine ifP_tf' ?_ | refine ifP_ft' ?_ | refine ifP_u' ?_ | refine optP_mk0 ?_))
    exact ⟨h', Sub.refl _, hK _ _⟩
set_option maxRecDepth 8000 in
set_option maxHeartbeats 4000000 in
theorem whole_j1 {ro : Ro} {xv : Value} {ws : List Value} {ts : List (List NodeD)} {s : ByteArray} {h : T Obj} {lo nx : Nat} {K : KV} {e : Env} (hs : Sel ro h xv ws ts lo) (hlo : lo ≤ nx) (hf : Fr h nx) (hts : ∀ t ∈ ts, right8 t = true ∧ t.length ≤ 60) (htl : ts.length ≤ 4) (e1 : e 1 = .string s) (e5 : e 5 = .bool true) (e6 : e 6 = xv) (hK : ∀ h' nx', K (.bool true) h' nx') : law10_NcaWhole_j1 ro K e h nx := by
  unfold law10_NcaWhole_j1
  rw [e1, e5, e6]
  refine ref09_Of_c (hf.mono (by omega)) hs.trees (fun t ht => (hts t ht).1) (by omega) fun r er h1 n1 hn1 hs1 hf1 hres => ?_
  refine bindP_mk (show nth 0 (.tuple #[r, .int .i64 er]) = some r from rfl) (bindP_mk (show nth 1 (.tuple #[r, .int .i64 er]) = some (.int .i64 er) from rfl) ?_)
  have hls : lenStr (.string s) = some (.int .i64 s.size) := rfl
  have hwl := few20_len s
  change (bts (s.extract 0 (min s.size 20))).length ≤ 20 at hwl
  have hsl := slice_str (s := s) (n := min s.size 20) (by omega)
  have hmn : min (s.size : Int) 20 = ((min s.size 20 : Nat) : Int) := by omega
  generalize s.extract 0 (min s.size 20) = y at hwl hsl
  have hly := lenStr_bts y
  cases ho : ofL ts 0 [] [] with
  | none =>
    rw [ho] at hres
    obtain ⟨rfl, rfl⟩ := hres
    refine local_mk (n := 2) (x := [.slice none 0 0, .slice none 0 0]) zer_Glu rfl rfl rfl rfl hf1 (by omega) fun h2 hs2 hf2 g2 _ => ?_
    (repeat (first | refine bindP_mk (by simp (disch := first | omega | exact Int.natCast_nonneg _ | assumption) only [BB, B2, ↓reduceIte, Nat.reduceLeDiff, Nat.reduceAdd, CC, hls] <;> rfl) ?_ | refine newP_mk ?_ | refine optP_mk ?_ | with_reducible first | refine condP_t ?_ | refine condP_f ?_ | refine ifP_tt' ?_ | refine ifP_ff' ?_ | refine ifP_tf' ?_ | refine ifP_ft' ?_ | refine ifP_u' ?_ | refine optP_mk0 ?_))
    refine bindP_mk (min_int _ _ _ _) ?_
    rw [hmn]
    refine bindP_mk hsl ?_
    (repeat (first | refine bindP_mk (by simp (disch := first | omega | exact Int.natCast_nonneg _ | assumption) only [BB, B2, ↓reduceIte, Nat.reduceLeDiff, Nat.reduceAdd, CC] <;> rfl) ?_ | refine newP_mk ?_ | refine optP_mk ?_ | with_reducible first | refine condP_t ?_ | refine condP_f ?_ | refine ifP_tt' ?_ | refine ifP_ff' ?_ | refine ifP_tf' ?_ | refine ifP_ft' ?_ | refine ifP_u' ?_ | refine optP_mk0 ?_))
    exact ⟨h2, Sub.refl _, hK _ _⟩
  | some g =>
    rw [ho] at hres
    obtain ⟨rfl, hG⟩ := hres
    obtain ⟨fa, pa, rfl, hfa, hpa⟩ := hG
    refine local_mk (n := 2) (x := [fa, pa]) zer_Glu rfl rfl rfl (by have h1 := hfa.ok; have h2 := SlR.ok hpa; simp [h1, h2]) hf1 (by omega) fun h2 hs2 hf2 g2 _ => ?_
    (repeat (first | refine bindP_mk (by simp (disch := first | omega | exact Int.natCast_nonneg _ | assumption) only [BB, B2, ↓reduceIte, Nat.reduceLeDiff, Nat.reduceAdd, CC, hls] <;> rfl) ?_ | refine newP_mk ?_ | refine optP_mk ?_ | with_reducible first | refine condP_t ?_ | refine condP_f ?_ | refine ifP_tt' ?_ | refine ifP_ff' ?_ | refine ifP_tf' ?_ | refine ifP_ft' ?_ | refine ifP_u' ?_ | refine optP_mk0 ?_))
    refine bindP_mk (min_int _ _ _ _) ?_
    rw [hmn]
    refine bindP_mk hsl ?_
    (repeat (first | refine bindP_mk (by simp (disch := first | omega | exact Int.natCast_nonneg _ | assumption) only [BB, B2, ↓reduceIte, Nat.reduceLeDiff, Nat.reduceAdd, CC, hly] <;> rfl) ?_ | refine newP_mk ?_ | refine optP_mk ?_ | with_reducible first | refine condP_t ?_ | refine condP_f ?_ | refine ifP_tt' ?_ | refine ifP_ff' ?_ | refine ifP_tf' ?_ | refine ifP_ft' ?_ | refine ifP_u' ?_ | refine optP_mk0 ?_))
    refine eql_s (fun h0 => ?_) (fun h0 => ?_)
    · (repeat (first | refine bindP_mk (by simp (disch := first | omega | exact Int.natCast_nonneg _ | assumption) only [BB, B2, ↓reduceIte, Nat.reduceLeDiff, Nat.reduceAdd, CC] <;> rfl) ?_ | refine newP_mk ?_ | refine optP_mk ?_ | with_reducible first | refine condP_t ?_ | refine condP_f ?_ | refine ifP_tt' ?_ | refine ifP_ff' ?_ | refine ifP_tf' ?_ | refine ifP_ft' ?_ | refine ifP_u' ?_ | refine optP_mk0 ?_))
      exact ⟨h2, Sub.refl _, hK _ _⟩
    · (repeat (first | refine bindP_mk (by simp (disch := first | omega | exact Int.natCast_nonneg _ | assumption) only [BB, B2, ↓reduceIte, Nat.reduceLeDiff, Nat.reduceAdd, CC] <;> rfl) ?_ | refine newP_mk ?_ | refine optP_mk ?_ | with_reducible first | refine condP_t ?_ | refine condP_f ?_ | refine ifP_tt' ?_ | refine ifP_ff' ?_ | refine ifP_tf' ?_ | refine ifP_ft' ?_ | refine ifP_u' ?_ | refine optP_mk0 ?_))
      have hr := right_of_ofL (fun t ht => (hts t ht).1) (by omega) ho
      refine nca_Start_c (hf2.mono (by omega)) fun n3 hn3 => ?_
      refine local_mk (n := 2) (x := [.bool true, .slice none 0 0]) zer_Config rfl rfl rfl rfl (hf2.mono (show n1 + 3 + 1 ≤ n3 by omega)) (Nat.le_refl _) fun h3 hs3 hf3 g3 _ => ?_
      have hsel := ((hs.sub hs1).sub hs2).sub hs3
      (repeat (first | refine bindP_mk (by simp (disch := first | omega | exact Int.natCast_nonneg _ | assumption) only [BB, B2, ↓reduceIte, Nat.reduceLeDiff, Nat.reduceAdd, CC, hly] <;> rfl) ?_ | refine newP_mk ?_ | refine optP_mk ?_ | with_reducible first | refine condP_t ?_ | refine condP_f ?_ | refine ifP_tt' ?_ | refine ifP_ff' ?_ | refine ifP_tf' ?_ | refine ifP_ft' ?_ | refine ifP_u' ?_ | refine optP_mk0 ?_))
      refine loopP_rule (fun m e h' nx' => ∃ (i : Nat) (c : CfgD) (ca : Value), i + m = (bts y).length ∧ n3 + 1 ≤ nx' ∧ e 5 = .bool true ∧ e 6 = xv ∧ e 9 = ptr (n1 + 3) ∧ e 11 = .string y ∧ e 12 = ptr n3 ∧ e 61 = .int .i64 (bts y).length ∧ e 62 = .int .i64 i ∧ Sub h2 h' ∧ Fr h' nx' ∧ h'.get n3 = some (.cells [Value.bool c.b, ca].toArray y_api_Config) ∧ RCfg ro h' (.agg #[.bool c.b, ca]) c ∧ HSim (bts y) g 0 c i) ?_ (n := (bts y).length)
        ⟨0, startD, _, by omega, by omega, e5, e6, rfl, rfl, rfl, rfl, rfl, hs3, hf3.mono (by omega), g3, ⟨_, rfl, SlR.nil⟩, ⟨start_fits g, .inl ⟨rfl, rfl⟩⟩⟩
      rintro m e h' nx' ⟨i, c, ca, him, hnx, e5, e6, e9, e11, e12, e61, e62, hs', hf', gc, hC, hsim⟩ Q' hq hx
      unfold law10_NcaWhole_L2
      rw [e9, e11, e12, e61, e62]
      have hG' : RG ro h' (.agg #[fa, pa]) g := ⟨fa, pa, rfl, (hfa.sub hs2).sub hs', (hpa.sub hs2 (RPos.sub hs2)).sub hs' (RPos.sub hs')⟩
      have lA := loadA_all (ro := ro) (z := 0) (n := 2) (hs' _ _ g2) rfl
      have lB := loadA_all (ro := ro) (z := 0) (n := 2) gc rfl
      rw [ptr_at, ptr_at]
      refine lss_s (fun hi => ?_) (fun hi => ?_)
      · have hi : i < (bts y).length := by omega
        have y3 := ixStr_bts (k := .i64) hi
        have hb256 := bts_lt (s := y) _ (List.getElem_mem hi)
        have hst := hsim.step hr (b := (bts y)[i]) (List.getElem?_eq_getElem hi)
        generalize (bts y)[i] = b at y3 hb256 hst
        (repeat (first | refine bindP_mk (by simp (disch := first | omega | exact Int.natCast_nonneg _ | assumption) only [BB, B2, ↓reduceIte, Nat.reduceLeDiff, Nat.reduceAdd, CC, lA, lB, y3] <;> rfl) ?_ | refine newP_mk ?_ | refine optP_mk ?_ | with_reducible first | refine condP_t ?_ | refine condP_f ?_ | refine ifP_tt' ?_ | refine ifP_ff' ?_ | refine ifP_tf' ?_ | refine ifP_ft' ?_ | refine ifP_u' ?_ | refine optP_mk0 ?_))
        refine nca_Step_S hb256 (hf'.mono (by omega)) hG' hC fun r h5 n5 hn5 hs5 hf5 hr5 => ?_
        rw [step_C hr hsim] at hr5
        have hr6 := hr5
        obtain ⟨ca2, rfl, hcl⟩ := hr6.now
        have hok : cellOk ca2 = true := by obtain ⟨cs, h9, _⟩ := hcl; exact h9.ok
        refine bindP_mk (storeA_own (l := [.bool c.b, ca]) (vs := [.bool (stepD g c b).b, ca2]) (hs5 _ _ gc) rfl rfl rfl (two_ok hok)) ?_
        (repeat (first | refine bindP_mk (by simp (disch := first | omega | exact Int.natCast_nonneg _ | assumption) only [BB, B2, ↓reduceIte, Nat.reduceLeDiff, Nat.reduceAdd, CC] <;> rfl) ?_ | refine newP_mk ?_ | refine optP_mk ?_ | with_reducible first | refine condP_t ?_ | refine condP_f ?_ | refine ifP_tt' ?_ | refine ifP_ff' ?_ | refine ifP_tf' ?_ | refine ifP_ft' ?_ | refine ifP_u' ?_ | refine optP_mk0 ?_))
        refine hq (m - 1) _ _ _ _ (by omega) ⟨i + 1, stepD g c b, ca2, by omega, by omega, e5, e6, by rw [← ptr_at] at *; exact e9, e11, e12, e61, rfl, (hs'.trans hs5).new hf2 (by omega), (hf5.mono (by omega)).upd (Nat.le_refl _) (by omega), by rw [T.get_upd_same], hr5 _ fun k hk => T.get_upd_ne _ _ (by omega), hst⟩ (Sub.refl _)
      · (repeat (first | refine bindP_mk (by simp (disch := first | omega | exact Int.natCast_nonneg _ | assumption) only [BB, B2, ↓reduceIte, Nat.reduceLeDiff, Nat.reduceAdd, CC] <;> rfl) ?_ | refine newP_mk ?_ | refine optP_mk ?_ | with_reducible first | refine condP_t ?_ | refine condP_f ?_ | refine ifP_tt' ?_ | refine ifP_ff' ?_ | refine ifP_tf' ?_ | refine ifP_ft' ?_ | refine ifP_u' ?_ | refine optP_mk0 ?_))
        refine hx _ _ _ _ (fun e => by cases e) (exP_e (beqP_t ?_))
        have : i = (bts y).length := by omega
        subst this
        exact whole_j2 (gid := n1 + 3) (cid := n3) (((hs.sub hs1).sub hs2).sub hs') (hf'.mono (by omega)) hts htl hwl (hs' _ _ g2) hG' gc hC (whole_ok (fun t ht => (hts t ht).1) (by omega) ho (by omega) hsim) e5 e6 e9 e11 e12 hK
set_option maxRecDepth 8000 in
set_option maxHeartbeats 4000000 in
theorem law10_NcaWhole_c {ro : Ro} {v : Value} {ll : List (List NodeD)} {s : ByteArray} (hll : ll.length ≤ lenB) {h : T Obj} {nx : Nat} {K : KV} (hf : Fr h nx) (hv : RTrees ro .e v ll) (hK : ∀ h' nx', K (.bool true) h' nx') : callP Try.prog ro i_law10_NcaWhole [v, .string s] h nx K := by
  apply law10_NcaWhole_of
  unfold law10_NcaWhole
  refine shown_c ?_
  have hvl := SlR.len hv
  (repeat (first | refine bindP_mk (by simp (disch := first | omega | exact Int.natCast_nonneg _ | assumption) only [BB, B2, ↓reduceIte, Nat.reduceLeDiff, Nat.reduceAdd, CC, hvl] <;> rfl) ?_ | refine newP_mk ?_ | refine optP_mk ?_ | with_reducible first | refine condP_t ?_ | refine condP_f ?_ | refine ifP_tt' ?_ | refine ifP_ff' ?_ | refine ifP_tf' ?_ | refine ifP_ft' ?_ | refine ifP_u' ?_ | refine optP_mk0 ?_))
  refine loopP_rule (fun m e h' nx' => ∃ (k : Nat) (ws : List Value) (ts : List (List NodeD)) (xv : Value), k + m = ll.length ∧ nx ≤ nx' ∧ e 1 = .string s ∧ e 5 = .bool true ∧ e 6 = xv ∧ e 18 = v ∧ e 19 = .int .i64 ll.length ∧ e 20 = .int .i64 k ∧ Fr h' nx' ∧ Sel ro h' xv ws ts nx ∧ selT 0 ll = ts ++ selT k (ll.drop k) ∧ ts.length ≤ 4) ?_ (n := ll.length)
    ⟨0, [], [], _, by omega, by omega, rfl, rfl, rfl, rfl, rfl, rfl, hf.mono (by omega), ⟨OwnT.nil, rfl, fun i w t hw => by simp at hw⟩, rfl, by simp⟩
  rintro m e h' nx' ⟨k, ws, ts, xv, hkm, hnx, e1, e5, e6, e18, e19, e20, hf', hs, hsel, h4⟩ Q' hq hx
  unfold law10_NcaWhole_L3
  rw [e6, e18, e19, e20]
  unfold lenB at hll
  refine lss_s (fun hi => ?_) (fun hi => ?_)
  · have hi : k < ll.length := by omega
    obtain ⟨w, ht, hw⟩ := hv.at hi
    have hix := SlR.ix hv .i64 hi
    have hw' := load1_sub (Sub.ofE h') hw
    have htot := selT_len ll 0
    rw [drop_cons hi, selT_cons] at hsel
    generalize ll[k] = t at *
    have htl := SlR.len ht
    have hnext : ∀ (e' : Env) h3 n3 ws3 ts3 xv3, nx ≤ n3 → Fr h3 n3 → Sel ro h3 xv3 ws3 ts3 nx → selT 0 ll = ts3 ++ selT (k + 1) (ll.drop (k + 1)) → e' 1 = .string s → e' 5 = .bool true → e' 6 = xv3 → e' 18 = v → e' 19 = .int .i64 ll.length → e' 20 = .int .i64 k → law10_NcaWhole_j5 ro Q' e' h3 n3 := fun e' h3 n3 ws3 ts3 xv3 hn3 hf3 hs3 hsel3 q1 q5 q6 q18 q19 q20 => by
      unfold law10_NcaWhole_j5
      rw [q20]
      (repeat (first | refine bindP_mk (by simp (disch := first | omega | exact Int.natCast_nonneg _ | assumption) only [BB, B2, ↓reduceIte, Nat.reduceLeDiff, Nat.reduceAdd, CC] <;> rfl) ?_ | refine newP_mk ?_ | refine optP_mk ?_ | with_reducible first | refine condP_t ?_ | refine condP_f ?_ | refine ifP_tt' ?_ | refine ifP_ff' ?_ | refine ifP_tf' ?_ | refine ifP_ft' ?_ | refine ifP_u' ?_ | refine optP_mk0 ?_))
      refine hq (m - 1) _ _ _ _ (by omega) ⟨k + 1, ws3, ts3, xv3, by omega, by omega, q1, q5, q6, q18, q19, rfl, hf3.mono (by omega), hs3, hsel3, ?_⟩ (Sub.refl _)
      rw [hsel3, List.length_append] at htot
      omega
    (repeat (first | refine bindP_mk (by simp (disch := first | omega | exact Int.natCast_nonneg _ | assumption) only [BB, B2, ↓reduceIte, Nat.reduceLeDiff, Nat.reduceAdd, CC, hix, hw'] <;> rfl) ?_ | refine newP_mk ?_ | refine optP_mk ?_ | with_reducible first | refine condP_t ?_ | refine condP_f ?_ | refine ifP_tt' ?_ | refine ifP_ff' ?_ | refine ifP_tf' ?_ | refine ifP_ft' ?_ | refine ifP_u' ?_ | refine optP_mk0 ?_))
    refine lss_s (fun hk4 => ?_) (fun hk4 => ?_)
    · (repeat (first | refine bindP_mk (by simp (disch := first | omega | exact Int.natCast_nonneg _ | assumption) only [BB, B2, ↓reduceIte, Nat.reduceLeDiff, Nat.reduceAdd, CC, htl] <;> rfl) ?_ | refine newP_mk ?_ | refine optP_mk ?_ | with_reducible first | refine condP_t ?_ | refine condP_f ?_ | refine ifP_tt' ?_ | refine ifP_ff' ?_ | refine ifP_tf' ?_ | refine ifP_ft' ?_ | refine ifP_u' ?_ | refine optP_mk0 ?_))
      refine leq_s (fun h60 => ?_) (fun h60 => ?_)
      · (repeat (first | refine bindP_mk (by simp (disch := first | omega | exact Int.natCast_nonneg _ | assumption) only [BB, B2, ↓reduceIte, Nat.reduceLeDiff, Nat.reduceAdd, CC] <;> rfl) ?_ | refine newP_mk ?_ | refine optP_mk ?_ | with_reducible first | refine condP_t ?_ | refine condP_f ?_ | refine ifP_tt' ?_ | refine ifP_ff' ?_ | refine ifP_tf' ?_ | refine ifP_ft' ?_ | refine ifP_u' ?_ | refine optP_mk0 ?_))
        refine ref08_Right_c (by omega) (ht.sub (Sub.ofE h')) (hf'.mono (by omega)) fun n2 hn2 => ?_
        cases hr8 : right8 t with
        | true =>
          rw [if_pos ⟨by omega, by omega, hr8⟩] at hsel
          (repeat (first | refine bindP_mk (by simp (disch := first | omega | exact Int.natCast_nonneg _ | assumption) only [BB, B2, ↓reduceIte, Nat.reduceLeDiff, Nat.reduceAdd, CC] <;> rfl) ?_ | refine newP_mk ?_ | refine optP_mk ?_ | with_reducible first | refine condP_t ?_ | refine condP_f ?_ | refine ifP_tt' ?_ | refine ifP_ff' ?_ | refine ifP_tf' ?_ | refine ifP_ft' ?_ | refine ifP_u' ?_ | refine optP_mk0 ?_))
          have hwl := hs.len
          refine hs.snoc ht (by omega) (hf'.mono (show nx' ≤ n2 by omega)) (by omega) (by omega) (by omega) fun r h3 q h5 s1 s2 s3 => ?_
          exact hnext _ _ _ _ _ r (by dsimp only; omega) (s3.mono (by dsimp only; omega)) s1 (by rw [hsel]; simp) e1 e5 rfl e18 e19 e20
        | false =>
          rw [if_neg (by simp [hr8]), List.nil_append] at hsel
          (repeat (first | refine bindP_mk (by simp (disch := first | omega | exact Int.natCast_nonneg _ | assumption) only [BB, B2, ↓reduceIte, Nat.reduceLeDiff, Nat.reduceAdd, CC] <;> rfl) ?_ | refine newP_mk ?_ | refine optP_mk ?_ | with_reducible first | refine condP_t ?_ | refine condP_f ?_ | refine ifP_tt' ?_ | refine ifP_ff' ?_ | refine ifP_tf' ?_ | refine ifP_ft' ?_ | refine ifP_u' ?_ | refine optP_mk0 ?_))
          exact hnext _ _ _ _ _ xv (by omega) (hf'.mono (by omega)) hs hsel e1 e5 e6 e18 e19 e20
      · rw [if_neg (by omega), List.nil_append] at hsel
        (repeat (first | refine bindP_mk (by simp (disch := first | omega | exact Int.natCast_nonneg _ | assumption) only [BB, B2, ↓reduceIte, Nat.reduceLeDiff, Nat.reduceAdd, CC] <;> rfl) ?_ | refine newP_mk ?_ | refine optP_mk ?_ | with_reducible first | refine condP_t ?_ | refine condP_f ?_ | refine ifP_tt' ?_ | refine ifP_ff' ?_ | refine ifP_tf' ?_ | refine ifP_ft' ?_ | refine ifP_u' ?_ | refine optP_mk0 ?_))
        exact hnext _ _ _ _ _ xv (by omega) (hf'.mono (by omega)) hs hsel e1 e5 e6 e18 e19 e20
    · rw [if_neg (by omega), List.nil_append] at hsel
      (repeat (first | refine bindP_mk (by simp (disch := first | omega | exact Int.natCast_nonneg _ | assumption) only [BB, B2, ↓reduceIte, Nat.reduceLeDiff, Nat.reduceAdd, CC] <;> rfl) ?_ | refine newP_mk ?_ | refine optP_mk ?_ | with_reducible first | refine condP_t ?_ | refine condP_f ?_ | refine ifP_tt' ?_ | refine ifP_ff' ?_ | refine ifP_tf' ?_ | refine ifP_ft' ?_ | refine ifP_u' ?_ | refine optP_mk0 ?_))
      exact hnext _ _ _ _ _ xv (by omega) (hf'.mono (by omega)) hs hsel e1 e5 e6 e18 e19 e20
  · (repeat (first | refine bindP_mk (by simp (disch := first | omega | exact Int.natCast_nonneg _ | assumption) only [BB, B2, ↓reduceIte, Nat.reduceLeDiff, Nat.reduceAdd, CC] <;> rfl) ?_ | refine newP_mk ?_ | refine optP_mk ?_ | with_reducible first | refine condP_t ?_ | refine condP_f ?_ | refine ifP_tt' ?_ | refine ifP_ff' ?_ | refine ifP_tf' ?_ | refine ifP_ft' ?_ | refine ifP_u' ?_ | refine optP_mk0 ?_))
    refine hx _ _ _ _ (fun e => by cases e) (exP_e (beqP_t ?_))
    rw [drop_all (by omega)] at hsel
    have hsel : selT 0 ll = ts := by rw [hsel]; simp [selT]
    exact whole_j1 hs (by omega) (hf'.mono (by omega)) (fun t ht => selT_right ll 0 t (by rw [hsel]; exact ht)) h4 e1 e5 e6 hK
end V
end Go.Proofs.Ytepbdkfkfcckoaa
set_option linter.unusedVariables false
set_option linter.unusedSimpArgs false
set_option maxRecDepth 16000
namespace Go.Proofs.Ytepbdkfkfcckoaa
namespace V
open Go.ChangeShapes Go.WideShapes Go.ChangeAt Go.RowKit
theorem ncaWhole_lifted (os : Os) (started : os.Started) (H : Type) (enc : TypeId × Value → H) :
    ReturnsInHanded {} Try.checked os 7 .any (Rows.ncaWholeSpec.pre6 enc Try.prog Try.f7 Rows.ncaWholeRow.domain false) (Rows.ncaWholeSpec.post enc Try.prog Try.f7 false true false false) := by
  refine returnsInHanded_of_change_sized (C := Try.checked) okOwn started (by kernel_rfl) (by kernel_rfl)
    (ChangeSpec.witness6 (enc := enc) (C := Try.checked) false ⟨#[], #[.slice none 0 0, .string .empty], []⟩ 8 (by kernel_rfl) (by kernel_rfl) (by kernel_rfl) (by kernel_rfl)) ?_
  intro W base args ds gs before hval hW _ _ _
  have hW' := hW
  obtain ⟨p, q, hA0, hV, rfl, hfz, hnd⟩ := hW
  have hA : DataW.TrodAll enc Try.prog W 0 (fun _ => true) true [y_s_s_api_Node, y_string] args.toList ds p := hA0
  obtain ⟨v0, v1, d0, d1, p0, p1, rfl, rfl, rfl, h0, h1⟩ := trodAll_two hA
  obtain ⟨rfl, rfl⟩ := trodVars_none hV
  obtain ⟨w0, l0, a0, hl0, hn0⟩ := open_trees h0 (hval 0 y_s_s_api_Node v0 rfl rfl)
  obtain ⟨s1, a1⟩ := open_str h1 (hval 1 y_string v1 rfl rfl)
  have hsay : Says Try.prog W 7 [w0, .string s1] := law10_NcaWhole_c hn0 Fr.e hl0 fun _ _ => rfl
  refine (says_calls okZ okN okM (args := #[v0, v1]) (.cons a0 (.cons a1 .nil)) hsay).mono fun e W' ⟨he, hb⟩ => ?_
  subst he
  exact ⟨_, rfl, law_post (tb := y_bool) okLaid (by kernel_rfl) (by kernel_rfl) (by kernel_rfl) rfl hW' hb rfl⟩
end V
theorem ncaWhole_holds : Rows.NcaWholeSaid :=
  OpenClaim.holds_of_wide 7 Try.f7 rfl rfl rfl rfl rfl rfl rfl ⟨rfl, rfl, rfl, rfl, rfl⟩ rfl rfl rfl rfl rfl (by kernel_rfl) (by kernel_rfl) (by kernel_rfl)
    (of_decide_eq_true (by kernel_rfl)) (by unfold Func.isWrapper; rw [if_neg (of_decide_eq_false (by kernel_rfl))]; exact ⟨rfl, rfl⟩)
    (fun os started H enc _ => V.ncaWhole_lifted os started H enc)
end Go.Proofs.Ytepbdkfkfcckoaa