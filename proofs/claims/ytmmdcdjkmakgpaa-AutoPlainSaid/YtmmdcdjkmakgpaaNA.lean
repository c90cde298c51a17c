/- Places and where one may be, in plain lists: what is right, a step, a rule, how far one comes.
   No condition. -/
import Derived.Test.YtmmdcdjkmakgpaaW1
set_option linter.unusedVariables false
set_option linter.unusedSimpArgs false
namespace Go.Proofs.Ytmmdcdjkmakgpaa
namespace V
structure PosD where
  s : Nat
  lo : Int
  hi : Int
  rule : Int
  last : Bool
  next : List Int
structure GlD where
  first : List Int
  p : List PosD
structure HeldD where
  p : Int
  n : List Int
structure CfgD where
  b : Bool
  l : List HeldD
/-- Do numbers rise, from 'last' on, below 'many'? -/
def rz (last many : Int) : List Int → Bool
  | [] => true
  | x :: r => decide (last < x) && (decide (x < many) && rz x many r)
def mayD (many : Int) (p : PosD) : Bool := decide (p.s ≠ 0) && (decide (1 ≤ p.lo) && (decide (p.lo ≤ p.hi) && (decide (p.hi ≤ 4096) && (decide (0 ≤ p.rule) && (decide (p.rule < 512) && rz (-1) many p.next)))))
def rightD (g : GlD) : Bool := decide (g.p.length ≤ 512) && (rz (-1) g.p.length g.first && g.p.all (mayD g.p.length))
def dummy : PosD := ⟨0, 0, 0, 0, false, []⟩
def GlD.at (g : GlD) (i : Int) : PosD := g.p.getD i.toNat dummy
def fitsL (g : GlD) (place : Int) : List HeldD → Bool
  | [] => true
  | h :: r => decide (place < h.p) && (decide (h.p < g.p.length) && (!h.n.isEmpty && (rz 0 ((g.at h.p).hi + 1) h.n && fitsL g h.p r)))
def fitsD (g : GlD) (c : CfgD) : Bool := if c.b then c.l.isEmpty else fitsL g (-1) c.l
def rightC (g : GlD) (c : CfgD) : Bool := rightD g && fitsD g c
def ripeD (g : GlD) (h : HeldD) : Bool := decide ((g.at h.p).lo ≤ h.n.getLastD 0)
def hasD (g : GlD) (b : Nat) (q : Int) : Bool := (g.at q).s.testBit b
def entersD (g : GlD) (c : CfgD) (q : Int) : Bool := if c.b then g.first.contains q else c.l.any fun h => ripeD g h && (g.at h.p).next.contains q
def upD (hi : Int) (n : List Int) : List Int := (n.filter fun x => decide (x < hi)).map (· + 1)
def staysL (g : GlD) (q : Int) (l : List HeldD) : List Int := l.flatMap fun h => if h.p = q then upD (g.at q).hi h.n else []
def cntD (g : GlD) (c : CfgD) (b : Nat) (q : Int) : List Int := if hasD g b q then (if entersD g c q then [1] else []) ++ staysL g q c.l else []
def heldOf (q : Int) (n : List Int) : List HeldD := if n = [] then [] else [⟨q, n⟩]
def stepL (g : GlD) (c : CfgD) (b : Nat) : List HeldD := (List.range g.p.length).flatMap fun q : Nat => heldOf q (cntD g c b q)
def stepD (g : GlD) (c : CfgD) (b : Nat) : CfgD := ⟨false, stepL g c b⟩
def StepC (g : GlD) (c : CfgD) (b : Nat) : CfgD := if rightC g c then stepD g c b else ⟨false, []⟩
def rul (g : GlD) (best : Int) : List HeldD → Int
  | [] => best
  | h :: r => rul g (if (g.at h.p).last && (ripeD g h && (decide (best < 0) || decide ((g.at h.p).rule < best))) then (g.at h.p).rule else best) r
def ruleD (g : GlD) (c : CfgD) : Int := rul g (-1) c.l
def RuleC (g : GlD) (c : CfgD) : Int := if rightC g c then ruleD g c else -1
/-- From a state on, over bytes: how far, by which rule; 'i': how many bytes are ahead. -/
def lon (g : GlD) (c : CfgD) (to best : Int) (i : Nat) : List Nat → Int × Int
  | [] => (to, best)
  | b :: w => let d := stepD g c b
    if 0 ≤ ruleD g d then lon g d ((i : Int) + 1) (ruleD g d) (i + 1) w else lon g d to best (i + 1) w
def startD : CfgD := ⟨true, []⟩
/-! ### Numbers that rise -/
theorem rz_cons (a m x : Int) (r : List Int) : rz a m (x :: r) = (decide (a < x) && (decide (x < m) && rz x m r)) := rfl
theorem fitsL_cons (g : GlD) (a : Int) (h : HeldD) (r : List HeldD) : fitsL g a (h :: r) = (decide (a < h.p) && (decide (h.p < g.p.length) && (!h.n.isEmpty && (rz 0 ((g.at h.p).hi + 1) h.n && fitsL g h.p r)))) := rfl
theorem rul_cons (g : GlD) (best : Int) (h : HeldD) (r : List HeldD) : rul g best (h :: r) = rul g (if (g.at h.p).last && (ripeD g h && (decide (best < 0) || decide ((g.at h.p).rule < best))) then (g.at h.p).rule else best) r := rfl
theorem rz_mem : ∀ {l : List Int} {a m : Int}, rz a m l = true → ∀ x ∈ l, a < x ∧ x < m
  | [], a, m, h, x, hx => by cases hx
  | y :: r, a, m, h, x, hx => by
    simp only [rz, Bool.and_eq_true, decide_eq_true_eq] at h
    rcases List.mem_cons.1 hx with rfl | hx
    · exact ⟨h.1, h.2.1⟩
    · have := rz_mem h.2.2 x hx; omega
theorem rz_mono : ∀ {l : List Int} {a b m : Int}, b ≤ a → rz a m l = true → rz b m l = true
  | [], a, b, m, _, h => rfl
  | y :: r, a, b, m, hb, h => by
    simp only [rz, Bool.and_eq_true, decide_eq_true_eq] at h ⊢
    exact ⟨by omega, h.2⟩
theorem rz_up : ∀ {l : List Int} {a m k : Int}, rz a m l = true → rz (a + 1) (k + 1) (upD k l) = true
  | [], a, m, k, h => rfl
  | y :: r, a, m, k, h => by
    simp only [rz, Bool.and_eq_true, decide_eq_true_eq] at h
    unfold upD
    by_cases hy : y < k
    · rw [List.filter_cons_of_pos (by simpa using hy), List.map_cons]
      have := rz_up (k := k) h.2.2
      simp only [rz, Bool.and_eq_true, decide_eq_true_eq]
      exact ⟨by omega, by omega, this⟩
    · rw [List.filter_cons_of_neg (by simpa using hy)]
      exact rz_mono (by omega) (rz_up (k := k) h.2.2)
theorem fitsL_mono {g : GlD} : ∀ {l : List HeldD} {a b : Int}, b ≤ a → fitsL g a l = true → fitsL g b l = true
  | [], a, b, _, h => rfl
  | y :: r, a, b, hb, h => by
    simp only [fitsL, Bool.and_eq_true, decide_eq_true_eq] at h ⊢
    exact ⟨by omega, h.2⟩
theorem fitsL_mem {g : GlD} : ∀ {l : List HeldD} {a : Int}, fitsL g a l = true → ∀ x ∈ l, a < x.p ∧ x.p < g.p.length ∧ x.n ≠ [] ∧ rz 0 ((g.at x.p).hi + 1) x.n = true
  | [], a, h, x, hx => by cases hx
  | y :: r, a, h, x, hx => by
    simp only [fitsL, Bool.and_eq_true, decide_eq_true_eq] at h
    rcases List.mem_cons.1 hx with rfl | hx
    · exact ⟨h.1, h.2.1, by simpa using h.2.2.1, h.2.2.2.1⟩
    · have := fitsL_mem h.2.2.2.2 x hx
      exact ⟨by omega, this.2⟩
theorem fitsL_len {g : GlD} : ∀ {l : List HeldD} {a : Int}, fitsL g a l = true → a < g.p.length → (l.length : Int) + a + 1 ≤ g.p.length
  | [], a, h, ha => by simp; omega
  | y :: r, a, h, ha => by
    simp only [fitsL, Bool.and_eq_true, decide_eq_true_eq] at h
    have := fitsL_len h.2.2.2.2 (by omega)
    rw [List.length_cons]; omega
theorem fits_len {g : GlD} {c : CfgD} (h : fitsD g c = true) : c.l.length ≤ g.p.length := by
  unfold fitsD at h
  by_cases hb : c.b = true
  · rw [if_pos hb] at h
    have : c.l = [] := by simpa using h
    rw [this]; simp
  · rw [if_neg hb] at h
    have := fitsL_len h (by omega); omega
theorem fits_mem {g : GlD} {c : CfgD} (h : fitsD g c = true) : ∀ x ∈ c.l, 0 ≤ x.p ∧ x.p < g.p.length ∧ x.n ≠ [] ∧ rz 0 ((g.at x.p).hi + 1) x.n = true := by
  unfold fitsD at h
  by_cases hb : c.b = true
  · rw [if_pos hb] at h
    have : c.l = [] := by simpa using h
    rw [this]; intro x hx; cases hx
  · rw [if_neg hb] at h
    intro x hx
    have := fitsL_mem h x hx
    exact ⟨by omega, this.2⟩
theorem fits_at {g : GlD} {c : CfgD} (h : fitsD g c = true) {k : Nat} (hk : k < c.l.length) : 0 ≤ (c.l[k]).p ∧ (c.l[k]).p < g.p.length ∧ (c.l[k]).n ≠ [] ∧ rz 0 ((g.at (c.l[k]).p).hi + 1) (c.l[k]).n = true := fits_mem h _ (List.getElem_mem _)
theorem last_get {l : List Int} (h : l ≠ []) : l[l.length - 1]? = some (l.getLastD 0) := by
  rw [← List.getLast?_eq_getElem?, List.getLast?_eq_some_getLast h]
  cases l with
  | nil => exact absurd rfl h
  | cons x r => simp [List.getLastD]
/-- What no place ahead has does not stay. -/
theorem staysL_lt {g : GlD} {q : Int} : ∀ {l : List HeldD} {a : Int}, fitsL g a l = true → q ≤ a → staysL g q l = []
  | [], a, h, hq => rfl
  | y :: r, a, h, hq => by
    simp only [fitsL, Bool.and_eq_true, decide_eq_true_eq] at h
    unfold staysL
    rw [List.flatMap_cons, if_neg (by omega)]
    exact staysL_lt h.2.2.2.2 (by omega)
theorem stays_rz {g : GlD} {q : Int} : ∀ {l : List HeldD} {a : Int}, fitsL g a l = true → rz 1 ((g.at q).hi + 1) (staysL g q l) = true
  | [], a, h => rfl
  | y :: r, a, h => by
    have h' := h
    simp only [fitsL, Bool.and_eq_true, decide_eq_true_eq] at h
    unfold staysL
    rw [List.flatMap_cons]
    by_cases e : y.p = q
    · subst e
      have := staysL_lt (q := y.p) h.2.2.2.2 (Int.le_refl _)
      unfold staysL at this
      rw [if_pos rfl, this, List.append_nil]
      exact rz_up h.2.2.2.1
    · rw [if_neg e]
      exact stays_rz h.2.2.2.2
theorem cnt_rz {g : GlD} {c : CfgD} {b : Nat} {q : Int} (hc : fitsD g c = true) (hq : 1 ≤ (g.at q).hi) : rz 0 ((g.at q).hi + 1) (cntD g c b q) = true := by
  unfold cntD
  have hs : rz 1 ((g.at q).hi + 1) (staysL g q c.l) = true := by
    unfold fitsD at hc
    by_cases hb : c.b = true
    · rw [if_pos hb] at hc
      have : c.l = [] := by simpa using hc
      rw [this]; rfl
    · rw [if_neg hb] at hc; exact stays_rz hc
  by_cases h1 : hasD g b q = true
  · rw [if_pos h1]
    by_cases h2 : entersD g c q = true
    · rw [if_pos h2]
      show rz 0 _ (1 :: staysL g q c.l) = true
      simp only [rz, Bool.and_eq_true, decide_eq_true_eq]
      exact ⟨by omega, by omega, hs⟩
    · rw [if_neg h2]; exact rz_mono (by omega) hs
  · rw [if_neg h1]; rfl
theorem at_get {g : GlD} {i : Int} (h0 : 0 ≤ i) (h1 : i.toNat < g.p.length) : g.p[i.toNat] = g.at i := by
  unfold GlD.at
  rw [List.getD_eq_getElem?_getD, List.getElem?_eq_getElem h1]; rfl
theorem right_hi {g : GlD} (hg : rightD g = true) {q : Nat} (hq : q < g.p.length) : mayD g.p.length (g.at q) = true := by
  unfold rightD at hg
  simp only [Bool.and_eq_true, List.all_eq_true] at hg
  refine hg.2.2 _ ?_
  unfold GlD.at
  rw [Int.toNat_natCast, List.getD_eq_getElem?_getD, List.getElem?_eq_getElem hq]
  exact List.getElem_mem _
theorem may_spec {many : Int} {p : PosD} (h : mayD many p = true) : p.s ≠ 0 ∧ 1 ≤ p.lo ∧ p.lo ≤ p.hi ∧ p.hi ≤ 4096 ∧ 0 ≤ p.rule ∧ p.rule < 512 ∧ rz (-1) many p.next = true := by
  unfold mayD at h
  simp only [Bool.and_eq_true, decide_eq_true_eq] at h
  exact h
theorem right_at {g : GlD} (hg : rightD g = true) {i : Int} (h0 : 0 ≤ i) (h1 : i < g.p.length) : mayD g.p.length (g.at i) = true := by
  have := right_hi hg (q := i.toNat) (by omega)
  rwa [Int.toNat_of_nonneg h0] at this
theorem right_len {g : GlD} (hg : rightD g = true) : g.p.length ≤ 512 := by
  unfold rightD at hg
  simp only [Bool.and_eq_true, decide_eq_true_eq] at hg
  exact hg.1
theorem step_fits_aux {g : GlD} {c : CfgD} {b : Nat} (hg : rightD g = true) (hc : fitsD g c = true) : ∀ (n a : Nat), a + n = g.p.length → fitsL g ((a : Int) - 1) ((List.range' a n).flatMap fun q : Nat => heldOf q (cntD g c b q)) = true
  | 0, a, _ => rfl
  | n + 1, a, h => by
    rw [List.range'_succ, List.flatMap_cons]
    have ih := step_fits_aux (b := b) hg hc n (a + 1) (by omega)
    have ih' : fitsL g a ((List.range' (a + 1) n).flatMap fun q : Nat => heldOf q (cntD g c b q)) = true := by
      rw [show ((a + 1 : Nat) : Int) - 1 = (a : Int) by omega] at ih; exact ih
    have hm := may_spec (right_hi hg (show a < g.p.length by omega))
    have hz := cnt_rz (b := b) (q := (a : Int)) hc (by omega)
    unfold heldOf
    by_cases e : cntD g c b a = []
    · rw [if_pos e]
      exact fitsL_mono (by omega) ih'
    · rw [if_neg e]
      show fitsL g _ (⟨a, cntD g c b a⟩ :: _) = true
      simp only [fitsL, Bool.and_eq_true, decide_eq_true_eq]
      exact ⟨by omega, by omega, by simpa using e, hz, ih'⟩
/-- Behind a byte it may be so. -/
theorem step_fits {g : GlD} {c : CfgD} {b : Nat} (hg : rightD g = true) (hc : fitsD g c = true) : fitsD g (stepD g c b) = true := by
  unfold fitsD stepD stepL
  have := step_fits_aux (b := b) hg hc g.p.length 0 (by omega)
  rw [← List.range_eq_range'] at this
  simpa using this
theorem start_fits (g : GlD) : fitsD g startD = true := rfl
theorem mem_stepL {g : GlD} {c : CfgD} {b : Nat} {h : HeldD} (hh : h ∈ stepL g c b) : ∃ q : Nat, q < g.p.length ∧ h = ⟨q, cntD g c b q⟩ ∧ cntD g c b q ≠ [] := by
  unfold stepL at hh
  rw [List.mem_flatMap] at hh
  obtain ⟨q, hq, hh⟩ := hh
  unfold heldOf at hh
  split at hh
  · cases hh
  · rename_i e
    simp at hh
    exact ⟨q, by simpa using hq, hh, e⟩
theorem stepL_nil {g : GlD} {c : CfgD} {b : Nat} (h : ∀ q : Nat, q < g.p.length → cntD g c b q = []) : stepL g c b = [] := by
  unfold stepL
  rw [List.flatMap_eq_nil_iff]
  intro q hq
  unfold heldOf
  rw [if_pos (h q (by simpa using hq))]
/-- From nowhere one comes nowhere. -/
theorem stepL_none {g : GlD} {b : Nat} : stepL g ⟨false, []⟩ b = [] := stepL_nil fun q _ => by
  unfold cntD entersD staysL
  simp
theorem lon_none {g : GlD} : ∀ (w : List Nat) (to best : Int) (i : Nat), lon g ⟨false, []⟩ to best i w = (to, best)
  | [], _, _, _ => rfl
  | b :: w, to, best, i => by
    unfold lon
    have e : stepD g ⟨false, []⟩ b = ⟨false, []⟩ := by unfold stepD; rw [stepL_none]
    simp only [e]
    have : ¬ (0 : Int) ≤ ruleD g ⟨false, []⟩ := by unfold ruleD rul; decide
    rw [if_neg this]
    exact lon_none w to best (i + 1)
end V
end Go.Proofs.Ytmmdcdjkmakgpaa
