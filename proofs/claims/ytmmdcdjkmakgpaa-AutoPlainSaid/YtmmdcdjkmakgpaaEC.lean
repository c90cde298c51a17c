/- Bounds of counted places that are others change nothing of the states. Plain: no program in sight.
   No condition. -/
import Derived.Test.YtmmdcdjkmakgpaaBP
set_option linter.unusedVariables false
set_option linter.unusedSimpArgs false
namespace Go.Proofs.Ytmmdcdjkmakgpaa
namespace V
open PA
/-- Places that differ in bounds alone, and are counted alike. -/
structure Alike1 (p q : PosD) : Prop where
  s : p.s = q.s
  rule : p.rule = q.rule
  last : p.last = q.last
  next : p.next = q.next
  ct : ctdP p = ctdP q
structure AlikeG (x y : GlD) : Prop where
  first : x.first = y.first
  len : x.p.length = y.p.length
  each : ∀ (i : Nat) p q, x.p[i]? = some p → y.p[i]? = some q → Alike1 p q
section
variable {x y : GlD}
theorem AlikeG.at (h : AlikeG x y) (q : Int) : Alike1 (x.at q) (y.at q) := by
  unfold GlD.at
  rw [List.getD_eq_getElem?_getD, List.getD_eq_getElem?_getD]
  cases hx : x.p[q.toNat]? with
  | none =>
    have : y.p[q.toNat]? = none := by rw [List.getElem?_eq_none_iff] at hx ⊢; have := h.len; omega
    rw [this]; exact ⟨rfl, rfl, rfl, rfl, rfl⟩
  | some p =>
    have hl := (List.getElem?_eq_some_iff.1 hx).1
    have hy : y.p[q.toNat]? = some (y.p[q.toNat]'(by have := h.len; omega)) := List.getElem?_eq_getElem _
    rw [hy]; exact h.each _ _ _ hx hy
theorem AlikeG.ctd (h : AlikeG x y) : ctd x = ctd y := funext fun q => (h.at q).ct
theorem filter_len : ∀ {a b : List PosD}, a.length = b.length → (∀ (i : Nat) p q, a[i]? = some p → b[i]? = some q → Alike1 p q) → (a.filter ctdP).length = (b.filter ctdP).length
  | [], [], _, _ => rfl
  | p :: a, q :: b, hl, he => by
    have h0 := (he 0 p q rfl rfl).ct
    have ih := filter_len (a := a) (b := b) (by simpa using hl) fun i p q hp hq => he (i + 1) p q (by simpa using hp) (by simpa using hq)
    cases hc : ctdP q with
    | true => rw [List.filter_cons_of_pos (h0.trans hc), List.filter_cons_of_pos hc, List.length_cons, List.length_cons, ih]
    | false => rw [List.filter_cons_of_neg (by rw [h0, hc]; decide), List.filter_cons_of_neg (by rw [hc]; decide), ih]
  | [], q :: b, hl, _ => by simp at hl
  | p :: a, [], hl, _ => by simp at hl
theorem AlikeG.num (h : AlikeG x y) : numZ x = numZ y := funext fun q => by
  unfold numZ
  rw [filter_len (a := x.p.take q.toNat) (b := y.p.take q.toNat) (by rw [List.length_take, List.length_take, h.len]) fun i p r hp hr => by
    rw [List.getElem?_take] at hp hr
    split at hp
    · rename_i hi
      rw [if_pos hi] at hr
      exact h.each i p r hp hr
    · cases hp]
theorem AlikeG.regs (h : AlikeG x y) : regsZ x = regsZ y := funext fun l => by unfold regsZ; rw [h.ctd, h.num]
theorem AlikeG.digs (h : AlikeG x y) : ∀ (l : List Int) (c : Int), digs x l c = digs y l c
  | [], c => rfl
  | p :: r, c => by rw [digs_cons, digs_cons, h.ctd, h.digs r (c / 3), h.digs r c]
theorem AlikeG.enters (h : AlikeG x y) (k : Nat) (D : List (Int × Int)) : entersZ x k D = entersZ y k D := funext fun q => by
  unfold entersZ
  rw [h.first]
  congr 2
  funext d
  rw [(h.at d.1).next]
theorem AlikeG.rule (h : AlikeG x y) : ∀ (D : List (Int × Int)) (b : Int), ruleZ x b D = ruleZ y b D
  | [], b => rfl
  | d :: r, b => by rw [ruleZ_cons, ruleZ_cons, (h.at d.1).last, (h.at d.1).rule, h.rule r]
theorem AlikeG.lz (h : AlikeG x y) (en st : Int → Bool) (b : Nat) : lZ x en st b = lZ y en st b := by
  unfold lZ
  rw [h.len]
  congr 1
  funext q
  unfold takesZ
  rw [(h.at q).s]
theorem AlikeG.ops (h : AlikeG x y) (en st : Int → Bool) (l : List Int) : opsZ x en st l = opsZ y en st l := by unfold opsZ; rw [h.ctd]
theorem AlikeG.find (h : AlikeG x y) (S : List StateD) (l : List Int) : findZ x S l = findZ y S l := by unfold findZ; rw [h.regs]
theorem AlikeG.goes (h : AlikeG x y) (en st : Int → Bool) (b : Nat) (S : List StateD) : goesZ x en st b S = goesZ y en st b S := by
  by_cases hl : lZ y en st b = []
  · rw [goesZ_nil hl, goesZ_nil (by rw [h.lz]; exact hl)]
  · rw [goesZ_ne hl, goesZ_ne (by rw [h.lz]; exact hl), h.lz, h.find, h.ops]
theorem AlikeG.row (h : AlikeG x y) (en st : Int → Bool) : ∀ (B : List Nat) (S : List StateD), rowZ x en st B S = rowZ y en st B S
  | [], S => rfl
  | b :: r, S => by rw [rowZ_cons, rowZ_cons, h.goes, h.row en st r]
theorem AlikeG.code (h : AlikeG x y) (B : List Nat) (k : Nat) (c : Int) (S : List StateD) : codeZ x B k c S = codeZ y B k c S := by
  unfold codeZ
  dsimp only
  rw [h.digs, h.enters, h.row, h.rule]
theorem AlikeG.codes (h : AlikeG x y) (B : List Nat) (k : Nat) : ∀ (n : Nat) (c : Int) (S : List StateD), codesZ x B k n c S = codesZ y B k n c S
  | 0, c, S => rfl
  | n + 1, c, S => by rw [codesZ_succ, codesZ_succ, h.code, h.codes B k n]
theorem AlikeG.all (h : AlikeG x y) (B : List Nat) : ∀ (n k : Nat) (S : List StateD), allZ x B n k S = allZ y B n k S
  | 0, k, S => rfl
  | n + 1, k, S => by rw [allZ_succ, allZ_succ, h.codes, h.all B n]
theorem AlikeG.sets (h : AlikeG x y) : setsL x.p = setsL y.p := by
  unfold setsL
  apply List.ext_getElem?
  intro i
  rw [List.getElem?_map, List.getElem?_map]
  cases hx : x.p[i]? with
  | none =>
    have : y.p[i]? = none := by rw [List.getElem?_eq_none_iff] at hx ⊢; have := h.len; omega
    rw [this]
  | some p =>
    have hl := (List.getElem?_eq_some_iff.1 hx).1
    have hy : y.p[i]? = some (y.p[i]'(by have := h.len; omega)) := List.getElem?_eq_getElem _
    rw [hy]
    show some p.s = some _
    rw [(h.each _ _ _ hx hy).s]
theorem AlikeG.cnts (h : AlikeG x y) : (cntsL x.p).length = (cntsL y.p).length := by
  unfold cntsL
  rw [List.length_map, List.length_map]
  exact filter_len h.len h.each
/-- Whatever the bounds: the same error, the same states. -/
theorem AlikeG.of (h : AlikeG x y) (hx : rightD x = true) (hy : rightD y = true) : (ofZ x).1 = (ofZ y).1 ∧ (ofZ x).2.c = (ofZ y).2.c ∧ (ofZ x).2.many = (ofZ y).2.many ∧ (ofZ x).2.states = (ofZ y).2.states ∧ (ofZ x).2.counts.length = (ofZ y).2.counts.length ∧ ((ofZ y).1 = 0 → (ofZ y).2.counts = cntsL y.p) ∧ ((ofZ y).1 ≠ 0 → (ofZ y).2.counts = []) := by
  have hB : ofB x = ofB y := by unfold ofB; rw [h.sets]
  unfold ofZ
  rw [if_pos hx, if_pos hy, hB, h.all]
  by_cases h0 : (allZ y (ofB y) 256 0 [noS]).1 = 0
  · rw [if_pos h0, if_pos h0]
    refine ⟨rfl, ?_, ?_, rfl, h.cnts, fun _ => rfl, fun h => absurd rfl h⟩
    · show cls (setsL x.p) = cls (setsL y.p); rw [h.sets]
    · show (many (setsL x.p) : Int) = many (setsL y.p); rw [h.sets]
  · rw [if_neg h0, if_neg h0]
    exact ⟨rfl, rfl, rfl, rfl, rfl, fun h => absurd h h0, fun _ => rfl⟩
end
/-! ### Bounds that are others -/
def newP2 (p : PosD) (d : Nat × Nat) : PosD := ⟨p.s, 1 + ((d.1 : Nat) : Int) % (2 + ((d.2 % 4095 : Nat) : Int)), 2 + ((d.2 % 4095 : Nat) : Int), p.rule, p.last, p.next⟩
def setB (i : Nat) (l : List (Nat × Nat)) (p : PosD) : PosD := if 1 < p.hi then (match l[i]? with | some d => newP2 p d | none => p) else p
def boundsP (l : List (Nat × Nat)) : List PosD → Nat → List PosD
  | [], _ => []
  | p :: r, i => setB i l p :: boundsP l r (i + 1)
theorem boundsP_len (l : List (Nat × Nat)) : ∀ (ps : List PosD) (i : Nat), (boundsP l ps i).length = ps.length
  | [], _ => rfl
  | p :: r, i => by simp [boundsP, boundsP_len l r (i + 1)]
theorem boundsP_get (l : List (Nat × Nat)) : ∀ (ps : List PosD) (i j : Nat), (boundsP l ps i)[j]? = (ps[j]?).map (setB (i + j) l)
  | [], i, j => by simp [boundsP]
  | p :: r, i, 0 => by simp [boundsP]
  | p :: r, i, j + 1 => by
    have := boundsP_get l r (i + 1) j
    simp only [boundsP, List.getElem?_cons_succ]
    rw [this, show i + 1 + j = i + (j + 1) by omega]
theorem boundsP_snoc (l : List (Nat × Nat)) : ∀ (ps : List PosD) (i : Nat) (p : PosD), boundsP l (ps ++ [p]) i = boundsP l ps i ++ [setB (i + ps.length) l p]
  | [], i, p => rfl
  | q :: r, i, p => by
    have := boundsP_snoc l r (i + 1) p
    simp only [List.cons_append, boundsP, this, List.length_cons]
    rw [show i + 1 + r.length = i + (r.length + 1) by omega]
def boundsG (x : GlD) (l : List (Nat × Nat)) : GlD := ⟨x.first, boundsP l x.p 0⟩
theorem setB_alike (i : Nat) (l : List (Nat × Nat)) (p : PosD) : Alike1 p (setB i l p) := by
  unfold setB
  split
  · rename_i h
    split
    · rename_i d _
      refine ⟨rfl, rfl, rfl, rfl, ?_⟩
      unfold ctdP newP2
      show decide (1 < p.hi) = decide (1 < 2 + ((d.2 % 4095 : Nat) : Int))
      rw [decide_eq_true h, decide_eq_true (by omega)]
    · exact ⟨rfl, rfl, rfl, rfl, rfl⟩
  · exact ⟨rfl, rfl, rfl, rfl, rfl⟩
theorem boundsG_alike (x : GlD) (l : List (Nat × Nat)) : AlikeG x (boundsG x l) := ⟨rfl, (boundsP_len l x.p 0).symm, fun i p q hp hq => by
  have hq : (boundsP l x.p 0)[i]? = some q := hq
  rw [boundsP_get, hp] at hq
  cases hq
  exact setB_alike _ _ _⟩
theorem setB_may {m : Int} {i : Nat} {l : List (Nat × Nat)} {p : PosD} (h : mayD m p = true) : mayD m (setB i l p) = true := by
  unfold setB
  split
  · split
    · rename_i d _
      unfold mayD newP2 at *
      simp only [Bool.and_eq_true, decide_eq_true_eq] at h ⊢
      have h1 : 0 ≤ ((d.1 : Nat) : Int) % (2 + ((d.2 % 4095 : Nat) : Int)) := Int.emod_nonneg _ (by omega)
      have h2 : ((d.1 : Nat) : Int) % (2 + ((d.2 % 4095 : Nat) : Int)) < 2 + ((d.2 % 4095 : Nat) : Int) := Int.emod_lt_of_pos _ (by omega)
      exact ⟨h.1, by omega, by omega, by omega, h.2.2.2.2.1, h.2.2.2.2.2.1, h.2.2.2.2.2.2⟩
    · exact h
  · exact h
theorem boundsG_right {x : GlD} {l : List (Nat × Nat)} (h : rightD x = true) : rightD (boundsG x l) = true := by
  have hl : (boundsG x l).p.length = x.p.length := boundsP_len l x.p 0
  unfold rightD at *
  simp only [Bool.and_eq_true, decide_eq_true_eq, List.all_eq_true] at h ⊢
  rw [hl]
  refine ⟨h.1, h.2.1, fun q hq => ?_⟩
  obtain ⟨i, hi⟩ := List.mem_iff_getElem?.1 hq
  have hi : (boundsP l x.p 0)[i]? = some q := hi
  rw [boundsP_get] at hi
  cases hp : x.p[i]? with
  | none => rw [hp] at hi; cases hi
  | some p =>
    rw [hp] at hi
    cases hi
    exact setB_may (h.2.2 p (List.mem_of_getElem? hp))
end V
end Go.Proofs.Ytmmdcdjkmakgpaa
