/- The machine of VA held against the model's: a region that draws its order: what its table tells.
   No condition. -/
import Derived.Test.YtepbdkfkfcckoaaVT
set_option linter.unusedVariables false
set_option linter.unusedSimpArgs false
namespace Go.Proofs.Ytepbdkfkfcckoaa
namespace V
/-! ### What must stand ahead -/
def befStep (acc : Array Nat) (o : Oper) : Nat := o.after.foldl (fun s e => if Region.binds .any e then s ||| 2 ^ e.on ||| acc.getD e.on 0 else s) 0
def befL : List Oper → Array Nat → Array Nat
  | [], acc => acc
  | o :: l, acc => befL l (acc.push (befStep acc o))
theorem bef_eq (ops : Array Oper) : bef ops = befL ops.toList #[] := by
  unfold bef Region.before
  rw [← Array.foldl_toList]
  generalize (#[] : Array Nat) = acc
  induction ops.toList generalizing acc with
  | nil => rfl
  | cons o l ih => rw [List.foldl_cons, ih]; rfl
theorem befL_old : ∀ (l : List Oper) (acc : Array Nat) (j : Nat), j < acc.size → (befL l acc).getD j 0 = acc.getD j 0 := by
  intro l
  induction l with
  | nil => intro acc j _; rfl
  | cons o l ih =>
    intro acc j hj
    rw [befL, ih _ j (by simp; omega)]
    simp [Array.getElem?_push, show ¬ j = acc.size by omega]
theorem befStep_bit (acc : Array Nat) (o : Oper) (i : Nat) (h : (befStep acc o).testBit i = true) : ∃ e ∈ o.after.toList, Region.binds .any e = true ∧ (i = e.on ∨ (acc.getD e.on 0).testBit i = true) := by
  unfold befStep at h
  rw [← Array.foldl_toList] at h
  have key : ∀ (l : List Edge) (s : Nat), (l.foldl (fun s e => if Region.binds .any e then s ||| 2 ^ e.on ||| acc.getD e.on 0 else s) s).testBit i = true →
      s.testBit i = true ∨ ∃ e ∈ l, Region.binds .any e = true ∧ (i = e.on ∨ (acc.getD e.on 0).testBit i = true) := by
    intro l
    induction l with
    | nil => intro s h; exact .inl h
    | cons e l ih =>
      intro s h
      rw [List.foldl_cons] at h
      rcases ih _ h with h1 | ⟨e', h1, h2, h3⟩
      · by_cases hb : Region.binds .any e = true
        · rw [if_pos hb] at h1
          rw [Nat.testBit_or, Nat.testBit_or, Bool.or_eq_true, Bool.or_eq_true] at h1
          rcases h1 with (h1 | h1) | h1
          · exact .inl h1
          · refine .inr ⟨e, by simp, hb, .inl ?_⟩
            rw [Nat.testBit_two_pow] at h1
            exact (of_decide_eq_true h1).symm
          · exact .inr ⟨e, by simp, hb, .inr h1⟩
        · rw [if_neg hb] at h1
          exact .inl h1
      · exact .inr ⟨e', by simp [h1], h2, h3⟩
  rcases key _ _ h with h1 | h1
  · simp at h1
  · exact h1
theorem befL_at : ∀ (l : List Oper) (acc : Array Nat) (k : Nat) (o : Oper), l[k]? = some o → ∃ acc' : Array Nat, acc'.size = acc.size + k ∧ (befL l acc).getD (acc.size + k) 0 = befStep acc' o ∧ ∀ j, j < acc'.size → acc'.getD j 0 = (befL l acc).getD j 0 := by
  intro l
  induction l with
  | nil => intro acc k o h; simp at h
  | cons x l ih =>
    intro acc k o h
    cases k with
    | zero =>
      simp at h; subst h
      refine ⟨acc, rfl, ?_, fun j hj => ?_⟩
      · rw [befL, befL_old _ _ _ (by simp)]
        simp
      · rw [befL, befL_old _ _ _ (by simp; omega)]
        simp [Array.getElem?_push, show ¬ j = acc.size by omega]
    | succ k =>
      obtain ⟨acc', h1, h2, h3⟩ := ih (acc.push (befStep acc x)) k o (by simpa using h)
      refine ⟨acc', by simp at h1; omega, ?_, ?_⟩
      · rw [befL]
        simp only [Array.size_push] at h2
        rw [show acc.size + (k + 1) = acc.size + 1 + k by omega]; exact h2
      · rw [befL]; exact h3
/-- A bit of 'bef': an edge leads there, or to one whose bits hold it. -/
theorem bef_spec {ops : Array Oper} {j i : Nat} {o : Oper} (ho : ops[j]? = some o) (hb : ((bef ops).getD j 0).testBit i = true) :
    ∃ e ∈ o.after.toList, Region.binds .any e = true ∧ (i = e.on ∨ (e.on < j ∧ ((bef ops).getD e.on 0).testBit i = true)) := by
  rw [bef_eq] at hb ⊢
  obtain ⟨acc', h1, h2, h3⟩ := befL_at ops.toList #[] j o (by simpa using ho)
  simp at h1 h2
  rw [show (befL ops.toList #[]).getD j 0 = befStep acc' o by simpa using h2] at hb
  obtain ⟨e, he, hbind, hor⟩ := befStep_bit acc' o i hb
  refine ⟨e, he, hbind, ?_⟩
  rcases hor with h | h
  · exact .inl h
  · by_cases hlt : e.on < acc'.size
    · rw [h3 _ hlt] at h
      exact .inr ⟨by omega, h⟩
    · exfalso
      have : acc'.getD e.on 0 = 0 := by simp [Array.getElem?_eq_none (Nat.le_of_not_lt hlt)]
      rw [this] at h; simp at h
/-! ### The region's data -/
structure DR (P : Program) (ro : Ro) (C : CallR) (n : Nat) (ops : Array Oper) (s : St) (S : Nat → St) (V : Nat → Value) (OB : Nat → Option Obj) : Prop where
  row : ∀ j o, ops[j]? = some o → opAt P ro C n ops s.nx j o (S j) (S (j + 1)) (V j) (OB j)
  s0 : S 0 = ⟨s.t, s.h, s.nx + ops.size⟩
  p1 : ∀ j1 j2 o1 o2 a, j1 < j2 → ops[j1]? = some o1 → ops[j2]? = some o2 → wanted ops (S j1).t o1 = true → wanted ops (S j2).t o2 = true → loud o1.op = false → rdB P (S j1).t o1.op = some a → loud o2.op = true →
    free (bef ops) j1 j2 = true → same a (S j2).h (S (j2 + 1)).h
  p2 : ∀ j1 j2 o1 o2 a, j1 < j2 → ops[j1]? = some o1 → ops[j2]? = some o2 → wanted ops (S j1).t o1 = true → wanted ops (S j2).t o2 = true → loud o1.op = true → loud o2.op = false → rdB P (S j2).t o2.op = some a →
    free (bef ops) j1 j2 = true → same a (S j1).h (S (j1 + 1)).h
  ok : drawOk P ops = true
  mono : MonoC C
  fresh : ∀ k, s.nx ≤ k → s.h.get k = none
section
variable {P : Program} {ro : Ro} {C : CallR} {n : Nat} {ops : Array Oper} {s : St} {S : Nat → St} {V : Nat → Value} {OB : Nat → Option Obj}
theorem DR.pair (d : DR P ro C n ops s S V OB) {i j : Nat} {oi oj : Oper} (hij : i < j) (hi : ops[i]? = some oi) (hj : ops[j]? = some oj) (hf : free (bef ops) i j = true) : pairOk P ops oi oj = true := by
  have h := d.ok
  unfold drawOk at h
  have hjl := (Array.getElem?_eq_some_iff.1 hj).1
  have h1 := List.all_eq_true.1 h j (List.mem_range.2 hjl)
  rw [hj] at h1
  simp only [Bool.and_eq_true] at h1
  have h2 := List.all_eq_true.1 h1.2 i (List.mem_range.2 hij)
  rw [hi] at h2
  simp only [hf] at h2
  exact h2
theorem DR.edge (d : DR P ro C n ops s S V OB) {j : Nat} {oj : Oper} (hj : ops[j]? = some oj) {e : Edge} (he : e ∈ oj.after.toList) (hb : Region.binds .any e = true) : e.on < j := by
  have h := d.ok
  unfold drawOk at h
  have hjl := (Array.getElem?_eq_some_iff.1 hj).1
  have h1 := List.all_eq_true.1 h j (List.mem_range.2 hjl)
  rw [hj] at h1
  simp only [Bool.and_eq_true] at h1
  have h2 := List.all_eq_true.1 h1.1 e he
  rw [hb] at h2
  simpa using h2
/-- Listed sets that hold, with an operation, all that must stand ahead of it. -/
def Closed (ops : Array Oper) (L : Nat → Bool) : Prop := ∀ j o, ops[j]? = some o → L j = true → ∀ e ∈ o.after.toList, Region.binds .any e = true → L e.on = true
theorem DR.anc (d : DR P ro C n ops s S V OB) {L : Nat → Bool} (hc : Closed ops L) : ∀ (j : Nat) (o : Oper) (i : Nat), ops[j]? = some o → (∀ e ∈ o.after.toList, Region.binds .any e = true → L e.on = true) → free (bef ops) i j = false → L i = true := by
  intro j
  induction j using Nat.strongRecOn with
  | ind j ih =>
    intro o i ho hL hf
    have hb : ((bef ops).getD j 0).testBit i = true := by simpa [free] using hf
    obtain ⟨e, he, hbind, hor⟩ := bef_spec ho hb
    rcases hor with rfl | ⟨hlt, hb2⟩
    · exact hL e he hbind
    · have hjl := (Array.getElem?_eq_some_iff.1 ho).1
      have hoe : ops[e.on]? = some ops[e.on] := Array.getElem?_eq_getElem (by omega)
      exact ih e.on hlt _ i hoe (hc e.on _ hoe (hL e he hbind)) (by unfold free; rw [hb2]; rfl)
/-- Is an operation carried out, and loud? -/
def loudAt (ops : Array Oper) (S : Nat → St) (j : Nat) : Bool := match ops[j]? with
  | some o => wanted ops (S j).t o && loud o.op
  | none => false
theorem DR.quiet (d : DR P ro C n ops s S V OB) {j : Nat} (hj : j < ops.size) (hl : loudAt ops S j = false) (b : Nat) :
    (S (j + 1)).nx = (S j).nx ∧ (S (j + 1)).h.get b = (if b = s.nx + j ∧ (OB j).isSome = true then OB j else (S j).h.get b) := by
  have ho : ops[j]? = some ops[j] := Array.getElem?_eq_getElem hj
  have hr := d.row j _ ho
  unfold loudAt at hl
  rw [ho] at hl
  unfold opAt at hr
  cases hw : wanted ops (S j).t ops[j] with
  | false =>
    rw [hw] at hr
    obtain ⟨t', _, e2, _, e4⟩ := hr
    rw [e4, e2]; simp
  | true =>
    rw [hw] at hr
    simp only [hw, Bool.true_and] at hl
    rw [hl] at hr
    obtain ⟨t', h1, h2, e⟩ := hr
    rw [e]
    refine ⟨rfl, ?_⟩
    cases hob : OB j with
    | none => simp [addO]
    | some o =>
      simp only [addO, T.get_upd, Option.isSome_some, and_true]
theorem DR.loudly (d : DR P ro C n ops s S V OB) {j : Nat} (hj : j < ops.size) (hl : loudAt ops S j = true) : Mono (S j).h (S j).nx (S (j + 1)).h (S (j + 1)).nx ∧ OB j = none := by
  have ho : ops[j]? = some ops[j] := Array.getElem?_eq_getElem hj
  have hr := d.row j _ ho
  unfold loudAt at hl
  rw [ho] at hl
  simp at hl
  unfold opAt at hr
  rw [hl.1, hl.2] at hr
  obtain ⟨h', nx', t', h1, h2, e, e2⟩ := hr
  rw [e]
  exact ⟨opL_mono d.mono h1, e2⟩
theorem DR.nx (d : DR P ro C n ops s S V OB) : ∀ j, j ≤ ops.size → s.nx + ops.size ≤ (S j).nx := by
  intro j
  induction j with
  | zero => intro _; rw [d.s0]; exact Nat.le_refl _
  | succ j ih =>
    intro hj
    cases hl : loudAt ops S j with
    | true => exact Nat.le_trans (ih (by omega)) (d.loudly (by omega) hl).1.1
    | false => rw [(d.quiet (by omega) hl 0).1]; exact ih (by omega)
theorem DR.gone (d : DR P ro C n ops s S V OB) : ∀ j, j ≤ ops.size → ∀ k, j ≤ k → k < ops.size → (S j).h.get (s.nx + k) = none := by
  intro j
  induction j with
  | zero => intro _ k _ _; rw [d.s0]; exact d.fresh _ (by omega)
  | succ j ih =>
    intro hj k h1 h2
    have := ih (by omega) k (by omega) h2
    cases hl : loudAt ops S j with
    | true => exact (d.loudly (by omega) hl).1.2 _ (by have := d.nx j (by omega); omega) this
    | false =>
      rw [(d.quiet (by omega) hl _).2, if_neg (by omega)]; exact this
theorem DR.range (d : DR P ro C n ops s S V OB) {b : Nat} {i : Nat} : ∀ j, i ≤ j → j ≤ ops.size → (∀ q, i ≤ q → q < j → loudAt ops S q = true → (S q).h.get b = (S (q + 1)).h.get b) →
    (∀ q, i ≤ q → q < j → b = s.nx + q → OB q = none) → (S j).h.get b = (S i).h.get b := by
  intro j
  induction j with
  | zero => intro h1 _ _ _; rw [Nat.le_zero.1 h1]
  | succ j ih =>
    intro h1 h2 h3 h4
    rcases Nat.lt_or_eq_of_le h1 with hlt | rfl
    · rw [← ih (by omega) (by omega) (fun q a b => h3 q a (by omega)) (fun q a b => h4 q a (by omega))]
      cases hl : loudAt ops S j with
      | true => exact (h3 j (by omega) (by omega) hl).symm
      | false =>
        rw [(d.quiet (by omega) hl _).2, if_neg]
        rintro ⟨e, hs⟩
        rw [h4 j (by omega) (by omega) e] at hs; cases hs
    · rfl
/-! ### Temporaries -/
def updD (t : T Value) (d : Option Tmp) (v : Value) : T Value := match d with
  | none => t
  | some d => t.upd d (some v)
def dstAt (ops : Array Oper) (j : Nat) : Option Tmp := (ops[j]?).bind (·.dst)
/-- The temporaries behind those operations, of the first m, that are listed. -/
def tmpL (ops : Array Oper) (s : St) (V : Nat → Value) (L : Nat → Bool) : Nat → T Value
  | 0 => s.t
  | m + 1 => if L m = true then updD (tmpL ops s V L m) (dstAt ops m) (V m) else tmpL ops s V L m
theorem put_updD {m : Nat} {t t' : T Value} {d : Option Tmp} {v : Value} (h : put m t d v = some t') : t' = updD t d v := by
  cases d with
  | none => cases h; rfl
  | some d =>
    simp only [put] at h
    cases hb : Nat.blt d m <;> rw [hb] at h <;> cases h
    rfl
theorem get_updD (t : T Value) (d : Option Tmp) (v : Value) (i : Nat) : (updD t d v).get i = if d = some i then some v else t.get i := by
  cases d with
  | none => simp [updD]
  | some d =>
    simp only [updD, T.get_upd, Option.some.injEq]
    by_cases e : i = d
    · rw [if_pos e, if_pos e.symm]
    · rw [if_neg e, if_neg (Ne.symm e)]
theorem tmpL_congr {A B : Nat → Bool} {d : Tmp} : ∀ m, (∀ k, k < m → dstAt ops k = some d → A k = B k) → (tmpL ops s V A m).get d = (tmpL ops s V B m).get d := by
  intro m
  induction m with
  | zero => intro _; rfl
  | succ m ih =>
    intro h
    have ih' := ih (fun k hk => h k (by omega))
    simp only [tmpL]
    by_cases e : dstAt ops m = some d
    · have := h m (by omega) e
      rw [this]
      split
      · rw [get_updD, get_updD, if_pos e, if_pos e]
      · exact ih'
    · split <;> split <;> (try simp only [get_updD, if_neg e]) <;> exact ih'
theorem DR.tmp (d : DR P ro C n ops s S V OB) : ∀ j, j ≤ ops.size → (S j).t = tmpL ops s V (fun _ => true) j := by
  intro j
  induction j with
  | zero => intro _; rw [d.s0]; rfl
  | succ j ih =>
    intro hj
    have ho : ops[j]? = some ops[j] := Array.getElem?_eq_getElem (by omega)
    have hr := d.row j _ ho
    have hd : dstAt ops j = ops[j].dst := by unfold dstAt; rw [ho]; rfl
    rw [show tmpL ops s V (fun _ => true) (j + 1) = updD (tmpL ops s V (fun _ => true) j) (dstAt ops j) (V j) from rfl, ← ih (by omega), hd]
    unfold opAt at hr
    cases hw : wanted ops (S j).t ops[j] with
    | false =>
      rw [hw] at hr
      obtain ⟨t', e1, _, h2, e4⟩ := hr
      rw [e4, e1]; exact put_updD h2
    | true =>
      rw [hw] at hr
      cases hl : loud ops[j].op with
      | true =>
        rw [hl] at hr
        obtain ⟨h', nx', t', h1, h2, e, e2⟩ := hr
        rw [e]; exact put_updD h2
      | false =>
        rw [hl] at hr
        obtain ⟨t', h1, h2, e⟩ := hr
        rw [e]; exact put_updD h2
theorem tmpL_upto (j : Nat) : ∀ m, j ≤ m → tmpL ops s V (fun k => decide (k < j)) m = tmpL ops s V (fun _ => true) j := by
  intro m
  induction m with
  | zero => intro h; rw [Nat.le_zero.1 h]; rfl
  | succ m ih =>
    intro h
    rcases Nat.lt_or_eq_of_le h with hlt | rfl
    · simp only [tmpL]
      rw [if_neg (by simp; omega)]
      exact ih (by omega)
    · have key : ∀ q, q ≤ m + 1 → tmpL ops s V (fun k => decide (k < m + 1)) q = tmpL ops s V (fun _ => true) q := by
        intro q
        induction q with
        | zero => intro _; rfl
        | succ q iq =>
          intro hq
          simp only [tmpL]
          rw [if_pos (by simp; omega), iq (by omega)]; rfl
      exact key _ (Nat.le_refl _)
end
end V
end Go.Proofs.Ytepbdkfkfcckoaa
