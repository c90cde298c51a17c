/- The machine of VA held against the model's: a region that draws its order: every order.
   No condition. -/
import Derived.Test.YtepbdkfkfcckoaaVV
set_option linter.unusedVariables false
set_option linter.unusedSimpArgs false
namespace Go.Proofs.Ytepbdkfkfcckoaa
namespace V
section
variable {P : Program} {ro : Ro} {C : CallR} {N n : Nat} {ops : Array Oper} {s : St} {S : Nat → St} {V : Nat → Value} {OB : Nat → Option Obj} {w0 : World}
/-- The blocks behind the operations listed, the last loud one of them being the one ahead of c. -/
def hat (ops : Array Oper) (s : St) (S : Nat → St) (OB : Nat → Option Obj) (c : Nat) (L : Nat → Bool) : Nat → Option Obj := fun b =>
  if s.nx ≤ b ∧ b < s.nx + ops.size ∧ c ≤ b - s.nx ∧ L (b - s.nx) = true ∧ (OB (b - s.nx)).isSome = true then OB (b - s.nx) else (S c).h.get b
structure Inv (ro : Ro) (N n : Nat) (w0 : World) (ops : Array Oper) (s : St) (S : Nat → St) (V : Nat → Value) (OB : Nat → Option Obj) (φ0 : Phi) (w1 : World) (a0 : Act) (L : Nat → Bool) (c : Nat) (φ : Phi) (a : Act) (w : World) : Prop where
  closed : Closed ops L
  cm : c ≤ ops.size
  c1 : c = 0 ∨ ∃ q, c = q + 1 ∧ loudAt ops S q = true ∧ L q = true
  c2 : ∀ j, c ≤ j → j < ops.size → loudAt ops S j = true → L j = false
  sim : Sim ro N φ w0 (hat ops s S OB c L) w
  fr1 : ∀ k, (S c).nx ≤ k → φ k = none
  fr2 : ∀ j, j < ops.size → L j = false → φ (s.nx + j) = none
  env : EnvR N φ n (tmpL ops s V L ops.size) a
  defers : a.defers = a0.defers
  le : Phi.le φ0 φ
  new : ∀ k, k < s.nx → φ k = φ0 k
  size : w1.heap.size ≤ w.heap.size
  frame : ∀ b, b < w1.heap.size → (∀ k B o r, s.h.get k ≠ none → φ0 k = some (B, o, r) → B ≠ b) → w.heap[b]? = w1.heap[b]?
  img : ∀ k B o r, hat ops s S OB c L k ≠ none → φ k = some (B, o, r) → w1.heap.size ≤ B ∨ ∃ k0 o0 r0, s.h.get k0 ≠ none ∧ φ0 k0 = some (B, o0, r0)
  os : w.os = w1.os
  tape : w.tape = w1.tape
  output : w.output = w1.output
theorem loudAt_op {j : Nat} {o : Oper} (ho : ops[j]? = some o) (h : loudAt ops S j = true) : wanted ops (S j).t o = true ∧ loud o.op = true := by
  unfold loudAt at h
  rw [ho] at h
  simpa using h
theorem opAt_lt {j : Nat} (h : loudAt ops S j = true) : j < ops.size := by
  unfold loudAt at h
  cases ho : ops[j]? with
  | none => rw [ho] at h; cases h
  | some o => exact (Array.getElem?_eq_some_iff.1 ho).1
variable {φ0 φ : Phi} {w1 w : World} {a0 a : Act} {L : Nat → Bool} {c : Nat}
/-- Loud operations ahead of c are listed. -/
theorem Inv.k1 (d : DR P ro C n ops s S V OB) (I : Inv ro N n w0 ops s S V OB φ0 w1 a0 L c φ a w) {j : Nat} (hj : j < c) (hl : loudAt ops S j = true) : L j = true := by
  rcases I.c1 with rfl | ⟨q, rfl, hq, hLq⟩
  · omega
  · have hjl := opAt_lt hl
    have hql := opAt_lt hq
    rcases Nat.lt_or_eq_of_le (Nat.le_of_lt_succ hj) with hlt | rfl
    · have h1 : ops[j]? = some ops[j] := Array.getElem?_eq_getElem hjl
      have h2 : ops[q]? = some ops[q] := Array.getElem?_eq_getElem hql
      cases hf : free (bef ops) j q with
      | false => exact d.anc I.closed q _ j h2 (I.closed q _ h2 hLq) hf
      | true =>
        have hp := d.pair hlt h1 h2 hf
        unfold pairOk at hp
        rw [(loudAt_op h1 hl).2, (loudAt_op h2 hq).2] at hp
        simp at hp
    · exact hLq
/-- Blocks of quiet operations ahead of c: these are listed. -/
theorem DR.obMakes (d : DR P ro C n ops s S V OB) {j : Nat} (hj : j < ops.size) (ho : (OB j).isSome = true) : makes P ops[j].op = true ∧ loudAt ops S j = false := by
  have h1 : ops[j]? = some ops[j] := Array.getElem?_eq_getElem hj
  have hr := d.row j _ h1
  unfold opAt at hr
  cases hw : wanted ops (S j).t ops[j] with
  | false => rw [hw] at hr; obtain ⟨_, _, e, _⟩ := hr; rw [e] at ho; cases ho
  | true =>
    rw [hw] at hr
    cases hl : loud ops[j].op with
    | true => rw [hl] at hr; obtain ⟨_, _, _, _, _, _, e⟩ := hr; rw [e] at ho; cases ho
    | false =>
      rw [hl] at hr
      obtain ⟨t', hq, _⟩ := hr
      obtain ⟨o, e⟩ := Option.isSome_iff_exists.1 ho
      rw [e] at hq
      exact ⟨opQ_makes hq, by unfold loudAt; rw [h1]; simp [hl]⟩

/-- The operation at hand: unlisted, and all that must stand ahead of it is listed. -/
structure Rdy (ops : Array Oper) (L : Nat → Bool) (i : Nat) (o : Oper) : Prop where
  at' : ops[i]? = some o
  un : L i = false
  all : ∀ e ∈ o.after.toList, Region.binds .any e = true → L e.on = true
variable {i : Nat} {o : Oper}
theorem Rdy.lt (r : Rdy ops L i o) : i < ops.size := (Array.getElem?_eq_some_iff.1 r.at').1
/-- An unlisted one ahead is no ancestor. -/
theorem Rdy.free1 (d : DR P ro C n ops s S V OB) (hc : Closed ops L) (r : Rdy ops L i o) {q : Nat} (hq : L q = false) : free (bef ops) q i = true := by
  cases hf : free (bef ops) q i with
  | true => rfl
  | false => rw [d.anc hc i o q r.at' r.all hf] at hq; cases hq
theorem Rdy.free2 (d : DR P ro C n ops s S V OB) (hc : Closed ops L) (r : Rdy ops L i o) {q : Nat} {oq : Oper} (ho : ops[q]? = some oq) (hq : L q = true) : free (bef ops) i q = true := by
  cases hf : free (bef ops) i q with
  | true => rfl
  | false => have := d.anc hc q oq i ho (hc q oq ho hq) hf; rw [r.un] at this; cases this
theorem pairOk_apart {x y : Oper} (h : pairOk P ops x y = true) : x.apart ops y = true := by
  unfold pairOk at h
  simp only [Bool.and_eq_true] at h
  exact h.1.2
theorem pairOk_loud {x y : Oper} (h : pairOk P ops x y = true) (h1 : loud x.op = true) (h2 : loud y.op = true) : False := by
  unfold pairOk at h
  rw [h1, h2] at h; simp at h
theorem pairOk_makes {x y : Oper} (h : pairOk P ops x y = true) (h1 : makes P x.op = true) (h2 : loud y.op = true) : False := by
  unfold pairOk at h
  rw [h1, h2] at h; simp at h
/-- The block that a quiet operation reads is not touched by the loud ones that nothing orders against it. -/
theorem Rdy.keeps (d : DR P ro C n ops s S V OB) (hc : Closed ops L) (r : Rdy ops L i o) (hw : wanted ops (S i).t o = true) (hq : loud o.op = false) {b : Nat} (hb : rdB P (S i).t o.op = some b)
    {q : Nat} (hl : loudAt ops S q = true) (h : (q < i ∧ L q = false) ∨ (i < q ∧ L q = true)) : (S q).h.get b = (S (q + 1)).h.get b := by
  have hql := opAt_lt hl
  have h2 : ops[q]? = some ops[q] := Array.getElem?_eq_getElem hql
  obtain ⟨hw2, hl2⟩ := loudAt_op h2 hl
  rcases h with ⟨hlt, hLq⟩ | ⟨hlt, hLq⟩
  · exact (d.p2 q i _ o b hlt h2 r.at' hw2 hw hl2 hq hb (r.free1 d hc hLq)).1
  · exact (d.p1 i q o _ b hlt r.at' h2 hw hw2 hq hb hl2 (r.free2 d hc h2 hLq)).1
theorem hat_own {k : Nat} (hk : k < ops.size) (hck : c ≤ k) (hL : L k = true) (ho : (OB k).isSome = true) : hat ops s S OB c L (s.nx + k) = OB k := by
  unfold hat
  rw [Nat.add_sub_cancel_left, if_pos ⟨Nat.le_add_right _ _, by omega, hck, hL, ho⟩]
theorem hat_not {b : Nat} (h : ∀ k, k < ops.size → c ≤ k → L k = true → (OB k).isSome = true → b ≠ s.nx + k) : hat ops s S OB c L b = (S c).h.get b := by
  unfold hat
  rw [if_neg]
  rintro ⟨h1, h2, h3, h4, h5⟩
  exact h (b - s.nx) (by omega) h3 h4 h5 (by omega)
/-- Is it one of the blocks that stand for themselves? -/
theorem hat_cases (b : Nat) : (∃ k, k < ops.size ∧ c ≤ k ∧ L k = true ∧ (OB k).isSome = true ∧ b = s.nx + k) ∨ (∀ k, k < ops.size → c ≤ k → L k = true → (OB k).isSome = true → b ≠ s.nx + k) := by
  by_cases h : ∃ k, k < ops.size ∧ c ≤ k ∧ L k = true ∧ (OB k).isSome = true ∧ b = s.nx + k
  · exact .inl h
  · exact .inr fun k h1 h2 h3 h4 e => h ⟨k, h1, h2, h3, h4, e⟩
theorem Inv.read (d : DR P ro C n ops s S V OB) (I : Inv ro N n w0 ops s S V OB φ0 w1 a0 L c φ a w) (r : Rdy ops L i o) (hw : wanted ops (S i).t o = true) (hq : loud o.op = false) {b : Nat} (hb : rdB P (S i).t o.op = some b)
    {x : Obj} (hx : (S i).h.get b = some x) (hφ : φ b ≠ none) : hat ops s S OB c L b = some x := by
  have hi := r.lt
  rcases hat_cases (ops := ops) (s := s) (c := c) (L := L) (OB := OB) b with ⟨k, h1, h2, h3, h4, rfl⟩ | hno
  · rw [hat_own h1 h2 h3 h4]
    have hki : k < i := by
      rcases Nat.lt_trichotomy k i with h | h | h
      · exact h
      · subst h; rw [r.un] at h3; cases h3
      · rw [d.gone i (Nat.le_of_lt hi) k (Nat.le_of_lt h) h1] at hx; cases hx
    have hk := (d.quiet h1 (d.obMakes h1 h4).2 (s.nx + k)).2
    rw [if_pos ⟨rfl, h4⟩] at hk
    rw [← hk, ← hx]
    refine (d.range i (by omega) (Nat.le_of_lt hi) ?_ ?_).symm
    · intro q g1 g2 g3
      exact r.keeps d I.closed hw hq hb g3 (.inl ⟨g2, I.c2 q (by omega) (by omega) g3⟩)
    · intro q g1 g2 e; omega
  · rw [hat_not hno, ← hx]
    rcases Nat.le_total c i with hci | hic
    · refine (d.range i hci (Nat.le_of_lt hi) ?_ ?_).symm
      · intro q g1 g2 g3
        exact r.keeps d I.closed hw hq hb g3 (.inl ⟨g2, I.c2 q (by omega) (by omega) g3⟩)
      · intro q g1 g2 e
        cases hob : OB q with
        | none => rfl
        | some y =>
          exfalso
          cases hLq : L q with
          | true => exact hno q (by omega) g1 hLq (by rw [hob]; rfl) e
          | false => rw [e, I.fr2 q (by omega) hLq] at hφ; exact hφ rfl
    · refine d.range c hic I.cm ?_ ?_
      · intro q g1 g2 g3
        have hLq := I.k1 d g2 g3
        refine r.keeps d I.closed hw hq hb g3 (.inr ⟨?_, hLq⟩)
        rcases Nat.lt_or_eq_of_le g1 with h | h
        · exact h
        · subst h; rw [r.un] at hLq; cases hLq
      · intro q g1 g2 e
        rw [e, d.gone i (Nat.le_of_lt hi) q g1 (Nat.lt_of_lt_of_le g2 I.cm)] at hx; cases hx
/-! ### Temporaries -/
theorem Rdy.tmps (d : DR P ro C n ops s S V OB) (hc : Closed ops L) (r : Rdy ops L i o) {x : Tmp} (hx : x ∈ o.looksAt ops) : (tmpL ops s V L ops.size).get x = (S i).t.get x := by
  have hi := r.lt
  rw [d.tmp i (Nat.le_of_lt hi), ← tmpL_upto i ops.size (Nat.le_of_lt hi)]
  refine tmpL_congr _ fun k hk hdst => ?_
  have hok : ops[k]? = some ops[k] := Array.getElem?_eq_getElem hk
  have hd : ops[k].dst = some x := by unfold dstAt at hdst; rw [hok] at hdst; exact hdst
  rcases Nat.lt_trichotomy k i with h | h | h
  · rw [decide_eq_true h]
    cases hL : L k with
    | true => rfl
    | false => exact absurd hx ((Oper.apart_spec (pairOk_apart (d.pair h hok r.at' (r.free1 d hc hL)))).1 x hd)
  · subst h; rw [r.un]; simp
  · rw [decide_eq_false (by omega)]
    cases hL : L k with
    | false => rfl
    | true => exact absurd hx ((Oper.apart_spec (pairOk_apart (d.pair h r.at' hok (r.free2 d hc hok hL)))).2.2 x hd)
theorem looksAt_tmp {x : Tmp} (h : Operand.tmp x ∈ o.op.operands) : x ∈ o.looksAt ops := by
  unfold Oper.looksAt
  refine List.mem_append_left _ (List.mem_filterMap.2 ⟨.tmp x, by simpa using h, rfl⟩)
theorem evl_congr {t t' : T Value} (h : ∀ x, x ∈ o.looksAt ops → t'.get x = t.get x) : ∀ x ∈ o.op.operands, evl t' x = evl t x := by
  intro x hx
  cases x with
  | tmp x => simp only [evl]; rw [h x (looksAt_tmp hx)]
  | _ => rfl
theorem wanted_congr {t t' : T Value} (h : ∀ x, x ∈ o.looksAt ops → t'.get x = t.get x) : wanted ops t' o = wanted ops t o := by
  unfold wanted
  cases hg : o.guard with
  | none => rfl
  | some g =>
    obtain ⟨j, b⟩ := g
    simp only
    cases hd : (ops[j]?).bind (·.dst) with
    | none => rfl
    | some x =>
      have : x ∈ o.looksAt ops := by
        unfold Oper.looksAt
        rw [hg]
        exact List.mem_append_right _ (by simp only; rw [hd]; simp)
      simp only [h x this]
def upL (L : Nat → Bool) (i : Nat) : Nat → Bool := fun k => if k = i then true else L k
theorem tmpL_last {v : Tmp} : ∀ m, i < m → L i = true → dstAt ops i = some v → (∀ k, i < k → k < m → dstAt ops k = some v → L k = false) → (tmpL ops s V L m).get v = some (V i) := by
  intro m
  induction m with
  | zero => intro h; omega
  | succ m ih =>
    intro h1 h2 h3 h4
    simp only [tmpL]
    rcases Nat.lt_or_eq_of_le (Nat.le_of_lt_succ h1) with h | rfl
    · have ih' := ih h h2 h3 (fun k a b => h4 k a (by omega))
      by_cases e : dstAt ops m = some v
      · rw [h4 m h (by omega) e]; exact ih'
      · split
        · rw [get_updD, if_neg e]; exact ih'
        · exact ih'
    · rw [if_pos h2, get_updD, if_pos h3]
theorem EnvR.congr {t t' : T Value} (he : EnvR N φ n t a) (h : ∀ x, t'.get x = t.get x) : EnvR N φ n t' a := ⟨he.size, fun i => by rw [h]; exact he.val i⟩
/-- The temporaries behind one operation more. -/
theorem Rdy.puts (d : DR P ro C n ops s S V OB) (hc : Closed ops L) (r : Rdy ops L i o) {v' : Value} (he : EnvR N φ n (tmpL ops s V L ops.size) a) {t' : T Value} (hp : put n (S i).t o.dst (V i) = some t')
    (hv : VR N φ (V i) v') : EnvR N φ n (tmpL ops s V (upL L i) ops.size) (a.put o.dst v') := by
  have hi := r.lt
  have hdi : dstAt ops i = o.dst := by unfold dstAt; rw [r.at']; rfl
  have hp2 : put n (tmpL ops s V L ops.size) o.dst (V i) = some (updD (tmpL ops s V L ops.size) o.dst (V i)) := by
    cases hd : o.dst with
    | none => rfl
    | some x =>
      rw [hd] at hp
      simp only [put] at hp ⊢
      cases hb : Nat.blt x n with
      | false => rw [hb] at hp; cases hp
      | true => rfl
  refine (he.put hp2 hv).congr fun x => ?_
  rw [get_updD]
  by_cases e : o.dst = some x
  · rw [if_pos e]
    refine tmpL_last _ hi (by simp [upL]) (hdi.trans e) fun k h1 h2 h3 => ?_
    have hok : ops[k]? = some ops[k] := Array.getElem?_eq_getElem h2
    have hd : ops[k].dst = some x := by unfold dstAt at h3; rw [hok] at h3; exact h3
    unfold upL
    rw [if_neg (by omega)]
    cases hL : L k with
    | false => rfl
    | true => exact absurd hd ((Oper.apart_spec (pairOk_apart (d.pair h1 r.at' hok (r.free2 d hc hok hL)))).2.1 x e)
  · rw [if_neg e]
    refine tmpL_congr _ fun k hk hdst => ?_
    unfold upL
    rw [if_neg]
    rintro rfl
    exact e (hdi.symm.trans hdst)
theorem Rdy.closed (hc : Closed ops L) (r : Rdy ops L i o) : Closed ops (upL L i) := by
  intro j oj hoj hL e he hb
  unfold upL at hL ⊢
  by_cases hj : j = i
  · subst hj
    rw [r.at'] at hoj; cases hoj
    split
    · rfl
    · exact r.all e he hb
  · rw [if_neg hj] at hL
    split
    · rfl
    · exact hc j oj hoj hL e he hb
/-! ### One operation, taken -/
/-- A quiet operation or one that is not carried out: the table's row, if no block is made. -/
theorem Inv.quiet0 (d : DR P ro C n ops s S V OB) (I : Inv ro N n w0 ops s S V OB φ0 w1 a0 L c φ a w) (r : Rdy ops L i o) (hl : loudAt ops S i = false) (hob : OB i = none) {t' : T Value} (hp : put n (S i).t o.dst (V i) = some t')
    {v' : Value} (hv : VR N φ (V i) v') : Inv ro N n w0 ops s S V OB φ0 w1 a0 (upL L i) c φ (a.put o.dst v') w := by
  have hh : hat ops s S OB c (upL L i) = hat ops s S OB c L := by
    funext b
    unfold hat upL
    by_cases e : b - s.nx = i
    · rw [e, hob]; simp
    · rw [if_neg e]
  exact {
    closed := r.closed I.closed
    cm := I.cm
    c1 := by
      rcases I.c1 with h | ⟨q, h1, h2, h3⟩
      · exact .inl h
      · exact .inr ⟨q, h1, h2, by unfold upL; split; rfl; exact h3⟩
    c2 := fun j h1 h2 h3 => by
      unfold upL
      rw [if_neg (by rintro rfl; rw [hl] at h3; cases h3)]
      exact I.c2 j h1 h2 h3
    sim := by rw [hh]; exact I.sim
    fr1 := I.fr1
    fr2 := fun j h1 h2 => by
      unfold upL at h2
      by_cases e : j = i
      · rw [if_pos e] at h2; cases h2
      · rw [if_neg e] at h2; exact I.fr2 j h1 h2
    env := r.puts d I.closed I.env hp hv
    defers := (put_defers _ _ _).trans I.defers
    le := I.le
    new := I.new
    size := I.size
    frame := I.frame
    img := by rw [hh]; exact I.img
    os := I.os
    tape := I.tape
    output := I.output }
theorem Inv.quiet1 (d : DR P ro C n ops s S V OB) (I : Inv ro N n w0 ops s S V OB φ0 w1 a0 L c φ a w) (r : Rdy ops L i o) {x x' : Obj} (hob : OB i = some x) {t' : T Value} (hp : put n (S i).t o.dst (V i) = some t')
    {v' : Value} {rm : Nat} {w' : World} (hh : w'.heap = w.heap.push x') (hos : w'.os = w.os) (ht : w'.tape = w.tape) (hout : w'.output = w.output)
    (hv : VR N (φ.add (s.nx + i) w.heap.size rm) (V i) v') (hor : OR N (φ.add (s.nx + i) w.heap.size rm) x x' 0 rm) :
    Inv ro N n w0 ops s S V OB φ0 w1 a0 (upL L i) c (φ.add (s.nx + i) w.heap.size rm) (a.put o.dst v') w' := by
  have hi := r.lt
  have hsome : (OB i).isSome = true := by rw [hob]; rfl
  obtain ⟨hmk, hl⟩ := d.obMakes hi hsome
  have hφi : φ (s.nx + i) = none := I.fr2 i hi r.un
  have hle := Phi.le_add (B := w.heap.size) (r := rm) hφi
  have hci : c ≤ i := by
    rcases I.c1 with rfl | ⟨q, rfl, hq, hLq⟩
    · exact Nat.zero_le _
    · have hql := opAt_lt hq
      have h2 : ops[q]? = some ops[q] := Array.getElem?_eq_getElem hql
      rcases Nat.lt_trichotomy q i with h | h | h
      · exact h
      · subst h; rw [hl] at hq; cases hq
      · exfalso
        have hoi : ops[i] = o := by have := r.at'; rw [Array.getElem?_eq_getElem hi] at this; exact Option.some.inj this
        exact pairOk_makes (d.pair h r.at' h2 (r.free2 d I.closed h2 hLq)) (hoi ▸ hmk) (loudAt_op h2 hq).2
  have hH : hat ops s S OB c (upL L i) = fun b => if b = s.nx + i then some x else hat ops s S OB c L b := by
    funext b
    by_cases e : b = s.nx + i
    · rw [e, hat_own hi hci (by simp [upL]) hsome, hob, if_pos rfl]
    · rw [if_neg e]
      unfold hat upL
      by_cases e2 : b - s.nx = i
      · rw [if_neg (by rintro ⟨h, _⟩; omega), if_neg (by rintro ⟨h, _⟩; omega)]
      · rw [if_neg e2]
  exact {
    closed := r.closed I.closed
    cm := I.cm
    c1 := by
      rcases I.c1 with h | ⟨q, h1, h2, h3⟩
      · exact .inl h
      · exact .inr ⟨q, h1, h2, by unfold upL; split; rfl; exact h3⟩
    c2 := fun j h1 h2 h3 => by
      unfold upL
      rw [if_neg (by rintro rfl; rw [hl] at h3; cases h3)]
      exact I.c2 j h1 h2 h3
    sim := by rw [hH]; exact I.sim.alloc hφi hh hor
    fr1 := fun k hk => by
      have := d.nx c I.cm
      rw [Phi.add_ne (by omega)]; exact I.fr1 k hk
    fr2 := fun j h1 h2 => by
      unfold upL at h2
      by_cases e : j = i
      · rw [if_pos e] at h2; cases h2
      · rw [if_neg e] at h2
        rw [Phi.add_ne (by omega)]; exact I.fr2 j h1 h2
    env := r.puts d I.closed (I.env.mono hle) hp hv
    defers := (put_defers _ _ _).trans I.defers
    le := Phi.le_trans I.le hle
    new := fun k hk => by rw [Phi.add_ne (by omega)]; exact I.new k hk
    size := by rw [hh, Array.size_push]; exact Nat.le_succ_of_le I.size
    frame := fun b hb hn => by
      rw [hh, Array.getElem?_push, if_neg (by have := I.size; omega)]
      exact I.frame b hb hn
    img := fun k B o r hk hφ => by
      rw [hH] at hk
      by_cases e : k = s.nx + i
      · subst e; rw [Phi.add_same] at hφ; cases hφ; exact .inl I.size
      · rw [Phi.add_ne e] at hφ
        simp only [if_neg e] at hk
        exact I.img k B o r hk hφ
    os := hos.trans I.os
    tape := ht.trans I.tape
    output := hout.trans I.output }
/-- The memory of the table ahead of a loud operation that is ready. -/
theorem Inv.ahead (d : DR P ro C n ops s S V OB) (I : Inv ro N n w0 ops s S V OB φ0 w1 a0 L c φ a w) (r : Rdy ops L i o) (hl : loudAt ops S i = true) :
    c ≤ i ∧ (∀ b x, (S i).h.get b = some x → hat ops s S OB c L b = some x) ∧ (S c).nx ≤ (S i).nx := by
  have hi := r.lt
  have hci : c ≤ i := by
    rcases Nat.lt_or_ge i c with h | h
    · have := I.k1 d h hl; rw [r.un] at this; cases this
    · exact h
  have hloud := (loudAt_op r.at' hl).2
  have hno : ∀ q, c ≤ q → q < i → loudAt ops S q = false := by
    intro q h1 h2
    cases hq : loudAt ops S q with
    | false => rfl
    | true =>
      exfalso
      have hql := opAt_lt hq
      have h3 : ops[q]? = some ops[q] := Array.getElem?_eq_getElem hql
      have hu := I.c2 q h1 (by omega) hq
      exact pairOk_loud (d.pair h2 h3 r.at' (r.free1 d I.closed hu)) (loudAt_op h3 hq).2 hloud
  have hmk : ∀ q, q < i → (OB q).isSome = true → L q = true := by
    intro q h1 h2
    have hql : q < ops.size := by omega
    have h3 : ops[q]? = some ops[q] := Array.getElem?_eq_getElem hql
    cases hLq : L q with
    | true => rfl
    | false => exact (pairOk_makes (d.pair h1 h3 r.at' (r.free1 d I.closed hLq)) (d.obMakes hql h2).1 hloud).elim
  refine ⟨hci, fun b x hx => ?_, ?_⟩
  · by_cases hk : ∃ k, c ≤ k ∧ k < i ∧ b = s.nx + k ∧ (OB k).isSome = true
    · obtain ⟨k, h1, h2, rfl, h4⟩ := hk
      rw [hat_own (by omega) h1 (hmk k h2 h4) h4]
      have hkk := (d.quiet (show k < ops.size by omega) (d.obMakes (by omega) h4).2 (s.nx + k)).2
      rw [if_pos ⟨rfl, h4⟩] at hkk
      rw [← hkk, ← hx]
      refine (d.range i (by omega) (Nat.le_of_lt hi) ?_ ?_).symm
      · intro q g1 g2 g3; rw [hno q (by omega) g2] at g3; cases g3
      · intro q g1 g2 e; omega
    · have hr : (S i).h.get b = (S c).h.get b := by
        refine d.range i hci (Nat.le_of_lt hi) ?_ ?_
        · intro q g1 g2 g3; rw [hno q g1 g2] at g3; cases g3
        · intro q g1 g2 e
          cases hob : OB q with
          | none => rfl
          | some y => exact (hk ⟨q, g1, g2, e, by rw [hob]; rfl⟩).elim
      rw [hat_not, ← hr, hx]
      rintro k h1 h2 h3 h4 rfl
      rcases Nat.lt_or_ge k i with h | h
      · exact hk ⟨k, h2, h, rfl, h4⟩
      · rw [d.gone i (Nat.le_of_lt hi) k h h1] at hx; cases hx
  · have key : ∀ j, c ≤ j → j ≤ i → (S c).nx = (S j).nx := by
      intro j
      induction j with
      | zero => intro h _; rw [Nat.le_zero.1 h]
      | succ j ih =>
        intro h1 h2
        rcases Nat.lt_or_eq_of_le h1 with h | rfl
        · rw [(d.quiet (by omega) (hno j (by omega) (by omega)) 0).1]; exact ih (by omega) (by omega)
        · rfl
    exact Nat.le_of_eq (key i hci (Nat.le_refl _))
theorem Inv.loud1 (d : DR P ro C n ops s S V OB) (I : Inv ro N n w0 ops s S V OB φ0 w1 a0 L c φ a w) (r : Rdy ops L i o) (hl : loudAt ops S i = true) {t' : T Value} (hp : put n (S i).t o.dst (V i) = some t')
    {v' : Value} {w' : World} {φ' : Phi} (st : Step ro N w0 φ (S i).h (S i).nx w φ' (S (i + 1)).h (S (i + 1)).nx w') (hv : VR N φ' (V i) v') :
    Inv ro N n w0 ops s S V OB φ0 w1 a0 (upL L i) (i + 1) φ' (a.put o.dst v') w' := by
  have hi := r.lt
  obtain ⟨hci, hsub, hnx⟩ := I.ahead d r hl
  have hnxi := d.nx i (Nat.le_of_lt hi)
  -- a block of a quiet one behind that is listed
  have hext : ∀ k, k < ops.size → i + 1 ≤ k → upL L i k = true → (OB k).isSome = true → hat ops s S OB c L (s.nx + k) = OB k ∧ (S i).h.get (s.nx + k) = none ∧ φ' (s.nx + k) = φ (s.nx + k) := by
    intro k h1 h2 h3 h4
    unfold upL at h3
    rw [if_neg (by omega)] at h3
    exact ⟨hat_own h1 (by omega) h3 h4, d.gone i (Nat.le_of_lt hi) k (by omega) h1, st.new _ (by omega)⟩
  have hin : ∀ k, (S i).h.get k ≠ none → hat ops s S OB c L k ≠ none := by
    intro k hk e
    cases hx : (S i).h.get k with
    | none => exact hk hx
    | some x => rw [hsub k x hx] at e; cases e
  -- where a block of the loud one leads
  have hdis : ∀ k k' B b r B' b' r', k < ops.size → i + 1 ≤ k → upL L i k = true → (OB k).isSome = true → (S (i + 1)).h.get k' ≠ none → φ' (s.nx + k) = some (B, b, r) → φ' k' = some (B', b', r') → B ≠ B' := by
    intro k k' B b r B' b' r' h1 h2 h3 h4 h5 h6 h7 e
    obtain ⟨g1, g2, g3⟩ := hext k h1 h2 h3 h4
    rw [g3] at h6
    have hd := I.sim.dom _ _ _ _ h6
    rcases st.img k' B' b' r' h5 h7 with h | ⟨k0, o0, r0, q1, q2⟩
    · omega
    · refine I.sim.inj (s.nx + k) k0 B b r B' o0 r0 ?_ (hin k0 q1) h6 q2 ?_ e
      · rw [g1]; intro e; rw [e] at h4; cases h4
      · rintro rfl; exact q1 g2
  have hcs := fun b => hat_cases (ops := ops) (s := s) (c := i + 1) (L := upL L i) (OB := OB) b
  exact {
    closed := r.closed I.closed
    cm := hi
    c1 := .inr ⟨i, rfl, hl, by simp [upL]⟩
    c2 := fun j h1 h2 h3 => by
      unfold upL
      rw [if_neg (by omega)]
      exact I.c2 j (by omega) h2 h3
    sim := {
      n := st.ss.sim.n
      le := st.ss.sim.le
      old := st.ss.sim.old
      dom := st.ss.sim.dom
      inj := fun k k' B b r B' b' r' hk hk' e1 e2 hne => by
        rcases hcs k with ⟨j, a1, a2, a3, a4, rfl⟩ | hk0
        · rcases hcs k' with ⟨j', b1, b2, b3, b4, rfl⟩ | hk0'
          · obtain ⟨g1, _, g3⟩ := hext j a1 a2 a3 a4
            obtain ⟨g1', _, g3'⟩ := hext j' b1 b2 b3 b4
            rw [g3] at e1; rw [g3'] at e2
            refine I.sim.inj _ _ _ _ _ _ _ _ ?_ ?_ e1 e2 hne
            · rw [g1]; intro e; rw [e] at a4; cases a4
            · rw [g1']; intro e; rw [e] at b4; cases b4
          · rw [hat_not hk0'] at hk'
            exact hdis j k' B b r B' b' r' a1 a2 a3 a4 hk' e1 e2
        · rw [hat_not hk0] at hk
          rcases hcs k' with ⟨j', b1, b2, b3, b4, rfl⟩ | hk0'
          · exact (hdis j' k B' b' r' B b r b1 b2 b3 b4 hk e2 e1).symm
          · rw [hat_not hk0'] at hk'
            exact st.ss.sim.inj k k' B b r B' b' r' hk hk' e1 e2 hne
      own := fun k x hx => by
        rcases hcs k with ⟨j, a1, a2, a3, a4, rfl⟩ | hk0
        · obtain ⟨g1, g2, g3⟩ := hext j a1 a2 a3 a4
          rw [hat_own a1 a2 a3 a4, ← g1] at hx
          obtain ⟨B, b, r, x', q1, q2, q3⟩ := I.sim.own _ x hx
          refine ⟨B, b, r, x', g3.trans q1, ?_, q3.mono st.le⟩
          rw [st.frame B (I.sim.dom _ _ _ _ q1).2, q2]
          intro k0 B0 o0 r0 p1 p2 e
          subst e
          refine I.sim.inj (s.nx + j) k0 B0 b r B0 o0 r0 (by rw [hx]; simp) (hin k0 p1) q1 p2 ?_ rfl
          rintro rfl; exact p1 g2
        · rw [hat_not hk0] at hx
          exact st.ss.sim.own k x hx
      ro := st.ss.sim.ro }
    fr1 := st.ss.fresh
    fr2 := fun j h1 h2 => by
      rw [st.new _ (by omega)]
      unfold upL at h2
      by_cases e : j = i
      · rw [if_pos e] at h2; cases h2
      · rw [if_neg e] at h2; exact I.fr2 j h1 h2
    env := r.puts d I.closed (I.env.mono st.le) hp hv
    defers := (put_defers _ _ _).trans I.defers
    le := Phi.le_trans I.le st.le
    new := fun k hk => (st.new k (by omega)).trans (I.new k hk)
    size := Nat.le_trans I.size st.size
    frame := fun b hb hn => by
      rw [st.frame b (by have := I.size; omega), I.frame b hb hn]
      intro k B o r hk hφ e
      subst e
      rcases I.img k B o r (hin k hk) hφ with h | ⟨k0, o0, r0, g1, g2⟩
      · omega
      · exact hn k0 B o0 r0 g1 g2 rfl
    img := fun k B b r hk hφ => by
      rcases hcs k with ⟨j, a1, a2, a3, a4, rfl⟩ | hk0
      · obtain ⟨g1, g2, g3⟩ := hext j a1 a2 a3 a4
        rw [g3] at hφ
        exact I.img _ B b r (by rw [g1]; intro e; rw [e] at a4; cases a4) hφ
      · rw [hat_not hk0] at hk
        rcases st.img k B b r hk hφ with h | ⟨k0, o0, r0, g1, g2⟩
        · exact .inl (Nat.le_trans I.size h)
        · exact I.img k0 B o0 r0 (hin k0 g1) g2
    os := st.os.trans I.os
    tape := st.tape.trans I.tape
    output := st.output.trans I.output }
theorem Inv.take (hz : zerosOk P = true) (hn : namesOk P = true) (hC : CallOk P ro N w0 C) (d : DR P ro C n ops s S V OB) (I : Inv ro N n w0 ops s S V OB φ0 w1 a0 L c φ a w) (r : Rdy ops L i o) {Q : Exit → Act → World → Prop} {K : Act → World → Prop}
    (hK : ∀ a' w' φ' c', Inv ro N n w0 ops s S V OB φ0 w1 a0 (upL L i) c' φ' a' w' → K a' w') : wpOp P ops Q i K a w := by
  have hi := r.lt
  have hrow := d.row i o r.at'
  have htm := fun x => r.tmps d I.closed (x := x)
  have hwant : Region.wanted o (Go.yielded ops a.tmps) = wanted ops (S i).t o := (I.env.wanted ops o).trans (wanted_congr htm)
  have henv : ∀ x ∈ o.op.operands, ∀ v, evl (S i).t x = some v → VR N φ v (a.eval x) := fun x hx v hv => I.env.evl (by rw [evl_congr htm x hx]; exact hv)
  unfold wpOp
  simp only [r.at', hwant]
  unfold opAt at hrow
  cases hw : wanted ops (S i).t o with
  | false =>
    rw [hw] at hrow
    obtain ⟨t', e1, e2, h1, e3⟩ := hrow
    simp only [Bool.false_eq_true, if_false]
    exact hK _ _ _ _ (I.quiet0 d r (by unfold loudAt; rw [r.at']; simp [hw]) e2 (by rw [e1]; exact h1) (by rw [e1]; exact VR.undef))
  | true =>
    rw [hw] at hrow
    simp only [if_true]
    left
    cases hl : loud o.op with
    | true =>
      rw [hl] at hrow
      obtain ⟨h', nx', t', h1, h2, e1, e2⟩ := hrow
      have hla : loudAt ops S i = true := by unfold loudAt; rw [r.at']; simp [hw, hl]
      obtain ⟨hci, hsub, hnx⟩ := I.ahead d r hla
      refine opL_wp hz hn hC ⟨I.sim.sub hsub, fun k hk => I.fr1 k (by omega)⟩ henv h1 ?_
      intro v' w' φ' g1 g2
      refine hK _ _ _ _ (I.loud1 d r hla h2 ?_ g2)
      rw [e1]; exact g1
    | false =>
      rw [hl] at hrow
      obtain ⟨t', h1, h2, e1⟩ := hrow
      have hla : loudAt ops S i = false := by unfold loudAt; rw [r.at']; simp [hl]
      have haid : φ (s.nx + i) = none := I.fr2 i hi r.un
      -- the memory that is read, alone
      obtain ⟨h0, q1, q2⟩ : ∃ h0 : T Obj, opQ P ro (S i).t h0 (s.nx + i) o.op = some (V i, OB i) ∧ ∀ k x, h0.get k = some x → hat ops s S OB c L k = some x := by
        cases hb : rdB P (S i).t o.op with
        | none =>
          refine ⟨.e, ?_, fun k x hx => by rw [T.get_e] at hx; cases hx⟩
          rw [opQ_heap (h := (S i).h) (fun b e => by rw [hb] at e; cases e)]; exact h1
        | some b =>
          refine ⟨T.e.upd b ((S i).h.get b), ?_, fun k x hx => ?_⟩
          · rw [opQ_heap (h := (S i).h) (fun b' e => ?_)]; exact h1
            rw [hb] at e; cases e
            rw [T.get_upd, if_pos rfl]
          · rw [T.get_upd] at hx
            by_cases e : k = b
            · subst e
              rw [if_pos rfl] at hx
              exact I.read d r hw hl hb hx (rdB_phi hb henv)
            · rw [if_neg e, T.get_e] at hx; cases hx
      refine opQ_wp hz I.sim q2 haid henv q1 ?_ ?_
      · intro hob v' hv
        exact hK _ _ _ _ (I.quiet0 d r hla hob h2 hv)
      · intro x hob x' rm v' w' e1 e2 e3 e4 g1 g2
        exact hK _ _ _ _ (I.quiet1 d r hob h2 e1 e2 e3 e4 g1 g2)
/-! ### All of them -/
theorem getD_lt {l : Array Bool} {i : Nat} (h : l.getD i true = false) : i < l.size ∧ l.getD i false = false := by
  by_cases hi : i < l.size
  · simp [hi] at h ⊢; exact h
  · simp [Nat.le_of_not_lt hi] at h
theorem upL_set {l : Array Bool} {i : Nat} (hi : i < l.size) : (fun k => (l.setIfInBounds i true).getD k false) = upL (fun k => l.getD k false) i := by
  funext k
  unfold upL
  by_cases e : k = i
  · subst e; simp [hi]
  · rw [if_neg e, getD_set_ne false (Ne.symm e)]
theorem count_set {l : Array Bool} {i : Nat} (hi : i < l.size) (h : l.getD i false = false) : (l.setIfInBounds i true).toList.count false + 1 = l.toList.count false := by
  obtain ⟨l⟩ := l
  simp at hi h ⊢
  rw [List.getElem?_eq_getElem hi] at h
  simp at h
  rw [List.count_set hi]
  simp [h]
  have : 0 < l.count false := List.count_pos_iff.2 (by rw [← h]; exact List.getElem_mem hi)
  omega
theorem Inv.every (hz : zerosOk P = true) (hn : namesOk P = true) (hC : CallOk P ro N w0 C) (d : DR P ro C n ops s S V OB) {Q : Exit → Act → World → Prop}
    (hQ : ∀ a' w' φ' c' L', (∀ j, j < ops.size → L' j = true) → Inv ro N n w0 ops s S V OB φ0 w1 a0 L' c' φ' a' w' → Q .normal a' w') :
    ∀ (fuel : Nat) (listed : Array Bool), listed.size = ops.size → ∀ (c : Nat) (φ : Phi) (a : Act) (w : World), Inv ro N n w0 ops s S V OB φ0 w1 a0 (fun k => listed.getD k false) c φ a w →
      (listed.toList.count false ≤ fuel) → wpAny P .any ops Q fuel listed a w := by
  have hend : ∀ (listed : Array Bool), listed.size = ops.size → ∀ (c : Nat) (φ : Phi) (a : Act) (w : World), Inv ro N n w0 ops s S V OB φ0 w1 a0 (fun k => listed.getD k false) c φ a w →
      Region.ready .any ops listed = [] → Q .normal a w := by
    intro listed hs c φ a w I hr
    have hall : ∀ j, j < ops.size → listed.getD j false = true := by
      intro j
      induction j using Nat.strongRecOn with
      | ind j ih =>
        intro hj
        cases hL : listed.getD j false with
        | true => rfl
        | false =>
          exfalso
          have ho : ops[j]? = some ops[j] := Array.getElem?_eq_getElem hj
          have : j ∈ Region.ready .any ops listed := by
            rw [mem_ready]
            refine ⟨?_, ops[j], ho, fun e he hb => ?_⟩
            · simp [show j < listed.size by omega] at hL ⊢; exact hL
            · have hlt := d.edge ho (by simpa using he) hb
              exact ih _ hlt (by omega)
          rw [hr] at this; cases this
    exact hQ a w φ c _ hall I
  intro fuel
  induction fuel with
  | zero =>
    intro listed hs c φ a w I hc
    have hr : Region.ready .any ops listed = [] := by
      cases hq : Region.ready .any ops listed with
      | nil => rfl
      | cons j js =>
        exfalso
        have hj : j ∈ Region.ready .any ops listed := by rw [hq]; simp
        rw [mem_ready] at hj
        obtain ⟨h1, h2⟩ := getD_lt hj.1
        have := count_set h1 h2
        omega
    exact ⟨hr, hend listed hs c φ a w I hr⟩
  | succ fuel ih =>
    intro listed hs c φ a w I hc
    refine ⟨hend listed hs c φ a w I, fun i hi => ?_⟩
    rw [mem_ready] at hi
    obtain ⟨h0, o, ho, hall⟩ := hi
    obtain ⟨h1, h2⟩ := getD_lt h0
    have r : Rdy ops (fun k => listed.getD k false) i o := ⟨ho, h2, fun e he hb => hall e (by simpa using he) hb⟩
    refine I.take hz hn hC d r (Q := Q) ?_
    intro a' w' φ' c' I'
    rw [← upL_set h1] at I'
    refine ih _ (by simp [hs]) c' φ' a' w' I' ?_
    have := count_set h1 h2
    omega
theorem tmpL_none : ∀ m, tmpL ops s V (fun _ => false) m = s.t := by
  intro m
  induction m with
  | zero => rfl
  | succ m ih => simp only [tmpL]; rw [if_neg (by simp)]; exact ih
theorem draw_wp (hz : zerosOk P = true) (hn : namesOk P = true) (hm : P.follows .mixedOrders = true) {C : CallR} (hC : CallOk P ro N w0 C) (hmono : MonoC C) {id : Nat} {ops : Array Oper} (hd : drawOk P ops = true) {Q : Exit → Act → World → Prop}
    {s s' : St} (hs : SS ro N w0 φ s.h s.nx w) (he : EnvR N φ n s.t a) (h : opsD P ro C n ops s.nx ops.toList 0 [] [] ⟨s.t, s.h, s.nx + ops.size⟩ s')
    (hQ : ∀ a' w' φ', Step ro N w0 φ s.h s.nx w φ' s'.h s'.nx w' → EnvR N φ' n s'.t a' → a'.defers = a.defers → Q .normal a' w') : (Code.region id ops true).wp P Q a w := by
  obtain ⟨S, V, OB, e0, e1, tb⟩ := opsD_table ops.toList 0 [] [] _ _ h
  rw [Nat.zero_add] at e1
  simp at e1
  have at0 : ∀ {j o}, ops[j]? = some o → ops.toList[j - 0]? = some o := fun h => by simpa using h
  have d : DR P ro C n ops s S V OB := {
    row := fun j o ho => tb.row j o (Nat.zero_le _) (at0 ho)
    s0 := e0
    p1 := fun j1 j2 o1 o2 a h1 h2 h3 => tb.p1 j1 j2 o1 o2 a (Nat.zero_le _) h1 (at0 h2) (at0 h3)
    p2 := fun j1 j2 o1 o2 a h1 h2 h3 => tb.p2 j1 j2 o1 o2 a (Nat.zero_le _) h1 (at0 h2) (at0 h3)
    ok := hd
    mono := hmono
    fresh := fun k hk => by
      cases hx : s.h.get k with
      | none => rfl
      | some x =>
        obtain ⟨B, b, r, o', g1, _⟩ := hs.sim.own k x hx
        rw [hs.fresh k hk] at g1; cases g1 }
  have hrep : (fun k => (Array.replicate ops.size false).getD k false) = fun _ => false := by
    funext k
    simp only [Array.getD_eq_getD_getElem?, Array.getElem?_replicate]
    split <;> rfl
  have h0 : hat ops s S OB 0 (fun _ => false) = s.h.get := by
    funext b
    rw [hat_not (by intro k _ _ h; cases h), e0]
  refine wp_region_any hm (Inv.every (φ0 := φ) (w1 := w) (a0 := a) hz hn hC d ?_ ops.size _ (by simp) 0 φ a { w with drawn := w.drawn + 1 } ?_ ?_)
  · intro a' w' φ' c' L' hall I
    have hH : hat ops s S OB c' L' = s'.h.get := by
      funext b
      have hlast : loudAt ops S = loudAt ops S := rfl
      have hnl : ∀ q, c' ≤ q → q < ops.size → loudAt ops S q = false := fun q h1 h2 => by
        cases hq : loudAt ops S q with
        | false => rfl
        | true => have := I.c2 q h1 h2 hq; rw [hall q h2] at this; cases this
      rcases hat_cases (ops := ops) (s := s) (c := c') (L := L') (OB := OB) b with ⟨k, h1, h2, h3, h4, rfl⟩ | hno
      · rw [hat_own h1 h2 h3 h4]
        have hk := (d.quiet h1 (hnl k h2 h1) (s.nx + k)).2
        rw [if_pos ⟨rfl, h4⟩] at hk
        rw [← hk, ← e1]
        refine (d.range ops.size (by omega) (Nat.le_refl _) ?_ ?_).symm
        · intro q g1 g2 g3; rw [hnl q (by omega) g2] at g3; cases g3
        · intro q g1 g2 e; omega
      · rw [hat_not hno, ← e1]
        refine (d.range ops.size I.cm (Nat.le_refl _) ?_ ?_).symm
        · intro q g1 g2 g3; rw [hnl q g1 g2] at g3; cases g3
        · intro q g1 g2 e
          cases hob : OB q with
          | none => rfl
          | some y => exact (hno q g2 g1 (hall q g2) (by rw [hob]; rfl) e).elim
    have hnx : (S c').nx ≤ s'.nx := by
      rw [← e1]
      have key : ∀ j, c' ≤ j → j ≤ ops.size → (S c').nx ≤ (S j).nx := by
        intro j
        induction j with
        | zero => intro h _; rw [Nat.le_zero.1 h]; exact Nat.le_refl _
        | succ j ih =>
          intro h1 h2
          rcases Nat.lt_or_eq_of_le h1 with h | rfl
          · refine Nat.le_trans (ih (by omega) (by omega)) ?_
            cases hl : loudAt ops S j with
            | true => exact (d.loudly (by omega) hl).1.1
            | false => exact Nat.le_of_eq (d.quiet (by omega) hl 0).1.symm
          · exact Nat.le_refl _
      exact key _ I.cm (Nat.le_refl _)
    have hup : s.nx ≤ s'.nx := by
      have := d.nx ops.size (Nat.le_refl _)
      rw [e1] at this; omega
    refine hQ a' w' φ' {
      le := I.le
      ss := ⟨by rw [← hH]; exact I.sim, fun k hk => I.fr1 k (by omega)⟩
      up := hup
      new := I.new
      size := I.size
      frame := I.frame
      img := fun k B o r hk hφ => I.img k B o r (by rw [hH]; exact hk) hφ
      os := I.os
      tape := I.tape
      output := I.output } (I.env.congr fun x => ?_) I.defers
    rw [← e1, d.tmp _ (Nat.le_refl _)]
    exact (tmpL_congr _ fun k hk _ => hall k hk).symm
  · rw [hrep]
    exact {
      closed := by intro j o _ h; cases h
      cm := Nat.zero_le _
      c1 := .inl rfl
      c2 := fun _ _ _ _ => rfl
      sim := by
        rw [h0]
        exact { n := hs.sim.n, le := hs.sim.le, old := hs.sim.old, dom := hs.sim.dom, inj := hs.sim.inj, own := hs.sim.own, ro := hs.sim.ro }
      fr1 := fun k hk => by rw [e0] at hk; exact hs.fresh k (by simp only at hk; omega)
      fr2 := fun j _ _ => hs.fresh _ (Nat.le_add_right _ _)
      env := by rw [tmpL_none]; exact he
      defers := rfl
      le := Phi.le_refl _
      new := fun _ _ => rfl
      size := Nat.le_refl _
      frame := fun _ _ _ => rfl
      img := fun k B o r hk hφ => .inr ⟨k, o, r, by rw [h0] at hk; exact hk, hφ⟩
      os := rfl
      tape := rfl
      output := rfl }
  · exact Nat.le_trans List.count_le_length (by simp)
end
end V
end Go.Proofs.Ytepbdkfkfcckoaa
