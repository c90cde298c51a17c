/- The machine of VA held against the model's: regions that draw their order: tables of a region's run.
   No condition. -/
import Derived.Test.YtepbdkfkfcckoaaVO
set_option linter.unusedVariables false
set_option linter.unusedSimpArgs false
namespace Go.Proofs.Ytepbdkfkfcckoaa
namespace V
/-! ### What is new has new numbers -/
def Mono (h : T Obj) (nx : Nat) (h' : T Obj) (nx' : Nat) : Prop := nx ≤ nx' ∧ ∀ k, k < nx → h.get k = none → h'.get k = none
theorem Mono.refl (h : T Obj) (nx : Nat) : Mono h nx h nx := ⟨Nat.le_refl _, fun _ _ e => e⟩
theorem Mono.trans {h h1 h2 : T Obj} {nx nx1 nx2 : Nat} (a : Mono h nx h1 nx1) (b : Mono h1 nx1 h2 nx2) : Mono h nx h2 nx2 :=
  ⟨Nat.le_trans a.1 b.1, fun k hk e => b.2 k (Nat.lt_of_lt_of_le hk a.1) (a.2 k hk e)⟩
theorem Mono.upd {h : T Obj} {nx k : Nat} {x : Obj} {o : Option Obj} (hk : h.get k = some x) : Mono h nx (h.upd k o) nx :=
  ⟨Nat.le_refl _, fun i _ e => by
    rw [T.get_upd]
    split
    · rename_i e'; subst e'; rw [hk] at e; cases e
    · exact e⟩
theorem Mono.add {h : T Obj} {nx k : Nat} {o : Option Obj} (hk : nx ≤ k) : Mono h nx (h.upd k o) (nx + 1) :=
  ⟨Nat.le_succ _, fun i hi e => by rw [T.get_upd, if_neg (by omega)]; exact e⟩
theorem Mono.sub {h h1 h2 : T Obj} {nx nx1 : Nat} (a : Mono h nx h1 nx1) (hs : Sub h2 h1) : Mono h nx h2 nx1 :=
  ⟨a.1, fun k hk e => by
    cases hx : h2.get k with
    | none => rfl
    | some x => have := hs k x hx; rw [a.2 k hk e] at this; cases this⟩
def MonoC (C : CallR) : Prop := ∀ f args h nx v h' nx', C f args h nx v h' nx' → Mono h nx h' nx'
section
variable {P : Program} {ro : Ro} {h h' : T Obj} {nx nx' : Nat}
theorem storeAt_mono {a : Addr} {vs : List Value} (hs : storeAtV h a vs = some h') : Mono h nx h' nx := by
  unfold storeAtV at hs
  split at hs
  · cases hs
  · split at hs
    · rename_i hk
      split at hs
      · cases hs; exact Mono.upd hk
      · cases hs
    · cases hs
theorem store_mono {ty : TypeId} {a x : Value} (hs : storeV P h ty a x = some h') : Mono h nx h' nx := by
  unfold storeV at hs
  split at hs
  · obtain ⟨n, hn, hs⟩ := bind_some' hs
    split at hs
    · exact storeAt_mono hs
    · cases hs
  · cases hs
theorem mapPut_mono {t : TypeId} {m k v : Value} (hp : mapPutV P h t m k v = some h') : Mono h nx h' nx := by
  unfold mapPutV at hp
  split at hp
  case h_2 => cases hp
  obtain ⟨es, he, hp⟩ := bind_some' hp
  have hobj := entries_obj he
  split at hp
  · obtain ⟨f, hf, hp⟩ := bind_some' hp
    split at hp <;> cases hp <;> exact Mono.upd hobj
  · cases hp
theorem clear_mono {m : Value} (hc : clearV h m = some h') : Mono h nx h' nx := by
  unfold clearV at hc
  split at hc
  · cases hc; exact Mono.refl _ _
  · obtain ⟨es, he, hc⟩ := bind_some' hc
    cases hc; exact Mono.upd (entries_obj he)
  · cases hc
theorem copy_mono {ts : Array TypeId} {vs : List Value} {v : Value} (hc : copyV P ro h nx ts vs = some (v, h', nx')) : Mono h nx h' nx' := by
  unfold copyV at hc
  split at hc
  case h_2 => cases hc
  split at hc
  case h_2 => cases hc
  obtain ⟨z, hz, hc⟩ := bind_some' hc
  split at hc
  · cases hc; exact Mono.refl _ _
  · split at hc
    · cases hc
    · split at hc
      · obtain ⟨l, hl, hc⟩ := bind_some' hc
        obtain ⟨h2, hs, hc⟩ := bind_some' hc
        cases hc; exact storeAt_mono hs
      · cases hc
  · cases hc
theorem old_mono {z len : Nat} {base : Option Addr} {p : List Value × T Obj} (ho : oldV ro h z base len = some p) : Mono h nx p.2 nx := by
  unfold oldV at ho
  split at ho
  · split at ho
    · cases ho; exact Mono.refl _ _
    · cases ho
  · rename_i a
    obtain ⟨l, hl, ho⟩ := bind_some' ho
    split at ho
    · cases ho; exact Mono.refl _ _
    · rename_i z' hsp
      split at ho
      · cases ho
        unfold cellsAt at hl
        rw [hsp] at hl
        cases hk : h.get a.block with
        | none => rw [hk] at hl; cases hl
        | some ob => exact Mono.upd hk
      · cases ho
theorem append_mono {ts : Array TypeId} {vs : List Value} {v : Value} (hc : appendV P ro h nx ts vs = some (v, h', nx')) : Mono h nx h' nx' := by
  unfold appendV at hc
  split at hc
  case h_2 => cases hc
  split at hc
  case h_2 => cases hc
  obtain ⟨i, hi, hc⟩ := bind_some' hc
  obtain ⟨s, hs, hc⟩ := bind_some' hc
  split at hc
  · split at hc
    · cases hc; exact Mono.refl _ _
    · split at hc
      · cases hc
      · split at hc
        · cases hc
        · split at hc
          · obtain ⟨h2, hst, hc⟩ := bind_some' hc
            cases hc; exact storeAt_mono hst
          · cases hc
  · obtain ⟨zv, hzv, hc⟩ := bind_some' hc
    split at hc
    · obtain ⟨p, hp, hc⟩ := bind_some' hc
      cases hc
      exact (old_mono hp).trans (Mono.add (Nat.le_refl _))
    · cases hc
theorem opL_mono {C : CallR} (hC : MonoC C) {t : T Value} {op : Op} {v : Value} (hl : opL P ro C t h nx op v h' nx') : Mono h nx h' nx' := by
  cases op with
  | store ty x y => obtain ⟨_, _, _, _, h3, rfl, _⟩ := hl; exact store_mono h3
  | mapUpdate ty m k x => obtain ⟨_, _, _, _, _, _, h4, rfl, _⟩ := hl; exact mapPut_mono h4
  | insert ty m k x => obtain ⟨_, _, _, _, _, _, h4, rfl, _⟩ := hl; exact mapPut_mono h4
  | call c =>
    obtain ⟨callee, args, argTypes⟩ := c
    cases callee with
    | builtin b =>
      obtain ⟨vs, hvs, hb⟩ := hl
      cases b <;> simp only at hb <;> try (exact hb.elim)
      case append => exact append_mono hb
      case clear => obtain ⟨m, t1, rfl, h1, h2, h3, rfl, rfl⟩ := hb; exact clear_mono h3
      case copy => exact copy_mono hb
    | value f => obtain ⟨k, fa, fb, vs, h1, h2, h3⟩ := hl; exact hC _ _ _ _ _ _ _ h3
    | invoke r m => exact hl.elim
  | convert sx dx x =>
    obtain ⟨xv, h1, hc, rfl⟩ := hl
    unfold convSame at hc
    split at hc
    case h_2 => cases hc
    rename_i a l c
    split at hc
    case h_2 => cases hc
    rename_i z cs e f hsp hk
    split at hc
    case h_2 => cases hc
    split at hc
    case h_2 => cases hc
    cases hc
    refine ⟨Nat.le_refl _, fun k hk2 e => ?_⟩
    rw [T.get_upd]
    split
    · rename_i ek; subst ek; rw [hk] at e; cases e
    · exact e
  | _ => exact hl.elim
theorem addO_mono {id : Nat} {ob : Option Obj} (hid : nx ≤ id) : Mono h nx (addO h id ob) nx := by
  cases ob with
  | none => exact Mono.refl _ _
  | some o => exact ⟨Nat.le_refl _, (Mono.add (o := some o) hid).2⟩
theorem opsR_mono {C : CallR} (hC : MonoC C) {n : Nat} {ops : Array Oper} : ∀ (l : List Oper) (s s' : St), opsR P ro C n ops l s s' → Mono s.h s.nx s'.h s'.nx := by
  intro l
  induction l with
  | nil => intro s s' h; simp only [opsR] at h; subst h; exact Mono.refl _ _
  | cons o l ih =>
    intro s s' h
    simp only [opsR] at h
    cases hw : wanted ops s.t o with
    | false => rw [hw] at h; obtain ⟨t', h1, h2⟩ := h; exact ih ⟨t', s.h, s.nx⟩ s' h2
    | true =>
      rw [hw] at h
      obtain ⟨v, h', nx', t', h1, h2, h3⟩ := h
      refine Mono.trans ?_ (ih ⟨t', h', nx'⟩ s' h3)
      unfold opR at h1
      cases hq : loud o.op with
      | true =>
        rw [hq] at h1
        have := opL_mono hC h1
        exact ⟨Nat.le_trans (Nat.le_succ _) this.1, fun k hk e => this.2 k (by omega) e⟩
      | false =>
        rw [hq] at h1
        obtain ⟨ob, _, rfl, rfl⟩ := h1
        have := addO_mono (h := s.h) (nx := s.nx) (id := s.nx) (ob := ob) (Nat.le_refl _)
        exact ⟨Nat.le_succ _, this.2⟩
theorem opsD_mono {C : CallR} (hC : MonoC C) {n n0 : Nat} {ops : Array Oper} : ∀ (l : List Oper) (i : Nat) (ls : List (Nat × Nat)) (ms : List (Nat × T Obj × T Obj)) (s s' : St), opsD P ro C n ops n0 l i ls ms s s' → n0 ≤ s.nx → Mono s.h n0 s'.h s'.nx ∧ s.nx ≤ s'.nx := by
  intro l
  induction l with
  | nil => intro i ls ms s s' h hn; simp only [opsD] at h; subst h; exact ⟨⟨hn, fun _ _ e => e⟩, Nat.le_refl _⟩
  | cons o l ih =>
    intro i ls ms s s' h hn
    simp only [opsD] at h
    cases hw : wanted ops s.t o with
    | false => rw [hw] at h; obtain ⟨t', h1, h2⟩ := h; exact ih (i + 1) ls ms ⟨t', s.h, s.nx⟩ s' h2 hn
    | true =>
      rw [hw] at h
      obtain ⟨v, h', nx', t', h1, h2, h3⟩ := h
      unfold opR at h1
      cases hq : loud o.op with
      | true =>
        rw [hq] at h1 h3
        have m := opL_mono hC h1
        obtain ⟨i1, i2⟩ := ih (i + 1) ls ((i, s.h, h') :: ms) ⟨t', h', nx'⟩ s' h3.2 (Nat.le_trans hn m.1)
        exact ⟨⟨i1.1, fun k hk e => i1.2 k hk (m.2 k (by omega) e)⟩, Nat.le_trans m.1 i2⟩
      | false =>
        rw [hq] at h1 h3
        obtain ⟨ob, _, rfl, rfl⟩ := h1
        have m := addO_mono (h := s.h) (nx := n0) (id := n0 + i) (ob := ob) (by omega)
        have : Mono (addO s.h (n0 + i) ob) n0 s'.h s'.nx ∧ s.nx ≤ s'.nx := by
          simp only at h3
          split at h3
          · exact ih (i + 1) _ ms ⟨t', addO s.h (n0 + i) ob, s.nx⟩ s' h3.2 hn
          · exact ih (i + 1) ls ms ⟨t', addO s.h (n0 + i) ob, s.nx⟩ s' h3 hn
        exact ⟨⟨this.1.1, fun k hk e => this.1.2 k hk (m.2 k hk e)⟩, this.2⟩
theorem callR_mono {X : CodeR} (hX : ∀ n c s e s', X n c s e s' → Mono s.h s.nx s'.h s'.nx) : MonoC (callR P ro X) := by
  intro f args h nx v h' nx' hc
  rcases hc with ⟨fn, body, e, s, vs, h1, h2, h3, h4, h5, h6, rfl, h7, rfl⟩ | ⟨_, _, h7, rfl⟩
  · exact (hX _ _ _ _ _ h4).sub h7
  · exact (Mono.refl _ _).sub h7
theorem code_mono : ∀ k n c s e s', code P ro k n c s e s' → Mono s.h s.nx s'.h s'.nx := by
  intro k
  induction k with
  | zero => intro n c s e s' h; exact h.elim
  | succ k ih =>
    intro n c s e s' hc
    have hC := callR_mono (P := P) (ro := ro) ih
    change codeB P ro (code P ro k) n c s e s' at hc
    cases c with
    | skip | label | ret | exit => obtain ⟨_, rfl⟩ := hc; exact Mono.refl _ _
    | seq x y =>
      rcases hc with ⟨s1, h1, h2⟩ | ⟨_, h1⟩
      · exact (ih _ _ _ _ _ h1).trans (ih _ _ _ _ _ h2)
      · exact ih _ _ _ _ _ h1
    | cond c x y => obtain ⟨v, h1, h2⟩ := hc; exact ih _ _ _ _ _ h2
    | block id b => obtain ⟨e1, h1, h2⟩ := hc; exact ih _ _ _ _ _ h1
    | loop b =>
      rcases hc with ⟨s1, hh, h1, h3, h2⟩ | ⟨_, h1⟩
      · exact ((ih _ _ _ _ _ h1).sub h3).trans (ih _ _ ⟨s1.t, hh, s1.nx⟩ _ _ h2)
      · exact ih _ _ _ _ _ h1
    | scope b => exact ih _ _ _ _ _ hc
    | region id ops draw =>
      obtain ⟨_, hreg⟩ := hc
      cases draw with
      | false => exact opsR_mono hC _ _ _ hreg
      | true =>
        obtain ⟨_, hreg⟩ := hreg
        have := opsD_mono hC _ _ _ _ _ _ hreg (Nat.le_add_right _ _)
        exact this.1
    | _ => exact hc.elim
end
end V
end Go.Proofs.Ytepbdkfkfcckoaa
