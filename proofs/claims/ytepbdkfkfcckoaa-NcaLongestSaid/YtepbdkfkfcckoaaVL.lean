/- The machine of VA held against the model's: what a step does to memory; stores, appends, copies, maps.
   No condition. -/
import Derived.Test.YtepbdkfkfcckoaaVK
set_option linter.unusedVariables false
set_option linter.unusedSimpArgs false
namespace Go.Proofs.Ytepbdkfkfcckoaa
namespace V

structure SS (ro : Ro) (N : Nat) (w0 : World) (φ : Phi) (h : T Obj) (nx : Nat) (w : World) : Prop where
  sim : Sim ro N φ w0 h.get w
  fresh : ∀ k, nx ≤ k → φ k = none
structure Step (ro : Ro) (N : Nat) (w0 : World) (φ : Phi) (h : T Obj) (nx : Nat) (w : World) (φ' : Phi) (h' : T Obj) (nx' : Nat) (w' : World) : Prop where
  le : Phi.le φ φ'
  ss : SS ro N w0 φ' h' nx' w'
  up : nx ≤ nx'
  new : ∀ k, k < nx → φ' k = φ k
  size : w.heap.size ≤ w'.heap.size
  frame : ∀ b, b < w.heap.size → (∀ k B o r, h.get k ≠ none → φ k = some (B, o, r) → B ≠ b) → w'.heap[b]? = w.heap[b]?
  img : ∀ k B o r, h'.get k ≠ none → φ' k = some (B, o, r) → w.heap.size ≤ B ∨ ∃ k0 o0 r0, h.get k0 ≠ none ∧ φ k0 = some (B, o0, r0)
  os : w'.os = w.os
  tape : w'.tape = w.tape
  output : w'.output = w.output
section
variable {P : Program} {ro : Ro} {N : Nat} {φ φ1 φ2 : Phi} {w0 w w1 w2 : World} {h h1 h2 : T Obj} {nx nx1 nx2 : Nat}
theorem Step.refl (s : SS ro N w0 φ h nx w) : Step ro N w0 φ h nx w φ h nx w :=
  ⟨Phi.le_refl _, s, Nat.le_refl _, fun _ _ => rfl, Nat.le_refl _, fun _ _ _ => rfl, fun k B o r hk hφ => .inr ⟨k, o, r, hk, hφ⟩, rfl, rfl, rfl⟩
theorem Step.trans (a : Step ro N w0 φ h nx w φ1 h1 nx1 w1) (b : Step ro N w0 φ1 h1 nx1 w1 φ2 h2 nx2 w2) : Step ro N w0 φ h nx w φ2 h2 nx2 w2 where
  le := Phi.le_trans a.le b.le
  ss := b.ss
  up := Nat.le_trans a.up b.up
  new := fun k hk => (b.new k (Nat.lt_of_lt_of_le hk a.up)).trans (a.new k hk)
  size := Nat.le_trans a.size b.size
  frame := fun x hx hn => by
    rw [b.frame x (Nat.lt_of_lt_of_le hx a.size), a.frame x hx hn]
    intro k B o r hk hφ e
    subst e
    rcases a.img k B o r hk hφ with h | ⟨k0, o0, r0, g1, g2⟩
    · omega
    · exact hn k0 B o0 r0 g1 g2 rfl
  img := fun k B o r hk hφ => by
    rcases b.img k B o r hk hφ with h | ⟨k0, o0, r0, g1, g2⟩
    · exact .inl (Nat.le_trans a.size h)
    · exact a.img k0 B o0 r0 g1 g2
  os := b.os.trans a.os
  tape := b.tape.trans a.tape
  output := b.output.trans a.output
/-- Blocks that are let go of. -/
theorem Step.sub (a : Step ro N w0 φ h nx w φ1 h1 nx1 w1) (hs : Sub h2 h1) : Step ro N w0 φ h nx w φ1 h2 nx1 w1 :=
  { a with
    ss := ⟨a.ss.sim.sub hs, a.ss.fresh⟩
    img := fun k B o r hk hφ => a.img k B o r (fun e => by
      cases hx : h2.get k with
      | none => exact hk hx
      | some x => rw [hs k x hx] at e; cases e) hφ }
/-- A greater number behind which all is new. -/
theorem Step.rise (a : Step ro N w0 φ h nx w φ1 h1 nx1 w1) (hn : nx1 ≤ nx2) : Step ro N w0 φ h nx w φ1 h1 nx2 w1 :=
  { a with ss := ⟨a.ss.sim, fun k hk => a.ss.fresh k (Nat.le_trans hn hk)⟩, up := Nat.le_trans a.up hn }
theorem Step.down (a : Step ro N w0 φ h nx1 w φ1 h1 nx2 w1) (hn : nx ≤ nx1) : Step ro N w0 φ h nx w φ1 h1 nx2 w1 :=
  { a with up := Nat.le_trans hn a.up, new := fun k hk => a.new k (Nat.lt_of_lt_of_le hk hn) }
theorem Step.drew (a : Step ro N w0 φ h nx w φ1 h1 nx1 w1) {u : World} (hu : u.heap = w1.heap) (ho : u.os = w1.os) (ht : u.tape = w1.tape) (hq : u.output = w1.output) : Step ro N w0 φ h nx w φ1 h1 nx1 u where
  le := a.le
  ss := ⟨{ n := a.ss.sim.n, le := by rw [hu]; exact a.ss.sim.le, old := by rw [hu]; exact a.ss.sim.old, dom := by rw [hu]; exact a.ss.sim.dom, inj := a.ss.sim.inj, own := by rw [hu]; exact a.ss.sim.own, ro := a.ss.sim.ro }, a.ss.fresh⟩
  up := a.up
  new := a.new
  size := by rw [hu]; exact a.size
  frame := by rw [hu]; exact a.frame
  img := a.img
  os := ho.trans a.os
  tape := ht.trans a.tape
  output := hq.trans a.output

/-! ### A block more -/
def Phi.add (φ : Phi) (k B r : Nat) : Phi := fun i => if i = k then some (B, 0, r) else φ i
theorem Phi.le_add {k B r : Nat} (hk : φ k = none) : Phi.le φ (φ.add k B r) := by
  intro i p hi
  unfold Phi.add
  by_cases e : i = k
  · subst e; rw [hk] at hi; cases hi
  · rw [if_neg e]; exact hi
theorem Phi.add_same {k B r : Nat} : φ.add k B r k = some (B, 0, r) := by simp [Phi.add]
theorem Phi.add_ne {k B r i : Nat} (h : i ≠ k) : φ.add k B r i = φ i := by simp [Phi.add, h]
/-- A new block: the memory relation, at any function that tells of the blocks. -/
theorem Sim.alloc {H : Nat → Option Obj} (hS : Sim ro N φ w0 H w) {k : Nat} (hk : φ k = none) {o o' : Obj} {rm : Nat} {w' : World} (hh : w'.heap = w.heap.push o')
    (ho : OR N (φ.add k w.heap.size rm) o o' 0 rm) : Sim ro N (φ.add k w.heap.size rm) w0 (fun i => if i = k then some o else H i) w' := by
  have hle := Phi.le_add (φ := φ) (B := w.heap.size) (r := rm) hk
  have hold : ∀ b, b < w.heap.size → w'.heap[b]? = w.heap[b]? := fun b hb => by rw [hh, Array.getElem?_push, if_neg (by omega)]
  have hne : ∀ i, i ≠ k → φ.add k w.heap.size rm i = φ i := fun i hi => Phi.add_ne hi
  exact {
    n := hS.n
    le := by rw [hh]; simp; exact Nat.le_succ_of_le hS.le
    old := fun b hb => by rw [hold b (Nat.lt_of_lt_of_le hb hS.le)]; exact hS.old b hb
    dom := fun i B o r hi => by
      by_cases e : i = k
      · subst e; rw [Phi.add_same] at hi; cases hi; exact ⟨hS.le, by rw [hh]; simp⟩
      · rw [hne i e] at hi
        have := hS.dom i B o r hi
        exact ⟨this.1, by rw [hh]; simp; omega⟩
    inj := fun i j B o r B' o' r' hi hj e1 e2 hij => by
      by_cases a : i = k
      · subst a
        rw [Phi.add_same] at e1; cases e1
        rw [hne j (Ne.symm hij)] at e2
        have := hS.dom j _ _ _ e2
        omega
      · rw [hne i a] at e1
        by_cases b : j = k
        · subst b
          rw [Phi.add_same] at e2; cases e2
          have := hS.dom i _ _ _ e1
          omega
        · rw [hne j b] at e2
          rw [if_neg a] at hi; rw [if_neg b] at hj
          exact hS.inj i j B o r B' o' r' hi hj e1 e2 hij
    own := fun i x hi => by
      by_cases e : i = k
      · subst e
        rw [if_pos rfl] at hi; cases hi
        exact ⟨_, _, _, o', Phi.add_same, by rw [hh]; simp, ho⟩
      · rw [if_neg e] at hi
        obtain ⟨B, b, r, x', g1, g2, g3⟩ := hS.own i x hi
        exact ⟨B, b, r, x', by rw [hne i e]; exact g1, by rw [hold B (hS.dom i B b r g1).2]; exact g2, g3.mono hle⟩
    ro := hS.ro }
theorem get_add (h : T Obj) (k : Nat) (o : Obj) : (h.upd k (some o)).get = fun i => if i = k then some o else h.get i := by
  funext i; rw [T.get_upd]
theorem SS.alloc (s : SS ro N w0 φ h nx w) {o o' : Obj} {rm : Nat} {w' : World} (hh : w'.heap = w.heap.push o') (hos : w'.os = w.os) (ht : w'.tape = w.tape) (hout : w'.output = w.output)
    (ho : OR N (φ.add nx w.heap.size rm) o o' 0 rm) : Step ro N w0 φ h nx w (φ.add nx w.heap.size rm) (h.upd nx (some o)) (nx + 1) w' where
  le := Phi.le_add (s.fresh nx (Nat.le_refl _))
  ss := ⟨by rw [get_add]; exact s.sim.alloc (s.fresh nx (Nat.le_refl _)) hh ho, fun k hk => by rw [Phi.add_ne (by omega)]; exact s.fresh k (by omega)⟩
  up := Nat.le_succ _
  new := fun k hk => Phi.add_ne (by omega)
  size := by rw [hh]; simp
  frame := fun b hb _ => by rw [hh, Array.getElem?_push, if_neg (by omega)]
  img := fun k B o r hk hφ => by
    by_cases e : k = nx
    · subst e; rw [Phi.add_same] at hφ; cases hφ; exact .inl (Nat.le_refl _)
    · rw [Phi.add_ne e] at hφ
      rw [T.get_upd, if_neg e] at hk
      exact .inr ⟨k, o, r, hk, hφ⟩
  os := hos
  tape := ht
  output := hout
/-! ### Stores -/
def setAt (w : World) (B : Nat) (o : Obj) : World := { w with heap := w.heap.setIfInBounds B o }
theorem setAt_get {B : Nat} {o o' : Obj} (hB : w.heap[B]? = some o) : (setAt w B o').heap[B]? = some o' := by
  have : B < w.heap.size := (Array.getElem?_eq_some_iff.1 hB).1
  simp [setAt, Array.getElem?_setIfInBounds, this]
theorem setAt_ne {B b : Nat} {o' : Obj} (h : b ≠ B) : (setAt w B o').heap[b]? = w.heap[b]? := by
  simp [setAt, Array.getElem?_setIfInBounds, Ne.symm h]
theorem setAt_size {B : Nat} {o' : Obj} : (setAt w B o').heap.size = w.heap.size := by simp [setAt]
theorem world_heap {w w' : World} (h1 : w.heap = w'.heap) (h2 : w.tape = w'.tape) (h3 : w.drawn = w'.drawn) (h4 : w.os = w'.os) (h5 : w.output = w'.output) : w = w' := by
  cases w; cases w'; simp_all
theorem setAt_setAt {B : Nat} {o o' : Obj} : setAt (setAt w B o) B o' = setAt w B o' := by
  refine world_heap (Array.ext_getElem? fun i => ?_) rfl rfl rfl rfl
  simp only [setAt, Array.getElem?_setIfInBounds, Array.size_setIfInBounds]
  by_cases e : B = i <;> simp [e]
theorem setAt_same {B : Nat} {o : Obj} (hB : w.heap[B]? = some o) : setAt w B o = w := by
  refine world_heap (Array.ext_getElem? fun i => ?_) rfl rfl rfl rfl
  simp only [setAt, Array.getElem?_setIfInBounds]
  by_cases e : B = i
  · subst e
    have hlt := (Array.getElem?_eq_some_iff.1 hB).1
    simp [hlt, hB]
    rw [Array.getElem?_eq_getElem hlt] at hB; exact (Option.some.inj hB).symm
  · simp [e]
theorem setCell_setAt {B i : Nat} {C : Array Value} {e : TypeId} {F : Nat × Nat} (hB : w.heap[B]? = some (.cells C e F)) (v : Value) :
    w.setCell ⟨B, i, none⟩ v = setAt w B (.cells (C.setIfInBounds i v) e F) := by
  refine world_heap (Array.ext_getElem? fun j => ?_) rfl rfl rfl rfl
  have hlt := (Array.getElem?_eq_some_iff.1 hB).1
  simp only [setAt, World.setCell, Array.getElem?_setIfInBounds, Array.getElem?_modify]
  by_cases e : B = j
  · subst e
    simp [hlt]
    rw [Array.getElem?_eq_getElem hlt] at hB
    rw [Option.some.inj hB]
  · simp [e]
theorem run_storeCells_own {B o : Nat} {e : TypeId} {F : Nat × Nat} : ∀ (vs : List Value) (i : Nat) (C : Array Value) (w : World), w.heap[B]? = some (.cells C e F) → (∀ j, j < C.size → ¬ (F.1 ≤ j ∧ j < F.2)) →
    o + i + vs.length ≤ C.size → (∀ u ∈ vs, u.oneCell' = true) → (storeCells ⟨B, o, none⟩ vs i).run P w = .ok () (setAt w B (.cells (over C.toList (o + i) vs).toArray e F)) := by
  intro vs
  induction vs with
  | nil =>
    intro i C w hB hF hle hu
    have : (over C.toList (o + i) []).toArray = C := by apply Array.ext'; simp [over]
    rw [this, setAt_same hB]
    rfl
  | cons v vs ih =>
    intro i C w hB hF hle hu
    simp only [List.length_cons] at hle
    have hlt : o + i < C.size := by omega
    have hc : w.cell? ⟨B, o + i, none⟩ = some C[o + i] := by simp [World.cell?, hB, hlt]
    have hf : w.frozen? ⟨B, o + i, none⟩ = false := by
      have := hF (o + i) hlt
      simp only [World.frozen?, hB]
      simpa using this
    have hst : (store ((⟨B, o, none⟩ : Addr).add i) v).run P w = .ok () (setAt w B (.cells (C.setIfInBounds (o + i) v) e F)) := by
      rw [Addr.add_lit, run_store P w _ v _ (hu v (by simp)), hc]
      simp only [hf]
      rw [setCell_setAt hB]; rfl
    unfold storeCells
    rw [Sem.run_bind, hst, Result.andThen_ok, ih (i + 1) (C.setIfInBounds (o + i) v) _ (setAt_get hB) (by simpa using hF) (by simp; omega) (fun u hu' => hu u (by simp [hu'])), setAt_setAt]
    congr 3
    apply Array.ext'
    apply List.ext_getElem?
    intro j
    rw [List.toList_toArray, List.toList_toArray, over_get _ _ _ (by simp; omega), over_get _ _ _ (by simp; omega)]
    simp only [Array.toList_setIfInBounds, List.getElem?_set, List.length_cons]
    by_cases a : j < o + i
    · rw [if_pos (by omega), if_pos a, if_neg (by omega)]
    · by_cases ee : o + i = j
      · subst ee
        rw [if_pos (by omega), if_pos rfl, if_pos (by simpa using hlt), if_neg a, if_pos (by omega), Nat.sub_self]
        rfl
      · rw [if_neg (by omega : ¬ j < o + i)]
        by_cases b : j < o + i + (vs.length + 1)
        · rw [if_neg (by omega), if_pos (by omega), if_pos b]
          rw [show j - (o + i) = (j - (o + (i + 1))) + 1 by omega]
          simp
        · rw [if_neg (by omega), if_neg (by omega), if_neg b, if_neg ee]
/-- A block that is there turns: both memories. -/
theorem SS.set (s : SS ro N w0 φ h nx w) {k B b r : Nat} {ob ob' oc : Obj} (hk : h.get k = some ob) (hφ : φ k = some (B, b, r)) (hw : w.heap[B]? = some oc) {oc' : Obj} (ho : OR N φ ob' oc' b r) :
    Step ro N w0 φ h nx w φ (h.upd k (some ob')) nx (setAt w B oc') where
  le := Phi.le_refl _
  ss := ⟨{
    n := s.sim.n
    le := by rw [setAt_size]; exact s.sim.le
    old := fun x hx => by
      have := (s.sim.dom k B b r hφ).1
      rw [setAt_ne (by omega)]; exact s.sim.old x hx
    dom := fun i B' o' r' hi => by rw [setAt_size]; exact s.sim.dom i B' o' r' hi
    inj := fun i j B1 o1 r1 B2 o2 r2 hi hj => s.sim.inj i j B1 o1 r1 B2 o2 r2
      (fun e => hi (by rw [T.get_upd, if_neg (fun e' => by subst e'; rw [hk] at e; cases e)]; exact e))
      (fun e => hj (by rw [T.get_upd, if_neg (fun e' => by subst e'; rw [hk] at e; cases e)]; exact e))
    own := fun i x hi => by
      by_cases e : i = k
      · subst e
        rw [T.get_upd_same] at hi; cases hi
        exact ⟨B, b, r, oc', hφ, setAt_get hw, ho⟩
      · rw [T.get_upd_ne _ _ e] at hi
        obtain ⟨B', b', r', x', g1, g2, g3⟩ := s.sim.own i x hi
        have hne : B' ≠ B := s.sim.inj i k B' b' r' B b r (by rw [hi]; simp) (by rw [hk]; simp) g1 hφ e
        exact ⟨B', b', r', x', g1, by rw [setAt_ne hne]; exact g2, g3⟩
    ro := s.sim.ro }, s.fresh⟩
  up := Nat.le_refl _
  new := fun _ _ => rfl
  size := by rw [setAt_size]; exact Nat.le_refl _
  frame := fun x hx hn => setAt_ne (fun e => hn k B b r (by rw [hk]; simp) hφ e.symm)
  img := fun i B' o' r' hi hφ' => .inr ⟨i, o', r', fun e => hi (by rw [T.get_upd, if_neg (fun e' => by subst e'; rw [hk] at e; cases e)]; exact e), hφ'⟩
  os := rfl
  tape := rfl
  output := rfl
/-- Cells put into a block of one's own. -/
theorem storeAt_sound (s : SS ro N w0 φ h nx w) {a b : Addr} (ha : AR N φ a b) {vs vs' : List Value} (hv : LR N φ vs vs') {h' : T Obj} (hs : storeAtV h a vs = some h') :
    ∃ w', (storeCells b vs').run P w = .ok () w' ∧ Step ro N w0 φ h nx w φ h' nx w' := by
  unfold storeAtV at hs
  rcases ha with ⟨g1, _⟩ | ⟨z, B, o, r, g1, g2, rfl⟩
  · rw [g1] at hs; cases hs
  · rw [g1] at hs
    simp only at hs
    cases hk : h.get a.block with
    | none => rw [hk] at hs; cases hs
    | some ob =>
      rw [hk] at hs
      cases ob <;> (try (cases hs; done))
      rename_i c e f
      dsimp only at hs
      cases hb : Nat.ble (a.off + vs.length) c.size with
      | false => rw [hb] at hs; cases hs
      | true =>
        cases hall : vs.all cellOk with
        | false => rw [hb, hall] at hs; cases hs
        | true =>
          rw [hb, hall] at hs; cases hs
          have hle : a.off + vs.length ≤ c.size := Nat.le_of_ble_eq_true hb
          obtain ⟨B', b', r', o', e1, e2, e3⟩ := s.sim.own _ _ hk
          rw [g2] at e1; cases e1
          cases o' <;> simp only [OR] at e3
          rename_i C E F
          obtain ⟨q1, q2, q3, q4⟩ := e3
          have hl := hv.length
          have hone : ∀ u ∈ vs', u.oneCell' = true := by
            intro u hu
            obtain ⟨i, hi⟩ := List.getElem?_of_mem hu
            have hlt : i < vs.length := by rw [hl]; exact (List.getElem?_eq_some_iff.1 hi).1
            have := hv.get i vs[i] u (List.getElem?_eq_getElem hlt) hi
            exact this.oneCell (List.all_eq_true.1 hall _ (by simp))
          have hrun := run_storeCells_own (P := P) (B := B) (o := o + a.off) (e := E) (F := F) vs' 0 C w e2 q4.no (by omega) hone
          refine ⟨_, hrun, s.set hk g2 e2 ⟨?_, ?_, ?_, ?_⟩⟩
          · rw [List.size_toArray, over_length _ _ _ (by simp; omega)]; simpa using q1
          · rw [List.size_toArray, over_length _ _ _ (by simp; omega)]; simpa using q2
          · intro i x hx
            rw [List.getElem?_toArray, over_get _ _ _ (by simp; omega)] at hx
            rw [List.getElem?_toArray, over_get _ _ _ (by simp; omega)]
            by_cases p1 : i < a.off
            · rw [if_pos p1] at hx
              rw [if_pos (by omega)]
              obtain ⟨y, hy, hv⟩ := q3 i x (by simpa using hx)
              exact ⟨y, by simpa using hy, hv⟩
            · rw [if_neg p1] at hx
              rw [if_neg (by omega)]
              by_cases p2 : i < a.off + vs.length
              · rw [if_pos p2] at hx
                rw [if_pos (by omega)]
                obtain ⟨y, hy, hyv⟩ := hv.some hx
                exact ⟨y, by rw [← hy]; congr 1; omega, hyv⟩
              · rw [if_neg p2] at hx
                rw [if_neg (by omega)]
                obtain ⟨y, hy, hv⟩ := q3 i x (by simpa using hx)
                exact ⟨y, by simpa using hy, hv⟩
          · rw [List.size_toArray, over_length _ _ _ (by simp; omega)]; simpa using q4
theorem store_sound (s : SS ro N w0 φ h nx w) {ty : TypeId} {a a' x x' : Value} (ha : VR N φ a a') (hx : VR N φ x x') {h' : T Obj} (hs : storeV P h ty a x = some h') :
    ∃ w', (Instr.storeAt ty a' x').run P w = .ok () w' ∧ Step ro N w0 φ h nx w φ h' nx w' := by
  unfold storeV at hs
  split at hs
  · rename_i a
    obtain ⟨n, hn, hs⟩ := bind_some' hs
    cases hb : Nat.beq x.cells.size n with
    | false => rw [hb] at hs; cases hs
    | true =>
      rw [hb] at hs
      obtain ⟨b, rfl, hab⟩ := ha.of_ptr
      have hc := hx.cells
      obtain ⟨w', g1, g2⟩ := storeAt_sound (P := P) s hab hc hs
      refine ⟨w', ?_, g2⟩
      have e : x'.cells.size = n := by have := hc.length; have := Nat.eq_of_beq_eq_true hb; simp at *; omega
      simp [Instr.storeAt, Instr.sureAddr, storeVar, run_siz hn, e, g1]
  · cases hs
end
end V
end Go.Proofs.Ytepbdkfkfcckoaa
