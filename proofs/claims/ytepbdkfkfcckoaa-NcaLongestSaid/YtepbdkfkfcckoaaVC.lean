/- The machine of VA held against the model's: memory; reading; the quiet operations.
   No condition. -/
import Derived.Test.YtepbdkfkfcckoaaVB
set_option linter.unusedVariables false
set_option linter.unusedSimpArgs false
namespace Go.Proofs.Ytepbdkfkfcckoaa
namespace V

/-! ### The program's tables -/
section
variable {P : Program} {t : TypeId}
theorem tin_info {i : TypeInfo} (h : tin P t = some i) : P.info? t = some i := by
  unfold tin at h
  have hlt : t < P.types.size := (Array.getElem?_eq_some_iff.1 h).1
  unfold Tables.info?
  rw [if_pos hlt]; exact h
theorem und_under {d : TypeDesc} (h : und P t = some d) : P.underlying t = some d := by
  unfold und at h
  unfold Program.underlying
  cases ht : tin P t with
  | none => rw [ht] at h; simp at h
  | some i =>
    rw [ht] at h
    rw [tin_info ht]
    obtain ⟨desc, str, size, bytes, hp, al, fa, zero, comp, ms⟩ := i
    cases desc
    case named nm u =>
      simp only at h ⊢
      cases hu : tin P u with
      | none => rw [hu] at h; simp at h
      | some j => rw [hu] at h; rw [tin_info hu]; exact h
    all_goals exact h
theorem siz_info {n : Nat} (h : siz P t = some n) : ∃ i, P.info? t = some i ∧ i.size = n := by
  unfold siz at h
  cases ht : tin P t with
  | none => rw [ht] at h; simp at h
  | some i => rw [ht] at h; simp at h; exact ⟨i, tin_info ht, h⟩
theorem zer_info {z : Value} (h : zer P t = some z) : ∃ i, P.info? t = some i ∧ i.zero = some z := by
  unfold zer at h
  cases ht : tin P t with
  | none => rw [ht] at h; simp at h
  | some i =>
    rw [ht] at h
    simp only [Option.bind] at h
    split at h
    · cases h
    · exact ⟨i, tin_info ht, h⟩
variable {w : World}
theorem run_und {d : TypeDesc} (h : und P t = some d) : (underlying t).run P w = .ok d w := run_underlying (und_under h) w
theorem run_siz {n : Nat} (h : siz P t = some n) : (sizeOf t).run P w = .ok n w := by
  obtain ⟨i, hi, rfl⟩ := siz_info h
  simp [sizeOf, typeInfo, hi]
theorem run_zer {z : Value} (h : zer P t = some z) : (zeroValue t).run P w = .ok z w := by
  obtain ⟨i, hi, hz⟩ := zer_info h
  simp [zeroValue, typeInfo, hi, hz]
theorem run_agg {b : Bool} (h : isAgg P t = some b) : (Go.isAgg t).run P w = .ok b w := by
  unfold isAgg at h
  cases hd : und P t with
  | none => rw [hd] at h; simp at h
  | some d =>
    rw [hd] at h
    unfold Go.isAgg
    rw [Sem.run_bind, run_und hd]
    cases d <;> simp at h <;> subst h <;> rfl
end

/-- The zeros of the program's types hold no address. -/
def zerosOk (P : Program) : Bool := P.types.toList.all fun i => match i.zero with
  | some (.tuple _) => true
  | some z => z.cells.toList.all flat
  | none => true
theorem zer_flat {P : Program} (hz : zerosOk P = true) {t : TypeId} {z : Value} (h : zer P t = some z) : ∀ x ∈ z.cells.toList, flat x = true := by
  unfold zer at h
  cases ht : tin P t with
  | none => rw [ht] at h; simp at h
  | some i =>
    rw [ht] at h
    have hm : i ∈ P.types.toList := by
      unfold tin at ht
      exact List.mem_of_getElem? (by simpa using ht)
    have := List.all_eq_true.1 hz i hm
    simp only [Option.bind] at h
    split at h
    · cases h
    · rename_i hnt
      rw [h] at this
      cases z <;> first | exact fun x hx => List.all_eq_true.1 this x hx | exact absurd h (hnt _)

/-! ### Memory -/
inductive ER (N : Nat) (φ : Phi) : List MapEntry → List MapEntry → Prop where
  | nil : ER N φ [] []
  | cons {e E : MapEntry} {es ES : List MapEntry} (hk : VR N φ e.key E.key) (hv : VR N φ e.val E.val) (hb : e.born = E.born) (t : ER N φ es ES) : ER N φ (e :: es) (E :: ES)
/-- No cell of a block is frozen: what is, lies behind. -/
def FrOk (n : Nat) (F : Nat × Nat) : Prop := F.1 = F.2 ∨ n ≤ F.1
theorem FrOk.no {n : Nat} {F : Nat × Nat} (h : FrOk n F) : ∀ i, i < n → ¬ (F.1 ≤ i ∧ i < F.2) := fun i hi ⟨h1, h2⟩ => by rcases h with h | h <;> omega
def OR (N : Nat) (φ : Phi) (o o' : Obj) (base room : Nat) : Prop :=
  match o, o' with
  | .cells c _ _, .cells C _ F => base + room ≤ C.size ∧ c.size ≤ room ∧ (∀ i x, c[i]? = some x → ∃ y, C[base + i]? = some y ∧ VR N φ x y) ∧ FrOk C.size F
  | .map es k, .map ES K => base = 0 ∧ room = 0 ∧ k = K ∧ ER N φ es.toList ES.toList
  | _, _ => False
theorem ER.mono {N : Nat} {φ ψ : Phi} (hl : Phi.le φ ψ) {es ES : List MapEntry} (h : ER N φ es ES) : ER N ψ es ES := by
  induction h with
  | nil => exact .nil
  | cons hk hv hb _ ih => exact .cons (hk.mono hl) (hv.mono hl) hb ih
theorem OR.mono {N : Nat} {φ ψ : Phi} (hl : Phi.le φ ψ) {o o' : Obj} {b r : Nat} (h : OR N φ o o' b r) : OR N ψ o o' b r := by
  cases o <;> cases o' <;> simp only [OR] at h ⊢
  · obtain ⟨h1, h2, h3, h4⟩ := h
    exact ⟨h1, h2, fun i x hx => let ⟨y, hy, hv⟩ := h3 i x hx; ⟨y, hy, hv.mono hl⟩, h4⟩
  · obtain ⟨h1, h2, h3, h4⟩ := h
    exact ⟨h1, h2, h3, h4.mono hl⟩
structure Sim (ro : Ro) (N : Nat) (φ : Phi) (w0 : World) (H : Nat → Option Obj) (w : World) : Prop where
  n : N = w0.heap.size
  le : N ≤ w.heap.size
  old : ∀ b, b < N → w.heap[b]? = w0.heap[b]?
  dom : ∀ k B o r, φ k = some (B, o, r) → N ≤ B ∧ B < w.heap.size
  inj : ∀ k k' B o r B' o' r', H k ≠ none → H k' ≠ none → φ k = some (B, o, r) → φ k' = some (B', o', r') → k ≠ k' → B ≠ B'
  own : ∀ k o, H k = some o → ∃ B b r o', φ k = some (B, b, r) ∧ w.heap[B]? = some o' ∧ OR N φ o o' b r
  ro : ∀ a v, ro a = some v → a.spot = none ∧ a.block < N ∧ ∃ v', w0.cell? a = some v' ∧ VR N (fun _ => none) v v'
theorem Phi.le_none (φ : Phi) : Phi.le (fun _ => none) φ := fun _ _ h => by cases h
section
variable {P : Program} {ro : Ro} {N : Nat} {φ : Phi} {w0 w : World} {H : Nat → Option Obj} {h : T Obj}
theorem Sim.sub (hS : Sim ro N φ w0 H w) {H' : Nat → Option Obj} (hs : ∀ k o, H' k = some o → H k = some o) : Sim ro N φ w0 H' w :=
  { hS with
    inj := fun k k' B o r B' o' r' h1 h2 => hS.inj k k' B o r B' o' r'
      (fun e => by cases hk : H' k with
        | none => exact h1 hk
        | some x => rw [hs k x hk] at e; cases e)
      (fun e => by cases hk : H' k' with
        | none => exact h2 hk
        | some x => rw [hs k' x hk] at e; cases e)
    own := fun k o hk => hS.own k o (hs k o hk) }
theorem add_spot {b : Addr} (hb : b.spot = none) (i : Nat) : b.add i = ⟨b.block, b.off + i, none⟩ := by
  obtain ⟨bb, bo, bs⟩ := b
  simp at hb; subst hb
  exact Addr.add_lit _ _ _
theorem Sim.roCells (hS : Sim ro N φ w0 H w) : ∀ (n : Nat) (a : Addr) (l : List Value), a.spot = none → V.roCells ro a n = some l →
    ∃ l', l.length = n ∧ LR N φ l l' ∧ ∀ j v, l'[j]? = some v → w.cell? ⟨a.block, a.off + j, none⟩ = some v := by
  intro n
  induction n with
  | zero => intro a l hs hl; simp [V.roCells] at hl; subst hl; exact ⟨[], rfl, .nil, fun j v hj => by simp at hj⟩
  | succ n ih =>
    intro a l hs hl
    simp only [V.roCells] at hl
    cases hv : ro a with
    | none => rw [hv] at hl; simp at hl
    | some v =>
      rw [hv] at hl
      simp only [Option.bind] at hl
      cases hr : V.roCells ro ⟨a.block, a.off + 1, none⟩ n with
      | none => rw [hr] at hl; simp at hl
      | some vs =>
        rw [hr] at hl; simp at hl; subst hl
        obtain ⟨l', h1, h2, h3⟩ := ih _ _ rfl hr
        obtain ⟨_, r2, v', r3, r4⟩ := hS.ro a v hv
        refine ⟨v' :: l', by simp [h1], .cons (r4.mono (Phi.le_none φ)) h2, ?_⟩
        intro j u hj
        cases j with
        | zero =>
          simp at hj; subst hj
          rw [← r3]
          have ha : a = ⟨a.block, a.off, none⟩ := by cases a; simp_all
          have : w.cell? ⟨a.block, a.off + 0, none⟩ = w0.cell? ⟨a.block, a.off + 0, none⟩ := World.cell?_of_block (hS.old _ r2)
          rw [this]; exact congrArg w0.cell? ha.symm
        | succ j =>
          have := h3 j u (by simpa using hj)
          rw [show a.off + (j + 1) = a.off + 1 + j by omega]; exact this
theorem Sim.ownCell (hS : Sim ro N φ w0 H w) {k : Nat} {c : Array Value} {e : TypeId} {f : Nat × Nat} (hk : H k = some (.cells c e f)) {B b r : Nat} (hφ : φ k = some (B, b, r)) {i : Nat} {x : Value} (hx : c[i]? = some x) :
    ∃ y, w.cell? ⟨B, b + i, none⟩ = some y ∧ VR N φ x y ∧ w.frozen? ⟨B, b + i, none⟩ = false := by
  obtain ⟨B', b', r', o', h1, h2, h3⟩ := hS.own k _ hk
  rw [hφ] at h1; simp at h1; obtain ⟨rfl, rfl, rfl⟩ := h1
  cases o' <;> simp only [OR] at h3
  rename_i C E F
  obtain ⟨g1, g2, g3, g4⟩ := h3
  obtain ⟨y, hy, hv⟩ := g3 i x hx
  refine ⟨y, ?_, hv, ?_⟩
  · simp [World.cell?, h2, hy]
  · have hlt : b + i < C.size := (Array.getElem?_eq_some_iff.1 hy).1
    have := g4.no (b + i) hlt
    simp only [World.frozen?, h2]
    simpa using this
theorem Sim.cellsAt (hS : Sim ro N φ w0 H w) (hsub : ∀ k o, h.get k = some o → H k = some o) {a b : Addr} (ha : AR N φ a b) {n : Nat} {l : List Value} (hl : V.cellsAt ro h a n = some l) :
    ∃ l', LR N φ l l' ∧ l.length = n ∧ ∀ j v, l'[j]? = some v → w.cell? (b.add j) = some v := by
  rcases ha with ⟨h1, h2, rfl⟩ | ⟨z, B, o, r, h1, h2, rfl⟩
  · unfold V.cellsAt at hl
    rw [h1] at hl
    obtain ⟨l', g1, g2, g3⟩ := hS.roCells n _ _ h1 hl
    exact ⟨l', g2, g1, fun j v hj => by rw [add_spot h1]; exact g3 j v hj⟩
  · unfold V.cellsAt at hl
    rw [h1] at hl
    simp only at hl
    cases hk : h.get a.block with
    | none => rw [hk] at hl; simp at hl
    | some ob =>
      rw [hk] at hl
      cases ob <;> simp only at hl <;> try (cases hl; done)
      case cells c e f =>
        cases hb : Nat.ble (a.off + n) c.size with
        | false => rw [hb] at hl; simp at hl
        | true =>
          rw [hb] at hl; simp at hl; subst hl
          have hle : a.off + n ≤ c.size := Nat.le_of_ble_eq_true hb
          have hlen : ((c.toList.drop a.off).take n).length = n := by simp; omega
          have hget : ∀ j x, ((c.toList.drop a.off).take n)[j]? = some x → c[a.off + j]? = some x := by
            intro j x hj
            rw [List.getElem?_take] at hj
            split at hj
            · rw [List.getElem?_drop] at hj; simpa using hj
            · cases hj
          have hex : ∀ j, j < n → ∃ y, w.cell? ⟨B, o + (a.off + j), none⟩ = some y ∧ ∀ x, ((c.toList.drop a.off).take n)[j]? = some x → VR N φ x y := by
            intro j hj
            obtain ⟨x, hx⟩ : ∃ x, ((c.toList.drop a.off).take n)[j]? = some x := ⟨_, List.getElem?_eq_getElem (by omega)⟩
            obtain ⟨y, hy, hv, _⟩ := hS.ownCell (hsub _ _ hk) h2 (hget j x hx)
            exact ⟨y, hy, fun x' hx' => by rw [hx] at hx'; cases hx'; exact hv⟩
          refine ⟨(List.range n).map fun j => (w.cell? ⟨B, o + (a.off + j), none⟩).getD undef, ?_, hlen, ?_⟩
          · refine LR.of (by simp; omega) fun i x y hx hy => ?_
            have hi : i < n := by have := (List.getElem?_eq_some_iff.1 hx).1; omega
            obtain ⟨y', hy', hv⟩ := hex i hi
            simp [hi, hy'] at hy
            subst hy
            exact hv x hx
          · intro j v hj
            have hjn : j < n := by have := (List.getElem?_eq_some_iff.1 hj).1; simpa using this
            obtain ⟨y', hy', _⟩ := hex j hjn
            simp [hjn, hy'] at hj
            subst hj
            rw [Addr.add_lit, Nat.add_assoc]; exact hy'
theorem Sim.load (hS : Sim ro N φ w0 H w) (hsub : ∀ k o, h.get k = some o → H k = some o) {a b : Addr} (ha : AR N φ a b) {t : TypeId} {v : Value} (hl : loadV P ro h t a = some v) :
    ∃ v', (loadVar t b).run P w = .ok v' w ∧ VR N φ v v' := by
  unfold loadV at hl
  cases hg : isAgg P t with
  | none => rw [hg] at hl; simp at hl
  | some g =>
    rw [hg] at hl
    cases g with
    | true =>
      simp only at hl
      cases hs : siz P t with
      | none => rw [hs] at hl; simp at hl
      | some n =>
        rw [hs] at hl
        simp only [Option.bind] at hl
        cases hc : V.cellsAt ro h a n with
        | none => rw [hc] at hl; simp at hl
        | some l =>
          rw [hc] at hl; simp at hl; subst hl
          obtain ⟨l', h1, h2, h3⟩ := hS.cellsAt hsub ha hc
          have hr := run_loadCells_list (P := P) w b l' h3
          rw [← h1.length, h2] at hr
          refine ⟨.agg l'.toArray, ?_, VR.aggL (by simpa using h1)⟩
          unfold loadVar
          simp [run_agg hg, run_siz hs, hr]
    | false =>
      simp only at hl
      cases hc : V.cellsAt ro h a 1 with
      | none => rw [hc] at hl; simp at hl
      | some l =>
        rw [hc] at hl
        obtain ⟨l', h1, h2, h3⟩ := hS.cellsAt hsub ha hc
        match l, h2 with
        | [x], _ =>
          simp at hl; subst hl
          cases h1 with
          | cons hv ht =>
            rename_i y ys
            have h0 := h3 0 y rfl
            rw [Addr.add_zero'] at h0
            refine ⟨y, ?_, hv⟩
            unfold loadVar
            simp [run_agg hg, h0]
end
end V
end Go.Proofs.Ytepbdkfkfcckoaa
