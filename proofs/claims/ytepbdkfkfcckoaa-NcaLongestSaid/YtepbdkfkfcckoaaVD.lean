/- The machine of VA held against the model's: making and building values.
   No condition. -/
import Derived.Test.YtepbdkfkfcckoaaVC
set_option linter.unusedVariables false
set_option linter.unusedSimpArgs false
namespace Go.Proofs.Ytepbdkfkfcckoaa
namespace V

/-! ### Cells put over cells -/
theorem over_length (l : List Value) (off : Nat) (vs : List Value) (h : off + vs.length ≤ l.length) : (over l off vs).length = l.length := by
  unfold over; simp; omega
theorem over_get (l : List Value) (off : Nat) (vs : List Value) (h : off + vs.length ≤ l.length) (i : Nat) :
    (over l off vs)[i]? = if i < off then l[i]? else if i < off + vs.length then vs[i - off]? else l[i]? := by
  unfold over
  rw [List.append_assoc, List.getElem?_append]
  have h1 : (l.take off).length = off := by simp; omega
  rw [h1]
  by_cases a : i < off
  · rw [if_pos a, if_pos a, List.getElem?_take, if_pos a]
  · rw [if_neg a, if_neg a, List.getElem?_append]
    by_cases b : i < off + vs.length
    · rw [if_pos (by omega), if_pos b]
    · rw [if_neg (by omega), if_neg b, List.getElem?_drop]
      congr 1; omega
theorem LR.over {N : Nat} {φ : Phi} {l l' vs vs' : List Value} (h : LR N φ l l') (g : LR N φ vs vs') (off : Nat) : LR N φ (V.over l off vs) (V.over l' off vs') := by
  unfold V.over
  rw [← g.length]
  exact ((h.take off).append g).append (h.drop _)
theorem foldl_set_over : ∀ (vs : List Value) (k off : Nat) (c : Array Value), off + k + vs.length ≤ c.size →
    ((vs.zipIdx k).foldl (fun (cs : Array Value) (x : Value × Nat) => cs.setIfInBounds (off + x.2) x.1) c).toList = over c.toList (off + k) vs := by
  intro vs
  induction vs with
  | nil => intro k off c h; simp [over]
  | cons v vs ih =>
    intro k off c h
    simp only [List.length_cons] at h
    rw [List.zipIdx_cons, List.foldl_cons, ih (k + 1) off _ (by simp; omega)]
    apply List.ext_getElem?
    intro i
    rw [over_get _ _ _ (by simp; omega), over_get _ _ _ (by simp; omega)]
    simp only [Array.toList_setIfInBounds, List.getElem?_set, List.length_cons]
    by_cases a : i < off + k
    · rw [if_pos (by omega), if_pos a, if_neg (by omega)]
    · by_cases e : off + k = i
      · subst e
        rw [if_pos (by omega), if_pos rfl, if_pos (by simp; omega), if_neg a, if_pos (by omega), Nat.sub_self]
        rfl
      · rw [if_neg (by omega : ¬ i < off + k)]
        by_cases b : i < off + k + (vs.length + 1)
        · rw [if_neg (by omega), if_pos (by omega), if_pos b]
          rw [show i - (off + k) = (i - (off + (k + 1))) + 1 by omega]
          simp
        · rw [if_neg (by omega), if_neg (by omega), if_neg b, if_neg e]
/-- Parts, one by one. -/
inductive PR (N : Nat) (φ : Phi) : List (Nat × Value) → List (Nat × Value) → Prop where
  | nil : PR N φ [] []
  | cons {i : Nat} {x y : Value} {xs ys : List (Nat × Value)} (h : VR N φ x y) (t : PR N φ xs ys) : PR N φ ((i, x) :: xs) ((i, y) :: ys)
theorem fill_rel {N : Nat} {φ : Phi} (place : Nat → Option (Nat × Nat)) {ps qs : List (Nat × Value)} (hp : PR N φ ps qs) :
    ∀ {cs : List Value} {ds : Array Value} {l : List Value}, LR N φ cs ds.toList → fillV place cs ps = some l → ∃ r, Instr.fill place ds qs = some r ∧ LR N φ l r.toList := by
  induction hp with
  | nil => intro cs ds l hc hl; simp [fillV] at hl; subst hl; exact ⟨ds, rfl, hc⟩
  | cons hv _ ih =>
    rename_i i x y xs ys _
    intro cs ds l hc hl
    simp only [fillV] at hl
    cases hpl : place i with
    | none => rw [hpl] at hl; simp at hl
    | some p =>
      rw [hpl] at hl
      simp only [Option.bind] at hl
      cases h1 : Nat.beq x.cells.size p.2 with
      | false => rw [h1] at hl; simp at hl
      | true =>
        cases h2 : Nat.ble (p.1 + p.2) cs.length with
        | false => rw [h1, h2] at hl; simp at hl
        | true =>
          rw [h1, h2] at hl
          simp only at hl
          have e1 : x.cells.size = p.2 := Nat.eq_of_beq_eq_true h1
          have e2 : p.1 + p.2 ≤ cs.length := Nat.le_of_ble_eq_true h2
          have hcl := hv.cells
          have e3 : y.cells.size = p.2 := by have := hcl.length; simp at this; omega
          have e4 : cs.length = ds.size := by simpa using hc.length
          obtain ⟨r, hr, hlr⟩ := ih (cs := over cs p.1 x.cells.toList) (ds := (y.cells.zipIdx.foldl (fun cs (c, j) => cs.setIfInBounds (p.1 + j) c) ds)) (by
            have : (y.cells.zipIdx.foldl (fun (cs : Array Value) (x : Value × Nat) => cs.setIfInBounds (p.1 + x.2) x.1) ds).toList = over ds.toList p.1 y.cells.toList := by
              rw [← Array.foldl_toList, Array.toList_zipIdx, foldl_set_over _ 0 p.1 ds (by simp; omega)]; rfl
            show LR N φ _ (y.cells.zipIdx.foldl (fun (cs : Array Value) (x : Value × Nat) => cs.setIfInBounds (p.1 + x.2) x.1) ds).toList
            rw [this]
            exact hc.over hcl p.1) hl
          refine ⟨r, ?_, hlr⟩
          rw [Instr.fill, hpl]
          simp only
          rw [if_neg (by simp; omega)]
          exact hr
theorem placesV_mapM {P : Program} : ∀ (fs : List Field) (pl : List (Nat × Nat)), placesV P fs = some pl → fs.mapM (fun f => (P.info? f.type).map fun i => (f.offset, i.size)) = some pl := by
  intro fs
  induction fs with
  | nil => intro pl h; simp [placesV] at h; subst h; simp
  | cons f fs ih =>
    intro pl h
    simp only [placesV] at h
    cases hs : siz P f.type with
    | none => rw [hs] at h; simp at h
    | some n =>
      rw [hs] at h
      cases hr : placesV P fs with
      | none => rw [hr] at h; simp at h
      | some l =>
        rw [hr] at h; simp at h; subst h
        obtain ⟨i, hi, rfl⟩ := siz_info hs
        simp [hi, ih l hr]
theorem buildV_built {P : Program} {N : Nat} {φ : Phi} (hz : zerosOk P = true) {t : TypeId} {ps qs : List (Nat × Value)} (hp : PR N φ ps qs) {v : Value} (h : buildV P t ps = some v) :
    ∃ l r, v = .agg l ∧ P.built t qs = some r ∧ LR N φ l.toList r.toList := by
  unfold buildV at h
  cases hzr : zer P t with
  | none => rw [hzr] at h; simp at h
  | some z =>
    rw [hzr] at h
    simp only [Option.bind] at h
    obtain ⟨i, hi, hiz⟩ := zer_info hzr
    have hflat := zer_flat hz hzr
    cases hu : und P t with
    | none => rw [hu] at h; simp at h
    | some d =>
      rw [hu] at h
      cases d <;> simp only at h <;> try (cases h; done)
      case array n e =>
        cases hs : siz P e with
        | none => rw [hs] at h; simp at h
        | some k =>
          rw [hs] at h
          simp only at h
          cases hf : fillV (fun i => some (i * k, k)) z.cells.toList ps with
          | none => rw [hf] at h; simp at h
          | some l =>
            rw [hf] at h; simp at h; subst h
            obtain ⟨r, hr, hlr⟩ := fill_rel _ hp (LR.flat hflat) hf
            obtain ⟨j, hj, rfl⟩ := siz_info hs
            refine ⟨_, r, rfl, ?_, by simpa using hlr⟩
            unfold Program.built
            rw [hi, und_under hu]
            simp only [hiz, hj]
            exact hr
      case struct fs =>
        cases hs : placesV P fs.toList with
        | none => rw [hs] at h; simp at h
        | some pl =>
          rw [hs] at h
          simp only at h
          cases hf : fillV (pl[·]?) z.cells.toList ps with
          | none => rw [hf] at h; simp at h
          | some l =>
            rw [hf] at h; simp at h; subst h
            obtain ⟨r, hr, hlr⟩ := fill_rel _ hp (LR.flat hflat) hf
            refine ⟨_, r, rfl, ?_, by simpa using hlr⟩
            unfold Program.built
            rw [hi, und_under hu]
            simp only [hiz, placesV_mapM _ _ hs]
            simpa using hr
theorem zerosV_length (z : List Value) (n : Nat) : (zerosV z n).length = n * z.length := by
  induction n with
  | zero => simp [zerosV]
  | succ n ih => simp [zerosV, ih, Nat.succ_mul]; omega
theorem zerosV_get (z : List Value) (hz : 0 < z.length) : ∀ (n j : Nat), j < n * z.length → (zerosV z n)[j]? = z[j % z.length]? := by
  intro n
  induction n with
  | zero => intro j h; simp at h
  | succ n ih =>
    intro j h
    rw [zerosV, List.getElem?_append]
    by_cases a : j < z.length
    · rw [if_pos a, Nat.mod_eq_of_lt a]
    · rw [if_neg a, ih (j - z.length) (by rw [Nat.succ_mul] at h; omega)]
      congr 1
      rw [Nat.mod_eq_sub_mod (by omega : j ≥ z.length)]
theorem zrow_made {P : Program} {N : Nat} {φ : Phi} (hz : zerosOk P = true) {e : TypeId} {n : Nat} {l : List Value} (h : zrow P e n = some l) :
    ∃ s, (n = 0 ∧ l = []) ∨ (siz P e = some s ∧ l.length = n * s ∧ 0 < n * s ∧ ∃ z, zer P e = some z ∧ LR N φ l ((Array.range (n * s)).map (z.cells[· % z.cells.size]!)).toList ∧ z.cells.size = s) := by
  unfold zrow at h
  cases n with
  | zero => simp at h; exact ⟨0, .inl ⟨rfl, h⟩⟩
  | succ n =>
    simp only at h
    cases hzr : zer P e with
    | none => rw [hzr] at h; simp at h
    | some z =>
      rw [hzr] at h
      cases hs : siz P e with
      | none => rw [hs] at h; simp at h
      | some s =>
        rw [hs] at h
        simp only [Option.bind] at h
        cases h1 : Nat.beq z.cells.size s with
        | false => rw [h1] at h; simp at h
        | true =>
          cases h2 : Nat.blt 0 s with
          | false => rw [h1, h2] at h; simp at h
          | true =>
            rw [h1, h2] at h; simp at h; subst h
            have e1 : z.cells.size = s := Nat.eq_of_beq_eq_true h1
            have e2 : 0 < s := by have := h2; simp [Nat.blt] at this; omega
            have hlen : z.cells.toList.length = s := by simpa using e1
            refine ⟨s, .inr ⟨rfl, by rw [zerosV_length, hlen], Nat.mul_pos (by omega) e2, z, rfl, ?_, e1⟩⟩
            have hflat := zer_flat hz hzr
            refine LR.of (by rw [zerosV_length, hlen]; simp) fun i x y hx hy => ?_
            have hi : i < (n + 1) * s := by have := (List.getElem?_eq_some_iff.1 hx).1; rw [zerosV_length, hlen] at this; exact this
            rw [zerosV_get _ (by omega) _ _ (by rw [hlen]; exact hi), hlen] at hx
            have hm : i % s < s := Nat.mod_lt _ e2
            simp [hi] at hy
            have hx' : z.cells[i % s]? = some x := by simpa using hx
            rw [e1] at hy
            rw [getElem!_pos z.cells (i % s) (by omega)] at hy
            rw [Array.getElem?_eq_getElem (by omega)] at hx'
            cases hx'
            subst hy
            exact .flat (hflat _ (by simp))

/-- A new block of cells. -/
theorem OR.cells {N : Nat} {φ : Phi} {c C : Array Value} {e E : TypeId} (h : LR N φ c.toList C.toList) : OR N φ (.cells c e) (.cells C E) 0 C.size := by
  refine ⟨by simp, by have := h.length; simp at this; omega, fun i x hx => ?_, .inl rfl⟩
  obtain ⟨y, hy, hv⟩ := h.some (by simpa using hx : c.toList[i]? = some x)
  exact ⟨y, by simpa using hy, hv⟩
/-- What is shown of a quiet operation's run. -/
def QPost (N : Nat) (φ : Phi) (aid : Nat) (w : World) (v : Value) (ob : Option Obj) (r : Result Value) : Prop :=
  ∃ v' w', r = .ok v' w' ∧ match ob with
    | none => w' = w ∧ VR N φ v v'
    | some o => ∃ o' rm, w'.heap = w.heap.push o' ∧ w'.os = w.os ∧ w'.tape = w.tape ∧ w'.output = w.output ∧ (N ≤ w.heap.size → ∀ ψ, Phi.le φ ψ → ψ aid = some (w.heap.size, 0, rm) → VR N ψ v v' ∧ OR N ψ o o' 0 rm)
section
variable {P : Program} {ro : Ro} {N : Nat} {φ : Phi} {w0 w : World} {H : Nat → Option Obj} {h : T Obj}
theorem QPost.value {aid : Nat} {v v' : Value} {r : Result Value} (hr : r = .ok v' w) (hv : VR N φ v v') : QPost N φ aid w v none r := ⟨v', w, hr, rfl, hv⟩
theorem QPost.ptr {aid : Nat} {c C : Array Value} {e : TypeId} {r : Result Value} (hr : r = .ok (.pointer (some ⟨w.heap.size, 0, none⟩)) (w.alloc (.cells C e))) (hl : LR N φ c.toList C.toList) :
    QPost N φ aid w (.pointer (some (own aid 0))) (some (.cells c e)) r :=
  ⟨_, _, hr, _, C.size, rfl, rfl, rfl, rfl, fun _ ψ hle hψ => ⟨.ptrOwn (a := own aid 0) hψ rfl, OR.cells (hl.mono hle)⟩⟩
theorem QPost.row {aid l cap z : Nat} {c C : Array Value} {e : TypeId} {r : Result Value} (hr : r = .ok (.slice (some ⟨w.heap.size, 0, none⟩) l cap) (w.alloc (.cells C e))) (hl : LR N φ c.toList C.toList) (hc : cap * z ≤ C.size) :
    QPost N φ aid w (.slice (some (own aid z)) l cap) (some (.cells c e)) r :=
  ⟨_, _, hr, _, C.size, rfl, rfl, rfl, rfl, fun _ ψ hle hψ => ⟨.sliceOwn (a := own aid z) hψ rfl (Nat.le_refl _) (by simpa [own] using hc), OR.cells (hl.mono hle)⟩⟩
theorem run_sliceLit (hz : zerosOk P = true) {t : TypeId} {aid len : Nat} {ps : List (Nat × Value)} {qs : Array (Nat × Value)} (hp : PR N φ ps qs.toList) {v : Value} {ob : Option Obj} (hs : sliceLitV P t aid len ps = some (v, ob)) :
    QPost N φ aid w v ob ((Instr.buildSlice t len qs).run P w) := by
  unfold sliceLitV at hs
  cases hu : und P t with
  | none => rw [hu] at hs; simp at hs
  | some d =>
    rw [hu] at hs
    cases d <;> simp only at hs <;> try (cases hs; done)
    rename_i e
    cases hsz : siz P e with
    | none => rw [hsz] at hs; simp at hs
    | some s =>
      rw [hsz] at hs
      simp only [Option.bind] at hs
      cases hr : zrow P e len with
      | none => rw [hr] at hs; simp at hs
      | some l =>
        rw [hr] at hs
        simp only at hs
        cases hb : Nat.ble (len * s) 16777216 with
        | false => rw [hb] at hs; simp at hs
        | true =>
          rw [hb] at hs
          simp only at hs
          cases hf : fillV (fun i => some (i * s, s)) l ps with
          | none => rw [hf] at hs; simp at hs
          | some l2 =>
            rw [hf] at hs; simp at hs; obtain ⟨rfl, rfl⟩ := hs
            have hle : len * s ≤ 16777216 := Nat.le_of_ble_eq_true hb
            have hnb : ¬ (16777216 < len * s) := by omega
            obtain ⟨s', hm⟩ := zrow_made (φ := φ) (N := N) hz hr
            rcases hm with ⟨h0, hl0⟩ | ⟨h1, h2, h3, z, h4, h5, _⟩
            · subst h0; subst hl0
              obtain ⟨r, hfr, hlr⟩ := fill_rel _ hp (cs := []) (ds := #[]) .nil hf
              refine QPost.row (C := r) ?_ (by simpa using hlr) (by simp)
              simp [Instr.buildSlice, run_und hu, run_siz hsz, hfr, newRow, Array.range_zero']
            · rw [hsz] at h1; cases h1
              obtain ⟨r, hfr, hlr⟩ := fill_rel _ hp h5 hf
              have hrs : r.size = len * s := by
                have e1 := hlr.length
                have e2 : l2.length = l.length := by
                  clear hlr hfr h5 e1
                  revert hf
                  have key : ∀ (ps : List (Nat × Value)) (l l2 : List Value), fillV (fun i => some (i * s, s)) l ps = some l2 → l2.length = l.length := by
                    intro ps
                    induction ps with
                    | nil => intro l l2 h; simp [fillV] at h; rw [h]
                    | cons x ps ih =>
                      intro l l2 h
                      simp only [fillV, Option.bind] at h
                      split at h
                      · rename_i g1 g2
                        rw [ih _ _ h, over_length]
                        have := Nat.eq_of_beq_eq_true g1
                        have := Nat.le_of_ble_eq_true g2
                        simp; omega
                      · cases h
                  exact key ps l l2
                simp at e1; omega
              refine QPost.row (C := r) ?_ (by simpa using hlr) (by omega)
              have hne : ¬ (len * s = 0) := by omega
              have hne' : ¬ (len = 0 ∨ s = 0) := by intro hh; rcases hh with hh | hh <;> subst hh <;> simp at h3
              simp [Instr.buildSlice, run_und hu, run_siz hsz, run_zer h4, hnb, hne, hne', newRow]
              rw [hfr]
              rfl
end
end V
end Go.Proofs.Ytepbdkfkfcckoaa
