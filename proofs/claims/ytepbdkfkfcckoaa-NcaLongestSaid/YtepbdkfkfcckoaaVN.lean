/- The machine of VA held against the model's: copies, maps; one operation.
   No condition. -/
import Derived.Test.YtepbdkfkfcckoaaVM
set_option linter.unusedVariables false
set_option linter.unusedSimpArgs false
namespace Go.Proofs.Ytepbdkfkfcckoaa
namespace V
section
variable {P : Program} {ro : Ro} {N : Nat} {φ : Phi} {w0 w : World} {h : T Obj} {nx : Nat}
theorem copy_sound (s : SS ro N w0 φ h nx w) {ts : Array TypeId} {ty : TypeId} {vs vs' : List Value} {v : Value} {h' : T Obj} {nx' : Nat} (ha : copyV P ro h nx ts vs = some (v, h', nx')) (hv : LR N φ vs vs') :
    ∃ w', (Builtin.copy_ ts ty vs'.toArray).run P w = .ok v w' ∧ Step ro N w0 φ h nx w φ h' nx' w' ∧ flat v = true := by
  unfold copyV at ha
  split at ha
  case h_2 => cases ha
  rename_i t0 base dl dc src sl sc h0
  cases hv with
  | cons hd ht => cases ht with
    | cons hs ht => cases ht with
      | nil =>
        split at ha
        case h_2 => cases ha
        rename_i e hu
        obtain ⟨z, hz, ha⟩ := bind_some' ha
        have hdl : ∃ b c', ∀ {d'}, VR N φ (.slice base dl dc) d' → d' = .slice b dl c' ∨ True := ⟨none, 0, fun _ => .inr trivial⟩
        have shape : ∀ {a : Option Addr} {l c : Nat} {d' : Value}, VR N φ (.slice a l c) d' → ∃ b c', d' = .slice b l c' := by
          intro a l c d' hh
          cases a with
          | none => exact ⟨_, _, hh.of_nilSlice⟩
          | some a => obtain ⟨b, c', rfl, _⟩ := hh.of_slice; exact ⟨_, _, rfl⟩
        obtain ⟨db, dc', rfl⟩ := shape hd
        obtain ⟨sb, sc', rfl⟩ := shape hs
        cases hn : Nat.min sl dl with
        | zero =>
          rw [hn] at ha
          simp only at ha
          cases ha
          refine ⟨w, ?_, Step.refl s, rfl⟩
          have hf : (Builtin.firstCells z 0 (.slice sb sl sc')).run P w = .ok (#[] : Array Value) w := by
            cases sb with
            | none => simp [Builtin.firstCells]
            | some b => simp [Builtin.firstCells, loadCells, loadCellsFrom]
          cases db with
          | none => simp [Builtin.copy_, h0, run_und hu, Builtin.lenOf, hn, run_siz hz, hf, goInt]
          | some b => simp [Builtin.copy_, h0, run_und hu, Builtin.lenOf, hn, run_siz hz, hf, goInt, storeCells]
        | succ n =>
          rw [hn] at ha
          cases base with
          | none => cases src <;> cases ha
          | some a =>
            cases src with
            | none => cases ha
            | some b =>
              simp only at ha
              cases hsp : a.spot with
              | none => rw [hsp] at ha; cases ha
              | some z' =>
                rw [hsp] at ha
                simp only at ha
                cases hzz : Nat.beq z' z with
                | false => rw [hzz] at ha; cases ha
                | true =>
                  rw [hzz] at ha
                  obtain ⟨l, hl, ha⟩ := bind_some' ha
                  obtain ⟨h2, hst, ha⟩ := bind_some' ha
                  cases ha
                  have hmin : n + 1 ≤ sl ∧ n + 1 ≤ dl := by have := hn; simp only [Nat.min_def] at this; split at this <;> omega
                  have hsrc : ∃ cs', LR N φ l cs' ∧ l.length = (n + 1) * z ∧ ∃ sb', sb = some sb' ∧ ∀ j u, cs'[j]? = some u → w.cell? (sb'.add j) = some u := by
                    obtain ⟨b2, c2, e2, h9⟩ := hs.of_sliceP
                    cases e2
                    rcases h9 with h9 | h9
                    · obtain ⟨cs', g1, g2, g3⟩ := s.sim.cellsAt (fun _ _ h => h) h9 hl
                      exact ⟨cs', g1, g2, _, rfl, g3⟩
                    · omega
                  obtain ⟨cs', g1, g2, sb', rfl, g3⟩ := hsrc
                  obtain ⟨b2, c2, e2, hsl⟩ := hd.of_slice
                  cases e2
                  rcases hsl with hsl | ⟨h9, _⟩
                  · cases hsl with
                    | ro h9 _ => rw [h9] at hsp; cases hsp
                    | own hφ hs0 hc hr =>
                      rename_i z0 B o r
                      have har : AR N φ (elt a 0) ⟨B, o + a.off, none⟩ := .inr ⟨0, B, o, r, by simp [elt, hs0], hφ, by simp [elt]⟩
                      obtain ⟨w', q1, q2⟩ := storeAt_sound (P := P) s har g1 hst
                      refine ⟨w', ?_, q2, rfl⟩
                      have hf : (Builtin.firstCells z (n + 1) (.slice (some sb') sl sc')).run P w = .ok cs'.toArray w := by
                        have := run_loadCells_list (P := P) w sb' cs' g3
                        rw [← g1.length, g2] at this
                        simp [Builtin.firstCells, this]
                      simp [Builtin.copy_, h0, run_und hu, Builtin.lenOf, hn, run_siz hz, hf, goInt, q1]
                  · omega
theorem getObj_run {B : Nat} {ES : Array MapEntry} {c : Nat} (hw : w.heap[B]? = some (.map ES c)) : (getObj B).run P w = .ok (.map ES c) w := by simp [getObj, Sem.run, hw]
theorem setObj_run {B : Nat} {ES : Array MapEntry} {c : Nat} (hw : w.heap[B]? = some (.map ES c)) (o : Obj) : (setObj B o).run P w = .ok () (setAt w B o) := by simp [setObj, Sem.run, hw, setAt]
theorem entries_obj {r : Nat} {es : List MapEntry × Nat} (he : entriesAt h r = some es) : h.get r = some (.map es.1.toArray es.2) := by
  unfold entriesAt at he
  cases hk : h.get r with
  | none => rw [hk] at he; cases he
  | some o => rw [hk] at he; cases o <;> (try cases he); rfl
theorem sameBits_eq {kt : TypeId} {a b : Value} (hok : keyOk P kt a = true) (hq : keyEq P kt a b = some true) : Instr.sameBits 10000 b a = true := by
  unfold keyOk at hok
  unfold keyEq at hq
  split at hq
  · rename_i xs ys
    split at hq
    · rename_i hg
      obtain ⟨ks, hp, hc⟩ := bind_some' hq
      show (ys.size == xs.size && (ys.toList.zip xs.toList).all fun (x, y) => Instr.sameBits 9999 x y) = true
      have key : ∀ (ks : List Nat) (xs ys : List Value), eqCells ks xs ys = some true → ys.length = xs.length ∧ ((ys.zip xs).all fun (x, y) => Instr.sameBits 9999 x y) = true := by
        intro ks
        induction ks with
        | nil => intro xs ys h; cases xs <;> cases ys <;> simp [eqCells] at h ⊢
        | cons k ks ih =>
          intro xs ys h
          cases xs <;> cases ys <;> simp only [eqCells] at h <;> try (cases h; done)
          rename_i x xs y ys
          obtain ⟨b1, h1, h⟩ := bind_some' h
          obtain ⟨b2, h2, h⟩ := bind_some' h
          have hbb : b1 = true ∧ b2 = true := by simpa using h
          obtain ⟨rfl, rfl⟩ := hbb
          obtain ⟨i1, i2⟩ := ih xs ys h2
          refine ⟨by simp [i1], ?_⟩
          rw [List.zip_cons_cons, List.all_cons, i2, Bool.and_true]
          match k, x, y, h1 with
          | 0, .bool a, .bool c, h1 => simp [eqCell] at h1; subst h1; simp [Instr.sameBits]
          | 1, .int k a, .int k' c, h1 =>
            by_cases hk : k = k'
            · simp [eqCell, hk] at h1; subst h1; subst hk; simp [Instr.sameBits]
            · simp [eqCell, hk] at h1
          | 2, .string a, .string c, h1 =>
            simp [eqCell] at h1
            have : a = c := by cases a; cases c; simp_all
            subst this
            have hb : (a == a) = true := by rw [beq_toListBytes]; simp
            simp [Instr.sameBits, hb]
      obtain ⟨k1, k2⟩ := key ks _ _ hc
      have : ys.size = xs.size := by simpa using k1
      rw [this, k2]; simp
    · cases hq
  · split at hq <;> first
      | (cases hq; done)
      | (rename_i hu
         cases a <;> cases b <;> simp [eqCell] at hq
         first
           | (rename_i k1 n1 k2 n2 _
              by_cases hk : k1 = k2
              · simp [hk] at hq; subst hq; subst hk; simp [Instr.sameBits]
              · simp [hk] at hq)
           | (rename_i s1 s2 _
              have : s1 = s2 := by cases s1; cases s2; simp_all
              subst this
              have hb : (s1 == s1) = true := by rw [beq_toListBytes]; simp
              simp [Instr.sameBits, hb])
           | (subst hq; simp [Instr.sameBits]))
theorem findV_at {kt : TypeId} {k : Value} : ∀ {es : List MapEntry} {i j : Nat} {u : Value}, findV P kt k es i = some (some (j, u)) → ∃ m e, j = i + m ∧ es[m]? = some e ∧ keyEq P kt k e.key = some true := by
  intro es
  induction es with
  | nil => intro i j u h; simp [findV] at h
  | cons e es ih =>
    intro i j u h
    simp only [findV] at h
    cases hq : keyEq P kt k e.key with
    | none => rw [hq] at h; cases h
    | some c =>
      rw [hq] at h
      cases c with
      | true => cases h; exact ⟨0, e, rfl, rfl, hq⟩
      | false =>
        obtain ⟨m, e', h1, h2, h3⟩ := ih h
        exact ⟨m + 1, e', by omega, by simpa using h2, h3⟩
theorem ER.get {es ES : List MapEntry} (he : ER N φ es ES) : ∀ {i : Nat} {e : MapEntry}, es[i]? = some e → ∃ E, ES[i]? = some E ∧ VR N φ e.key E.key ∧ VR N φ e.val E.val ∧ e.born = E.born := by
  induction he with
  | nil => intro i e h; simp at h
  | cons h1 h2 h3 _ ih =>
    intro i e h
    cases i with
    | zero => simp at h; subst h; exact ⟨_, rfl, h1, h2, h3⟩
    | succ i => exact ih (by simpa using h)
theorem ER.modify {es ES : List MapEntry} (he : ER N φ es ES) {k v v' : Value} (hk : VR N φ k k) (hv : VR N φ v v') : ∀ i : Nat, ER N φ (es.modify i (fun e : MapEntry => { e with key := k, val := v })) (ES.modify i (fun e : MapEntry => { e with key := k, val := v' })) := by
  induction he with
  | nil => intro i; simp; exact .nil
  | cons h1 h2 h3 ht ih =>
    intro i
    cases i with
    | zero => exact .cons hk hv h3 ht
    | succ i => exact .cons h1 h2 h3 (ih i)
theorem ER.append {es ES fs FS : List MapEntry} (he : ER N φ es ES) (hf : ER N φ fs FS) : ER N φ (es ++ fs) (ES ++ FS) := by
  induction he with
  | nil => exact hf
  | cons h1 h2 h3 _ ih => exact .cons h1 h2 h3 ih
theorem mapPut_sound (s : SS ro N w0 φ h nx w) {t : TypeId} {m m' k k' v v' : Value} (hm : VR N φ m m') (hk : VR N φ k k') (hv : VR N φ v v') {h' : T Obj} (hp : mapPutV P h t m k v = some h') :
    ∃ w', (Instr.mapUpdate t m' k' v').run P w = .ok () w' ∧ Step ro N w0 φ h nx w φ h' nx w' := by
  unfold mapPutV at hp
  split at hp
  case h_2 => cases hp
  rename_i kt et r hu
  obtain ⟨B, rfl, hφ⟩ := hm.of_map
  obtain ⟨es, he, hp⟩ := bind_some' hp
  cases hok : keyOk P kt k with
  | false => rw [hok] at hp; cases hp
  | true =>
    rw [hok] at hp
    obtain ⟨rfl, hkk⟩ := keyOk_flat hok hk
    obtain ⟨f, hf, hp⟩ := bind_some' hp
    obtain ⟨ES, e1, e2⟩ := s.sim.entries (fun _ _ h => h) hφ he
    have hobj := entries_obj he
    obtain ⟨r', g1, g2⟩ := find_sound (P := P) (w := w) hok hkk e2 hf
    have hck := check_run (P := P) (w := w) false hok
    have hgo := getObj_run (P := P) e1
    cases f with
    | none =>
      cases r' with
      | some y => exact g2.elim
      | none =>
        cases hp
        have hso := setObj_run (P := P) e1 (.map (ES.push { key := k', val := v', born := es.2 }) (es.2 + 1))
        refine ⟨_, ?_, s.set hobj hφ e1 (oc' := .map (ES.push { key := k', val := v', born := es.2 }) (es.2 + 1)) ⟨rfl, rfl, rfl, ?_⟩⟩
        · simp [Instr.mapUpdate, run_und hu, hgo, hck, g1, hso]
        · simp only [Array.toList_push]
          exact e2.append (.cons hkk hv rfl .nil)
    | some f =>
      obtain ⟨fi, fv⟩ := f
      cases r' with
      | none => exact g2.elim
      | some y =>
        obtain ⟨yi, yv⟩ := y
        obtain ⟨gi, gv⟩ := g2
        dsimp only at gi
        subst gi
        cases hp
        obtain ⟨m, e, hm1, hm2, hm3⟩ := findV_at hf
        rw [Nat.zero_add] at hm1
        subst hm1
        obtain ⟨E, hE1, hE2, _, _⟩ := e2.get hm2
        have hEk : E.key = e.key := (keyEq_same hm3 hkk hE2).2
        have hsb := sameBits_eq hok hm3
        have hES : ES[fi]? = some E := by simpa using hE1
        have hso := setObj_run (P := P) e1 (.map (ES.modify fi fun e => { e with key := k', val := v' }) es.2)
        refine ⟨_, ?_, s.set hobj hφ e1 (oc' := .map (ES.modify fi fun e => { e with key := k', val := v' }) es.2) ⟨rfl, rfl, rfl, ?_⟩⟩
        · simp [Instr.mapUpdate, run_und hu, hgo, hck, g1, hES, hEk, Instr.keyThatStays, hsb, hso]
        · simp only [Array.toList_modify]
          exact e2.modify hkk hv fi
theorem clear_sound (s : SS ro N w0 φ h nx w) {ts : Array TypeId} {ty t : TypeId} {m m' : Value} (h0 : ts[0]? = some t) (hm : VR N φ m m') {h' : T Obj} (hc : clearV h m = some h') (hu : (und P t).isSome = true) :
    ∃ w', (Builtin.clear_ ts ty #[m']).run P w = .ok (.tuple #[]) w' ∧ Step ro N w0 φ h nx w φ h' nx w' := by
  obtain ⟨d, hu⟩ := Option.isSome_iff_exists.1 hu
  unfold clearV at hc
  split at hc
  · cases hc
    rw [hm.of_nilMap]
    exact ⟨w, by simp [Builtin.clear_, h0, run_und hu], Step.refl s⟩
  · rename_i r
    obtain ⟨B, rfl, hφ⟩ := hm.of_map
    obtain ⟨es, he, hc⟩ := bind_some' hc
    cases hc
    obtain ⟨ES, e1, e2⟩ := s.sim.entries (fun _ _ h => h) hφ he
    have hso := setObj_run (P := P) e1 (.map #[] es.2)
    exact ⟨_, by simp [Builtin.clear_, h0, run_und hu, getObj_run e1, hso], s.set (entries_obj he) hφ e1 (oc' := .map #[] es.2) ⟨rfl, rfl, rfl, .nil⟩⟩
  · cases hc
end
end V
end Go.Proofs.Ytepbdkfkfcckoaa
