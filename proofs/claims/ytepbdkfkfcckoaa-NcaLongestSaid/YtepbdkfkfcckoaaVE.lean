/- The machine of VA held against the model's: equality.
   No condition. -/
import Derived.Test.YtepbdkfkfcckoaaVD
import Derived.ChangeKeysEq
import Derived.Laws.BitsAllLaws
import Derived.Laws.Bits64
import Derived.Laws.Strings
import Derived.Laws.Small
set_option linter.unusedVariables false
set_option linter.unusedSimpArgs false
namespace Go.Proofs.Ytepbdkfkfcckoaa
namespace V

/-! ### Cells, and parts of aggregates -/
/-- A value of a type by its cells. -/
def valOf (P : Program) (t : TypeId) (l : List Value) : Value := match isAgg P t with
  | some true => .agg l.toArray
  | _ => l.headD undef
theorem isAgg_some {P : Program} {t : TypeId} {d : TypeDesc} (h : und P t = some d) : ∃ b, isAgg P t = some b ∧ (b = true ↔ ((∃ fs, d = .struct fs) ∨ ∃ n e, d = .array n e)) := by
  unfold isAgg
  rw [h]
  cases d <;> simp
theorem run_partV {P : Program} {w : World} {t : TypeId} {cs : Array Value} {off s : Nat} {g : Bool} (hg : isAgg P t = some g) (hs : siz P t = some s) (h : off + s ≤ cs.size) (h1 : g = false → s = 1) :
    (part t cs off).run P w = .ok (valOf P t ((cs.toList.drop off).take s)) w := by
  unfold part valOf
  cases g with
  | true =>
    simp [run_agg hg, run_siz hs, hg]
    apply Array.ext'
    simp [List.extract_eq_take_drop]
  | false =>
    have := h1 rfl; subst this
    have hlt : off < cs.size := by omega
    simp [run_agg hg, hg, hlt]
    rw [List.take_one, List.head?_drop]
    simp [hlt]
theorem eqCells_length : ∀ {ks : List Nat} {xs ys : List Value} {b : Bool}, eqCells ks xs ys = some b → xs.length = ks.length ∧ ys.length = ks.length := by
  intro ks
  induction ks with
  | nil => intro xs ys b h; cases xs <;> cases ys <;> simp [eqCells] at h ⊢
  | cons k ks ih =>
    intro xs ys b h
    cases xs <;> cases ys <;> simp only [eqCells] at h <;> try (cases h; done)
    rename_i x xs y ys
    cases h1 : eqCell k x y with
    | none => rw [h1] at h; simp at h
    | some c =>
      rw [h1] at h
      cases h2 : eqCells ks xs ys with
      | none => rw [h2] at h; simp at h
      | some d => have := ih h2; simp [this]
theorem eqCells_split : ∀ {js ks : List Nat} {xs ys : List Value} {b : Bool}, eqCells (js ++ ks) xs ys = some b →
    ∃ c d, eqCells js (xs.take js.length) (ys.take js.length) = some c ∧ eqCells ks (xs.drop js.length) (ys.drop js.length) = some d ∧ b = (c && d) := by
  intro js
  induction js with
  | nil => intro ks xs ys b h; exact ⟨true, b, by simp [eqCells], by simpa using h, by simp⟩
  | cons k js ih =>
    intro ks xs ys b h
    cases xs <;> cases ys <;> simp only [List.cons_append, eqCells] at h <;> try (cases h; done)
    rename_i x xs y ys
    cases h1 : eqCell k x y with
    | none => rw [h1] at h; simp at h
    | some e =>
      rw [h1] at h
      cases h2 : eqCells (js ++ ks) xs ys with
      | none => rw [h2] at h; simp at h
      | some f =>
        rw [h2] at h; simp at h; subst h
        obtain ⟨c, d, g1, g2, rfl⟩ := ih h2
        exact ⟨e && c, d, by simp [eqCells, h1, g1], by simpa using g2, by simp [Bool.and_assoc]⟩
section
variable {P : Program}
def plainStep (P : Program) (d : Nat) (o : Option (List Nat)) (f : Field) : Option (List Nat) := o.bind fun k => (plainTy P d f.type).bind fun j =>
  match f.name == "_", Nat.beq f.offset k.length, Nat.beq ((siz P f.type).getD 0) j.length, Nat.blt 0 j.length with
  | false, true, true, true => some (k ++ j)
  | _, _, _, _ => none
theorem plainStep_none (d : Nat) (fs : List Field) : fs.foldl (plainStep P d) none = none := by
  induction fs with
  | nil => rfl
  | cons f fs ih => rw [List.foldl_cons]; exact ih
theorem plainStep_cons {d : Nat} {k n : List Nat} {f : Field} {fs : List Field} (h : (f :: fs).foldl (plainStep P d) (some k) = some n) :
    ∃ j, plainTy P d f.type = some j ∧ (f.name == "_") = false ∧ f.offset = k.length ∧ (siz P f.type).getD 0 = j.length ∧ 0 < j.length ∧ fs.foldl (plainStep P d) (some (k ++ j)) = some n := by
  rw [List.foldl_cons] at h
  cases hj : plainTy P d f.type with
  | none =>
    have e : plainStep P d (some k) f = none := by simp [plainStep, hj]
    rw [e, plainStep_none] at h; cases h
  | some j =>
    cases h1 : (f.name == "_") <;> cases h2 : Nat.beq f.offset k.length <;> cases h3 : Nat.beq ((siz P f.type).getD 0) j.length <;> cases h4 : Nat.blt 0 j.length
    case false.true.true.true =>
      have e : plainStep P d (some k) f = some (k ++ j) := by simp [plainStep, hj, h1, h2, h3, h4]
      rw [e] at h
      exact ⟨j, rfl, rfl, Nat.eq_of_beq_eq_true h2, Nat.eq_of_beq_eq_true h3, by have := h4; simp [Nat.blt] at this; omega, h⟩
    all_goals
      have e : plainStep P d (some k) f = none := by simp [plainStep, hj, h1, h2, h3, h4]
      rw [e, plainStep_none] at h; cases h
theorem plainStep_pre {d : Nat} : ∀ {fs : List Field} {k n : List Nat}, fs.foldl (plainStep P d) (some k) = some n → ∃ m, n = k ++ m := by
  intro fs
  induction fs with
  | nil => intro k n h; simp at h; exact ⟨[], by simp [h]⟩
  | cons f fs ih =>
    intro k n h
    obtain ⟨j, _, _, _, _, _, h5⟩ := plainStep_cons h
    obtain ⟨m, rfl⟩ := ih h5
    exact ⟨j ++ m, by simp⟩
theorem plain_struct {d : Nat} {t : TypeId} {ks : List Nat} {fs : Array Field} (hu : und P t = some (.struct fs)) (h : plainTy P (d + 1) t = some ks) :
    P.stoodInHeld t = false ∧ fs.toList.foldl (plainStep P d) (some []) = some ks := by
  unfold plainTy at h
  rw [hu] at h
  simp only at h
  cases hst : P.stoodInHeld t with
  | true => rw [hst] at h; cases h
  | false => rw [hst] at h; exact ⟨rfl, h⟩
theorem plain_array {d n : Nat} {t e : TypeId} {ks : List Nat} (hu : und P t = some (.array n e)) (h : plainTy P (d + 1) t = some ks) :
    ∃ k, plainTy P d e = some k ∧ (siz P e).getD 0 = k.length ∧ 0 < k.length ∧ ks = timesL k n := by
  unfold plainTy at h
  rw [hu] at h
  simp only at h
  cases he : plainTy P d e with
  | none => rw [he] at h; cases h
  | some k =>
    rw [he] at h
    simp only [Option.bind] at h
    cases h1 : Nat.beq ((siz P e).getD 0) k.length <;> cases h2 : Nat.blt 0 k.length <;> rw [h1, h2] at h <;> simp at h
    exact ⟨k, rfl, Nat.eq_of_beq_eq_true h1, by have := h2; simp [Nat.blt] at this; omega, h.symm⟩
theorem plain_one {d : Nat} {t : TypeId} {ks : List Nat} (h : plainTy P d t = some ks) : (∃ b, isAgg P t = some b) ∧ (isAgg P t = some false → ks.length = 1) := by
  cases d with
  | zero => simp [plainTy] at h
  | succ d =>
    unfold plainTy at h
    cases hu : und P t with
    | none => rw [hu] at h; simp at h
    | some ds =>
      obtain ⟨b, hb, hiff⟩ := isAgg_some hu
      refine ⟨⟨b, hb⟩, fun hf => ?_⟩
      rw [hu] at h
      unfold isAgg at hf
      rw [hu] at hf
      cases ds <;> simp at h hf <;> (subst h; rfl)
theorem siz_of_len {t : TypeId} {n : Nat} (h : (siz P t).getD 0 = n) (hn : 0 < n) : siz P t = some n := by
  cases hs : siz P t with
  | none => rw [hs] at h; simp at h; omega
  | some m => rw [hs] at h; simp at h; rw [h]
theorem plain_guard : ∀ (d : Nat) (t : TypeId) (n : List Nat), plainTy P d t = some n → ∀ D, d ≤ D → P.eqGuardType D t = false := by
  intro d
  induction d with
  | zero => intro t n h; simp [plainTy] at h
  | succ d ih =>
    intro t n h D hD
    obtain ⟨D, rfl⟩ : ∃ E, D = E + 1 := ⟨D - 1, by omega⟩
    have h0 := h
    unfold plainTy at h
    cases hu : und P t with
    | none => rw [hu] at h; simp at h
    | some ds =>
      rw [hu] at h
      unfold Program.eqGuardType
      rw [und_under hu]
      cases ds <;> simp only at h ⊢ <;> try (cases h; done)
      case array m e =>
        obtain ⟨k, hk, _⟩ := plain_array hu h0
        exact ih e k hk D (by omega)
      case struct fs =>
        obtain ⟨_, h'⟩ := plain_struct hu h0
        have key : ∀ (l : List Field) (k : List Nat), l.foldl (plainStep P d) (some k) = some n → l.any (fun f => f.name != "_" && P.eqGuardType D f.type) = false := by
          intro l
          induction l with
          | nil => intro k _; rfl
          | cons f l il =>
            intro k hk
            obtain ⟨j, h1, h2, h3, h4, _, h5⟩ := plainStep_cons hk
            rw [List.any_cons, il _ h5, ih f.type j h1 D (by omega)]; simp
        rw [← Array.any_toList]
        exact key fs.toList [] h'
variable {w : World}
theorem cell_eq_run {D k : Nat} {t : TypeId} {x y : Value} {b : Bool} {d : TypeDesc} (hu : und P t = some d) (hd : (k = 0 ∧ d = .bool) ∨ (k = 1 ∧ ∃ i, d = .int i) ∨ (k = 2 ∧ d = .string))
    (h : eqCell k x y = some b) : (Op.equalIn (D + 1) t x y).run P w = .ok b w := by
  unfold Op.equalIn
  rw [Sem.run_bind, run_und hu, Result.andThen_ok]
  rcases hd with ⟨rfl, rfl⟩ | ⟨rfl, i, rfl⟩ | ⟨rfl, rfl⟩ <;> cases x <;> cases y <;> simp [eqCell] at h
  · simp [h]
  · rename_i k1 n1 k2 n2
    by_cases hk : k1 = k2
    · simp [hk] at h; subst h
      simp [hk]
      rfl
    · simp [hk] at h
  · rename_i s1 s2
    simp only [Sem.run_pure]
    rw [beq_toListBytes, ByteArray.toList_eq, ByteArray.toList_eq]
    simp [h]
theorem plain_eq : ∀ (d : Nat) (t : TypeId) (ks : List Nat), plainTy P d t = some ks → ∀ (D : Nat), d ≤ D → ∀ (xs ys : List Value) (b : Bool), eqCells ks xs ys = some b →
    (Op.equalIn D t (valOf P t xs) (valOf P t ys)).run P w = .ok b w := by
  intro d
  induction d with
  | zero => intro t ks h; simp [plainTy] at h
  | succ d ih =>
    intro t ks h D hD xs ys b hb
    obtain ⟨D, rfl⟩ : ∃ E, D = E + 1 := ⟨D - 1, by omega⟩
    have hstep : ∀ (e : TypeId) (k : List Nat), plainTy P d e = some k → (siz P e).getD 0 = k.length → 0 < k.length → ∀ (off : Nat) (as bs : Array Value) (c : Bool), off + k.length ≤ as.size → off + k.length ≤ bs.size →
        eqCells k ((as.toList.drop off).take k.length) ((bs.toList.drop off).take k.length) = some c →
        (part e as off).run P w = .ok (valOf P e ((as.toList.drop off).take k.length)) w ∧ (part e bs off).run P w = .ok (valOf P e ((bs.toList.drop off).take k.length)) w ∧
        (Op.equalIn D e (valOf P e ((as.toList.drop off).take k.length)) (valOf P e ((bs.toList.drop off).take k.length))).run P w = .ok c w := by
      intro e k hk hs hp off as bs c h1 h2 hc
      obtain ⟨⟨g, hg⟩, hone⟩ := plain_one hk
      have hs' := siz_of_len hs hp
      refine ⟨run_partV hg hs' h1 ?_, run_partV hg hs' h2 ?_, ih e k hk D (by omega) _ _ _ hc⟩
      · intro e; subst e; exact hone hg
      · intro e; subst e; exact hone hg
    have h0 := h
    unfold plainTy at h
    cases hu : und P t with
    | none => rw [hu] at h; simp at h
    | some ds =>
      rw [hu] at h
      cases ds <;> simp only at h <;> try (cases h; done)
      case array m e =>
        obtain ⟨k, hk, hs, hp, rfl⟩ := plain_array hu h0
        have hv : ∀ l : List Value, valOf P t l = .agg l.toArray := fun l => by unfold valOf isAgg; rw [hu]
        obtain ⟨i, hi, hie⟩ := siz_info (siz_of_len hs hp)
        rw [hv, hv, run_equalIn_array (P := P) w D (e := e) (n := m) (i := i) _ _ (und_under hu) hi]
        have hce : P.cellsOf e = k.length := by unfold Program.cellsOf; rw [hi]; simp [hie]
        rw [hce]
        have key : ∀ (n j : Nat) (b : Bool), eqCells (timesL k n) (xs.drop (j * k.length)) (ys.drop (j * k.length)) = some b → (j + n) * k.length ≤ xs.length → (j + n) * k.length ≤ ys.length →
            (Op.eqItems D e k.length xs.toArray ys.toArray (List.range' j n)).run P w = .ok b w := by
          intro n
          induction n with
          | zero =>
            intro j b hb _ _
            have := eqCells_length hb
            have e1 : xs.drop (j * k.length) = [] := by apply List.eq_nil_of_length_eq_zero; simpa [timesL] using this.1
            have e2 : ys.drop (j * k.length) = [] := by apply List.eq_nil_of_length_eq_zero; simpa [timesL] using this.2
            rw [e1, e2] at hb; simp [timesL, eqCells] at hb; subst hb
            simp [Op.eqItems]
          | succ n il =>
            intro j b hb hx hy
            obtain ⟨c, d', g1, g2, rfl⟩ := eqCells_split hb
            rw [List.range'_succ]
            have hmul : (j + (n + 1)) * k.length = j * k.length + k.length + n * k.length := by rw [Nat.add_mul, Nat.succ_mul]; omega
            have hxx : j * k.length + k.length ≤ xs.length := by omega
            have hyy : j * k.length + k.length ≤ ys.length := by omega
            obtain ⟨p1, p2, p3⟩ := hstep e k hk hs hp (j * k.length) xs.toArray ys.toArray c (by simpa using hxx) (by simpa using hyy) (by simpa using g1)
            simp only [Op.eqItems, Sem.run_bind, p1, p2, p3, Result.andThen_ok]
            cases c
            · simp
            · simp only [Bool.not_true, Bool.false_eq_true, if_false, Bool.true_and]
              refine il (j + 1) d' ?_ (by rw [show j + 1 + n = j + (n + 1) by omega]; exact hx) (by rw [show j + 1 + n = j + (n + 1) by omega]; exact hy)
              rw [Nat.succ_mul]
              simpa [List.drop_drop] using g2
        have htl : ∀ n, (timesL k n).length = n * k.length := by
          intro n; induction n with
          | zero => simp [timesL]
          | succ n il => simp [timesL, il, Nat.succ_mul]; omega
        have hl := eqCells_length hb
        rw [htl] at hl
        have := key m 0 b (by simpa using hb) (by simp; omega) (by simp; omega)
        rw [List.range_eq_range']
        exact this
      case struct fs =>
        obtain ⟨hst, hfold⟩ := plain_struct hu h0
        have hv : ∀ l : List Value, valOf P t l = .agg l.toArray := fun l => by unfold valOf isAgg; rw [hu]
        have hfo : P.fieldsOf t = fs := by unfold Program.fieldsOf; rw [und_under hu]
        rw [hv, hv, run_equalIn_struct (P := P) w D t _ _ (by rw [hfo]; exact und_under hu) hst, hfo]
        have key : ∀ (l : List Field) (k m : List Nat), l.foldl (plainStep P d) (some k) = some (k ++ m) → k.length + m.length = xs.length → k.length + m.length = ys.length → ∀ b, eqCells m (xs.drop k.length) (ys.drop k.length) = some b →
            (Op.eqFields D xs.toArray ys.toArray l).run P w = .ok b w := by
          intro l
          induction l with
          | nil =>
            intro k m hk _ _ b hb
            simp at hk; subst hk
            have := eqCells_length hb
            have e1 : xs.drop k.length = [] := by apply List.eq_nil_of_length_eq_zero; simpa using this.1
            have e2 : ys.drop k.length = [] := by apply List.eq_nil_of_length_eq_zero; simpa using this.2
            rw [e1, e2] at hb; simp [eqCells] at hb; subst hb
            simp [Op.eqFields]
          | cons f l il =>
            intro k m hk hx hy b hb
            obtain ⟨j, h1, h2, h3, h4, hj, h5⟩ := plainStep_cons hk
            obtain ⟨m', hm⟩ := plainStep_pre h5
            have hm' : m = j ++ m' := by rw [List.append_assoc] at hm; exact List.append_cancel_left hm
            subst hm'
            obtain ⟨c, d', g1, g2, rfl⟩ := eqCells_split hb
            simp only [List.length_append] at hx hy
            have hne : f.name ≠ "_" := by simpa using h2
            obtain ⟨p1, p2, p3⟩ := hstep f.type j h1 h4 hj k.length xs.toArray ys.toArray c (by simp; omega) (by simp; omega) (by simpa using g1)
            simp only [Op.eqFields, if_pos hne, h3, Sem.run_bind, p1, p2, p3, Result.andThen_ok]
            cases c
            · simp
            · simp only [Bool.not_true, Bool.false_eq_true, if_false, Bool.true_and]
              exact il (k ++ j) m' (by rw [h5, List.append_assoc]) (by simp; omega) (by simp; omega) d' (by simpa [List.drop_drop] using g2)
        have hl := eqCells_length hb
        exact key fs.toList [] ks (by simpa using hfold) (by simp; omega) (by simp; omega) b (by simpa using hb)
      case bool =>
        simp at h; subst h
        have hl := eqCells_length hb
        match xs, ys, hl with
        | [x], [y], _ =>
          have hv : ∀ z, valOf P t [z] = z := fun z => by unfold valOf isAgg; rw [hu]; rfl
          rw [hv, hv]
          refine cell_eq_run hu (.inl ⟨rfl, rfl⟩) ?_
          simp only [eqCells] at hb
          cases h1 : eqCell 0 x y with
          | none => rw [h1] at hb; simp at hb
          | some c => rw [h1] at hb; simpa using hb
      case int k =>
        simp at h; subst h
        have hl := eqCells_length hb
        match xs, ys, hl with
        | [x], [y], _ =>
          have hv : ∀ z, valOf P t [z] = z := fun z => by unfold valOf isAgg; rw [hu]; rfl
          rw [hv, hv]
          refine cell_eq_run hu (.inr (.inl ⟨rfl, k, rfl⟩)) ?_
          simp only [eqCells] at hb
          cases h1 : eqCell 1 x y with
          | none => rw [h1] at hb; simp at hb
          | some c => rw [h1] at hb; simpa using hb
      case string =>
        simp at h; subst h
        have hl := eqCells_length hb
        match xs, ys, hl with
        | [x], [y], _ =>
          have hv : ∀ z, valOf P t [z] = z := fun z => by unfold valOf isAgg; rw [hu]; rfl
          rw [hv, hv]
          refine cell_eq_run hu (.inr (.inr ⟨rfl, rfl⟩)) ?_
          simp only [eqCells] at hb
          cases h1 : eqCell 2 x y with
          | none => rw [h1] at hb; simp at hb
          | some c => rw [h1] at hb; simpa using hb
end
end V
end Go.Proofs.Ytepbdkfkfcckoaa
