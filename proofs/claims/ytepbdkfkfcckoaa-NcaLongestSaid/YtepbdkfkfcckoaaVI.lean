/- The machine of VA held against the model's: conversions, maps, lengths; all quiet operations.
   No condition. -/
import Derived.Test.YtepbdkfkfcckoaaVH
set_option linter.unusedVariables false
set_option linter.unusedSimpArgs false
namespace Go.Proofs.Ytepbdkfkfcckoaa
namespace V

section
variable {P : Program} {ro : Ro} {N : Nat} {φ : Phi} {w0 w : World} {H : Nat → Option Obj} {h : T Obj}
theorem foldl_push_any (f : Int → UInt8) : ∀ (ns : List Int) (r : ByteArray), ns.foldl (fun r n => r.push (f n)) r = ⟨r.data ++ (ns.map f).toArray⟩ := by
  intro ns
  induction ns with
  | nil => intro r; simp
  | cons n ns ih => intro r; rw [List.foldl_cons, ih]; simp [ByteArray.push]
theorem bytesV_ints : ∀ {l : List Value} {bs : List UInt8}, bytesV l = some bs → ∃ ns : List Int, l = ns.map (Value.int .u8) ∧ bs = ns.map (fun n => UInt8.ofNat n.toNat) := by
  intro l
  induction l with
  | nil => intro bs h; simp [bytesV] at h; subst h; exact ⟨[], rfl, rfl⟩
  | cons x l ih =>
    intro bs h
    unfold bytesV at h
    split at h
    · rename_i heq; cases heq
    · rename_i n r heq
      cases heq
      cases hr : bytesV l with
      | none => rw [hr] at h; cases h
      | some bs' =>
        rw [hr] at h; cases h
        obtain ⟨ns, rfl, rfl⟩ := ih hr
        exact ⟨n :: ns, rfl, rfl⟩
    · cases h
theorem LR.flat_eq {xs ys : List Value} (h : LR N φ xs ys) (hf : ∀ x ∈ xs, V.flat x = true) : ys = xs := by
  induction h with
  | nil => rfl
  | cons hv _ ih => rw [hv.of_flat (hf _ (by simp)), ih fun x hx => hf x (by simp [hx])]
theorem VR.of_sliceP {a : Addr} {l c : Nat} {v : Value} (h : VR N φ (.slice (some a) l c) v) : ∃ b c', v = .slice (some b) l c' ∧ (AR N φ a b ∨ l = 0) := by
  obtain ⟨b, c', rfl, hs⟩ := h.of_slice
  refine ⟨b, c', rfl, ?_⟩
  rcases hs with hs | ⟨hs, _⟩
  · cases hs with
    | ro h1 h2 => exact .inl (.inl ⟨h1, h2, rfl⟩)
    | own h1 h2 _ _ => exact .inl (.inr ⟨_, _, _, _, h2, h1, rfl⟩)
  · exact .inr hs
/-- The cells that a slice leads to. -/
theorem Sim.sliceCells (hS : Sim ro N φ w0 H w) (hsub : ∀ k o, h.get k = some o → H k = some o) {a : Addr} {l c z : Nat} {v : Value} (hv : VR N φ (.slice (some a) l c) v) {cs : List Value} (hc : V.cellsAt ro h a (l * z) = some cs) :
    ∃ b c' cs', v = .slice (some b) l c' ∧ LR N φ cs cs' ∧ cs.length = l * z ∧ ∀ j u, cs'[j]? = some u → w.cell? (b.add j) = some u := by
  obtain ⟨b, c', rfl, h1⟩ := hv.of_sliceP
  rcases h1 with h1 | h1
  · obtain ⟨cs', g1, g2, g3⟩ := hS.cellsAt hsub h1 hc
    exact ⟨b, c', cs', rfl, g1, g2, g3⟩
  · subst h1
    rw [Nat.zero_mul] at hc
    have : cs = [] := by
      unfold V.cellsAt at hc
      split at hc
      · simp [V.roCells] at hc; exact hc
      · split at hc
        · split at hc
          · simp at hc; exact hc
          · cases hc
        · cases hc
    subst this
    exact ⟨b, c', [], rfl, .nil, by simp, fun j u hj => by simp at hj⟩
theorem conv_sound (hS : Sim ro N φ w0 H w) (hsub : ∀ k o, h.get k = some o → H k = some o) {aid : Nat} {src dst : TypeId} {x x' v : Value} {ob : Option Obj} (hc : convV P ro h aid src dst x = some (v, ob)) (hx : VR N φ x x') :
    QPost N φ aid w v ob ((convert src dst x').run P w) := by
  unfold convV at hc
  cases hs : und P src with
  | none => rw [hs] at hc; cases hc
  | some ds =>
    cases hd : und P dst with
    | none => rw [hs, hd] at hc; cases ds <;> cases hc
    | some dd =>
      rw [hs, hd] at hc
      cases ds <;> cases dd <;> (try (cases hc; done)) <;> cases x <;> (try simp only at hc) <;> (try (cases hc; done))
      case int.int.int k1 k2 k n =>
        cases hc
        rw [hx.of_int]
        refine QPost.value (v' := .int k2 (wr k2 n)) ?_ (.flat rfl)
        simp [convert, run_und hs, run_und hd, Conv.intToInt, wr_eq]
      case string.string.string s0 =>
        cases hc
        rw [hx.of_string]
        refine QPost.value (v' := .string s0) ?_ (.flat rfl)
        simp [convert, run_und hs, run_und hd]
      case string.slice.string e s0 =>
        cases he : und P e with
        | none => rw [he] at hc; cases hc
        | some de =>
          rw [he] at hc
          cases hb : Nat.ble s0.size big with
          | false => rw [hb] at hc; cases de <;> (try cases hc) ; rename_i k; cases k <;> cases hc
          | true =>
            rw [hb] at hc
            cases hz : siz P e with
            | none => rw [hz] at hc; cases de <;> (try cases hc) ; rename_i k; cases k <;> cases hc
            | some z =>
              rw [hz] at hc
              have hde : de = .int .u8 ∧ z = 1 := by
                cases de <;> (try cases hc)
                rename_i k
                cases k <;> (try cases hc)
                match z, hc with
                | 1, _ => exact ⟨rfl, rfl⟩
              obtain ⟨rfl, rfl⟩ := hde
              simp only at hc
              cases hc
              rw [hx.of_string]
              have hrun := run_bytes_of_string (P := P) w src dst e s0 (und_under hs) (und_under hd) (und_under he)
              have hsz : (bytesRow s0 (grownCap w s0.size 0 e)).size = grownCap w s0.size 0 e := by
                have h1 := grownCap_ge w s0.size 0 e
                have h2 : s0.data.size = s0.size := rfl
                simp [bytesRow]; omega
              refine ⟨_, _, hrun, _, (bytesRow s0 (grownCap w s0.size 0 e)).size, rfl, rfl, rfl, rfl, fun _ ψ hle hψ => ⟨?_, ?_⟩⟩
              · refine .sliceOwn (a := own aid 1) hψ rfl (grownCap_ge w s0.size 0 e) ?_
                simp [own, hsz]
              · refine ⟨by simp, ?_, fun i x hi => ?_, .inr (Nat.le_refl _)⟩
                · have h1 := grownCap_ge w s0.size 0 e
                  have h2 : s0.data.size = s0.size := rfl
                  simp [hsz]; omega
                · refine ⟨x, ?_, ?_⟩
                  · have hlt : i < s0.data.size := by have := (Array.getElem?_eq_some_iff.1 hi).1; simpa using this
                    simp at hi
                    have hlt' : i < s0.size := hlt
                    simp [bytesRow, Array.getElem?_append, hlt']
                    obtain ⟨b, hb1, hb2⟩ := hi
                    rw [Array.getElem?_eq_getElem hlt] at hb1
                    cases hb1; exact hb2
                  · simp at hi
                    obtain ⟨b, _, rfl⟩ := hi
                    exact .flat rfl
      case slice.string.slice e a l c =>
        cases he : und P e with
        | none => rw [he] at hc; cases hc
        | some de =>
          rw [he] at hc
          have hde : de = .int .u8 := by
            cases de <;> (try cases hc)
            rename_i k
            cases k <;> (try cases hc)
            rfl
          subst hde
          cases a with
          | none =>
            cases hc
            rw [hx.of_nilSlice]
            refine QPost.value (v' := .string .empty) ?_ (.flat rfl)
            rw [run_convert_bytes_string w src dst e none l c (und_under hs) (und_under he) (und_under hd)]
            rfl
          | some a =>
            simp only at hc
            cases hcs : cellsAt ro h a l with
            | none => rw [hcs] at hc; cases hc
            | some cs =>
              rw [hcs] at hc
              simp only [Option.bind] at hc
              cases hbs : bytesV cs with
              | none => rw [hbs] at hc; cases hc
              | some bs =>
                rw [hbs] at hc; cases hc
                obtain ⟨b, c', cs', rfl, g1, g2, g3⟩ := hS.sliceCells hsub (z := 1) hx (by rw [Nat.mul_one]; exact hcs)
                obtain ⟨ns, rfl, rfl⟩ := bytesV_ints hbs
                have e1 := g1.flat_eq (by intro x hx; simp at hx; obtain ⟨n, _, rfl⟩ := hx; rfl)
                subst e1
                have hl := run_loadCells_list (P := P) w b _ g3
                rw [g2, Nat.mul_one] at hl
                refine QPost.value ?_ (.flat rfl)
                rw [run_convert_bytes_string w src dst e (some b) l c' (und_under hs) (und_under he) (und_under hd), run_bytesToString w b l c' ns hl, foldl_push_any]
                have he0 : ByteArray.empty.data = #[] := rfl
                rw [he0]; simp
/-! ### Maps -/
theorem Sim.entries (hS : Sim ro N φ w0 H w) (hsub : ∀ k o, h.get k = some o → H k = some o) {r B : Nat} (hφ : φ r = some (B, 0, 0)) {es : List MapEntry × Nat} (he : entriesAt h r = some es) :
    ∃ ES, w.heap[B]? = some (.map ES es.2) ∧ ER N φ es.1 ES.toList := by
  unfold entriesAt at he
  cases hk : h.get r with
  | none => rw [hk] at he; cases he
  | some o =>
    rw [hk] at he
    cases o <;> (try cases he)
    obtain ⟨B', b, r', o', h1, h2, h3⟩ := hS.own r _ (hsub _ _ hk)
    rw [hφ] at h1; cases h1
    cases o' <;> simp only [OR] at h3
    obtain ⟨_, _, rfl, h4⟩ := h3
    exact ⟨_, h2, h4⟩
theorem keyEq_same {kt : TypeId} {a b a' b' : Value} {c : Bool} (h : keyEq P kt a b = some c) (ha : VR N φ a a') (hb : VR N φ b b') : a' = a ∧ b' = b := by
  unfold keyEq at h
  split at h
  · rename_i xs ys
    obtain ⟨xs', rfl, hx⟩ := ha.of_agg
    obtain ⟨ys', rfl, hy⟩ := hb.of_agg
    obtain ⟨rfl, rfl, _⟩ := agg_sound (P := P) (w := default) h hx hy
    exact ⟨rfl, rfl⟩
  · split at h <;> first
      | (cases h; done)
      | (obtain ⟨f1, f2⟩ := eqCell_flat h; exact ⟨ha.of_flat f1, hb.of_flat f2⟩)
theorem keyEq_now {kt : TypeId} {d : TypeDesc} (hu : und P kt = some d) {a b : Value} {c : Bool} (h : keyEq P kt a b = some c) (hd : (∃ k, d = .int k) ∨ d = .string ∨ d = .bool) : Instr.sameNow d a b = some c := by
  have hg : isAgg P kt = some false := by unfold isAgg; rw [hu]; rcases hd with ⟨k, rfl⟩ | rfl | rfl <;> rfl
  unfold keyEq at h
  split at h
  · rw [hg] at h; cases h
  · rw [hu] at h
    rcases hd with ⟨k, rfl⟩ | rfl | rfl
    · simp only at h
      cases a <;> cases b <;> simp [eqCell] at h
      rename_i k1 n1 k2 n2 _
      by_cases hk : k1 = k2 <;> simp [hk] at h
      subst h
      simp [Instr.sameNow, hk]; rfl
    · simp only at h
      cases a <;> cases b <;> simp [eqCell] at h
      rename_i s1 s2 _
      simp only [Instr.sameNow]
      rw [beq_toListBytes, ByteArray.toList_eq, ByteArray.toList_eq]; simp [h]
    · simp only at h
      cases a <;> cases b <;> simp [eqCell] at h
      simp [Instr.sameNow, h]
/-- What is found, in both. -/
def FR (N : Nat) (φ : Phi) : Option (Nat × Value) → Option (Nat × Value) → Prop
  | none, none => True
  | some x, some y => x.1 = y.1 ∧ VR N φ x.2 y.2
  | _, _ => False
theorem find_now {kt : TypeId} {d : TypeDesc} (hu : und P kt = some d) (hd : (∃ k, d = .int k) ∨ d = .string ∨ d = .bool) {k : Value} :
    ∀ {es ES : List MapEntry} (he : ER N φ es ES) (hk : VR N φ k k) (i : Nat) (r : Option (Nat × Value)), findV P kt k es i = some r →
      ∃ r', Instr.findNow d k ES i = some r' ∧ FR N φ r r' := by
  intro es ES he
  induction he with
  | nil => intro hk i r h; simp [findV] at h; subst h; exact ⟨none, rfl, trivial⟩
  | cons h1 h2 h3 _ ih =>
    rename_i e E es ES _
    intro hk i r h
    simp only [findV] at h
    cases hq : keyEq P kt k e.key with
    | none => rw [hq] at h; cases h
    | some c =>
      rw [hq] at h
      have e1 := keyEq_now hu hq hd
      obtain ⟨_, e2⟩ := keyEq_same hq hk h1
      cases c with
      | true =>
        cases h
        refine ⟨some (i, E.val), ?_, rfl, h2⟩
        rw [← e2] at e1
        simp [Instr.findNow, e1]
      | false =>
        obtain ⟨r', g1, g2⟩ := ih hk (i + 1) r h
        refine ⟨r', ?_, g2⟩
        rw [← e2] at e1
        simp [Instr.findNow, e1, g1]
theorem find_asking {kt : TypeId} {k : Value} (hu : ∃ fs, und P kt = some (.struct fs)) (hka : ∃ xs, k = .agg xs) :
    ∀ {es ES : List MapEntry} (he : ER N φ es ES) (hk : VR N φ k k) (i : Nat) (r : Option (Nat × Value)), findV P kt k es i = some r →
      ∃ r', (Instr.findAsking kt k ES i).run P w = .ok r' w ∧ FR N φ r r' := by
  intro es ES he
  obtain ⟨fs, hu⟩ := hu
  obtain ⟨xs, rfl⟩ := hka
  induction he with
  | nil => intro hk i r h; simp [findV] at h; subst h; exact ⟨none, rfl, trivial⟩
  | cons h1 h2 h3 _ ih =>
    rename_i e E es ES _
    intro hk i r h
    simp only [findV] at h
    cases hq : keyEq P kt (.agg xs) e.key with
    | none => rw [hq] at h; cases h
    | some c =>
      rw [hq] at h
      obtain ⟨_, e2⟩ := keyEq_same hq hk h1
      have hrun : (Op.equal kt (.agg xs) E.key).run P w = .ok c w := by
        rw [e2]
        unfold keyEq at hq
        split at hq
        · rename_i xs' ys' e3 e4
          cases e3
          rw [e4]
          rw [e4] at h1
          obtain ⟨ys2, e5, hy⟩ := h1.of_agg
          obtain ⟨zs, e6, hx⟩ := hk.of_agg
          cases e6
          exact (agg_sound (w := w) hq hx hy).2.2.1
        · rw [hu] at hq; cases hq
      cases c with
      | true =>
        cases h
        refine ⟨some (i, E.val), ?_, rfl, h2⟩
        simp [Instr.findAsking, hrun]
      | false =>
        obtain ⟨r', g1, g2⟩ := ih hk (i + 1) r h
        refine ⟨r', ?_, g2⟩
        simp [Instr.findAsking, hrun, g1]
theorem plain_two {t : TypeId} {ks : List Nat} {fs : Array Field} (hu : und P t = some (.struct fs)) (h : plainTy P 2 t = some ks) :
    ∀ f ∈ fs.toList, ∃ d, und P f.type = some d ∧ (d = .bool ∨ (∃ k, d = .int k) ∨ d = .string) := by
  obtain ⟨_, hf⟩ := plain_struct hu h
  have key : ∀ (l : List Field) (k : List Nat), l.foldl (plainStep P 1) (some k) = some ks → ∀ f ∈ l, ∃ d, und P f.type = some d ∧ (d = .bool ∨ (∃ k, d = .int k) ∨ d = .string) := by
    intro l
    induction l with
    | nil => intro k _ f hf; cases hf
    | cons f l il =>
      intro k hk g hg
      obtain ⟨j, h1, _, _, h4, h5, h6⟩ := plainStep_cons hk
      rcases List.mem_cons.1 hg with rfl | hg
      · unfold plainTy at h1
        cases hd : und P g.type with
        | none => rw [hd] at h1; cases h1
        | some d =>
          rw [hd] at h1
          refine ⟨d, rfl, ?_⟩
          cases d <;> simp only at h1 <;> first
            | exact .inl rfl
            | exact .inr (.inl ⟨_, rfl⟩)
            | exact .inr (.inr rfl)
            | (simp [plainTy] at h1; done)
            | (rename_i fs'
               cases hst : P.stoodInHeld g.type <;> rw [hst] at h1 <;> simp only at h1 <;> try (cases h1; done)
               cases hl : fs'.toList with
               | nil => rw [hl] at h1; simp at h1; subst h1; simp at h5
               | cons f' fs'' =>
                 rw [hl] at h1
                 have h1' : (f' :: fs'').foldl (plainStep P 0) (some []) = some j := h1
                 obtain ⟨j', g1, _⟩ := plainStep_cons h1'
                 simp [plainTy] at g1)
      · exact il _ h6 g hg
  exact key _ _ hf
theorem check_scalar {D : Nat} {t : TypeId} {d : TypeDesc} (em : Bool) (hu : und P t = some d) (hd : d = .bool ∨ (∃ k, d = .int k) ∨ d = .string) (v : Value) : (Instr.checkKey em (D + 1) t v).run P w = .ok () w := by
  unfold Instr.checkKey
  rw [Sem.run_bind, run_und hu, Result.andThen_ok]
  rcases hd with rfl | ⟨k, rfl⟩ | rfl <;> cases v <;> rfl
theorem check_run {kt : TypeId} {k : Value} (em : Bool) (h : keyOk P kt k = true) : (Instr.checkKey em 10000 kt k).run P w = .ok () w := by
  unfold keyOk at h
  split at h
  · rename_i d hu; exact check_scalar em hu (.inr (.inl ⟨_, rfl⟩)) _
  · rename_i hu; exact check_scalar em hu (.inr (.inr rfl)) _
  · rename_i hu; exact check_scalar em hu (.inl rfl) _
  · rename_i xs fs hu
    cases hp : plainTy P 2 kt with
    | none => rw [hp] at h; cases h
    | some ks =>
      rw [hp] at h
      simp only at h
      cases hc : eqCells ks xs.toList xs.toList with
      | none => rw [hc] at h; cases h
      | some b =>
        have hl := (eqCells_length hc).1
        have hall := plain_two hu hp
        obtain ⟨_, hf⟩ := plain_struct hu hp
        unfold Instr.checkKey
        rw [Sem.run_bind, run_und hu, Result.andThen_ok]
        simp only
        rw [← Array.forIn_toList]
        have key : ∀ (l : List Field) (k m : List Nat), l.foldl (plainStep P 1) (some k) = some (k ++ m) → k.length + m.length = xs.size → (∀ f ∈ l, ∃ d, und P f.type = some d ∧ (d = .bool ∨ (∃ k, d = .int k) ∨ d = .string)) →
            ((forIn l PUnit.unit fun f (_ : PUnit) => if f.name ≠ "_" then do
                let x ← part f.type xs f.offset
                Instr.checkKey em 9999 f.type x
                pure (ForInStep.yield PUnit.unit)
              else pure (ForInStep.yield PUnit.unit)) : Sem PUnit).run P w = .ok PUnit.unit w := by
          intro l
          induction l with
          | nil => intro k m _ _ _; simp
          | cons f l il =>
            intro k m hk hx hall
            obtain ⟨j, h1, h2, h3, h4, hj, h5⟩ := plainStep_cons hk
            obtain ⟨m', hm⟩ := plainStep_pre h5
            have hm' : m = j ++ m' := by rw [List.append_assoc] at hm; exact List.append_cancel_left hm
            subst hm'
            simp only [List.length_append] at hx
            obtain ⟨d, hd, hdd⟩ := hall f (by simp)
            obtain ⟨⟨g, hg⟩, hone⟩ := plain_one h1
            have hs' := siz_of_len h4 hj
            have hpart := run_partV (P := P) (w := w) hg hs' (cs := xs) (off := f.offset) (by omega) (by intro e; subst e; exact hone hg)
            rw [List.forIn_cons]
            have hne : f.name ≠ "_" := by simpa using h2
            have hrest := il (k ++ j) m' (by rw [h5, List.append_assoc]) (by simp; omega) (fun g hg => hall g (by simp [hg]))
            simp only [if_pos hne, Sem.run_bind, hpart, Result.andThen_ok, check_scalar em hd hdd, Sem.run_pure]
            exact hrest
        rw [Sem.run_bind, key fs.toList [] ks (by simpa using hf) (by simpa using hl.symm) hall]; rfl
  · cases h
theorem keyOk_flat {kt : TypeId} {k k' : Value} (h : keyOk P kt k = true) (hv : VR N φ k k') : k' = k ∧ VR N φ k k := by
  unfold keyOk at h
  split at h
  · exact ⟨hv.of_int, .flat rfl⟩
  · exact ⟨hv.of_string, .flat rfl⟩
  · exact ⟨hv.of_bool, .flat rfl⟩
  · rename_i xs fs hu
    cases hp : plainTy P 2 kt with
    | none => rw [hp] at h; cases h
    | some ks =>
      rw [hp] at h
      simp only at h
      cases hc : eqCells ks xs.toList xs.toList with
      | none => rw [hc] at h; cases h
      | some b =>
        obtain ⟨ys, rfl, hl⟩ := hv.of_agg
        obtain ⟨e, _⟩ := eqCells_same hc hl hl
        have e' : ys = xs := Array.ext' e
        subst e'
        exact ⟨rfl, hv⟩
  · cases h
theorem find_sound {kt : TypeId} {k : Value} {es ES : List MapEntry} (hok : keyOk P kt k = true) (hk : VR N φ k k) (he : ER N φ es ES) {r : Option (Nat × Value)} (h : findV P kt k es 0 = some r) :
    ∃ r', (Instr.findKey kt k ES).run P w = .ok r' w ∧ FR N φ r r' := by
  unfold Instr.findKey
  have hok0 := hok
  unfold keyOk at hok
  have scalar : ∀ d, und P kt = some d → ((∃ k, d = .int k) ∨ d = .string ∨ d = .bool) → ∃ r', (do match Instr.findNow (← underlying kt) k ES 0 with
      | some r => pure r
      | none => Instr.findAsking kt k ES : Sem (Option (Nat × Value))).run P w = .ok r' w ∧ FR N φ r r' := by
    intro d hu hd
    obtain ⟨r', g1, g2⟩ := find_now hu hd he hk 0 r h
    exact ⟨r', by rw [Sem.run_bind, run_und hu, Result.andThen_ok, g1]; rfl, g2⟩
  split at hok
  · rename_i hu; exact scalar _ hu (.inl ⟨_, rfl⟩)
  · rename_i hu; exact scalar _ hu (.inr (.inl rfl))
  · rename_i hu; exact scalar _ hu (.inr (.inr rfl))
  · rename_i xs fs hu
    obtain ⟨r', g1, g2⟩ := find_asking (w := w) ⟨fs, hu⟩ ⟨xs, rfl⟩ he hk 0 r h
    cases he with
    | nil =>
      simp [findV] at h; subst h
      refine ⟨none, ?_, trivial⟩
      rw [Sem.run_bind, run_und hu, Result.andThen_ok]; rfl
    | cons h1 h2 h3 ht =>
      refine ⟨r', ?_, g2⟩
      rw [Sem.run_bind, run_und hu, Result.andThen_ok]
      exact g1
  · cases hok
end
end V
end Go.Proofs.Ytepbdkfkfcckoaa
