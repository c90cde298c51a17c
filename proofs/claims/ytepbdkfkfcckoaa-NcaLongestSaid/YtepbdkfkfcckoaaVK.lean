/- The machine of VA held against the model's: one quiet operation; the loud ones of memory.
   No condition. -/
import Derived.Test.YtepbdkfkfcckoaaVJ
set_option linter.unusedVariables false
set_option linter.unusedSimpArgs false
namespace Go.Proofs.Ytepbdkfkfcckoaa
namespace V

section
variable {P : Program} {ro : Ro} {N : Nat} {φ : Phi} {w0 w : World} {H : Nat → Option Obj} {h : T Obj} {t : T Value} {ρ : Operand → Value}
theorem evl_some {x : Operand} {f : Value → Option (Value × Option Obj)} {r : Value × Option Obj} (h : (evl t x).bind f = some r) : ∃ v, evl t x = some v ∧ f v = some r := by
  cases hx : evl t x with
  | none => rw [hx] at h; cases h
  | some v => rw [hx] at h; exact ⟨v, rfl, h⟩
theorem bind_some' {α β : Type} {o : Option α} {f : α → Option β} {r : β} (h : o.bind f = some r) : ∃ v, o = some v ∧ f v = some r := by
  cases o with
  | none => cases h
  | some v => exact ⟨v, rfl, h⟩
theorem ret_some {v u : Value} {ob : Option Obj} (h : (some (v, none) : Option (Value × Option Obj)) = some (u, ob)) : u = v ∧ ob = none := by cases h; exact ⟨rfl, rfl⟩
theorem zrow_zero {e : TypeId} {l : List Value} (h : zrow P e 0 = some l) : l = [] := by simp [zrow] at h; exact h
theorem make_sound (hz : zerosOk P = true) {ty : TypeId} {aid : Nat} {l l' c c' v : Value} {ob : Option Obj} (h : makeV P ty aid l c = some (v, ob)) (hl : VR N φ l l') (hc : VR N φ c c') :
    QPost N φ aid w v ob ((Instr.makeSlice ty l' c').run P w) := by
  unfold makeV at h
  split at h
  case h_2 => cases h
  rename_i e kl l kc c hu
  rw [hl.of_int, hc.of_int]
  by_cases h0 : 0 ≤ l
  · by_cases h1 : l ≤ c
    · simp only [h0, h1, decide_true] at h
      obtain ⟨i, hi, h⟩ := bind_some' h
      cases hb : Nat.ble (c.toNat * i.bytes) big with
      | false => rw [hb] at h; cases h
      | true =>
        by_cases h2 : c ≤ 70368744177664
        · simp only [hb, h2, decide_true] at h
          obtain ⟨r, hr, h⟩ := bind_some' h
          cases h
          have hle : c.toNat * i.bytes ≤ 70368744177664 := Nat.le_of_ble_eq_true hb
          have hii := tin_info hi
          have hsz : siz P e = some i.size := by unfold siz; rw [hi]; rfl
          obtain ⟨s, hm⟩ := zrow_made (φ := φ) (N := N) hz hr
          have wl : IntKind.i64.wrap l = l := by rw [IntKind.wrap_i64]; omega
          have wc : IntKind.i64.wrap c = c := by rw [IntKind.wrap_i64]; omega
          have n1 : ¬ c < 0 := by omega
          have hbc : (i.bytes : Int) * c = ((c.toNat * i.bytes : Nat) : Int) := by
            rw [Int.natCast_mul, Int.toNat_of_nonneg (by omega), Int.mul_comm]
          have n2 : ¬ (281474976710656 < (i.bytes : Int) * c) := by rw [hbc]; omega
          have n3 : ¬ l < 0 := by omega
          have n4 : ¬ c < l := by omega
          rcases hm with ⟨e1, e2⟩ | ⟨e1, e2, e3, z, e4, e5, _⟩
          · subst e2
            refine QPost.row (C := #[]) ?_ .nil (by rw [e1]; simp)
            simp [Instr.makeSlice, run_und hu, asInt, asIntOf, typeInfo, hii, sizeOf, wl, wc, n1, n2, n3, n4, e1, newRow, Array.range_zero']
          · rw [hsz] at e1; cases e1
            refine QPost.row (C := (Array.range (c.toNat * i.size)).map (z.cells[· % z.cells.size]!)) ?_ (by simpa using e5) (by simp)
            obtain ⟨i', hi', hz'⟩ := zer_info e4
            rw [hii] at hi'; cases hi'
            have hne : ¬ (c.toNat * i.size = 0) := by omega
            have hne' : ¬ (c.toNat = 0 ∨ i.size = 0) := by rintro (e | e) <;> rw [e] at e3 <;> simp at e3
            simp [Instr.makeSlice, run_und hu, asInt, asIntOf, typeInfo, hii, sizeOf, zeroValue, hz', wl, wc, n1, n2, n3, n4, hne, hne', newRow]
        · simp [hb, h2] at h
    · simp [h0, h1] at h
  · simp [h0] at h
set_option maxHeartbeats 2000000 in
theorem opQ_sound (hz : zerosOk P = true) (hS : Sim ro N φ w0 H w) (hsub : ∀ k o, h.get k = some o → H k = some o) {o : Oper} {aid : Nat} {v : Value} {ob : Option Obj}
    (henv : ∀ x ∈ o.op.operands, ∀ v, evl t x = some v → VR N φ v (ρ x)) (hq : opQ P ro t h aid o.op = some (v, ob)) :
    QNext N φ aid w v ob ((execOp ρ o).run P w) := by
  obtain ⟨dst, op, ty0, pos, after, guard⟩ := o
  simp only at henv hq
  cases op with
  | move x =>
    simp only [opQ] at hq
    obtain ⟨u, hu, hq⟩ := evl_some hq
    cases hq
    exact QNext.pure (henv x (by simp [Op.operands]) _ hu)
  | assign x =>
    simp only [opQ] at hq
    obtain ⟨u, hu, hq⟩ := evl_some hq
    cases hq
    exact QNext.pure (henv x (by simp [Op.operands]) _ hu)
  | pick c a b =>
    simp only [opQ] at hq
    obtain ⟨u, hu, hq⟩ := evl_some hq
    have hc := henv c (by simp [Op.operands]) u hu
    split at hq
    · obtain ⟨v1, h1, hq⟩ := evl_some hq
      cases hq
      refine ⟨ρ a, w, ?_, rfl, henv a (by simp [Op.operands]) _ h1⟩
      simp [execOp, asBool, hc.of_bool]
    · obtain ⟨v1, h1, hq⟩ := evl_some hq
      cases hq
      refine ⟨ρ b, w, ?_, rfl, henv b (by simp [Op.operands]) _ h1⟩
      simp [execOp, asBool, hc.of_bool]
    · cases hq
  | alloc e =>
    simp only [opQ] at hq
    obtain ⟨z, hzr, hq⟩ := bind_some' hq
    cases hq
    refine QNext.of (QPost.ptr (C := z.cells) ?_ (LR.flat (zer_flat hz hzr)))
    simp [Instr.alloc, run_zer hzr, newVar, newRow]
  | box e x =>
    simp only [opQ] at hq
    obtain ⟨u, hu, hq⟩ := evl_some hq
    cases hq
    refine QNext.of (QPost.ptr (C := (ρ x).cells) ?_ (henv x (by simp [Op.operands]) u hu).cells)
    simp [Instr.box, newVar, newRow]
  | build bt ps =>
    simp only [opQ] at hq
    obtain ⟨vs, hvs, hq⟩ := bind_some' hq
    obtain ⟨u, hu, hq⟩ := bind_some' hq
    cases hq
    have hp := evlP_PR (N := N) (φ := φ) (ρ := ρ) (fun x hx => henv x (by simpa [Op.operands] using hx)) hvs
    obtain ⟨l, r, rfl, h1, h2⟩ := buildV_built hz hp hu
    refine QNext.same (v' := .agg r) ?_ (VR.aggL h2)
    exact run_build (P := P) w bt _ r (by simpa using h1)
  | buildSlice bt n ps =>
    simp only [opQ] at hq
    obtain ⟨vs, hvs, hq⟩ := bind_some' hq
    have hp := evlP_PR (N := N) (φ := φ) (ρ := ρ) (fun x hx => henv x (by simpa [Op.operands] using hx)) hvs
    exact QNext.of (run_sliceLit (w := w) hz (qs := ps.map fun x => (x.1, ρ x.2)) (by simpa using hp) hq)
  | load lt x =>
    simp only [opQ] at hq
    obtain ⟨u, hu, hq⟩ := evl_some hq
    have hx := henv x (by simp [Op.operands]) u hu
    split at hq
    · obtain ⟨u2, hl, hq⟩ := bind_some' hq
      cases hq
      obtain ⟨b, e, ha⟩ := hx.of_ptr
      obtain ⟨v', h1, h2⟩ := hS.load hsub ha hl
      refine QNext.same (v' := v') ?_ h2
      simp [Instr.loadAt, Instr.sureAddr, e, h1]
    · cases hq
  | nilCheck x =>
    simp only [opQ] at hq
    obtain ⟨u, hu, hq⟩ := evl_some hq
    have hx := henv x (by simp [Op.operands]) u hu
    split at hq
    · cases hq
      obtain ⟨b, e, ha⟩ := hx.of_ptr
      refine ⟨.pointer (some b), w, ?_, rfl, by rw [← e]; exact hx⟩
      simp [execOp, e]
    · cases hq
      obtain ⟨a', b', e, _, _⟩ := hx.of_func
      refine ⟨.func (.func _) a' b', w, ?_, rfl, by rw [← e]; exact hx⟩
      simp [execOp, e]
    · cases hq
  | binOp op bt x y yt =>
    simp only [opQ] at hq
    obtain ⟨a, ha, hq⟩ := evl_some hq
    obtain ⟨b, hb, hq⟩ := evl_some hq
    obtain ⟨u, hu, hq⟩ := bind_some' hq
    cases hq
    obtain ⟨g1, g2⟩ := bin_sound (w := w) (xo := x) (yo := y) hu (henv x (by simp [Op.operands]) a ha) (henv y (by simp [Op.operands]) b hb)
    simp only [execOp]
    exact QNext.same g1 (.flat g2)
  | unOp op bt x =>
    simp only [opQ] at hq
    obtain ⟨a, ha, hq⟩ := evl_some hq
    obtain ⟨u, hu, hq⟩ := bind_some' hq
    cases hq
    obtain ⟨g1, g2⟩ := un_sound (P := P) (w := w) hu (henv x (by simp [Op.operands]) a ha)
    exact QNext.same g1 (.flat g2)
  | convert s d x =>
    simp only [opQ] at hq
    obtain ⟨a, ha, hq⟩ := evl_some hq
    exact QNext.of (conv_sound hS hsub hq (henv x (by simp [Op.operands]) a ha))
  | makeFunc fn a b =>
    cases fn with
    | func f =>
      simp only [opQ] at hq
      obtain ⟨as, has, hq⟩ := bind_some' hq
      obtain ⟨bs, hbs, hq⟩ := bind_some' hq
      cases hq
      have h1 := evlL_LR (N := N) (φ := φ) (ρ := ρ) (fun x hx => henv x (by simp [Op.operands]; exact .inl (by simpa using hx))) has
      have h2 := evlL_LR (N := N) (φ := φ) (ρ := ρ) (fun x hx => henv x (by simp [Op.operands]; exact .inr (by simpa using hx))) hbs
      refine ⟨.func (.func f) (a.map ρ) (b.map ρ), w, by simp [execOp, Instr.makeFunc], rfl, ?_⟩
      exact .func (by simpa using h1.length) (fun i x y hx hy => h1.get i x y (by simpa using hx) (by simpa using hy)) (by simpa using h2.length) (fun i x y hx hy => h2.get i x y (by simpa using hx) (by simpa using hy))
    | _ => simp only [opQ] at hq; cases hq
  | makeMap mt r =>
    cases r with
    | some _ => simp only [opQ] at hq; cases hq
    | none =>
      simp only [opQ] at hq
      cases hq
      refine ⟨.map (some w.heap.size), w.alloc (.map #[] 0), by simp [execOp, Instr.makeMap], .map #[] 0, 0, rfl, rfl, rfl, rfl, fun _ ψ hle hψ => ⟨.map hψ, ⟨rfl, rfl, rfl, .nil⟩⟩⟩
  | makeSlice mt l c =>
    simp only [opQ] at hq
    obtain ⟨a, ha, hq⟩ := evl_some hq
    obtain ⟨b, hb, hq⟩ := evl_some hq
    exact QNext.of (make_sound hz hq (henv l (by simp [Op.operands]) a ha) (henv c (by simp [Op.operands]) b hb))
  | slice st x lo hi mx =>
    simp only [opQ] at hq
    obtain ⟨a, ha, hq⟩ := evl_some hq
    obtain ⟨lov, hlo, hq⟩ := bind_some' hq
    obtain ⟨hiv, hhi, hq⟩ := bind_some' hq
    obtain ⟨mxv, hmx, hq⟩ := bind_some' hq
    obtain ⟨u, hu, hq⟩ := bind_some' hq
    cases hq
    obtain ⟨⟨v', g1, g2⟩, n1, n2, n3⟩ := slice_sound (w := w) hu (henv x (by simp [Op.operands]) a ha)
    have e1 := evlO_num (N := N) (φ := φ) (ρ := ρ) (fun y hy => henv y (by simp [Op.operands]; exact .inr (.inl (by simpa using hy)))) hlo n1
    have e2 := evlO_num (N := N) (φ := φ) (ρ := ρ) (fun y hy => henv y (by simp [Op.operands]; exact .inr (.inr (.inl (by simpa using hy))))) hhi n2
    have e3 := evlO_num (N := N) (φ := φ) (ρ := ρ) (fun y hy => henv y (by simp [Op.operands]; exact .inr (.inr (.inr (by simpa using hy))))) hmx n3
    exact QNext.same (by rw [e1, e2, e3]; exact g1) g2
  | fieldAddr st x f =>
    simp only [opQ] at hq
    obtain ⟨u, hu, hq⟩ := evl_some hq
    have hx := henv x (by simp [Op.operands]) u hu
    split at hq
    · obtain ⟨fd, hf, hq⟩ := bind_some' hq
      obtain ⟨n, hn, hq⟩ := bind_some' hq
      cases n with
      | zero => cases hq
      | succ n =>
        cases hq
        obtain ⟨b, e, ha⟩ := hx.of_ptr
        unfold fldV at hf
        split at hf
        · rename_i fs hus
          refine QNext.same (v' := .pointer (some (b.add fd.offset))) ?_ (ha.fwd _).ptr
          simp [Instr.fieldAt, run_und hus, hf, e, Instr.sureAddr, fieldPlace, run_siz hn]
        · cases hf
    · cases hq
  | field ft x f =>
    simp only [opQ] at hq
    obtain ⟨u, hu, hq⟩ := evl_some hq
    have hx := henv x (by simp [Op.operands]) u hu
    split at hq
    · obtain ⟨fd, hf, hq⟩ := bind_some' hq
      obtain ⟨u2, hp, hq⟩ := bind_some' hq
      cases hq
      obtain ⟨ys, e, hl⟩ := hx.of_agg
      unfold fldV at hf
      split at hf
      · rename_i fs hus
        obtain ⟨v', g1, g2⟩ := part_sound (w := w) hp hl
        refine QNext.same (v' := v') ?_ g2
        simp [Instr.field, run_und hus, hf, e, asAgg, g1]
      · cases hf
    · cases hq
  | indexAddr it x i =>
    simp only [opQ] at hq
    obtain ⟨a, ha, hq⟩ := evl_some hq
    obtain ⟨b, hb, hq⟩ := evl_some hq
    obtain ⟨u, hu, hq⟩ := bind_some' hq
    cases hq
    obtain ⟨v', g1, g2⟩ := indexAddr_sound (w := w) hu (henv x (by simp [Op.operands]) a ha) (henv i (by simp [Op.operands]) b hb)
    exact QNext.same g1 g2
  | index it x i =>
    simp only [opQ] at hq
    obtain ⟨a, ha, hq⟩ := evl_some hq
    obtain ⟨b, hb, hq⟩ := evl_some hq
    obtain ⟨u, hu, hq⟩ := bind_some' hq
    cases hq
    obtain ⟨v', g1, g2⟩ := index_sound (w := w) hu (henv x (by simp [Op.operands]) a ha) (henv i (by simp [Op.operands]) b hb)
    exact QNext.same g1 g2
  | lookup lt x k ok =>
    simp only [opQ] at hq
    obtain ⟨a, ha, hq⟩ := evl_some hq
    obtain ⟨b, hb, hq⟩ := evl_some hq
    obtain ⟨u, hu, hq⟩ := bind_some' hq
    cases hq
    obtain ⟨v', g1, g2⟩ := look_sound hz hS hsub hu (henv x (by simp [Op.operands]) a ha) (henv k (by simp [Op.operands]) b hb)
    exact QNext.same g1 g2
  | extract x i =>
    simp only [opQ] at hq
    obtain ⟨u, hu, hq⟩ := evl_some hq
    have hx := henv x (by simp [Op.operands]) u hu
    split at hq
    · obtain ⟨u2, hp, hq⟩ := bind_some' hq
      cases hq
      obtain ⟨ys, e, hl⟩ := hx.of_tuple
      obtain ⟨y, hy, hv⟩ := hl.some (by simpa using hp : _ = some _)
      refine QNext.same (v' := y) ?_ hv
      have : ys[i]? = some y := by simpa using hy
      simp [Instr.extract, e, this]
    · cases hq
  | call c =>
    obtain ⟨callee, args, argTypes⟩ := c
    cases callee with
    | builtin b =>
      simp only [opQ] at hq
      obtain ⟨vs, hvs, hq⟩ := bind_some' hq
      obtain ⟨u, hu, hq⟩ := bind_some' hq
      cases hq
      have hl := evlL_LR (N := N) (φ := φ) (ρ := ρ) (fun x hx => henv x (by simp [Op.operands, Call.operands]; simpa using hx)) hvs
      obtain ⟨g1, g2⟩ := builtin_sound (ty := ty0) (cs := args.map fun | .const _ => true | _ => false) (vs' := args.map ρ) hS hsub hu (by simpa using hl)
      refine ⟨v, w, ?_, rfl, .flat g2⟩
      simp only [execOp, resolve, Sem.run_bind, Sem.run_pure, Result.andThen_ok, invoke]
      exact g1
    | _ => simp only [opQ] at hq; cases hq
  | _ => simp only [opQ] at hq; cases hq
end
end V
end Go.Proofs.Ytepbdkfkfcckoaa
