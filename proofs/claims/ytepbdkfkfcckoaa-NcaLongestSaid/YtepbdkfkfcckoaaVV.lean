/- The machine of VA held against the model's: regions that draw their order, whatever order is drawn.
   No condition. -/
import Derived.Test.YtepbdkfkfcckoaaVU
set_option linter.unusedVariables false
set_option linter.unusedSimpArgs false
namespace Go.Proofs.Ytepbdkfkfcckoaa
namespace V
section
variable {P : Program} {ro : Ro}
/-! ### What a quiet operation hangs on -/
theorem evlL_congr {t t' : T Value} : ∀ {xs : List Operand}, (∀ x ∈ xs, evl t' x = evl t x) → evlL t' xs = evlL t xs := by
  intro xs
  induction xs with
  | nil => intro _; rfl
  | cons x xs ih => intro h; simp only [evlL]; rw [h x (by simp), ih (fun y hy => h y (by simp [hy]))]
theorem evlP_congr {t t' : T Value} : ∀ {xs : List (Nat × Operand)}, (∀ x ∈ xs.map (·.2), evl t' x = evl t x) → evlP t' xs = evlP t xs := by
  intro xs
  induction xs with
  | nil => intro _; rfl
  | cons x xs ih => intro h; simp only [evlP]; rw [h x.2 (by simp), ih (fun y hy => h y (by simp at hy ⊢; exact .inr hy))]
theorem evlO_congr {t t' : T Value} {o : Option Operand} (h : ∀ x ∈ o.toArray, evl t' x = evl t x) : evlO t' o = evlO t o := by
  cases o with
  | none => rfl
  | some x => simp only [evlO]; rw [h x (by simp)]
theorem opQ_tmps {t t' : T Value} {h : T Obj} {aid : Nat} {op : Op} (he : ∀ x ∈ op.operands, evl t' x = evl t x) : opQ P ro t' h aid op = opQ P ro t h aid op := by
  cases op with
  | move x | assign x | box _ x | load _ x | nilCheck x | unOp _ _ x | convert _ _ x | fieldAddr _ x _ | field _ x _ | extract x _ => simp only [opQ]; rw [he x (by simp [Op.operands])]
  | pick c a b => simp only [opQ]; rw [he c (by simp [Op.operands]), he a (by simp [Op.operands]), he b (by simp [Op.operands])]
  | binOp _ _ x y _ | indexAddr _ x y | index _ x y | lookup _ x y _ | makeSlice _ x y => simp only [opQ]; rw [he x (by simp [Op.operands]), he y (by simp [Op.operands])]
  | build _ ps | buildSlice _ _ ps => simp only [opQ]; rw [evlP_congr (fun x hx => he x (by simpa [Op.operands] using hx))]
  | makeFunc fn a b =>
    cases fn <;> simp only [opQ]
    rw [evlL_congr (fun x hx => he x (by simp [Op.operands]; exact .inl (by simpa using hx))), evlL_congr (fun x hx => he x (by simp [Op.operands]; exact .inr (by simpa using hx)))]
  | makeMap _ r => cases r <;> rfl
  | slice _ x lo hi mx =>
    simp only [opQ]
    rw [he x (by simp [Op.operands]), evlO_congr (fun y hy => he y (by simp [Op.operands]; exact .inr (.inl (by simpa using hy)))), evlO_congr (fun y hy => he y (by simp [Op.operands]; exact .inr (.inr (.inl (by simpa using hy))))),
      evlO_congr (fun y hy => he y (by simp [Op.operands]; exact .inr (.inr (.inr (by simpa using hy)))))]
  | call c =>
    obtain ⟨callee, args, ts⟩ := c
    cases callee <;> simp only [opQ]
    rw [evlL_congr (fun x hx => he x (by simp [Op.operands, Call.operands]; simpa using hx))]
  | _ => rfl
theorem cellsAt_congr {h h' : T Obj} {a : Addr} (hb : a.spot.isSome = true → h'.get a.block = h.get a.block) (n : Nat) : cellsAt ro h' a n = cellsAt ro h a n := by
  unfold cellsAt
  cases hs : a.spot with
  | none => rfl
  | some z => rw [hs] at hb; simp only; rw [hb rfl]
theorem mapAt_congr {h h' : T Obj} {r : Option Nat} (hb : ∀ b, r = some b → h'.get b = h.get b) : mapAt h' r = mapAt h r := by
  cases r with
  | none => rfl
  | some r => simp only [mapAt, entriesAt]; rw [hb r rfl]
theorem lookV_congr {h h' : T Obj} {ty : TypeId} {x k : Value} {ok : Bool} (hb : ∀ b, blk x = some b → h'.get b = h.get b) : lookV P h' ty x k ok = lookV P h ty x k ok := by
  unfold lookV
  split
  · rename_i r _
    rw [mapAt_congr (fun b e => hb b (by simp [blk, e]))]
  · rfl
theorem convV_congr {h h' : T Obj} {aid : Nat} {sx dx : TypeId} {x : Value} (hb : ∀ b, blk x = some b → h'.get b = h.get b) : convV P ro h' aid sx dx x = convV P ro h aid sx dx x := by
  unfold convV
  split <;> try rfl
  rename_i e a l c _ _
  split <;> try rfl
  rename_i a _
  rw [cellsAt_congr (fun hs => hb _ (by
    obtain ⟨z, hz⟩ := Option.isSome_iff_exists.1 hs
    simp only [blk, hz]))]
theorem builtinQ_congr {h h' : T Obj} {b : Builtin} {ts : Array TypeId} {vs : List Value} (hb : ∀ v r, vs = [v] → blk v = some r → h'.get r = h.get r) : builtinQ P h' b ts vs = builtinQ P h b ts vs := by
  unfold builtinQ
  split <;> try rfl
  rename_i x
  have hl : ∀ ty, lenV P h' ty x = lenV P h ty x := by
    intro ty
    unfold lenV
    split <;> try rfl
    simp only [entriesAt]
    rw [hb _ _ rfl rfl]
  cases ts[0]? with
  | none => rfl
  | some ty => exact hl ty
theorem opQ_heap {t : T Value} {h h' : T Obj} {aid : Nat} {op : Op} (hb : ∀ b, rdB P t op = some b → h'.get b = h.get b) : opQ P ro t h' aid op = opQ P ro t h aid op := by
  cases op with
  | load ty x =>
    simp only [opQ]
    cases hx : evl t x with
    | none => rfl
    | some v =>
      simp only [Option.bind]
      split
      · rename_i a
        have : ∀ n, cellsAt ro h' a n = cellsAt ro h a n := cellsAt_congr (fun hs => hb _ (by
          obtain ⟨z, hz⟩ := Option.isSome_iff_exists.1 hs
          simp only [rdB, rdVal, hx, Option.bind, blk, hz]))
        simp only [loadV, this]
      · rfl
  | lookup ty x k ok =>
    simp only [opQ]
    cases hx : evl t x with
    | none => rfl
    | some v =>
      have : ∀ k, lookV P h' ty v k ok = lookV P h ty v k ok := fun k => lookV_congr (fun b e => hb b (by simp only [rdB, rdVal, hx, Option.bind, e]))
      simp only [Option.bind, this]
  | convert sx dx x =>
    simp only [opQ]
    cases hx : evl t x with
    | none => rfl
    | some v =>
      simp only [Option.bind]
      unfold convV
      split <;> try rfl
      rename_i e a l c hu _
      split <;> try rfl
      rename_i a _
      rw [cellsAt_congr (fun hs => hb _ (by
        obtain ⟨z, hz⟩ := Option.isSome_iff_exists.1 hs
        simp only [rdB, rdVal, hu, hx, Option.bind, blk, hz]))]
  | call c =>
    obtain ⟨callee, args, ts⟩ := c
    cases callee with
    | builtin b =>
      simp only [opQ]
      cases hx : evlL t args.toList with
      | none => rfl
      | some vs =>
        simp only [Option.bind]
        have : builtinQ P h' b ts vs = builtinQ P h b ts vs := by
          unfold builtinQ
          split <;> try rfl
          rename_i x
          cases hty : ts[0]? with
          | none => rfl
          | some ty =>
            simp only [Option.bind]
            unfold lenV
            split <;> try rfl
            rename_i r hu
            simp only [entriesAt]
            rw [hb r (by simp only [rdB, rdVal, hty, Option.bind, hu, hx, blk])]
        rw [this]
    | _ => rfl
  | makeFunc fn a b => cases fn <;> rfl
  | makeMap mt r => cases r <;> rfl
  | _ => rfl
theorem blk_phi {N : Nat} {φ : Phi} {v v' : Value} {b : Nat} (hb : blk v = some b) (hv : VR N φ v v') : φ b ≠ none := by
  cases hv with
  | flat h =>
    exfalso
    cases v <;> try (cases hb; done)
    case pointer a => cases a <;> first | (cases hb; done) | (cases h; done)
    case slice a l c => cases a <;> first | (cases hb; done) | (cases h; done)
    case map r => cases r <;> first | (cases hb; done) | (cases h; done)
  | ptrRo h _ => simp [blk, h] at hb
  | ptrOwn h hs => simp [blk, hs] at hb; subst hb; rw [h]; simp
  | sliceRo h _ => simp [blk, h] at hb
  | sliceOwn h hs _ _ => simp [blk, hs] at hb; subst hb; rw [h]; simp
  | sliceEnd h hs => simp [blk, hs] at hb; subst hb; rw [h]; simp
  | sliceNo h => simp [blk, h] at hb
  | map h => simp [blk] at hb; subst hb; rw [h]; simp
  | _ => simp [blk] at hb
theorem rdB_phi {N : Nat} {φ : Phi} {t : T Value} {op : Op} {b : Nat} {ρ : Operand → Value} (h : rdB P t op = some b) (henv : ∀ x ∈ op.operands, ∀ v, evl t x = some v → VR N φ v (ρ x)) : φ b ≠ none := by
  obtain ⟨v, h1, h2⟩ := bind_some' h
  cases op with
  | load ty x => exact blk_phi h2 (henv x (by simp [Op.operands]) _ h1)
  | lookup ty x k ok => exact blk_phi h2 (henv x (by simp [Op.operands]) _ h1)
  | convert sx dx x =>
    simp only [rdVal] at h1
    split at h1
    · exact blk_phi h2 (henv x (by simp [Op.operands]) _ h1)
    · cases h1
  | call c =>
    obtain ⟨callee, args, ts⟩ := c
    cases callee with
    | builtin bi =>
      simp only [rdVal] at h1
      split at h1
      · split at h1
        · rename_i v' hx
          cases h1
          have hl := evlL_LR (N := N) (φ := φ) (ρ := ρ) (fun x hx => henv x (by simp [Op.operands, Call.operands]; simpa using hx)) hx
          cases hm : args.toList.map ρ with
          | nil => rw [hm] at hl; cases hl
          | cons y ys => rw [hm] at hl; cases hl with
            | cons h1 _ => exact blk_phi h2 h1
        · cases h1
      · cases h1
    | _ => cases h1
  | _ => cases h1
theorem none_ob {x : Option Value} {v : Value} {o : Obj} {f : Value → Value} (h : (x.bind fun u => some (f u, (none : Option Obj))) = some (v, some o)) : False := by
  cases x <;> cases h
theorem opQ_makes {t : T Value} {h : T Obj} {aid : Nat} {op : Op} {v : Value} {o : Obj} (hq : opQ P ro t h aid op = some (v, some o)) : makes P op = true := by
  have key : ∀ (x : Option (Value × Option Obj)), x = some (v, some o) → (∀ r, x = some r → r.2 = none) → False := by
    intro x h1 h2
    have := h2 _ h1; cases this
  cases op with
  | alloc | box | buildSlice | makeSlice | makeMap => rfl
  | convert sx dx x =>
    simp only [opQ] at hq
    obtain ⟨u, _, hq⟩ := bind_some' hq
    unfold convV at hq
    split at hq
    · cases hq
    · cases hq
    · rename_i hu _
      simp only [makes, hu]
    · split at hq
      · cases hq
      · obtain ⟨u, _, hq⟩ := bind_some' hq; obtain ⟨u, _, hq⟩ := bind_some' hq; cases hq
      · cases hq
    · cases hq
  | move x | assign x => simp only [opQ] at hq; obtain ⟨u, _, hq⟩ := bind_some' hq; cases hq
  | pick c a b =>
    simp only [opQ] at hq
    obtain ⟨u, _, hq⟩ := bind_some' hq
    split at hq
    · obtain ⟨u, _, hq⟩ := bind_some' hq; cases hq
    · obtain ⟨u, _, hq⟩ := bind_some' hq; cases hq
    · cases hq
  | build bt ps => simp only [opQ] at hq; obtain ⟨u, _, hq⟩ := bind_some' hq; obtain ⟨u, _, hq⟩ := bind_some' hq; cases hq
  | load lt x =>
    simp only [opQ] at hq
    obtain ⟨u, _, hq⟩ := bind_some' hq
    split at hq
    · obtain ⟨u, _, hq⟩ := bind_some' hq; cases hq
    · cases hq
  | nilCheck x =>
    simp only [opQ] at hq
    obtain ⟨u, _, hq⟩ := bind_some' hq
    split at hq <;> cases hq
  | binOp op bt x y yt => simp only [opQ] at hq; obtain ⟨u, _, hq⟩ := bind_some' hq; obtain ⟨u, _, hq⟩ := bind_some' hq; obtain ⟨u, _, hq⟩ := bind_some' hq; cases hq
  | unOp op bt x => simp only [opQ] at hq; obtain ⟨u, _, hq⟩ := bind_some' hq; obtain ⟨u, _, hq⟩ := bind_some' hq; cases hq
  | makeFunc fn a b =>
    cases fn <;> simp only [opQ] at hq <;> try (cases hq; done)
    obtain ⟨u, _, hq⟩ := bind_some' hq; obtain ⟨u, _, hq⟩ := bind_some' hq; cases hq
  | slice st x lo hi mx =>
    simp only [opQ] at hq
    obtain ⟨u, _, hq⟩ := bind_some' hq; obtain ⟨u, _, hq⟩ := bind_some' hq; obtain ⟨u, _, hq⟩ := bind_some' hq; obtain ⟨u, _, hq⟩ := bind_some' hq; obtain ⟨u, _, hq⟩ := bind_some' hq
    cases hq
  | fieldAddr st x f =>
    simp only [opQ] at hq
    obtain ⟨u, _, hq⟩ := bind_some' hq
    split at hq
    · obtain ⟨u, _, hq⟩ := bind_some' hq
      obtain ⟨u, _, hq⟩ := bind_some' hq
      split at hq <;> cases hq
    · cases hq
  | field ft x f =>
    simp only [opQ] at hq
    obtain ⟨u, _, hq⟩ := bind_some' hq
    split at hq
    · obtain ⟨u, _, hq⟩ := bind_some' hq; obtain ⟨u, _, hq⟩ := bind_some' hq; cases hq
    · cases hq
  | indexAddr it x i => simp only [opQ] at hq; obtain ⟨u, _, hq⟩ := bind_some' hq; obtain ⟨u, _, hq⟩ := bind_some' hq; obtain ⟨u, _, hq⟩ := bind_some' hq; cases hq
  | index it x i => simp only [opQ] at hq; obtain ⟨u, _, hq⟩ := bind_some' hq; obtain ⟨u, _, hq⟩ := bind_some' hq; obtain ⟨u, _, hq⟩ := bind_some' hq; cases hq
  | lookup lt x k ok => simp only [opQ] at hq; obtain ⟨u, _, hq⟩ := bind_some' hq; obtain ⟨u, _, hq⟩ := bind_some' hq; obtain ⟨u, _, hq⟩ := bind_some' hq; cases hq
  | extract x i =>
    simp only [opQ] at hq
    obtain ⟨u, _, hq⟩ := bind_some' hq
    split at hq
    · obtain ⟨u, _, hq⟩ := bind_some' hq; cases hq
    · cases hq
  | call c =>
    obtain ⟨callee, args, ts⟩ := c
    cases callee <;> simp only [opQ] at hq <;> try (cases hq; done)
    obtain ⟨u, _, hq⟩ := bind_some' hq; obtain ⟨u, _, hq⟩ := bind_some' hq; cases hq
  | _ => simp only [opQ] at hq; cases hq
end
end V
end Go.Proofs.Ytepbdkfkfcckoaa
