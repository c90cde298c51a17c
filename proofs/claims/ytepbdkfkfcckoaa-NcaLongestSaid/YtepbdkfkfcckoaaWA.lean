/- From the machine of VA to a law's row: what came in as the machine reads it; a call of the machine that hands back true is a call that keeps the row.
   No condition. -/
import Derived.Test.YtepbdkfkfcckoaaVZ
import Derived.Carry
import Derived.ProofKit
import Derived.SizedLaws
import Derived.JoinedCond
set_option linter.unusedVariables false
set_option linter.unusedSimpArgs false
namespace Go.Proofs.Ytepbdkfkfcckoaa
namespace V
open Go.RowKit
/-! ### What came in, as the machine reads it -/
def noAddr : Addr := ⟨0, 0, none⟩
/-- A cell's value as the machine reads it: slices of no length lead nowhere. -/
def norm (N : Nat) : Value → Option Value
  | .slice (some a) 0 0 => some (.slice (some noAddr) 0 0)
  | .slice (some a) l c => match a.spot, Nat.blt a.block N with
    | none, true => some (.slice (some a) l c)
    | _, _ => none
  | .pointer (some a) => match a.spot, Nat.blt a.block N with
    | none, true => some (.pointer (some a))
    | _, _ => none
  | v => match flat v with
    | true => some v
    | false => none
theorem norm_vr {N : Nat} {φ : Phi} {v v' : Value} (h : norm N v = some v') : VR N φ v' v := by
  unfold norm at h
  split at h
  · cases h; exact .sliceNo rfl
  · split at h
    · rename_i h1 h2
      cases h; exact .sliceRo h1 (by have := h2; simp [Nat.blt] at this; omega)
    · cases h
  · split at h
    · rename_i h1 h2
      cases h; exact .ptrRo h1 (by have := h2; simp [Nat.blt] at this; omega)
    · cases h
  · split at h
    · rename_i hf; cases h; exact .flat hf
    · cases h
/-- Memory that came in. -/
def roOf (W : World) : Ro := fun a => match a.spot, Nat.blt a.block W.heap.size with
  | none, true => (W.cell? a).bind (norm W.heap.size)
  | _, _ => none
theorem roOf_sim (W : World) : Sim (roOf W) W.heap.size (fun _ => none) W (T.e : T Obj).get W where
  n := rfl
  le := Nat.le_refl _
  old := fun _ _ => rfl
  dom := fun k B o r h => by cases h
  inj := fun k k' B o r B' o' r' h => by rw [T.get_e] at h; exact absurd rfl h
  own := fun k o h => by rw [T.get_e] at h; cases h
  ro := fun a v h => by
    unfold roOf at h
    split at h
    · rename_i h1 h2
      obtain ⟨v', h3, h4⟩ := bind_some' h
      exact ⟨h1, by have := h2; simp [Nat.blt] at this; omega, v', h3, norm_vr h4⟩
    · cases h
/-- An argument as the machine has it. -/
def normL (N : Nat) : List Value → Option (List Value)
  | [] => some []
  | v :: l => (norm N v).bind fun v => (normL N l).bind fun l => some (v :: l)
inductive Arg (N : Nat) : Value → Value → Prop where
  | one {v v' : Value} (h : norm N v = some v') : Arg N v' v
  | agg {cs : Array Value} {l : List Value} (h : normL N cs.toList = some l) : Arg N (.agg l.toArray) (.agg cs)
theorem normL_lr {N : Nat} {φ : Phi} : ∀ {l l' : List Value}, normL N l = some l' → LR N φ l' l
  | [], l', h => by cases h; exact .nil
  | v :: l, l', h => by
    obtain ⟨v', h1, h⟩ := bind_some' h
    obtain ⟨r, h2, h⟩ := bind_some' h
    cases h
    exact .cons (norm_vr h1) (normL_lr h2)
theorem Arg.vr {N : Nat} {φ : Phi} {v v' : Value} (h : Arg N v v') : VR N φ v v' := by
  cases h with
  | one h => exact norm_vr h
  | agg h => exact .agg (by have := (normL_lr (φ := φ) h).length; simpa using this) fun i x y hx hy => (normL_lr h).get i x y (by simpa using hx) (by simpa using hy)
inductive Args (N : Nat) : List Value → List Value → Prop where
  | nil : Args N [] []
  | cons {v v' : Value} {l l' : List Value} (h : Arg N v v') (t : Args N l l') : Args N (v :: l) (v' :: l')
theorem Args.lr {N : Nat} {φ : Phi} {l l' : List Value} (h : Args N l l') : LR N φ l l' := by
  induction h with
  | nil => exact .nil
  | cons h _ ih => exact .cons h.vr ih
/-- A law's call: the machine hands back true. -/
def Says (P : Program) (W : World) (f : FuncId) (vs : List Value) : Prop := callP P (roOf W) f vs .e 0 fun v _ _ => v = .bool true
theorem says_calls {P : Program} (hz : zerosOk P = true) (hn : namesOk P = true) (hm : P.follows .mixedOrders = true) {W : World} {f : FuncId} {vs : List Value} {args : Array Value}
    (ha : Args W.heap.size vs args.toList) (h : Says P W f vs) : Calls P f args W fun e W' => e = .returned (.bool true) ∧ Below W.heap.size W W' := by
  obtain ⟨k, v, h', nx', hc, rfl⟩ := h
  have hs : SS (roOf W) W.heap.size W (fun _ => none) .e 0 W := ⟨roOf_sim W, fun _ _ => rfl⟩
  refine ((call_sound (ro := roOf W) (N := W.heap.size) (w0 := W) hz hn hm _ _ _ _ _ _ _ hc).2 _ W args hs ha.lr).mono fun e W' ⟨v', φ', he, hst, hv⟩ => ?_
  subst he
  refine ⟨by rw [hv.of_flat rfl], ⟨hst.os, hst.tape, hst.output, hst.size, fun b hb => hst.frame b hb fun k B o r hk _ => absurd (T.get_e k) hk⟩⟩
/-! ### The row -/
section
open Go.ChangeShapes Go.WideShapes Go.ChangeAt
variable {H : Type} {enc : TypeId × Value → H} {P : Program}
theorem trodAll_below {W W' : World} (hl : laidOutB P = true) (hb : Below W.heap.size W W') : ∀ (ts : List TypeId) (vs : List Value) (ds : List (DataW H)) (ps : List MemPlace),
    (∀ t ∈ ts, P.readableRec t = true ∧ t < P.types.size) → (∀ x ∈ ps, x.block < W.heap.size) →
    DataW.TrodAll enc P W 0 (fun _ => true) true ts vs ds ps → DataW.TrodAll enc P W' 0 (fun b => decide (b < W.heap.size)) true ts vs ds ps := by
  intro ts
  induction ts with
  | nil =>
    intro vs ds ps _ _ h
    cases vs with
    | nil => cases ds with
      | nil => exact h
      | cons _ _ => exact h.elim
    | cons _ _ => exact h.elim
  | cons t ts ih =>
    intro vs ds ps hr hp h
    cases vs with
    | nil => exact h.elim
    | cons v vs =>
      cases ds with
      | nil => exact h.elim
      | cons d ds =>
        obtain ⟨p, q, h1, h2, rfl⟩ := h
        exact ⟨p, q, Below.trod hl (hr t (by simp)).1 (hr t (by simp)).2 h1 hb (fun x hx => hp x (by simp [hx])), ih _ _ _ (fun t ht => hr t (by simp [ht])) (fun x hx => hp x (by simp [hx])) h2, rfl⟩
/-- A law's row: true, and what was handed in reads as it did. -/
theorem law_post {fn : Func} {s : ChangeSpec} {tb : TypeId} {W W' : World} {args : Array Value} {ds gs : List (DataW H)} {before : List MemPlace}
    (hl : laidOutB P = true) (hrow0 : (fn.params.toList.all fun t => P.readableRec t && decide (t < P.types.size)) = true) (hres : fn.resultTypes = #[tb]) (htb : P.underlying tb = some .bool) (hvars : s.vars = [])
    (hW : DataW.Whole enc P fn.params.toList s.vars false W args.toList ds gs before) (hb : Below W.heap.size W W')
    (hfn : s.fn H (ds ++ gs) = { results := [.lit (.bool true)], args := ds, vars := [] }) :
    s.post enc P fn false true false false W args (.bool true) W' := by
  have hrow : ∀ t ∈ fn.params.toList, P.readableRec t = true ∧ t < P.types.size := fun t ht => by
    have := List.all_eq_true.1 hrow0 t ht
    simpa using this
  have hW' := hW
  obtain ⟨p, q, hA, hV, rfl, hfz, hnd⟩ := hW
  refine ⟨ds, gs, p ++ q, [], p, [], hW', ?_, ?_, ?_, hb.frame _, fun h => by cases h⟩
  · rw [hfn, hres]
    exact trodAll_mk1 (shut_bool htb _)
  · rw [hfn]
    exact trodAll_below hl hb _ _ _ _ hrow (fun x hx => by have := hW'.lt x (by simp [hx]); simpa using this) hA
  · rw [hfn, hvars]; exact rfl
end
end V
end Go.Proofs.Ytepbdkfkfcckoaa
