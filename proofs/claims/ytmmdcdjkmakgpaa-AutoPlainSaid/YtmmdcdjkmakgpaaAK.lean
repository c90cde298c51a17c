/- Automata, as the machine reads them.
   No condition. -/
import Derived.Test.YtmmdcdjkmakgpaaAJ
set_option linter.unusedVariables false
set_option linter.unusedSimpArgs false
namespace Go.Proofs.Ytmmdcdjkmakgpaa
namespace V
attribute [local irreducible] bindP ifP condP newP optP exP beqP
structure MoveD where
  to : Int
  ops : List Nat
structure StateD where
  l : List Int
  r : List Int
  rule : List Int
  next : List (List MoveD)
structure AutoD where
  c : List Nat
  many : Int
  counts : List (Int × Int)
  states : List StateD
def noS : StateD := ⟨[], [], [], []⟩
/-! ### What may be so -/
def opOk (R : List Int) (o : Nat) (r : Int) : Bool := decide (1 ≤ o) && (decide (o ≤ 3) && (decide (o = 3) || R.contains r))
def opsOk (R : List Int) : List Nat → List Int → Bool
  | o :: os, r :: rs => opOk R o r && opsOk R os rs
  | _, _ => true
def moveOk (S : List StateD) (R : List Int) (m : MoveD) : Bool :=
  if m.to = -1 then decide (m.ops.length = 0) else decide (1 ≤ m.to) && (decide (m.to < S.length) && (decide (m.ops.length = (S.getD m.to.toNat noS).r.length) && opsOk R m.ops (S.getD m.to.toNat noS).r))
/-! ### How it is read -/
def maxB : Nat := 9223372036854775807
def RU8 (x : List Value) (d : Nat) : Prop := x = [.int .u8 (d : Int)] ∧ d < 256
def RMove (ro : Ro) (h : T Obj) (x : List Value) (d : MoveD) : Prop := ∃ ov, x = [.int .i64 d.to, ov] ∧ SlR ro h ov 1 RU8 d.ops ∧ d.ops.length ≤ maxB
def RRow (ro : Ro) (h : T Obj) (x : List Value) (d : List MoveD) : Prop := ∃ w, x = [w] ∧ SlR ro h w 2 (RMove ro h) d ∧ d.length ≤ maxB
def RState (ro : Ro) (h : T Obj) (x : List Value) (d : StateD) : Prop := ∃ lv rv uv nv, x = [lv, rv, uv, nv] ∧ ZI ro h lv d.l ∧ ZI ro h rv d.r ∧ ZI ro h uv d.rule ∧ SlR ro h nv 1 (RRow ro h) d.next ∧ d.r.length ≤ maxB
def RCount (x : List Value) (d : Int × Int) : Prop := x = [.int .i64 d.1, .int .i64 d.2]
theorem RMove.sub {ro : Ro} {h h' : T Obj} (hs : Sub h h') : ∀ x d, RMove ro h x d → RMove ro h' x d := fun x d ⟨ov, h1, h2, h3⟩ => ⟨ov, h1, h2.sub hs fun _ _ h => h, h3⟩
theorem RRow.sub {ro : Ro} {h h' : T Obj} (hs : Sub h h') : ∀ x d, RRow ro h x d → RRow ro h' x d := fun x d ⟨ov, h1, h2, h3⟩ => ⟨ov, h1, h2.sub hs (RMove.sub hs), h3⟩
theorem RState.sub {ro : Ro} {h h' : T Obj} (hs : Sub h h') : ∀ x d, RState ro h x d → RState ro h' x d := fun x d ⟨lv, rv, uv, nv, h1, h2, h3, h4, h5, h6⟩ => ⟨lv, rv, uv, nv, h1, h2.sub hs, h3.sub hs, h4.sub hs, h5.sub hs (RRow.sub hs), h6⟩
def autL (c : List Nat) (n : Int) (cv sv : Value) : List Value := splitLI c n ++ [cv, sv]
section
variable {c : List Nat} {n : Int} {cv sv : Value}
theorem autL_len (hc : c.length = 256) : (autL c n cv sv).length = 259 := by simp [autL, splitLI_len hc]
theorem autL_many (hc : c.length = 256) : (autL c n cv sv)[256]? = some (.int .i64 n) := by
  unfold autL
  rw [List.getElem?_append_left (by rw [splitLI_len hc]; omega)]
  exact splitLI_many hc
theorem autL_counts (hc : c.length = 256) : (autL c n cv sv)[257]? = some cv := by
  unfold autL
  rw [List.getElem?_append_right (by rw [splitLI_len hc]; omega), splitLI_len hc]; rfl
theorem autL_states (hc : c.length = 256) : (autL c n cv sv)[258]? = some sv := by
  unfold autL
  rw [List.getElem?_append_right (by rw [splitLI_len hc]; omega), splitLI_len hc]; rfl
theorem autL_ok (h1 : cellOk cv = true) (h2 : cellOk sv = true) : (autL c n cv sv).all cellOk = true := by
  unfold autL
  rw [List.all_append, splitLI_ok, Bool.true_and]
  simp [h1, h2]
theorem loadS {ro : Ro} {h : T Obj} {id z : Nat} {e : TypeId} {f : Nat × Nat} (hg : h.get id = some (.cells (autL c n cv sv).toArray e f)) (hc : c.length = 256) : loadA ro h 257 (at_ id 0 z) = some (splitI c n) := by
  rw [loadA_own, hg, cellsIn_some]
  simp only [Option.bind_some, tl]
  rw [if_pos (by rw [autL_len hc]; omega), List.drop_zero]
  unfold autL
  rw [List.take_append_of_le_length (by rw [splitLI_len hc]; omega), List.take_of_length_le (by rw [splitLI_len hc]; omega)]
  rfl
end
/-- An automaton's cells. -/
def RAuto (ro : Ro) (h : T Obj) (x : List Value) (d : AutoD) : Prop := ∃ cv sv, x = autL d.c d.many cv sv ∧ d.c.length = 256 ∧ (∀ x ∈ d.c, x < 256) ∧ SlR ro h cv 2 RCount d.counts ∧ SlR ro h sv 4 (RState ro h) d.states ∧ d.counts.length ≤ maxB ∧ d.states.length ≤ maxB
theorem opsOk_cons (R : List Int) (o : Nat) (os : List Nat) (r : Int) (rs : List Int) : opsOk R (o :: os) (r :: rs) = (opOk R o r && opsOk R os rs) := rfl
theorem opsOk_nil (R : List Int) (rs : List Int) : opsOk R [] rs = true := by cases rs <;> rfl
end V
end Go.Proofs.Ytmmdcdjkmakgpaa
