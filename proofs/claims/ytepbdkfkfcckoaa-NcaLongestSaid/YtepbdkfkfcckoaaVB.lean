/- The machine of VA held against the model's: which of its values and blocks stand for which; small lemmas.
   No condition. -/
import Derived.Test.YtepbdkfkfcckoaaVA
import Derived.Laws.CopyRow
import Derived.Laws.IdiomStrings
import Derived.Laws.StructEq
import Derived.Laws.MakeOwn
set_option linter.unusedVariables false
set_option linter.unusedSimpArgs false
namespace Go.Proofs.Ytepbdkfkfcckoaa
namespace V

/-- Of each block's number: the model's block, its first cell there, how many cells there are from it on. -/
abbrev Phi := Nat → Option (Nat × Nat × Nat)

inductive VR (N : Nat) (φ : Phi) : Value → Value → Prop where
  | flat {v : Value} (h : flat v = true) : VR N φ v v
  | ptrRo {a : Addr} (h : a.spot = none) (hb : a.block < N) : VR N φ (.pointer (some a)) (.pointer (some a))
  | ptrOwn {a : Addr} {z B o r : Nat} (h : φ a.block = some (B, o, r)) (hs : a.spot = some z) : VR N φ (.pointer (some a)) (.pointer (some ⟨B, o + a.off, none⟩))
  | sliceRo {a : Addr} {l c : Nat} (h : a.spot = none) (hb : a.block < N) : VR N φ (.slice (some a) l c) (.slice (some a) l c)
  | sliceOwn {a : Addr} {z B o r l c c' : Nat} (h : φ a.block = some (B, o, r)) (hs : a.spot = some z) (hc : c ≤ c') (hr : a.off + c' * z ≤ r) :
      VR N φ (.slice (some a) l c) (.slice (some ⟨B, o + a.off, none⟩) l c')
  | sliceEnd {a : Addr} {z B o r b : Nat} (h : φ a.block = some (B, o, r)) (hs : a.spot = some z) : VR N φ (.slice (some a) 0 0) (.slice (some ⟨B, b, none⟩) 0 0)
  | sliceNo {a a' : Addr} (h : a.spot = none) : VR N φ (.slice (some a) 0 0) (.slice (some a') 0 0)
  | map {k B : Nat} (h : φ k = some (B, 0, 0)) : VR N φ (.map (some k)) (.map (some B))
  | agg {xs ys : Array Value} (hl : xs.size = ys.size) (h : ∀ (i : Nat) (x y : Value), xs[i]? = some x → ys[i]? = some y → VR N φ x y) : VR N φ (.agg xs) (.agg ys)
  | tuple {xs ys : Array Value} (hl : xs.size = ys.size) (h : ∀ (i : Nat) (x y : Value), xs[i]? = some x → ys[i]? = some y → VR N φ x y) : VR N φ (.tuple xs) (.tuple ys)
  | func {f : FuncId} {a b a' b' : Array Value} (hl : a.size = a'.size) (h : ∀ (i : Nat) (x y : Value), a[i]? = some x → a'[i]? = some y → VR N φ x y)
      (hk : b.size = b'.size) (g : ∀ (i : Nat) (x y : Value), b[i]? = some x → b'[i]? = some y → VR N φ x y) : VR N φ (.func (.func f) a b) (.func (.func f) a' b')

/-- Lists of values, one by one. -/
inductive LR (N : Nat) (φ : Phi) : List Value → List Value → Prop where
  | nil : LR N φ [] []
  | cons {x y : Value} {xs ys : List Value} (h : VR N φ x y) (t : LR N φ xs ys) : LR N φ (x :: xs) (y :: ys)

section
variable {N : Nat} {φ : Phi}
theorem LR.length {xs ys : List Value} (h : LR N φ xs ys) : xs.length = ys.length := by
  induction h with
  | nil => rfl
  | cons _ _ ih => simp [ih]
theorem LR.get {xs ys : List Value} (h : LR N φ xs ys) : ∀ (i : Nat) (x y : Value), xs[i]? = some x → ys[i]? = some y → VR N φ x y := by
  induction h with
  | nil => intro i x y hx; simp at hx
  | cons hv _ ih =>
    intro i x y hx hy
    cases i with
    | zero => simp at hx hy; subst hx hy; exact hv
    | succ i => exact ih i x y (by simpa using hx) (by simpa using hy)
theorem LR.of : ∀ {xs ys : List Value}, xs.length = ys.length → (∀ (i : Nat) (x y : Value), xs[i]? = some x → ys[i]? = some y → VR N φ x y) → LR N φ xs ys
  | [], [], _, _ => .nil
  | [], _ :: _, h, _ => by simp at h
  | _ :: _, [], h, _ => by simp at h
  | x :: xs, y :: ys, hl, h => .cons (h 0 x y rfl rfl) (LR.of (by simpa using hl) fun i a b ha hb => h (i + 1) a b (by simpa using ha) (by simpa using hb))
theorem LR.some {xs ys : List Value} (h : LR N φ xs ys) {i : Nat} {x : Value} (hx : xs[i]? = some x) : ∃ y, ys[i]? = some y ∧ VR N φ x y := by
  have hl := h.length
  have hi : i < ys.length := by rw [← hl]; exact (List.getElem?_eq_some_iff.1 hx).1
  exact ⟨ys[i], List.getElem?_eq_getElem hi, h.get i x _ hx (List.getElem?_eq_getElem hi)⟩
theorem LR.append {xs ys zs ws : List Value} (h : LR N φ xs ys) (g : LR N φ zs ws) : LR N φ (xs ++ zs) (ys ++ ws) := by
  induction h with
  | nil => exact g
  | cons hv _ ih => exact .cons hv ih
theorem LR.take {xs ys : List Value} (h : LR N φ xs ys) : ∀ n, LR N φ (xs.take n) (ys.take n) := by
  induction h with
  | nil => intro n; simp; exact .nil
  | cons hv _ ih => intro n; cases n with
    | zero => exact .nil
    | succ n => exact .cons hv (ih n)
theorem LR.drop {xs ys : List Value} (h : LR N φ xs ys) : ∀ n, LR N φ (xs.drop n) (ys.drop n) := by
  induction h with
  | nil => intro n; simp; exact .nil
  | cons hv t ih => intro n; cases n with
    | zero => exact .cons hv t
    | succ n => exact ih n
theorem LR.flat {xs : List Value} (h : ∀ x ∈ xs, V.flat x = true) : LR N φ xs xs := by
  induction xs with
  | nil => exact .nil
  | cons x xs ih => exact .cons (.flat (h x (by simp))) (ih fun y hy => h y (by simp [hy]))
theorem VR.aggL {xs ys : Array Value} (h : LR N φ xs.toList ys.toList) : VR N φ (.agg xs) (.agg ys) :=
  .agg (by simpa using h.length) fun i x y hx hy => h.get i x y (by simpa using hx) (by simpa using hy)
theorem VR.tupleL {xs ys : Array Value} (h : LR N φ xs.toList ys.toList) : VR N φ (.tuple xs) (.tuple ys) :=
  .tuple (by simpa using h.length) fun i x y hx hy => h.get i x y (by simpa using hx) (by simpa using hy)
theorem VR.undef : VR N φ undef undef := .tuple rfl fun i x y hx _ => by simp at hx
theorem VR.of_agg {xs : Array Value} {v : Value} (h : VR N φ (.agg xs) v) : ∃ ys, v = .agg ys ∧ LR N φ xs.toList ys.toList := by
  cases h with
  | flat h => simp [V.flat] at h
  | agg hl h => exact ⟨_, rfl, LR.of (by simpa using hl) fun i x y hx hy => h i x y (by simpa using hx) (by simpa using hy)⟩
theorem VR.of_tuple {xs : Array Value} {v : Value} (h : VR N φ (.tuple xs) v) : ∃ ys, v = .tuple ys ∧ LR N φ xs.toList ys.toList := by
  cases h with
  | flat h => simp [V.flat] at h
  | tuple hl h => exact ⟨_, rfl, LR.of (by simpa using hl) fun i x y hx hy => h i x y (by simpa using hx) (by simpa using hy)⟩
theorem VR.of_flat {x v : Value} (h : VR N φ x v) (hf : V.flat x = true) : v = x := by
  cases h <;> first | rfl | simp [V.flat] at hf
theorem VR.of_int {k : IntKind} {n : Int} {v : Value} (h : VR N φ (.int k n) v) : v = .int k n := h.of_flat rfl
theorem VR.of_bool {b : Bool} {v : Value} (h : VR N φ (.bool b) v) : v = .bool b := h.of_flat rfl
theorem VR.of_string {s : ByteArray} {v : Value} (h : VR N φ (.string s) v) : v = .string s := h.of_flat rfl
theorem VR.of_nilPtr {v : Value} (h : VR N φ (.pointer none) v) : v = .pointer none := h.of_flat rfl
theorem VR.of_nilSlice {l c : Nat} {v : Value} (h : VR N φ (.slice none l c) v) : v = .slice none l c := h.of_flat rfl
theorem VR.of_nilMap {v : Value} (h : VR N φ (.map none) v) : v = .map none := h.of_flat rfl
theorem VR.of_map {k : Nat} {v : Value} (h : VR N φ (.map (some k)) v) : ∃ B, v = .map (some B) ∧ φ k = some (B, 0, 0) := by
  cases h with
  | flat h => simp [V.flat] at h
  | map h => exact ⟨_, rfl, h⟩
theorem VR.of_func {f : FuncId} {a b : Array Value} {v : Value} (h : VR N φ (.func (.func f) a b) v) : ∃ a' b', v = .func (.func f) a' b' ∧ LR N φ a.toList a'.toList ∧ LR N φ b.toList b'.toList := by
  cases h with
  | flat h => simp [V.flat] at h
  | func hl h hk g =>
    exact ⟨_, _, rfl, LR.of (by simpa using hl) fun i x y hx hy => h i x y (by simpa using hx) (by simpa using hy),
      LR.of (by simpa using hk) fun i x y hx hy => g i x y (by simpa using hx) (by simpa using hy)⟩
/-- Where a pointer leads. -/
def AR (N : Nat) (φ : Phi) (a b : Addr) : Prop := (a.spot = none ∧ a.block < N ∧ b = a) ∨ ∃ z B o r, a.spot = some z ∧ φ a.block = some (B, o, r) ∧ b = ⟨B, o + a.off, none⟩
theorem VR.of_ptr {a : Addr} {v : Value} (h : VR N φ (.pointer (some a)) v) : ∃ b, v = .pointer (some b) ∧ AR N φ a b := by
  cases h with
  | flat h => simp [V.flat] at h
  | ptrRo h hb => exact ⟨_, rfl, .inl ⟨h, hb, rfl⟩⟩
  | ptrOwn h hs => exact ⟨_, rfl, .inr ⟨_, _, _, _, hs, h, rfl⟩⟩
theorem AR.ptr {a b : Addr} (h : AR N φ a b) : VR N φ (.pointer (some a)) (.pointer (some b)) := by
  rcases h with ⟨h1, h2, rfl⟩ | ⟨z, B, o, r, h1, h2, rfl⟩
  · exact .ptrRo h1 h2
  · exact .ptrOwn h2 h1
theorem AR.spot {a b : Addr} (h : AR N φ a b) : b.spot = none := by
  rcases h with ⟨h1, h2, rfl⟩ | ⟨z, B, o, r, h1, h2, rfl⟩
  · exact h1
  · rfl
theorem AR.fwd {a b : Addr} (h : AR N φ a b) (n : Nat) : AR N φ (fwd a n) (b.add n) := by
  rcases h with ⟨h1, h2, rfl⟩ | ⟨z, B, o, r, h1, h2, rfl⟩
  · refine .inl ⟨h1, h2, ?_⟩
    unfold Addr.add V.fwd
    split
    · rename_i h; subst h; rfl
    · rw [h1]
  · refine .inr ⟨z, B, o, r, h1, h2, ?_⟩
    unfold Addr.add V.fwd
    split
    · rename_i h; subst h; rfl
    · simp [Nat.add_assoc]
/-- Phi's that say more. -/
def Phi.le (φ ψ : Phi) : Prop := ∀ k p, φ k = some p → ψ k = some p
theorem Phi.le_refl (φ : Phi) : Phi.le φ φ := fun _ _ h => h
theorem Phi.le_trans {φ ψ χ : Phi} (h : Phi.le φ ψ) (g : Phi.le ψ χ) : Phi.le φ χ := fun k p e => g k p (h k p e)
theorem VR.mono {ψ : Phi} (hl : Phi.le φ ψ) {x y : Value} (h : VR N φ x y) : VR N ψ x y := by
  induction h with
  | flat h => exact .flat h
  | ptrRo h hb => exact .ptrRo h hb
  | ptrOwn h hs => exact .ptrOwn (hl _ _ h) hs
  | sliceRo h hb => exact .sliceRo h hb
  | sliceOwn h hs hc hr => exact .sliceOwn (hl _ _ h) hs hc hr
  | sliceEnd h hs => exact .sliceEnd (hl _ _ h) hs
  | sliceNo h => exact .sliceNo h
  | map h => exact .map (hl _ _ h)
  | agg hs _ ih => exact .agg hs ih
  | tuple hs _ ih => exact .tuple hs ih
  | func hs _ hk _ ih ih2 => exact .func hs ih hk ih2
theorem LR.mono {ψ : Phi} (hl : Phi.le φ ψ) {xs ys : List Value} (h : LR N φ xs ys) : LR N ψ xs ys := by
  induction h with
  | nil => exact .nil
  | cons hv _ ih => exact .cons (hv.mono hl) ih
theorem VR.cells {x y : Value} (h : VR N φ x y) : LR N φ x.cells.toList y.cells.toList := by
  cases h with
  | flat hf =>
    have : x.cells = #[x] := by cases x <;> first | rfl | simp [V.flat] at hf
    rw [this]; exact .cons (.flat hf) .nil
  | ptrRo h hb => exact .cons (.ptrRo h hb) .nil
  | ptrOwn h hs => exact .cons (.ptrOwn h hs) .nil
  | sliceRo h hb => exact .cons (.sliceRo h hb) .nil
  | sliceOwn h hs hc hr => exact .cons (.sliceOwn h hs hc hr) .nil
  | sliceEnd h hs => exact .cons (.sliceEnd h hs) .nil
  | sliceNo h => exact .cons (.sliceNo h) .nil
  | map h => exact .cons (.map h) .nil
  | agg hl h => exact LR.of (by simpa [Value.cells] using hl) fun i x y hx hy => h i x y (by simpa [Value.cells] using hx) (by simpa [Value.cells] using hy)
  | tuple hl h => exact .cons (.tuple hl h) .nil
  | func hl h hk g => exact .cons (.func hl h hk g) .nil
theorem VR.oneCell {x y : Value} (h : VR N φ x y) (hc : cellOk x = true) : y.oneCell' = true := by
  cases h <;> first | rfl | (rename_i hf; cases x <;> first | rfl | simp [V.flat] at hf) | simp [cellOk] at hc
/-- What a slice leads to, in both. -/
inductive SR (N : Nat) (φ : Phi) (a : Addr) (c : Nat) : Addr → Nat → Prop where
  | ro (h : a.spot = none) (hb : a.block < N) : SR N φ a c a c
  | own {z B o r c' : Nat} (h : φ a.block = some (B, o, r)) (hs : a.spot = some z) (hc : c ≤ c') (hr : a.off + c' * z ≤ r) : SR N φ a c ⟨B, o + a.off, none⟩ c'
theorem VR.of_slice {a : Addr} {l c : Nat} {v : Value} (h : VR N φ (.slice (some a) l c) v) :
    ∃ b c', v = .slice (some b) l c' ∧ (SR N φ a c b c' ∨ (l = 0 ∧ c = 0 ∧ c' = 0 ∧ (a.spot = none ∨ ∃ z B o r, a.spot = some z ∧ φ a.block = some (B, o, r) ∧ b.spot = none ∧ b.block = B))) := by
  cases h with
  | flat h => simp [V.flat] at h
  | sliceRo h hb => exact ⟨_, _, rfl, .inl (.ro h hb)⟩
  | sliceOwn h hs hc hr => exact ⟨_, _, rfl, .inl (.own h hs hc hr)⟩
  | sliceEnd h hs => exact ⟨_, _, rfl, .inr ⟨rfl, rfl, rfl, .inr ⟨_, _, _, _, hs, h, rfl, rfl⟩⟩⟩
  | sliceNo h => exact ⟨_, _, rfl, .inr ⟨rfl, rfl, rfl, .inl h⟩⟩
end
end V
end Go.Proofs.Ytepbdkfkfcckoaa
