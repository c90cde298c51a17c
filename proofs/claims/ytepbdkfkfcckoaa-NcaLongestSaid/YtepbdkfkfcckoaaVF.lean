/- The machine of VA held against the model's: operations on values.
   No condition. -/
import Derived.Test.YtepbdkfkfcckoaaVE
set_option linter.unusedVariables false
set_option linter.unusedSimpArgs false
namespace Go.Proofs.Ytepbdkfkfcckoaa
namespace V

theorem wr_eq (k : IntKind) (n : Int) : wr k n = k.wrap n := by
  unfold wr
  cases k <;> try rfl
  · by_cases h1 : -9223372036854775808 ≤ n <;> by_cases h2 : n ≤ 9223372036854775807 <;> simp [h1, h2]
    rw [IntKind.wrap_i64]; omega
  · by_cases h1 : 0 ≤ n <;> by_cases h2 : n ≤ 255 <;> simp [h1, h2]
    rw [IntKind.wrap_u8]; omega
  · by_cases h1 : 0 ≤ n <;> by_cases h2 : n ≤ 18446744073709551615 <;> simp [h1, h2]
    rw [IntKind.wrap_u64]; omega
section
variable {P : Program} {w : World}
theorem guard_ok (op : BinOp) (t : TypeId) (x y : Operand) (a b : Value) (h : ∀ xs ys, a = .agg xs → b = .agg ys → P.eqGuardType P.depth t = false) (hn : a ≠ .nilIface) :
    (eqGuard op t x y a b).run P w = .ok () w := by
  unfold eqGuard
  cases op <;> simp
  all_goals
    cases a <;> cases b <;> simp at hn ⊢
    all_goals (rw [h _ _ rfl rfl]; simp)
theorem toNat_lt64 {x : Int} (h0 : 0 ≤ x) (h1 : x ≤ 18446744073709551615) : (BitVec.ofInt 64 x).toNat = x.toNat := by
  rw [BitVec.toNat_ofInt]
  norm_cast
  omega
theorem bits_run {op : BinOp} {k : IntKind} {x y n : Int} (h : bitsV op k x y = some n) : (Op.intBits op k x y).run P w = .ok (.int k n) w := by
  by_cases h64 : k = .u64 ∧ 0 ≤ x ∧ 0 ≤ y ∧ x ≤ 18446744073709551615 ∧ y ≤ 18446744073709551615
  · obtain ⟨rfl, h0, h1, h2, h3⟩ := h64
    have ex := toNat_lt64 h0 h2
    have ey := toNat_lt64 h1 h3
    have bx : (BitVec.ofInt 64 x).toNat < 2 ^ 64 := (BitVec.ofInt 64 x).isLt
    cases op <;> simp [bitsV, h0, h1, h2, h3] at h <;> subst h <;> unfold Op.intBits <;> simp only [Sem.run_pure] <;> congr 2
    · show IntKind.u64.wrap ((BitVec.ofInt 64 x &&& BitVec.ofInt 64 y).toNat : Int) = _
      have lt := (BitVec.ofInt 64 x &&& BitVec.ofInt 64 y).isLt
      rw [IntKind.wrap_u64, Int.emod_eq_of_lt (by omega) (by omega), BitVec.toNat_and, ex, ey]
    · show IntKind.u64.wrap ((BitVec.ofInt 64 x ||| BitVec.ofInt 64 y).toNat : Int) = _
      have lt := (BitVec.ofInt 64 x ||| BitVec.ofInt 64 y).isLt
      rw [IntKind.wrap_u64, Int.emod_eq_of_lt (by omega) (by omega), BitVec.toNat_or, ex, ey]
    · show IntKind.u64.wrap ((BitVec.ofInt 64 x ^^^ BitVec.ofInt 64 y).toNat : Int) = _
      have lt := (BitVec.ofInt 64 x ^^^ BitVec.ofInt 64 y).isLt
      rw [IntKind.wrap_u64, Int.emod_eq_of_lt (by omega) (by omega), BitVec.toNat_xor, ex, ey]
  · have : bitsV op k x y = (match op with
      | .and => some (k.wrap (BitVec.ofInt k.bits x &&& BitVec.ofInt k.bits y).toNat)
      | .or => some (k.wrap (BitVec.ofInt k.bits x ||| BitVec.ofInt k.bits y).toNat)
      | .xor => some (k.wrap (BitVec.ofInt k.bits x ^^^ BitVec.ofInt k.bits y).toNat)
      | _ => none) := by
      by_cases h0 : 0 ≤ x <;> by_cases h1 : 0 ≤ y <;> by_cases h2 : x ≤ 18446744073709551615 <;> by_cases h3 : y ≤ 18446744073709551615 <;> cases k <;> cases op <;> simp [bitsV, h0, h1, h2, h3] <;> (exfalso; apply h64; exact ⟨rfl, h0, h1, h2, h3⟩)
    rw [this] at h
    cases op <;> simp at h <;> subst h <;> rfl
theorem bits_int {op : BinOp} {k : IntKind} {x y : Int} {v : Value} (h : ((bitsV op k x y).bind fun n => some (Value.int k n)) = some v) : (Op.intBits op k x y).run P w = .ok v w ∧ flat v = true := by
  cases hb : bitsV op k x y with
  | none => rw [hb] at h; cases h
  | some n => rw [hb] at h; cases h; exact ⟨bits_run hb, rfl⟩
theorem int_run {op : BinOp} {k : IntKind} {x y : Int} {v : Value} (t : TypeId) (h : intV op k x y = some v) (hs : op ≠ .shl ∧ op ≠ .shr) : (binOp op t (.int k x) (.int k y)).run P w = .ok v w ∧ flat v = true := by
  cases op
  case and => have := bits_int (P := P) (w := w) (op := .and) h; simpa [binOp] using this
  case or => have := bits_int (P := P) (w := w) (op := .or) h; simpa [binOp] using this
  case xor => have := bits_int (P := P) (w := w) (op := .xor) h; simpa [binOp] using this
  case quo =>
    by_cases hy : y = 0 <;> simp [intV, hy] at h
    subst h
    refine ⟨?_, rfl⟩
    simp [binOp, Op.intDiv, hy, wr_eq]
  case rem =>
    by_cases hy : y = 0 <;> simp [intV, hy] at h
    subst h
    refine ⟨?_, rfl⟩
    simp [binOp, Op.intDiv, hy]
  case add | sub | mul =>
    simp [intV] at h
    subst h
    refine ⟨?_, rfl⟩
    simp [binOp, Op.intArith, wr_eq]
  case eql | neq | lss | leq | gtr | geq =>
    simp [intV] at h
    subst h
    refine ⟨?_, rfl⟩
    simp [binOp, Op.intCmp]
    try rfl
  all_goals first | (simp [intV] at h; done) | simp at hs
theorem shift_run {op : BinOp} {k k' : IntKind} {x y : Int} {v : Value} (t : TypeId) (h : shiftV op k x y = some v) : (op = .shl ∨ op = .shr) ∧ (binOp op t (.int k x) (.int k' y)).run P w = .ok v w ∧ flat v = true := by
  unfold shiftV at h
  by_cases hy : 0 ≤ y
  · have hy' : ¬ y < 0 := by omega
    cases op <;> simp [hy] at h <;> subst h
    · refine ⟨.inl rfl, ?_, rfl⟩
      simp [binOp, Op.shift, hy', wr_eq]
    · refine ⟨.inr rfl, ?_, rfl⟩
      simp [binOp, Op.shift, hy']
  · cases op <;> simp [hy] at h
theorem str_run {op : BinOp} {x y : ByteArray} {v : Value} (t : TypeId) (h : strV op x y = some v) : (binOp op t (.string x) (.string y)).run P w = .ok v w ∧ flat v = true := by
  unfold strV at h
  cases op <;> simp at h <;> (try (cases h; done))
  case add =>
    by_cases hs : ((x.size : Int) + (y.size : Int)) ≤ 9223372036854775807 <;> simp [hs] at h
    subst h
    have : ¬ (9223372036854775807 < (x.size : Int) + (y.size : Int)) := by omega
    refine ⟨?_, rfl⟩
    simp [binOp, Op.stringOp, this]
  all_goals
    subst h
    refine ⟨?_, rfl⟩
    simp [binOp, Op.stringOp, ByteArray.toList_eq]
end
end V
end Go.Proofs.Ytepbdkfkfcckoaa
