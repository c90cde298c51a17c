/- What the functions on sets of bytes hand back.
   No condition. -/
import Derived.Test.YtmmdcdjkmakgpaaV3
import Derived.Test.YtmmdcdjkmakgpaaG
import Derived.Test.YtmmdcdjkmakgpaaPA
set_option linter.unusedVariables false
set_option linter.unusedSimpArgs false
namespace Go.Proofs.Ytmmdcdjkmakgpaa
namespace V
open PA
def setL (m : Nat) : List Value := [.int .u64 (word m 0), .int .u64 (word m 1), .int .u64 (word m 2), .int .u64 (word m 3)]
def setV (m : Nat) : Value := .agg #[.int .u64 (word m 0), .int .u64 (word m 1), .int .u64 (word m 2), .int .u64 (word m 3)]
theorem setV_cells (m : Nat) : Value.cells (setV m) = (setL m).toArray := rfl
theorem setL_get {m i : Nat} (hi : i < 4) : (setL m)[i]? = some (.int .u64 (word m i)) := by
  match i, hi with
  | 0, _ => rfl
  | 1, _ => rfl
  | 2, _ => rfl
  | 3, _ => rfl
theorem zer_Set : zer Try.prog y_api_Set = some (setV 0) := by kernel_rfl
theorem cast_le {q : Nat} (h : q < 18446744073709551616) : (q : Int) ≤ 18446744073709551615 := by omega
theorem bset_Has_c {ro : Ro} {m b : Nat} (hb : b < 256) {h : T Obj} {nx : Nat} {K : KV} (hf : Fr h nx) (hK : ∀ nx', nx ≤ nx' → K (.bool (m.testBit b)) h nx') : callP Try.prog ro i_bset_Has [setV m, .int .u8 b] h nx K := by
  apply bset_Has_of
  unfold bset_Has
  have h1 : ((b:Int) / 64).toNat = b / 64 := by omega
  have h2 : ((b:Int) % 64).toNat = b % 64 := by omega
  have h3 := word_lt m (b / 64)
  have h4 : b / 64 < 4 := by omega
  have h5 := setL_get (m := m) h4
  have h6 : word m (b / 64) / 2 ^ (b % 64) ≤ word m (b / 64) := Nat.div_le_self _ _
  have h7 : ((word m (b / 64) / 2 ^ (b % 64) : Nat) : Int) ≤ 18446744073709551615 := cast_le (Nat.lt_of_le_of_lt h6 h3)
  simp (disch := first | omega | exact Int.natCast_nonneg _ | assumption) only [newP_eq, setV_cells, bindP_some', intB_quo, intB_rem, intB_shr_u64, intB_eql, intB_and64, wr_u8, wr_u64, ptr_at, ixArr_at, load1_own, T.get_upd_same, cellsIn_some, Option.bind, h1, h2, Nat.zero_add, Nat.mul_one, h5]
  refine ⟨h, (Sub.refl h).new hf (Nat.le_refl _), ?_⟩
  have e : (decide (((Nat.land ((word m (b / 64) / 2 ^ (b % 64) : Nat) : Int).toNat (1 : Int).toNat : Nat) : Int) = 1)) = m.testBit b := by
    have h9 := word_has m b
    have h8 : Nat.land (word m (b / 64) / 2 ^ (b % 64)) 1 = word m (b / 64) / 2 ^ (b % 64) % 2 := Nat.and_one_is_mod _
    rw [Int.toNat_natCast, show (1 : Int).toNat = 1 from rfl, h8]
    cases hm : m.testBit b with
    | true => rw [hm] at h9; have := h9.2 rfl; rw [this]; rfl
    | false =>
      rw [hm] at h9
      have : ¬ (word m (b / 64) / 2 ^ (b % 64) % 2 = 1) := fun e => by have := h9.1 e; cases this
      apply decide_eq_false; omega
  rw [e]
  exact hK _ (by omega)
theorem ref01_Has_c {ro : Ro} {m b : Nat} (hb : b < 256) {h : T Obj} {nx : Nat} {K : KV} (hf : Fr h nx) (hK : ∀ nx', nx ≤ nx' → K (.bool (m.testBit b)) h nx') : callP Try.prog ro i_ref01_Has [setV m, .int .u8 b] h nx K := by
  apply ref01_Has_of
  unfold ref01_Has
  have h1 : ((b:Int) / 64).toNat = b / 64 := by omega
  have h2 : ((b:Int) % 64).toNat = b % 64 := by omega
  have h3 := word_lt m (b / 64)
  have h4 : b / 64 < 4 := by omega
  have h5 := setL_get (m := m) h4
  have h6 : word m (b / 64) / 2 ^ (b % 64) ≤ word m (b / 64) := Nat.div_le_self _ _
  have h7 : ((word m (b / 64) / 2 ^ (b % 64) : Nat) : Int) ≤ 18446744073709551615 := cast_le (Nat.lt_of_le_of_lt h6 h3)
  simp (disch := first | omega | exact Int.natCast_nonneg _ | assumption) only [newP_eq, setV_cells, bindP_some', intB_quo, intB_rem, intB_shr_u64, intB_eql, wr_u8, wr_u64, ptr_at, ixArr_at, load1_own, T.get_upd_same, cellsIn_some, Option.bind, h1, h2, Nat.zero_add, Nat.mul_one, h5]
  refine ⟨h, (Sub.refl h).new hf (Nat.le_refl _), ?_⟩
  have e : (decide ((((word m (b / 64) / 2 ^ (b % 64) : Nat) : Int) % 2) = 1)) = m.testBit b := by
    have h9 := word_has m b
    cases hm : m.testBit b with
    | true => rw [hm] at h9; have := h9.2 rfl; apply decide_eq_true; omega
    | false =>
      rw [hm] at h9
      have : ¬ (word m (b / 64) / 2 ^ (b % 64) % 2 = 1) := fun e => by have := h9.1 e; cases this
      apply decide_eq_false; omega
  rw [e]
  exact hK _ (by omega)
end V
end Go.Proofs.Ytmmdcdjkmakgpaa
