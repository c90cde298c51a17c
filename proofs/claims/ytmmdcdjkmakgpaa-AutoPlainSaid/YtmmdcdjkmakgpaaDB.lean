/- CB, CC, CD: texts of layer 2, for a seat of more.
   No condition. -/
import Derived.Test.YtmmdcdjkmakgpaaAA
import Derived.Test.YtmmdcdjkmakgpaaW1
import Derived.Test.YtmmdcdjkmakgpaaPB
import Derived.Test.YtmmdcdjkmakgpaaCA
set_option linter.unusedVariables false
set_option linter.unusedSimpArgs false
namespace Go.Proofs.Ytmmdcdjkmakgpaa
set_option maxRecDepth 20000
namespace V
open PA
theorem setL_len (m : Nat) : (setL m).length = 4 := rfl
theorem setL_ok (m : Nat) : (setL m).all cellOk = true := rfl
theorem setL_dt (m : Nat) : List.take 4 (List.drop 0 (setL m)) = setL m := rfl
theorem zer_Set_mk {K : Value → Prop} (k : K (setV 0)) : bindP (zer Try.prog y_api_Set) K := by rw [zer_Set]; exact k
theorem over_set (m n : Nat) : over (setL m) 0 (setL n) = setL n := rfl
theorem setV_size (m : Nat) : (setV m).cells.size = 4 := rfl
theorem entE_0 (a : Value) (l : List Value) : entE (a :: l) 0 = a := rfl
theorem setV_def (m : Nat) : Value.agg (setL m).toArray = setV m := rfl
theorem setL_set {m b : Nat} (hb : b < 256) : (setL m).set (b / 64) (.int .u64 ((word m (b / 64) ||| 2 ^ (b % 64) : Nat) : Int)) = setL (m ||| 2 ^ b) := by
  have h0 := word_or m b 0
  have h1 := word_or m b 1
  have h2 := word_or m b 2
  have h3 := word_or m b 3
  have hq : b / 64 = 0 ∨ b / 64 = 1 ∨ b / 64 = 2 ∨ b / 64 = 3 := by omega
  unfold setL
  rcases hq with hq | hq | hq | hq <;> rw [hq] at h0 h1 h2 h3 ⊢ <;> simp at h0 h1 h2 h3 <;> simp [h0, h1, h2, h3]
theorem ref01_with_end {ro : Ro} {m w : Nat} {e : Env} {h h0 : T Obj} {id nx nx0 : Nat} {K : KV} (h2 : e 2 = at_ id 0 0) (h4 : e 4 = at_ (id + 1) 0 0) (g1 : h.get id = some (.cells (setL m).toArray y_api_Set)) (g2 : h.get (id + 1) = some (.cells (setL w).toArray y_api_Set))
    (hf : Fr h0 nx0) (hs : Sub h0 h) (hid : nx0 ≤ id) (hK : K (setV m) h0 (nx + 2)) : ref01_with_j1 ro K e h nx := by
  unfold ref01_with_j1
  (repeat (first | refine bindP_mk (by simp (disch := first | omega | exact Int.natCast_nonneg _ | assumption) only [BB, B2, ↓reduceIte, Nat.reduceLeDiff, Nat.reduceAdd, intB_eql, intB_neq, intB_lss, intB_leq, intB_gtr, intB_geq, setV_cells, setL_len, setL_dt, setV_def, h2, h4, g1, g2, setV_size, setL_ok, over_set] <;> rfl) ?_ | refine newP_mk ?_ | refine optP_mk ?_ | with_reducible first | refine condP_t ?_ | refine condP_f ?_ | refine ifP_tt' ?_ | refine ifP_ff' ?_ | refine ifP_tf' ?_ | refine ifP_ft' ?_ | refine ifP_u' ?_ | refine optP_mk0 ?_))
  exact ⟨h0, hs.new hf (by omega), hK⟩
section
attribute [local irreducible] bindP ifP condP newP optP exP beqP
theorem ref01_with_c {ro : Ro} {m b : Nat} (hb : b < 256) {h : T Obj} {nx : Nat} {K : KV} (hf : Fr h nx) (hK : ∀ nx', nx ≤ nx' → K (setV (m ||| 2 ^ b)) h nx') : callP Try.prog ro i_ref01_with [setV m, .int .u8 b] h nx K := by
  apply ref01_with_of
  unfold ref01_with
  refine newP_mk (zer_Set_mk ?_)
  (repeat (first | refine bindP_mk (by simp (disch := first | omega | exact Int.natCast_nonneg _ | assumption) only [BB, B2, ↓reduceIte, Nat.reduceLeDiff, Nat.reduceAdd, intB_eql, intB_neq, intB_lss, intB_leq, intB_gtr, intB_geq, setV_cells, setL_len, setL_dt, setV_def] <;> rfl) ?_ | refine newP_mk ?_ | refine optP_mk ?_ | with_reducible first | refine condP_t ?_ | refine condP_f ?_ | refine ifP_tt' ?_ | refine ifP_ff' ?_ | refine ifP_tf' ?_ | refine ifP_ft' ?_ | refine ifP_u' ?_ | refine optP_mk0 ?_))
  refine ref01_Has_c hb ((hf.mono (Nat.le_add_right nx 5)).upd (n := nx + 5) (Nat.le_refl _) (by omega) |>.upd (Nat.le_refl _) (by omega)) fun n hn => ?_
  (repeat (first | refine bindP_mk (by simp (disch := first | omega | exact Int.natCast_nonneg _ | assumption) only [BB, B2, ↓reduceIte, Nat.reduceLeDiff, Nat.reduceAdd, intB_eql, intB_neq, intB_lss, intB_leq, intB_gtr, intB_geq] <;> rfl) ?_ | refine newP_mk ?_ | refine optP_mk ?_ | with_reducible first | refine condP_t ?_ | refine condP_f ?_ | refine ifP_tt' ?_ | refine ifP_ff' ?_ | refine ifP_tf' ?_ | refine ifP_ft' ?_ | refine ifP_u' ?_ | refine optP_mk0 ?_))
  have h1 : ((b:Int) / 64).toNat = b / 64 := by omega
  have h2 : ((b:Int) % 64).toNat = b % 64 := by omega
  have h3 := word_lt m (b / 64)
  have h4 : b / 64 < 4 := by omega
  have h5 := setL_get (m := m) h4
  cases hm : m.testBit b with
  | true =>
    simp only [Bool.not_true]
    (repeat (first | refine bindP_mk (by simp (disch := first | omega | exact Int.natCast_nonneg _ | assumption) only [BB, B2, ↓reduceIte, Nat.reduceLeDiff, Nat.reduceAdd, intB_eql, intB_neq, intB_lss, intB_leq, intB_gtr, intB_geq] <;> rfl) ?_ | refine newP_mk ?_ | refine optP_mk ?_ | with_reducible first | refine condP_t ?_ | refine condP_f ?_ | refine ifP_tt' ?_ | refine ifP_ff' ?_ | refine ifP_tf' ?_ | refine ifP_ft' ?_ | refine ifP_u' ?_ | refine optP_mk0 ?_))
    refine ref01_with_end (m := m) (w := 0) (id := nx) rfl rfl ?_ ?_ hf ?_ (Nat.le_refl _) ?_
    · simp (disch := first | omega | exact Int.natCast_nonneg _ | assumption) only [BB, B2, ↓reduceIte, Nat.reduceLeDiff, Nat.reduceAdd, intB_eql, intB_neq, intB_lss, intB_leq, intB_gtr, intB_geq, setV_cells]
    · simp (disch := first | omega | exact Int.natCast_nonneg _ | assumption) only [BB, B2, ↓reduceIte, Nat.reduceLeDiff, Nat.reduceAdd, intB_eql, intB_neq, intB_lss, intB_leq, intB_gtr, intB_geq, setV_cells]
    · exact ((Sub.refl h).new hf (Nat.le_refl _)).new hf (by omega)
    · have := hK (n + 1 + 2) (by omega)
      rw [or_pow_self hm] at this; exact this
  | false =>
    simp only [Bool.not_false]
    have h6 : (word m (b / 64)).testBit (b % 64) = false := by
      rw [testBit_word, Nat.div_add_mod, hm]; simp
    have h7 := add_pow h6
    have h8 : word m (b / 64) + 2 ^ (b % 64) < 18446744073709551616 := by
      rw [h7]; exact Nat.or_lt_two_pow (n := 64) h3 (Nat.pow_lt_pow_right (by decide) (by omega))
    have h9 : ((word m (b / 64) : Nat) : Int) + ((2 ^ (b % 64) : Nat) : Int) = ((word m (b / 64) ||| 2 ^ (b % 64) : Nat) : Int) := by rw [← h7]; exact (Int.natCast_add _ _).symm
    have h10 : ((word m (b / 64) ||| 2 ^ (b % 64) : Nat) : Int) ≤ 18446744073709551615 := cast_le (by rw [← h7]; exact h8)
    have h11 := over_one (.int .u64 ((word m (b / 64) ||| 2 ^ (b % 64) : Nat) : Int)) (l := setL m) (off := b / 64) (by rw [setL_len]; omega)
    (repeat (first | refine bindP_mk (by simp (disch := first | omega | exact Int.natCast_nonneg _ | assumption) only [BB, B2, ↓reduceIte, Nat.reduceLeDiff, Nat.reduceAdd, intB_eql, intB_neq, intB_lss, intB_leq, intB_gtr, intB_geq, setV_cells, h1, h2, h5, h9] <;> rfl) ?_ | refine newP_mk ?_ | refine optP_mk ?_ | with_reducible first | refine condP_t ?_ | refine condP_f ?_ | refine ifP_tt' ?_ | refine ifP_ff' ?_ | refine ifP_tf' ?_ | refine ifP_ft' ?_ | refine ifP_u' ?_ | refine optP_mk0 ?_))
    refine bindP_mk (store1_own (l := setL m) (by simp (disch := first | omega | exact Int.natCast_nonneg _ | assumption) only [BB, B2, ↓reduceIte, Nat.reduceLeDiff, Nat.reduceAdd, intB_eql, intB_neq, intB_lss, intB_leq, intB_gtr, intB_geq, setV_cells] <;> rfl) h4 rfl rfl) ?_
    rw [setL_set hb]
    refine ref01_with_end (m := m ||| 2 ^ b) (w := 0) (id := nx) rfl rfl ?_ ?_ hf ?_ (Nat.le_refl _) (hK _ (by omega))
    · simp (disch := first | omega | exact Int.natCast_nonneg _ | assumption) only [BB, B2, ↓reduceIte, Nat.reduceLeDiff, Nat.reduceAdd, intB_eql, intB_neq, intB_lss, intB_leq, intB_gtr, intB_geq, setV_cells]
    · simp (disch := first | omega | exact Int.natCast_nonneg _ | assumption) only [BB, B2, ↓reduceIte, Nat.reduceLeDiff, Nat.reduceAdd, intB_eql, intB_neq, intB_lss, intB_leq, intB_gtr, intB_geq, setV_cells]
    · exact (((Sub.refl h).new hf (Nat.le_refl _)).new hf (by omega)).new hf (Nat.le_refl _)
end
end V
end Go.Proofs.Ytmmdcdjkmakgpaa

set_option linter.unusedVariables false
set_option linter.unusedSimpArgs false
namespace Go.Proofs.Ytmmdcdjkmakgpaa
set_option maxRecDepth 20000
namespace V
open PA
def ofBytes (m : Nat) (l : List Nat) : Nat := l.foldl (fun m b => m ||| 2 ^ b) m
theorem pow_le_u64 {k : Nat} (hk : k < 64) : ((2 ^ k : Nat) : Int) ≤ 18446744073709551615 := cast_le (Nat.pow_lt_pow_right (show 1 < 2 by decide) hk)
def bytesC (l : List Nat) : List (List Value) := l.map fun b : Nat => [Value.int .u8 (b : Int)]
theorem bytesC_len (l : List Nat) : (bytesC l).length = l.length := by simp [bytesC]
theorem bytesC_get {l : List Nat} {i : Nat} (hi : i < l.length) : (bytesC l)[i]? = some [.int .u8 (l[i] : Nat)] := by simp [bytesC, hi]
theorem buildV_Set : buildV Try.prog y_api_Set [] = some (setV 0) := by kernel_rfl
theorem buildV_Set_mk {K : Value → Prop} (k : K (setV 0)) : bindP (buildV Try.prog y_api_Set []) K := by rw [buildV_Set]; exact k
theorem ofBytes_take {m : Nat} {l : List Nat} {i : Nat} (hi : i < l.length) : ofBytes m (l.take (i + 1)) = ofBytes m (l.take i) ||| 2 ^ l[i] := by
  rw [List.take_succ_eq_append_getElem hi, ofBytes, List.foldl_append]; rfl
theorem ref01_Of_c {ro : Ro} {v : Value} {l : List Nat} (hl : ∀ b ∈ l, b < 256) (hlen : l.length ≤ 1000000) {h : T Obj} {nx : Nat} {K : KV} (hf : Fr h nx) (hv : Sl ro h v 1 (bytesC l)) (hK : ∀ nx', nx ≤ nx' → K (setV (ofBytes 0 l)) h nx') : callP Try.prog ro i_ref01_Of [v] h nx K := by
  apply ref01_Of_of
  unfold ref01_Of
  refine zer_Set_mk (newP_mk (buildV_Set_mk (zer_Set_mk (newP_mk ?_))))
  refine bindP_mk (storeA_own (l := setL 0) (vs := setL 0) (by simp (disch := first | omega | exact Int.natCast_nonneg _ | assumption) only [BB, B2, ↓reduceIte, Nat.reduceLeDiff, Nat.reduceAdd, intB_eql, intB_neq, intB_lss, intB_leq, intB_gtr, intB_geq, setV_cells] <;> rfl) rfl rfl rfl rfl) ?_
  refine loopP_rule (fun n e h' nx' => ∃ i : Nat, i + n = l.length ∧ nx + 3 ≤ nx' ∧ e 0 = v ∧ e 2 = ptr nx ∧ e 3 = ptr (nx + 2) ∧ e 4 = .int .i64 i ∧ Sub h h' ∧ Fr h' nx' ∧
    h'.get nx = some (.cells (setL 0).toArray y_api_Set) ∧ h'.get (nx + 2) = some (.cells (setL (ofBytes 0 (l.take i))).toArray y_api_Set)) ?_ (n := l.length) ⟨0, by omega, by omega, rfl, rfl, rfl, rfl, ?_, ?_, ?_, ?_⟩
  · rintro n e h' nx' ⟨i, hin, hnx, e0, e2, e3, e4, hs, hf', g1, g2⟩ Q' hc hx
    unfold ref01_Of_L1
    rw [e0, e3, e4]
    have hlenv := (hv.sub hs).len
    rw [bytesC_len] at hlenv
    refine bindP_mk hlenv ?_
    (repeat (first | refine bindP_mk (by simp (disch := first | omega | exact Int.natCast_nonneg _ | assumption) only [BB, B2, ↓reduceIte, Nat.reduceLeDiff, Nat.reduceAdd, intB_eql, intB_neq, intB_lss, intB_leq, intB_gtr, intB_geq] <;> rfl) ?_ | refine newP_mk ?_ | refine optP_mk ?_ | with_reducible first | refine condP_t ?_ | refine condP_f ?_ | refine ifP_tt' ?_ | refine ifP_ff' ?_ | refine ifP_tf' ?_ | refine ifP_ft' ?_ | refine ifP_u' ?_ | refine optP_mk0 ?_))
    by_cases hi : i < l.length
    · refine condP_tr (by simp; omega) ?_
      refine bindP_mk (loadA_all g2 rfl) ?_
      refine bindP_mk ((hv.sub hs).ix _ (by rw [bytesC_len]; exact hi)) ?_
      refine bindP_mk ((hv.sub hs).load1 (bytesC_get hi)) ?_
      refine ref01_with_c (hl _ (List.getElem_mem hi)) (hf'.mono (by omega)) fun n1 hn1 => ?_
      refine bindP_mk (storeA_own (l := setL _) (vs := setL _) g2 rfl rfl rfl rfl) ?_
      (repeat (first | refine bindP_mk (by simp (disch := first | omega | exact Int.natCast_nonneg _ | assumption) only [BB, B2, ↓reduceIte, Nat.reduceLeDiff, Nat.reduceAdd, intB_eql, intB_neq, intB_lss, intB_leq, intB_gtr, intB_geq] <;> rfl) ?_ | refine newP_mk ?_ | refine optP_mk ?_ | with_reducible first | refine condP_t ?_ | refine condP_f ?_ | refine ifP_tt' ?_ | refine ifP_ff' ?_ | refine ifP_tf' ?_ | refine ifP_ft' ?_ | refine ifP_u' ?_ | refine optP_mk0 ?_))
      refine hc (n - 1) _ _ _ _ (by omega) ⟨i + 1, by omega, ?_, e0, e2, e3, rfl, hs.new hf (by omega), (hf'.mono (by omega)).upd (Nat.le_refl _) (by omega), ?_, ?_⟩ (Sub.refl _)
      · omega
      · simp (disch := first | omega | exact Int.natCast_nonneg _ | assumption) only [BB, B2, ↓reduceIte, Nat.reduceLeDiff, Nat.reduceAdd, intB_eql, intB_neq, intB_lss, intB_leq, intB_gtr, intB_geq, g1]
      · rw [T.get_upd_same, ofBytes_take hi]
    · refine condP_fa (by simp; omega) ?_
      refine hx _ _ _ _ (fun e => by cases e) ?_
      show exP _ _ _ _
      rw [exP_exit]
      show ref01_Of_j1 ro K _ _ _
      unfold ref01_Of_j1
      show bindP (loadA ro h' 4 (e 3)) _
      rw [e3]
      refine bindP_mk (loadA_all g2 rfl) ?_
      show bindP (storeN 4 h' (e 2) _) _
      rw [e2]
      refine bindP_mk (storeA_own (l := setL _) (vs := setL _) g1 rfl rfl rfl rfl) ?_
      show bindP (loadA ro _ 4 (e 2)) _
      rw [e2]
      refine bindP_mk (loadA_all (by rw [T.get_upd_same]) rfl) ?_
      refine ⟨h, hs.new hf (Nat.le_refl _), ?_⟩
      have : l.take i = l := List.take_of_length_le (by omega)
      rw [this]
      exact hK _ (by omega)
  · exact (((Sub.refl h).new hf (Nat.le_refl _)).new hf (by omega)).new hf (by omega)
  · exact ((hf.upd (m := nx + 5) (by omega) (by omega)).upd (Nat.le_refl _) (by omega)).upd (Nat.le_refl _) (by omega)
  · simp (disch := first | omega | exact Int.natCast_nonneg _ | assumption) only [BB, B2, ↓reduceIte, Nat.reduceLeDiff, Nat.reduceAdd, intB_eql, intB_neq, intB_lss, intB_leq, intB_gtr, intB_geq, setV_cells]
  · rw [T.get_upd_same]; rfl
end V
end Go.Proofs.Ytmmdcdjkmakgpaa

set_option linter.unusedVariables false
set_option linter.unusedSimpArgs false
namespace Go.Proofs.Ytmmdcdjkmakgpaa
set_option maxRecDepth 20000
namespace V
open PA
def splitL (c : List Nat) (m : Nat) : List Value := u8s c ++ [.int .i64 (m : Int)]
def splitV (c : List Nat) (m : Nat) : Value := .agg (splitL c m).toArray
theorem splitL_len {c : List Nat} {m : Nat} (hc : c.length = 256) : (splitL c m).length = 257 := by simp [splitL, u8s_len, hc]
theorem splitL_ok (c : List Nat) (m : Nat) : (splitL c m).all cellOk = true := by simp [splitL, u8s, cellOk]
theorem splitL_get {c : List Nat} {m i : Nat} (hi : i < c.length) : (splitL c m)[i]? = some (.int .u8 (c[i] : Nat)) := by
  unfold splitL
  rw [List.getElem?_append_left (by rw [u8s_len]; exact hi)]
  simp [u8s, hi]
theorem splitL_many {c : List Nat} {m : Nat} (hc : c.length = 256) : (splitL c m)[256]? = some (.int .i64 (m : Int)) := by
  unfold splitL
  rw [List.getElem?_append_right (by rw [u8s_len]; omega)]
  simp [u8s_len, hc]
theorem splitL_set {c : List Nat} {m i : Nat} (v : Nat) (hi : i < c.length) : (splitL c m).set i (.int .u8 (v : Int)) = splitL (c.set i v) m := by
  unfold splitL
  rw [List.set_append_left _ _ (by rw [u8s_len]; exact hi)]
  simp [u8s, List.map_set]
theorem splitL_setM {c : List Nat} {m : Nat} (v : Nat) (hc : c.length = 256) : (splitL c m).set 256 (.int .i64 (v : Int)) = splitL c v := by
  unfold splitL
  rw [List.set_append_right _ _ (by rw [u8s_len]; omega)]
  simp [u8s_len, hc]
theorem splitV_cells (c : List Nat) (m : Nat) : (splitV c m).cells = (splitL c m).toArray := rfl
theorem zer_Split : zer Try.prog y_api_Split = some (splitV (List.replicate 256 0) 0) := by kernel_rfl
theorem zer_Split_mk {K : Value → Prop} (k : K (splitV (List.replicate 256 0) 0)) : bindP (zer Try.prog y_api_Split) K := by rw [zer_Split]; exact k
theorem rep_len : (List.replicate 256 0 : List Nat).length = 256 := List.length_replicate
def pairL (p : Nat × Bool) : List Value := [.int .u8 (p.1 : Int), .bool p.2]
def pairV (p : Nat × Bool) : Value := .agg (pairL p).toArray
theorem buildV_pair (a b : Value) (ha : a.cells = #[a]) (hb : b.cells = #[b]) : buildV Try.prog y_split_pair [(0, a), (1, b)] = some (.agg #[a, b]) := by
  have h1 : zer Try.prog y_split_pair = some (.agg #[.int .u8 0, .bool false]) := by kernel_rfl
  have h2 : ((und Try.prog y_split_pair).bind fun d => match d with
    | .struct fs => placesV Try.prog fs.toList
    | _ => none) = some [(0, 1), (1, 1)] := by kernel_rfl
  obtain ⟨d, h2, h3⟩ := bind_some' h2
  cases d <;> try (cases h3; done)
  rename_i fs
  simp only at h3
  unfold buildV
  rw [h1]
  simp only [Option.bind, h2, h3]
  simp [fillV, ha, hb, over, Value.cells_agg]
theorem zer_pair_mk {K : Value → Prop} (k : K (pairV (0, false))) : bindP (zer Try.prog y_split_pair) K := by
  have : zer Try.prog y_split_pair = some (pairV (0, false)) := by kernel_rfl
  rw [this]; exact k
/-! ### The map of pairs -/
def ents : Nat → List (Nat × Bool) → List MapEntry
  | _, [] => []
  | k, p :: r => ({ key := pairV p, val := .int .u8 (k : Int), born := k } : MapEntry) :: ents (k + 1) r
theorem ents_append (k : Nat) (s : List (Nat × Bool)) (p : Nat × Bool) : ents k (s ++ [p]) = ents k s ++ [({ key := pairV p, val := .int .u8 ((k + s.length : Nat) : Int), born := k + s.length } : MapEntry)] := by
  induction s generalizing k with
  | nil => rfl
  | cons q s ih => simp only [List.cons_append, ents, ih, List.length_cons]; rw [show k + 1 + s.length = k + (s.length + 1) by omega]
theorem ents_length (k : Nat) (s : List (Nat × Bool)) : (ents k s).length = s.length := by
  induction s generalizing k with
  | nil => rfl
  | cons q s ih => simp [ents, ih]
theorem pair_eq (p q : Nat × Bool) : keyEq Try.prog y_split_pair (pairV p) (pairV q) = some (decide (p = q)) := by
  have h1 : isAgg Try.prog y_split_pair = some true := by kernel_rfl
  have h2 : plainTy Try.prog 20 y_split_pair = some [1, 0] := by kernel_rfl
  unfold keyEq pairV
  simp only [h1, h2, Option.bind]
  obtain ⟨a, b⟩ := p
  obtain ⟨c, d⟩ := q
  simp only [pairL, eqCells, eqCell, Option.bind]
  by_cases h : a = c <;> cases b <;> cases d <;> simp [h] <;> omega
theorem find_pair (p : Nat × Bool) : ∀ (s : List (Nat × Bool)) (k i : Nat), findV Try.prog y_split_pair (pairV p) (ents k s) i = some (if p ∈ s then some (i + pos s p, .int .u8 ((k + pos s p : Nat) : Int)) else none) := by
  intro s
  induction s with
  | nil => intro k i; simp [ents, findV]
  | cons q s ih =>
    intro k i
    simp only [ents, findV, pair_eq]
    by_cases h : p = q
    · subst h; simp [pos_self]
    · simp only [h, decide_false]
      rw [ih]
      have e : ¬ q = p := fun e => h e.symm
      by_cases hm : p ∈ s
      · rw [if_pos hm, if_pos (by simp [hm]), pos_ne e]; simp; omega
      · rw [if_neg hm, if_neg (by simp [hm, h])]
theorem und_map : ∃ et, und Try.prog y_map_split_pair_uint8 = some (.map y_split_pair et) ∧ zer Try.prog et = some (.int .u8 0) := by
  refine ⟨y_uint8, ?_, ?_⟩ <;> kernel_rfl
theorem pair_ok (p : Nat × Bool) : keyOk Try.prog y_split_pair (pairV p) = true := by
  have h1 : ((und Try.prog y_split_pair).bind fun d => match d with
    | .struct fs => some true
    | _ => none) = some true := by kernel_rfl
  have h2 : plainTy Try.prog 2 y_split_pair = some [1, 0] := by kernel_rfl
  obtain ⟨d, h1, h3⟩ := bind_some' h1
  cases d <;> try (cases h3; done)
  unfold keyOk pairV
  simp only [h1, h2, pairL]
  simp [eqCells, eqCell]
theorem look_pair {h : T Obj} {id c : Nat} {s : List (Nat × Bool)} {p : Nat × Bool} (hg : h.get id = some (.map (ents 0 s).toArray c)) :
    lookV Try.prog h y_map_split_pair_uint8 (.map (some id)) (pairV p) true = some (.tuple #[.int .u8 ((if p ∈ s then pos s p else 0 : Nat) : Int), .bool (decide (p ∈ s))]) := by
  obtain ⟨et, h1, h2⟩ := und_map
  unfold lookV
  simp only [h1, pair_ok, mapAt, entriesAt, hg, Option.bind, lookIn, find_pair]
  by_cases hm : p ∈ s
  · simp [hm, gotV, outV]
  · simp [hm, gotV, outV, h2]
theorem put_pair {h : T Obj} {id : Nat} {s : List (Nat × Bool)} {p : Nat × Bool} (hg : h.get id = some (.map (ents 0 s).toArray s.length)) (hm : ¬ p ∈ s) :
    mapPutV Try.prog h y_map_split_pair_uint8 (.map (some id)) (pairV p) (.int .u8 (s.length : Int)) = some (h.upd id (some (.map (ents 0 (s ++ [p])).toArray (s ++ [p]).length))) := by
  obtain ⟨et, h1, h2⟩ := und_map
  unfold mapPutV
  simp only [h1, pair_ok, entriesAt, hg, Option.bind, find_pair, if_neg hm]
  rw [ents_append]
  simp
theorem len_pair {h : T Obj} {id c : Nat} {s : List (Nat × Bool)} (hg : h.get id = some (.map (ents 0 s).toArray c)) : lenV Try.prog h y_map_split_pair_uint8 (.map (some id)) = some (.int .i64 (s.length : Int)) := by
  obtain ⟨et, h1, h2⟩ := und_map
  unfold lenV
  simp only [h1, entriesAt, hg, Option.bind]
  simp [ents_length]
end V
end Go.Proofs.Ytmmdcdjkmakgpaa

