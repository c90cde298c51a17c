/- Texts laid one behind the other: DB, DE, DG, DL, DO, DP, BO, BP, ES, EF, GR, AB, AC, AE, AG, EI, EJ, EB, GB, EC, AS, ED, GO, EK.
   No condition. -/
import Derived.KernelRfl
import Derived.Test.YtmmdcdjkmakgpaaQA4
set_option linter.unusedVariables false
set_option linter.unusedSimpArgs false
namespace Go.Proofs.Ytmmdcdjkmakgpaa
set_option maxRecDepth 20000
namespace V
open PA
theorem zer_Set_mk {K : Value → Prop} (k : K (setV 0)) : bindP (zer Try.prog y_api_Set) K := by rw [zer_Set]; exact k
section
attribute [local irreducible] bindP ifP condP newP optP exP beqP
end
end V
end Go.Proofs.Ytmmdcdjkmakgpaa
set_option linter.unusedVariables false
set_option linter.unusedSimpArgs false
namespace Go.Proofs.Ytmmdcdjkmakgpaa
set_option maxRecDepth 20000
namespace V
open PA
def bytesC (l : List Nat) : List (List Value) := l.map fun b : Nat => [Value.int .u8 (b : Int)]
theorem bytesC_len (l : List Nat) : (bytesC l).length = l.length := by simp [bytesC]
end V
end Go.Proofs.Ytmmdcdjkmakgpaa
set_option linter.unusedVariables false
set_option linter.unusedSimpArgs false
namespace Go.Proofs.Ytmmdcdjkmakgpaa
set_option maxRecDepth 20000
namespace V
open PA
def splitL (c : List Nat) (m : Nat) : List Value := u8s c ++ [.int .i64 (m : Int)]
def splitV (c : List Nat) (m : Nat) : Value := .agg (splitL c m).toArray
theorem splitL_len {c : List Nat} {m : Nat} (hc : c.length = 256) : (splitL c m).length = 257 := by simp [splitL, u8s_len, hc]
theorem splitL_ok (c : List Nat) (m : Nat) : (splitL c m).all cellOk = true := by simp [splitL, u8s, cellOk]
theorem splitL_get {c : List Nat} {m i : Nat} (hi : i < c.length) : (splitL c m)[i]? = some (.int .u8 (c[i] : Nat)) := by
  unfold splitL
  rw [List.getElem?_append_left (by rw [u8s_len]; exact hi)]
  simp [u8s, hi]
theorem splitL_set {c : List Nat} {m i : Nat} (v : Nat) (hi : i < c.length) : (splitL c m).set i (.int .u8 (v : Int)) = splitL (c.set i v) m := by
  unfold splitL
  rw [List.set_append_left _ _ (by rw [u8s_len]; exact hi)]
  simp [u8s, List.map_set]
theorem splitL_setM {c : List Nat} {m : Nat} (v : Nat) (hc : c.length = 256) : (splitL c m).set 256 (.int .i64 (v : Int)) = splitL c v := by
  unfold splitL
  rw [List.set_append_right _ _ (by rw [u8s_len]; omega)]
  simp [u8s_len, hc]
theorem splitV_cells (c : List Nat) (m : Nat) : (splitV c m).cells = (splitL c m).toArray := rfl
theorem zer_Split : zer Try.prog y_api_Split = some (splitV (List.replicate 256 0) 0) := by kernel_rfl
theorem zer_Split_mk {K : Value → Prop} (k : K (splitV (List.replicate 256 0) 0)) : bindP (zer Try.prog y_api_Split) K := by rw [zer_Split]; exact k
theorem rep_len : (List.replicate 256 0 : List Nat).length = 256 := List.length_replicate
def pairL (p : Nat × Bool) : List Value := [.int .u8 (p.1 : Int), .bool p.2]
def pairV (p : Nat × Bool) : Value := .agg (pairL p).toArray
theorem buildV_pair (a b : Value) (ha : a.cells = #[a]) (hb : b.cells = #[b]) : buildV Try.prog y_split_pair [(0, a), (1, b)] = some (.agg #[a, b]) := by
  have h1 : zer Try.prog y_split_pair = some (.agg #[.int .u8 0, .bool false]) := by kernel_rfl
  have h2 : ((und Try.prog y_split_pair).bind fun d => match d with
    | .struct fs => placesV Try.prog fs.toList
    | _ => none) = some [(0, 1), (1, 1)] := by kernel_rfl
  obtain ⟨d, h2, h3⟩ := bind_some' h2
  cases d <;> try (cases h3; done)
  rename_i fs
  simp only at h3
  unfold buildV
  rw [h1]
  simp only [Option.bind, h2, h3]
  simp [fillV, ha, hb, over, Value.cells_agg]
theorem zer_pair_mk {K : Value → Prop} (k : K (pairV (0, false))) : bindP (zer Try.prog y_split_pair) K := by
  have : zer Try.prog y_split_pair = some (pairV (0, false)) := by kernel_rfl
  rw [this]; exact k
def ents : Nat → List (Nat × Bool) → List MapEntry
  | _, [] => []
  | k, p :: r => ({ key := pairV p, val := .int .u8 (k : Int), born := k } : MapEntry) :: ents (k + 1) r
theorem ents_append (k : Nat) (s : List (Nat × Bool)) (p : Nat × Bool) : ents k (s ++ [p]) = ents k s ++ [({ key := pairV p, val := .int .u8 ((k + s.length : Nat) : Int), born := k + s.length } : MapEntry)] := by
  induction s generalizing k with
  | nil => rfl
  | cons q s ih => simp only [List.cons_append, ents, ih, List.length_cons]; rw [show k + 1 + s.length = k + (s.length + 1) by omega]
theorem ents_length (k : Nat) (s : List (Nat × Bool)) : (ents k s).length = s.length := by
  induction s generalizing k with
  | nil => rfl
  | cons q s ih => simp [ents, ih]
theorem pair_eq (p q : Nat × Bool) : keyEq Try.prog y_split_pair (pairV p) (pairV q) = some (decide (p = q)) := by
  have h1 : isAgg Try.prog y_split_pair = some true := by kernel_rfl
  have h2 : plainTy Try.prog 20 y_split_pair = some [1, 0] := by kernel_rfl
  unfold keyEq pairV
  simp only [h1, h2, Option.bind]
  obtain ⟨a, b⟩ := p
  obtain ⟨c, d⟩ := q
  simp only [pairL, eqCells, eqCell, Option.bind]
  by_cases h : a = c <;> cases b <;> cases d <;> simp [h] <;> omega
theorem find_pair (p : Nat × Bool) : ∀ (s : List (Nat × Bool)) (k i : Nat), findV Try.prog y_split_pair (pairV p) (ents k s) i = some (if p ∈ s then some (i + pos s p, .int .u8 ((k + pos s p : Nat) : Int)) else none) := by
  intro s
  induction s with
  | nil => intro k i; simp [ents, findV]
  | cons q s ih =>
    intro k i
    simp only [ents, findV, pair_eq]
    by_cases h : p = q
    · subst h; simp [pos_self]
    · simp only [h, decide_false]
      rw [ih]
      have e : ¬ q = p := fun e => h e.symm
      by_cases hm : p ∈ s
      · rw [if_pos hm, if_pos (by simp [hm]), pos_ne e]; simp; omega
      · rw [if_neg hm, if_neg (by simp [hm, h])]
theorem und_map : ∃ et, und Try.prog y_map_split_pair_uint8 = some (.map y_split_pair et) ∧ zer Try.prog et = some (.int .u8 0) := by
  refine ⟨y_uint8, ?_, ?_⟩ <;> kernel_rfl
theorem pair_ok (p : Nat × Bool) : keyOk Try.prog y_split_pair (pairV p) = true := by
  have h1 : ((und Try.prog y_split_pair).bind fun d => match d with
    | .struct fs => some true
    | _ => none) = some true := by kernel_rfl
  have h2 : plainTy Try.prog 2 y_split_pair = some [1, 0] := by kernel_rfl
  obtain ⟨d, h1, h3⟩ := bind_some' h1
  cases d <;> try (cases h3; done)
  unfold keyOk pairV
  simp only [h1, h2, pairL]
  simp [eqCells, eqCell]
theorem look_pair {h : T Obj} {id c : Nat} {s : List (Nat × Bool)} {p : Nat × Bool} (hg : h.get id = some (.map (ents 0 s).toArray c)) :
    lookV Try.prog h y_map_split_pair_uint8 (.map (some id)) (pairV p) true = some (.tuple #[.int .u8 ((if p ∈ s then pos s p else 0 : Nat) : Int), .bool (decide (p ∈ s))]) := by
  obtain ⟨et, h1, h2⟩ := und_map
  unfold lookV
  simp only [h1, pair_ok, mapAt, entriesAt, hg, Option.bind, lookIn, find_pair]
  by_cases hm : p ∈ s
  · simp [hm, gotV, outV]
  · simp [hm, gotV, outV, h2]
theorem put_pair {h : T Obj} {id : Nat} {s : List (Nat × Bool)} {p : Nat × Bool} (hg : h.get id = some (.map (ents 0 s).toArray s.length)) (hm : ¬ p ∈ s) :
    mapPutV Try.prog h y_map_split_pair_uint8 (.map (some id)) (pairV p) (.int .u8 (s.length : Int)) = some (h.upd id (some (.map (ents 0 (s ++ [p])).toArray (s ++ [p]).length))) := by
  obtain ⟨et, h1, h2⟩ := und_map
  unfold mapPutV
  simp only [h1, pair_ok, entriesAt, hg, Option.bind, find_pair, if_neg hm]
  rw [ents_append]
  simp
theorem len_pair {h : T Obj} {id c : Nat} {s : List (Nat × Bool)} (hg : h.get id = some (.map (ents 0 s).toArray c)) : lenV Try.prog h y_map_split_pair_uint8 (.map (some id)) = some (.int .i64 (s.length : Int)) := by
  obtain ⟨et, h1, h2⟩ := und_map
  unfold lenV
  simp only [h1, entriesAt, hg, Option.bind]
  simp [ents_length]
end V
end Go.Proofs.Ytmmdcdjkmakgpaa
set_option linter.unusedVariables false
set_option linter.unusedSimpArgs false
namespace Go.Proofs.Ytmmdcdjkmakgpaa
set_option maxRecDepth 20000
namespace V
open PA
theorem pairs_length (c : List Nat) (x : Nat) : (pairs c x).length = 256 := by rw [pairs, List.length_map, bs_length]
theorem pairs_get {c : List Nat} {x i : Nat} (hi : i < 256) : (pairs c x)[i]? = some (c.getD i 0, x.testBit i) := by rw [pairs, List.getElem?_map, bs_get hi]; rfl
def part (l : List Nat) (i : Nat) : List Nat := l.take i ++ List.replicate (256 - i) 0
theorem part_len {l : List Nat} (hl : l.length = 256) {i : Nat} (hi : i ≤ 256) : (part l i).length = 256 := by simp [part, hl]; omega
theorem part_set {l : List Nat} (hl : l.length = 256) {i : Nat} (hi : i < 256) : (part l i).set i (l[i]'(by omega)) = part l (i + 1) := by
  unfold part
  rw [List.set_append_right _ _ (by simp; omega)]
  have e : 256 - i = (256 - (i + 1)) + 1 := by omega
  rw [e, List.replicate_succ]
  have e2 : i - (List.take i l).length = 0 := by simp; omega
  rw [e2, List.set_cons_zero, List.take_succ_eq_append_getElem (by omega), List.append_assoc]
  rfl
theorem part_all {l : List Nat} (hl : l.length = 256) : part l 256 = l := by
  unfold part
  rw [List.take_of_length_le (by omega)]; simp
theorem split_cut_end {ro : Ro} {c : List Nat} {s : List (Nat × Bool)} {e : Env} {h h0 : T Obj} {id nx nx0 : Nat} {K : KV} (hc : c.length = 256)
    (e4 : e 4 = at_ (id + 2) 0 0) (e5 : e 5 = at_ (id + 3) 0 0) (e6 : e 6 = .map (some (id + 4)))
    (g3 : h.get (id + 2) = some (.cells (splitL (List.replicate 256 0) 0).toArray y_api_Split)) (g4 : h.get (id + 3) = some (.cells (splitL c 0).toArray y_api_Split)) (g5 : h.get (id + 4) = some (.map (ents 0 s).toArray s.length))
    (hf : Fr h0 nx0) (hs : Sub h0 h) (hid : nx0 ≤ id) (hK : K (splitV c s.length) h0 (nx + 6)) : split_cut_j1 ro K e h nx := by
  unfold split_cut_j1
  rw [e4, e5, e6]
  refine bindP_mk (len_pair g5) ?_
  (repeat (first | refine bindP_mk (by simp (disch := first | omega | exact Int.natCast_nonneg _ | assumption) only [BB, B2, ↓reduceIte, Nat.reduceLeDiff, Nat.reduceAdd, intB_eql, intB_neq, intB_lss, intB_leq, intB_gtr, intB_geq] <;> rfl) ?_ | refine newP_mk ?_ | refine optP_mk ?_ | with_reducible first | refine condP_t ?_ | refine condP_f ?_ | refine ifP_tt' ?_ | refine ifP_ff' ?_ | refine ifP_tf' ?_ | refine ifP_ft' ?_ | refine ifP_u' ?_ | refine optP_mk0 ?_))
  refine bindP_mk (store1_own g4 (by rw [splitL_len hc]; omega) rfl rfl) ?_
  rw [splitL_setM _ hc]
  refine bindP_mk (loadA_all (by rw [T.get_upd_same]) (splitL_len hc)) ?_
  refine bindP_mk (storeA_own (l := splitL (List.replicate 256 0) 0) (vs := splitL c s.length) (e := y_api_Split) (f := (0, 0)) (by simp (disch := first | omega | exact Int.natCast_nonneg _ | assumption) only [BB, B2, ↓reduceIte, Nat.reduceLeDiff, Nat.reduceAdd, intB_eql, intB_neq, intB_lss, intB_leq, intB_gtr, intB_geq, g3]) rfl (splitL_len hc) (splitL_len rep_len) (splitL_ok _ _)) ?_
  refine bindP_mk (loadA_all (by rw [T.get_upd_same]) (splitL_len hc)) ?_
  exact ⟨h0, (hs.new hf (by omega)).new hf (by omega), hK⟩
set_option maxRecDepth 4000 in
theorem split_cut_c {ro : Ro} {c : List Nat} {m x : Nat} (hc : c.length = 256) {h : T Obj} {nx : Nat} {K : KV} (hf : Fr h nx)
    (hK : ∀ nx', nx ≤ nx' → K (splitV (num (pairs c x)) (dd (pairs c x)).length) h nx') : callP Try.prog ro i_split_cut [splitV c m, setV x] h nx K := by
  apply split_cut_of
  unfold split_cut
  refine newP_mk (newP_mk (zer_Split_mk (newP_mk (zer_Split_mk (newP_mk (newP_mk ?_))))))
  have hN : (num (pairs c x)).length = 256 := by rw [num_length, pairs_length]
  refine loopP_rule (fun n e h' nx' => ∃ i : Nat, i + n = 256 ∧ nx + 5 ≤ nx' ∧ e 2 = ptr nx ∧ e 3 = ptr (nx + 1) ∧ e 4 = ptr (nx + 2) ∧ e 5 = ptr (nx + 3) ∧ e 6 = .map (some (nx + 4)) ∧ e 12 = .int .i64 i ∧ Sub h h' ∧ Fr h' nx' ∧
    h'.get nx = some (.cells (splitL c m).toArray y_api_Split) ∧ h'.get (nx + 1) = some (.cells (setL x).toArray y_api_Set) ∧ h'.get (nx + 2) = some (.cells (splitL (List.replicate 256 0) 0).toArray y_api_Split) ∧
    h'.get (nx + 3) = some (.cells (splitL (part (num (pairs c x)) i) 0).toArray y_api_Split) ∧ h'.get (nx + 4) = some (.map (ents 0 (dd ((pairs c x).take i))).toArray (dd ((pairs c x).take i)).length)) ?_ (n := 256)
    ⟨0, by omega, by omega, rfl, rfl, rfl, rfl, rfl, rfl, ?_, ?_, ?_, ?_, ?_, ?_, ?_⟩
  · rintro n e h' nx' ⟨i, hin, hnx, e2, e3, e4, e5, e6, e12, hs, hf', g1, g2, g3, g4, g5⟩ Q' hq hx
    unfold split_cut_L1
    rw [e2, e3, e6, e12]
    (repeat (first | refine bindP_mk (by simp (disch := first | omega | exact Int.natCast_nonneg _ | assumption) only [BB, B2, ↓reduceIte, Nat.reduceLeDiff, Nat.reduceAdd, intB_eql, intB_neq, intB_lss, intB_leq, intB_gtr, intB_geq] <;> rfl) ?_ | refine newP_mk ?_ | refine optP_mk ?_ | with_reducible first | refine condP_t ?_ | refine condP_f ?_ | refine ifP_tt' ?_ | refine ifP_ff' ?_ | refine ifP_tf' ?_ | refine ifP_ft' ?_ | refine ifP_u' ?_ | refine optP_mk0 ?_))
    by_cases hi : i < 256
    · refine condP_tr (by simp; omega) ?_
      have hic : i < c.length := by omega
      have hg := splitL_get (m := m) hic
      (repeat (first | refine bindP_mk (by simp (disch := first | omega | exact Int.natCast_nonneg _ | assumption) only [BB, B2, ↓reduceIte, Nat.reduceLeDiff, Nat.reduceAdd, intB_eql, intB_neq, intB_lss, intB_leq, intB_gtr, intB_geq, g1, hg] <;> rfl) ?_ | refine newP_mk ?_ | refine optP_mk ?_ | with_reducible first | refine condP_t ?_ | refine condP_f ?_ | refine ifP_tt' ?_ | refine ifP_ff' ?_ | refine ifP_tf' ?_ | refine ifP_ft' ?_ | refine ifP_u' ?_ | refine optP_mk0 ?_))
      refine bindP_mk (loadA_all g2 rfl) ?_
      (repeat (first | refine bindP_mk (by simp (disch := first | omega | exact Int.natCast_nonneg _ | assumption) only [BB, B2, ↓reduceIte, Nat.reduceLeDiff, Nat.reduceAdd, intB_eql, intB_neq, intB_lss, intB_leq, intB_gtr, intB_geq] <;> rfl) ?_ | refine newP_mk ?_ | refine optP_mk ?_ | with_reducible first | refine condP_t ?_ | refine condP_f ?_ | refine ifP_tt' ?_ | refine ifP_ff' ?_ | refine ifP_tf' ?_ | refine ifP_ft' ?_ | refine ifP_u' ?_ | refine optP_mk0 ?_))
      refine bset_Has_c hi (hf'.mono (by omega)) fun n1 hn1 => ?_
      refine ⟨sameV_own g1 g1, ?_⟩
      refine bindP_mk (buildV_pair _ _ rfl rfl) ?_
      refine zer_pair_mk (newP_mk ?_)
      refine bindP_mk (storeA_own (l := pairL (0, false)) (vs := pairL (c[i], x.testBit i)) (e := y_split_pair) (f := (0, 0)) (by rw [T.get_upd_same]; rfl) rfl rfl rfl rfl) ?_
      refine bindP_mk (loadA_all (by rw [T.get_upd_same]) rfl) ?_
      generalize hp : (c[i], x.testBit i) = p
      have hpi : (pairs c x)[i]? = some p := by rw [pairs_get hi, ← hp, List.getD_eq_getElem?_getD, List.getElem?_eq_getElem hic]; rfl
      have hpl : i < (pairs c x).length := by rw [pairs_length]; exact hi
      have hpe : (pairs c x)[i] = p := by rw [List.getElem?_eq_getElem hpl] at hpi; exact Option.some.inj hpi
      have htake : (pairs c x).take (i + 1) = (pairs c x).take i ++ [p] := by rw [List.take_succ_eq_append_getElem hpl, hpe]
      have hdd : dd ((pairs c x).take (i + 1)) = addN (dd ((pairs c x).take i)) p := by rw [htake, dd_append]
      have hNi : (num (pairs c x))[i]'(by omega) = ix ((pairs c x).take (i + 1)) p := by
        have h1 := num_get (l := pairs c x) hpl
        rw [hpe, List.getElem?_eq_getElem (by omega)] at h1
        rw [Option.some.inj h1]
        have h2 := idx_stable (l := (pairs c x).take (i + 1)) (m := (pairs c x).drop (i + 1)) (p := p) (by rw [htake]; simp)
        rw [List.take_append_drop] at h2
        exact h2
      have hval : ∀ v : Nat, v = ix ((pairs c x).take (i + 1)) p → ∀ (e : Env) (h1 : T Obj) (n2 : Nat), nx' ≤ n2 → e 2 = ptr nx → e 3 = ptr (nx + 1) → e 4 = ptr (nx + 2) → e 5 = ptr (nx + 3) → e 6 = .map (some (nx + 4)) → e 12 = .int .i64 i → e 7 = .int .i64 i → e 9 = .int .u8 (v : Int) →
          Sub h h1 → Fr h1 n2 → h1.get nx = some (.cells (splitL c m).toArray y_api_Split) → h1.get (nx + 1) = some (.cells (setL x).toArray y_api_Set) → h1.get (nx + 2) = some (.cells (splitL (List.replicate 256 0) 0).toArray y_api_Split) →
          h1.get (nx + 3) = some (.cells (splitL (part (num (pairs c x)) i) 0).toArray y_api_Split) → h1.get (nx + 4) = some (.map (ents 0 (dd ((pairs c x).take (i + 1)))).toArray (dd ((pairs c x).take (i + 1))).length) → split_cut_j3 ro Q' e h1 n2 := by
        intro v hv e h1 n2 hn2 e2 e3 e4 e5 e6 e12 e7 e9 hs1 hf1 g1 g2 g3 g4 g5
        unfold split_cut_j3
        rw [e5, e7, e9]
        (repeat (first | refine bindP_mk (by simp (disch := first | omega | exact Int.natCast_nonneg _ | assumption) only [BB, B2, ↓reduceIte, Nat.reduceLeDiff, Nat.reduceAdd, intB_eql, intB_neq, intB_lss, intB_leq, intB_gtr, intB_geq] <;> rfl) ?_ | refine newP_mk ?_ | refine optP_mk ?_ | with_reducible first | refine condP_t ?_ | refine condP_f ?_ | refine ifP_tt' ?_ | refine ifP_ff' ?_ | refine ifP_tf' ?_ | refine ifP_ft' ?_ | refine ifP_u' ?_ | refine optP_mk0 ?_))
        have hpl2 : (part (num (pairs c x)) i).length = 256 := part_len hN (by omega)
        refine bindP_mk (store1_own g4 (by rw [splitL_len hpl2]; omega) rfl rfl) ?_
        rw [splitL_set _ (by omega), hv, ← hNi, part_set hN hi]
        unfold split_cut_j2
        show bindP (intB .add (e 12) _) _
        rw [e12]
        (repeat (first | refine bindP_mk (by simp (disch := first | omega | exact Int.natCast_nonneg _ | assumption) only [BB, B2, ↓reduceIte, Nat.reduceLeDiff, Nat.reduceAdd, intB_eql, intB_neq, intB_lss, intB_leq, intB_gtr, intB_geq] <;> rfl) ?_ | refine newP_mk ?_ | refine optP_mk ?_ | with_reducible first | refine condP_t ?_ | refine condP_f ?_ | refine ifP_tt' ?_ | refine ifP_ff' ?_ | refine ifP_tf' ?_ | refine ifP_ft' ?_ | refine ifP_u' ?_ | refine optP_mk0 ?_))
        refine hq (n - 1) _ _ _ _ (by omega) ⟨i + 1, by omega, ?_, e2, e3, e4, e5, e6, rfl, hs1.new hf (by omega), (hf1.mono (by omega)).upd (Nat.le_refl _) (by omega), ?_, ?_, ?_, ?_, ?_⟩ (Sub.refl _)
        · omega
        · simp (disch := first | omega | exact Int.natCast_nonneg _ | assumption) only [BB, B2, ↓reduceIte, Nat.reduceLeDiff, Nat.reduceAdd, intB_eql, intB_neq, intB_lss, intB_leq, intB_gtr, intB_geq, g1]
        · simp (disch := first | omega | exact Int.natCast_nonneg _ | assumption) only [BB, B2, ↓reduceIte, Nat.reduceLeDiff, Nat.reduceAdd, intB_eql, intB_neq, intB_lss, intB_leq, intB_gtr, intB_geq, g2]
        · simp (disch := first | omega | exact Int.natCast_nonneg _ | assumption) only [BB, B2, ↓reduceIte, Nat.reduceLeDiff, Nat.reduceAdd, intB_eql, intB_neq, intB_lss, intB_leq, intB_gtr, intB_geq, g3]
        · rw [T.get_upd_same]
        · simp (disch := first | omega | exact Int.natCast_nonneg _ | assumption) only [BB, B2, ↓reduceIte, Nat.reduceLeDiff, Nat.reduceAdd, intB_eql, intB_neq, intB_lss, intB_leq, intB_gtr, intB_geq, g5]
      have hnew : ∀ k, k ≠ nx' + 12 → ((h'.upd (nx' + 12) (some (.cells (Value.cells (pairV (0, false))) y_split_pair))).upd (nx' + 12) (some (.cells (pairL p).toArray y_split_pair))).get k = h'.get k := fun k hk => by
        rw [T.get_upd_ne _ _ hk, T.get_upd_ne _ _ hk]
      generalize hH : (h'.upd (nx' + 12) (some (.cells (Value.cells (pairV (0, false))) y_split_pair))).upd (nx' + 12) (some (.cells (pairL p).toArray y_split_pair)) = H at hnew
      have hHs : Sub h H := by rw [← hH]; exact (hs.new hf (by omega)).new hf (by omega)
      have hHf : Fr H n1 := by rw [← hH]; exact ((hf'.mono (by omega)).upd (Nat.le_refl _) (by omega)).upd (Nat.le_refl _) (by omega)
      have hHk : H.get (nx' + 12) = some (.cells (pairL p).toArray y_split_pair) := by rw [← hH, T.get_upd_same]
      generalize hS : dd ((pairs c x).take i) = s at hdd g5
      have hsl : s.length ≤ i := by
        rw [← hS]
        refine Nat.le_trans (dd_length _) ?_
        rw [List.length_take]; omega
      have g5' : H.get (nx + 4) = some (.map (ents 0 s).toArray s.length) := by rw [hnew _ (by omega)]; exact g5
      refine bindP_mk (look_pair (p := p) g5') ?_
      refine bindP_mk rfl ?_
      refine bindP_mk rfl ?_
      (repeat (first | refine bindP_mk (by simp (disch := first | omega | exact Int.natCast_nonneg _ | assumption) only [BB, B2, ↓reduceIte, Nat.reduceLeDiff, Nat.reduceAdd, intB_eql, intB_neq, intB_lss, intB_leq, intB_gtr, intB_geq] <;> rfl) ?_ | refine newP_mk ?_ | refine optP_mk ?_ | with_reducible first | refine condP_t ?_ | refine condP_f ?_ | refine ifP_tt' ?_ | refine ifP_ff' ?_ | refine ifP_tf' ?_ | refine ifP_ft' ?_ | refine ifP_u' ?_ | refine optP_mk0 ?_))
      by_cases hm : p ∈ s
      · refine condP_fa (by simp [hm]) ?_
        have hix : (if p ∈ s then pos s p else 0) = ix ((pairs c x).take (i + 1)) p := by
          rw [if_pos hm]; unfold ix; rw [hdd]; unfold addN; rw [if_pos hm]
        refine hval _ hix _ _ _ (by omega) e2 e3 e4 e5 e6 e12 rfl rfl hHs (hHf.mono (by omega)) ?_ ?_ ?_ ?_ ?_
        · rw [hnew _ (by omega)]; exact g1
        · rw [hnew _ (by omega)]; exact g2
        · rw [hnew _ (by omega)]; exact g3
        · rw [hnew _ (by omega)]; exact g4
        · rw [hdd, g5']; unfold addN; rw [if_pos hm]
      · refine condP_tr (by simp [hm]) ?_
        refine bindP_mk (len_pair g5') ?_
        (repeat (first | refine bindP_mk (by simp (disch := first | omega | exact Int.natCast_nonneg _ | assumption) only [BB, B2, ↓reduceIte, Nat.reduceLeDiff, Nat.reduceAdd, intB_eql, intB_neq, intB_lss, intB_leq, intB_gtr, intB_geq] <;> rfl) ?_ | refine newP_mk ?_ | refine optP_mk ?_ | with_reducible first | refine condP_t ?_ | refine condP_f ?_ | refine ifP_tt' ?_ | refine ifP_ff' ?_ | refine ifP_tf' ?_ | refine ifP_ft' ?_ | refine ifP_u' ?_ | refine optP_mk0 ?_))
        refine bindP_mk (loadA_all hHk rfl) ?_
        refine bindP_mk (put_pair g5' hm) ?_
        have hix : s.length = ix ((pairs c x).take (i + 1)) p := by
          rw [htake, ix_new (by rw [hS]; exact hm), hS]
        refine hval _ hix _ _ _ (by omega) e2 e3 e4 e5 e6 e12 rfl rfl (hHs.new hf (by omega)) ((hHf.mono (by omega)).upd (Nat.le_refl _) (by omega)) ?_ ?_ ?_ ?_ ?_
        · rw [T.get_upd_ne _ _ (by omega), hnew _ (by omega)]; exact g1
        · rw [T.get_upd_ne _ _ (by omega), hnew _ (by omega)]; exact g2
        · rw [T.get_upd_ne _ _ (by omega), hnew _ (by omega)]; exact g3
        · rw [T.get_upd_ne _ _ (by omega), hnew _ (by omega)]; exact g4
        · rw [hdd, T.get_upd_same]; unfold addN; rw [if_neg hm]
    · refine condP_fa (by simp; omega) ?_
      refine hx _ _ _ _ (fun e => by cases e) ?_
      show exP _ _ _ _
      rw [exP_exit]
      show split_cut_j1 ro K _ _ _
      have hi2 : i = 256 := by omega
      subst hi2
      have ht : (pairs c x).take 256 = pairs c x := List.take_of_length_le (by rw [pairs_length]; omega)
      rw [part_all hN] at g4
      rw [ht] at g5
      exact split_cut_end (id := nx) hN e4 e5 e6 g3 g4 g5 hf hs (Nat.le_refl _) (hK _ (by omega))
  · exact (((((Sub.refl h).new hf (Nat.le_refl _)).new hf (by omega)).new hf (by omega)).new hf (by omega)).new hf (by omega)
  · exact ((((hf.upd (m := nx + 7) (by omega) (by omega)).upd (Nat.le_refl _) (by omega)).upd (Nat.le_refl _) (by omega)).upd (Nat.le_refl _) (by omega)).upd (Nat.le_refl _) (by omega)
  · simp (disch := first | omega | exact Int.natCast_nonneg _ | assumption) only [BB, B2, ↓reduceIte, Nat.reduceLeDiff, Nat.reduceAdd, intB_eql, intB_neq, intB_lss, intB_leq, intB_gtr, intB_geq, splitV_cells]
  · simp (disch := first | omega | exact Int.natCast_nonneg _ | assumption) only [BB, B2, ↓reduceIte, Nat.reduceLeDiff, Nat.reduceAdd, intB_eql, intB_neq, intB_lss, intB_leq, intB_gtr, intB_geq, setV_cells]
  · simp (disch := first | omega | exact Int.natCast_nonneg _ | assumption) only [BB, B2, ↓reduceIte, Nat.reduceLeDiff, Nat.reduceAdd, intB_eql, intB_neq, intB_lss, intB_leq, intB_gtr, intB_geq, splitV_cells]
  · simp (disch := first | omega | exact Int.natCast_nonneg _ | assumption) only [BB, B2, ↓reduceIte, Nat.reduceLeDiff, Nat.reduceAdd, intB_eql, intB_neq, intB_lss, intB_leq, intB_gtr, intB_geq, splitV_cells]
    rfl
  · simp (disch := first | omega | exact Int.natCast_nonneg _ | assumption) only [BB, B2, ↓reduceIte, Nat.reduceLeDiff, Nat.reduceAdd, intB_eql, intB_neq, intB_lss, intB_leq, intB_gtr, intB_geq]
    rfl
end V
end Go.Proofs.Ytmmdcdjkmakgpaa
set_option linter.unusedVariables false
set_option linter.unusedSimpArgs false
namespace Go.Proofs.Ytmmdcdjkmakgpaa
set_option maxRecDepth 20000
namespace V
open PA
def setsC (l : List Nat) : List (List Value) := l.map setL
theorem setsC_len (l : List Nat) : (setsC l).length = l.length := by simp [setsC]
theorem setsC_get {l : List Nat} {i : Nat} (hi : i < l.length) : (setsC l)[i]? = some (setL l[i]) := by simp [setsC, hi]
theorem buildV_Split1 : buildV Try.prog y_api_Split [(1, .int .i64 1)] = some (splitV (List.replicate 256 0) 1) := by kernel_rfl
set_option maxRecDepth 4000 in
theorem split_Of_c {ro : Ro} {v : Value} {l : List Nat} (hlen : l.length ≤ 1000000) {h : T Obj} {nx : Nat} {K : KV} (hf : Fr h nx) (hv : Sl ro h v 4 (setsC l)) (hK : ∀ nx', nx ≤ nx' → K (splitV (cls l) (many l)) h nx') : callP Try.prog ro i_split_Of [v] h nx K := by
  apply split_Of_of
  unfold split_Of
  refine zer_Split_mk (newP_mk (bindP_mk buildV_Split1 (zer_Split_mk (newP_mk ?_))))
  refine bindP_mk (storeA_own (l := splitL (List.replicate 256 0) 0) (vs := splitL (List.replicate 256 0) 1) (by rw [T.get_upd_same]; rfl) rfl (splitL_len rep_len) (splitL_len rep_len) (splitL_ok _ _)) ?_
  have hs2 : Sub h ((((h.upd nx (some (.cells (Value.cells (splitV (List.replicate 256 0) 0)) y_api_Split))).upd (nx + 2) (some (.cells (Value.cells (splitV (List.replicate 256 0) 0)) y_api_Split)))).upd (nx + 2) (some (.cells (splitL (List.replicate 256 0) 1).toArray y_api_Split))) := (((Sub.refl h).new hf (Nat.le_refl _)).new hf (by omega)).new hf (by omega)
  have hlenv := (hv.sub hs2).len
  rw [setsC_len] at hlenv
  refine bindP_mk hlenv ?_
  refine loopP_rule (fun n e h' nx' => ∃ i : Nat, i + n = l.length ∧ nx + 3 ≤ nx' ∧ e 7 = v ∧ e 8 = .int .i64 (l.length : Nat) ∧ e 2 = ptr nx ∧ e 3 = ptr (nx + 2) ∧ e 9 = .int .i64 i ∧ Sub h h' ∧ Fr h' nx' ∧
    h'.get nx = some (.cells (splitL (List.replicate 256 0) 0).toArray y_api_Split) ∧ h'.get (nx + 2) = some (.cells (splitL (cls (l.take i)) (many (l.take i))).toArray y_api_Split)) ?_ (n := l.length) ⟨0, by omega, by omega, rfl, rfl, rfl, rfl, rfl, hs2, ?_, ?_, ?_⟩
  · rintro n e h' nx' ⟨i, hin, hnx, e7, e8, e2, e3, e9, hs, hf', g1, g2⟩ Q' hc hx
    unfold split_Of_L1
    rw [e7, e8, e3, e9]
    (repeat (first | refine bindP_mk (by simp (disch := first | omega | exact Int.natCast_nonneg _ | assumption) only [BB, B2, ↓reduceIte, Nat.reduceLeDiff, Nat.reduceAdd, intB_eql, intB_neq, intB_lss, intB_leq, intB_gtr, intB_geq] <;> rfl) ?_ | refine newP_mk ?_ | refine optP_mk ?_ | with_reducible first | refine condP_t ?_ | refine condP_f ?_ | refine ifP_tt' ?_ | refine ifP_ff' ?_ | refine ifP_tf' ?_ | refine ifP_ft' ?_ | refine ifP_u' ?_ | refine optP_mk0 ?_))
    by_cases hi : i < l.length
    · refine condP_tr (by simp; omega) ?_
      refine bindP_mk ((hv.sub hs).ix _ (by rw [setsC_len]; exact hi)) ?_
      refine bindP_mk ((hv.sub hs).loadA (setsC_get hi)) ?_
      refine zer_Set_mk (newP_mk ?_)
      refine bindP_mk (storeA_own (l := setL 0) (vs := setL l[i]) (e := y_api_Set) (f := (0, 0)) (by rw [T.get_upd_same]; rfl) rfl rfl rfl rfl) ?_
      refine bindP_mk (loadA_all (l := splitL (cls (l.take i)) (many (l.take i))) (e := y_api_Split) (f := (0, 0)) (by simp (disch := first | omega | exact Int.natCast_nonneg _ | assumption) only [BB, B2, ↓reduceIte, Nat.reduceLeDiff, Nat.reduceAdd, intB_eql, intB_neq, intB_lss, intB_leq, intB_gtr, intB_geq, g2]) (splitL_len (cls_length _))) ?_
      refine bindP_mk (loadA_all (l := setL l[i]) (by rw [T.get_upd_same]) rfl) ?_
      refine split_cut_c (m := many (l.take i)) (cls_length _) (((hf'.mono (by omega)).upd (n := nx' + 8) (Nat.le_refl _) (by omega)).upd (Nat.le_refl _) (by omega)) fun n1 hn1 => ?_
      obtain ⟨q1, q2⟩ := cls_step (l.take i) l[i]
      have ht : l.take i ++ [l[i]] = l.take (i + 1) := (List.take_succ_eq_append_getElem hi).symm
      rw [ht] at q1 q2
      rw [q1, q2]
      refine bindP_mk (storeA_own (l := splitL (cls (l.take i)) (many (l.take i))) (vs := splitL (cls (l.take (i + 1))) (many (l.take (i + 1)))) (e := y_api_Split) (f := (0, 0)) (by simp (disch := first | omega | exact Int.natCast_nonneg _ | assumption) only [BB, B2, ↓reduceIte, Nat.reduceLeDiff, Nat.reduceAdd, intB_eql, intB_neq, intB_lss, intB_leq, intB_gtr, intB_geq, g2]) rfl (splitL_len (cls_length _)) (splitL_len (cls_length _)) (splitL_ok _ _)) ?_
      (repeat (first | refine bindP_mk (by simp (disch := first | omega | exact Int.natCast_nonneg _ | assumption) only [BB, B2, ↓reduceIte, Nat.reduceLeDiff, Nat.reduceAdd, intB_eql, intB_neq, intB_lss, intB_leq, intB_gtr, intB_geq] <;> rfl) ?_ | refine newP_mk ?_ | refine optP_mk ?_ | with_reducible first | refine condP_t ?_ | refine condP_f ?_ | refine ifP_tt' ?_ | refine ifP_ff' ?_ | refine ifP_tf' ?_ | refine ifP_ft' ?_ | refine ifP_u' ?_ | refine optP_mk0 ?_))
      refine hc (n - 1) _ _ _ _ (by omega) ⟨i + 1, by omega, ?_, e7, e8, e2, e3, rfl, ((hs.new hf (by omega)).new hf (by omega)).new hf (by omega), (((hf'.mono (by omega)).upd (Nat.le_refl _) (by omega)).upd (Nat.le_refl _) (by omega)).upd (Nat.le_refl _) (by omega), ?_, ?_⟩ (Sub.refl _)
      · omega
      · simp (disch := first | omega | exact Int.natCast_nonneg _ | assumption) only [BB, B2, ↓reduceIte, Nat.reduceLeDiff, Nat.reduceAdd, intB_eql, intB_neq, intB_lss, intB_leq, intB_gtr, intB_geq, g1]
      · rw [T.get_upd_same]
    · refine condP_fa (by simp; omega) ?_
      refine hx _ _ _ _ (fun e => by cases e) (exP_e (beqP_t ?_))
      unfold split_Of_j1
      have ht : l.take i = l := List.take_of_length_le (by omega)
      rw [ht] at g2
      show bindP (loadA ro h' 257 (e 3)) _
      rw [e3]
      show bindP _ fun t => bindP (storeN 257 h' (e 2) t) fun h8 => bindP (loadA ro h8 257 (e 2)) _
      rw [e2]
      exact ret_copy g2 g1 (splitL_len (cls_length _)) (splitL_len rep_len) (splitL_ok _ _) hf hs (Nat.le_refl _) (hK _ (by omega))
  · exact ((hf.upd (m := nx + 7) (by omega) (by omega)).upd (Nat.le_refl _) (by omega)).upd (Nat.le_refl _) (by omega)
  · simp (disch := first | omega | exact Int.natCast_nonneg _ | assumption) only [BB, B2, ↓reduceIte, Nat.reduceLeDiff, Nat.reduceAdd, intB_eql, intB_neq, intB_lss, intB_leq, intB_gtr, intB_geq, splitV_cells]
  · rw [T.get_upd_same, List.take_zero, cls_nil, many_nil]
end V
end Go.Proofs.Ytmmdcdjkmakgpaa
set_option linter.unusedVariables false
set_option linter.unusedSimpArgs false
namespace Go.Proofs.Ytmmdcdjkmakgpaa
set_option maxRecDepth 20000
namespace V
open PA
theorem und_u8s : und Try.prog y_s_uint8 = some (.slice y_uint8) := by kernel_rfl
theorem tin_u8 : ∃ i, tin Try.prog y_uint8 = some i ∧ i.size = 1 ∧ i.bytes = 1 := by
  have h : (tin Try.prog y_uint8).map (fun i => (i.size, i.bytes)) = some (1, 1) := by kernel_rfl
  cases hi : tin Try.prog y_uint8 with
  | none => rw [hi] at h; cases h
  | some i => rw [hi] at h; simp at h; exact ⟨i, rfl, h.1, h.2⟩
theorem zer_u8 : zer Try.prog y_uint8 = some (.int .u8 0) := by kernel_rfl
end V
end Go.Proofs.Ytmmdcdjkmakgpaa
set_option linter.unusedVariables false
set_option linter.unusedSimpArgs false
namespace Go.Proofs.Ytmmdcdjkmakgpaa
set_option maxRecDepth 20000
namespace V
open PA
end V
end Go.Proofs.Ytmmdcdjkmakgpaa
set_option linter.unusedVariables false
set_option linter.unusedSimpArgs false
namespace Go.Proofs.Ytmmdcdjkmakgpaa
set_option maxRecDepth 20000
namespace V
open PA
open PA
theorem splitI_nat (c : List Nat) (m : Nat) : splitV c m = splitI c (m : Int) := rfl
end V
end Go.Proofs.Ytmmdcdjkmakgpaa
set_option linter.unusedVariables false
set_option linter.unusedSimpArgs false
namespace Go.Proofs.Ytmmdcdjkmakgpaa
set_option maxRecDepth 20000
namespace V
open PA
open PA
end V
end Go.Proofs.Ytmmdcdjkmakgpaa
set_option linter.unusedVariables false
set_option linter.unusedSimpArgs false
namespace Go.Proofs.Ytmmdcdjkmakgpaa
set_option maxRecDepth 20000
namespace V
open PA
def lb (c : List Nat) (k i : Nat) : Nat := ((List.range' i (256 - i)).find? fun b => decide (c.getD b 0 = k)).getD 0
theorem lb_end (c : List Nat) (k : Nat) : lb c k 256 = 0 := rfl
theorem lb_step {c : List Nat} {k i : Nat} (hi : i < 256) : lb c k i = if c.getD i 0 = k then i else lb c k (i + 1) := by
  unfold lb
  rw [show 256 - i = (256 - (i + 1)) + 1 by omega, List.range'_succ, List.find?_cons]
  by_cases h : c.getD i 0 = k
  · rw [if_pos h, decide_eq_true h]; rfl
  · rw [if_neg h, decide_eq_false h]
def firstZ (c : List Nat) (n : Int) : List Nat := if n < 1 ∨ 256 < n then [] else (List.range n.toNat).map fun k => lb c k 0
theorem ixSl_own {id z len cap i : Nat} (k : IntKind) (hi : i < len) : ixSl z (.slice (some (own id z)) len cap) (.int k (i : Int)) = some (at_ id (i * z) 0) := by
  have hn : natV (.int k (i : Int)) = some i := by simp [natV]
  have hb : Nat.blt i len = true := by simp [Nat.blt]; omega
  unfold ixSl
  rw [hn]
  simp only [Option.bind_some, hb, own, Nat.beq_refl]
  simp [elt]
theorem zerosV_u8 : ∀ n : Nat, zerosV [.int .u8 0] n = u8s (List.replicate n 0)
  | 0 => rfl
  | n + 1 => by
    have := zerosV_u8 n
    simp only [zerosV, this, u8s, List.replicate_succ, List.map_cons]; rfl
theorem make_u8 {aid n : Nat} (h0 : 1 ≤ n) (h1 : n ≤ 1000000) : makeV Try.prog y_s_uint8 aid (.int .i64 (n : Int)) (.int .i64 (n : Int)) = some (.slice (some (own aid 1)) n n, some (.cells (u8s (List.replicate n 0)).toArray y_uint8)) := by
  obtain ⟨i, g1, g2, g3⟩ := tin_u8
  have hb : Nat.ble n big = true := Nat.ble_eq_true_of_le (by unfold big; omega)
  have e1 : decide ((0 : Int) ≤ (n : Int)) = true := by simp
  have e2 : decide ((n : Int) ≤ (n : Int)) = true := by simp
  have e3 : decide ((n : Int) ≤ 70368744177664) = true := by simp; omega
  have hz : zrow Try.prog y_uint8 n = some (u8s (List.replicate n 0)) := by
    obtain ⟨m, rfl⟩ : ∃ m, n = m + 1 := ⟨n - 1, by omega⟩
    have hs : siz Try.prog y_uint8 = some 1 := by kernel_rfl
    unfold zrow
    simp only [zer_u8, hs, Option.bind_some]
    have h3 : Nat.beq (Value.cells (.int .u8 0)).size 1 = true := rfl
    have h4 : Nat.blt 0 1 = true := rfl
    rw [h3, h4]
    simp only
    rw [← zerosV_u8]; rfl
  unfold makeV
  simp only [und_u8s, e1, e2, g1, Option.bind_some, g3, Nat.mul_one, Int.toNat_natCast, hb, e3, hz, g2]
theorem flat_bytesC (l : List Nat) : (bytesC l).flatten = u8s l := by
  induction l with
  | nil => rfl
  | cons a l ih => simp only [bytesC, u8s, List.map_cons, List.flatten_cons] at ih ⊢; rw [ih]; rfl
theorem u8s_set {l : List Nat} {i v : Nat} : (u8s l).set i (.int .u8 (v : Int)) = u8s (l.set i v) := by simp [u8s, List.map_set]
set_option maxRecDepth 4000 in
theorem split_First_c {ro : Ro} {c : List Nat} {n : Int} (hc : c.length = 256) (hcl : ∀ x ∈ c, x < 256) {h : T Obj} {nx : Nat} {K : KV} (hf : Fr h nx) (hK : ∀ r h' nx', nx ≤ nx' → Sub h h' → Fr h' nx' → Own h' r 1 y_uint8 (bytesC (firstZ c n)) nx nx' → K r h' nx') : callP Try.prog ro i_split_First [splitI c n] h nx K := by
  apply split_First_of
  unfold split_First
  refine newP_mk ?_
  have hg := splitLI_many (n := n) hc
  have g0 : (h.upd nx (some (.cells (Value.cells (splitI c n)) y_api_Split))).get nx = some (.cells (splitLI c n).toArray y_api_Split) := by rw [T.get_upd_same]; rfl
  have hs0 : Sub h (h.upd nx (some (.cells (Value.cells (splitI c n)) y_api_Split))) := (Sub.refl h).new hf (Nat.le_refl _)
  have hf0 : Fr (h.upd nx (some (.cells (Value.cells (splitI c n)) y_api_Split))) (nx + 1) := (hf.mono (Nat.le_succ _)).upd (Nat.le_refl _) (by omega)
  generalize (h.upd nx (some (.cells (Value.cells (splitI c n)) y_api_Split))) = h0 at g0 hs0 hf0
  (repeat (first | refine bindP_mk (by simp (disch := first | omega | exact Int.natCast_nonneg _ | assumption) only [BB, B2, ↓reduceIte, Nat.reduceLeDiff, Nat.reduceAdd, intB_eql, intB_neq, intB_lss, intB_leq, intB_gtr, intB_geq, g0, hg] <;> rfl) ?_ | refine newP_mk ?_ | refine optP_mk ?_ | with_reducible first | refine condP_t ?_ | refine condP_f ?_ | refine ifP_tt' ?_ | refine ifP_ff' ?_ | refine ifP_tf' ?_ | refine ifP_ft' ?_ | refine ifP_u' ?_ | refine optP_mk0 ?_))
  by_cases h1 : n < 1
  · rw [decide_eq_true h1]
    (repeat (first | refine bindP_mk (by simp (disch := first | omega | exact Int.natCast_nonneg _ | assumption) only [BB, B2, ↓reduceIte, Nat.reduceLeDiff, Nat.reduceAdd, intB_eql, intB_neq, intB_lss, intB_leq, intB_gtr, intB_geq, g0, hg] <;> rfl) ?_ | refine newP_mk ?_ | refine optP_mk ?_ | with_reducible first | refine condP_t ?_ | refine condP_f ?_ | refine ifP_tt' ?_ | refine ifP_ff' ?_ | refine ifP_tf' ?_ | refine ifP_ft' ?_ | refine ifP_u' ?_ | refine optP_mk0 ?_))
    exact ⟨h0, Sub.refl _, hK _ _ _ (by omega) hs0 (hf0.mono (by omega)) (by unfold firstZ; rw [if_pos (.inl h1)]; exact Own.nil)⟩
  rw [decide_eq_false h1]
  (repeat (first | refine bindP_mk (by simp (disch := first | omega | exact Int.natCast_nonneg _ | assumption) only [BB, B2, ↓reduceIte, Nat.reduceLeDiff, Nat.reduceAdd, intB_eql, intB_neq, intB_lss, intB_leq, intB_gtr, intB_geq, g0, hg] <;> rfl) ?_ | refine newP_mk ?_ | refine optP_mk ?_ | with_reducible first | refine condP_t ?_ | refine condP_f ?_ | refine ifP_tt' ?_ | refine ifP_ff' ?_ | refine ifP_tf' ?_ | refine ifP_ft' ?_ | refine ifP_u' ?_ | refine optP_mk0 ?_))
  by_cases h2 : 256 < n
  · rw [decide_eq_true h2]
    (repeat (first | refine bindP_mk (by simp (disch := first | omega | exact Int.natCast_nonneg _ | assumption) only [BB, B2, ↓reduceIte, Nat.reduceLeDiff, Nat.reduceAdd, intB_eql, intB_neq, intB_lss, intB_leq, intB_gtr, intB_geq, g0, hg] <;> rfl) ?_ | refine newP_mk ?_ | refine optP_mk ?_ | with_reducible first | refine condP_t ?_ | refine condP_f ?_ | refine ifP_tt' ?_ | refine ifP_ff' ?_ | refine ifP_tf' ?_ | refine ifP_ft' ?_ | refine ifP_u' ?_ | refine optP_mk0 ?_))
    exact ⟨h0, Sub.refl _, hK _ _ _ (by omega) hs0 (hf0.mono (by omega)) (by unfold firstZ; rw [if_pos (.inr h2)]; exact Own.nil)⟩
  rw [decide_eq_false h2]
  obtain ⟨k0, rfl⟩ : ∃ k0 : Nat, n = (k0 : Int) := ⟨n.toNat, by omega⟩
  (repeat (first | refine bindP_mk (by simp (disch := first | omega | exact Int.natCast_nonneg _ | assumption) only [BB, B2, ↓reduceIte, Nat.reduceLeDiff, Nat.reduceAdd, intB_eql, intB_neq, intB_lss, intB_leq, intB_gtr, intB_geq, g0, hg] <;> rfl) ?_ | refine newP_mk ?_ | refine optP_mk ?_ | with_reducible first | refine condP_t ?_ | refine condP_f ?_ | refine ifP_tt' ?_ | refine ifP_ff' ?_ | refine ifP_tf' ?_ | refine ifP_ft' ?_ | refine ifP_u' ?_ | refine optP_mk0 ?_))
  refine bindP_mk (make_u8 (by omega) (by omega)) (optP_mk ?_)
  generalize hN : nx + 7 + 1 + 1 + 3 = ob
  refine loopP_rule (fun j e h' nx' => ∃ i : Nat, i = j ∧ i ≤ 256 ∧ ob + 1 ≤ nx' ∧ e 1 = ptr nx ∧ e 3 = .slice (some (own ob 1)) k0 k0 ∧ e 4 = .int .i64 ((i : Int) - 1) ∧ Sub h h' ∧ Fr h' nx' ∧
    h'.get nx = some (.cells (splitLI c k0).toArray y_api_Split) ∧ h'.get ob = some (.cells (u8s ((List.range k0).map fun k => lb c k i)).toArray y_uint8)) ?_ (n := 256) ⟨256, rfl, by omega, by omega, rfl, rfl, rfl, ?_, ?_, ?_, ?_⟩
  · rintro j e h' nx' ⟨i, rfl, hi, hnx, e1, e3, e4, hs, hf', g0, g1⟩ Q' hq hx
    unfold split_First_L1
    rw [e1, e3, e4]
    (repeat (first | refine bindP_mk (by simp (disch := first | omega | exact Int.natCast_nonneg _ | assumption) only [BB, B2, ↓reduceIte, Nat.reduceLeDiff, Nat.reduceAdd, intB_eql, intB_neq, intB_lss, intB_leq, intB_gtr, intB_geq] <;> rfl) ?_ | refine newP_mk ?_ | refine optP_mk ?_ | with_reducible first | refine condP_t ?_ | refine condP_f ?_ | refine ifP_tt' ?_ | refine ifP_ff' ?_ | refine ifP_tf' ?_ | refine ifP_ft' ?_ | refine ifP_u' ?_ | refine optP_mk0 ?_))
    by_cases hi0 : 0 < i
    · refine condP_tr (by simp; omega) ?_
      obtain ⟨b, rfl⟩ : ∃ b, i = b + 1 := ⟨i - 1, by omega⟩
      have hbb : (((b + 1 : Nat) : Int) - 1) = (b : Int) := by omega
      rw [hbb] at e4 ⊢
      have hbc : b < c.length := by omega
      have hcb := hcl _ (List.getElem_mem hbc)
      have hgb := splitLI_get (n := (k0 : Int)) hbc
      have hgd : c.getD b 0 = c[b] := by rw [List.getD_eq_getElem?_getD, List.getElem?_eq_getElem hbc]; rfl
      (repeat (first | refine bindP_mk (by simp (disch := first | omega | exact Int.natCast_nonneg _ | assumption) only [BB, B2, ↓reduceIte, Nat.reduceLeDiff, Nat.reduceAdd, intB_eql, intB_neq, intB_lss, intB_leq, intB_gtr, intB_geq, g0, hg, hgb] <;> rfl) ?_ | refine newP_mk ?_ | refine optP_mk ?_ | with_reducible first | refine condP_t ?_ | refine condP_f ?_ | refine ifP_tt' ?_ | refine ifP_ff' ?_ | refine ifP_tf' ?_ | refine ifP_ft' ?_ | refine ifP_u' ?_ | refine optP_mk0 ?_))
      have hj2 : ∀ (e : Env) (h2 : T Obj) (n2 : Nat), nx' ≤ n2 → e 1 = ptr nx → e 3 = .slice (some (own ob 1)) k0 k0 → e 4 = .int .i64 (b : Int) → Sub h h2 → Fr h2 n2 → h2.get nx = some (.cells (splitLI c k0).toArray y_api_Split) →
          h2.get ob = some (.cells (u8s ((List.range k0).map fun k => lb c k b)).toArray y_uint8) → split_First_j2 ro Q' e h2 n2 := by
        intro e h2 n2 hn2 e1 e3 e4 hs2 hf2 g0 g1
        unfold split_First_j2
        rw [e4]
        (repeat (first | refine bindP_mk (by simp (disch := first | omega | exact Int.natCast_nonneg _ | assumption) only [BB, B2, ↓reduceIte, Nat.reduceLeDiff, Nat.reduceAdd, intB_eql, intB_neq, intB_lss, intB_leq, intB_gtr, intB_geq] <;> rfl) ?_ | refine newP_mk ?_ | refine optP_mk ?_ | with_reducible first | refine condP_t ?_ | refine condP_f ?_ | refine ifP_tt' ?_ | refine ifP_ff' ?_ | refine ifP_tf' ?_ | refine ifP_ft' ?_ | refine ifP_u' ?_ | refine optP_mk0 ?_))
        exact hq b _ _ _ _ (by omega) ⟨b, rfl, by omega, by omega, e1, e3, rfl, hs2, hf2.mono (by omega), g0, g1⟩ (Sub.refl _)
      have hlb : ∀ k, lb c k b = if c[b] = k then b else lb c k (b + 1) := fun k => by rw [lb_step (by omega), hgd]
      by_cases hlt : c[b] < k0
      · refine condP_tr (by simp; omega) ?_
        (repeat (first | refine bindP_mk (by simp (disch := first | omega | exact Int.natCast_nonneg _ | assumption) only [BB, B2, ↓reduceIte, Nat.reduceLeDiff, Nat.reduceAdd, intB_eql, intB_neq, intB_lss, intB_leq, intB_gtr, intB_geq] <;> rfl) ?_ | refine newP_mk ?_ | refine optP_mk ?_ | with_reducible first | refine condP_t ?_ | refine condP_f ?_ | refine ifP_tt' ?_ | refine ifP_ff' ?_ | refine ifP_tf' ?_ | refine ifP_ft' ?_ | refine ifP_u' ?_ | refine optP_mk0 ?_))
        refine bindP_mk (ixSl_own _ hlt) ?_
        have hul : (u8s ((List.range k0).map fun k => lb c k (b + 1))).length = k0 := by rw [u8s_len, List.length_map, List.length_range]
        refine bindP_mk (store1_own g1 (by rw [hul]; omega) rfl rfl) ?_
        refine hj2 _ _ _ (by omega) e1 e3 e4 (hs.new hf (by omega)) ((hf'.mono (by omega)).upd (Nat.le_refl _) (by omega)) ?_ ?_
        · simp (disch := first | omega | exact Int.natCast_nonneg _ | assumption) only [BB, B2, ↓reduceIte, Nat.reduceLeDiff, Nat.reduceAdd, intB_eql, intB_neq, intB_lss, intB_leq, intB_gtr, intB_geq, g0]
        · rw [T.get_upd_same, Nat.mul_one, u8s_set]
          congr 4
          apply List.ext_getElem
          · simp
          · intro q h5 h6
            simp only [List.getElem_set, List.getElem_map, List.getElem_range, hlb]
      · refine condP_fa (by simp; omega) ?_
        refine hj2 _ _ _ (by omega) e1 e3 e4 hs (hf'.mono (by omega)) g0 ?_
        rw [g1]
        congr 4
        apply List.map_congr_left
        intro k hk
        have hk := List.mem_range.1 hk
        rw [hlb, if_neg (by omega)]
    · refine condP_fa (by simp; omega) ?_
      refine hx _ _ _ _ (fun e => by cases e) (exP_e (beqP_t ?_))
      have hi2 : i = 0 := by omega
      subst hi2
      unfold split_First_j1
      have f3 : ∀ a b, Env.put (Env.put e 17 a) 18 b 3 = .slice (some (own ob 1)) k0 k0 := fun a b => e3
      simp only [puts, f3]
      have hfz : firstZ c (k0 : Int) = (List.range k0).map fun k => lb c k 0 := by unfold firstZ; rw [if_neg (by omega)]; simp
      refine ⟨h', Sub.refl _, hK _ _ _ (by omega) hs (hf'.mono (by omega)) ?_⟩
      rw [hfz]
      refine .inr ⟨ob, by omega, by omega, ?_, by simp [bytesC], by rw [flat_bytesC]; exact g1⟩
      rw [bytesC_len, List.length_map, List.length_range]
  · exact hs0.new hf (by omega)
  · exact (hf0.mono (by omega)).upd (Nat.le_refl _) (by omega)
  · simp (disch := first | omega | exact Int.natCast_nonneg _ | assumption) only [BB, B2, ↓reduceIte, Nat.reduceLeDiff, Nat.reduceAdd, intB_eql, intB_neq, intB_lss, intB_leq, intB_gtr, intB_geq, g0]
  · rw [T.get_upd_same]
    congr 4
    apply List.ext_getElem
    · simp
    · intro q h5 h6
      simp [lb_end]
end V
end Go.Proofs.Ytmmdcdjkmakgpaa
set_option linter.unusedVariables false
set_option linter.unusedSimpArgs false
namespace Go.Proofs.Ytmmdcdjkmakgpaa
set_option maxRecDepth 20000
namespace V
open PA
theorem cls_getD {l : List Nat} {b : Nat} (hb : b < 256) : (cls l).getD b 0 = ix (sigs l) (sig l b) := by
  rw [List.getD_eq_getElem?_getD, cls_get hb]; rfl
theorem cls_eq {l : List Nat} {a b : Nat} (ha : a < 256) (hb : b < 256) : (cls l).getD a 0 = (cls l).getD b 0 ↔ sig l a = sig l b := by
  rw [cls_getD ha, cls_getD hb]
  constructor
  · intro h
    exact idx_inj (sig_mem ha) (sig_mem hb) h
  · intro h; rw [h]
theorem cls_many {l : List Nat} {b : Nat} (hb : b < 256) : (cls l).getD b 0 < many l := by rw [cls_getD hb]; exact cls_lt hb
theorem cls_bound {l : List Nat} : ∀ x ∈ cls l, x < 256 := by
  intro x hx
  obtain ⟨i, hi⟩ := List.mem_iff_getElem?.1 hx
  have hlt := (List.getElem?_eq_some_iff.1 hi).1
  rw [cls_length] at hlt
  rw [cls_get hlt] at hi
  have := cls_lt (l := l) hlt
  have := many_le l
  have := Option.some.inj hi
  omega
theorem lb_spec {c : List Nat} {k b : Nat} (hb : b < 256) (hk : c.getD b 0 = k) : lb c k 0 ≤ b ∧ c.getD (lb c k 0) 0 = k ∧ ∀ j, j < lb c k 0 → c.getD j 0 ≠ k := by
  have key : ∀ n i, i + n = 256 → i ≤ b → lb c k i ≤ b ∧ i ≤ lb c k i ∧ c.getD (lb c k i) 0 = k ∧ ∀ j, i ≤ j → j < lb c k i → c.getD j 0 ≠ k := by
    intro n
    induction n with
    | zero => intro i h1 h2; omega
    | succ n ih =>
      intro i h1 h2
      rw [lb_step (by omega)]
      by_cases h : c.getD i 0 = k
      · rw [if_pos h]; exact ⟨h2, Nat.le_refl _, h, fun j h3 h4 => by omega⟩
      · rw [if_neg h]
        have hib : i ≠ b := fun e => h (by rw [e]; exact hk)
        obtain ⟨q1, q2, q3, q4⟩ := ih (i + 1) (by omega) (by omega)
        refine ⟨q1, by omega, q3, fun j h3 h4 => ?_⟩
        rcases Nat.eq_or_lt_of_le h3 with e | e
        · subst e; exact h
        · exact q4 j e h4
  obtain ⟨q1, _, q3, q4⟩ := key 256 0 (by omega) (by omega)
  exact ⟨q1, q3, fun j hj => q4 j (by omega) hj⟩
theorem cls_has {l : List Nat} {k : Nat} (hk : k < many l) : ∃ b, b < 256 ∧ (cls l).getD b 0 = k := by
  have hm : (dd (sigs l))[k]'hk ∈ sigs l := mem_dd.1 (List.getElem_mem hk)
  obtain ⟨b, hb, e⟩ := List.mem_map.1 hm
  have hb := mem_bs.1 hb
  refine ⟨b, hb, ?_⟩
  rw [cls_getD hb, e]
  have h1 : (dd (sigs l))[k]? = some ((dd (sigs l))[k]'hk) := List.getElem?_eq_getElem hk
  unfold ix
  refine pos_of h1 fun j hj h2 => ?_
  have hn := nodup_dd (sigs l)
  have hj2 := (List.getElem?_eq_some_iff.1 h2).1
  rw [List.getElem?_eq_getElem hj2] at h2
  exact List.pairwise_iff_getElem.1 hn j k hj2 hk hj (Option.some.inj h2)
theorem lb_cls {l : List Nat} {k : Nat} (hk : k < many l) : lb (cls l) k 0 < 256 ∧ (cls l).getD (lb (cls l) k 0) 0 = k ∧ ∀ j, j < lb (cls l) k 0 → (cls l).getD j 0 ≠ k := by
  obtain ⟨b, hb, e⟩ := cls_has hk
  obtain ⟨h1, h2, h3⟩ := lb_spec hb e
  exact ⟨by omega, h2, h3⟩
theorem cls_le_ahead {l : List Nat} {i : Nat} (hi : i < 256) : (cls l).getD i 0 ≤ (dd ((sigs l).take i)).length := by
  have hsl : i < (sigs l).length := by rw [sigs_length]; exact hi
  have hse : (sigs l)[i] = sig l i := by have := sigs_get (l := l) hi; rw [List.getElem?_eq_getElem hsl] at this; exact Option.some.inj this
  have htake : (sigs l).take (i + 1) = (sigs l).take i ++ [sig l i] := by rw [List.take_succ_eq_append_getElem hsl, hse]
  have h2 := idx_stable (l := (sigs l).take (i + 1)) (m := (sigs l).drop (i + 1)) (p := sig l i) (by rw [htake]; simp)
  rw [List.take_append_drop] at h2
  rw [cls_getD hi, h2]
  have h3 := idx_lt (l := (sigs l).take (i + 1)) (p := sig l i) (by rw [htake]; simp)
  have h4 : (dd ((sigs l).take (i + 1))).length ≤ (dd ((sigs l).take i)).length + 1 := by rw [htake, dd_append]; exact addN_length _ _
  omega
theorem many_pos (l : List Nat) : 0 < many l := by
  have := cls_many (l := l) (b := 0) (by omega)
  omega
theorem firstZ_cls (l : List Nat) : firstZ (cls l) (many l : Int) = (List.range (many l)).map fun k => lb (cls l) k 0 := by
  unfold firstZ
  have h1 := many_pos l
  have h2 := many_le l
  rw [if_neg (by omega)]; simp
theorem rt_cls (l : List Nat) : ∀ i, i ≤ 256 → rt (cls l) i = some (dd ((sigs l).take i)).length := by
  intro i
  induction i with
  | zero => intro _; rfl
  | succ i ih =>
    intro hi
    simp only [rt, ih (by omega), Option.bind_some]
    have h1 := cls_le_ahead (l := l) (i := i) (by omega)
    rw [if_neg (by omega)]
    have hsl : i < (sigs l).length := by rw [sigs_length]; omega
    have hse : (sigs l)[i] = sig l i := by have := sigs_get (l := l) (b := i) (by omega); rw [List.getElem?_eq_getElem hsl] at this; exact Option.some.inj this
    have htake : (sigs l).take (i + 1) = (sigs l).take i ++ [sig l i] := by rw [List.take_succ_eq_append_getElem hsl, hse]
    rw [htake, dd_append]
    by_cases hm : sig l i ∈ dd ((sigs l).take i)
    · have h2 : (cls l).getD i 0 < (dd ((sigs l).take i)).length := by
        have h4 := idx_stable (l := (sigs l).take i) (m := (sigs l).drop i) (p := sig l i) (mem_dd.1 hm)
        rw [List.take_append_drop] at h4
        rw [cls_getD (by omega), h4]
        exact idx_lt (mem_dd.1 hm)
      rw [if_neg (by omega)]
      unfold addN; rw [if_pos hm]
    · have h2 : (cls l).getD i 0 = (dd ((sigs l).take i)).length := by
        have h4 := idx_stable (l := (sigs l).take (i + 1)) (m := (sigs l).drop (i + 1)) (p := sig l i) (by rw [htake]; simp)
        rw [List.take_append_drop] at h4
        rw [cls_getD (by omega), h4, htake, ix_new hm]
      rw [if_pos h2]
      unfold addN; rw [if_neg hm]; simp
theorem right_cls (l : List Nat) : rightB (cls l) (many l : Int) = true := by
  unfold rightB
  rw [rt_cls l 256 (Nat.le_refl _), List.take_of_length_le (by rw [sigs_length]; omega)]
  simp [many]
end V
end Go.Proofs.Ytmmdcdjkmakgpaa
set_option linter.unusedVariables false
set_option linter.unusedSimpArgs false
namespace Go.Proofs.Ytmmdcdjkmakgpaa
namespace V
open PA
attribute [local irreducible] bindP ifP condP newP optP exP beqP
theorem build_bld (a b : Value) (i1 i4 i5 i6 : Nat) : buildV Try.prog y_auto_builder [(0, .agg #[a, b]), (1, .map (some i1)), (4, .map (some i4)), (5, .map (some i5)), (6, .map (some i6))] = some (.agg (bldL a b (.map (some i1)) nilS (List.replicate 256 0) 0 nilS nilS (.map (some i4)) (.map (some i5)) (.map (some i6))).toArray) := by kernel_rfl
theorem lit_Set (aid x : Nat) : sliceLitV Try.prog y_s_api_Set aid 1 [(0, setV x)] = some (.slice (some (own aid 4)) 1 1, some (.cells (setL x).toArray y_api_Set)) := by kernel_rfl
theorem und_sSet : und Try.prog y_s_api_Set = some (.slice y_api_Set) := by kernel_rfl
theorem tin_Set : ∃ i, tin Try.prog y_api_Set = some i ∧ i.size = 4 ∧ i.bytes = 32 := tinOf (by kernel_rfl)
theorem app_Set {ro : Ro} {h : T Obj} {v : Value} {nx n1 n2 lo : Nat} {l : List Nat} {m : Nat} {K : Value × Option Obj → T Obj → Value × T Obj × Nat → Prop} (ho : OwnT h v 4 y_api_Set (setsC l) lo) (hl : l.length ≤ 1000000) (hf : Fr h nx) (hlo : lo ≤ nx) (hn1 : nx ≤ n1) (hn2 : n1 < n2)
    (hK : ∀ h' w, OwnT h' w 4 y_api_Set (setsC (l ++ [m])) lo → Kp v h h' → Fr h' (n2 + 1) → K (.slice (some (own n1 4)) 1 1, some (.cells (setL m).toArray y_api_Set)) (h.upd n1 (some (.cells (setL m).toArray y_api_Set))) (w, h', n2 + 1)) :
    bindP (sliceLitV Try.prog y_s_api_Set n1 1 [(0, setV m)]) fun r => optP h n1 r.2 fun h' => bindP (appendV Try.prog ro h' n2 #[y_s_api_Set, y_s_api_Set] [v, r.1]) (K r h') := by
  obtain ⟨i, g1, g2, g3⟩ := tin_Set
  have e : setsC l ++ [setL m] = setsC (l ++ [m]) := by simp [setsC]
  have el := setsC_len l
  refine append_lit (z := 4) (l := setsC l) (y := setL m) (lit_Set _ _) rfl ho und_sSet g1 g2 (by omega) zer_Set rfl rfl (by rw [el, g3]; unfold big; omega) (by rw [el]; unfold big; omega) hf hlo hn1 hn2 fun h' q1 q2 q3 => ?_
  rw [e] at q1 ⊢
  exact hK h' _ q1 q2 q3
def cntC (l : List (Int × Int)) : List (List Value) := l.map fun p => [Value.int .i64 p.1, Value.int .i64 p.2]
theorem cntC_len (l : List (Int × Int)) : (cntC l).length = l.length := by simp [cntC]
theorem lit_cnt (aid : Nat) (a b : Value) : sliceLitV Try.prog y_s_a2_int aid 1 [(0, .agg #[a, b])] = some (.slice (some (own aid 2)) 1 1, some (.cells [a, b].toArray y_a2_int)) := by kernel_rfl
theorem build_cnt (a b : Int) : buildV Try.prog y_a2_int [(0, .int .i64 a), (1, .int .i64 b)] = some (.agg #[.int .i64 a, .int .i64 b]) := by kernel_rfl
theorem und_scnt : und Try.prog y_s_a2_int = some (.slice y_a2_int) := by kernel_rfl
theorem tin_cnt : ∃ i, tin Try.prog y_a2_int = some i ∧ i.size = 2 ∧ i.bytes = 16 := tinOf (by kernel_rfl)
theorem zer_cnt : zer Try.prog y_a2_int = some (.agg #[.int .i64 0, .int .i64 0]) := by kernel_rfl
theorem app_cnt {ro : Ro} {h : T Obj} {v : Value} {nx n1 n2 lo : Nat} {l : List (Int × Int)} {a b : Int} {K : Value × Option Obj → T Obj → Value × T Obj × Nat → Prop} (ho : OwnT h v 2 y_a2_int (cntC l) lo) (hl : l.length ≤ 1000000) (hf : Fr h nx) (hlo : lo ≤ nx) (hn1 : nx ≤ n1) (hn2 : n1 < n2)
    (hK : ∀ h' w, OwnT h' w 2 y_a2_int (cntC (l ++ [(a, b)])) lo → Kp v h h' → Fr h' (n2 + 1) → K (.slice (some (own n1 2)) 1 1, some (.cells [Value.int .i64 a, Value.int .i64 b].toArray y_a2_int)) (h.upd n1 (some (.cells [Value.int .i64 a, Value.int .i64 b].toArray y_a2_int))) (w, h', n2 + 1)) :
    bindP (sliceLitV Try.prog y_s_a2_int n1 1 [(0, .agg #[.int .i64 a, .int .i64 b])]) fun r => optP h n1 r.2 fun h' => bindP (appendV Try.prog ro h' n2 #[y_s_a2_int, y_s_a2_int] [v, r.1]) (K r h') := by
  obtain ⟨i, g1, g2, g3⟩ := tin_cnt
  have e : cntC l ++ [[Value.int .i64 a, Value.int .i64 b]] = cntC (l ++ [(a, b)]) := by simp [cntC]
  have el := cntC_len l
  refine append_lit (z := 2) (l := cntC l) (y := [.int .i64 a, .int .i64 b]) (lit_cnt _ _ _) rfl ho und_scnt g1 g2 (by omega) zer_cnt rfl rfl (by rw [el, g3]; unfold big; omega) (by rw [el]; unfold big; omega) hf hlo hn1 hn2 fun h' q1 q2 q3 => ?_
  rw [e] at q1 ⊢
  exact hK h' _ q1 q2 q3
theorem cntsL_snoc (l : List PosD) (p : PosD) : cntsL (l ++ [p]) = if 1 < p.hi then cntsL l ++ [(p.lo, p.hi)] else cntsL l := by
  unfold cntsL
  rw [List.filter_append]
  by_cases h : 1 < p.hi
  · rw [if_pos h, List.filter_cons_of_pos (by unfold ctdP; exact decide_eq_true h)]; simp
  · rw [if_neg h, List.filter_cons_of_neg (by unfold ctdP; simpa using h)]; simp
theorem numZ_cnts {g : GlD} (k : Nat) : numZ g (k : Int) = ((cntsL (g.p.take k)).length : Nat) := by
  unfold numZ cntsL
  rw [Int.toNat_natCast, List.length_map]
theorem cntsL_len (l : List PosD) : (cntsL l).length ≤ l.length := by
  unfold cntsL
  rw [List.length_map]; exact List.length_filter_le _ _
section
variable {ro : Ro} {g : GlD} {bid nid rid gid : Nat} {av bv : Value}
set_option maxRecDepth 8000 in
set_option maxHeartbeats 1000000 in
theorem Of_L3_c {kid eid yid : Nat} {e : Env} (hr : rightD g = true) {h : T Obj} {nx : Nat} {Q : KE} (hf : Fr h nx) (hP : SlR ro (del h [bid, nid]) bv 9 (RPos ro (del h [bid, nid])) g.p)
    (hb : h.get bid = some (.cells (bldL av bv (.map (some nid)) nilS (List.replicate 256 0) 0 nilS nilS (.map (some kid)) (.map (some eid)) (.map (some yid))).toArray y_auto_builder)) (hn : h.get nid = some (.map #[] 0))
    (e1 : e 1 = ptr gid) (e2 : e 2 = ptr rid) (e4 : e 4 = ptr bid) (e5 : e 5 = nilS) (e23 : e 23 = bv) (e24 : e 24 = .int .i64 g.p.length) (e25 : e 25 = .int .i64 0)
    (hQ : ∀ e' h' nx' sv cv f, nx ≤ nx' → Fr h' nx' → Keep [bid, nid] h h' → h'.get bid = some (.cells (bldL av bv (.map (some nid)) nilS (List.replicate 256 0) 0 cv nilS (.map (some kid)) (.map (some eid)) (.map (some yid))).toArray y_auto_builder) → MapG injI h' nid f → NOk g f → OwnT h' sv 4 y_api_Set (setsC (setsL g.p)) nx → OwnT h' cv 2 y_a2_int (cntC (cntsL g.p)) nx →
      e' 2 = ptr rid → e' 4 = ptr bid → e' 5 = sv → Q (.exit 0) e' h' nx') :
    loopP (auto_Of_L3 ro) e h nx Q := by
  obtain ⟨hgl, hfr, hmay⟩ := right_parts hr
  have hbl := hf.lt' hb
  have hnl := hf.lt' hn
  have hbn : bid ≠ nid := by rintro rfl; rw [hb] at hn; cases hn
  refine loopP_rule (fun j e h' nx' => ∃ (k : Nat) (cv : Value) (f : Int → Option Value), k + j = g.p.length ∧ nx ≤ nx' ∧ Fr h' nx' ∧ Keep [bid, nid] h h' ∧ h'.get bid = some (.cells (bldL av bv (.map (some nid)) nilS (List.replicate 256 0) 0 cv nilS (.map (some kid)) (.map (some eid)) (.map (some yid))).toArray y_auto_builder) ∧
    MapG injI h' nid f ∧ (∀ q, 0 ≤ q → f q = if (decide (q < k) && ctd g q) = true then some (.int .i64 (numZ g q)) else none) ∧ OwnT h' (e 5) 4 y_api_Set (setsC (setsL (g.p.take k))) nx ∧ OwnT h' cv 2 y_a2_int (cntC (cntsL (g.p.take k))) nx ∧
    e 1 = ptr gid ∧ e 2 = ptr rid ∧ e 4 = ptr bid ∧ e 23 = bv ∧ e 24 = .int .i64 g.p.length ∧ e 25 = .int .i64 k) ?_ (n := g.p.length)
    ⟨0, nilS, fun _ => none, by omega, by omega, hf, (Sub.refl h).keepL, hb, MapG.new hn, fun q hq => by rw [decide_eq_false (by omega)]; rfl, by rw [e5]; exact OwnT.nil, OwnT.nil, e1, e2, e4, e23, e24, e25⟩
  rintro j e' h' nx' ⟨k, cv, f, hj, hnx, hf', hkp, hb', hm', hfo, hsv, hcv, f1, f2, f4, f23, f24, f25⟩ Q' hq hx
  unfold auto_Of_L3
  rw [f4, f23, f24, f25]
  have hsub : Sub (del h [bid, nid]) h' := hkp.delS fun _ h => h
  refine lss_s (fun hk => ?_) (fun hk => ?_)
  · have hk : k < g.p.length := by omega
    have hP' : SlR ro h' bv 9 (RPos ro h') g.p := hP.sub hsub (RPos.sub hsub)
    obtain ⟨x, ⟨nv, rfl, y1, y2⟩, x2, x3, x4, x5⟩ := hP'.at hk
    have hat := at_nat hk
    have htk : g.p.take (k + 1) = g.p.take k ++ [g.p[k]] := List.take_succ_eq_append_getElem hk
    have hcd : ctd g (k : Int) = decide (1 < g.p[k].hi) := by unfold ctd; rw [hat]
    have hnum := numZ_cnts (g := g) k
    have hst : setsL (g.p.take (k + 1)) = setsL (g.p.take k) ++ [g.p[k].s] := by rw [htk]; unfold setsL; rw [List.map_append]; rfl
    have hct := cntsL_snoc (g.p.take k) g.p[k]
    rw [← htk] at hct
    have hsl : (setsL (g.p.take k)).length ≤ 512 := by unfold setsL; rw [List.length_map, List.length_take]; omega
    have hcl : (cntsL (g.p.take k)).length ≤ 512 := by have := cntsL_len (g.p.take k); rw [List.length_take] at this; omega
    -- the end of a round
    have hj4 : ∀ (e : Env) (h4 : T Obj) (n4 : Nat) (cv' : Value) (f' : Int → Option Value), nx' ≤ n4 → Fr h4 n4 → Keep [bid, nid] h h4 → h4.get bid = some (.cells (bldL av bv (.map (some nid)) nilS (List.replicate 256 0) 0 cv' nilS (.map (some kid)) (.map (some eid)) (.map (some yid))).toArray y_auto_builder) →
        MapG injI h4 nid f' → (∀ q, 0 ≤ q → f' q = if (decide (q < ((k + 1 : Nat) : Int)) && ctd g q) = true then some (.int .i64 (numZ g q)) else none) → OwnT h4 (e 5) 4 y_api_Set (setsC (setsL (g.p.take (k + 1)))) nx → OwnT h4 cv' 2 y_a2_int (cntC (cntsL (g.p.take (k + 1)))) nx →
        e 1 = ptr gid → e 2 = ptr rid → e 4 = ptr bid → e 23 = bv → e 24 = .int .i64 g.p.length → e 25 = .int .i64 k → auto_Of_j4 ro Q' e h4 n4 := by
      intro e h4 n4 cv' f' hn4 s1 s2 s3 s4 s5 s6 s7 f1 f2 f4 f23 f24 f25
      unfold auto_Of_j4
      rw [f25]
      (repeat (first | refine bindP_mk (by simp (disch := first | omega | exact Int.natCast_nonneg _ | assumption) only [BB, B2, ↓reduceIte, Nat.reduceLeDiff, Nat.reduceAdd, CC] <;> rfl) ?_ | refine newP_mk ?_ | refine optP_mk ?_ | with_reducible first | refine condP_t ?_ | refine condP_f ?_ | refine ifP_tt' ?_ | refine ifP_ff' ?_ | refine ifP_tf' ?_ | refine ifP_ft' ?_ | refine ifP_u' ?_ | refine optP_mk0 ?_))
      exact hq (j - 1) _ _ _ _ (by omega) ⟨k + 1, cv', f', by omega, by omega, s1.mono (by omega), s2, s3, s4, s5, s6, s7, f1, f2, f4, f23, f24, rfl⟩ (Sub.refl _)
    refine condP_t (bindP_mk (hP'.ix _ hk) (bindP_mk x3 ?_))
    refine local_mk zer_PosZ rfl (x := posL g.p[k] nv) rfl rfl (posL_ok y1.ok) hf' (show nx' ≤ nx' + 4 by omega) fun h3 hs3 hf3 g3 _ => ?_
    have hld : loadA ro h3 4 (at_ (nx' + 4) 0 0) = some (setV g.p[k].s) := by
      rw [loadA_own, g3, cellsIn_some]
      simp only [Option.bind_some, tl]
      rw [if_pos (by show 0 + 4 ≤ 9; omega)]; rfl
    (repeat (first | refine bindP_mk (by simp (disch := first | omega | exact Int.natCast_nonneg _ | assumption) only [BB, B2, ↓reduceIte, Nat.reduceLeDiff, Nat.reduceAdd, CC, hld] <;> rfl) ?_ | refine newP_mk ?_ | refine optP_mk ?_ | with_reducible first | refine condP_t ?_ | refine condP_f ?_ | refine ifP_tt' ?_ | refine ifP_ff' ?_ | refine ifP_tf' ?_ | refine ifP_ft' ?_ | refine ifP_u' ?_ | refine optP_mk0 ?_))
    refine app_Set (hsv.keepS hs3) (by omega) (hf3.mono (show nx' + 4 + 1 ≤ nx' + 10 by omega)) (by omega) (by omega) (by omega) fun h4 w q1 q2 q3 => ?_
    dsimp only
    have hsv3 := hsv.keepS hs3
    have hne : ∀ i o, h3.get i = some o → (∀ c f, o ≠ .cells c y_api_Set f) → h4.get i = some o := fun i o hi hty => q2 i o hi (hsv3.neB hi hty)
    have hb4 := hne _ _ (hs3 _ _ hb') (by intro c f e; simp only [Obj.cells.injEq] at e; exact absurd e.2.1 (by decide))
    have g4 := hne _ _ g3 (by intro c f e; simp only [Obj.cells.injEq] at e; exact absurd e.2.1 (by decide))
    have hm4 : MapG injI h4 nid f := by
      obtain ⟨es, c9, ps, a1, a2, a3⟩ := hm'
      exact ⟨es, c9, ps, hne _ _ (hs3 _ _ a1) (by intro c f e; cases e), a2, a3⟩
    have hk4 : Keep [bid, nid] h h4 := fun i o hi hn9 => by
      have := hf.lt' hi
      refine q2 i o (hs3 _ _ (hkp i o hi hn9)) fun e => ?_
      have := (hsv3.blk e).1
      omega
    have hcv4 : OwnT h4 cv 2 y_a2_int (cntC (cntsL (g.p.take k))) nx := (hcv.keepS hs3).keep q2 fun id hid => by
      obtain ⟨_, z⟩ := (hcv.keepS hs3).blk hid
      exact hsv3.neB z (by intro c f e; simp only [Obj.cells.injEq] at e; exact absurd e.2.1 (by decide))
    rw [← hst] at q1
    have p5 : (posL g.p[k] nv)[5]? = some (.int .i64 g.p[k].hi) := rfl
    have p4 : (posL g.p[k] nv)[4]? = some (.int .i64 g.p[k].lo) := rfl
    (repeat (first | refine bindP_mk (by simp (disch := first | omega | exact Int.natCast_nonneg _ | assumption) only [BB, B2, ↓reduceIte, Nat.reduceLeDiff, Nat.reduceAdd, CC, g4, p5] <;> rfl) ?_ | refine newP_mk ?_ | refine optP_mk ?_ | with_reducible first | refine condP_t ?_ | refine condP_f ?_ | refine ifP_tt' ?_ | refine ifP_ff' ?_ | refine ifP_tf' ?_ | refine ifP_ft' ?_ | refine ifP_u' ?_ | refine optP_mk0 ?_))
    refine gtr_s (fun u1 => ?_) (fun u1 => ?_)
    · rw [if_pos u1] at hct
      rw [decide_eq_true u1] at hcd
      have b2 := bldL_2 (av := av) (bv := bv) (nv := .map (some nid)) (fv := nilS) (c := List.replicate 256 0) (n := 0) (cv := cv) (sv := nilS) (kv := .map (some kid)) (ev := .map (some eid)) (yv := .map (some yid))
      have b261 := bldL_261 (av := av) (bv := bv) (nv := .map (some nid)) (fv := nilS) (c := List.replicate 256 0) (n := 0) (cv := cv) (sv := nilS) (kv := .map (some kid)) (ev := .map (some eid)) (yv := .map (some yid)) List.length_replicate
      have hcn := (hcv4.sl (ro := ro)).len
      rw [cntC_len] at hcn
      obtain ⟨es, ec, r1, r2⟩ := put_ii hm4 (k : Int) (.int .i64 (cntsL (g.p.take k)).length)
      (repeat (first | refine bindP_mk (by simp (disch := first | omega | exact Int.natCast_nonneg _ | assumption) only [BB, B2, ↓reduceIte, Nat.reduceLeDiff, Nat.reduceAdd, CC, nilCk_at, hb4, b2, b261, hcn, r1] <;> rfl) ?_ | refine newP_mk ?_ | refine optP_mk ?_ | with_reducible first | refine condP_t ?_ | refine condP_f ?_ | refine ifP_tt' ?_ | refine ifP_ff' ?_ | refine ifP_tf' ?_ | refine ifP_ft' ?_ | refine ifP_u' ?_ | refine optP_mk0 ?_))
      have hb5 : (h4.upd nid (some (.map es ec))).get bid = _ := (T.get_upd_ne _ _ hbn).trans hb4
      have hm5 := r2 (h4.upd nid (some (.map es ec))) (by rw [T.get_upd_same])
      have hnn : ∀ {v : Value} {z lo : Nat} {e : TypeId} {l : List (List Value)}, OwnT h4 v z e l lo → OwnT (h4.upd nid (some (.map es ec))) v z e l lo := fun ho => by
        rcases ho with ho | ⟨id, o1, rfl, o4, o5⟩
        · exact .inl ho
        · refine .inr ⟨id, o1, rfl, o4, ?_⟩
          rw [T.get_upd_ne _ _ (by rintro rfl; obtain ⟨_, _, q⟩ := hm4.obj; rw [q] at o5; cases o5)]; exact o5
      have hcv5 := hnn hcv4
      have hsv5 := hnn q1
      have g5 : (h4.upd nid (some (.map es ec))).get (nx' + 4) = _ := (T.get_upd_ne _ _ (by omega)).trans g4
      have hk5 : Keep [bid, nid] h (h4.upd nid (some (.map es ec))) := hk4.upd (by simp)
      have hf5 : Fr (h4.upd nid (some (.map es ec))) (nx' + 12 + 1) := q3.upd (Nat.le_refl _) (by omega)
      have hn5 : (h4.upd nid (some (.map es ec))).get nid = some (.map es ec) := T.get_upd_same _ _ _
      generalize h4.upd nid (some (.map es ec)) = h5 at hb5 hm5 hcv5 hsv5 g5 hk5 hf5 hn5
      (repeat (first | refine bindP_mk (by simp (disch := first | omega | exact Int.natCast_nonneg _ | assumption) only [BB, B2, ↓reduceIte, Nat.reduceLeDiff, Nat.reduceAdd, CC, nilCk_at, hb5, b261, g5, p4, p5] <;> rfl) ?_ | refine newP_mk ?_ | refine optP_mk ?_ | with_reducible first | refine condP_t ?_ | refine condP_f ?_ | refine ifP_tt' ?_ | refine ifP_ff' ?_ | refine ifP_tf' ?_ | refine ifP_ft' ?_ | refine ifP_u' ?_ | refine optP_mk0 ?_))
      refine bindP_mk (build_cnt _ _) ?_
      refine app_cnt hcv5 (by omega) (hf5.mono (show nx' + 12 + 1 ≤ nx' + 12 + 1 + 27 by omega)) (by omega) (by omega) (by omega) fun h6 w6 s1 s2 s3 => ?_
      dsimp only
      rw [← hct] at s1
      have hne6 : ∀ i o, h5.get i = some o → (∀ c f, o ≠ .cells c y_a2_int f) → h6.get i = some o := fun i o hi hty => s2 i o hi (hcv5.neB hi hty)
      have hb6 := hne6 _ _ hb5 (by intro c f e; simp only [Obj.cells.injEq] at e; exact absurd e.2.1 (by decide))
      have hn6 := hne6 _ _ hn5 (by intro c f e; cases e)
      have hm6 : MapG injI h6 nid fun b => if b = (k : Int) then some (.int .i64 ((cntsL (g.p.take k)).length : Nat)) else f b := hm5.keep (by rw [hn6, hn5])
      have hsv6 : OwnT h6 w 4 y_api_Set (setsC (setsL (g.p.take (k + 1)))) nx := hsv5.keep s2 fun id hid => by
        obtain ⟨_, z⟩ := hsv5.blk hid
        exact hcv5.neB z (by intro c f e; simp only [Obj.cells.injEq] at e; exact absurd e.2.1 (by decide))
      have hwok := s1.ok
      (repeat (first | refine bindP_mk (by simp (disch := first | omega | exact Int.natCast_nonneg _ | assumption) only [BB, B2, ↓reduceIte, Nat.reduceLeDiff, Nat.reduceAdd, CC, nilCk_at] <;> rfl) ?_ | refine newP_mk ?_ | refine optP_mk ?_ | with_reducible first | refine condP_t ?_ | refine condP_f ?_ | refine ifP_tt' ?_ | refine ifP_ff' ?_ | refine ifP_tf' ?_ | refine ifP_ft' ?_ | refine ifP_u' ?_ | refine optP_mk0 ?_))
      refine bindP_mk (store1_own (l := bldL av bv (.map (some nid)) nilS (List.replicate 256 0) 0 cv nilS (.map (some kid)) (.map (some eid)) (.map (some yid))) hb6 (by rw [bldL_len List.length_replicate]; omega) hwok (cells_of_ok hwok)) ?_
      rw [bldL_set261 List.length_replicate]
      refine hj4 _ _ _ w6 _ (by omega) ((s3.mono (show _ ≤ nx' + 12 + 1 + 33 + 1 by omega)).upd (Nat.le_refl _) (by omega)) ?_ (by rw [T.get_upd_same]) (hm6.keep (T.get_upd_ne _ _ hbn.symm)) ?_ ?_ ?_ f1 f2 f4 f23 f24 f25
      · refine Keep.upd (fun i o hi hn9 => ?_) (by simp)
        have := hf.lt' hi
        refine s2 i o (hk5 i o hi hn9) fun e => ?_
        have := (hcv5.blk e).1
        omega
      · intro q hq9
        show (if q = (k : Int) then _ else f q) = _
        by_cases hqk : q = (k : Int)
        · subst hqk
          rw [if_pos rfl, decide_eq_true (by omega), Bool.true_and, hcd, if_pos rfl, hnum]
        · rw [if_neg hqk, hfo q hq9]
          have : decide (q < ((k + 1 : Nat) : Int)) = decide (q < (k : Int)) := by
            rw [decide_eq_decide]; omega
          rw [this]
      · exact hsv6.updNe hb6 (by decide)
      · exact s1.updNe hb6 (by decide)
    · rw [if_neg (by omega)] at hct
      rw [decide_eq_false (by omega)] at hcd
      (repeat (first | refine bindP_mk (by simp (disch := first | omega | exact Int.natCast_nonneg _ | assumption) only [BB, B2, ↓reduceIte, Nat.reduceLeDiff, Nat.reduceAdd, CC] <;> rfl) ?_ | refine newP_mk ?_ | refine optP_mk ?_ | with_reducible first | refine condP_t ?_ | refine condP_f ?_ | refine ifP_tt' ?_ | refine ifP_ff' ?_ | refine ifP_tf' ?_ | refine ifP_ft' ?_ | refine ifP_u' ?_ | refine optP_mk0 ?_))
      refine hj4 _ _ _ cv f (by omega) (q3.mono (by omega)) hk4 hb4 hm4 ?_ q1 (by rw [hct]; exact hcv4) f1 f2 f4 f23 f24 f25
      intro q hq9
      rw [hfo q hq9]
      by_cases hqk : q = (k : Int)
      · subst hqk
        rw [hcd, Bool.and_false, Bool.and_false]
      · have : decide (q < ((k + 1 : Nat) : Int)) = decide (q < (k : Int)) := by
          rw [decide_eq_decide]; omega
        rw [this]
  · have hkl : k = g.p.length := by omega
    subst hkl
    rw [List.take_length] at hsv hcv
    refine condP_f (hx _ _ _ _ (fun e => by cases e) ?_)
    refine hQ _ _ _ _ cv f (by omega) (hf'.mono (by omega)) hkp hb' hm' (fun q hq9 => ?_) hsv hcv f2 f4 rfl
    rw [hfo q hq9]
    by_cases hqk : q < (g.p.length : Int)
    · rw [decide_eq_true hqk, Bool.true_and]
    · have : ctd g q = false := by
        unfold ctd GlD.at
        rw [List.getD_eq_getElem?_getD, List.getElem?_eq_none (by omega)]
        rfl
      rw [decide_eq_false hqk, this]; rfl
end
end V
end Go.Proofs.Ytmmdcdjkmakgpaa
set_option linter.unusedVariables false
set_option linter.unusedSimpArgs false
namespace Go.Proofs.Ytmmdcdjkmakgpaa
namespace V
open PA
attribute [local irreducible] bindP ifP condP newP optP exP beqP
def autD0 : AutoD := ⟨List.replicate 256 0, 0, [], []⟩
def ofB (g : GlD) : List Nat := firstZ (cls (setsL g.p)) (many (setsL g.p) : Int)
def ofD (g : GlD) (S : List StateD) : AutoD := ⟨cls (setsL g.p), (many (setsL g.p) : Int), cntsL g.p, S⟩
def ofZ (g : GlD) : Int × AutoD := if rightD g = true then (if (allZ g (ofB g) 256 0 [noS]).1 = 0 then (0, ofD g (allZ g (ofB g) 256 0 [noS]).2) else ((allZ g (ofB g) 256 0 [noS]).1, autD0)) else (1, autD0)
theorem Sub.delN {h h' : T Obj} {ids : List Nat} {n : Nat} (hs : Sub h h') (hf : Fr h n) (hi : ∀ i ∈ ids, n ≤ i) : Sub h (V.del h' ids) := fun k o hk => del_some (hs k o hk) fun hm => by
  have := hf.lt' hk
  have := hi k hm
  omega
theorem autD0_R {ro : Ro} {h : T Obj} : RAuto ro h autZ autD0 := ⟨nilS, nilS, rfl, List.length_replicate, fun x hx => by
  have := List.eq_of_mem_replicate hx
  omega, SlR.nil, SlR.nil, Nat.zero_le _, Nat.zero_le _⟩
theorem build_State0 : buildV Try.prog y_api_State [] = some (.agg #[nilS, nilS, nilS, nilS]) := by kernel_rfl
section
variable {av bv nv fv : Value} {c c' : List Nat} {n n' : Int} {cv sv kv ev yv : Value}
theorem bldL_drop4 : (bldL av bv nv fv c n cv sv kv ev yv).drop 4 = splitLI c n ++ [cv, sv, kv, ev, yv] := by
  show autL c n cv sv ++ [kv, ev, yv] = _
  unfold autL
  rw [List.append_assoc]; rfl
theorem bldL_over4 (hc : c.length = 256) (hc' : c'.length = 256) : over (bldL av bv nv fv c n cv sv kv ev yv) 4 (splitLI c' n') = bldL av bv nv fv c' n' cv sv kv ev yv := by
  unfold over
  rw [← List.drop_drop, bldL_drop4, splitLI_len hc', show 257 = (splitLI c n).length from (splitLI_len hc).symm, List.drop_left]
  show [av, bv, nv, fv] ++ splitLI c' n' ++ [cv, sv, kv, ev, yv] = _
  unfold bldL autL
  simp
theorem store_split {h : T Obj} {bid : Nat} {e : TypeId} {f : Nat × Nat} (hc : c.length = 256) (hc' : c'.length = 256) (hg : h.get bid = some (.cells (bldL av bv nv fv c n cv sv kv ev yv).toArray e f)) : storeN 257 h (at_ bid 4 0) (splitI c' n') = some (h.upd bid (some (.cells (bldL av bv nv fv c' n' cv sv kv ev yv).toArray e f))) := by
  rw [storeN_own, splitI_cells, hg]
  have h1 := splitLI_len (n := n') hc'
  have h2 := bldL_len (av := av) (bv := bv) (nv := nv) (fv := fv) (n := n) (cv := cv) (sv := sv) (kv := kv) (ev := ev) (yv := yv) hc
  rw [if_pos (by rw [ts]; exact h1), putIn_cells (by rw [tl, ts, h1, h2]; omega) (by rw [tl]; exact splitLI_ok _ _)]
  rw [tl, tl, bldL_over4 hc hc']; rfl
theorem load_split {ro : Ro} {h : T Obj} {bid : Nat} {e : TypeId} {f : Nat × Nat} (hc : c.length = 256) (hg : h.get bid = some (.cells (bldL av bv nv fv c n cv sv kv ev yv).toArray e f)) : loadA ro h 257 (at_ bid 4 0) = some (splitI c n) := by
  rw [loadA_own, hg, cellsIn_some]
  simp only [Option.bind_some, tl]
  rw [if_pos (by rw [bldL_len hc]; omega), bldL_drop4, List.take_append_of_le_length (by rw [splitLI_len hc]; omega), List.take_of_length_le (by rw [splitLI_len hc]; omega)]
  rfl
theorem load_auto {ro : Ro} {h : T Obj} {bid : Nat} {e : TypeId} {f : Nat × Nat} (hc : c.length = 256) (hg : h.get bid = some (.cells (bldL av bv nv fv c n cv sv kv ev yv).toArray e f)) : loadA ro h 259 (at_ bid 4 0) = some (.agg (autL c n cv sv).toArray) := by
  rw [loadA_own, hg, cellsIn_some]
  simp only [Option.bind_some, tl]
  rw [if_pos (by rw [bldL_len hc]; omega)]
  have : (bldL av bv nv fv c n cv sv kv ev yv).drop 4 = autL c n cv sv ++ [kv, ev, yv] := rfl
  rw [this, List.take_append_of_le_length (by rw [autL_len hc]; omega), List.take_of_length_le (by rw [autL_len hc]; omega)]
end
theorem cnt_R {ro : Ro} {h : T Obj} {v : Value} {l : List (Int × Int)} {lo : Nat} (ho : OwnT h v 2 y_a2_int (cntC l) lo) : SlR ro h v 2 RCount l := ⟨cntC l, ho.sl, cntC_len l, fun i x d hx hd => by
  unfold cntC at hx
  rw [List.getElem?_map, hd] at hx
  exact (Option.some.inj hx).symm⟩
theorem first_lt {c : List Nat} {n : Int} : ∀ b ∈ firstZ c n, b < 256 := by
  intro b hb
  unfold firstZ at hb
  split at hb
  · cases hb
  · obtain ⟨k, _, rfl⟩ := List.mem_map.1 hb
    unfold lb
    cases hq : (List.range' 0 (256 - 0)).find? fun b => decide (c.getD b 0 = k) with
    | none => simp
    | some q =>
      have := List.mem_of_find?_eq_some hq
      simp [List.mem_range'] at this
      simp; omega
theorem first_len {c : List Nat} {n : Int} : (firstZ c n).length ≤ 256 := by
  unfold firstZ
  split
  · simp
  · rw [List.length_map, List.length_range]; omega
theorem first_R {ro : Ro} {h : T Obj} {v : Value} {l : List Nat} {lo : Nat} (ho : OwnT h v 1 y_uint8 (bytesC l) lo) (hl : ∀ b ∈ l, b < 256) : SlR ro h v 1 RU8 l := ⟨bytesC l, ho.sl, bytesC_len l, fun i x d hx hd => by
  unfold bytesC at hx
  rw [List.getElem?_map, hd] at hx
  exact ⟨(Option.some.inj hx).symm, hl d (List.mem_of_getElem? hd)⟩⟩
theorem Own.toT {h : T Obj} {v : Value} {z : Nat} {e : TypeId} {l : List (List Value)} {lo hi : Nat} (ho : Own h v z e l lo hi) : OwnT h v z e l lo := by
  rcases ho with ho | ⟨id, h1, h2, h3, h4, h5⟩
  · exact .inl ho
  · exact .inr ⟨id, h1, h3, h4, h5⟩
set_option maxRecDepth 8000 in
set_option maxHeartbeats 2000000 in
theorem auto_Of_c {ro : Ro} {v : Value} {g : GlD} {h : T Obj} {nx : Nat} {K : KV} (hf : Fr h nx) (hg : RG ro h v g)
    (hK : ∀ h' nx' x, nx ≤ nx' → Sub h h' → Fr h' nx' → RAuto ro h' x (ofZ g).2 → K (.tuple #[.agg x.toArray, .int .i64 (ofZ g).1]) h' nx') : callP Try.prog ro i_auto_Of [v] h nx K := by
  obtain ⟨a, b, rfl, ha, hb⟩ := hg
  apply auto_Of_of
  unfold auto_Of
  refine param_mk hf (Nat.le_refl _) fun h1 hs1 hf1 g1 _ => ?_
  have g1 : h1.get nx = some (.cells [a, b].toArray y_api_Glush) := g1
  refine bindP_mk zer_Auto (obj_mk hf1 (Nat.le_refl _) fun h2 hs2 hf2 g2 _ => ?_)
  have g2 : h2.get (nx + 1) = some (.cells autZ.toArray y_api_Auto) := g2
  have g1 := hs2 _ _ g1
  have hs := hs1.trans hs2
  refine bindP_mk (loadA_all (l := [a, b]) g1 rfl) ?_
  refine glush_Right_c (hf2.mono (show nx + 1 + 1 ≤ nx + 5 by omega)) ⟨a, b, rfl, ha.sub hs, hb.sub hs (RPos.sub hs)⟩ fun n7 hn7 => ?_
  cases hr : rightD g with
  | false =>
    have hz : ofZ g = (1, autD0) := by unfold ofZ; rw [hr]; rfl
    rw [hz] at hK
    (repeat (first | refine bindP_mk (by simp (disch := first | omega | exact Int.natCast_nonneg _ | assumption) only [BB, B2, ↓reduceIte, Nat.reduceLeDiff, Nat.reduceAdd, CC] <;> rfl) ?_ | refine newP_mk ?_ | refine optP_mk ?_ | with_reducible first | refine condP_t ?_ | refine condP_f ?_ | refine ifP_tt' ?_ | refine ifP_ff' ?_ | refine ifP_tf' ?_ | refine ifP_ft' ?_ | refine ifP_u' ?_ | refine optP_mk0 ?_))
    refine bindP_mk build_Auto0 ?_
    refine bindP_mk (storeA_own (l := autZ) (vs := autZ) g2 rfl autZ_len autZ_len autZ_ok) ?_
    refine bindP_mk (loadA_all (l := autZ) (by rw [T.get_upd_same]) autZ_len) ?_
    exact ⟨h, hs.new hf (by omega), hK h _ autZ (by omega) (Sub.refl _) (hf.mono (by omega)) autD0_R⟩
  | true =>
    have hz : ofZ g = if (allZ g (ofB g) 256 0 [noS]).1 = 0 then (0, ofD g (allZ g (ofB g) 256 0 [noS]).2) else ((allZ g (ofB g) 256 0 [noS]).1, autD0) := by unfold ofZ; rw [hr]; rfl
    obtain ⟨hgl, hfr, hmay⟩ := right_parts hr
    have hgs : (setsL g.p).length ≤ 1000000 := by unfold setsL; rw [List.length_map]; omega
    (repeat (first | refine bindP_mk (by simp (disch := first | omega | exact Int.natCast_nonneg _ | assumption) only [BB, B2, ↓reduceIte, Nat.reduceLeDiff, Nat.reduceAdd, CC] <;> rfl) ?_ | refine newP_mk ?_ | refine optP_mk ?_ | with_reducible first | refine condP_t ?_ | refine condP_f ?_ | refine ifP_tt' ?_ | refine ifP_ff' ?_ | refine ifP_tf' ?_ | refine ifP_ft' ?_ | refine ifP_u' ?_ | refine optP_mk0 ?_))
    refine bindP_mk (loadA_all (l := [a, b]) g1 rfl) ?_
    refine obj_mk hf2 (show nx + 1 + 1 ≤ n7 + 2 by omega) fun h3 hs3 hf3 g3 _ => ?_
    refine obj_mk hf3 (show n7 + 2 + 1 ≤ n7 + 3 by omega) fun h4 hs4 hf4 g4 _ => ?_
    refine obj_mk hf4 (show n7 + 3 + 1 ≤ n7 + 4 by omega) fun h5 hs5 hf5 g5 _ => ?_
    refine obj_mk hf5 (show n7 + 4 + 1 ≤ n7 + 5 by omega) fun h6 hs6 hf6 g6 _ => ?_
    refine bindP_mk (build_bld _ _ _ _ _ _) ?_
    refine param_mk hf6 (show n7 + 5 + 1 ≤ n7 + 7 by omega) fun h7 hs7 hf7 g7 _ => ?_
    have g7 : h7.get (n7 + 7) = some (.cells (bldL a b (.map (some (n7 + 2))) nilS (List.replicate 256 0) 0 nilS nilS (.map (some (n7 + 3))) (.map (some (n7 + 4))) (.map (some (n7 + 5)))).toArray y_auto_builder) := g7
    have g3 := hs7 _ _ (hs6 _ _ (hs5 _ _ (hs4 _ _ g3)))
    have g4 := hs7 _ _ (hs6 _ _ (hs5 _ _ g4))
    have g5 := hs7 _ _ (hs6 _ _ g5)
    have g6 := hs7 _ _ g6
    have hs27 := (((hs3.trans hs4).trans hs5).trans hs6).trans hs7
    have g1 := hs27 _ _ g1
    have g2 := hs27 _ _ g2
    have hs := hs.trans hs27
    have hbl := (hb.sub hs (RPos.sub hs)).len
    have e1 : ([a, b] : List Value)[1]? = some b := rfl
    (repeat (first | refine bindP_mk (by simp (disch := first | omega | exact Int.natCast_nonneg _ | assumption) only [BB, B2, ↓reduceIte, Nat.reduceLeDiff, Nat.reduceAdd, CC, g1, e1, hbl] <;> rfl) ?_ | refine newP_mk ?_ | refine optP_mk ?_ | with_reducible first | refine condP_t ?_ | refine condP_f ?_ | refine ifP_tt' ?_ | refine ifP_ff' ?_ | refine ifP_tf' ?_ | refine ifP_ft' ?_ | refine ifP_u' ?_ | refine optP_mk0 ?_))
    refine Of_L3_c (gid := nx) (rid := nx + 1) (kid := n7 + 3) (eid := n7 + 4) (yid := n7 + 5) hr (hf7.mono (show n7 + 7 + 1 ≤ n7 + 14 by omega)) (hb.sub (hs.delN hf (by simp; omega)) (RPos.sub (hs.delN hf (by simp; omega)))) g7 g3 ?_ ?_ ?_ ?_ ?_ ?_ ?_ ?_
    · rfl
    · rfl
    · rfl
    · rfl
    · rfl
    · rfl
    · rfl
    intro e' h8 n8 sv cv fn hn8 hf8 hk8 g8 hm8 hno8 hsv hcv f2 f4 f5
    refine exP_e (beqP_t ?_)
    unfold auto_Of_j1
    rw [f4, f5]
    refine split_Of_c hgs (hf8.mono (show n8 ≤ n8 + 3 by omega)) hsv.sl fun n9 hn9 => ?_
    have hc := cls_length (setsL g.p)
    have hcb := cls_bound (l := setsL g.p)
    rw [splitI_nat]
    (repeat (first | refine bindP_mk (by simp (disch := first | omega | exact Int.natCast_nonneg _ | assumption) only [BB, B2, ↓reduceIte, Nat.reduceLeDiff, Nat.reduceAdd, CC, nilCk_at] <;> rfl) ?_ | refine newP_mk ?_ | refine optP_mk ?_ | with_reducible first | refine condP_t ?_ | refine condP_f ?_ | refine ifP_tt' ?_ | refine ifP_ff' ?_ | refine ifP_tf' ?_ | refine ifP_ft' ?_ | refine ifP_u' ?_ | refine optP_mk0 ?_))
    refine bindP_mk (store_split List.length_replicate hc g8) ?_
    have hf9 : Fr (h8.upd (n7 + 7) (some (.cells (bldL a b (.map (some (n7 + 2))) nilS (cls (setsL g.p)) (many (setsL g.p) : Int) cv nilS (.map (some (n7 + 3))) (.map (some (n7 + 4))) (.map (some (n7 + 5)))).toArray y_auto_builder))) n8 := hf8.upd (Nat.le_refl _) (by omega)
    have g9 : (h8.upd (n7 + 7) (some (.cells (bldL a b (.map (some (n7 + 2))) nilS (cls (setsL g.p)) (many (setsL g.p) : Int) cv nilS (.map (some (n7 + 3))) (.map (some (n7 + 4))) (.map (some (n7 + 5)))).toArray y_auto_builder))).get (n7 + 7) = _ := T.get_upd_same _ _ _
    have hk9 : Keep [n7 + 7, n7 + 2] h7 (h8.upd (n7 + 7) (some (.cells (bldL a b (.map (some (n7 + 2))) nilS (cls (setsL g.p)) (many (setsL g.p) : Int) cv nilS (.map (some (n7 + 3))) (.map (some (n7 + 4))) (.map (some (n7 + 5)))).toArray y_auto_builder))) := hk8.upd (by simp)
    have hm9 : MapG injI (h8.upd (n7 + 7) (some (.cells (bldL a b (.map (some (n7 + 2))) nilS (cls (setsL g.p)) (many (setsL g.p) : Int) cv nilS (.map (some (n7 + 3))) (.map (some (n7 + 4))) (.map (some (n7 + 5)))).toArray y_auto_builder))) (n7 + 2) fn := hm8.keep (T.get_upd_ne _ _ (by omega))
    have hcv9 : OwnT (h8.upd (n7 + 7) (some (.cells (bldL a b (.map (some (n7 + 2))) nilS (cls (setsL g.p)) (many (setsL g.p) : Int) cv nilS (.map (some (n7 + 3))) (.map (some (n7 + 4))) (.map (some (n7 + 5)))).toArray y_auto_builder))) cv 2 y_a2_int (cntC (cntsL g.p)) (n7 + 14) := hcv.updNe g8 (by decide)
    generalize h8.upd (n7 + 7) (some (.cells (bldL a b (.map (some (n7 + 2))) nilS (cls (setsL g.p)) (many (setsL g.p) : Int) cv nilS (.map (some (n7 + 3))) (.map (some (n7 + 4))) (.map (some (n7 + 5)))).toArray y_auto_builder)) = h9 at hf9 g9 hk9 hm9 hcv9
    (repeat (first | refine bindP_mk (by simp (disch := first | omega | exact Int.natCast_nonneg _ | assumption) only [BB, B2, ↓reduceIte, Nat.reduceLeDiff, Nat.reduceAdd, CC, nilCk_at] <;> rfl) ?_ | refine newP_mk ?_ | refine optP_mk ?_ | with_reducible first | refine condP_t ?_ | refine condP_f ?_ | refine ifP_tt' ?_ | refine ifP_ff' ?_ | refine ifP_tf' ?_ | refine ifP_ft' ?_ | refine ifP_u' ?_ | refine optP_mk0 ?_))
    refine bindP_mk (load_split hc g9) ?_
    refine split_First_c hc hcb (hf9.mono (show n8 ≤ n9 + 11 by omega)) fun r h10 n10 hn10 hs10 hf10 hr10 => ?_
    have hr10 := hr10.toT
    have hrok := hr10.ok
    have g10 := hs10 _ _ g9
    (repeat (first | refine bindP_mk (by simp (disch := first | omega | exact Int.natCast_nonneg _ | assumption) only [BB, B2, ↓reduceIte, Nat.reduceLeDiff, Nat.reduceAdd, CC, nilCk_at] <;> rfl) ?_ | refine newP_mk ?_ | refine optP_mk ?_ | with_reducible first | refine condP_t ?_ | refine condP_f ?_ | refine ifP_tt' ?_ | refine ifP_ff' ?_ | refine ifP_tf' ?_ | refine ifP_ft' ?_ | refine ifP_u' ?_ | refine optP_mk0 ?_))
    refine bindP_mk (store1_own (l := bldL a b (.map (some (n7 + 2))) nilS (cls (setsL g.p)) (many (setsL g.p) : Int) cv nilS (.map (some (n7 + 3))) (.map (some (n7 + 4))) (.map (some (n7 + 5)))) g10 (by rw [bldL_len hc]; omega) hrok (cells_of_ok hrok)) ?_
    rw [bldL_set3]
    refine bindP_mk build_State0 (bindP_mk (lit_State _ _ _ _ _) (optP_mk ?_))
    have hbd := hf10.lt' g10
    -- memory as the states' loop finds it
    have hf11 : Fr ((h10.upd (n7 + 7) (some (.cells (bldL a b (.map (some (n7 + 2))) r (cls (setsL g.p)) (many (setsL g.p) : Int) cv nilS (.map (some (n7 + 3))) (.map (some (n7 + 4))) (.map (some (n7 + 5)))).toArray y_auto_builder))).upd (n10 + 5) (some (.cells [nilS, nilS, nilS, nilS].toArray y_api_State))) (n10 + 6) := ((hf10.mono (show n10 ≤ n10 + 6 by omega)).upd (Nat.le_refl _) (by omega)).upd (Nat.le_refl _) (by omega)
    have g11 : ((h10.upd (n7 + 7) (some (.cells (bldL a b (.map (some (n7 + 2))) r (cls (setsL g.p)) (many (setsL g.p) : Int) cv nilS (.map (some (n7 + 3))) (.map (some (n7 + 4))) (.map (some (n7 + 5)))).toArray y_auto_builder))).upd (n10 + 5) (some (.cells [nilS, nilS, nilS, nilS].toArray y_api_State))).get (n7 + 7) = _ := (T.get_upd_ne _ _ (by omega)).trans (T.get_upd_same _ _ _)
    have gs11 : ((h10.upd (n7 + 7) (some (.cells (bldL a b (.map (some (n7 + 2))) r (cls (setsL g.p)) (many (setsL g.p) : Int) cv nilS (.map (some (n7 + 3))) (.map (some (n7 + 4))) (.map (some (n7 + 5)))).toArray y_auto_builder))).upd (n10 + 5) (some (.cells [nilS, nilS, nilS, nilS].toArray y_api_State))).get (n10 + 5) = _ := T.get_upd_same _ _ _
    have hk11 : Keep [n7 + 7, n7 + 2] h7 ((h10.upd (n7 + 7) (some (.cells (bldL a b (.map (some (n7 + 2))) r (cls (setsL g.p)) (many (setsL g.p) : Int) cv nilS (.map (some (n7 + 3))) (.map (some (n7 + 4))) (.map (some (n7 + 5)))).toArray y_auto_builder))).upd (n10 + 5) (some (.cells [nilS, nilS, nilS, nilS].toArray y_api_State))) := (((hk9.trans hs10.keepL).upd (by simp))).updN hf7 (by omega)
    have hm11 : MapG injI ((h10.upd (n7 + 7) (some (.cells (bldL a b (.map (some (n7 + 2))) r (cls (setsL g.p)) (many (setsL g.p) : Int) cv nilS (.map (some (n7 + 3))) (.map (some (n7 + 4))) (.map (some (n7 + 5)))).toArray y_auto_builder))).upd (n10 + 5) (some (.cells [nilS, nilS, nilS, nilS].toArray y_api_State))) (n7 + 2) fn := (hm9.sub hs10).keep (by rw [T.get_upd_ne _ _ (by omega), T.get_upd_ne _ _ (by omega)])
    have hcv11 : OwnT ((h10.upd (n7 + 7) (some (.cells (bldL a b (.map (some (n7 + 2))) r (cls (setsL g.p)) (many (setsL g.p) : Int) cv nilS (.map (some (n7 + 3))) (.map (some (n7 + 4))) (.map (some (n7 + 5)))).toArray y_auto_builder))).upd (n10 + 5) (some (.cells [nilS, nilS, nilS, nilS].toArray y_api_State))) cv 2 y_a2_int (cntC (cntsL g.p)) (n7 + 14) := ((hcv9.keepS hs10).updNe g10 (by decide)).keepS ((Sub.refl _).upd (by rw [T.get_upd_ne _ _ (by omega)]; exact hf10 _ (by omega)))
    have hr11 : OwnT ((h10.upd (n7 + 7) (some (.cells (bldL a b (.map (some (n7 + 2))) r (cls (setsL g.p)) (many (setsL g.p) : Int) cv nilS (.map (some (n7 + 3))) (.map (some (n7 + 4))) (.map (some (n7 + 5)))).toArray y_auto_builder))).upd (n10 + 5) (some (.cells [nilS, nilS, nilS, nilS].toArray y_api_State))) r 1 y_uint8 (bytesC (ofB g)) (n9 + 11) := (hr10.updNe g10 (by decide)).keepS ((Sub.refl _).upd (by rw [T.get_upd_ne _ _ (by omega)]; exact hf10 _ (by omega)))
    generalize (h10.upd (n7 + 7) (some (.cells (bldL a b (.map (some (n7 + 2))) r (cls (setsL g.p)) (many (setsL g.p) : Int) cv nilS (.map (some (n7 + 3))) (.map (some (n7 + 4))) (.map (some (n7 + 5)))).toArray y_auto_builder))).upd (n10 + 5) (some (.cells [nilS, nilS, nilS, nilS].toArray y_api_State)) = h11 at hf11 g11 gs11 hk11 hm11 hcv11 hr11
    (repeat (first | refine bindP_mk (by simp (disch := first | omega | exact Int.natCast_nonneg _ | assumption) only [BB, B2, ↓reduceIte, Nat.reduceLeDiff, Nat.reduceAdd, CC, nilCk_at] <;> rfl) ?_ | refine newP_mk ?_ | refine optP_mk ?_ | with_reducible first | refine condP_t ?_ | refine condP_f ?_ | refine ifP_tt' ?_ | refine ifP_ff' ?_ | refine ifP_tf' ?_ | refine ifP_ft' ?_ | refine ifP_u' ?_ | refine optP_mk0 ?_))
    refine bindP_mk (store1_own (l := bldL a b (.map (some (n7 + 2))) r (cls (setsL g.p)) (many (setsL g.p) : Int) cv nilS (.map (some (n7 + 3))) (.map (some (n7 + 4))) (.map (some (n7 + 5)))) g11 (by rw [bldL_len hc]; omega) rfl rfl) ?_
    rw [bldL_set262 hc]
    have hf12 : Fr (h11.upd (n7 + 7) (some (.cells (bldL a b (.map (some (n7 + 2))) r (cls (setsL g.p)) (many (setsL g.p) : Int) cv (.slice (some (own (n10 + 5) 4)) 1 1) (.map (some (n7 + 3))) (.map (some (n7 + 4))) (.map (some (n7 + 5)))).toArray y_auto_builder))) (n10 + 6) := hf11.upd (Nat.le_refl _) (by omega)
    have g12 : (h11.upd (n7 + 7) (some (.cells (bldL a b (.map (some (n7 + 2))) r (cls (setsL g.p)) (many (setsL g.p) : Int) cv (.slice (some (own (n10 + 5) 4)) 1 1) (.map (some (n7 + 3))) (.map (some (n7 + 4))) (.map (some (n7 + 5)))).toArray y_auto_builder))).get (n7 + 7) = _ := T.get_upd_same _ _ _
    have gs12 : (h11.upd (n7 + 7) (some (.cells (bldL a b (.map (some (n7 + 2))) r (cls (setsL g.p)) (many (setsL g.p) : Int) cv (.slice (some (own (n10 + 5) 4)) 1 1) (.map (some (n7 + 3))) (.map (some (n7 + 4))) (.map (some (n7 + 5)))).toArray y_auto_builder))).get (n10 + 5) = _ := (T.get_upd_ne _ _ (by omega)).trans gs11
    have hk12 : Keep [n7 + 7, n7 + 2] h7 (h11.upd (n7 + 7) (some (.cells (bldL a b (.map (some (n7 + 2))) r (cls (setsL g.p)) (many (setsL g.p) : Int) cv (.slice (some (own (n10 + 5) 4)) 1 1) (.map (some (n7 + 3))) (.map (some (n7 + 4))) (.map (some (n7 + 5)))).toArray y_auto_builder))) := hk11.upd (by simp)
    have hm12 : MapG injI (h11.upd (n7 + 7) (some (.cells (bldL a b (.map (some (n7 + 2))) r (cls (setsL g.p)) (many (setsL g.p) : Int) cv (.slice (some (own (n10 + 5) 4)) 1 1) (.map (some (n7 + 3))) (.map (some (n7 + 4))) (.map (some (n7 + 5)))).toArray y_auto_builder))) (n7 + 2) fn := hm11.keep (T.get_upd_ne _ _ (by omega))
    have hcv12 : OwnT (h11.upd (n7 + 7) (some (.cells (bldL a b (.map (some (n7 + 2))) r (cls (setsL g.p)) (many (setsL g.p) : Int) cv (.slice (some (own (n10 + 5) 4)) 1 1) (.map (some (n7 + 3))) (.map (some (n7 + 4))) (.map (some (n7 + 5)))).toArray y_auto_builder))) cv 2 y_a2_int (cntC (cntsL g.p)) (n7 + 14) := hcv11.updNe g11 (by decide)
    have hr12 : OwnT (h11.upd (n7 + 7) (some (.cells (bldL a b (.map (some (n7 + 2))) r (cls (setsL g.p)) (many (setsL g.p) : Int) cv (.slice (some (own (n10 + 5) 4)) 1 1) (.map (some (n7 + 3))) (.map (some (n7 + 4))) (.map (some (n7 + 5)))).toArray y_auto_builder))) r 1 y_uint8 (bytesC (ofB g)) (n9 + 11) := hr11.updNe g11 (by decide)
    generalize h11.upd (n7 + 7) (some (.cells (bldL a b (.map (some (n7 + 2))) r (cls (setsL g.p)) (many (setsL g.p) : Int) cv (.slice (some (own (n10 + 5) 4)) 1 1) (.map (some (n7 + 3))) (.map (some (n7 + 4))) (.map (some (n7 + 5)))).toArray y_auto_builder)) = h12 at hf12 g12 gs12 hk12 hm12 hcv12 hr12
    have k4 := hk12 _ _ g4 (by simp)
    have k5 := hk12 _ _ g5 (by simp)
    have k6 := hk12 _ _ g6 (by simp)
    have k2 := hk12 _ _ g2 (by simp; omega)
    have hs12 : Sub h h12 := fun i o hi => hk12 i o (hs _ _ hi) (by have := hf.lt' hi; simp; omega)
    have hB12 : Bd h12 g (n7 + 7) (n7 + 2) (n7 + 3) (n7 + 4) (n7 + 5) (n10 + 5) a b r (cls (setsL g.p)) (many (setsL g.p) : Int) cv [noS] [[nilS, nilS, nilS, nilS]] :=
      ⟨hc, g12, ⟨fn, hm12, hno8⟩, ⟨_, MapG.new k4, fun l hl _ => by
        have : isL l noS = false := decide_eq_false fun e => hl e.symm
        simp [List.findIdx?_cons, this]⟩, gs12, fun x hx => by simp at hx; rw [hx]; rfl, rfl, by simp, by simp, by omega⟩
    have hge : ∀ i ∈ [nx + 1, n7 + 7, n7 + 3, n7 + 4, n7 + 5, n10 + 5], nx ≤ i := by
      intro i hi
      simp only [List.mem_cons, List.not_mem_nil, or_false] at hi
      omega
    have hsd : Sub h (del h12 [nx + 1, n7 + 7, n7 + 3, n7 + 4, n7 + 5, n10 + 5]) := hs12.delN hf hge
    have hnot : ∀ {v : Value} {z lo : Nat} {e : TypeId} {l : List (List Value)}, e ≠ y_auto_builder → e ≠ y_api_State → e ≠ y_api_Auto → OwnT h12 v z e l lo → OwnT (del h12 [nx + 1, n7 + 7, n7 + 3, n7 + 4, n7 + 5, n10 + 5]) v z e l lo := fun he1 he2 he3 ho => ho.del fun id hid => by
      obtain ⟨_, z⟩ := ho.blk hid
      simp only [List.mem_cons, List.not_mem_nil, or_false, not_or]
      refine ⟨?_, ?_, ?_, ?_, ?_, ?_⟩ <;> rintro rfl
      · rw [z] at k2
        simp only [Option.some.injEq, Obj.cells.injEq] at k2
        exact he3 k2.2.1
      · rw [z] at g12
        simp only [Option.some.injEq, Obj.cells.injEq] at g12
        exact he1 g12.2.1
      · rw [z] at k4; cases k4
      · rw [z] at k5; cases k5
      · rw [z] at k6; cases k6
      · rw [z] at gs12
        simp only [Option.some.injEq, Obj.cells.injEq] at gs12
        exact he2 gs12.2.1
    have hcvd := hnot (by decide) (by decide) (by decide) hcv12
    refine Of_L1_c (hb := del h12 [nx + 1, n7 + 7, n7 + 3, n7 + 4, n7 + 5, n10 + 5]) (B := ofB g) (rid := nx + 1) hr first_len (by omega) (by omega) (by omega) (by omega) (by omega) (hb.sub hsd (RPos.sub hsd)) (ha.sub hsd) (first_R (hnot (by decide) (by decide) (by decide) hr12) first_lt) (hf12.mono (show n10 + 6 ≤ n10 + 11 by omega)) k2 hB12 (BMap.new k5) (BMap.new k6) (Sub.refl _) ⟨fun i x t hx ht => ?_, fun i x t hi hx ht => ?_⟩ (fun s hs => ?_) ?_ ?_ ?_ ?_ ?_
    · cases i with
      | succ i => simp at hx
      | zero =>
        simp at hx ht
        subst hx; subst ht
        exact ⟨nilS, nilS, nilS, nilS, rfl, Sl.nil, Sl.nil, Sl.nil, SlR.nil, Nat.zero_le _⟩
    · cases i with
      | succ i => simp at hx
      | zero =>
        simp at hx ht
        subst hx; subst ht
        exact ⟨⟨nilS, nilS, rfl⟩, rfl, rfl⟩
    · simp at hs; subst hs
      exact ⟨rfl, rfl, Nat.zero_le _⟩
    · exact f2
    · exact f4
    · rfl
    · intro hz9 e9 h13 n13 p1 p2 p3 p4 p5 p6
      rw [if_neg hz9] at hz
      rw [hz] at hK
      refine exP_r ?_
      rw [p5, p6]
      refine bindP_mk (loadA_all (l := autZ) p4 autZ_len) ?_
      exact ⟨h, hsd.trans p3, hK h _ autZ (by omega) (Sub.refl _) (hf.mono (by omega)) autD0_R⟩
    · intro hz9 e9 h13 n13 sid' cs' p1 p2 p3 p4 p5 p6 p7 p8 p9
      rw [if_pos hz9] at hz
      rw [hz] at hK
      refine exP_e (beqP_t ?_)
      unfold auto_Of_j2
      rw [p8, p9]
      have hb13 := p5.blk
      (repeat (first | refine bindP_mk (by simp (disch := first | omega | exact Int.natCast_nonneg _ | assumption) only [BB, B2, ↓reduceIte, Nat.reduceLeDiff, Nat.reduceAdd, CC, nilCk_at] <;> rfl) ?_ | refine newP_mk ?_ | refine optP_mk ?_ | with_reducible first | refine condP_t ?_ | refine condP_f ?_ | refine ifP_tt' ?_ | refine ifP_ff' ?_ | refine ifP_tf' ?_ | refine ifP_ft' ?_ | refine ifP_u' ?_ | refine optP_mk0 ?_))
      refine bindP_mk (load_auto hc hb13) ?_
      have hsvok : cellOk (.slice (some (own sid' 4)) cs'.length cs'.length) = true := rfl
      have hcvok := hcv12.ok
      refine bindP_mk (storeA_own (l := autZ) (vs := autL (cls (setsL g.p)) (many (setsL g.p) : Int) cv (.slice (some (own sid' 4)) cs'.length cs'.length)) p3 rfl (autL_len hc) autZ_len (autL_ok hcvok rfl)) ?_
      refine bindP_mk (loadA_all (l := autL (cls (setsL g.p)) (many (setsL g.p) : Int) cv (.slice (some (own sid' 4)) cs'.length cs'.length)) (by rw [T.get_upd_same]) (autL_len hc)) ?_
      refine ⟨_, Sub.refl _, ?_⟩
      have hfin : Sub (del h13 [nx + 1, n7 + 7, n7 + 3, n7 + 4, n7 + 5, sid']) (h13.upd (nx + 1) (some (.cells (autL (cls (setsL g.p)) (many (setsL g.p) : Int) cv (.slice (some (own sid' 4)) cs'.length cs'.length)).toArray y_api_Auto))) := fun i o hi => by
        rw [del_get] at hi
        split at hi
        · cases hi
        · rename_i hn
          rw [T.get_upd_ne _ _ (by rintro rfl; exact hn (by simp))]; exact hi
      have hrs : sid' ≠ nx + 1 := by
        rintro rfl
        have := p5.row
        rw [p3] at this
        simp only [Option.some.injEq, Obj.cells.injEq] at this
        exact absurd this.2.1 (by decide)
      refine hK _ _ _ (by omega) ((hsd.trans p4).trans hfin) ((p2.mono (show n13 ≤ n13 + 6 by omega)).upd (Nat.le_refl _) (by omega)) ⟨cv, _, rfl, hc, hcb, ?_, ⟨cs', ?_, p5.len, fun i x t hx ht => RState.sub hfin _ _ (p6 i x t hx ht)⟩, ?_, ?_⟩
      · exact cnt_R ((hcvd.keepS p4).keepS hfin)
      · refine OwnT.sl (h := h13.upd (nx + 1) _) (lo := 0) (e := y_api_State) (.inr ⟨sid', Nat.zero_le _, rfl, p5.z4, ?_⟩)
        rw [T.get_upd_ne _ _ hrs]; exact p5.row
      · have := cntsL_len g.p
        show (cntsL g.p).length ≤ maxB
        unfold maxB; omega
      · have := p5.few
        show (allZ g (ofB g) 256 0 [noS]).2.length ≤ maxB
        unfold maxB; omega
end V
end Go.Proofs.Ytmmdcdjkmakgpaa
set_option linter.unusedVariables false
set_option linter.unusedSimpArgs false
namespace Go.Proofs.Ytmmdcdjkmakgpaa
namespace V
open PA
structure Base (g : GlD) (S : List StateD) : Prop where
  ok : SOk g S
  few : S.length ≤ 256
  zero : ∃ s, S[0]? = some s ∧ s.l = []
  pos : ∀ (i : Nat) s, 0 < i → S[i]? = some s → s.l ≠ []
  dist : ∀ (i j : Nat) s t, S[i]? = some s → S[j]? = some t → s.l = t.l → i = j
def MvOk (g : GlD) (en st : Int → Bool) (b : Nat) (S : List StateD) (m : MoveD) : Prop :=
  (lZ g en st b = [] ∧ m.to = -1 ∧ m.ops = []) ∨ (lZ g en st b ≠ [] ∧ ∃ (k : Nat) (t : StateD), m.to = (k : Int) ∧ S[k]? = some t ∧ t.l = lZ g en st b ∧ m.ops = opsZ g en st (lZ g en st b))
def Ext (S S' : List StateD) : Prop := ∃ T, S' = S ++ T ∧ ∀ t ∈ T, t.rule = [] ∧ t.next = []
theorem Ext.refl (S : List StateD) : Ext S S := ⟨[], by simp, fun t ht => by cases ht⟩
theorem Ext.trans {a b c : List StateD} (h1 : Ext a b) (h2 : Ext b c) : Ext a c := by
  obtain ⟨T, rfl, h3⟩ := h1
  obtain ⟨U, rfl, h4⟩ := h2
  refine ⟨T ++ U, by rw [List.append_assoc], fun t ht => ?_⟩
  rcases List.mem_append.1 ht with ht | ht
  · exact h3 t ht
  · exact h4 t ht
def Grows (S S' : List StateD) : Prop := ∀ (i : Nat) s, S[i]? = some s → ∃ s', S'[i]? = some s' ∧ s'.l = s.l
theorem Grows.refl (S : List StateD) : Grows S S := fun i s h => ⟨s, h, rfl⟩
theorem Grows.trans {a b c : List StateD} (h1 : Grows a b) (h2 : Grows b c) : Grows a c := fun i s h => by
  obtain ⟨s1, h3, h4⟩ := h1 i s h
  obtain ⟨s2, h5, h6⟩ := h2 i s1 h3
  exact ⟨s2, h5, h6.trans h4⟩
theorem Ext.grows {S S' : List StateD} (h : Ext S S') : Grows S S' := fun i s hs => by
  obtain ⟨T, rfl, _⟩ := h
  have := (List.getElem?_eq_some_iff.1 hs).1
  exact ⟨s, by rw [List.getElem?_append_left this]; exact hs, rfl⟩
theorem MvOk.mono {g : GlD} {en st : Int → Bool} {b : Nat} {S S' : List StateD} {m : MoveD} (h : MvOk g en st b S m) (hg : Grows S S') : MvOk g en st b S' m := by
  rcases h with h | ⟨h1, k, t, h2, h3, h4, h5⟩
  · exact .inl h
  · obtain ⟨t', h6, h7⟩ := hg k t h3
    exact .inr ⟨h1, k, t', h2, h6, h7.trans h4, h5⟩
theorem goesZ_spec {g : GlD} {en st : Int → Bool} {b : Nat} {S : List StateD} (hb : Base g S) (h0 : (goesZ g en st b S).2.1 = 0) : Base g (goesZ g en st b S).2.2 ∧ Ext S (goesZ g en st b S).2.2 ∧ MvOk g en st b (goesZ g en st b S).2.2 (goesZ g en st b S).1 := by
  by_cases hl : lZ g en st b = []
  · rw [goesZ_nil hl]
    exact ⟨hb, Ext.refl _, .inl ⟨hl, rfl, rfl⟩⟩
  · have hrz := lZ_rz g en st b
    rw [goesZ_ne hl] at h0 ⊢
    dsimp only at h0 ⊢
    generalize hlz : lZ g en st b = l at hl h0 hrz
    unfold findZ at h0 ⊢
    cases hf : S.findIdx? (isL l) with
    | some k =>
      rw [hf] at h0
      obtain ⟨hk, h1, _⟩ := List.findIdx?_eq_some_iff_getElem.1 hf
      have h1 : (S[k]).l = l := of_decide_eq_true h1
      exact ⟨hb, Ext.refl _, .inr ⟨by rw [hlz]; exact hl, k, S[k], rfl, List.getElem?_eq_getElem hk, by rw [hlz]; exact h1, by rw [hlz]⟩⟩
    | none =>
      rw [hf] at h0
      dsimp only at h0 ⊢
      have hn := List.findIdx?_eq_none_iff.1 hf
      by_cases h3 : 3 < (regsZ g l).length
      · rw [if_pos h3] at h0; exact absurd h0 (by show ¬ (110 : Int) = 0; decide)
      · rw [if_neg h3] at h0 ⊢
        by_cases h4 : 256 ≤ S.length
        · rw [if_pos h4] at h0; exact absurd h0 (by show ¬ (3 : Int) = 0; decide)
        · rw [if_neg h4]
          have hne : ∀ s ∈ S, s.l ≠ l := fun s hs e => by
            have := hn s hs
            unfold isL at this
            exact absurd e (of_decide_eq_false this)
          have hget : ∀ (i : Nat) s, (S ++ [(⟨l, regsZ g l, [], []⟩ : StateD)])[i]? = some s → (S[i]? = some s) ∨ (i = S.length ∧ s = ⟨l, regsZ g l, [], []⟩) := fun i s hs => by
            rcases Nat.lt_or_ge i S.length with hi | hi
            · rw [List.getElem?_append_left hi] at hs; exact .inl hs
            · rw [List.getElem?_append_right hi] at hs
              generalize hq : i - S.length = q at hs
              cases q with
              | zero => simp at hs; exact .inr ⟨by omega, hs.symm⟩
              | succ q => simp at hs
          refine ⟨⟨fun s hs => ?_, by simp; omega, ?_, fun i s hi hs => ?_, fun i j s t hs ht he => ?_⟩, ⟨[⟨l, regsZ g l, [], []⟩], rfl, fun t ht => ?_⟩, .inr ⟨by rw [hlz]; exact hl, S.length, ⟨l, regsZ g l, [], []⟩, rfl, by simp, by rw [hlz], by rw [hlz]⟩⟩
          · rcases List.mem_append.1 hs with hs | hs
            · exact hb.ok s hs
            · simp at hs; subst hs; exact ⟨hrz, rfl, by show (regsZ g l).length ≤ 3; omega⟩
          · obtain ⟨s, h5, h6⟩ := hb.zero
            exact ⟨s, by rw [List.getElem?_append_left (List.getElem?_eq_some_iff.1 h5).1]; exact h5, h6⟩
          · rcases hget i s hs with hs | ⟨_, rfl⟩
            · exact hb.pos i s hi hs
            · exact hl
          · rcases hget i s hs with hs | ⟨hi, rfl⟩
            · rcases hget j t ht with ht | ⟨hj, rfl⟩
              · exact hb.dist i j s t hs ht he
              · exact absurd he (hne s (List.mem_of_getElem? hs))
            · rcases hget j t ht with ht | ⟨hj, rfl⟩
              · exact absurd he.symm (hne t (List.mem_of_getElem? ht))
              · omega
          · simp at ht; subst ht; exact ⟨rfl, rfl⟩
theorem rowZ_spec {g : GlD} {en st : Int → Bool} : ∀ {B : List Nat} {S : List StateD}, Base g S → (rowZ g en st B S).1 = 0 → Base g (rowZ g en st B S).2.2 ∧ Ext S (rowZ g en st B S).2.2 ∧ (rowZ g en st B S).2.1.length = B.length ∧ ∀ (j : Nat) b m, B[j]? = some b → (rowZ g en st B S).2.1[j]? = some m → MvOk g en st b (rowZ g en st B S).2.2 m
  | [], S, hb, _ => ⟨hb, Ext.refl _, rfl, fun j b m hj => by simp at hj⟩
  | b :: r, S, hb, h0 => by
    rw [rowZ_cons] at h0 ⊢
    by_cases h1 : (goesZ g en st b S).2.1 = 0
    · rw [if_pos h1] at h0 ⊢
      obtain ⟨g1, g2, g3⟩ := goesZ_spec hb h1
      obtain ⟨r1, r2, r3, r4⟩ := rowZ_spec (B := r) g1 h0
      refine ⟨r1, g2.trans r2, by simp [r3], fun j b' m hj hm => ?_⟩
      cases j with
      | zero => simp at hj hm; subst hj; subst hm; exact g3.mono r2.grows
      | succ j => exact r4 j b' m (by simpa using hj) (by simpa using hm)
    · rw [if_neg h1] at h0; exact absurd h0 h1
def doneZ (k c i : Nat) (s : StateD) : Nat := if i < k then (codesD (s.r.length : Int)).toNat else if i = k then c else 0
structure Made (g : GlD) (B : List Nat) (S : List StateD) (k c : Nat) : Prop where
  base : Base g S
  cnt : ∀ (i : Nat) s, S[i]? = some s → s.rule.length = doneZ k c i s ∧ s.next.length = doneZ k c i s
  rule : ∀ (i : Nat) s (q : Nat) ru, S[i]? = some s → s.rule[q]? = some ru → ru = ruleZ g (-1) (digs g s.l q)
  next : ∀ (i : Nat) s (q : Nat) row, S[i]? = some s → s.next[q]? = some row → row.length = B.length ∧ ∀ (j : Nat) b m, B[j]? = some b → row[j]? = some m → MvOk g (entersZ g i (digs g s.l q)) (staysZ (digs g s.l q)) b S m
theorem Base.modify {g : GlD} {S : List StateD} (hb : Base g S) (k : Nat) (rule : Int) (row : List MoveD) : Base g (S.modify k (addRow rule row)) ∧ Grows S (S.modify k (addRow rule row)) := by
  have hget : ∀ (i : Nat) s, (S.modify k (addRow rule row))[i]? = some s → ∃ t, S[i]? = some t ∧ t.l = s.l := fun i s hs => by
    by_cases hi : i = k
    · subst hi
      rw [modify_self] at hs
      cases hq : S[i]? with
      | none => rw [hq] at hs; cases hs
      | some t => rw [hq] at hs; cases hs; exact ⟨t, rfl, rfl⟩
    · rw [modify_ne hi] at hs; exact ⟨s, hs, rfl⟩
  have hgr : Grows S (S.modify k (addRow rule row)) := fun i s hs => by
    by_cases hi : i = k
    · subst hi; exact ⟨addRow rule row s, by rw [modify_self, hs]; rfl, rfl⟩
    · exact ⟨s, by rw [modify_ne hi]; exact hs, rfl⟩
  refine ⟨⟨modify_ok hb.ok _ _ _, by rw [List.length_modify]; exact hb.few, ?_, fun i s hi hs => ?_, fun i j s t hs ht he => ?_⟩, hgr⟩
  · obtain ⟨s, h1, h2⟩ := hb.zero
    obtain ⟨s', h3, h4⟩ := hgr 0 s h1
    exact ⟨s', h3, h4.trans h2⟩
  · obtain ⟨t, h1, h2⟩ := hget i s hs
    rw [← h2]; exact hb.pos i t hi h1
  · obtain ⟨s1, h1, h2⟩ := hget i s hs
    obtain ⟨t1, h3, h4⟩ := hget j t ht
    exact hb.dist i j s1 t1 h1 h3 (by rw [h2, h4, he])
theorem codeZ_spec {g : GlD} {B : List Nat} {S : List StateD} {k c : Nat} (hm : Made g B S k c) (hk : k < S.length) (h0 : (codeZ g B k (c : Int) S).1 = 0) : Made g B (codeZ g B k (c : Int) S).2 k (c + 1) ∧ Grows S (codeZ g B k (c : Int) S).2 := by
  obtain ⟨s, hs⟩ : ∃ s, S[k]? = some s := ⟨_, List.getElem?_eq_getElem hk⟩
  have hlk : lAt S k = s.l := by unfold lAt; rw [List.getD_eq_getElem?_getD, hs]; rfl
  have hcz : codeZ g B k (c : Int) S = if (rowZ g (entersZ g k (digs g s.l c)) (staysZ (digs g s.l c)) B S).1 = 0 then (0, (rowZ g (entersZ g k (digs g s.l c)) (staysZ (digs g s.l c)) B S).2.2.modify k (addRow (ruleZ g (-1) (digs g s.l c)) (rowZ g (entersZ g k (digs g s.l c)) (staysZ (digs g s.l c)) B S).2.1)) else ((rowZ g (entersZ g k (digs g s.l c)) (staysZ (digs g s.l c)) B S).1, S) := by
    unfold codeZ; rw [hlk]
  rw [hcz] at h0 ⊢
  by_cases h1 : (rowZ g (entersZ g k (digs g s.l c)) (staysZ (digs g s.l c)) B S).1 = 0
  · rw [if_pos h1]
    obtain ⟨r1, r2, r3, r4⟩ := rowZ_spec hm.base h1
    generalize rowZ g (entersZ g k (digs g s.l c)) (staysZ (digs g s.l c)) B S = Z at r1 r2 r3 r4
    dsimp only
    obtain ⟨b1, b2⟩ := r1.modify k (ruleZ g (-1) (digs g s.l c)) Z.2.1
    have hgr := r2.grows.trans b2
    obtain ⟨T, hT, hT2⟩ := r2
    have hZk : Z.2.2[k]? = some s := by rw [hT, List.getElem?_append_left hk]; exact hs
    have hget : ∀ (i : Nat) t, (Z.2.2.modify k (addRow (ruleZ g (-1) (digs g s.l c)) Z.2.1))[i]? = some t → (i = k ∧ t = addRow (ruleZ g (-1) (digs g s.l c)) Z.2.1 s) ∨ (i ≠ k ∧ i < S.length ∧ S[i]? = some t) ∨ (S.length ≤ i ∧ t.rule = [] ∧ t.next = []) := fun i t ht => by
      by_cases hi : i = k
      · subst hi
        rw [modify_self, hZk] at ht
        cases ht; exact .inl ⟨rfl, rfl⟩
      · rw [modify_ne hi, hT] at ht
        rcases Nat.lt_or_ge i S.length with hil | hil
        · rw [List.getElem?_append_left hil] at ht; exact .inr (.inl ⟨hi, hil, ht⟩)
        · rw [List.getElem?_append_right hil] at ht
          exact .inr (.inr ⟨hil, hT2 t (List.mem_of_getElem? ht)⟩)
    refine ⟨⟨b1, fun i t ht => ?_, fun i t q ru ht hq => ?_, fun i t q row ht hq => ?_⟩, hgr⟩
    · rcases hget i t ht with ⟨rfl, rfl⟩ | ⟨h2, h3, h4⟩ | ⟨h2, h3, h4⟩
      · have := hm.cnt i s hs
        unfold doneZ at this ⊢
        rw [if_neg (by omega), if_pos rfl] at this ⊢
        show (s.rule ++ [_]).length = _ ∧ (s.next ++ [_]).length = _
        simp [this.1, this.2]
      · have := hm.cnt i t h4
        unfold doneZ at this ⊢
        by_cases hik : i < k
        · rw [if_pos hik] at this ⊢; exact this
        · rw [if_neg hik, if_neg h2] at this ⊢; exact this
      · unfold doneZ
        rw [if_neg (by omega), if_neg (by omega), h3, h4]; exact ⟨rfl, rfl⟩
    · rcases hget i t ht with ⟨rfl, rfl⟩ | ⟨h2, h3, h4⟩ | ⟨h2, h3, h4⟩
      · have hq : (s.rule ++ [ruleZ g (-1) (digs g s.l c)])[q]? = some ru := hq
        have hc := hm.cnt i s hs
        unfold doneZ at hc
        rw [if_neg (by omega), if_pos rfl] at hc
        rcases Nat.lt_or_ge q s.rule.length with hql | hql
        · rw [List.getElem?_append_left hql] at hq; exact hm.rule i s q ru hs hq
        · rw [List.getElem?_append_right hql] at hq
          have hqc : q = c := by
            have := (List.getElem?_eq_some_iff.1 hq).1
            simp at this; omega
          subst hqc
          rw [hc.1, Nat.sub_self] at hq
          simp at hq; exact hq.symm
      · exact hm.rule i t q ru h4 hq
      · rw [h3] at hq; simp at hq
    · rcases hget i t ht with ⟨rfl, rfl⟩ | ⟨h2, h3, h4⟩ | ⟨h2, h3, h4⟩
      · have hq2 : (s.next ++ [Z.2.1])[q]? = some row := hq
        have hc := hm.cnt i s hs
        unfold doneZ at hc
        rw [if_neg (by omega), if_pos rfl] at hc
        rcases Nat.lt_or_ge q s.next.length with hql | hql
        · rw [List.getElem?_append_left hql] at hq2
          obtain ⟨n1, n2⟩ := hm.next i s q row hs hq2
          exact ⟨n1, fun j b m hj hm9 => (n2 j b m hj hm9).mono hgr⟩
        · rw [List.getElem?_append_right hql] at hq2
          have hqc : q = c := by
            have := (List.getElem?_eq_some_iff.1 hq2).1
            simp at this; omega
          subst hqc
          rw [hc.2, Nat.sub_self] at hq2
          simp at hq2; subst hq2
          exact ⟨r3, fun j b m hj hm9 => (r4 j b m hj hm9).mono b2⟩
      · obtain ⟨n1, n2⟩ := hm.next i t q row h4 hq
        exact ⟨n1, fun j b m hj hm9 => (n2 j b m hj hm9).mono hgr⟩
      · rw [h4] at hq; simp at hq
  · rw [if_neg h1] at h0; exact absurd h0 h1
theorem codesZ_spec {g : GlD} {B : List Nat} {k : Nat} : ∀ {n c : Nat} {S : List StateD}, Made g B S k c → k < S.length → (codesZ g B k n (c : Int) S).1 = 0 → Made g B (codesZ g B k n (c : Int) S).2 k (c + n) ∧ Grows S (codesZ g B k n (c : Int) S).2
  | 0, c, S, hm, _, _ => ⟨hm, Grows.refl _⟩
  | n + 1, c, S, hm, hk, h0 => by
    rw [codesZ_succ] at h0 ⊢
    by_cases h1 : (codeZ g B k (c : Int) S).1 = 0
    · rw [if_pos h1] at h0 ⊢
      obtain ⟨c1, c2⟩ := codeZ_spec hm hk h1
      have hk2 : k < (codeZ g B k (c : Int) S).2.length := by
        obtain ⟨s', h3, _⟩ := c2 k _ (List.getElem?_eq_getElem hk)
        exact (List.getElem?_eq_some_iff.1 h3).1
      obtain ⟨d1, d2⟩ := codesZ_spec (n := n) (c := c + 1) c1 hk2 h0
      refine ⟨?_, c2.trans d2⟩
      rw [show c + (n + 1) = c + 1 + n by omega]; exact d1
    · rw [if_neg h1] at h0; exact absurd h0 h1
theorem Grows.len {S S' : List StateD} (h : Grows S S') : S.length ≤ S'.length := by
  rcases Nat.lt_or_ge S'.length S.length with hl | hl
  · obtain ⟨s', h1, _⟩ := h S'.length _ (List.getElem?_eq_getElem hl)
    rw [List.getElem?_eq_none (Nat.le_refl _)] at h1; cases h1
  · exact hl
theorem Made.next' {g : GlD} {B : List Nat} {S : List StateD} {k : Nat} {s : StateD} (hs : S[k]? = some s) (hm : Made g B S k (codesD (s.r.length : Int)).toNat) : Made g B S (k + 1) 0 := by
  refine ⟨hm.base, fun i t ht => ?_, hm.rule, hm.next⟩
  have := hm.cnt i t ht
  unfold doneZ at this ⊢
  by_cases h1 : i < k
  · rw [if_pos h1] at this; rw [if_pos (by omega)]; exact this
  · by_cases h2 : i = k
    · subst h2
      rw [if_neg h1, if_pos rfl] at this
      rw [if_pos (by omega)]
      rw [hs] at ht; cases ht; exact this
    · rw [if_neg h1, if_neg h2] at this
      rw [if_neg (by omega)]
      by_cases h3 : i = k + 1
      · rw [if_pos h3]; exact this
      · rw [if_neg h3]; exact this
theorem allZ_spec {g : GlD} {B : List Nat} : ∀ {n k : Nat} {S : List StateD}, Made g B S k 0 → k ≤ S.length → k + n = 256 → (allZ g B n k S).1 = 0 → Made g B (allZ g B n k S).2 (allZ g B n k S).2.length 0 ∧ Grows S (allZ g B n k S).2
  | 0, k, S, hm, hk, hn, h0 => by
    have : k = S.length := by have := hm.base.few; omega
    exact ⟨by rw [this] at hm; exact hm, Grows.refl _⟩
  | n + 1, k, S, hm, hk, hn, h0 => by
    rw [allZ_succ] at h0 ⊢
    by_cases h1 : k < S.length
    · rw [if_pos h1] at h0 ⊢
      obtain ⟨s, hs⟩ : ∃ s, S[k]? = some s := ⟨_, List.getElem?_eq_getElem h1⟩
      have hgd : S.getD k noS = s := by rw [List.getD_eq_getElem?_getD, hs]; rfl
      rw [hgd] at h0 ⊢
      by_cases h2 : (codesZ g B k (codesD (s.r.length : Int)).toNat 0 S).1 = 0
      · rw [if_pos h2] at h0 ⊢
        obtain ⟨c1, c2⟩ := codesZ_spec (c := 0) hm h1 h2
        have hz : ((0 : Nat) : Int) = 0 := rfl
        rw [hz, Nat.zero_add] at c1
        rw [hz] at c2
        obtain ⟨s', h3, h4⟩ := c2 k s hs
        have hr : s'.r = s.r := by
          rw [(hm.base.ok s (List.mem_of_getElem? hs)).2.1, (c1.base.ok s' (List.mem_of_getElem? h3)).2.1, h4]
        have c3 := Made.next' h3 (by rw [hr]; exact c1)
        obtain ⟨d1, d2⟩ := allZ_spec (n := n) c3 (by have := (List.getElem?_eq_some_iff.1 h3).1; omega) (by omega) h0
        exact ⟨d1, c2.trans d2⟩
      · rw [if_neg h2] at h0; exact absurd h0 h2
    · rw [if_neg h1]
      have : k = S.length := by omega
      exact ⟨by rw [this] at hm; exact hm, Grows.refl _⟩
theorem made0 (g : GlD) (B : List Nat) : Made g B [noS] 0 0 := by
  have h1 : ∀ (i : Nat) s, [noS][i]? = some s → i = 0 ∧ s = noS := fun i s h => by
    cases i with
    | zero => simp at h; exact ⟨rfl, h.symm⟩
    | succ i => simp at h
  refine ⟨⟨fun s hs => ?_, by simp, ⟨noS, rfl, rfl⟩, fun i s hi hs => ?_, fun i j s t hs ht _ => ?_⟩, fun i s hs => ?_, fun i s q ru hs hq => ?_, fun i s q row hs hq => ?_⟩
  · simp at hs; subst hs; exact ⟨rfl, rfl, Nat.zero_le _⟩
  · have := (h1 i s hs).1; omega
  · rw [(h1 i s hs).1, (h1 j t ht).1]
  · obtain ⟨rfl, rfl⟩ := h1 i s hs; exact ⟨rfl, rfl⟩
  · obtain ⟨rfl, rfl⟩ := h1 i s hs; simp [noS] at hq
  · obtain ⟨rfl, rfl⟩ := h1 i s hs; simp [noS] at hq
theorem all_made {g : GlD} {B : List Nat} (h0 : (allZ g B 256 0 [noS]).1 = 0) : Made g B (allZ g B 256 0 [noS]).2 (allZ g B 256 0 [noS]).2.length 0 := (allZ_spec (made0 g B) (Nat.zero_le _) rfl h0).1
theorem Made.codes {g : GlD} {B : List Nat} {S : List StateD} (hm : Made g B S S.length 0) {i : Nat} {s : StateD} (hs : S[i]? = some s) : s.rule.length = (codesD (s.r.length : Int)).toNat ∧ s.next.length = (codesD (s.r.length : Int)).toNat := by
  have := hm.cnt i s hs
  unfold doneZ at this
  rw [if_pos (List.getElem?_eq_some_iff.1 hs).1] at this
  exact this
end V
end Go.Proofs.Ytmmdcdjkmakgpaa
set_option linter.unusedVariables false
set_option linter.unusedSimpArgs false
namespace Go.Proofs.Ytmmdcdjkmakgpaa
namespace V
open PA
theorem ofZ_ok {g : GlD} (h : (ofZ g).1 = 0) : rightD g = true ∧ ∃ S, (ofZ g).2 = ofD g S ∧ Made g (ofB g) S S.length 0 ∧ (allZ g (ofB g) 256 0 [noS]) = (0, S) := by
  unfold ofZ at h ⊢
  cases hr : rightD g with
  | false => rw [hr, if_neg (by decide)] at h; exact absurd h (by show ¬ (1 : Int) = 0; decide)
  | true =>
    rw [hr, if_pos rfl] at h
    rw [if_pos rfl]
    by_cases hz : (allZ g (ofB g) 256 0 [noS]).1 = 0
    · rw [if_pos hz]
      exact ⟨rfl, _, rfl, all_made hz, by rw [← hz]⟩
    · rw [if_neg hz] at h; exact absurd h hz
theorem class_byte (g : GlD) {b : Nat} (hb : b < 256) : ∃ k b', (cls (setsL g.p))[b]? = some k ∧ k < many (setsL g.p) ∧ (ofB g)[k]? = some b' ∧ b' < 256 ∧ ∀ en st, lZ g en st b' = lZ g en st b := by
  have hc := cls_length (setsL g.p)
  have hk : (cls (setsL g.p)).getD b 0 < many (setsL g.p) := cls_many hb
  obtain ⟨h1, h2, _⟩ := lb_cls hk
  refine ⟨(cls (setsL g.p)).getD b 0, lb (cls (setsL g.p)) ((cls (setsL g.p)).getD b 0) 0, ?_, hk, ?_, h1, fun en st => ?_⟩
  · rw [List.getD_eq_getElem?_getD, List.getElem?_eq_getElem (by omega)]; rfl
  · unfold ofB
    rw [firstZ_cls, List.getElem?_map, List.getElem?_range hk]; rfl
  · have hs := (cls_eq h1 hb).1 h2
    unfold lZ
    refine List.filter_congr fun q hq => ?_
    obtain ⟨q1, q2⟩ := placesZ_mem hq
    unfold takesZ
    have : (g.at q).s.testBit (lb (cls (setsL g.p)) ((cls (setsL g.p)).getD b 0) 0) = (g.at q).s.testBit b := by
      have hl : q.toNat < g.p.length := by omega
      have e1 := congrArg (fun l => l[q.toNat]?) hs
      simp only [sig, setsL, List.map_map, List.getElem?_map, List.getElem?_eq_getElem hl, Option.map_some, Function.comp, Option.some.injEq] at e1
      unfold GlD.at
      rw [List.getD_eq_getElem?_getD, List.getElem?_eq_getElem hl]
      exact e1
    rw [this]
theorem ofB_many (g : GlD) : (ofB g).length = many (setsL g.p) := by
  unfold ofB
  rw [firstZ_cls, List.length_map, List.length_range]
end V
end Go.Proofs.Ytmmdcdjkmakgpaa
set_option linter.unusedVariables false
set_option linter.unusedSimpArgs false
namespace Go.Proofs.Ytmmdcdjkmakgpaa
namespace V
attribute [local irreducible] callPre callP bindP
abbrev i_slices_ContainsFunc_api_State_api_State : FuncId := 42
abbrev i_auto_checker_state : FuncId := 44
abbrev i_slices_IndexFunc_api_State_api_State : FuncId := 76
abbrev i_slices_ContainsFunc_api_Move_api_Move : FuncId := 78
abbrev i_auto_checker_state_1 : FuncId := 79
abbrev i_auto_checker_move : FuncId := 80
abbrev i_slices_IndexFunc_api_Move_api_Move : FuncId := 99
abbrev i_slices_Contains_int_int : FuncId := 100
abbrev i_slices_Index_int_int : FuncId := 108
@[irreducible] def auto_Right_j1 (ro : Ro) (K : KV) : Env → T Obj → Nat → Prop := fun e h nx => bindP (loadA ro h 259 (e 1)) fun t72_143 => bindP (buildV Try.prog y_auto_checker [(0, t72_143)]) fun t73_144 => bindP (zer Try.prog y_auto_checker) fun z145 => newP h (nx + 2) (.cells z145.cells y_auto_checker) fun h146 => bindP (storeN 259 h146 (ptr (nx + 2)) t73_144) fun h147 => bindP (fwdP 258 (e 1)) fun t74_148 => bindP (load1 ro h147 t74_148) fun t75_149 => callP Try.prog ro i_slices_ContainsFunc_api_State_api_State [t75_149, (.func (.func i_auto_Right_1) #[] #[(ptr (nx + 2))])] h147 (nx + 8) fun t77_150 h151 n152 => bindP (unV .not t77_150) fun t78_153 => ∃ h154, Sub h154 h151 ∧ K t78_153 h154 (n152 + 2)
@[irreducible] def auto_Right_L1 (ro : Ro) : PT := fun e h nx Q => bindP (intB .lss (e 47) (e 46)) fun t48_158 => condP t48_158 (bindP (ixSl 2 (e 45) (e 47)) fun t49_159 => bindP (loadA ro h 2 t49_159) fun t50_160 => bindP (zer Try.prog y_a2_int) fun z161 => newP h (nx + 3) (.cells z161.cells y_a2_int) fun h162 => bindP (storeN 2 h162 (ptr (nx + 3)) t50_160) fun h163 => bindP (ixArr 2 1 (ptr (nx + 3)) (Value.int IntKind.i64 0)) fun t51_164 => bindP (load1 ro h163 t51_164) fun t52_165 => bindP (intB .lss t52_165 (Value.int IntKind.i64 1)) fun t53_166 => ifP t53_166 false h163 (nx + 9) (fun k167 => bindP (ixArr 2 1 (ptr (nx + 3)) (Value.int IntKind.i64 0)) fun t55_171 => k167 t55_171 h163 (nx + 10)) fun t55_168 h169 n170 => ifP t53_166 false h169 n170 (fun k172 => bindP (load1 ro h169 t55_168) fun t56_176 => k172 t56_176 h169 (n170 + 1)) fun t56_173 h174 n175 => ifP t53_166 false h174 n175 (fun k177 => bindP (ixArr 2 1 (ptr (nx + 3)) (Value.int IntKind.i64 1)) fun t57_181 => k177 t57_181 h174 (n175 + 1)) fun t57_178 h179 n180 => ifP t53_166 false h179 n180 (fun k182 => bindP (load1 ro h179 t57_178) fun t58_186 => k182 t58_186 h179 (n180 + 1)) fun t58_183 h184 n185 => ifP t53_166 false h184 n185 (fun k187 => bindP (intB .gtr t56_173 t58_183) fun t59_191 => k187 t59_191 h184 (n185 + 1)) fun t59_188 h189 n190 => bindP (pickV t53_166 (Value.bool true) t59_188) fun t60_192 => ifP t60_192 false h189 (n190 + 2) (fun k193 => bindP (ixArr 2 1 (ptr (nx + 3)) (Value.int IntKind.i64 1)) fun t62_197 => k193 t62_197 h189 (n190 + 3)) fun t62_194 h195 n196 => ifP t60_192 false h195 n196 (fun k198 => bindP (load1 ro h195 t62_194) fun t63_202 => k198 t63_202 h195 (n196 + 1)) fun t63_199 h200 n201 => ifP t60_192 false h200 n201 (fun k203 => bindP (intB .lss t63_199 (Value.int IntKind.i64 2)) fun t64_207 => k203 t64_207 h200 (n201 + 1)) fun t64_204 h205 n206 => bindP (pickV t60_192 (Value.bool true) t64_204) fun t65_208 => ifP t65_208 false h205 (n206 + 2) (fun k209 => bindP (ixArr 2 1 (ptr (nx + 3)) (Value.int IntKind.i64 1)) fun t67_213 => k209 t67_213 h205 (n206 + 3)) fun t67_210 h211 n212 => ifP t65_208 false h211 n212 (fun k214 => bindP (load1 ro h211 t67_210) fun t68_218 => k214 t68_218 h211 (n212 + 1)) fun t68_215 h216 n217 => ifP t65_208 false h216 n217 (fun k219 => bindP (intB .gtr t68_215 (Value.int IntKind.i64 4096)) fun t69_223 => k219 t69_223 h216 (n217 + 1)) fun t69_220 h221 n222 => bindP (pickV t65_208 (Value.bool true) t69_220) fun t70_224 => condP t70_224 (Q .ret (puts e [(48, t48_158), (49, t49_159), (50, t50_160), (4, (ptr (nx + 3))), (51, t51_164), (52, t52_165), (53, t53_166), (54, t53_166), (55, t55_168), (56, t56_173), (57, t57_178), (58, t58_183), (59, t59_188), (60, t60_192), (61, t60_192), (62, t62_194), (63, t63_199), (64, t64_204), (65, t65_208), (66, t65_208), (67, t67_210), (68, t68_215), (69, t69_220), (70, t70_224), (2, (Value.bool false))]) h221 (n222 + 2)) (bindP (intB .add (e 47) (Value.int IntKind.i64 1)) fun t71_225 => Q .normal (puts e [(48, t48_158), (49, t49_159), (50, t50_160), (4, (ptr (nx + 3))), (51, t51_164), (52, t52_165), (53, t53_166), (54, t53_166), (55, t55_168), (56, t56_173), (57, t57_178), (58, t58_183), (59, t59_188), (60, t60_192), (61, t60_192), (62, t62_194), (63, t63_199), (64, t64_204), (65, t65_208), (66, t65_208), (67, t67_210), (68, t68_215), (69, t69_220), (70, t70_224), (71, t71_225), (47, t71_225)]) h221 (n222 + 3))) (Q (.exit 0) (puts e [(48, t48_158)]) h (nx + 1))
@[irreducible] def auto_Right (ro : Ro) (v0 : Value) (h : T Obj) (nx : Nat) (K : KV) : Prop := newP h nx (.cells (Value.cells v0) y_api_Auto) fun h1 => bindP (fwdP 0 (ptr nx)) fun t6_2 => bindP (loadA ro h1 257 t6_2) fun t7_3 => callP Try.prog ro i_split_Right [t7_3] h1 (nx + 40) fun t8_4 h5 n6 => bindP (unV .not t8_4) fun t9_7 => ifP t9_7 false h5 n6 (fun k8 => bindP (fwdP 257 (ptr nx)) fun t11_12 => k8 t11_12 h5 n6) fun t11_9 h10 n11 => ifP t9_7 false h10 n11 (fun k13 => bindP (load1 ro h10 t11_9) fun t12_17 => k13 t12_17 h10 n11) fun t12_14 h15 n16 => ifP t9_7 false h15 n16 (fun k18 => bindP (lenSl t12_14) fun t13_22 => k18 t13_22 h15 n16) fun t13_19 h20 n21 => ifP t9_7 false h20 n21 (fun k23 => bindP (intB .gtr t13_19 (Value.int IntKind.i64 512)) fun t14_27 => k23 t14_27 h20 n21) fun t14_24 h25 n26 => bindP (pickV t9_7 (Value.bool true) t14_24) fun t15_28 => ifP t15_28 false h25 n26 (fun k29 => bindP (fwdP 258 (ptr nx)) fun t17_33 => k29 t17_33 h25 n26) fun t17_30 h31 n32 => ifP t15_28 false h31 n32 (fun k34 => bindP (load1 ro h31 t17_30) fun t18_38 => k34 t18_38 h31 n32) fun t18_35 h36 n37 => ifP t15_28 false h36 n37 (fun k39 => bindP (lenSl t18_35) fun t19_43 => k39 t19_43 h36 n37) fun t19_40 h41 n42 => ifP t15_28 false h41 n42 (fun k44 => bindP (intB .lss t19_40 (Value.int IntKind.i64 1)) fun t20_48 => k44 t20_48 h41 n42) fun t20_45 h46 n47 => bindP (pickV t15_28 (Value.bool true) t20_45) fun t21_49 => ifP t21_49 false h46 n47 (fun k50 => bindP (fwdP 258 (ptr nx)) fun t23_54 => k50 t23_54 h46 n47) fun t23_51 h52 n53 => ifP t21_49 false h52 n53 (fun k55 => bindP (load1 ro h52 t23_51) fun t24_59 => k55 t24_59 h52 n53) fun t24_56 h57 n58 => ifP t21_49 false h57 n58 (fun k60 => bindP (lenSl t24_56) fun t25_64 => k60 t25_64 h57 n58) fun t25_61 h62 n63 => ifP t21_49 false h62 n63 (fun k65 => bindP (intB .gtr t25_61 (Value.int IntKind.i64 256)) fun t26_69 => k65 t26_69 h62 n63) fun t26_66 h67 n68 => bindP (pickV t21_49 (Value.bool true) t26_66) fun t27_70 => ifP t27_70 false h67 n68 (fun k71 => bindP (fwdP 258 (ptr nx)) fun t29_75 => k71 t29_75 h67 n68) fun t29_72 h73 n74 => ifP t27_70 false h73 n74 (fun k76 => bindP (load1 ro h73 t29_72) fun t30_80 => k76 t30_80 h73 n74) fun t30_77 h78 n79 => ifP t27_70 false h78 n79 (fun k81 => bindP (ixSl 4 t30_77 (Value.int IntKind.i64 0)) fun t31_85 => k81 t31_85 h78 n79) fun t31_82 h83 n84 => ifP t27_70 false h83 n84 (fun k86 => bindP (fwdP 0 t31_82) fun t32_90 => k86 t32_90 h83 n84) fun t32_87 h88 n89 => ifP t27_70 false h88 n89 (fun k91 => bindP (load1 ro h88 t32_87) fun t33_95 => k91 t33_95 h88 n89) fun t33_92 h93 n94 => ifP t27_70 false h93 n94 (fun k96 => bindP (lenSl t33_92) fun t34_100 => k96 t34_100 h93 n94) fun t34_97 h98 n99 => ifP t27_70 false h98 n99 (fun k101 => bindP (fwdP 258 (ptr nx)) fun t35_105 => k101 t35_105 h98 n99) fun t35_102 h103 n104 => ifP t27_70 false h103 n104 (fun k106 => bindP (load1 ro h103 t35_102) fun t36_110 => k106 t36_110 h103 n104) fun t36_107 h108 n109 => ifP t27_70 false h108 n109 (fun k111 => bindP (ixSl 4 t36_107 (Value.int IntKind.i64 0)) fun t37_115 => k111 t37_115 h108 n109) fun t37_112 h113 n114 => ifP t27_70 false h113 n114 (fun k116 => bindP (fwdP 1 t37_112) fun t38_120 => k116 t38_120 h113 n114) fun t38_117 h118 n119 => ifP t27_70 false h118 n119 (fun k121 => bindP (load1 ro h118 t38_117) fun t39_125 => k121 t39_125 h118 n119) fun t39_122 h123 n124 => ifP t27_70 false h123 n124 (fun k126 => bindP (lenSl t39_122) fun t40_130 => k126 t40_130 h123 n124) fun t40_127 h128 n129 => ifP t27_70 false h128 n129 (fun k131 => bindP (intB .add t34_97 t40_127) fun t41_135 => k131 t41_135 h128 n129) fun t41_132 h133 n134 => ifP t27_70 false h133 n134 (fun k136 => bindP (intB .gtr t41_132 (Value.int IntKind.i64 0)) fun t42_140 => k136 t42_140 h133 n134) fun t42_137 h138 n139 => bindP (pickV t27_70 (Value.bool true) t42_137) fun t43_141 => condP t43_141 (∃ h142, Sub h142 h138 ∧ K (Value.bool false) h142 (n139 + 1)) (bindP (fwdP 257 (ptr nx)) fun t44_155 => bindP (load1 ro h138 t44_155) fun t45_156 => bindP (lenSl t45_156) fun t46_157 => loopP (auto_Right_L1 ro) (puts (entE [v0]) [(1, (ptr nx)), (2, (Value.bool false)), (6, t6_2), (7, t7_3), (8, t8_4), (9, t9_7), (10, t9_7), (11, t11_9), (12, t12_14), (13, t13_19), (14, t14_24), (15, t15_28), (16, t15_28), (17, t17_30), (18, t18_35), (19, t19_40), (20, t20_45), (21, t21_49), (22, t21_49), (23, t23_51), (24, t24_56), (25, t25_61), (26, t26_66), (27, t27_70), (28, t27_70), (29, t29_72), (30, t30_77), (31, t31_82), (32, t32_87), (33, t33_92), (34, t34_97), (35, t35_102), (36, t36_107), (37, t37_112), (38, t38_117), (39, t39_122), (40, t40_127), (41, t41_132), (42, t42_137), (43, t43_141), (44, t44_155), (45, t45_156), (46, t46_157), (47, (Value.int IntKind.i64 0))]) h138 (n139 + 4) fun x229 e226 h227 n228 => exP x229 (auto_Right_j1 ro K e226 h227 n228) (fun i230 => beqP (Nat.beq i230 0) (auto_Right_j1 ro K e226 h227 n228) (False)) (∃ h231, Sub h231 h227 ∧ K (e226 2) h231 n228))
theorem auto_Right_eq (ro : Ro) (v0 : Value) (h : T Obj) (nx : Nat) (K : KV) : callPre Try.prog ro (callP Try.prog ro) Try.f22 [v0] h nx K = auto_Right ro v0 h nx K := by kernel_rfl
theorem auto_Right_of {ro : Ro} {v0 : Value} {h : T Obj} {nx : Nat} {K : KV} (hw : auto_Right ro v0 h nx K) : callP Try.prog ro i_auto_Right [v0] h nx K := callP_by (P := Try.prog) (fn := Try.f22) (by kernel_rfl) (by kernel_rfl) (by kernel_rfl) (Eq.mpr (auto_Right_eq ro v0 h nx K) hw)
@[irreducible] def slices_ContainsFunc_api_State_api_State (ro : Ro) (v0 v1 : Value) (h : T Obj) (nx : Nat) (K : KV) : Prop := callP Try.prog ro i_slices_IndexFunc_api_State_api_State [v0, v1] h (nx + 4) fun t7_1 h2 n3 => bindP (intB .geq t7_1 (Value.int IntKind.i64 0)) fun t8_4 => ∃ h5, Sub h5 h2 ∧ K t8_4 h5 (n3 + 2)
theorem slices_ContainsFunc_api_State_api_State_eq (ro : Ro) (v0 v1 : Value) (h : T Obj) (nx : Nat) (K : KV) : callPre Try.prog ro (callP Try.prog ro) Try.f42 [v0, v1] h nx K = slices_ContainsFunc_api_State_api_State ro v0 v1 h nx K := by kernel_rfl
theorem slices_ContainsFunc_api_State_api_State_of {ro : Ro} {v0 v1 : Value} {h : T Obj} {nx : Nat} {K : KV} (hw : slices_ContainsFunc_api_State_api_State ro v0 v1 h nx K) : callP Try.prog ro i_slices_ContainsFunc_api_State_api_State [v0, v1] h nx K := callP_by (P := Try.prog) (fn := Try.f42) (by kernel_rfl) (by kernel_rfl) (by kernel_rfl) (Eq.mpr (slices_ContainsFunc_api_State_api_State_eq ro v0 v1 h nx K) hw)
@[irreducible] def auto_Right_1 (ro : Ro) (v0 v1 : Value) (h : T Obj) (nx : Nat) (K : KV) : Prop := newP h nx (.cells (Value.cells v0) y_api_State) fun h1 => bindP (loadA ro h1 259 v1) fun t4_2 => bindP (loadA ro h1 4 (ptr nx)) fun t5_3 => callP Try.prog ro i_auto_checker_state [t4_2, t5_3] h1 (nx + 5) fun t6_4 h5 n6 => bindP (unV .not t6_4) fun t7_7 => ∃ h8, Sub h8 h5 ∧ K t7_7 h8 (n6 + 2)
theorem auto_Right_1_eq (ro : Ro) (v0 v1 : Value) (h : T Obj) (nx : Nat) (K : KV) : callPre Try.prog ro (callP Try.prog ro) Try.f43 [v0, v1] h nx K = auto_Right_1 ro v0 v1 h nx K := by kernel_rfl
theorem auto_Right_1_of {ro : Ro} {v0 v1 : Value} {h : T Obj} {nx : Nat} {K : KV} (hw : auto_Right_1 ro v0 v1 h nx K) : callP Try.prog ro i_auto_Right_1 [v0, v1] h nx K := callP_by (P := Try.prog) (fn := Try.f43) (by kernel_rfl) (by kernel_rfl) (by kernel_rfl) (Eq.mpr (auto_Right_1_eq ro v0 v1 h nx K) hw)
@[irreducible] def auto_checker_state_j1 (ro : Ro) (K : KV) : Env → T Obj → Nat → Prop := fun e h nx => ∃ h127, Sub h127 h ∧ K (Value.bool true) h127 (nx + 1)
@[irreducible] def auto_checker_state_L1 (ro : Ro) : PT := fun e h nx Q => bindP (intB .lss (e 47) (e 46)) fun t48_131 => condP t48_131 (bindP (ixSl 1 (e 45) (e 47)) fun t50_132 => bindP (load1 ro h t50_132) fun t51_133 => bindP (fwdP 2 (e 3)) fun t52_134 => bindP (load1 ro h t52_134) fun t53_135 => bindP (ixSl 1 t53_135 (e 47)) fun t55_136 => bindP (load1 ro h t55_136) fun t56_137 => bindP (intB .lss t56_137 (Value.int IntKind.i64 (-1))) fun t57_138 => ifP t57_138 false h (nx + 13) (fun k139 => bindP (fwdP 2 (e 3)) fun t59_143 => k139 t59_143 h (nx + 14)) fun t59_140 h141 n142 => ifP t57_138 false h141 n142 (fun k144 => bindP (load1 ro h141 t59_140) fun t60_148 => k144 t60_148 h141 (n142 + 1)) fun t60_145 h146 n147 => ifP t57_138 false h146 n147 (fun k149 => k149 (e 47) h146 (n147 + 1)) fun t61_150 h151 n152 => ifP t57_138 false h151 n152 (fun k153 => bindP (ixSl 1 t60_145 t61_150) fun t62_157 => k153 t62_157 h151 (n152 + 1)) fun t62_154 h155 n156 => ifP t57_138 false h155 n156 (fun k158 => bindP (load1 ro h155 t62_154) fun t63_162 => k158 t63_162 h155 (n156 + 1)) fun t63_159 h160 n161 => ifP t57_138 false h160 n161 (fun k163 => bindP (intB .geq t63_159 (Value.int IntKind.i64 512)) fun t64_167 => k163 t64_167 h160 (n161 + 1)) fun t64_164 h165 n166 => bindP (pickV t57_138 (Value.bool true) t64_164) fun t65_168 => ifP t65_168 false h165 (n166 + 2) (fun k169 => k169 t51_133 h165 (n166 + 3)) fun t67_170 h171 n172 => ifP t65_168 false h171 n172 (fun k173 => bindP (lenSl t67_170) fun t68_177 => k173 t68_177 h171 (n172 + 1)) fun t68_174 h175 n176 => ifP t65_168 false h175 n176 (fun k178 => bindP (fwdP 0 (e 2)) fun t69_182 => k178 t69_182 h175 (n176 + 1)) fun t69_179 h180 n181 => ifP t65_168 false h180 n181 (fun k183 => bindP (fwdP 0 t69_179) fun t70_187 => k183 t70_187 h180 (n181 + 1)) fun t70_184 h185 n186 => ifP t65_168 false h185 n186 (fun k188 => bindP (fwdP 256 t70_184) fun t71_192 => k188 t71_192 h185 (n186 + 1)) fun t71_189 h190 n191 => ifP t65_168 false h190 n191 (fun k193 => bindP (load1 ro h190 t71_189) fun t72_197 => k193 t72_197 h190 (n191 + 1)) fun t72_194 h195 n196 => ifP t65_168 false h195 n196 (fun k198 => bindP (intB .neq t68_174 t72_194) fun t73_202 => k198 t73_202 h195 (n196 + 1)) fun t73_199 h200 n201 => bindP (pickV t65_168 (Value.bool true) t73_199) fun t74_203 => condP t74_203 (Q .ret (puts e [(48, t48_131), (49, (e 47)), (50, t50_132), (51, t51_133), (6, (e 47)), (7, t51_133), (52, t52_134), (53, t53_135), (54, (e 47)), (55, t55_136), (56, t56_137), (57, t57_138), (58, t57_138), (59, t59_140), (60, t60_145), (61, t61_150), (62, t62_154), (63, t63_159), (64, t64_164), (65, t65_168), (66, t65_168), (67, t67_170), (68, t68_174), (69, t69_179), (70, t70_184), (71, t71_189), (72, t72_194), (73, t73_199), (74, t74_203), (4, (Value.bool false))]) h200 (n201 + 2)) (callP Try.prog ro i_slices_ContainsFunc_api_Move_api_Move [t51_133, (.func (.func i_auto_checker_state_1) #[] #[(e 2), (e 3)])] h200 (n201 + 4) fun t77_204 h205 n206 => condP t77_204 (Q .ret (puts e [(48, t48_131), (49, (e 47)), (50, t50_132), (51, t51_133), (6, (e 47)), (7, t51_133), (52, t52_134), (53, t53_135), (54, (e 47)), (55, t55_136), (56, t56_137), (57, t57_138), (58, t57_138), (59, t59_140), (60, t60_145), (61, t61_150), (62, t62_154), (63, t63_159), (64, t64_164), (65, t65_168), (66, t65_168), (67, t67_170), (68, t68_174), (69, t69_179), (70, t70_184), (71, t71_189), (72, t72_194), (73, t73_199), (74, t74_203), (75, t51_133), (76, (.func (.func i_auto_checker_state_1) #[] #[(e 2), (e 3)])), (77, t77_204), (4, (Value.bool false))]) h205 (n206 + 1)) (bindP (intB .add (e 47) (Value.int IntKind.i64 1)) fun t78_207 => Q .normal (puts e [(48, t48_131), (49, (e 47)), (50, t50_132), (51, t51_133), (6, (e 47)), (7, t51_133), (52, t52_134), (53, t53_135), (54, (e 47)), (55, t55_136), (56, t56_137), (57, t57_138), (58, t57_138), (59, t59_140), (60, t60_145), (61, t61_150), (62, t62_154), (63, t63_159), (64, t64_164), (65, t65_168), (66, t65_168), (67, t67_170), (68, t68_174), (69, t69_179), (70, t70_184), (71, t71_189), (72, t72_194), (73, t73_199), (74, t74_203), (75, t51_133), (76, (.func (.func i_auto_checker_state_1) #[] #[(e 2), (e 3)])), (77, t77_204), (78, t78_207), (47, t78_207)]) h205 (n206 + 2)))) (Q (.exit 0) (puts e [(48, t48_131)]) h (nx + 1))
@[irreducible] def auto_checker_state (ro : Ro) (v0 v1 : Value) (h : T Obj) (nx : Nat) (K : KV) : Prop := newP h nx (.cells (Value.cells v0) y_auto_checker) fun h1 => newP h1 (nx + 1) (.cells (Value.cells v1) y_api_State) fun h2 => bindP (fwdP 1 (ptr (nx + 1))) fun t8_3 => bindP (load1 ro h2 t8_3) fun t9_4 => bindP (lenSl t9_4) fun t10_5 => callP Try.prog ro i_auto_Codes [t10_5] h2 (nx + 7) fun t11_6 h7 n8 => bindP (intB .eql t11_6 (Value.int IntKind.i64 0)) fun t13_9 => ifP t13_9 false h7 (n8 + 4) (fun k10 => bindP (fwdP 2 (ptr (nx + 1))) fun t15_14 => k10 t15_14 h7 (n8 + 5)) fun t15_11 h12 n13 => ifP t13_9 false h12 n13 (fun k15 => bindP (load1 ro h12 t15_11) fun t16_19 => k15 t16_19 h12 (n13 + 1)) fun t16_16 h17 n18 => ifP t13_9 false h17 n18 (fun k20 => bindP (lenSl t16_16) fun t17_24 => k20 t17_24 h17 (n18 + 1)) fun t17_21 h22 n23 => ifP t13_9 false h22 n23 (fun k25 => k25 t11_6 h22 (n23 + 1)) fun t18_26 h27 n28 => ifP t13_9 false h27 n28 (fun k29 => bindP (intB .neq t17_21 t18_26) fun t19_33 => k29 t19_33 h27 (n28 + 1)) fun t19_30 h31 n32 => bindP (pickV t13_9 (Value.bool true) t19_30) fun t20_34 => ifP t20_34 false h31 (n32 + 2) (fun k35 => bindP (fwdP 3 (ptr (nx + 1))) fun t22_39 => k35 t22_39 h31 (n32 + 3)) fun t22_36 h37 n38 => ifP t20_34 false h37 n38 (fun k40 => bindP (load1 ro h37 t22_36) fun t23_44 => k40 t23_44 h37 (n38 + 1)) fun t23_41 h42 n43 => ifP t20_34 false h42 n43 (fun k45 => bindP (lenSl t23_41) fun t24_49 => k45 t24_49 h42 (n43 + 1)) fun t24_46 h47 n48 => ifP t20_34 false h47 n48 (fun k50 => k50 t11_6 h47 (n48 + 1)) fun t25_51 h52 n53 => ifP t20_34 false h52 n53 (fun k54 => bindP (intB .neq t24_46 t25_51) fun t26_58 => k54 t26_58 h52 (n53 + 1)) fun t26_55 h56 n57 => bindP (pickV t20_34 (Value.bool true) t26_55) fun t27_59 => ifP t27_59 false h56 (n57 + 2) (fun k60 => bindP (fwdP 0 (ptr (nx + 1))) fun t29_64 => k60 t29_64 h56 (n57 + 3)) fun t29_61 h62 n63 => ifP t27_59 false h62 n63 (fun k65 => bindP (load1 ro h62 t29_61) fun t30_69 => k65 t30_69 h62 (n63 + 1)) fun t30_66 h67 n68 => ifP t27_59 false h67 n68 (fun k70 => callP Try.prog ro i_auto_rises [t30_66, (Value.int IntKind.i64 512)] h67 (n68 + 1) fun t31_74 h75 n76 => k70 t31_74 h75 n76) fun t31_71 h72 n73 => ifP t27_59 false h72 n73 (fun k77 => bindP (unV .not t31_71) fun t32_81 => k77 t32_81 h72 (n73 + 1)) fun t32_78 h79 n80 => bindP (pickV t27_59 (Value.bool true) t32_78) fun t33_82 => ifP t33_82 false h79 (n80 + 2) (fun k83 => bindP (fwdP 1 (ptr (nx + 1))) fun t35_87 => k83 t35_87 h79 (n80 + 3)) fun t35_84 h85 n86 => ifP t33_82 false h85 n86 (fun k88 => bindP (load1 ro h85 t35_84) fun t36_92 => k88 t36_92 h85 (n86 + 1)) fun t36_89 h90 n91 => ifP t33_82 false h90 n91 (fun k93 => bindP (fwdP 0 (ptr nx)) fun t37_97 => k93 t37_97 h90 (n91 + 1)) fun t37_94 h95 n96 => ifP t33_82 false h95 n96 (fun k98 => bindP (fwdP 257 t37_94) fun t38_102 => k98 t38_102 h95 (n96 + 1)) fun t38_99 h100 n101 => ifP t33_82 false h100 n101 (fun k103 => bindP (load1 ro h100 t38_99) fun t39_107 => k103 t39_107 h100 (n101 + 1)) fun t39_104 h105 n106 => ifP t33_82 false h105 n106 (fun k108 => bindP (lenSl t39_104) fun t40_112 => k108 t40_112 h105 (n106 + 1)) fun t40_109 h110 n111 => ifP t33_82 false h110 n111 (fun k113 => callP Try.prog ro i_auto_rises [t36_89, t40_109] h110 (n111 + 1) fun t41_117 h118 n119 => k113 t41_117 h118 n119) fun t41_114 h115 n116 => ifP t33_82 false h115 n116 (fun k120 => bindP (unV .not t41_114) fun t42_124 => k120 t42_124 h115 (n116 + 1)) fun t42_121 h122 n123 => bindP (pickV t33_82 (Value.bool true) t42_121) fun t43_125 => condP t43_125 (∃ h126, Sub h126 h122 ∧ K (Value.bool false) h126 (n123 + 2)) (bindP (fwdP 3 (ptr (nx + 1))) fun t44_128 => bindP (load1 ro h122 t44_128) fun t45_129 => bindP (lenSl t45_129) fun t46_130 => loopP (auto_checker_state_L1 ro) (puts (entE [v0, v1]) [(2, (ptr nx)), (3, (ptr (nx + 1))), (4, (Value.bool false)), (8, t8_3), (9, t9_4), (10, t10_5), (11, t11_6), (5, t11_6), (12, t11_6), (13, t13_9), (14, t13_9), (15, t15_11), (16, t16_16), (17, t17_21), (18, t18_26), (19, t19_30), (20, t20_34), (21, t20_34), (22, t22_36), (23, t23_41), (24, t24_46), (25, t25_51), (26, t26_55), (27, t27_59), (28, t27_59), (29, t29_61), (30, t30_66), (31, t31_71), (32, t32_78), (33, t33_82), (34, t33_82), (35, t35_84), (36, t36_89), (37, t37_94), (38, t38_99), (39, t39_104), (40, t40_109), (41, t41_114), (42, t42_121), (43, t43_125), (44, t44_128), (45, t45_129), (46, t46_130), (47, (Value.int IntKind.i64 0))]) h122 (n123 + 5) fun x211 e208 h209 n210 => exP x211 (auto_checker_state_j1 ro K e208 h209 n210) (fun i212 => beqP (Nat.beq i212 0) (auto_checker_state_j1 ro K e208 h209 n210) (False)) (∃ h213, Sub h213 h209 ∧ K (e208 4) h213 n210))
theorem auto_checker_state_eq (ro : Ro) (v0 v1 : Value) (h : T Obj) (nx : Nat) (K : KV) : callPre Try.prog ro (callP Try.prog ro) Try.f44 [v0, v1] h nx K = auto_checker_state ro v0 v1 h nx K := by kernel_rfl
theorem auto_checker_state_of {ro : Ro} {v0 v1 : Value} {h : T Obj} {nx : Nat} {K : KV} (hw : auto_checker_state ro v0 v1 h nx K) : callP Try.prog ro i_auto_checker_state [v0, v1] h nx K := callP_by (P := Try.prog) (fn := Try.f44) (by kernel_rfl) (by kernel_rfl) (by kernel_rfl) (Eq.mpr (auto_checker_state_eq ro v0 v1 h nx K) hw)
@[irreducible] def slices_IndexFunc_api_State_api_State_j1 (ro : Ro) (K : KV) : Env → T Obj → Nat → Prop := fun e h nx => ∃ h1, Sub h1 h ∧ K (Value.int IntKind.i64 (-1)) h1 (nx + 1)
@[irreducible] def slices_IndexFunc_api_State_api_State_L1 (ro : Ro) : PT := fun e h nx Q => bindP (intB .lss (e 8) (e 7)) fun t9_3 => condP t9_3 (bindP (ixSl 4 (e 0) (e 8)) fun t14_4 => bindP (loadA ro h 4 t14_4) fun t15_5 => callF (callP Try.prog ro) (e 1) [t15_5] h (nx + 9) fun t16_6 h7 n8 => condP t16_6 (Q .ret (puts e [(9, t9_3), (10, (e 8)), (5, (e 8)), (11, (e 1)), (12, (e 0)), (13, (e 8)), (14, t14_4), (15, t15_5), (16, t16_6), (17, (e 8)), (4, (e 8))]) h7 (n8 + 2)) (bindP (intB .add (e 8) (Value.int IntKind.i64 1)) fun t18_9 => Q .normal (puts e [(9, t9_3), (10, (e 8)), (5, (e 8)), (11, (e 1)), (12, (e 0)), (13, (e 8)), (14, t14_4), (15, t15_5), (16, t16_6), (18, t18_9), (8, t18_9)]) h7 (n8 + 2))) (Q (.exit 0) (puts e [(9, t9_3)]) h (nx + 1))
@[irreducible] def slices_IndexFunc_api_State_api_State (ro : Ro) (v0 v1 : Value) (h : T Obj) (nx : Nat) (K : KV) : Prop := bindP (lenSl v0) fun t7_2 => loopP (slices_IndexFunc_api_State_api_State_L1 ro) (puts (entE [v0, v1]) [(4, (Value.int IntKind.i64 0)), (6, v0), (7, t7_2), (8, (Value.int IntKind.i64 0))]) h (nx + 4) fun x13 e10 h11 n12 => exP x13 (slices_IndexFunc_api_State_api_State_j1 ro K e10 h11 n12) (fun i14 => beqP (Nat.beq i14 0) (slices_IndexFunc_api_State_api_State_j1 ro K e10 h11 n12) (False)) (∃ h15, Sub h15 h11 ∧ K (e10 4) h15 n12)
theorem slices_IndexFunc_api_State_api_State_eq (ro : Ro) (v0 v1 : Value) (h : T Obj) (nx : Nat) (K : KV) : callPre Try.prog ro (callP Try.prog ro) Try.f76 [v0, v1] h nx K = slices_IndexFunc_api_State_api_State ro v0 v1 h nx K := by kernel_rfl
theorem slices_IndexFunc_api_State_api_State_of {ro : Ro} {v0 v1 : Value} {h : T Obj} {nx : Nat} {K : KV} (hw : slices_IndexFunc_api_State_api_State ro v0 v1 h nx K) : callP Try.prog ro i_slices_IndexFunc_api_State_api_State [v0, v1] h nx K := callP_by (P := Try.prog) (fn := Try.f76) (by kernel_rfl) (by kernel_rfl) (by kernel_rfl) (Eq.mpr (slices_IndexFunc_api_State_api_State_eq ro v0 v1 h nx K) hw)
@[irreducible] def auto_rises_j1 (ro : Ro) (K : KV) : Env → T Obj → Nat → Prop := fun e h nx => ∃ h1, Sub h1 h ∧ K (Value.bool true) h1 (nx + 1)
@[irreducible] def auto_rises_L1 (ro : Ro) : PT := fun e h nx Q => bindP (intB .lss (e 10) (e 9)) fun t11_3 => condP t11_3 (bindP (ixSl 1 (e 8) (e 10)) fun t12_4 => bindP (load1 ro h t12_4) fun t13_5 => bindP (intB .leq t13_5 (e 5)) fun t16_6 => ifP t16_6 false h (nx + 8) (fun k7 => k7 t13_5 h (nx + 9)) fun t18_8 h9 n10 => ifP t16_6 false h9 n10 (fun k11 => k11 (e 1) h9 (n10 + 1)) fun t19_12 h13 n14 => ifP t16_6 false h13 n14 (fun k15 => bindP (intB .geq t18_8 t19_12) fun t20_19 => k15 t20_19 h13 (n14 + 1)) fun t20_16 h17 n18 => bindP (pickV t16_6 (Value.bool true) t20_16) fun t21_20 => condP t21_20 (Q .ret (puts e [(11, t11_3), (12, t12_4), (13, t13_5), (7, t13_5), (14, t13_5), (15, (e 5)), (16, t16_6), (17, t16_6), (18, t18_8), (19, t19_12), (20, t20_16), (21, t21_20), (4, (Value.bool false))]) h17 (n18 + 2)) (bindP (intB .add (e 10) (Value.int IntKind.i64 1)) fun t23_21 => Q .normal (puts e [(11, t11_3), (12, t12_4), (13, t13_5), (7, t13_5), (14, t13_5), (15, (e 5)), (16, t16_6), (17, t16_6), (18, t18_8), (19, t19_12), (20, t20_16), (21, t21_20), (22, t13_5), (5, t13_5), (23, t23_21), (10, t23_21)]) h17 (n18 + 5))) (Q (.exit 0) (puts e [(11, t11_3)]) h (nx + 1))
@[irreducible] def auto_rises (ro : Ro) (v0 v1 : Value) (h : T Obj) (nx : Nat) (K : KV) : Prop := bindP (lenSl v0) fun t9_2 => loopP (auto_rises_L1 ro) (puts (entE [v0, v1]) [(4, (Value.bool false)), (5, (Value.int IntKind.i64 (-1))), (8, v0), (9, t9_2), (10, (Value.int IntKind.i64 0))]) h (nx + 5) fun x25 e22 h23 n24 => exP x25 (auto_rises_j1 ro K e22 h23 n24) (fun i26 => beqP (Nat.beq i26 0) (auto_rises_j1 ro K e22 h23 n24) (False)) (∃ h27, Sub h27 h23 ∧ K (e22 4) h27 n24)
theorem auto_rises_eq (ro : Ro) (v0 v1 : Value) (h : T Obj) (nx : Nat) (K : KV) : callPre Try.prog ro (callP Try.prog ro) Try.f77 [v0, v1] h nx K = auto_rises ro v0 v1 h nx K := by kernel_rfl
theorem auto_rises_of {ro : Ro} {v0 v1 : Value} {h : T Obj} {nx : Nat} {K : KV} (hw : auto_rises ro v0 v1 h nx K) : callP Try.prog ro i_auto_rises [v0, v1] h nx K := callP_by (P := Try.prog) (fn := Try.f77) (by kernel_rfl) (by kernel_rfl) (by kernel_rfl) (Eq.mpr (auto_rises_eq ro v0 v1 h nx K) hw)
@[irreducible] def slices_ContainsFunc_api_Move_api_Move (ro : Ro) (v0 v1 : Value) (h : T Obj) (nx : Nat) (K : KV) : Prop := callP Try.prog ro i_slices_IndexFunc_api_Move_api_Move [v0, v1] h (nx + 4) fun t7_1 h2 n3 => bindP (intB .geq t7_1 (Value.int IntKind.i64 0)) fun t8_4 => ∃ h5, Sub h5 h2 ∧ K t8_4 h5 (n3 + 2)
theorem slices_ContainsFunc_api_Move_api_Move_eq (ro : Ro) (v0 v1 : Value) (h : T Obj) (nx : Nat) (K : KV) : callPre Try.prog ro (callP Try.prog ro) Try.f78 [v0, v1] h nx K = slices_ContainsFunc_api_Move_api_Move ro v0 v1 h nx K := by kernel_rfl
theorem slices_ContainsFunc_api_Move_api_Move_of {ro : Ro} {v0 v1 : Value} {h : T Obj} {nx : Nat} {K : KV} (hw : slices_ContainsFunc_api_Move_api_Move ro v0 v1 h nx K) : callP Try.prog ro i_slices_ContainsFunc_api_Move_api_Move [v0, v1] h nx K := callP_by (P := Try.prog) (fn := Try.f78) (by kernel_rfl) (by kernel_rfl) (by kernel_rfl) (Eq.mpr (slices_ContainsFunc_api_Move_api_Move_eq ro v0 v1 h nx K) hw)
@[irreducible] def auto_checker_state_1 (ro : Ro) (v0 v1 v2 : Value) (h : T Obj) (nx : Nat) (K : KV) : Prop := newP h nx (.cells (Value.cells v0) y_api_Move) fun h1 => bindP (loadA ro h1 259 v1) fun t5_2 => bindP (loadA ro h1 4 v2) fun t6_3 => bindP (loadA ro h1 2 (ptr nx)) fun t7_4 => callP Try.prog ro i_auto_checker_move [t5_2, t6_3, t7_4] h1 (nx + 6) fun t8_5 h6 n7 => bindP (unV .not t8_5) fun t9_8 => ∃ h9, Sub h9 h6 ∧ K t9_8 h9 (n7 + 2)
theorem auto_checker_state_1_eq (ro : Ro) (v0 v1 v2 : Value) (h : T Obj) (nx : Nat) (K : KV) : callPre Try.prog ro (callP Try.prog ro) Try.f79 [v0, v1, v2] h nx K = auto_checker_state_1 ro v0 v1 v2 h nx K := by kernel_rfl
theorem auto_checker_state_1_of {ro : Ro} {v0 v1 v2 : Value} {h : T Obj} {nx : Nat} {K : KV} (hw : auto_checker_state_1 ro v0 v1 v2 h nx K) : callP Try.prog ro i_auto_checker_state_1 [v0, v1, v2] h nx K := callP_by (P := Try.prog) (fn := Try.f79) (by kernel_rfl) (by kernel_rfl) (by kernel_rfl) (Eq.mpr (auto_checker_state_1_eq ro v0 v1 v2 h nx K) hw)
@[irreducible] def auto_checker_move_j1 (ro : Ro) (K : KV) : Env → T Obj → Nat → Prop := fun e h nx => ∃ h118, Sub h118 h ∧ K (Value.bool true) h118 (nx + 1)
@[irreducible] def auto_checker_move_L1 (ro : Ro) : PT := fun e h nx Q => bindP (intB .lss (e 46) (e 45)) fun t47_122 => condP t47_122 (bindP (ixSl 1 (e 44) (e 46)) fun t49_123 => bindP (load1 ro h t49_123) fun t50_124 => bindP (intB .lss t50_124 (Value.int IntKind.u8 1)) fun t52_125 => ifP t52_125 false h (nx + 33) (fun k126 => k126 t50_124 h (nx + 33)) fun t54_127 h128 n129 => ifP t52_125 false h128 n129 (fun k130 => bindP (intB .gtr t54_127 (Value.int IntKind.u8 3)) fun t55_134 => k130 t55_134 h128 n129) fun t55_131 h132 n133 => bindP (pickV t52_125 (Value.bool true) t55_131) fun t56_135 => ifP t56_135 false h132 n133 (fun k136 => k136 t50_124 h132 n133) fun t58_137 h138 n139 => ifP t56_135 false h138 n139 (fun k140 => bindP (intB .neq t58_137 (Value.int IntKind.u8 3)) fun t59_144 => k140 t59_144 h138 n139) fun t59_141 h142 n143 => ifP t56_135 false h142 n143 (fun k145 => k145 t59_141 h142 n143) fun t60_146 h147 n148 => ifP t60_146 true h147 n148 (fun k149 => bindP (fwdP 1 (e 4)) fun t61_153 => k149 t61_153 h147 n148) fun t61_150 h151 n152 => ifP t60_146 true h151 n152 (fun k154 => bindP (load1 ro h151 t61_150) fun t62_158 => k154 t62_158 h151 n152) fun t62_155 h156 n157 => ifP t60_146 true h156 n157 (fun k159 => bindP (fwdP 0 (e 3)) fun t63_163 => k159 t63_163 h156 n157) fun t63_160 h161 n162 => ifP t60_146 true h161 n162 (fun k164 => bindP (fwdP 258 t63_160) fun t64_168 => k164 t64_168 h161 n162) fun t64_165 h166 n167 => ifP t60_146 true h166 n167 (fun k169 => bindP (load1 ro h166 t64_165) fun t65_173 => k169 t65_173 h166 n167) fun t65_170 h171 n172 => ifP t60_146 true h171 n172 (fun k174 => bindP (fwdP 0 (e 5)) fun t66_178 => k174 t66_178 h171 n172) fun t66_175 h176 n177 => ifP t60_146 true h176 n177 (fun k179 => bindP (load1 ro h176 t66_175) fun t67_183 => k179 t67_183 h176 n177) fun t67_180 h181 n182 => ifP t60_146 true h181 n182 (fun k184 => bindP (ixSl 4 t65_170 t67_180) fun t68_188 => k184 t68_188 h181 n182) fun t68_185 h186 n187 => ifP t60_146 true h186 n187 (fun k189 => bindP (fwdP 1 t68_185) fun t69_193 => k189 t69_193 h186 n187) fun t69_190 h191 n192 => ifP t60_146 true h191 n192 (fun k194 => bindP (load1 ro h191 t69_190) fun t70_198 => k194 t70_198 h191 n192) fun t70_195 h196 n197 => ifP t60_146 true h196 n197 (fun k199 => k199 (e 46) h196 n197) fun t71_200 h201 n202 => ifP t60_146 true h201 n202 (fun k203 => bindP (ixSl 1 t70_195 t71_200) fun t72_207 => k203 t72_207 h201 n202) fun t72_204 h205 n206 => ifP t60_146 true h205 n206 (fun k208 => bindP (load1 ro h205 t72_204) fun t73_212 => k208 t73_212 h205 n206) fun t73_209 h210 n211 => ifP t60_146 true h210 n211 (fun k213 => callP Try.prog ro i_slices_Contains_int_int [t62_155, t73_209] h210 n211 fun t74_217 h218 n219 => k213 t74_217 h218 n219) fun t74_214 h215 n216 => ifP t60_146 true h215 n216 (fun k220 => bindP (unV .not t74_214) fun t75_224 => k220 t75_224 h215 n216) fun t75_221 h222 n223 => ifP t56_135 false h222 n223 (fun k225 => bindP (pickV t60_146 t75_221 (Value.bool false)) fun t76_229 => k225 t76_229 h222 n223) fun t76_226 h227 n228 => bindP (pickV t56_135 (Value.bool true) t76_226) fun t77_230 => condP t77_230 (Q .ret (puts e [(47, t47_122), (48, (e 46)), (49, t49_123), (50, t50_124), (7, (e 46)), (8, t50_124), (51, t50_124), (52, t52_125), (53, t52_125), (54, t54_127), (55, t55_131), (56, t56_135), (57, t56_135), (58, t58_137), (59, t59_141), (60, t60_146), (61, t61_150), (62, t62_155), (63, t63_160), (64, t64_165), (65, t65_170), (66, t66_175), (67, t67_180), (68, t68_185), (69, t69_190), (70, t70_195), (71, t71_200), (72, t72_204), (73, t73_209), (74, t74_214), (75, t75_221), (76, t76_226), (77, t77_230), (6, (Value.bool false))]) h227 (n228 + 1)) (bindP (intB .add (e 46) (Value.int IntKind.i64 1)) fun t78_231 => Q .normal (puts e [(47, t47_122), (48, (e 46)), (49, t49_123), (50, t50_124), (7, (e 46)), (8, t50_124), (51, t50_124), (52, t52_125), (53, t52_125), (54, t54_127), (55, t55_131), (56, t56_135), (57, t56_135), (58, t58_137), (59, t59_141), (60, t60_146), (61, t61_150), (62, t62_155), (63, t63_160), (64, t64_165), (65, t65_170), (66, t66_175), (67, t67_180), (68, t68_185), (69, t69_190), (70, t70_195), (71, t71_200), (72, t72_204), (73, t73_209), (74, t74_214), (75, t75_221), (76, t76_226), (77, t77_230), (78, t78_231), (46, t78_231)]) h227 (n228 + 2))) (Q (.exit 0) (puts e [(47, t47_122)]) h (nx + 1))
@[irreducible] def auto_checker_move (ro : Ro) (v0 v1 v2 : Value) (h : T Obj) (nx : Nat) (K : KV) : Prop := newP h nx (.cells (Value.cells v0) y_auto_checker) fun h1 => newP h1 (nx + 1) (.cells (Value.cells v1) y_api_State) fun h2 => newP h2 (nx + 2) (.cells (Value.cells v2) y_api_Move) fun h3 => bindP (fwdP 0 (ptr (nx + 2))) fun t9_4 => bindP (load1 ro h3 t9_4) fun t10_5 => bindP (intB .eql t10_5 (Value.int IntKind.i64 (-1))) fun t11_6 => condP t11_6 (bindP (fwdP 1 (ptr (nx + 2))) fun t12_7 => bindP (load1 ro h3 t12_7) fun t13_8 => bindP (lenSl t13_8) fun t14_9 => bindP (intB .eql t14_9 (Value.int IntKind.i64 0)) fun t15_10 => ∃ h11, Sub h11 h3 ∧ K t15_10 h11 (nx + 12)) (bindP (fwdP 0 (ptr (nx + 2))) fun t16_12 => bindP (load1 ro h3 t16_12) fun t17_13 => bindP (intB .lss t17_13 (Value.int IntKind.i64 1)) fun t18_14 => ifP t18_14 false h3 (nx + 34) (fun k15 => bindP (fwdP 0 (ptr (nx + 2))) fun t20_19 => k15 t20_19 h3 (nx + 34)) fun t20_16 h17 n18 => ifP t18_14 false h17 n18 (fun k20 => bindP (load1 ro h17 t20_16) fun t21_24 => k20 t21_24 h17 n18) fun t21_21 h22 n23 => ifP t18_14 false h22 n23 (fun k25 => bindP (fwdP 0 (ptr nx)) fun t22_29 => k25 t22_29 h22 n23) fun t22_26 h27 n28 => ifP t18_14 false h27 n28 (fun k30 => bindP (fwdP 258 t22_26) fun t23_34 => k30 t23_34 h27 n28) fun t23_31 h32 n33 => ifP t18_14 false h32 n33 (fun k35 => bindP (load1 ro h32 t23_31) fun t24_39 => k35 t24_39 h32 n33) fun t24_36 h37 n38 => ifP t18_14 false h37 n38 (fun k40 => bindP (lenSl t24_36) fun t25_44 => k40 t25_44 h37 n38) fun t25_41 h42 n43 => ifP t18_14 false h42 n43 (fun k45 => bindP (intB .geq t21_21 t25_41) fun t26_49 => k45 t26_49 h42 n43) fun t26_46 h47 n48 => bindP (pickV t18_14 (Value.bool true) t26_46) fun t27_50 => ifP t27_50 false h47 n48 (fun k51 => bindP (fwdP 1 (ptr (nx + 2))) fun t29_55 => k51 t29_55 h47 n48) fun t29_52 h53 n54 => ifP t27_50 false h53 n54 (fun k56 => bindP (load1 ro h53 t29_52) fun t30_60 => k56 t30_60 h53 n54) fun t30_57 h58 n59 => ifP t27_50 false h58 n59 (fun k61 => bindP (lenSl t30_57) fun t31_65 => k61 t31_65 h58 n59) fun t31_62 h63 n64 => ifP t27_50 false h63 n64 (fun k66 => bindP (fwdP 0 (ptr nx)) fun t32_70 => k66 t32_70 h63 n64) fun t32_67 h68 n69 => ifP t27_50 false h68 n69 (fun k71 => bindP (fwdP 258 t32_67) fun t33_75 => k71 t33_75 h68 n69) fun t33_72 h73 n74 => ifP t27_50 false h73 n74 (fun k76 => bindP (load1 ro h73 t33_72) fun t34_80 => k76 t34_80 h73 n74) fun t34_77 h78 n79 => ifP t27_50 false h78 n79 (fun k81 => bindP (fwdP 0 (ptr (nx + 2))) fun t35_85 => k81 t35_85 h78 n79) fun t35_82 h83 n84 => ifP t27_50 false h83 n84 (fun k86 => bindP (load1 ro h83 t35_82) fun t36_90 => k86 t36_90 h83 n84) fun t36_87 h88 n89 => ifP t27_50 false h88 n89 (fun k91 => bindP (ixSl 4 t34_77 t36_87) fun t37_95 => k91 t37_95 h88 n89) fun t37_92 h93 n94 => ifP t27_50 false h93 n94 (fun k96 => bindP (fwdP 1 t37_92) fun t38_100 => k96 t38_100 h93 n94) fun t38_97 h98 n99 => ifP t27_50 false h98 n99 (fun k101 => bindP (load1 ro h98 t38_97) fun t39_105 => k101 t39_105 h98 n99) fun t39_102 h103 n104 => ifP t27_50 false h103 n104 (fun k106 => bindP (lenSl t39_102) fun t40_110 => k106 t40_110 h103 n104) fun t40_107 h108 n109 => ifP t27_50 false h108 n109 (fun k111 => bindP (intB .neq t31_62 t40_107) fun t41_115 => k111 t41_115 h108 n109) fun t41_112 h113 n114 => bindP (pickV t27_50 (Value.bool true) t41_112) fun t42_116 => condP t42_116 (∃ h117, Sub h117 h113 ∧ K (Value.bool false) h117 (n114 + 1)) (bindP (fwdP 1 (ptr (nx + 2))) fun t43_119 => bindP (load1 ro h113 t43_119) fun t44_120 => bindP (lenSl t44_120) fun t45_121 => loopP (auto_checker_move_L1 ro) (puts (entE [v0, v1, v2]) [(3, (ptr nx)), (4, (ptr (nx + 1))), (5, (ptr (nx + 2))), (6, (Value.bool false)), (9, t9_4), (10, t10_5), (11, t11_6), (16, t16_12), (17, t17_13), (18, t18_14), (19, t18_14), (20, t20_16), (21, t21_21), (22, t22_26), (23, t23_31), (24, t24_36), (25, t25_41), (26, t26_46), (27, t27_50), (28, t27_50), (29, t29_52), (30, t30_57), (31, t31_62), (32, t32_67), (33, t33_72), (34, t34_77), (35, t35_82), (36, t36_87), (37, t37_92), (38, t38_97), (39, t39_102), (40, t40_107), (41, t41_112), (42, t42_116), (43, t43_119), (44, t44_120), (45, t45_121), (46, (Value.int IntKind.i64 0))]) h113 (n114 + 4) fun x235 e232 h233 n234 => exP x235 (auto_checker_move_j1 ro K e232 h233 n234) (fun i236 => beqP (Nat.beq i236 0) (auto_checker_move_j1 ro K e232 h233 n234) (False)) (∃ h237, Sub h237 h233 ∧ K (e232 6) h237 n234)))
theorem auto_checker_move_eq (ro : Ro) (v0 v1 v2 : Value) (h : T Obj) (nx : Nat) (K : KV) : callPre Try.prog ro (callP Try.prog ro) Try.f80 [v0, v1, v2] h nx K = auto_checker_move ro v0 v1 v2 h nx K := by kernel_rfl
theorem auto_checker_move_of {ro : Ro} {v0 v1 v2 : Value} {h : T Obj} {nx : Nat} {K : KV} (hw : auto_checker_move ro v0 v1 v2 h nx K) : callP Try.prog ro i_auto_checker_move [v0, v1, v2] h nx K := callP_by (P := Try.prog) (fn := Try.f80) (by kernel_rfl) (by kernel_rfl) (by kernel_rfl) (Eq.mpr (auto_checker_move_eq ro v0 v1 v2 h nx K) hw)
@[irreducible] def slices_IndexFunc_api_Move_api_Move_j1 (ro : Ro) (K : KV) : Env → T Obj → Nat → Prop := fun e h nx => ∃ h1, Sub h1 h ∧ K (Value.int IntKind.i64 (-1)) h1 (nx + 1)
@[irreducible] def slices_IndexFunc_api_Move_api_Move_L1 (ro : Ro) : PT := fun e h nx Q => bindP (intB .lss (e 8) (e 7)) fun t9_3 => condP t9_3 (bindP (ixSl 2 (e 0) (e 8)) fun t14_4 => bindP (loadA ro h 2 t14_4) fun t15_5 => callF (callP Try.prog ro) (e 1) [t15_5] h (nx + 9) fun t16_6 h7 n8 => condP t16_6 (Q .ret (puts e [(9, t9_3), (10, (e 8)), (5, (e 8)), (11, (e 1)), (12, (e 0)), (13, (e 8)), (14, t14_4), (15, t15_5), (16, t16_6), (17, (e 8)), (4, (e 8))]) h7 (n8 + 2)) (bindP (intB .add (e 8) (Value.int IntKind.i64 1)) fun t18_9 => Q .normal (puts e [(9, t9_3), (10, (e 8)), (5, (e 8)), (11, (e 1)), (12, (e 0)), (13, (e 8)), (14, t14_4), (15, t15_5), (16, t16_6), (18, t18_9), (8, t18_9)]) h7 (n8 + 2))) (Q (.exit 0) (puts e [(9, t9_3)]) h (nx + 1))
@[irreducible] def slices_IndexFunc_api_Move_api_Move (ro : Ro) (v0 v1 : Value) (h : T Obj) (nx : Nat) (K : KV) : Prop := bindP (lenSl v0) fun t7_2 => loopP (slices_IndexFunc_api_Move_api_Move_L1 ro) (puts (entE [v0, v1]) [(4, (Value.int IntKind.i64 0)), (6, v0), (7, t7_2), (8, (Value.int IntKind.i64 0))]) h (nx + 4) fun x13 e10 h11 n12 => exP x13 (slices_IndexFunc_api_Move_api_Move_j1 ro K e10 h11 n12) (fun i14 => beqP (Nat.beq i14 0) (slices_IndexFunc_api_Move_api_Move_j1 ro K e10 h11 n12) (False)) (∃ h15, Sub h15 h11 ∧ K (e10 4) h15 n12)
theorem slices_IndexFunc_api_Move_api_Move_eq (ro : Ro) (v0 v1 : Value) (h : T Obj) (nx : Nat) (K : KV) : callPre Try.prog ro (callP Try.prog ro) Try.f99 [v0, v1] h nx K = slices_IndexFunc_api_Move_api_Move ro v0 v1 h nx K := by kernel_rfl
theorem slices_IndexFunc_api_Move_api_Move_of {ro : Ro} {v0 v1 : Value} {h : T Obj} {nx : Nat} {K : KV} (hw : slices_IndexFunc_api_Move_api_Move ro v0 v1 h nx K) : callP Try.prog ro i_slices_IndexFunc_api_Move_api_Move [v0, v1] h nx K := callP_by (P := Try.prog) (fn := Try.f99) (by kernel_rfl) (by kernel_rfl) (by kernel_rfl) (Eq.mpr (slices_IndexFunc_api_Move_api_Move_eq ro v0 v1 h nx K) hw)
@[irreducible] def slices_Contains_int_int (ro : Ro) (v0 v1 : Value) (h : T Obj) (nx : Nat) (K : KV) : Prop := callP Try.prog ro i_slices_Index_int_int [v0, v1] h (nx + 4) fun t7_1 h2 n3 => bindP (intB .geq t7_1 (Value.int IntKind.i64 0)) fun t8_4 => ∃ h5, Sub h5 h2 ∧ K t8_4 h5 (n3 + 2)
theorem slices_Contains_int_int_eq (ro : Ro) (v0 v1 : Value) (h : T Obj) (nx : Nat) (K : KV) : callPre Try.prog ro (callP Try.prog ro) Try.f100 [v0, v1] h nx K = slices_Contains_int_int ro v0 v1 h nx K := by kernel_rfl
theorem slices_Contains_int_int_of {ro : Ro} {v0 v1 : Value} {h : T Obj} {nx : Nat} {K : KV} (hw : slices_Contains_int_int ro v0 v1 h nx K) : callP Try.prog ro i_slices_Contains_int_int [v0, v1] h nx K := callP_by (P := Try.prog) (fn := Try.f100) (by kernel_rfl) (by kernel_rfl) (by kernel_rfl) (Eq.mpr (slices_Contains_int_int_eq ro v0 v1 h nx K) hw)
@[irreducible] def slices_Index_int_int_j1 (ro : Ro) (K : KV) : Env → T Obj → Nat → Prop := fun e h nx => ∃ h1, Sub h1 h ∧ K (Value.int IntKind.i64 (-1)) h1 (nx + 1)
@[irreducible] def slices_Index_int_int_L1 (ro : Ro) : PT := fun e h nx Q => bindP (intB .lss (e 8) (e 7)) fun t9_3 => condP t9_3 (bindP (ixSl 1 (e 0) (e 8)) fun t14_4 => bindP (load1 ro h t14_4) fun t15_5 => bindP (intB .eql (e 1) t15_5) fun t16_6 => condP t16_6 (Q .ret (puts e [(9, t9_3), (10, (e 8)), (5, (e 8)), (11, (e 1)), (12, (e 0)), (13, (e 8)), (14, t14_4), (15, t15_5), (16, t16_6), (17, (e 8)), (4, (e 8))]) h (nx + 11)) (bindP (intB .add (e 8) (Value.int IntKind.i64 1)) fun t18_7 => Q .normal (puts e [(9, t9_3), (10, (e 8)), (5, (e 8)), (11, (e 1)), (12, (e 0)), (13, (e 8)), (14, t14_4), (15, t15_5), (16, t16_6), (18, t18_7), (8, t18_7)]) h (nx + 11))) (Q (.exit 0) (puts e [(9, t9_3)]) h (nx + 1))
@[irreducible] def slices_Index_int_int (ro : Ro) (v0 v1 : Value) (h : T Obj) (nx : Nat) (K : KV) : Prop := bindP (lenSl v0) fun t7_2 => loopP (slices_Index_int_int_L1 ro) (puts (entE [v0, v1]) [(4, (Value.int IntKind.i64 0)), (6, v0), (7, t7_2), (8, (Value.int IntKind.i64 0))]) h (nx + 4) fun x11 e8 h9 n10 => exP x11 (slices_Index_int_int_j1 ro K e8 h9 n10) (fun i12 => beqP (Nat.beq i12 0) (slices_Index_int_int_j1 ro K e8 h9 n10) (False)) (∃ h13, Sub h13 h9 ∧ K (e8 4) h13 n10)
theorem slices_Index_int_int_eq (ro : Ro) (v0 v1 : Value) (h : T Obj) (nx : Nat) (K : KV) : callPre Try.prog ro (callP Try.prog ro) Try.f108 [v0, v1] h nx K = slices_Index_int_int ro v0 v1 h nx K := by kernel_rfl
theorem slices_Index_int_int_of {ro : Ro} {v0 v1 : Value} {h : T Obj} {nx : Nat} {K : KV} (hw : slices_Index_int_int ro v0 v1 h nx K) : callP Try.prog ro i_slices_Index_int_int [v0, v1] h nx K := callP_by (P := Try.prog) (fn := Try.f108) (by kernel_rfl) (by kernel_rfl) (by kernel_rfl) (Eq.mpr (slices_Index_int_int_eq ro v0 v1 h nx K) hw)
end V
end Go.Proofs.Ytmmdcdjkmakgpaa
set_option linter.unusedVariables false
set_option linter.unusedSimpArgs false
namespace Go.Proofs.Ytmmdcdjkmakgpaa
namespace V
attribute [local irreducible] bindP ifP condP newP optP exP beqP
set_option maxRecDepth 4000 in
theorem auto_rises_c {ro : Ro} {v : Value} {l : List Int} {many : Int} (hm : many ≤ 1000000) {h : T Obj} {nx : Nat} {K : KV} (hv : ZI ro h v l) (hK : ∀ nx', nx ≤ nx' → K (.bool (rz (-1) many l)) h nx') : callP Try.prog ro i_auto_rises [v, .int .i64 many] h nx K := by
  apply auto_rises_of
  unfold auto_rises
  generalize hR : rz (-1) many l = R at hK
  refine bindP_mk hv.len ?_
  refine loopP_rule (fun j e h' nx' => ∃ (k : Nat) (last : Int), k + j = l.length ∧ nx ≤ nx' ∧ h' = h ∧ e 1 = .int .i64 many ∧ e 5 = .int .i64 last ∧ e 8 = v ∧ e 9 = .int .i64 l.length ∧ e 10 = .int .i64 k ∧ (k : Int) ≤ last + 1 ∧ rz last many (l.drop k) = R) ?_ (n := l.length) ⟨0, -1, by omega, by omega, rfl, rfl, rfl, rfl, rfl, rfl, by omega, hR⟩
  rintro j e h' nx' ⟨k, last, hj, hnx, rfl, e1, e5, e8, e9, e10, hk1, hr⟩ Q' hq hx
  unfold auto_rises_L1
  rw [e1, e5, e8, e9, e10]
  (repeat (first | refine bindP_mk (by simp (disch := first | omega | exact Int.natCast_nonneg _ | assumption) only [BB, B2, ↓reduceIte, Nat.reduceLeDiff, Nat.reduceAdd, intB_eql, intB_neq, intB_lss, intB_leq, intB_gtr, intB_geq] <;> rfl) ?_ | refine newP_mk ?_ | refine optP_mk ?_ | with_reducible first | refine condP_t ?_ | refine condP_f ?_ | refine ifP_tt' ?_ | refine ifP_ff' ?_ | refine ifP_tf' ?_ | refine ifP_ft' ?_ | refine ifP_u' ?_ | refine optP_mk0 ?_))
  refine condP_d (fun hk => ?_) (fun hk => ?_)
  · have hk : k < l.length := by omega
    rw [drop_cons hk, rz_cons] at hr
    refine bindP_mk (hv.ix _ hk) (bindP_mk (hv.load hk) ?_)
    generalize l[k] = x at hr
    (repeat (first | refine bindP_mk (by simp (disch := first | omega | exact Int.natCast_nonneg _ | assumption) only [BB, B2, ↓reduceIte, Nat.reduceLeDiff, Nat.reduceAdd, intB_eql, intB_neq, intB_lss, intB_leq, intB_gtr, intB_geq] <;> rfl) ?_ | refine newP_mk ?_ | refine optP_mk ?_ | with_reducible first | refine condP_t ?_ | refine condP_f ?_ | refine ifP_tt' ?_ | refine ifP_ff' ?_ | refine ifP_tf' ?_ | refine ifP_ft' ?_ | refine ifP_u' ?_ | refine optP_mk0 ?_))
    by_cases h1 : x ≤ last
    · rw [decide_eq_true h1]
      (repeat (first | refine bindP_mk (by simp (disch := first | omega | exact Int.natCast_nonneg _ | assumption) only [BB, B2, ↓reduceIte, Nat.reduceLeDiff, Nat.reduceAdd, intB_eql, intB_neq, intB_lss, intB_leq, intB_gtr, intB_geq] <;> rfl) ?_ | refine newP_mk ?_ | refine optP_mk ?_ | with_reducible first | refine condP_t ?_ | refine condP_f ?_ | refine ifP_tt' ?_ | refine ifP_ff' ?_ | refine ifP_tf' ?_ | refine ifP_ft' ?_ | refine ifP_u' ?_ | refine optP_mk0 ?_))
      refine hx _ _ _ _ (fun e => by cases e) (exP_r ?_)
      refine ⟨_, Sub.refl _, kb hK ?_ (by omega)⟩
      rw [← hr, decide_eq_false (by omega)]; rfl
    · rw [decide_eq_false h1]
      (repeat (first | refine bindP_mk (by simp (disch := first | omega | exact Int.natCast_nonneg _ | assumption) only [BB, B2, ↓reduceIte, Nat.reduceLeDiff, Nat.reduceAdd, intB_eql, intB_neq, intB_lss, intB_leq, intB_gtr, intB_geq] <;> rfl) ?_ | refine newP_mk ?_ | refine optP_mk ?_ | with_reducible first | refine condP_t ?_ | refine condP_f ?_ | refine ifP_tt' ?_ | refine ifP_ff' ?_ | refine ifP_tf' ?_ | refine ifP_ft' ?_ | refine ifP_u' ?_ | refine optP_mk0 ?_))
      by_cases h2 : many ≤ x
      · rw [decide_eq_true h2]
        (repeat (first | refine bindP_mk (by simp (disch := first | omega | exact Int.natCast_nonneg _ | assumption) only [BB, B2, ↓reduceIte, Nat.reduceLeDiff, Nat.reduceAdd, intB_eql, intB_neq, intB_lss, intB_leq, intB_gtr, intB_geq] <;> rfl) ?_ | refine newP_mk ?_ | refine optP_mk ?_ | with_reducible first | refine condP_t ?_ | refine condP_f ?_ | refine ifP_tt' ?_ | refine ifP_ff' ?_ | refine ifP_tf' ?_ | refine ifP_ft' ?_ | refine ifP_u' ?_ | refine optP_mk0 ?_))
        refine hx _ _ _ _ (fun e => by cases e) (exP_r ?_)
        refine ⟨_, Sub.refl _, kb hK ?_ (by omega)⟩
        rw [← hr, decide_eq_false (show ¬ x < many by omega)]; simp
      · rw [decide_eq_false h2]
        (repeat (first | refine bindP_mk (by simp (disch := first | omega | exact Int.natCast_nonneg _ | assumption) only [BB, B2, ↓reduceIte, Nat.reduceLeDiff, Nat.reduceAdd, intB_eql, intB_neq, intB_lss, intB_leq, intB_gtr, intB_geq] <;> rfl) ?_ | refine newP_mk ?_ | refine optP_mk ?_ | with_reducible first | refine condP_t ?_ | refine condP_f ?_ | refine ifP_tt' ?_ | refine ifP_ff' ?_ | refine ifP_tf' ?_ | refine ifP_ft' ?_ | refine ifP_u' ?_ | refine optP_mk0 ?_))
        refine hq (j - 1) _ _ _ _ (by omega) ⟨k + 1, x, by omega, by omega, rfl, e1, rfl, e8, e9, rfl, by omega, ?_⟩ (Sub.refl _)
        rw [← hr, decide_eq_true (show last < x by omega), decide_eq_true (show x < many by omega)]; rfl
  · refine hx _ _ _ _ (fun e => by cases e) (exP_e (beqP_t ?_))
    unfold auto_rises_j1
    rw [drop_all (by omega)] at hr
    exact ⟨_, Sub.refl _, kb hK hr.symm (by omega)⟩
theorem slices_Contains_c {ro : Ro} {v : Value} {l : List Int} {p : Int} (hlen : l.length ≤ 1000000) {h : T Obj} {nx : Nat} {K : KV} (hv : ZI ro h v l) (hK : ∀ nx', nx ≤ nx' → K (.bool (l.contains p)) h nx') : callP Try.prog ro i_slices_Contains_int_int [v, .int .i64 p] h nx K := by
  apply slices_Contains_int_int_of
  unfold slices_Contains_int_int
  apply slices_Index_int_int_of
  unfold slices_Index_int_int
  refine bindP_mk hv.len ?_
  have hyes : ∀ (k : Nat) n, p ∈ l → nx ≤ n → bindP (intB .geq (.int .i64 (k : Int)) (.int .i64 0)) fun t8_4 => ∃ h5, Sub h5 h ∧ K t8_4 h5 (n + 2) := fun k n hp hn => by
    refine geq_s (fun hg => ?_) (fun hg => by omega)
    exact ⟨_, Sub.refl _, kb hK (by simpa using hp) (by omega)⟩
  generalize hR : l.contains p = R at hK
  refine loopP_rule (fun j e h' nx' => ∃ (k : Nat), k + j = l.length ∧ nx ≤ nx' ∧ h' = h ∧ e 0 = v ∧ e 1 = .int .i64 p ∧ e 7 = .int .i64 l.length ∧ e 8 = .int .i64 k ∧ (l.drop k).contains p = R) ?_ (n := l.length) ⟨0, by omega, by omega, rfl, rfl, rfl, rfl, rfl, hR⟩
  rintro j e h' nx' ⟨k, hj, hnx, rfl, e0, e1, e7, e8, hr⟩ Q' hq hx
  unfold slices_Index_int_int_L1
  rw [e0, e1, e7, e8]
  refine lss_s (fun hk => ?_) (fun hk => ?_)
  · have hk : k < l.length := by omega
    have hmem : l[k] ∈ l := List.getElem_mem hk
    rw [drop_cons hk] at hr
    (repeat (first | refine bindP_mk (by simp (disch := first | omega | exact Int.natCast_nonneg _ | assumption) only [BB, B2, ↓reduceIte, Nat.reduceLeDiff, Nat.reduceAdd, CC] <;> rfl) ?_ | refine newP_mk ?_ | refine optP_mk ?_ | with_reducible first | refine condP_t ?_ | refine condP_f ?_ | refine ifP_tt' ?_ | refine ifP_ff' ?_ | refine ifP_tf' ?_ | refine ifP_ft' ?_ | refine ifP_u' ?_ | refine optP_mk0 ?_))
    refine bindP_mk (hv.ix _ hk) (bindP_mk (hv.load hk) ?_)
    generalize l[k] = x at hr hmem
    refine eql_s (fun he => ?_) (fun he => ?_)
    · (repeat (first | refine bindP_mk (by simp (disch := first | omega | exact Int.natCast_nonneg _ | assumption) only [BB, B2, ↓reduceIte, Nat.reduceLeDiff, Nat.reduceAdd, CC] <;> rfl) ?_ | refine newP_mk ?_ | refine optP_mk ?_ | with_reducible first | refine condP_t ?_ | refine condP_f ?_ | refine ifP_tt' ?_ | refine ifP_ff' ?_ | refine ifP_tf' ?_ | refine ifP_ft' ?_ | refine ifP_u' ?_ | refine optP_mk0 ?_))
      refine hx _ _ _ _ (fun e => by cases e) (exP_r ?_)
      refine ⟨_, Sub.refl _, hyes _ _ (by rw [he]; exact hmem) (by omega)⟩
    · (repeat (first | refine bindP_mk (by simp (disch := first | omega | exact Int.natCast_nonneg _ | assumption) only [BB, B2, ↓reduceIte, Nat.reduceLeDiff, Nat.reduceAdd, CC] <;> rfl) ?_ | refine newP_mk ?_ | refine optP_mk ?_ | with_reducible first | refine condP_t ?_ | refine condP_f ?_ | refine ifP_tt' ?_ | refine ifP_ff' ?_ | refine ifP_tf' ?_ | refine ifP_ft' ?_ | refine ifP_u' ?_ | refine optP_mk0 ?_))
      refine hq (j - 1) _ _ _ _ (by omega) ⟨k + 1, by omega, by omega, rfl, e0, e1, e7, rfl, ?_⟩ (Sub.refl _)
      rw [← hr, List.contains_cons, beq_eq_false_iff_ne.2 he, Bool.false_or]
  · (repeat (first | refine bindP_mk (by simp (disch := first | omega | exact Int.natCast_nonneg _ | assumption) only [BB, B2, ↓reduceIte, Nat.reduceLeDiff, Nat.reduceAdd, CC] <;> rfl) ?_ | refine newP_mk ?_ | refine optP_mk ?_ | with_reducible first | refine condP_t ?_ | refine condP_f ?_ | refine ifP_tt' ?_ | refine ifP_ff' ?_ | refine ifP_tf' ?_ | refine ifP_ft' ?_ | refine ifP_u' ?_ | refine optP_mk0 ?_))
    refine hx _ _ _ _ (fun e => by cases e) (exP_e (beqP_t ?_))
    unfold slices_Index_int_int_j1
    rw [drop_all (by omega)] at hr
    refine ⟨_, Sub.refl _, ?_⟩
    refine geq_s (fun hg => by omega) (fun hg => ?_)
    exact ⟨_, Sub.refl _, kb hK hr.symm (by omega)⟩
end V
end Go.Proofs.Ytmmdcdjkmakgpaa
set_option linter.unusedVariables false
set_option linter.unusedSimpArgs false
namespace Go.Proofs.Ytmmdcdjkmakgpaa
namespace V
attribute [local irreducible] bindP ifP condP newP optP exP beqP
set_option maxRecDepth 8000 in
set_option maxHeartbeats 1000000 in
theorem checker_move_c {ro : Ro} {c : List Nat} {n : Int} {cv sv lv rv uv nv ov : Value} {S : List StateD} {R : List Int} {m : MoveD} (hc : c.length = 256) (hSl : S.length ≤ 256) (hR : R.length ≤ 3) (hmo : m.ops.length ≤ maxB) {h : T Obj} {nx : Nat} {K : KV} (hf : Fr h nx)
    (hS : SlR ro h sv 4 (RState ro h) S) (hrv : ZI ro h rv R) (hov : SlR ro h ov 1 RU8 m.ops) (hK : ∀ nx', nx ≤ nx' → K (.bool (moveOk S R m)) h nx') : callP Try.prog ro i_auto_checker_move [.agg (autL c n cv sv).toArray, .agg #[lv, rv, uv, nv], .agg #[.int .i64 m.to, ov]] h nx K := by
  apply auto_checker_move_of
  unfold auto_checker_move
  refine param_mk hf (Nat.le_refl _) fun h1 hs1 hf1 g1 _ => ?_
  refine param_mk hf1 (Nat.le_refl _) fun h2 hs2 hf2 g2 _ => ?_
  refine param_mk hf2 (Nat.le_refl _) fun h3 hs3 hf3 g3 _ => ?_
  have g1 : h3.get nx = some (.cells (autL c n cv sv).toArray y_auto_checker) := hs3 _ _ (hs2 _ _ g1)
  have g2 : h3.get (nx + 1) = some (.cells #[lv, rv, uv, nv] y_api_State) := hs3 _ _ g2
  have g3 : h3.get (nx + 2) = some (.cells #[.int .i64 m.to, ov] y_api_Move) := g3
  have hs := (hs1.trans hs2).trans hs3
  have hS := hS.sub hs (RState.sub hs)
  have hrv := hrv.sub hs
  have hov := hov.sub hs fun _ _ h => h
  have hsg := autL_states (n := n) (cv := cv) (sv := sv) hc
  have hol := hov.len
  have hsl := hS.len
  have hmb : m.ops.length ≤ 9223372036854775807 := hmo
  have hno : ∀ n, moveOk S R m = false → nx ≤ n → ∃ h', Sub h' h3 ∧ K (.bool false) h' n := fun n e hn => ⟨h, hs, kb hK e hn⟩
  (repeat (first | refine bindP_mk (by simp (disch := first | omega | exact Int.natCast_nonneg _ | assumption) only [BB, B2, ↓reduceIte, Nat.reduceLeDiff, Nat.reduceAdd, CC, g3] <;> rfl) ?_ | refine newP_mk ?_ | refine optP_mk ?_ | with_reducible first | refine condP_t ?_ | refine condP_f ?_ | refine ifP_tt' ?_ | refine ifP_ff' ?_ | refine ifP_tf' ?_ | refine ifP_ft' ?_ | refine ifP_u' ?_ | refine optP_mk0 ?_))
  refine eql_s (fun ht => ?_) (fun ht => ?_)
  · (repeat (first | refine bindP_mk (by simp (disch := first | omega | exact Int.natCast_nonneg _ | assumption) only [BB, B2, ↓reduceIte, Nat.reduceLeDiff, Nat.reduceAdd, CC, g3, hol] <;> rfl) ?_ | refine newP_mk ?_ | refine optP_mk ?_ | with_reducible first | refine condP_t ?_ | refine condP_f ?_ | refine ifP_tt' ?_ | refine ifP_ff' ?_ | refine ifP_tf' ?_ | refine ifP_ft' ?_ | refine ifP_u' ?_ | refine optP_mk0 ?_))
    refine bindP_mk (intB_eql _ _ _) ?_
    refine ⟨h, hs, kb hK ?_ (by omega)⟩
    unfold moveOk
    rw [if_pos ht, decide_eq_decide]
    omega
  · unfold moveOk at hno hK
    rw [if_neg ht] at hno hK
    (repeat (first | refine bindP_mk (by simp (disch := first | omega | exact Int.natCast_nonneg _ | assumption) only [BB, B2, ↓reduceIte, Nat.reduceLeDiff, Nat.reduceAdd, CC, g3] <;> rfl) ?_ | refine newP_mk ?_ | refine optP_mk ?_ | with_reducible first | refine condP_t ?_ | refine condP_f ?_ | refine ifP_tt' ?_ | refine ifP_ff' ?_ | refine ifP_tf' ?_ | refine ifP_ft' ?_ | refine ifP_u' ?_ | refine optP_mk0 ?_))
    refine lss_s (fun h1 => ?_) (fun h1 => ?_)
    · (repeat (first | refine bindP_mk (by simp (disch := first | omega | exact Int.natCast_nonneg _ | assumption) only [BB, B2, ↓reduceIte, Nat.reduceLeDiff, Nat.reduceAdd, CC] <;> rfl) ?_ | refine newP_mk ?_ | refine optP_mk ?_ | with_reducible first | refine condP_t ?_ | refine condP_f ?_ | refine ifP_tt' ?_ | refine ifP_ff' ?_ | refine ifP_tf' ?_ | refine ifP_ft' ?_ | refine ifP_u' ?_ | refine optP_mk0 ?_))
      exact hno _ (by rw [decide_eq_false (by omega)]; rfl) (by omega)
    · rw [decide_eq_true h1, Bool.true_and] at hno hK
      (repeat (first | refine bindP_mk (by simp (disch := first | omega | exact Int.natCast_nonneg _ | assumption) only [BB, B2, ↓reduceIte, Nat.reduceLeDiff, Nat.reduceAdd, CC, g1, g3, hsg, hsl] <;> rfl) ?_ | refine newP_mk ?_ | refine optP_mk ?_ | with_reducible first | refine condP_t ?_ | refine condP_f ?_ | refine ifP_tt' ?_ | refine ifP_ff' ?_ | refine ifP_tf' ?_ | refine ifP_ft' ?_ | refine ifP_u' ?_ | refine optP_mk0 ?_))
      refine geq_s (fun h2 => ?_) (fun h2 => ?_)
      · (repeat (first | refine bindP_mk (by simp (disch := first | omega | exact Int.natCast_nonneg _ | assumption) only [BB, B2, ↓reduceIte, Nat.reduceLeDiff, Nat.reduceAdd, CC] <;> rfl) ?_ | refine newP_mk ?_ | refine optP_mk ?_ | with_reducible first | refine condP_t ?_ | refine condP_f ?_ | refine ifP_tt' ?_ | refine ifP_ff' ?_ | refine ifP_tf' ?_ | refine ifP_ft' ?_ | refine ifP_u' ?_ | refine optP_mk0 ?_))
        exact hno _ (by rw [decide_eq_false (by omega)]; rfl) (by omega)
      · rw [decide_eq_true h2, Bool.true_and] at hno hK
        have hti : m.to.toNat < S.length := by omega
        have hgd : S.getD m.to.toNat noS = S[m.to.toNat] := by rw [List.getD_eq_getElem?_getD, List.getElem?_eq_getElem hti]; rfl
        rw [hgd] at hno hK
        have hix := hS.ixI .i64 (i := m.to) (by omega) h2
        obtain ⟨x, ⟨lv', rv', uv', nv', rfl, y1, y2, y3, y4, y5⟩, hx2, hx3, hx4, hx5⟩ := hS.at hti
        have hx1 := hx5 1 rv' rfl
        have hrl := y2.len
        generalize S[m.to.toNat] = s at hno hK y1 y2 y3 y4 y5 hrl
        have y5 : s.r.length ≤ 9223372036854775807 := y5
        (repeat (first | refine bindP_mk (by simp (disch := first | omega | exact Int.natCast_nonneg _ | assumption) only [BB, B2, ↓reduceIte, Nat.reduceLeDiff, Nat.reduceAdd, CC, g1, g3, hsg, hol, hix, hx4, hx1, hrl] <;> rfl) ?_ | refine newP_mk ?_ | refine optP_mk ?_ | with_reducible first | refine condP_t ?_ | refine condP_f ?_ | refine ifP_tt' ?_ | refine ifP_ff' ?_ | refine ifP_tf' ?_ | refine ifP_ft' ?_ | refine ifP_u' ?_ | refine optP_mk0 ?_))
        refine neq_s (fun u9 => ?_) (fun u9 => ?_)
        · (repeat (first | refine bindP_mk (by simp (disch := first | omega | exact Int.natCast_nonneg _ | assumption) only [BB, B2, ↓reduceIte, Nat.reduceLeDiff, Nat.reduceAdd, CC] <;> rfl) ?_ | refine newP_mk ?_ | refine optP_mk ?_ | with_reducible first | refine condP_t ?_ | refine condP_f ?_ | refine ifP_tt' ?_ | refine ifP_ff' ?_ | refine ifP_tf' ?_ | refine ifP_ft' ?_ | refine ifP_u' ?_ | refine optP_mk0 ?_))
          exact hno _ (by rw [decide_eq_false (by omega)]; rfl) (by omega)
        · have u9 : m.ops.length = s.r.length := by omega
          rw [decide_eq_true u9, Bool.true_and] at hno hK
          (repeat (first | refine bindP_mk (by simp (disch := first | omega | exact Int.natCast_nonneg _ | assumption) only [BB, B2, ↓reduceIte, Nat.reduceLeDiff, Nat.reduceAdd, CC, g3, hol] <;> rfl) ?_ | refine newP_mk ?_ | refine optP_mk ?_ | with_reducible first | refine condP_t ?_ | refine condP_f ?_ | refine ifP_tt' ?_ | refine ifP_ff' ?_ | refine ifP_tf' ?_ | refine ifP_ft' ?_ | refine ifP_u' ?_ | refine optP_mk0 ?_))
          generalize hB : opsOk R m.ops s.r = B at hno hK
          refine loopP_rule (fun j e h' nx' => ∃ (k : Nat), k + j = m.ops.length ∧ nx ≤ nx' ∧ h' = h3 ∧ e 3 = ptr nx ∧ e 4 = ptr (nx + 1) ∧ e 5 = ptr (nx + 2) ∧ e 44 = ov ∧ e 45 = .int .i64 m.ops.length ∧ e 46 = .int .i64 k ∧ opsOk R (m.ops.drop k) (s.r.drop k) = B) ?_ (n := m.ops.length) ⟨0, by omega, by omega, rfl, rfl, rfl, rfl, rfl, rfl, rfl, hB⟩
          rintro j e h' nx' ⟨k, hj, hnx, rfl, e3, e4, e5, e44, e45, e46, hr⟩ Q' hq hx
          unfold auto_checker_move_L1
          rw [e3, e4, e5, e44, e45, e46]
          refine lss_s (fun hk => ?_) (fun hk => ?_)
          · have hk : k < m.ops.length := by omega
            have hk2 : k < s.r.length := by omega
            rw [drop_cons hk, drop_cons hk2, opsOk_cons] at hr
            have oix := hov.ix .i64 hk
            obtain ⟨w, ⟨ow, olt⟩, o1⟩ := hov.at1 hk
            simp only [List.cons.injEq, and_true] at ow
            subst ow
            have rix := y2.ix .i64 hk2
            have rld := y2.load hk2
            generalize m.ops[k] = o at hr o1 olt
            generalize s.r[k] = r at hr rld
            have hfin : ∀ (e' : Env) n, e' 6 = .bool false → opOk R o r = false → nx ≤ n → Q' .ret e' h' n := fun e' n h6 hc hn => by
              refine hx _ _ _ _ (fun e => by cases e) (exP_r ?_)
              rw [h6]
              refine ⟨h, hs, kb hK ?_ hn⟩
              rw [← hr, hc]; rfl
            have hok : ∀ (e' : Env) n, e' 3 = ptr nx → e' 4 = ptr (nx + 1) → e' 5 = ptr (nx + 2) → e' 44 = ov → e' 45 = .int .i64 m.ops.length → e' 46 = .int .i64 ((k : Int) + 1) → opOk R o r = true → nx ≤ n → Q' .normal e' h' n := fun e' n f3 f4 f5 f44 f45 f46 hc hn =>
              hq (j - 1) _ _ _ _ (by omega) ⟨k + 1, by omega, hn, rfl, f3, f4, f5, f44, f45, f46, by rw [← hr, hc]; rfl⟩ (Sub.refl _)
            unfold opOk at hfin hok
            (repeat (first | refine bindP_mk (by simp (disch := first | omega | exact Int.natCast_nonneg _ | assumption) only [BB, B2, ↓reduceIte, Nat.reduceLeDiff, Nat.reduceAdd, CC, oix, o1] <;> rfl) ?_ | refine newP_mk ?_ | refine optP_mk ?_ | with_reducible first | refine condP_t ?_ | refine condP_f ?_ | refine ifP_tt' ?_ | refine ifP_ff' ?_ | refine ifP_tf' ?_ | refine ifP_ft' ?_ | refine ifP_u' ?_ | refine optP_mk0 ?_))
            refine lss_s (fun u1 => ?_) (fun u1 => ?_)
            · (repeat (first | refine bindP_mk (by simp (disch := first | omega | exact Int.natCast_nonneg _ | assumption) only [BB, B2, ↓reduceIte, Nat.reduceLeDiff, Nat.reduceAdd, CC] <;> rfl) ?_ | refine newP_mk ?_ | refine optP_mk ?_ | with_reducible first | refine condP_t ?_ | refine condP_f ?_ | refine ifP_tt' ?_ | refine ifP_ff' ?_ | refine ifP_tf' ?_ | refine ifP_ft' ?_ | refine ifP_u' ?_ | refine optP_mk0 ?_))
              exact hfin _ _ rfl (by rw [decide_eq_false (by omega)]; rfl) (by omega)
            · rw [decide_eq_true (by omega), Bool.true_and] at hfin hok
              (repeat (first | refine bindP_mk (by simp (disch := first | omega | exact Int.natCast_nonneg _ | assumption) only [BB, B2, ↓reduceIte, Nat.reduceLeDiff, Nat.reduceAdd, CC] <;> rfl) ?_ | refine newP_mk ?_ | refine optP_mk ?_ | with_reducible first | refine condP_t ?_ | refine condP_f ?_ | refine ifP_tt' ?_ | refine ifP_ff' ?_ | refine ifP_tf' ?_ | refine ifP_ft' ?_ | refine ifP_u' ?_ | refine optP_mk0 ?_))
              refine gtr_s (fun u2 => ?_) (fun u2 => ?_)
              · (repeat (first | refine bindP_mk (by simp (disch := first | omega | exact Int.natCast_nonneg _ | assumption) only [BB, B2, ↓reduceIte, Nat.reduceLeDiff, Nat.reduceAdd, CC] <;> rfl) ?_ | refine newP_mk ?_ | refine optP_mk ?_ | with_reducible first | refine condP_t ?_ | refine condP_f ?_ | refine ifP_tt' ?_ | refine ifP_ff' ?_ | refine ifP_tf' ?_ | refine ifP_ft' ?_ | refine ifP_u' ?_ | refine optP_mk0 ?_))
                exact hfin _ _ rfl (by rw [decide_eq_false (by omega)]; rfl) (by omega)
              · rw [decide_eq_true (by omega), Bool.true_and] at hfin hok
                (repeat (first | refine bindP_mk (by simp (disch := first | omega | exact Int.natCast_nonneg _ | assumption) only [BB, B2, ↓reduceIte, Nat.reduceLeDiff, Nat.reduceAdd, CC] <;> rfl) ?_ | refine newP_mk ?_ | refine optP_mk ?_ | with_reducible first | refine condP_t ?_ | refine condP_f ?_ | refine ifP_tt' ?_ | refine ifP_ff' ?_ | refine ifP_tf' ?_ | refine ifP_ft' ?_ | refine ifP_u' ?_ | refine optP_mk0 ?_))
                refine neq_s (fun u3 => ?_) (fun u3 => ?_)
                · rw [decide_eq_false (by omega), Bool.false_or] at hfin hok
                  (repeat (first | refine bindP_mk (by simp (disch := first | omega | exact Int.natCast_nonneg _ | assumption) only [BB, B2, ↓reduceIte, Nat.reduceLeDiff, Nat.reduceAdd, CC, g1, g2, g3, hsg, hix, hx4, hx1, rix, rld] <;> rfl) ?_ | refine newP_mk ?_ | refine optP_mk ?_ | with_reducible first | refine condP_t ?_ | refine condP_f ?_ | refine ifP_tt' ?_ | refine ifP_ff' ?_ | refine ifP_tf' ?_ | refine ifP_ft' ?_ | refine ifP_u' ?_ | refine optP_mk0 ?_))
                  refine slices_Contains_c (by omega) hrv fun n9 hn9 => ?_
                  cases hcn : R.contains r with
                  | true =>
                    rw [hcn] at hok
                    (repeat (first | refine bindP_mk (by simp (disch := first | omega | exact Int.natCast_nonneg _ | assumption) only [BB, B2, ↓reduceIte, Nat.reduceLeDiff, Nat.reduceAdd, CC] <;> rfl) ?_ | refine newP_mk ?_ | refine optP_mk ?_ | with_reducible first | refine condP_t ?_ | refine condP_f ?_ | refine ifP_tt' ?_ | refine ifP_ff' ?_ | refine ifP_tf' ?_ | refine ifP_ft' ?_ | refine ifP_u' ?_ | refine optP_mk0 ?_))
                    exact hok _ _ e3 e4 e5 e44 e45 rfl rfl (by omega)
                  | false =>
                    rw [hcn] at hfin
                    (repeat (first | refine bindP_mk (by simp (disch := first | omega | exact Int.natCast_nonneg _ | assumption) only [BB, B2, ↓reduceIte, Nat.reduceLeDiff, Nat.reduceAdd, CC] <;> rfl) ?_ | refine newP_mk ?_ | refine optP_mk ?_ | with_reducible first | refine condP_t ?_ | refine condP_f ?_ | refine ifP_tt' ?_ | refine ifP_ff' ?_ | refine ifP_tf' ?_ | refine ifP_ft' ?_ | refine ifP_u' ?_ | refine optP_mk0 ?_))
                    exact hfin _ _ rfl rfl (by omega)
                · rw [decide_eq_true (by omega), Bool.true_or] at hfin hok
                  (repeat (first | refine bindP_mk (by simp (disch := first | omega | exact Int.natCast_nonneg _ | assumption) only [BB, B2, ↓reduceIte, Nat.reduceLeDiff, Nat.reduceAdd, CC] <;> rfl) ?_ | refine newP_mk ?_ | refine optP_mk ?_ | with_reducible first | refine condP_t ?_ | refine condP_f ?_ | refine ifP_tt' ?_ | refine ifP_ff' ?_ | refine ifP_tf' ?_ | refine ifP_ft' ?_ | refine ifP_u' ?_ | refine optP_mk0 ?_))
                  exact hok _ _ e3 e4 e5 e44 e45 rfl rfl (by omega)
          · (repeat (first | refine bindP_mk (by simp (disch := first | omega | exact Int.natCast_nonneg _ | assumption) only [BB, B2, ↓reduceIte, Nat.reduceLeDiff, Nat.reduceAdd, CC] <;> rfl) ?_ | refine newP_mk ?_ | refine optP_mk ?_ | with_reducible first | refine condP_t ?_ | refine condP_f ?_ | refine ifP_tt' ?_ | refine ifP_ff' ?_ | refine ifP_tf' ?_ | refine ifP_ft' ?_ | refine ifP_u' ?_ | refine optP_mk0 ?_))
            refine hx _ _ _ _ (fun e => by cases e) (exP_e (beqP_t ?_))
            unfold auto_checker_move_j1
            rw [drop_all (by omega), opsOk_nil] at hr
            exact ⟨h, hs, kb hK hr.symm (by omega)⟩
end V
end Go.Proofs.Ytmmdcdjkmakgpaa
set_option linter.unusedVariables false
set_option linter.unusedSimpArgs false
namespace Go.Proofs.Ytmmdcdjkmakgpaa
namespace V
open PA
attribute [local irreducible] bindP ifP condP newP optP exP beqP
def rowOk (S : List StateD) (R : List Int) (many ru : Int) (row : List MoveD) : Bool := decide (-1 ≤ ru) && (decide (ru < 512) && (decide ((row.length : Int) = many) && row.all (moveOk S R)))
def rowsOk (S : List StateD) (R : List Int) (many : Int) : List Int → List (List MoveD) → Bool
  | ru :: rus, row :: rows => rowOk S R many ru row && rowsOk S R many rus rows
  | _, _ => true
def stateOk (S : List StateD) (many : Int) (cn : Nat) (s : StateD) : Bool := decide (codesD s.r.length ≠ 0) && (decide ((s.rule.length : Int) = codesD s.r.length) && (decide ((s.next.length : Int) = codesD s.r.length) && (rz (-1) 512 s.l && (rz (-1) cn s.r && rowsOk S s.r many s.rule s.next))))
theorem rowsOk_cons (S : List StateD) (R : List Int) (many ru : Int) (row : List MoveD) (rus : List Int) (rows : List (List MoveD)) : rowsOk S R many (ru :: rus) (row :: rows) = (rowOk S R many ru row && rowsOk S R many rus rows) := rfl
theorem rowsOk_nil (S : List StateD) (R : List Int) (many : Int) (l : List Int) : rowsOk S R many l [] = true := by cases l <;> rfl
theorem move_IndexFunc_c {ro : Ro} {v f : Value} {D : Type} {l : List D} {R : List Value → D → Prop} {q : D → Bool} (hlen : l.length ≤ 1000000) {h : T Obj} {nx : Nat} {K : KV} (hv : SlR ro h v 2 R l)
    (hf : ∀ (i : Nat) (hi : i < l.length) x n K', R x l[i] → nx ≤ n → (∀ n', n ≤ n' → K' (.bool (q l[i])) h n') → callF (callP Try.prog ro) f [.agg x.toArray] h n K')
    (hK : ∀ nx', nx ≤ nx' → K (.int .i64 (findI q 0 l)) h nx') : callP Try.prog ro i_slices_IndexFunc_api_Move_api_Move [v, f] h nx K := by
  apply slices_IndexFunc_api_Move_api_Move_of
  unfold slices_IndexFunc_api_Move_api_Move
  generalize hR : findI q 0 l = r at hK
  refine bindP_mk hv.len ?_
  refine loopP_rule (fun j e h' nx' => ∃ (k : Nat), k + j = l.length ∧ nx ≤ nx' ∧ h' = h ∧ e 0 = v ∧ e 1 = f ∧ e 7 = .int .i64 l.length ∧ e 8 = .int .i64 k ∧ findI q k (l.drop k) = r) ?_ (n := l.length) ⟨0, by omega, by omega, rfl, rfl, rfl, rfl, rfl, hR⟩
  rintro j e h' nx' ⟨k, hj, hnx, rfl, e0, e1, e7, e8, hr⟩ Q' hq hx
  unfold slices_IndexFunc_api_Move_api_Move_L1
  rw [e0, e1, e7, e8]
  refine lss_s (fun hk => ?_) (fun hk => ?_)
  · have hk : k < l.length := by omega
    rw [drop_cons hk, findI_cons] at hr
    obtain ⟨x, hx1, hx2, hx3, hx4, hx5⟩ := hv.at hk
    (repeat (first | refine bindP_mk (by simp (disch := first | omega | exact Int.natCast_nonneg _ | assumption) only [BB, B2, ↓reduceIte, Nat.reduceLeDiff, Nat.reduceAdd, CC] <;> rfl) ?_ | refine newP_mk ?_ | refine optP_mk ?_ | with_reducible first | refine condP_t ?_ | refine condP_f ?_ | refine ifP_tt' ?_ | refine ifP_ff' ?_ | refine ifP_tf' ?_ | refine ifP_ft' ?_ | refine ifP_u' ?_ | refine optP_mk0 ?_))
    refine bindP_mk (hv.ix _ hk) (bindP_mk hx3 ?_)
    refine hf k hk x _ _ hx1 (by omega) fun n hn => ?_
    cases hc : q l[k] with
    | true =>
      rw [hc, if_pos rfl] at hr
      (repeat (first | refine bindP_mk (by simp (disch := first | omega | exact Int.natCast_nonneg _ | assumption) only [BB, B2, ↓reduceIte, Nat.reduceLeDiff, Nat.reduceAdd, CC] <;> rfl) ?_ | refine newP_mk ?_ | refine optP_mk ?_ | with_reducible first | refine condP_t ?_ | refine condP_f ?_ | refine ifP_tt' ?_ | refine ifP_ff' ?_ | refine ifP_tf' ?_ | refine ifP_ft' ?_ | refine ifP_u' ?_ | refine optP_mk0 ?_))
      refine hx _ _ _ _ (fun e => by cases e) (exP_r ?_)
      exact ⟨_, Sub.refl _, ki hK hr.symm (by omega)⟩
    | false =>
      rw [hc, if_neg (by decide)] at hr
      (repeat (first | refine bindP_mk (by simp (disch := first | omega | exact Int.natCast_nonneg _ | assumption) only [BB, B2, ↓reduceIte, Nat.reduceLeDiff, Nat.reduceAdd, CC] <;> rfl) ?_ | refine newP_mk ?_ | refine optP_mk ?_ | with_reducible first | refine condP_t ?_ | refine condP_f ?_ | refine ifP_tt' ?_ | refine ifP_ff' ?_ | refine ifP_tf' ?_ | refine ifP_ft' ?_ | refine ifP_u' ?_ | refine optP_mk0 ?_))
      exact hq (j - 1) _ _ _ _ (by omega) ⟨k + 1, by omega, by omega, rfl, e0, e1, e7, rfl, hr⟩ (Sub.refl _)
  · (repeat (first | refine bindP_mk (by simp (disch := first | omega | exact Int.natCast_nonneg _ | assumption) only [BB, B2, ↓reduceIte, Nat.reduceLeDiff, Nat.reduceAdd, CC] <;> rfl) ?_ | refine newP_mk ?_ | refine optP_mk ?_ | with_reducible first | refine condP_t ?_ | refine condP_f ?_ | refine ifP_tt' ?_ | refine ifP_ff' ?_ | refine ifP_tf' ?_ | refine ifP_ft' ?_ | refine ifP_u' ?_ | refine optP_mk0 ?_))
    refine hx _ _ _ _ (fun e => by cases e) (exP_e (beqP_t ?_))
    unfold slices_IndexFunc_api_Move_api_Move_j1
    rw [drop_all (by omega)] at hr
    exact ⟨_, Sub.refl _, ki hK hr.symm (by omega)⟩
theorem move_ContainsFunc_c {ro : Ro} {v f : Value} {D : Type} {l : List D} {R : List Value → D → Prop} {q : D → Bool} (hlen : l.length ≤ 1000000) {h : T Obj} {nx : Nat} {K : KV} (hv : SlR ro h v 2 R l)
    (hf : ∀ (i : Nat) (hi : i < l.length) x n K', R x l[i] → nx ≤ n → (∀ n', n ≤ n' → K' (.bool (q l[i])) h n') → callF (callP Try.prog ro) f [.agg x.toArray] h n K')
    (hK : ∀ nx', nx ≤ nx' → K (.bool (l.any q)) h nx') : callP Try.prog ro i_slices_ContainsFunc_api_Move_api_Move [v, f] h nx K := by
  apply slices_ContainsFunc_api_Move_api_Move_of
  unfold slices_ContainsFunc_api_Move_api_Move
  refine move_IndexFunc_c hlen hv (fun i hi x n K' hx hn hk => hf i hi x n K' hx (by omega) hk) fun n hn => ?_
  rw [← findI_any q l 0 (by omega)] at hK
  (first | refine lss_s (fun hb => ?_) (fun hb => ?_) | refine leq_s (fun hb => ?_) (fun hb => ?_) | refine gtr_s (fun hb => ?_) (fun hb => ?_) | refine geq_s (fun hb => ?_) (fun hb => ?_) | refine eql_s (fun hb => ?_) (fun hb => ?_) | refine neq_s (fun hb => ?_) (fun hb => ?_))
  · exact ⟨_, Sub.refl _, kb hK (decide_eq_true hb) (by omega)⟩
  · exact ⟨_, Sub.refl _, kb hK (decide_eq_false (by omega)) (by omega)⟩
theorem state_IndexFunc_c {ro : Ro} {v f : Value} {D : Type} {l : List D} {R : List Value → D → Prop} {q : D → Bool} (hlen : l.length ≤ 1000000) {h : T Obj} {nx : Nat} {K : KV} (hv : SlR ro h v 4 R l)
    (hf : ∀ (i : Nat) (hi : i < l.length) x n K', R x l[i] → nx ≤ n → (∀ n', n ≤ n' → K' (.bool (q l[i])) h n') → callF (callP Try.prog ro) f [.agg x.toArray] h n K')
    (hK : ∀ nx', nx ≤ nx' → K (.int .i64 (findI q 0 l)) h nx') : callP Try.prog ro i_slices_IndexFunc_api_State_api_State [v, f] h nx K := by
  apply slices_IndexFunc_api_State_api_State_of
  unfold slices_IndexFunc_api_State_api_State
  generalize hR : findI q 0 l = r at hK
  refine bindP_mk hv.len ?_
  refine loopP_rule (fun j e h' nx' => ∃ (k : Nat), k + j = l.length ∧ nx ≤ nx' ∧ h' = h ∧ e 0 = v ∧ e 1 = f ∧ e 7 = .int .i64 l.length ∧ e 8 = .int .i64 k ∧ findI q k (l.drop k) = r) ?_ (n := l.length) ⟨0, by omega, by omega, rfl, rfl, rfl, rfl, rfl, hR⟩
  rintro j e h' nx' ⟨k, hj, hnx, rfl, e0, e1, e7, e8, hr⟩ Q' hq hx
  unfold slices_IndexFunc_api_State_api_State_L1
  rw [e0, e1, e7, e8]
  refine lss_s (fun hk => ?_) (fun hk => ?_)
  · have hk : k < l.length := by omega
    rw [drop_cons hk, findI_cons] at hr
    obtain ⟨x, hx1, hx2, hx3, hx4, hx5⟩ := hv.at hk
    (repeat (first | refine bindP_mk (by simp (disch := first | omega | exact Int.natCast_nonneg _ | assumption) only [BB, B2, ↓reduceIte, Nat.reduceLeDiff, Nat.reduceAdd, CC] <;> rfl) ?_ | refine newP_mk ?_ | refine optP_mk ?_ | with_reducible first | refine condP_t ?_ | refine condP_f ?_ | refine ifP_tt' ?_ | refine ifP_ff' ?_ | refine ifP_tf' ?_ | refine ifP_ft' ?_ | refine ifP_u' ?_ | refine optP_mk0 ?_))
    refine bindP_mk (hv.ix _ hk) (bindP_mk hx3 ?_)
    refine hf k hk x _ _ hx1 (by omega) fun n hn => ?_
    cases hc : q l[k] with
    | true =>
      rw [hc, if_pos rfl] at hr
      (repeat (first | refine bindP_mk (by simp (disch := first | omega | exact Int.natCast_nonneg _ | assumption) only [BB, B2, ↓reduceIte, Nat.reduceLeDiff, Nat.reduceAdd, CC] <;> rfl) ?_ | refine newP_mk ?_ | refine optP_mk ?_ | with_reducible first | refine condP_t ?_ | refine condP_f ?_ | refine ifP_tt' ?_ | refine ifP_ff' ?_ | refine ifP_tf' ?_ | refine ifP_ft' ?_ | refine ifP_u' ?_ | refine optP_mk0 ?_))
      refine hx _ _ _ _ (fun e => by cases e) (exP_r ?_)
      exact ⟨_, Sub.refl _, ki hK hr.symm (by omega)⟩
    | false =>
      rw [hc, if_neg (by decide)] at hr
      (repeat (first | refine bindP_mk (by simp (disch := first | omega | exact Int.natCast_nonneg _ | assumption) only [BB, B2, ↓reduceIte, Nat.reduceLeDiff, Nat.reduceAdd, CC] <;> rfl) ?_ | refine newP_mk ?_ | refine optP_mk ?_ | with_reducible first | refine condP_t ?_ | refine condP_f ?_ | refine ifP_tt' ?_ | refine ifP_ff' ?_ | refine ifP_tf' ?_ | refine ifP_ft' ?_ | refine ifP_u' ?_ | refine optP_mk0 ?_))
      exact hq (j - 1) _ _ _ _ (by omega) ⟨k + 1, by omega, by omega, rfl, e0, e1, e7, rfl, hr⟩ (Sub.refl _)
  · (repeat (first | refine bindP_mk (by simp (disch := first | omega | exact Int.natCast_nonneg _ | assumption) only [BB, B2, ↓reduceIte, Nat.reduceLeDiff, Nat.reduceAdd, CC] <;> rfl) ?_ | refine newP_mk ?_ | refine optP_mk ?_ | with_reducible first | refine condP_t ?_ | refine condP_f ?_ | refine ifP_tt' ?_ | refine ifP_ff' ?_ | refine ifP_tf' ?_ | refine ifP_ft' ?_ | refine ifP_u' ?_ | refine optP_mk0 ?_))
    refine hx _ _ _ _ (fun e => by cases e) (exP_e (beqP_t ?_))
    unfold slices_IndexFunc_api_State_api_State_j1
    rw [drop_all (by omega)] at hr
    exact ⟨_, Sub.refl _, ki hK hr.symm (by omega)⟩
theorem state_ContainsFunc_c {ro : Ro} {v f : Value} {D : Type} {l : List D} {R : List Value → D → Prop} {q : D → Bool} (hlen : l.length ≤ 1000000) {h : T Obj} {nx : Nat} {K : KV} (hv : SlR ro h v 4 R l)
    (hf : ∀ (i : Nat) (hi : i < l.length) x n K', R x l[i] → nx ≤ n → (∀ n', n ≤ n' → K' (.bool (q l[i])) h n') → callF (callP Try.prog ro) f [.agg x.toArray] h n K')
    (hK : ∀ nx', nx ≤ nx' → K (.bool (l.any q)) h nx') : callP Try.prog ro i_slices_ContainsFunc_api_State_api_State [v, f] h nx K := by
  apply slices_ContainsFunc_api_State_api_State_of
  unfold slices_ContainsFunc_api_State_api_State
  refine state_IndexFunc_c hlen hv (fun i hi x n K' hx hn hk => hf i hi x n K' hx (by omega) hk) fun n hn => ?_
  rw [← findI_any q l 0 (by omega)] at hK
  (first | refine lss_s (fun hb => ?_) (fun hb => ?_) | refine leq_s (fun hb => ?_) (fun hb => ?_) | refine gtr_s (fun hb => ?_) (fun hb => ?_) | refine geq_s (fun hb => ?_) (fun hb => ?_) | refine eql_s (fun hb => ?_) (fun hb => ?_) | refine neq_s (fun hb => ?_) (fun hb => ?_))
  · exact ⟨_, Sub.refl _, kb hK (decide_eq_true hb) (by omega)⟩
  · exact ⟨_, Sub.refl _, kb hK (decide_eq_false (by omega)) (by omega)⟩
set_option maxRecDepth 8000 in
theorem checker_state_1_c {ro : Ro} {c : List Nat} {n : Int} {cv sv lv rv uv nv ov : Value} {S : List StateD} {R : List Int} {m : MoveD} {i1 i2 : Nat} (hc : c.length = 256) (hSl : S.length ≤ 256) (hR : R.length ≤ 3) (hmo : m.ops.length ≤ maxB) {h : T Obj} {nx : Nat} {K : KV} (hf : Fr h nx)
    (g1 : h.get i1 = some (.cells (autL c n cv sv).toArray y_auto_checker)) (g2 : h.get i2 = some (.cells #[lv, rv, uv, nv] y_api_State)) (hS : SlR ro h sv 4 (RState ro h) S) (hrv : ZI ro h rv R) (hov : SlR ro h ov 1 RU8 m.ops) (hK : ∀ nx', nx ≤ nx' → K (.bool (!moveOk S R m)) h nx') : callP Try.prog ro i_auto_checker_state_1 [.agg #[.int .i64 m.to, ov], ptr i1, ptr i2] h nx K := by
  apply auto_checker_state_1_of
  unfold auto_checker_state_1
  refine param_mk hf (Nat.le_refl _) fun h1 hs1 hf1 g3 _ => ?_
  have g3 : h1.get nx = some (.cells #[.int .i64 m.to, ov] y_api_Move) := g3
  refine bindP_mk (loadA_all (hs1 _ _ g1) (autL_len hc)) ?_
  refine bindP_mk (loadA_all (l := [lv, rv, uv, nv]) (hs1 _ _ g2) rfl) ?_
  refine bindP_mk (loadA_all (l := [.int .i64 m.to, ov]) g3 rfl) ?_
  refine checker_move_c hc hSl hR hmo (hf1.mono (by omega)) (hS.sub hs1 (RState.sub hs1)) (hrv.sub hs1) (hov.sub hs1 fun _ _ h => h) fun n hn => ?_
  (repeat (first | refine bindP_mk (by simp (disch := first | omega | exact Int.natCast_nonneg _ | assumption) only [BB, B2, ↓reduceIte, Nat.reduceLeDiff, Nat.reduceAdd, CC] <;> rfl) ?_ | refine newP_mk ?_ | refine optP_mk ?_ | with_reducible first | refine condP_t ?_ | refine condP_f ?_ | refine ifP_tt' ?_ | refine ifP_ff' ?_ | refine ifP_tf' ?_ | refine ifP_ft' ?_ | refine ifP_u' ?_ | refine optP_mk0 ?_))
  exact ⟨h, hs1, hK _ (by omega)⟩
set_option maxRecDepth 8000 in
set_option maxHeartbeats 1000000 in
theorem checker_state_c {ro : Ro} {c : List Nat} {n : Int} {cv sv lv rv uv nv : Value} {S : List StateD} {C : List (Int × Int)} {s : StateD} (hc : c.length = 256) (hn : n ≤ 256) (hSl : S.length ≤ 256) (hC : C.length ≤ 512) (hsr : s.r.length ≤ maxB) {h : T Obj} {nx : Nat} {K : KV} (hf : Fr h nx)
    (hcv : SlR ro h cv 2 RCount C) (hS : SlR ro h sv 4 (RState ro h) S) (h1 : ZI ro h lv s.l) (h2 : ZI ro h rv s.r) (h3 : ZI ro h uv s.rule) (h4 : SlR ro h nv 1 (RRow ro h) s.next)
    (hK : ∀ nx', nx ≤ nx' → K (.bool (stateOk S n C.length s)) h nx') : callP Try.prog ro i_auto_checker_state [.agg (autL c n cv sv).toArray, .agg #[lv, rv, uv, nv]] h nx K := by
  apply auto_checker_state_of
  unfold auto_checker_state
  refine param_mk hf (Nat.le_refl _) fun p1 hs1 hf1 g1 _ => ?_
  refine param_mk hf1 (Nat.le_refl _) fun p2 hs2 hf2 g2 _ => ?_
  have g1 : p2.get nx = some (.cells (autL c n cv sv).toArray y_auto_checker) := hs2 _ _ g1
  have g2 : p2.get (nx + 1) = some (.cells #[lv, rv, uv, nv] y_api_State) := g2
  have hs := hs1.trans hs2
  have hS := hS.sub hs (RState.sub hs)
  have hcv := hcv.sub hs fun _ _ h => h
  have h1 := h1.sub hs
  have h2 := h2.sub hs
  have h3 := h3.sub hs
  have h4 := h4.sub hs (RRow.sub hs)
  have hsg := autL_states (n := n) (cv := cv) (sv := sv) hc
  have hcg := autL_counts (n := n) (cv := cv) (sv := sv) hc
  have hmg := autL_many (n := n) (cv := cv) (sv := sv) hc
  have l1 := h1.len
  have l2 := h2.len
  have l3 := h3.len
  have l4 := h4.len
  have lc := hcv.len
  have hno : ∀ n', stateOk S n C.length s = false → nx ≤ n' → ∃ h', Sub h' p2 ∧ K (.bool false) h' n' := fun n' e hn => ⟨h, hs, kb hK e hn⟩
  unfold stateOk at hno hK
  (repeat (first | refine bindP_mk (by simp (disch := first | omega | exact Int.natCast_nonneg _ | assumption) only [BB, B2, ↓reduceIte, Nat.reduceLeDiff, Nat.reduceAdd, CC, g2, l2] <;> rfl) ?_ | refine newP_mk ?_ | refine optP_mk ?_ | with_reducible first | refine condP_t ?_ | refine condP_f ?_ | refine ifP_tt' ?_ | refine ifP_ff' ?_ | refine ifP_tf' ?_ | refine ifP_ft' ?_ | refine ifP_u' ?_ | refine optP_mk0 ?_))
  refine auto_Codes_c fun n1 hn1 => ?_
  have hcl := codes_le s.r.length
  have hcf := codes_few (m := s.r.length)
  generalize codesD s.r.length = cd at hno hK hcl hcf
  refine eql_s (fun u1 => ?_) (fun u1 => ?_)
  · (repeat (first | refine bindP_mk (by simp (disch := first | omega | exact Int.natCast_nonneg _ | assumption) only [BB, B2, ↓reduceIte, Nat.reduceLeDiff, Nat.reduceAdd, CC] <;> rfl) ?_ | refine newP_mk ?_ | refine optP_mk ?_ | with_reducible first | refine condP_t ?_ | refine condP_f ?_ | refine ifP_tt' ?_ | refine ifP_ff' ?_ | refine ifP_tf' ?_ | refine ifP_ft' ?_ | refine ifP_u' ?_ | refine optP_mk0 ?_))
    exact hno _ (by rw [decide_eq_false (by omega)]; rfl) (by omega)
  · rw [decide_eq_true u1, Bool.true_and] at hno hK
    have hcf := hcf u1
    (repeat (first | refine bindP_mk (by simp (disch := first | omega | exact Int.natCast_nonneg _ | assumption) only [BB, B2, ↓reduceIte, Nat.reduceLeDiff, Nat.reduceAdd, CC, g2, l3] <;> rfl) ?_ | refine newP_mk ?_ | refine optP_mk ?_ | with_reducible first | refine condP_t ?_ | refine condP_f ?_ | refine ifP_tt' ?_ | refine ifP_ff' ?_ | refine ifP_tf' ?_ | refine ifP_ft' ?_ | refine ifP_u' ?_ | refine optP_mk0 ?_))
    refine neq_s (fun u2 => ?_) (fun u2 => ?_)
    · (repeat (first | refine bindP_mk (by simp (disch := first | omega | exact Int.natCast_nonneg _ | assumption) only [BB, B2, ↓reduceIte, Nat.reduceLeDiff, Nat.reduceAdd, CC] <;> rfl) ?_ | refine newP_mk ?_ | refine optP_mk ?_ | with_reducible first | refine condP_t ?_ | refine condP_f ?_ | refine ifP_tt' ?_ | refine ifP_ff' ?_ | refine ifP_tf' ?_ | refine ifP_ft' ?_ | refine ifP_u' ?_ | refine optP_mk0 ?_))
      exact hno _ (by rw [decide_eq_false (by omega)]; rfl) (by omega)
    · rw [decide_eq_true u2, Bool.true_and] at hno hK
      (repeat (first | refine bindP_mk (by simp (disch := first | omega | exact Int.natCast_nonneg _ | assumption) only [BB, B2, ↓reduceIte, Nat.reduceLeDiff, Nat.reduceAdd, CC, g2, l4] <;> rfl) ?_ | refine newP_mk ?_ | refine optP_mk ?_ | with_reducible first | refine condP_t ?_ | refine condP_f ?_ | refine ifP_tt' ?_ | refine ifP_ff' ?_ | refine ifP_tf' ?_ | refine ifP_ft' ?_ | refine ifP_u' ?_ | refine optP_mk0 ?_))
      refine neq_s (fun u3 => ?_) (fun u3 => ?_)
      · (repeat (first | refine bindP_mk (by simp (disch := first | omega | exact Int.natCast_nonneg _ | assumption) only [BB, B2, ↓reduceIte, Nat.reduceLeDiff, Nat.reduceAdd, CC] <;> rfl) ?_ | refine newP_mk ?_ | refine optP_mk ?_ | with_reducible first | refine condP_t ?_ | refine condP_f ?_ | refine ifP_tt' ?_ | refine ifP_ff' ?_ | refine ifP_tf' ?_ | refine ifP_ft' ?_ | refine ifP_u' ?_ | refine optP_mk0 ?_))
        exact hno _ (by rw [decide_eq_false (by omega)]; rfl) (by omega)
      · rw [decide_eq_true u3, Bool.true_and] at hno hK
        (repeat (first | refine bindP_mk (by simp (disch := first | omega | exact Int.natCast_nonneg _ | assumption) only [BB, B2, ↓reduceIte, Nat.reduceLeDiff, Nat.reduceAdd, CC, g2] <;> rfl) ?_ | refine newP_mk ?_ | refine optP_mk ?_ | with_reducible first | refine condP_t ?_ | refine condP_f ?_ | refine ifP_tt' ?_ | refine ifP_ff' ?_ | refine ifP_tf' ?_ | refine ifP_ft' ?_ | refine ifP_u' ?_ | refine optP_mk0 ?_))
        refine auto_rises_c (by omega) h1 fun n2 hn2 => ?_
        cases u4 : rz (-1) 512 s.l with
        | false =>
          (repeat (first | refine bindP_mk (by simp (disch := first | omega | exact Int.natCast_nonneg _ | assumption) only [BB, B2, ↓reduceIte, Nat.reduceLeDiff, Nat.reduceAdd, CC] <;> rfl) ?_ | refine newP_mk ?_ | refine optP_mk ?_ | with_reducible first | refine condP_t ?_ | refine condP_f ?_ | refine ifP_tt' ?_ | refine ifP_ff' ?_ | refine ifP_tf' ?_ | refine ifP_ft' ?_ | refine ifP_u' ?_ | refine optP_mk0 ?_))
          exact hno _ (by rw [u4]; rfl) (by omega)
        | true =>
          rw [u4, Bool.true_and] at hno hK
          (repeat (first | refine bindP_mk (by simp (disch := first | omega | exact Int.natCast_nonneg _ | assumption) only [BB, B2, ↓reduceIte, Nat.reduceLeDiff, Nat.reduceAdd, CC, g1, g2, hcg, lc] <;> rfl) ?_ | refine newP_mk ?_ | refine optP_mk ?_ | with_reducible first | refine condP_t ?_ | refine condP_f ?_ | refine ifP_tt' ?_ | refine ifP_ff' ?_ | refine ifP_tf' ?_ | refine ifP_ft' ?_ | refine ifP_u' ?_ | refine optP_mk0 ?_))
          refine auto_rises_c (by omega) h2 fun n3 hn3 => ?_
          cases u5 : rz (-1) C.length s.r with
          | false =>
            (repeat (first | refine bindP_mk (by simp (disch := first | omega | exact Int.natCast_nonneg _ | assumption) only [BB, B2, ↓reduceIte, Nat.reduceLeDiff, Nat.reduceAdd, CC] <;> rfl) ?_ | refine newP_mk ?_ | refine optP_mk ?_ | with_reducible first | refine condP_t ?_ | refine condP_f ?_ | refine ifP_tt' ?_ | refine ifP_ff' ?_ | refine ifP_tf' ?_ | refine ifP_ft' ?_ | refine ifP_u' ?_ | refine optP_mk0 ?_))
            exact hno _ (by rw [u5]; rfl) (by omega)
          | true =>
            rw [u5, Bool.true_and] at hno hK
            (repeat (first | refine bindP_mk (by simp (disch := first | omega | exact Int.natCast_nonneg _ | assumption) only [BB, B2, ↓reduceIte, Nat.reduceLeDiff, Nat.reduceAdd, CC, g2, l4] <;> rfl) ?_ | refine newP_mk ?_ | refine optP_mk ?_ | with_reducible first | refine condP_t ?_ | refine condP_f ?_ | refine ifP_tt' ?_ | refine ifP_ff' ?_ | refine ifP_tf' ?_ | refine ifP_ft' ?_ | refine ifP_u' ?_ | refine optP_mk0 ?_))
            generalize hB : rowsOk S s.r n s.rule s.next = B at hno hK
            refine loopP_rule (fun j e h' nx' => ∃ (k : Nat), k + j = s.next.length ∧ n3 ≤ nx' ∧ h' = p2 ∧ e 2 = ptr nx ∧ e 3 = ptr (nx + 1) ∧ e 45 = nv ∧ e 46 = .int .i64 s.next.length ∧ e 47 = .int .i64 k ∧ rowsOk S s.r n (s.rule.drop k) (s.next.drop k) = B) ?_ (n := s.next.length) ⟨0, by omega, by omega, rfl, rfl, rfl, rfl, rfl, rfl, hB⟩
            rintro j e h' nx' ⟨k, hj, hnx, rfl, e2, e3, e45, e46, e47, hr⟩ Q' hq hx
            unfold auto_checker_state_L1
            rw [e2, e3, e45, e46, e47]
            refine lss_s (fun hk => ?_) (fun hk => ?_)
            · have hk : k < s.next.length := by omega
              have hk2 : k < s.rule.length := by omega
              rw [drop_cons hk, drop_cons hk2, rowsOk_cons] at hr
              have nix := h4.ix .i64 hk
              obtain ⟨w, ⟨w', ow, orow, olen⟩, o1⟩ := h4.at1 hk
              simp only [List.cons.injEq, and_true] at ow
              subst ow
              have uix := h3.ix .i64 hk2
              have uld := h3.load hk2
              generalize s.next[k] = row at hr o1 orow olen
              generalize s.rule[k] = ru at hr uld
              have rl := orow.len
              have hfin : ∀ (e' : Env) n', e' 4 = .bool false → rowOk S s.r n ru row = false → nx ≤ n' → Q' .ret e' h' n' := fun e' n' h6 hc hn => by
                refine hx _ _ _ _ (fun e => by cases e) (exP_r ?_)
                rw [h6]
                refine ⟨h, hs, kb hK ?_ hn⟩
                rw [← hr, hc]; rfl
              have hok : ∀ (e' : Env) n', e' 2 = ptr nx → e' 3 = ptr (nx + 1) → e' 45 = nv → e' 46 = .int .i64 s.next.length → e' 47 = .int .i64 ((k : Int) + 1) → rowOk S s.r n ru row = true → n3 ≤ n' → Q' .normal e' h' n' := fun e' n' f2 f3 f45 f46 f47 hc hn =>
                hq (j - 1) _ _ _ _ (by omega) ⟨k + 1, by omega, hn, rfl, f2, f3, f45, f46, f47, by rw [← hr, hc]; rfl⟩ (Sub.refl _)
              unfold rowOk at hfin hok
              (repeat (first | refine bindP_mk (by simp (disch := first | omega | exact Int.natCast_nonneg _ | assumption) only [BB, B2, ↓reduceIte, Nat.reduceLeDiff, Nat.reduceAdd, CC, g2, nix, o1, uix, uld] <;> rfl) ?_ | refine newP_mk ?_ | refine optP_mk ?_ | with_reducible first | refine condP_t ?_ | refine condP_f ?_ | refine ifP_tt' ?_ | refine ifP_ff' ?_ | refine ifP_tf' ?_ | refine ifP_ft' ?_ | refine ifP_u' ?_ | refine optP_mk0 ?_))
              refine lss_s (fun v1 => ?_) (fun v1 => ?_)
              · (repeat (first | refine bindP_mk (by simp (disch := first | omega | exact Int.natCast_nonneg _ | assumption) only [BB, B2, ↓reduceIte, Nat.reduceLeDiff, Nat.reduceAdd, CC] <;> rfl) ?_ | refine newP_mk ?_ | refine optP_mk ?_ | with_reducible first | refine condP_t ?_ | refine condP_f ?_ | refine ifP_tt' ?_ | refine ifP_ff' ?_ | refine ifP_tf' ?_ | refine ifP_ft' ?_ | refine ifP_u' ?_ | refine optP_mk0 ?_))
                exact hfin _ _ rfl (by rw [decide_eq_false (by omega)]; rfl) (by omega)
              · rw [decide_eq_true v1, Bool.true_and] at hfin hok
                (repeat (first | refine bindP_mk (by simp (disch := first | omega | exact Int.natCast_nonneg _ | assumption) only [BB, B2, ↓reduceIte, Nat.reduceLeDiff, Nat.reduceAdd, CC, g2, uix, uld] <;> rfl) ?_ | refine newP_mk ?_ | refine optP_mk ?_ | with_reducible first | refine condP_t ?_ | refine condP_f ?_ | refine ifP_tt' ?_ | refine ifP_ff' ?_ | refine ifP_tf' ?_ | refine ifP_ft' ?_ | refine ifP_u' ?_ | refine optP_mk0 ?_))
                refine geq_s (fun v2 => ?_) (fun v2 => ?_)
                · (repeat (first | refine bindP_mk (by simp (disch := first | omega | exact Int.natCast_nonneg _ | assumption) only [BB, B2, ↓reduceIte, Nat.reduceLeDiff, Nat.reduceAdd, CC] <;> rfl) ?_ | refine newP_mk ?_ | refine optP_mk ?_ | with_reducible first | refine condP_t ?_ | refine condP_f ?_ | refine ifP_tt' ?_ | refine ifP_ff' ?_ | refine ifP_tf' ?_ | refine ifP_ft' ?_ | refine ifP_u' ?_ | refine optP_mk0 ?_))
                  exact hfin _ _ rfl (by rw [decide_eq_false (by omega)]; rfl) (by omega)
                · rw [decide_eq_true v2, Bool.true_and] at hfin hok
                  (repeat (first | refine bindP_mk (by simp (disch := first | omega | exact Int.natCast_nonneg _ | assumption) only [BB, B2, ↓reduceIte, Nat.reduceLeDiff, Nat.reduceAdd, CC, g1, rl, hmg] <;> rfl) ?_ | refine newP_mk ?_ | refine optP_mk ?_ | with_reducible first | refine condP_t ?_ | refine condP_f ?_ | refine ifP_tt' ?_ | refine ifP_ff' ?_ | refine ifP_tf' ?_ | refine ifP_ft' ?_ | refine ifP_u' ?_ | refine optP_mk0 ?_))
                  refine neq_s (fun v3 => ?_) (fun v3 => ?_)
                  · (repeat (first | refine bindP_mk (by simp (disch := first | omega | exact Int.natCast_nonneg _ | assumption) only [BB, B2, ↓reduceIte, Nat.reduceLeDiff, Nat.reduceAdd, CC] <;> rfl) ?_ | refine newP_mk ?_ | refine optP_mk ?_ | with_reducible first | refine condP_t ?_ | refine condP_f ?_ | refine ifP_tt' ?_ | refine ifP_ff' ?_ | refine ifP_tf' ?_ | refine ifP_ft' ?_ | refine ifP_u' ?_ | refine optP_mk0 ?_))
                    exact hfin _ _ rfl (by rw [decide_eq_false (by omega)]; rfl) (by omega)
                  · rw [decide_eq_true (by omega), Bool.true_and] at hfin hok
                    (repeat (first | refine bindP_mk (by simp (disch := first | omega | exact Int.natCast_nonneg _ | assumption) only [BB, B2, ↓reduceIte, Nat.reduceLeDiff, Nat.reduceAdd, CC] <;> rfl) ?_ | refine newP_mk ?_ | refine optP_mk ?_ | with_reducible first | refine condP_t ?_ | refine condP_f ?_ | refine ifP_tt' ?_ | refine ifP_ff' ?_ | refine ifP_tf' ?_ | refine ifP_ft' ?_ | refine ifP_u' ?_ | refine optP_mk0 ?_))
                    refine move_ContainsFunc_c (q := fun m => !moveOk S s.r m) (by omega) orow (fun i hi x n' K' hx hn' hk' => ?_) fun n' hn' => ?_
                    · obtain ⟨ov, rfl, y1, y2⟩ := hx
                      exact checker_state_1_c hc hSl (by omega) y2 (hf2.mono (by omega)) g1 g2 hS h2 y1 hk'
                    · rw [← all_not] at hfin hok
                      cases hany : row.any fun m => !moveOk S s.r m with
                      | true =>
                        rw [hany] at hfin
                        (repeat (first | refine bindP_mk (by simp (disch := first | omega | exact Int.natCast_nonneg _ | assumption) only [BB, B2, ↓reduceIte, Nat.reduceLeDiff, Nat.reduceAdd, CC] <;> rfl) ?_ | refine newP_mk ?_ | refine optP_mk ?_ | with_reducible first | refine condP_t ?_ | refine condP_f ?_ | refine ifP_tt' ?_ | refine ifP_ff' ?_ | refine ifP_tf' ?_ | refine ifP_ft' ?_ | refine ifP_u' ?_ | refine optP_mk0 ?_))
                        exact hfin _ _ rfl rfl (by omega)
                      | false =>
                        rw [hany] at hok
                        (repeat (first | refine bindP_mk (by simp (disch := first | omega | exact Int.natCast_nonneg _ | assumption) only [BB, B2, ↓reduceIte, Nat.reduceLeDiff, Nat.reduceAdd, CC] <;> rfl) ?_ | refine newP_mk ?_ | refine optP_mk ?_ | with_reducible first | refine condP_t ?_ | refine condP_f ?_ | refine ifP_tt' ?_ | refine ifP_ff' ?_ | refine ifP_tf' ?_ | refine ifP_ft' ?_ | refine ifP_u' ?_ | refine optP_mk0 ?_))
                        exact hok _ _ e2 e3 e45 e46 rfl rfl (by omega)
            · (repeat (first | refine bindP_mk (by simp (disch := first | omega | exact Int.natCast_nonneg _ | assumption) only [BB, B2, ↓reduceIte, Nat.reduceLeDiff, Nat.reduceAdd, CC] <;> rfl) ?_ | refine newP_mk ?_ | refine optP_mk ?_ | with_reducible first | refine condP_t ?_ | refine condP_f ?_ | refine ifP_tt' ?_ | refine ifP_ff' ?_ | refine ifP_tf' ?_ | refine ifP_ft' ?_ | refine ifP_u' ?_ | refine optP_mk0 ?_))
              refine hx _ _ _ _ (fun e => by cases e) (exP_e (beqP_t ?_))
              unfold auto_checker_state_j1
              rw [drop_all (l := s.next) (by omega), rowsOk_nil] at hr
              exact ⟨h, hs, kb hK hr.symm (by omega)⟩
end V
end Go.Proofs.Ytmmdcdjkmakgpaa
set_option linter.unusedVariables false
set_option linter.unusedSimpArgs false
namespace Go.Proofs.Ytmmdcdjkmakgpaa
namespace V
open PA
attribute [local irreducible] bindP ifP condP newP optP exP beqP
theorem SlR.okC {D : Type} {ro : Ro} {h : T Obj} {v : Value} {z : Nat} {R : List Value → D → Prop} {l : List D} (hl : SlR ro h v z R l) : cellOk v = true := by obtain ⟨cs, h9, _⟩ := hl; exact h9.ok
def countOk (p : Int × Int) : Bool := decide (1 ≤ p.1) && (decide (p.1 ≤ p.2) && (decide (2 ≤ p.2) && decide (p.2 ≤ 4096)))
def firstOk (S : List StateD) : Bool := decide ((S.getD 0 noS).l.length = 0) && decide ((S.getD 0 noS).r.length = 0)
def autoOk (d : AutoD) : Bool := rightB d.c d.many && (decide (d.counts.length ≤ 512) && (decide (1 ≤ d.states.length) && (decide (d.states.length ≤ 256) && (firstOk d.states && (d.counts.all countOk && d.states.all (stateOk d.states d.many d.counts.length))))))
theorem right_many {c : List Nat} {n : Int} (h : rightB c n = true) : n ≤ 256 := by
  unfold rightB at h
  split at h
  · rename_i m hm
    have := rt_le hm
    simp only [decide_eq_true_eq] at h
    omega
  · cases h
theorem rz_many : ∀ {l : List Int} {a m : Int}, rz a m l = true → (l.length : Int) ≤ max 0 (m - a - 1)
  | [], a, m, _ => by simp only [List.length_nil]; omega
  | x :: r, a, m, h => by
    rw [rz_cons] at h
    simp only [Bool.and_eq_true, decide_eq_true_eq] at h
    have := rz_many h.2.2
    rw [List.length_cons]
    omega
theorem state_few {S : List StateD} {n : Int} {cn : Nat} {s : StateD} (h : stateOk S n cn s = true) : s.l.length ≤ 512 ∧ s.r.length ≤ 3 := by
  unfold stateOk at h
  simp only [Bool.and_eq_true, decide_eq_true_eq] at h
  have h1 := rz_many h.2.2.2.1
  have h2 := codes_few h.1
  omega
theorem wr_sum {a b : Nat} (h : wr .i64 ((a : Int) + b) ≤ 0) : a + b = 0 ∨ 9223372036854775807 < a + b := by
  rcases Nat.lt_or_ge 9223372036854775807 (a + b) with h1 | h1
  · exact .inr h1
  · rw [wr_i64 (by omega) (by omega)] at h
    exact .inl (by omega)
theorem wr_sum' {a b : Nat} (h : 0 < wr .i64 ((a : Int) + b)) : a ≠ 0 ∨ b ≠ 0 := by
  rcases Nat.eq_zero_or_pos (a + b) with h1 | h1
  · rw [show (a : Int) + b = 0 by omega] at h
    exact absurd h (by decide)
  · omega
theorem build_checker {c : List Nat} {n : Int} {cv sv : Value} (hc : c.length = 256) : buildV Try.prog y_auto_checker [(0, .agg (autL c n cv sv).toArray)] = some (.agg (autL c n cv sv).toArray) := by
  have h1 : ((zer Try.prog y_auto_checker).bind fun z => match z with
    | .agg a => if a.size = 259 then some true else none
    | _ => none) = some true := by kernel_rfl
  have h2 : ((und Try.prog y_auto_checker).bind fun d => match d with
    | .struct fs => placesV Try.prog fs.toList
    | _ => none) = some [(0, 259)] := by kernel_rfl
  obtain ⟨z, h1, h4⟩ := bind_some' h1
  cases z <;> try (cases h4; done)
  rename_i z
  simp only at h4
  split at h4
  · rename_i h5
    obtain ⟨d, h2, h3⟩ := bind_some' h2
    cases d <;> try (cases h3; done)
    rename_i fs
    simp only at h3
    unfold buildV
    rw [h1]
    simp only [Option.bind, h2, h3]
    have hl := autL_len (n := n) (cv := cv) (sv := sv) hc
    have hz : z.toList.length = 259 := by simpa using h5
    have e1 : Nat.beq (autL c n cv sv).toArray.size 259 = true := by simp [hl]
    have e2 : Nat.ble (0 + 259) z.toList.length = true := by rw [hz]; rfl
    simp only [fillV, List.getElem?_cons_zero, Option.bind, Value.cells_agg, e1, e2]
    rw [over_all (by rw [hz]; simpa using hl)]
  · cases h4
theorem zer_checker : ∃ z, zer Try.prog y_auto_checker = some z ∧ z.cells.size = 259 := by
  have h1 : ((zer Try.prog y_auto_checker).bind fun z => if z.cells.size = 259 then some true else none) = some true := by kernel_rfl
  obtain ⟨z, h1, h4⟩ := bind_some' h1
  split at h4
  · exact ⟨z, h1, by assumption⟩
  · cases h4
theorem zer_a2 : zer Try.prog y_a2_int = some (.agg #[.int .i64 0, .int .i64 0]) := by kernel_rfl
set_option maxRecDepth 8000 in
theorem auto_Right_1_c {ro : Ro} {c : List Nat} {n : Int} {cv sv lv rv uv nv : Value} {S : List StateD} {C : List (Int × Int)} {s : StateD} {i1 : Nat} (hc : c.length = 256) (hn : n ≤ 256) (hSl : S.length ≤ 256) (hC : C.length ≤ 512) (hsr : s.r.length ≤ maxB) {h : T Obj} {nx : Nat} {K : KV} (hf : Fr h nx)
    (g1 : h.get i1 = some (.cells (autL c n cv sv).toArray y_auto_checker)) (hcv : SlR ro h cv 2 RCount C) (hS : SlR ro h sv 4 (RState ro h) S) (h1 : ZI ro h lv s.l) (h2 : ZI ro h rv s.r) (h3 : ZI ro h uv s.rule) (h4 : SlR ro h nv 1 (RRow ro h) s.next)
    (hK : ∀ nx', nx ≤ nx' → K (.bool (!stateOk S n C.length s)) h nx') : callP Try.prog ro i_auto_Right_1 [.agg #[lv, rv, uv, nv], ptr i1] h nx K := by
  apply auto_Right_1_of
  unfold auto_Right_1
  refine param_mk hf (Nat.le_refl _) fun p1 hs1 hf1 g3 _ => ?_
  have g3 : p1.get nx = some (.cells #[lv, rv, uv, nv] y_api_State) := g3
  refine bindP_mk (loadA_all (hs1 _ _ g1) (autL_len hc)) ?_
  refine bindP_mk (loadA_all (l := [lv, rv, uv, nv]) g3 rfl) ?_
  refine checker_state_c hc hn hSl hC hsr (hf1.mono (by omega)) (hcv.sub hs1 fun _ _ h => h) (hS.sub hs1 (RState.sub hs1)) (h1.sub hs1) (h2.sub hs1) (h3.sub hs1) (h4.sub hs1 (RRow.sub hs1)) fun n hn => ?_
  (repeat (first | refine bindP_mk (by simp (disch := first | omega | exact Int.natCast_nonneg _ | assumption) only [BB, B2, ↓reduceIte, Nat.reduceLeDiff, Nat.reduceAdd, CC] <;> rfl) ?_ | refine newP_mk ?_ | refine optP_mk ?_ | with_reducible first | refine condP_t ?_ | refine condP_f ?_ | refine ifP_tt' ?_ | refine ifP_ff' ?_ | refine ifP_tf' ?_ | refine ifP_ft' ?_ | refine ifP_u' ?_ | refine optP_mk0 ?_))
  exact ⟨h, hs1, hK _ (by omega)⟩
set_option maxRecDepth 8000 in
set_option maxHeartbeats 2000000 in
theorem auto_Right_c {ro : Ro} {x : List Value} {d : AutoD} {h : T Obj} {nx : Nat} {K : KV} (hf : Fr h nx) (hd : RAuto ro h x d) (hK : ∀ nx', nx ≤ nx' → K (.bool (autoOk d)) h nx') : callP Try.prog ro i_auto_Right [.agg x.toArray] h nx K := by
  obtain ⟨cv, sv, rfl, hc, hcl, hcv, hS, hb1, hb2⟩ := hd
  obtain ⟨c, n, C, S⟩ := d
  simp only at hc hcl hcv hS hb1 hb2
  dsimp only
  apply auto_Right_of
  unfold auto_Right
  refine param_mk hf (Nat.le_refl _) fun p1 hs hf1 g1 _ => ?_
  have g1 : p1.get nx = some (.cells (autL c n cv sv).toArray y_api_Auto) := g1
  have hS := hS.sub hs (RState.sub hs)
  have hcv := hcv.sub hs fun _ _ h => h
  have hsg := autL_states (n := n) (cv := cv) (sv := sv) hc
  have hcg := autL_counts (n := n) (cv := cv) (sv := sv) hc
  have lc := hcv.len
  have ls := hS.len
  have hno : ∀ n', autoOk ⟨c, n, C, S⟩ = false → nx ≤ n' → ∃ h', Sub h' p1 ∧ K (.bool false) h' n' := fun n' e hn => ⟨h, hs, kb hK e hn⟩
  unfold autoOk at hno hK
  dsimp only at hno hK
  (repeat (first | refine bindP_mk (by simp (disch := first | omega | exact Int.natCast_nonneg _ | assumption) only [BB, B2, ↓reduceIte, Nat.reduceLeDiff, Nat.reduceAdd, CC] <;> rfl) ?_ | refine newP_mk ?_ | refine optP_mk ?_ | with_reducible first | refine condP_t ?_ | refine condP_f ?_ | refine ifP_tt' ?_ | refine ifP_ff' ?_ | refine ifP_tf' ?_ | refine ifP_ft' ?_ | refine ifP_u' ?_ | refine optP_mk0 ?_))
  refine bindP_mk (loadS g1 hc) ?_
  refine split_Right_c hc hcl (hf1.mono (by omega)) fun n1 hn1 => ?_
  cases hr : rightB c n with
  | false =>
    (repeat (first | refine bindP_mk (by simp (disch := first | omega | exact Int.natCast_nonneg _ | assumption) only [BB, B2, ↓reduceIte, Nat.reduceLeDiff, Nat.reduceAdd, CC] <;> rfl) ?_ | refine newP_mk ?_ | refine optP_mk ?_ | with_reducible first | refine condP_t ?_ | refine condP_f ?_ | refine ifP_tt' ?_ | refine ifP_ff' ?_ | refine ifP_tf' ?_ | refine ifP_ft' ?_ | refine ifP_u' ?_ | refine optP_mk0 ?_))
    exact hno _ (by rw [hr]; rfl) (by omega)
  | true =>
    have hn := right_many hr
    rw [hr, Bool.true_and] at hno hK
    (repeat (first | refine bindP_mk (by simp (disch := first | omega | exact Int.natCast_nonneg _ | assumption) only [BB, B2, ↓reduceIte, Nat.reduceLeDiff, Nat.reduceAdd, CC, g1, hcg, lc] <;> rfl) ?_ | refine newP_mk ?_ | refine optP_mk ?_ | with_reducible first | refine condP_t ?_ | refine condP_f ?_ | refine ifP_tt' ?_ | refine ifP_ff' ?_ | refine ifP_tf' ?_ | refine ifP_ft' ?_ | refine ifP_u' ?_ | refine optP_mk0 ?_))
    refine gtr_s (fun u1 => ?_) (fun u1 => ?_)
    · (repeat (first | refine bindP_mk (by simp (disch := first | omega | exact Int.natCast_nonneg _ | assumption) only [BB, B2, ↓reduceIte, Nat.reduceLeDiff, Nat.reduceAdd, CC] <;> rfl) ?_ | refine newP_mk ?_ | refine optP_mk ?_ | with_reducible first | refine condP_t ?_ | refine condP_f ?_ | refine ifP_tt' ?_ | refine ifP_ff' ?_ | refine ifP_tf' ?_ | refine ifP_ft' ?_ | refine ifP_u' ?_ | refine optP_mk0 ?_))
      exact hno _ (by rw [decide_eq_false (by omega)]; rfl) (by omega)
    · have u1 : C.length ≤ 512 := by omega
      rw [decide_eq_true u1, Bool.true_and] at hno hK
      (repeat (first | refine bindP_mk (by simp (disch := first | omega | exact Int.natCast_nonneg _ | assumption) only [BB, B2, ↓reduceIte, Nat.reduceLeDiff, Nat.reduceAdd, CC, g1, hsg, ls] <;> rfl) ?_ | refine newP_mk ?_ | refine optP_mk ?_ | with_reducible first | refine condP_t ?_ | refine condP_f ?_ | refine ifP_tt' ?_ | refine ifP_ff' ?_ | refine ifP_tf' ?_ | refine ifP_ft' ?_ | refine ifP_u' ?_ | refine optP_mk0 ?_))
      refine lss_s (fun u2 => ?_) (fun u2 => ?_)
      · (repeat (first | refine bindP_mk (by simp (disch := first | omega | exact Int.natCast_nonneg _ | assumption) only [BB, B2, ↓reduceIte, Nat.reduceLeDiff, Nat.reduceAdd, CC] <;> rfl) ?_ | refine newP_mk ?_ | refine optP_mk ?_ | with_reducible first | refine condP_t ?_ | refine condP_f ?_ | refine ifP_tt' ?_ | refine ifP_ff' ?_ | refine ifP_tf' ?_ | refine ifP_ft' ?_ | refine ifP_u' ?_ | refine optP_mk0 ?_))
        exact hno _ (by rw [decide_eq_false (by omega)]; rfl) (by omega)
      · have u2 : 1 ≤ S.length := by omega
        rw [decide_eq_true u2, Bool.true_and] at hno hK
        (repeat (first | refine bindP_mk (by simp (disch := first | omega | exact Int.natCast_nonneg _ | assumption) only [BB, B2, ↓reduceIte, Nat.reduceLeDiff, Nat.reduceAdd, CC, g1, hsg, ls] <;> rfl) ?_ | refine newP_mk ?_ | refine optP_mk ?_ | with_reducible first | refine condP_t ?_ | refine condP_f ?_ | refine ifP_tt' ?_ | refine ifP_ff' ?_ | refine ifP_tf' ?_ | refine ifP_ft' ?_ | refine ifP_u' ?_ | refine optP_mk0 ?_))
        refine gtr_s (fun u3 => ?_) (fun u3 => ?_)
        · (repeat (first | refine bindP_mk (by simp (disch := first | omega | exact Int.natCast_nonneg _ | assumption) only [BB, B2, ↓reduceIte, Nat.reduceLeDiff, Nat.reduceAdd, CC] <;> rfl) ?_ | refine newP_mk ?_ | refine optP_mk ?_ | with_reducible first | refine condP_t ?_ | refine condP_f ?_ | refine ifP_tt' ?_ | refine ifP_ff' ?_ | refine ifP_tf' ?_ | refine ifP_ft' ?_ | refine ifP_u' ?_ | refine optP_mk0 ?_))
          exact hno _ (by rw [decide_eq_false (by omega)]; rfl) (by omega)
        · have u3 : S.length ≤ 256 := by omega
          rw [decide_eq_true u3, Bool.true_and] at hno hK
          have h0 : 0 < S.length := by omega
          have six : ixSl 4 sv (.int .i64 0) = some (elPtr 4 sv 0) := hS.ix .i64 (i := 0) h0
          obtain ⟨x, ⟨lv, rv, uv, nv, rfl, y1, y2, y3, y4, y5⟩, hx2, hx3, hx4, hx5⟩ := hS.at h0
          have q0 := hx5 0 lv rfl
          have q1 := hx5 1 rv rfl
          have ll := y1.len
          have lr := y2.len
          have hgd : S.getD 0 noS = S[0] := by rw [List.getD_eq_getElem?_getD, List.getElem?_eq_getElem h0]; rfl
          have hfst : firstOk S = (decide (S[0].l.length = 0) && decide (S[0].r.length = 0)) := by unfold firstOk; rw [hgd]
          have hall : S.all (stateOk S n C.length) = true → S[0].l.length ≤ 512 ∧ S[0].r.length ≤ 3 := fun h => state_few (List.all_eq_true.1 h _ (List.getElem_mem h0))
          (repeat (first | refine bindP_mk (by simp (disch := first | omega | exact Int.natCast_nonneg _ | assumption) only [BB, B2, ↓reduceIte, Nat.reduceLeDiff, Nat.reduceAdd, CC, g1, hsg, six, hx4, q0, q1, ll, lr] <;> rfl) ?_ | refine newP_mk ?_ | refine optP_mk ?_ | with_reducible first | refine condP_t ?_ | refine condP_f ?_ | refine ifP_tt' ?_ | refine ifP_ff' ?_ | refine ifP_tf' ?_ | refine ifP_ft' ?_ | refine ifP_u' ?_ | refine optP_mk0 ?_))
          first
          | refine bindP_mk (intB_add _ _ _) ?_
          | skip
          (repeat (first | refine bindP_mk (by simp (disch := first | omega | exact Int.natCast_nonneg _ | assumption) only [BB, B2, ↓reduceIte, Nat.reduceLeDiff, Nat.reduceAdd, CC] <;> rfl) ?_ | refine newP_mk ?_ | refine optP_mk ?_ | with_reducible first | refine condP_t ?_ | refine condP_f ?_ | refine ifP_tt' ?_ | refine ifP_ff' ?_ | refine ifP_tf' ?_ | refine ifP_ft' ?_ | refine ifP_u' ?_ | refine optP_mk0 ?_))
          -- behind the head: the bounds of the counts, the states
          have hrest : (S[0].l.length = 0 ∧ S[0].r.length = 0 ∨ 9223372036854775807 < S[0].l.length + S[0].r.length) → ∀ (e' : Env) n', e' 1 = ptr nx → e' 2 = .bool false → e' 45 = cv → e' 46 = .int .i64 C.length → e' 47 = .int .i64 0 → nx + 1 ≤ n' →
              loopP (auto_Right_L1 ro) e' p1 n' fun x229 e226 h227 n228 => exP x229 (auto_Right_j1 ro K e226 h227 n228) (fun i230 => beqP (Nat.beq i230 0) (auto_Right_j1 ro K e226 h227 n228) (False)) (∃ h231, Sub h231 h227 ∧ K (e226 2) h231 n228) := by
            intro hlen e' n' f1 f2 f45 f46 f47 hn'
            generalize hB : C.all countOk = B at hno hK
            refine loopP_rule (fun j e h' nx' => ∃ (k : Nat), k + j = C.length ∧ nx + 1 ≤ nx' ∧ h' = p1 ∧ e 1 = ptr nx ∧ e 2 = .bool false ∧ e 45 = cv ∧ e 46 = .int .i64 C.length ∧ e 47 = .int .i64 k ∧ (C.drop k).all countOk = B) ?_ (n := C.length) ⟨0, by omega, hn', rfl, f1, f2, f45, f46, f47, hB⟩
            rintro j e h' nx' ⟨k, hj, hnx, rfl, e1, e2, e45, e46, e47, hr2⟩ Q' hq hx
            unfold auto_Right_L1
            rw [e45, e46, e47]
            refine lss_s (fun hk => ?_) (fun hk => ?_)
            · have hk : k < C.length := by omega
              rw [drop_cons hk, List.all_cons] at hr2
              have cix := hcv.ix .i64 hk
              obtain ⟨x, hx1, hx2, hx3, hx4, hx5⟩ := hcv.at hk
              generalize C[k] = p at hr2 hx1
              obtain rfl : x = [.int .i64 p.1, .int .i64 p.2] := hx1
              (repeat (first | refine bindP_mk (by simp (disch := first | omega | exact Int.natCast_nonneg _ | assumption) only [BB, B2, ↓reduceIte, Nat.reduceLeDiff, Nat.reduceAdd, CC, cix, hx3] <;> rfl) ?_ | refine newP_mk ?_ | refine optP_mk ?_ | with_reducible first | refine condP_t ?_ | refine condP_f ?_ | refine ifP_tt' ?_ | refine ifP_ff' ?_ | refine ifP_tf' ?_ | refine ifP_ft' ?_ | refine ifP_u' ?_ | refine optP_mk0 ?_))
              refine local_mk (x := [.int .i64 p.1, .int .i64 p.2]) zer_a2 rfl rfl rfl rfl hf1 (by omega) fun h6 hs6 hf6 g6 _ => ?_
              have hfin : ∀ (e' : Env) n', e' 2 = .bool false → countOk p = false → nx ≤ n' → Q' .ret e' h6 n' := fun e' n' h6 hc hn => by
                refine hx _ _ _ _ (fun e => by cases e) (exP_r ?_)
                rw [h6]
                rw [hc, Bool.false_and] at hr2
                subst hr2
                obtain ⟨h9, z1, z2⟩ := hno n' (by simp) hn
                exact ⟨h9, z1.trans hs6, z2⟩
              have hok : ∀ (e' : Env) n', e' 1 = ptr nx → e' 2 = .bool false → e' 45 = cv → e' 46 = .int .i64 C.length → e' 47 = .int .i64 ((k : Int) + 1) → countOk p = true → nx + 1 ≤ n' → Q' .normal e' h6 n' := fun e' n' f1 f2 f45 f46 f47 hc hn =>
                hq (j - 1) _ h' _ _ (by omega) ⟨k + 1, by omega, hn, rfl, f1, f2, f45, f46, f47, by rw [← hr2, hc]; rfl⟩ hs6
              unfold countOk at hfin hok
              (repeat (first | refine bindP_mk (by simp (disch := first | omega | exact Int.natCast_nonneg _ | assumption) only [BB, B2, ↓reduceIte, Nat.reduceLeDiff, Nat.reduceAdd, CC, g6] <;> rfl) ?_ | refine newP_mk ?_ | refine optP_mk ?_ | with_reducible first | refine condP_t ?_ | refine condP_f ?_ | refine ifP_tt' ?_ | refine ifP_ff' ?_ | refine ifP_tf' ?_ | refine ifP_ft' ?_ | refine ifP_u' ?_ | refine optP_mk0 ?_))
              refine lss_s (fun v1 => ?_) (fun v1 => ?_)
              · (repeat (first | refine bindP_mk (by simp (disch := first | omega | exact Int.natCast_nonneg _ | assumption) only [BB, B2, ↓reduceIte, Nat.reduceLeDiff, Nat.reduceAdd, CC] <;> rfl) ?_ | refine newP_mk ?_ | refine optP_mk ?_ | with_reducible first | refine condP_t ?_ | refine condP_f ?_ | refine ifP_tt' ?_ | refine ifP_ff' ?_ | refine ifP_tf' ?_ | refine ifP_ft' ?_ | refine ifP_u' ?_ | refine optP_mk0 ?_))
                exact hfin _ _ rfl (by rw [decide_eq_false (by omega)]; rfl) (by omega)
              · rw [decide_eq_true v1, Bool.true_and] at hfin hok
                (repeat (first | refine bindP_mk (by simp (disch := first | omega | exact Int.natCast_nonneg _ | assumption) only [BB, B2, ↓reduceIte, Nat.reduceLeDiff, Nat.reduceAdd, CC, g6] <;> rfl) ?_ | refine newP_mk ?_ | refine optP_mk ?_ | with_reducible first | refine condP_t ?_ | refine condP_f ?_ | refine ifP_tt' ?_ | refine ifP_ff' ?_ | refine ifP_tf' ?_ | refine ifP_ft' ?_ | refine ifP_u' ?_ | refine optP_mk0 ?_))
                refine gtr_s (fun v2 => ?_) (fun v2 => ?_)
                · (repeat (first | refine bindP_mk (by simp (disch := first | omega | exact Int.natCast_nonneg _ | assumption) only [BB, B2, ↓reduceIte, Nat.reduceLeDiff, Nat.reduceAdd, CC] <;> rfl) ?_ | refine newP_mk ?_ | refine optP_mk ?_ | with_reducible first | refine condP_t ?_ | refine condP_f ?_ | refine ifP_tt' ?_ | refine ifP_ff' ?_ | refine ifP_tf' ?_ | refine ifP_ft' ?_ | refine ifP_u' ?_ | refine optP_mk0 ?_))
                  exact hfin _ _ rfl (by rw [decide_eq_false (by omega)]; rfl) (by omega)
                · rw [decide_eq_true v2, Bool.true_and] at hfin hok
                  (repeat (first | refine bindP_mk (by simp (disch := first | omega | exact Int.natCast_nonneg _ | assumption) only [BB, B2, ↓reduceIte, Nat.reduceLeDiff, Nat.reduceAdd, CC, g6] <;> rfl) ?_ | refine newP_mk ?_ | refine optP_mk ?_ | with_reducible first | refine condP_t ?_ | refine condP_f ?_ | refine ifP_tt' ?_ | refine ifP_ff' ?_ | refine ifP_tf' ?_ | refine ifP_ft' ?_ | refine ifP_u' ?_ | refine optP_mk0 ?_))
                  refine lss_s (fun v3 => ?_) (fun v3 => ?_)
                  · (repeat (first | refine bindP_mk (by simp (disch := first | omega | exact Int.natCast_nonneg _ | assumption) only [BB, B2, ↓reduceIte, Nat.reduceLeDiff, Nat.reduceAdd, CC] <;> rfl) ?_ | refine newP_mk ?_ | refine optP_mk ?_ | with_reducible first | refine condP_t ?_ | refine condP_f ?_ | refine ifP_tt' ?_ | refine ifP_ff' ?_ | refine ifP_tf' ?_ | refine ifP_ft' ?_ | refine ifP_u' ?_ | refine optP_mk0 ?_))
                    exact hfin _ _ rfl (by rw [decide_eq_false (by omega)]; rfl) (by omega)
                  · rw [decide_eq_true v3, Bool.true_and] at hfin hok
                    (repeat (first | refine bindP_mk (by simp (disch := first | omega | exact Int.natCast_nonneg _ | assumption) only [BB, B2, ↓reduceIte, Nat.reduceLeDiff, Nat.reduceAdd, CC, g6] <;> rfl) ?_ | refine newP_mk ?_ | refine optP_mk ?_ | with_reducible first | refine condP_t ?_ | refine condP_f ?_ | refine ifP_tt' ?_ | refine ifP_ff' ?_ | refine ifP_tf' ?_ | refine ifP_ft' ?_ | refine ifP_u' ?_ | refine optP_mk0 ?_))
                    refine gtr_s (fun v4 => ?_) (fun v4 => ?_)
                    · (repeat (first | refine bindP_mk (by simp (disch := first | omega | exact Int.natCast_nonneg _ | assumption) only [BB, B2, ↓reduceIte, Nat.reduceLeDiff, Nat.reduceAdd, CC] <;> rfl) ?_ | refine newP_mk ?_ | refine optP_mk ?_ | with_reducible first | refine condP_t ?_ | refine condP_f ?_ | refine ifP_tt' ?_ | refine ifP_ff' ?_ | refine ifP_tf' ?_ | refine ifP_ft' ?_ | refine ifP_u' ?_ | refine optP_mk0 ?_))
                      exact hfin _ _ rfl (by rw [decide_eq_false (by omega)]) (by omega)
                    · rw [decide_eq_true v4] at hok
                      (repeat (first | refine bindP_mk (by simp (disch := first | omega | exact Int.natCast_nonneg _ | assumption) only [BB, B2, ↓reduceIte, Nat.reduceLeDiff, Nat.reduceAdd, CC] <;> rfl) ?_ | refine newP_mk ?_ | refine optP_mk ?_ | with_reducible first | refine condP_t ?_ | refine condP_f ?_ | refine ifP_tt' ?_ | refine ifP_ff' ?_ | refine ifP_tf' ?_ | refine ifP_ft' ?_ | refine ifP_u' ?_ | refine optP_mk0 ?_))
                      exact hok _ _ e1 e2 e45 e46 rfl rfl (by omega)
            · rw [drop_all (by omega)] at hr2
              have hr2 : true = B := hr2
              subst hr2
              rw [Bool.true_and] at hno hK
              (repeat (first | refine bindP_mk (by simp (disch := first | omega | exact Int.natCast_nonneg _ | assumption) only [BB, B2, ↓reduceIte, Nat.reduceLeDiff, Nat.reduceAdd, CC] <;> rfl) ?_ | refine newP_mk ?_ | refine optP_mk ?_ | with_reducible first | refine condP_t ?_ | refine condP_f ?_ | refine ifP_tt' ?_ | refine ifP_ff' ?_ | refine ifP_tf' ?_ | refine ifP_ft' ?_ | refine ifP_u' ?_ | refine optP_mk0 ?_))
              refine hx _ _ _ _ (fun e => by cases e) (exP_e (beqP_t ?_))
              have hend : ∀ (e' : Env) n', e' 1 = ptr nx → nx + 1 ≤ n' → auto_Right_j1 ro K e' h' n' := by
                intro e' n' z1 hn'
                unfold auto_Right_j1
                rw [z1]
                refine bindP_mk (loadA_all g1 (autL_len hc)) ?_
                refine bindP_mk (build_checker hc) ?_
                obtain ⟨z, hz, hzs⟩ := zer_checker
                refine local_mk (x := autL c n cv sv) hz hzs rfl (autL_len hc) (autL_ok (SlR.okC hcv) (SlR.okC hS)) hf1 (by omega) fun h6 hs6 hf6 g6 _ => ?_
                have g16 := hs6 _ _ g1
                (repeat (first | refine bindP_mk (by simp (disch := first | omega | exact Int.natCast_nonneg _ | assumption) only [BB, B2, ↓reduceIte, Nat.reduceLeDiff, Nat.reduceAdd, CC, g16, hsg] <;> rfl) ?_ | refine newP_mk ?_ | refine optP_mk ?_ | with_reducible first | refine condP_t ?_ | refine condP_f ?_ | refine ifP_tt' ?_ | refine ifP_ff' ?_ | refine ifP_tf' ?_ | refine ifP_ft' ?_ | refine ifP_u' ?_ | refine optP_mk0 ?_))
                refine state_ContainsFunc_c (q := fun s => !stateOk S n C.length s) (by omega) (hS.sub hs6 (RState.sub hs6)) (fun i hi x n' K' hx hn' hk' => ?_) fun n' hn' => ?_
                · obtain ⟨lv, rv, uv, nv, rfl, w1, w2, w3, w4, w5⟩ := hx
                  exact auto_Right_1_c hc hn u3 u1 w5 (hf6.mono (by omega)) g6 (hcv.sub hs6 fun _ _ h => h) (hS.sub hs6 (RState.sub hs6)) w1 w2 w3 w4 hk'
                · (repeat (first | refine bindP_mk (by simp (disch := first | omega | exact Int.natCast_nonneg _ | assumption) only [BB, B2, ↓reduceIte, Nat.reduceLeDiff, Nat.reduceAdd, CC] <;> rfl) ?_ | refine newP_mk ?_ | refine optP_mk ?_ | with_reducible first | refine condP_t ?_ | refine condP_f ?_ | refine ifP_tt' ?_ | refine ifP_ff' ?_ | refine ifP_tf' ?_ | refine ifP_ft' ?_ | refine ifP_u' ?_ | refine optP_mk0 ?_))
                  refine ⟨h, hs.trans hs6, kb hK ?_ (by omega)⟩
                  rw [all_not]
                  rcases hlen with hlen | hlen
                  · rw [hfst, decide_eq_true hlen.1, decide_eq_true hlen.2]; rfl
                  · cases ha : S.all (stateOk S n C.length) with
                    | false => simp
                    | true => have := hall ha; omega
              exact hend _ _ e1 (by omega)
          refine gtr_s (fun u4 => ?_) (fun u4 => ?_)
          · (repeat (first | refine bindP_mk (by simp (disch := first | omega | exact Int.natCast_nonneg _ | assumption) only [BB, B2, ↓reduceIte, Nat.reduceLeDiff, Nat.reduceAdd, CC] <;> rfl) ?_ | refine newP_mk ?_ | refine optP_mk ?_ | with_reducible first | refine condP_t ?_ | refine condP_f ?_ | refine ifP_tt' ?_ | refine ifP_ff' ?_ | refine ifP_tf' ?_ | refine ifP_ft' ?_ | refine ifP_u' ?_ | refine optP_mk0 ?_))
            have := wr_sum' u4
            refine hno _ ?_ (by omega)
            rw [hfst]
            rcases this with h | h
            · rw [decide_eq_false h]; simp
            · rw [decide_eq_false h]; simp
          · (repeat (first | refine bindP_mk (by simp (disch := first | omega | exact Int.natCast_nonneg _ | assumption) only [BB, B2, ↓reduceIte, Nat.reduceLeDiff, Nat.reduceAdd, CC, g1, hcg, lc] <;> rfl) ?_ | refine newP_mk ?_ | refine optP_mk ?_ | with_reducible first | refine condP_t ?_ | refine condP_f ?_ | refine ifP_tt' ?_ | refine ifP_ff' ?_ | refine ifP_tf' ?_ | refine ifP_ft' ?_ | refine ifP_u' ?_ | refine optP_mk0 ?_))
            exact hrest (by rcases wr_sum u4 with h | h <;> omega) _ _ rfl rfl rfl rfl rfl (by omega)
end V
end Go.Proofs.Ytmmdcdjkmakgpaa
set_option linter.unusedVariables false
set_option linter.unusedSimpArgs false
namespace Go.Proofs.Ytmmdcdjkmakgpaa
namespace V
open PA
theorem rz_upper : ∀ {l : List Int} {a m m' : Int}, m ≤ m' → rz a m l = true → rz a m' l = true
  | [], _, _, _, _, _ => rfl
  | x :: r, a, m, m', hm, h => by
    simp only [rz, Bool.and_eq_true, decide_eq_true_eq] at h ⊢
    exact ⟨h.1, by omega, rz_upper hm h.2.2⟩
theorem digs_mem {g : GlD} : ∀ {l : List Int} {c : Int} {d : Int × Int}, d ∈ digs g l c → d.1 ∈ l ∧ (d.2 ≠ -1 → ctd g d.1 = true)
  | [], c, d, hd => by cases hd
  | p :: r, c, d, hd => by
    rw [digs_cons] at hd
    split at hd
    · rename_i hc
      rcases List.mem_cons.1 hd with rfl | hd
      · exact ⟨by simp, fun _ => hc⟩
      · obtain ⟨h1, h2⟩ := digs_mem hd
        exact ⟨by simp [h1], h2⟩
    · rcases List.mem_cons.1 hd with rfl | hd
      · exact ⟨by simp, fun h => absurd rfl h⟩
      · obtain ⟨h1, h2⟩ := digs_mem hd
        exact ⟨by simp [h1], h2⟩
theorem at_mem {g : GlD} {q : Int} (h0 : 0 ≤ q) (h1 : q < g.p.length) : g.at q ∈ g.p ∧ g.p[q.toNat]? = some (g.at q) := by
  have hl : q.toNat < g.p.length := by omega
  have : g.at q = g.p[q.toNat] := by
    unfold GlD.at
    rw [List.getD_eq_getElem?_getD, List.getElem?_eq_getElem hl]; rfl
  rw [this]
  exact ⟨List.getElem_mem hl, List.getElem?_eq_getElem hl⟩
theorem num_lt {g : GlD} {p q : Int} (hp : 0 ≤ p) (hpq : p < q) (hc : ctd g p = true) (hq : q ≤ g.p.length) : numZ g p < numZ g q := by
  unfold numZ
  have hl : p.toNat < g.p.length := by omega
  have hat := (at_mem (g := g) (q := p) hp (by omega)).2
  have h1 : g.p.take (p.toNat + 1) = g.p.take p.toNat ++ [g.at p] := by
    rw [List.take_succ_eq_append_getElem hl]
    have := List.getElem?_eq_getElem hl
    rw [hat] at this
    rw [Option.some.inj this]
  have h2 : ((g.p.take (p.toNat + 1)).filter ctdP).length = ((g.p.take p.toNat).filter ctdP).length + 1 := by
    rw [h1, List.filter_append, List.length_append, List.filter_cons_of_pos (show ctdP (g.at p) = true from hc)]; rfl
  have h3 : ((g.p.take (p.toNat + 1)).filter ctdP).length ≤ ((g.p.take q.toNat).filter ctdP).length := by
    have e : g.p.take (p.toNat + 1) = (g.p.take q.toNat).take (p.toNat + 1) := by rw [List.take_take, Nat.min_eq_left (by omega)]
    rw [e]
    exact ((List.take_sublist _ _).filter _).length_le
  omega
theorem num_cnts {g : GlD} {q : Int} (h0 : 0 ≤ q) (h1 : q < g.p.length) (hc : ctd g q = true) : numZ g q < ((cntsL g.p).length : Nat) ∧ 0 ≤ numZ g q := by
  have := num_lt h0 (show q < (g.p.length : Int) from h1) hc (Int.le_refl _)
  have e : numZ g (g.p.length : Int) = ((cntsL g.p).length : Nat) := by rw [numZ_cnts, List.take_length]
  refine ⟨by omega, ?_⟩
  unfold numZ; omega
theorem regs_rz {g : GlD} : ∀ {l : List Int} {a b : Int}, rz a g.p.length l = true → -1 ≤ a → (∀ q ∈ l, ctd g q = true → b < numZ g q) → rz b ((cntsL g.p).length : Nat) (regsZ g l) = true
  | [], a, b, _, _, _ => rfl
  | x :: r, a, b, h, ha, hb => by
    simp only [rz, Bool.and_eq_true, decide_eq_true_eq] at h
    unfold regsZ
    cases hc : ctd g x with
    | false =>
      rw [List.filter_cons_of_neg (by simp [hc])]
      exact regs_rz h.2.2 (by omega) fun q hq hcq => hb q (by simp [hq]) hcq
    | true =>
      rw [List.filter_cons_of_pos hc, List.map_cons]
      have h1 := hb x (by simp) hc
      have h2 := num_cnts (by omega) h.2.1 hc
      simp only [rz, Bool.and_eq_true, decide_eq_true_eq]
      refine ⟨h1, h2.1, regs_rz h.2.2 (by omega) fun q hq hcq => ?_⟩
      have := rz_mem h.2.2 q hq
      exact num_lt (by omega) this.1 hc (by omega)
theorem ruleZ_range {g : GlD} : ∀ {D : List (Int × Int)} {b : Int}, (∀ d ∈ D, 0 ≤ (g.at d.1).rule ∧ (g.at d.1).rule < 512) → -1 ≤ b ∧ b < 512 → -1 ≤ ruleZ g b D ∧ ruleZ g b D < 512
  | [], b, _, hb => hb
  | d :: r, b, h, hb => by
    rw [ruleZ_cons]
    refine ruleZ_range (fun d' hd' => h d' (by simp [hd'])) ?_
    have := h d (by simp)
    split <;> omega
theorem opsOk_maps {α : Type} {R : List Int} (f : α → Nat) (k : α → Int) : ∀ {L : List α}, (∀ q ∈ L, opOk R (f q) (k q) = true) → opsOk R (L.map f) (L.map k) = true
  | [], _ => rfl
  | q :: L, h => by
    rw [List.map_cons, List.map_cons, opsOk_cons, h q (by simp), Bool.true_and]
    exact opsOk_maps f k fun x hx => h x (by simp [hx])
theorem rowsOk_of {S : List StateD} {R : List Int} {many : Int} : ∀ {rus : List Int} {rows : List (List MoveD)}, (∀ (q : Nat) ru row, rus[q]? = some ru → rows[q]? = some row → rowOk S R many ru row = true) → rowsOk S R many rus rows = true
  | [], rows, _ => by cases rows <;> rfl
  | ru :: rus, [], _ => rfl
  | ru :: rus, row :: rows, h => by
    rw [rowsOk_cons, h 0 ru row rfl rfl, Bool.true_and]
    exact rowsOk_of fun q r w h1 h2 => h (q + 1) r w (by simpa using h1) (by simpa using h2)
theorem codes_pos {m : Nat} (h : m ≤ 3) : codesD (m : Int) ≠ 0 ∧ 0 ≤ codesD (m : Int) := by
  have : m = 0 ∨ m = 1 ∨ m = 2 ∨ m = 3 := by omega
  rcases this with rfl | rfl | rfl | rfl <;> exact ⟨by decide, by decide⟩
theorem mv_ok {g : GlD} {S : List StateD} (hb : Base g S) {i : Nat} {s : StateD} (hs : S[i]? = some s) {c : Int} {b : Nat} {m : MoveD} (hm : MvOk g (entersZ g i (digs g s.l c)) (staysZ (digs g s.l c)) b S m) : moveOk S s.r m = true := by
  unfold moveOk
  rcases hm with ⟨h1, h2, h3⟩ | ⟨h1, k, t, h2, h3, h4, h5⟩
  · rw [if_pos h2, h3]; rfl
  · rw [if_neg (by omega)]
    have hk0 : k ≠ 0 := by
      rintro rfl
      obtain ⟨z, z1, z2⟩ := hb.zero
      rw [z1] at h3; cases h3
      exact h1 (by rw [← h4]; exact z2)
    have hkl := (List.getElem?_eq_some_iff.1 h3).1
    have hgd : S.getD m.to.toNat noS = t := by rw [h2, Int.toNat_natCast, List.getD_eq_getElem?_getD, h3]; rfl
    obtain ⟨t1, t2, t3⟩ := hb.ok t (List.mem_of_getElem? h3)
    rw [hgd, t2, h4, h5, h2, decide_eq_true (by omega), decide_eq_true (by omega), Bool.true_and, Bool.true_and]
    have hlen : (opsZ g (entersZ g i (digs g s.l c)) (staysZ (digs g s.l c)) (lZ g (entersZ g i (digs g s.l c)) (staysZ (digs g s.l c)) b)).length = (regsZ g (lZ g (entersZ g i (digs g s.l c)) (staysZ (digs g s.l c)) b)).length := by
      unfold opsZ regsZ
      rw [List.length_map, List.length_map]
    rw [decide_eq_true hlen, Bool.true_and]
    unfold opsZ regsZ
    refine opsOk_maps _ _ fun q hq => ?_
    obtain ⟨hq1, hq2⟩ := List.mem_filter.1 hq
    unfold opOk opZ
    cases hst : staysZ (digs g s.l c) q with
    | false => rfl
    | true =>
      have hR : s.r.contains (numZ g q) = true := by
        unfold staysZ at hst
        obtain ⟨d, hd, he⟩ := List.any_eq_true.1 hst
        simp only [Bool.and_eq_true, decide_eq_true_eq] at he
        have hdl := (digs_mem hd).1
        rw [he.1] at hdl
        rw [(hb.ok s (List.mem_of_getElem? hs)).2.1]
        unfold regsZ
        simp only [List.contains_eq_mem, decide_eq_true_eq, List.mem_map, List.mem_filter]
        exact ⟨q, ⟨hdl, hq2⟩, rfl⟩
      rw [hR]
      cases entersZ g i (digs g s.l c) q <;> rfl
theorem right_of {g : GlD} (h0 : (ofZ g).1 = 0) : autoOk (ofZ g).2 = true := by
  obtain ⟨hr, S, hS, hm, _⟩ := ofZ_ok h0
  obtain ⟨hgl, hfr, hmay⟩ := right_parts hr
  rw [hS]
  unfold autoOk ofD
  dsimp only
  obtain ⟨z, z1, z2⟩ := hm.base.zero
  have hz0 := (List.getElem?_eq_some_iff.1 z1).1
  have hcl := cntsL_len g.p
  have hfirst : firstOk S = true := by
    unfold firstOk
    have : S.getD 0 noS = z := by rw [List.getD_eq_getElem?_getD, z1]; rfl
    rw [this, (hm.base.ok z (List.mem_of_getElem? z1)).2.1, z2]; rfl
  have hcnt : (cntsL g.p).all countOk = true := by
    rw [List.all_eq_true]
    intro p hp
    unfold cntsL at hp
    obtain ⟨x, hx, rfl⟩ := List.mem_map.1 hp
    obtain ⟨hx1, hx2⟩ := List.mem_filter.1 hx
    have hx2 : 1 < x.hi := of_decide_eq_true hx2
    obtain ⟨m1, m2, m3, _⟩ := may_parts (hmay x hx1)
    unfold countOk
    simp only [Bool.and_eq_true, decide_eq_true_eq]
    exact ⟨m1, m2, by omega, m3⟩
  have hst : S.all (stateOk S (many (setsL g.p) : Int) (cntsL g.p).length) = true := by
    rw [List.all_eq_true]
    intro s hs
    obtain ⟨i, hi⟩ := List.mem_iff_getElem?.1 hs
    obtain ⟨o1, o2, o3⟩ := hm.base.ok s hs
    obtain ⟨c1, c2⟩ := hm.codes hi
    obtain ⟨p1, p2⟩ := codes_pos o3
    unfold stateOk
    simp only [Bool.and_eq_true, decide_eq_true_eq]
    refine ⟨p1, by omega, by omega, rz_upper (by omega) o1, ?_, rowsOk_of fun q ru row h1 h2 => ?_⟩
    · rw [o2]
      refine regs_rz o1 (Int.le_refl _) fun q hq hc => ?_
      unfold numZ; omega
    · have hru := hm.rule i s q ru hi h1
      obtain ⟨n1, n2⟩ := hm.next i s q row hi h2
      have hrg := ruleZ_range (g := g) (D := digs g s.l q) (b := -1) (fun d hd => by
        have := rz_mem o1 _ (digs_mem hd).1
        obtain ⟨_, _, _, m4, m5, _⟩ := may_parts (hmay _ (at_mem (by omega) this.2).1)
        exact ⟨m4, m5⟩) ⟨by omega, by omega⟩
      unfold rowOk
      simp only [Bool.and_eq_true, decide_eq_true_eq, List.all_eq_true]
      refine ⟨by omega, by omega, by rw [n1, ofB_many], fun m hmr => ?_⟩
      obtain ⟨j, hj⟩ := List.mem_iff_getElem?.1 hmr
      have hjl := (List.getElem?_eq_some_iff.1 hj).1
      exact mv_ok hm.base hi (n2 j _ m (List.getElem?_eq_getElem (by omega)) hj)
  rw [right_cls, decide_eq_true (show (cntsL g.p).length ≤ 512 by omega), decide_eq_true (show 1 ≤ S.length by omega), decide_eq_true hm.base.few, hfirst, hcnt, hst]
  rfl
end V
end Go.Proofs.Ytmmdcdjkmakgpaa
set_option linter.unusedVariables false
set_option linter.unusedSimpArgs false
namespace Go.Proofs.Ytmmdcdjkmakgpaa
namespace V
open PA
def oneG (m : Nat) (lo hi : Int) : GlD := ⟨[0], [⟨m, lo, hi, 0, true, []⟩]⟩
section
variable {g : GlD}
theorem lZ_one (hp : g.p.length = 1) (en st : Int → Bool) (b : Nat) : lZ g en st b = [] ∨ lZ g en st b = [0] := by
  unfold lZ
  rw [hp]
  have : placesZ 1 = [0] := rfl
  rw [this]
  cases h : takesZ g en st b 0 with
  | true => right; rw [List.filter_cons_of_pos h]; rfl
  | false => left; rw [List.filter_cons_of_neg (by rw [h]; decide)]; rfl
theorem two_states (hp : g.p.length = 1) {S : List StateD} (hb : Base g S) : (∀ s ∈ S, s.l = [] ∨ s.l = [0]) → S.length ≤ 2 := by
  intro h
  rcases Nat.lt_or_ge 2 S.length with h3 | h3
  · exfalso
    have h1 : S[1]? = some S[1] := List.getElem?_eq_getElem _
    have h2 : S[2]? = some S[2] := List.getElem?_eq_getElem _
    have p1 := hb.pos 1 _ (by omega) h1
    have p2 := hb.pos 2 _ (by omega) h2
    have q1 := (h _ (List.mem_of_getElem? h1)).resolve_left p1
    have q2 := (h _ (List.mem_of_getElem? h2)).resolve_left p2
    have := hb.dist 1 2 _ _ h1 h2 (by rw [q1, q2])
    omega
  · exact h3
theorem rz_one {l : List Int} (h : rz (-1) 1 l = true) : l = [] ∨ l = [0] := by
  cases l with
  | nil => exact .inl rfl
  | cons x r =>
    simp only [rz, Bool.and_eq_true, decide_eq_true_eq] at h
    obtain ⟨h1, h2, h3⟩ := h
    have hx : x = 0 := by omega
    subst hx
    cases r with
    | nil => exact .inr rfl
    | cons y r =>
      simp only [rz, Bool.and_eq_true, decide_eq_true_eq] at h3
      omega
theorem base_two (hp : g.p.length = 1) {S : List StateD} (hb : Base g S) : S.length ≤ 2 := two_states hp hb fun s hs => by
  have := (hb.ok s hs).1
  rw [hp] at this
  exact rz_one this
theorem goes_noerr (hp : g.p.length = 1) {en st : Int → Bool} {b : Nat} {S : List StateD} (hb : Base g S) : (goesZ g en st b S).2.1 = 0 := by
  by_cases h : lZ g en st b = []
  · rw [goesZ_nil h]
  · rw [goesZ_ne h]
    have hl := (lZ_one hp en st b).resolve_left h
    show (findZ g S (lZ g en st b)).2.1 = 0
    rw [hl]
    unfold findZ
    have h2 := base_two hp hb
    have h3 : (regsZ g [0]).length ≤ 1 := by
      unfold regsZ
      rw [List.length_map]
      exact List.length_filter_le _ _
    split
    · rfl
    · rw [if_neg (by omega), if_neg (by omega)]
theorem row_noerr (hp : g.p.length = 1) {en st : Int → Bool} : ∀ {B : List Nat} {S : List StateD}, Base g S → (rowZ g en st B S).1 = 0
  | [], S, _ => rfl
  | b :: r, S, hb => by
    have h1 := goes_noerr hp (en := en) (st := st) (b := b) hb
    rw [rowZ_cons, if_pos h1]
    exact row_noerr hp (goesZ_spec hb h1).1
theorem code_noerr (hp : g.p.length = 1) {B : List Nat} {k : Nat} {c : Int} {S : List StateD} (hb : Base g S) : (codeZ g B k c S).1 = 0 := by
  unfold codeZ
  dsimp only
  rw [if_pos (row_noerr hp hb)]
theorem codes_noerr (hp : g.p.length = 1) {B : List Nat} {k : Nat} : ∀ {n c : Nat} {S : List StateD}, Made g B S k c → k < S.length → (codesZ g B k n (c : Int) S).1 = 0
  | 0, c, S, _, _ => rfl
  | n + 1, c, S, hm, hk => by
    have h1 := code_noerr hp (B := B) (k := k) (c := (c : Int)) hm.base
    rw [codesZ_succ, if_pos h1]
    obtain ⟨c1, c2⟩ := codeZ_spec hm hk h1
    exact codes_noerr hp (n := n) (c := c + 1) c1 (by have := c2.len; omega)
theorem all_noerr (hp : g.p.length = 1) {B : List Nat} : ∀ {n k : Nat} {S : List StateD}, Made g B S k 0 → k ≤ S.length → (allZ g B n k S).1 = 0
  | 0, k, S, _, _ => rfl
  | n + 1, k, S, hm, hk => by
    rw [allZ_succ]
    by_cases h1 : k < S.length
    · rw [if_pos h1]
      obtain ⟨s, hs⟩ : ∃ s, S[k]? = some s := ⟨_, List.getElem?_eq_getElem h1⟩
      have hgd : S.getD k noS = s := by rw [List.getD_eq_getElem?_getD, hs]; rfl
      rw [hgd]
      have h2 : (codesZ g B k (codesD (s.r.length : Int)).toNat 0 S).1 = 0 := codes_noerr hp (c := 0) hm h1
      rw [if_pos h2]
      obtain ⟨c1, c2⟩ := codesZ_spec (c := 0) hm h1 h2
      have hz : ((0 : Nat) : Int) = 0 := rfl
      rw [hz, Nat.zero_add] at c1
      rw [hz] at c2
      obtain ⟨s', h3, h4⟩ := c2 k s hs
      have hr : s'.r = s.r := by
        rw [(hm.base.ok s (List.mem_of_getElem? hs)).2.1, (c1.base.ok s' (List.mem_of_getElem? h3)).2.1, h4]
      have c3 := Made.next' h3 (by rw [hr]; exact c1)
      exact all_noerr hp (n := n) c3 (by have := (List.getElem?_eq_some_iff.1 h3).1; omega)
    · rw [if_neg h1]
end
theorem one_of {m : Nat} {lo hi : Int} (hm0 : m ≠ 0) (hm : m < 2 ^ 256) (h1 : 1 ≤ lo) (h2 : lo ≤ hi) (h3 : 2 ≤ hi) (h4 : hi ≤ 4096) : ∃ S s, ofZ (oneG m lo hi) = (0, ofD (oneG m lo hi) S) ∧ S.length = 2 ∧ S[1]? = some s ∧ s.r.length = 1 ∧ s.next.length = 3 ∧ cntsL (oneG m lo hi).p = [(lo, hi)] := by
  have hr : rightD (oneG m lo hi) = true := by
    unfold rightD oneG
    simp only [List.length_cons, List.length_nil, List.all_cons, List.all_nil, Bool.and_true, Bool.and_eq_true, decide_eq_true_eq]
    refine ⟨by omega, rfl, ?_⟩
    unfold mayD
    simp only [Bool.and_eq_true, decide_eq_true_eq]
    exact ⟨hm0, h1, h2, h4, by omega, by omega, rfl⟩
  have hp : (oneG m lo hi).p.length = 1 := rfl
  have hz : (allZ (oneG m lo hi) (ofB (oneG m lo hi)) 256 0 [noS]).1 = 0 := all_noerr hp (made0 _ _) (Nat.zero_le _)
  have hmk := all_made hz
  have hoz : ofZ (oneG m lo hi) = (0, ofD (oneG m lo hi) (allZ (oneG m lo hi) (ofB (oneG m lo hi)) 256 0 [noS]).2) := by
    unfold ofZ
    rw [if_pos hr, if_pos hz]
  generalize (allZ (oneG m lo hi) (ofB (oneG m lo hi)) 256 0 [noS]).2 = S at hmk hoz
  have hle := base_two hp hmk.base
  -- a byte of the set
  obtain ⟨b, hb, hbit⟩ : ∃ b, b < 256 ∧ m.testBit b = true := by
    rcases Nat.eq_zero_or_pos m with h | h
    · exact absurd h hm0
    · obtain ⟨b, hb⟩ := Nat.exists_testBit_of_ne_zero hm0
      refine ⟨b, ?_, hb⟩
      rcases Nat.lt_or_ge b 256 with h5 | h5
      · exact h5
      · rw [Nat.testBit_lt_two_pow (Nat.lt_of_lt_of_le hm (Nat.pow_le_pow_right (by decide) h5))] at hb; cases hb
  obtain ⟨k, b', hk, hkm, hB, hb', hlz⟩ := class_byte (oneG m lo hi) hb
  obtain ⟨z, z1, z2⟩ := hmk.base.zero
  obtain ⟨c1, c2⟩ := hmk.codes z1
  have hzr : z.r = [] := by rw [(hmk.base.ok z (List.mem_of_getElem? z1)).2.1, z2]; rfl
  rw [hzr] at c2
  have c2 : z.next.length = 1 := c2
  obtain ⟨row, hrow⟩ : ∃ row, z.next[0]? = some row := ⟨_, List.getElem?_eq_getElem (by omega)⟩
  obtain ⟨n1, n2⟩ := hmk.next 0 z 0 row z1 hrow
  obtain ⟨mv, hmv⟩ : ∃ mv, row[k]? = some mv := ⟨_, List.getElem?_eq_getElem (by rw [n1, ofB_many]; exact hkm)⟩
  have hok := n2 k b' mv hB hmv
  have hne : lZ (oneG m lo hi) (entersZ (oneG m lo hi) 0 (digs (oneG m lo hi) z.l (0 : Nat))) (staysZ (digs (oneG m lo hi) z.l (0 : Nat))) b' ≠ [] := by
    rw [hlz, z2]
    intro he
    have hin : (0 : Int) ∈ lZ (oneG m lo hi) (entersZ (oneG m lo hi) 0 (digs (oneG m lo hi) [] (0 : Nat))) (staysZ (digs (oneG m lo hi) [] (0 : Nat))) b := by
      unfold lZ
      rw [List.mem_filter]
      refine ⟨by show (0 : Int) ∈ placesZ 1; decide, ?_⟩
      unfold takesZ
      have e1 : ((oneG m lo hi).at 0).s.testBit b = true := hbit
      have e2 : entersZ (oneG m lo hi) 0 (digs (oneG m lo hi) [] (0 : Nat)) 0 = true := rfl
      rw [e1, e2]; rfl
    rw [he] at hin; cases hin
  have h2s : S.length = 2 := by
    rcases hok with ⟨g1, _⟩ | ⟨_, kk, t, g2, g3, g4, g5⟩
    · exact absurd g1 hne
    · have hk0 : kk ≠ 0 := by
        rintro rfl
        rw [z1] at g3; cases g3
        exact hne (by rw [← g4]; exact z2)
      have := (List.getElem?_eq_some_iff.1 g3).1
      omega
  obtain ⟨s, hs⟩ : ∃ s, S[1]? = some s := ⟨_, List.getElem?_eq_getElem (by omega)⟩
  have hsl : s.l = [0] := by
    have h5 := (hmk.base.ok s (List.mem_of_getElem? hs)).1
    rw [hp] at h5
    exact (rz_one h5).resolve_left (hmk.base.pos 1 s (by omega) hs)
  have hc0 : ctd (oneG m lo hi) 0 = true := by
    show decide (1 < hi) = true
    exact decide_eq_true (by omega)
  have hsr : s.r.length = 1 := by
    rw [(hmk.base.ok s (List.mem_of_getElem? hs)).2.1, hsl]
    unfold regsZ
    rw [List.filter_cons_of_pos hc0]; rfl
  obtain ⟨d1, d2⟩ := hmk.codes hs
  rw [hsr] at d2
  refine ⟨S, s, hoz, h2s, hs, hsr, d2, ?_⟩
  unfold cntsL oneG
  rw [List.filter_cons_of_pos (by unfold ctdP; exact decide_eq_true (show 1 < hi by omega))]; rfl
end V
end Go.Proofs.Ytmmdcdjkmakgpaa
set_option linter.unusedVariables false
set_option linter.unusedSimpArgs false
namespace Go.Proofs.Ytmmdcdjkmakgpaa
namespace V
open PA
attribute [local irreducible] bindP ifP condP newP optP exP beqP
theorem plain_cnt : plainTy Try.prog 20 y_a2_int = some [1, 1] := by kernel_rfl
end V
end Go.Proofs.Ytmmdcdjkmakgpaa
set_option linter.unusedVariables false
set_option linter.unusedSimpArgs false
namespace Go.Proofs.Ytmmdcdjkmakgpaa
namespace V
attribute [local irreducible] callPre callP bindP
end V
end Go.Proofs.Ytmmdcdjkmakgpaa
set_option linter.unusedVariables false
set_option linter.unusedSimpArgs false
namespace Go.Proofs.Ytmmdcdjkmakgpaa
namespace V
open PA
structure Alike1 (p q : PosD) : Prop where
  s : p.s = q.s
  rule : p.rule = q.rule
  last : p.last = q.last
  next : p.next = q.next
  ct : ctdP p = ctdP q
structure AlikeG (x y : GlD) : Prop where
  first : x.first = y.first
  len : x.p.length = y.p.length
  each : ∀ (i : Nat) p q, x.p[i]? = some p → y.p[i]? = some q → Alike1 p q
section
variable {x y : GlD}
theorem AlikeG.at (h : AlikeG x y) (q : Int) : Alike1 (x.at q) (y.at q) := by
  unfold GlD.at
  rw [List.getD_eq_getElem?_getD, List.getD_eq_getElem?_getD]
  cases hx : x.p[q.toNat]? with
  | none =>
    have : y.p[q.toNat]? = none := by rw [List.getElem?_eq_none_iff] at hx ⊢; have := h.len; omega
    rw [this]; exact ⟨rfl, rfl, rfl, rfl, rfl⟩
  | some p =>
    have hl := (List.getElem?_eq_some_iff.1 hx).1
    have hy : y.p[q.toNat]? = some (y.p[q.toNat]'(by have := h.len; omega)) := List.getElem?_eq_getElem _
    rw [hy]; exact h.each _ _ _ hx hy
theorem AlikeG.ctd (h : AlikeG x y) : ctd x = ctd y := funext fun q => (h.at q).ct
theorem filter_len : ∀ {a b : List PosD}, a.length = b.length → (∀ (i : Nat) p q, a[i]? = some p → b[i]? = some q → Alike1 p q) → (a.filter ctdP).length = (b.filter ctdP).length
  | [], [], _, _ => rfl
  | p :: a, q :: b, hl, he => by
    have h0 := (he 0 p q rfl rfl).ct
    have ih := filter_len (a := a) (b := b) (by simpa using hl) fun i p q hp hq => he (i + 1) p q (by simpa using hp) (by simpa using hq)
    cases hc : ctdP q with
    | true => rw [List.filter_cons_of_pos (h0.trans hc), List.filter_cons_of_pos hc, List.length_cons, List.length_cons, ih]
    | false => rw [List.filter_cons_of_neg (by rw [h0, hc]; decide), List.filter_cons_of_neg (by rw [hc]; decide), ih]
  | [], q :: b, hl, _ => by simp at hl
  | p :: a, [], hl, _ => by simp at hl
theorem AlikeG.num (h : AlikeG x y) : numZ x = numZ y := funext fun q => by
  unfold numZ
  rw [filter_len (a := x.p.take q.toNat) (b := y.p.take q.toNat) (by rw [List.length_take, List.length_take, h.len]) fun i p r hp hr => by
    rw [List.getElem?_take] at hp hr
    split at hp
    · rename_i hi
      rw [if_pos hi] at hr
      exact h.each i p r hp hr
    · cases hp]
theorem AlikeG.regs (h : AlikeG x y) : regsZ x = regsZ y := funext fun l => by unfold regsZ; rw [h.ctd, h.num]
theorem AlikeG.digs (h : AlikeG x y) : ∀ (l : List Int) (c : Int), digs x l c = digs y l c
  | [], c => rfl
  | p :: r, c => by rw [digs_cons, digs_cons, h.ctd, h.digs r (c / 3), h.digs r c]
theorem AlikeG.enters (h : AlikeG x y) (k : Nat) (D : List (Int × Int)) : entersZ x k D = entersZ y k D := funext fun q => by
  unfold entersZ
  rw [h.first]
  congr 2
  funext d
  rw [(h.at d.1).next]
theorem AlikeG.rule (h : AlikeG x y) : ∀ (D : List (Int × Int)) (b : Int), ruleZ x b D = ruleZ y b D
  | [], b => rfl
  | d :: r, b => by rw [ruleZ_cons, ruleZ_cons, (h.at d.1).last, (h.at d.1).rule, h.rule r]
theorem AlikeG.lz (h : AlikeG x y) (en st : Int → Bool) (b : Nat) : lZ x en st b = lZ y en st b := by
  unfold lZ
  rw [h.len]
  congr 1
  funext q
  unfold takesZ
  rw [(h.at q).s]
theorem AlikeG.ops (h : AlikeG x y) (en st : Int → Bool) (l : List Int) : opsZ x en st l = opsZ y en st l := by unfold opsZ; rw [h.ctd]
theorem AlikeG.find (h : AlikeG x y) (S : List StateD) (l : List Int) : findZ x S l = findZ y S l := by unfold findZ; rw [h.regs]
theorem AlikeG.goes (h : AlikeG x y) (en st : Int → Bool) (b : Nat) (S : List StateD) : goesZ x en st b S = goesZ y en st b S := by
  by_cases hl : lZ y en st b = []
  · rw [goesZ_nil hl, goesZ_nil (by rw [h.lz]; exact hl)]
  · rw [goesZ_ne hl, goesZ_ne (by rw [h.lz]; exact hl), h.lz, h.find, h.ops]
theorem AlikeG.row (h : AlikeG x y) (en st : Int → Bool) : ∀ (B : List Nat) (S : List StateD), rowZ x en st B S = rowZ y en st B S
  | [], S => rfl
  | b :: r, S => by rw [rowZ_cons, rowZ_cons, h.goes, h.row en st r]
theorem AlikeG.code (h : AlikeG x y) (B : List Nat) (k : Nat) (c : Int) (S : List StateD) : codeZ x B k c S = codeZ y B k c S := by
  unfold codeZ
  dsimp only
  rw [h.digs, h.enters, h.row, h.rule]
theorem AlikeG.codes (h : AlikeG x y) (B : List Nat) (k : Nat) : ∀ (n : Nat) (c : Int) (S : List StateD), codesZ x B k n c S = codesZ y B k n c S
  | 0, c, S => rfl
  | n + 1, c, S => by rw [codesZ_succ, codesZ_succ, h.code, h.codes B k n]
theorem AlikeG.all (h : AlikeG x y) (B : List Nat) : ∀ (n k : Nat) (S : List StateD), allZ x B n k S = allZ y B n k S
  | 0, k, S => rfl
  | n + 1, k, S => by rw [allZ_succ, allZ_succ, h.codes, h.all B n]
theorem AlikeG.sets (h : AlikeG x y) : setsL x.p = setsL y.p := by
  unfold setsL
  apply List.ext_getElem?
  intro i
  rw [List.getElem?_map, List.getElem?_map]
  cases hx : x.p[i]? with
  | none =>
    have : y.p[i]? = none := by rw [List.getElem?_eq_none_iff] at hx ⊢; have := h.len; omega
    rw [this]
  | some p =>
    have hl := (List.getElem?_eq_some_iff.1 hx).1
    have hy : y.p[i]? = some (y.p[i]'(by have := h.len; omega)) := List.getElem?_eq_getElem _
    rw [hy]
    show some p.s = some _
    rw [(h.each _ _ _ hx hy).s]
theorem AlikeG.cnts (h : AlikeG x y) : (cntsL x.p).length = (cntsL y.p).length := by
  unfold cntsL
  rw [List.length_map, List.length_map]
  exact filter_len h.len h.each
theorem AlikeG.of (h : AlikeG x y) (hx : rightD x = true) (hy : rightD y = true) : (ofZ x).1 = (ofZ y).1 ∧ (ofZ x).2.c = (ofZ y).2.c ∧ (ofZ x).2.many = (ofZ y).2.many ∧ (ofZ x).2.states = (ofZ y).2.states ∧ (ofZ x).2.counts.length = (ofZ y).2.counts.length ∧ ((ofZ y).1 = 0 → (ofZ y).2.counts = cntsL y.p) ∧ ((ofZ y).1 ≠ 0 → (ofZ y).2.counts = []) := by
  have hB : ofB x = ofB y := by unfold ofB; rw [h.sets]
  unfold ofZ
  rw [if_pos hx, if_pos hy, hB, h.all]
  by_cases h0 : (allZ y (ofB y) 256 0 [noS]).1 = 0
  · rw [if_pos h0, if_pos h0]
    refine ⟨rfl, ?_, ?_, rfl, h.cnts, fun _ => rfl, fun h => absurd rfl h⟩
    · show cls (setsL x.p) = cls (setsL y.p); rw [h.sets]
    · show (many (setsL x.p) : Int) = many (setsL y.p); rw [h.sets]
  · rw [if_neg h0, if_neg h0]
    exact ⟨rfl, rfl, rfl, rfl, rfl, fun h => absurd h h0, fun _ => rfl⟩
end
end V
end Go.Proofs.Ytmmdcdjkmakgpaa
set_option linter.unusedVariables false
set_option linter.unusedSimpArgs false
namespace Go.Proofs.Ytmmdcdjkmakgpaa
namespace V
theorem okZ : zerosOk Try.prog = true := by kernel_rfl
theorem okN : namesOk Try.prog = true := by kernel_rfl
theorem okM : Try.prog.follows .mixedOrders = true := by kernel_rfl
set_option maxRecDepth 1000000 in
theorem shown_orc : Orc Try.prog i_law11_shown (.bool true) := orc_ev okZ okN okM (k := 200) rfl (by kernel_rfl) fun ro => by kernel_rfl
theorem shown_c {ro : Ro} {h : T Obj} {nx : Nat} {K : KV} (hK : K (.bool true) h nx) : callP Try.prog ro i_law11_shown [] h nx K := callP_orc shown_orc hK
end V
end Go.Proofs.Ytmmdcdjkmakgpaa
set_option linter.unusedVariables false
set_option linter.unusedSimpArgs false
namespace Go.Proofs.Ytmmdcdjkmakgpaa
namespace V
open PA
attribute [local irreducible] bindP ifP condP newP optP exP beqP
theorem lit_Pos (aid : Nat) (p : PosD) (nv : Value) : sliceLitV Try.prog y_s_api_Pos aid 1 [(0, .agg (posL p nv).toArray)] = some (.slice (some (own aid 9)) 1 1, some (.cells (posL p nv).toArray y_api_Pos)) := by kernel_rfl
section
variable {ro : Ro} {x : GlD} {l : List (Nat × Nat)} {av bv w : Value}
end
end V
end Go.Proofs.Ytmmdcdjkmakgpaa
set_option linter.unusedVariables false
set_option linter.unusedSimpArgs false
namespace Go.Proofs.Ytmmdcdjkmakgpaa
namespace V
attribute [local irreducible] callPre callP bindP
@[irreducible] def law11_AutoOne (ro : Ro) (v0 v1 v2 : Value) (h : T Obj) (nx : Nat) (K : KV) : Prop := newP h nx (.cells (Value.cells v2) y_api_Set) fun h1 => callP Try.prog ro i_law11_shown [] h1 (nx + 3) fun t12_2 h3 n4 => bindP (intB .rem v1 (Value.int IntKind.u16 4095)) fun t14_5 => bindP (convI .i64 t14_5) fun t15_6 => bindP (intB .add t15_6 (Value.int IntKind.i64 2)) fun t16_7 => bindP (convI .i64 v0) fun t18_8 => bindP (intB .rem t18_8 t16_7) fun t20_9 => bindP (intB .add t20_9 (Value.int IntKind.i64 1)) fun t21_10 => bindP (loadA ro h3 4 (ptr nx)) fun t22_11 => bindP (buildV Try.prog y_api_Set []) fun t23_12 => bindP (plainTy Try.prog 20 y_api_Set) fun ks13 => bindP (aggB ks13 .eql t22_11 t23_12) fun t24_14 => condP t24_14 (∃ h15, Sub h15 h3 ∧ K t12_2 h15 (n4 + 17)) (bindP (sliceLitV Try.prog y_s_int (n4 + 15) 1 [(0, (Value.int IntKind.i64 0))]) fun r16 => optP h3 (n4 + 15) r16.2 fun h17 => bindP (loadA ro h17 4 (ptr nx)) fun t28_18 => bindP (buildV Try.prog y_api_Pos [(0, t28_18), (1, t21_10), (2, t16_7), (4, (Value.bool true))]) fun t31_19 => bindP (sliceLitV Try.prog y_s_api_Pos (n4 + 20) 1 [(0, t31_19)]) fun r20 => optP h17 (n4 + 20) r20.2 fun h21 => bindP (buildV Try.prog y_api_Glush [(0, r16.1), (1, r20.1)]) fun t33_22 => callP Try.prog ro i_auto_Of [t33_22] h21 (n4 + 23) fun t34_23 h24 n25 => bindP (nth 0 t34_23) fun t35_26 => bindP (nth 1 t34_23) fun t36_27 => bindP (zer Try.prog y_api_Auto) fun z28 => newP h24 (n25 + 3) (.cells z28.cells y_api_Auto) fun h29 => bindP (storeN 259 h29 (ptr (n25 + 3)) t35_26) fun h30 => ifP t12_2 true h30 (n25 + 8) (fun k31 => k31 t36_27 h30 (n25 + 9)) fun t39_32 h33 n34 => ifP t12_2 true h33 n34 (fun k35 => bindP (intB .eql t39_32 (Value.int IntKind.i64 0)) fun t40_39 => k35 t40_39 h33 (n34 + 1)) fun t40_36 h37 n38 => bindP (pickV t12_2 t40_36 (Value.bool false)) fun t41_40 => ifP t41_40 true h37 (n38 + 2) (fun k41 => bindP (fwdP 258 (ptr (n25 + 3))) fun t43_45 => k41 t43_45 h37 (n38 + 3)) fun t43_42 h43 n44 => ifP t41_40 true h43 n44 (fun k46 => bindP (load1 ro h43 t43_42) fun t44_50 => k46 t44_50 h43 (n44 + 1)) fun t44_47 h48 n49 => ifP t41_40 true h48 n49 (fun k51 => bindP (lenSl t44_47) fun t45_55 => k51 t45_55 h48 (n49 + 1)) fun t45_52 h53 n54 => ifP t41_40 true h53 n54 (fun k56 => bindP (intB .eql t45_52 (Value.int IntKind.i64 2)) fun t46_60 => k56 t46_60 h53 (n54 + 1)) fun t46_57 h58 n59 => bindP (pickV t41_40 t46_57 (Value.bool false)) fun t47_61 => ifP t47_61 true h58 (n59 + 2) (fun k62 => bindP (fwdP 257 (ptr (n25 + 3))) fun t49_66 => k62 t49_66 h58 (n59 + 3)) fun t49_63 h64 n65 => ifP t47_61 true h64 n65 (fun k67 => bindP (load1 ro h64 t49_63) fun t50_71 => k67 t50_71 h64 (n65 + 1)) fun t50_68 h69 n70 => ifP t47_61 true h69 n70 (fun k72 => bindP (lenSl t50_68) fun t51_76 => k72 t51_76 h69 (n70 + 1)) fun t51_73 h74 n75 => ifP t47_61 true h74 n75 (fun k77 => bindP (intB .eql t51_73 (Value.int IntKind.i64 1)) fun t52_81 => k77 t52_81 h74 (n75 + 1)) fun t52_78 h79 n80 => bindP (pickV t47_61 t52_78 (Value.bool false)) fun t53_82 => ifP t53_82 true h79 (n80 + 2) (fun k83 => bindP (fwdP 257 (ptr (n25 + 3))) fun t55_87 => k83 t55_87 h79 (n80 + 3)) fun t55_84 h85 n86 => ifP t53_82 true h85 n86 (fun k88 => bindP (load1 ro h85 t55_84) fun t56_92 => k88 t56_92 h85 (n86 + 1)) fun t56_89 h90 n91 => ifP t53_82 true h90 n91 (fun k93 => bindP (ixSl 2 t56_89 (Value.int IntKind.i64 0)) fun t57_97 => k93 t57_97 h90 (n91 + 1)) fun t57_94 h95 n96 => ifP t53_82 true h95 n96 (fun k98 => bindP (loadA ro h95 2 t57_94) fun t58_102 => k98 t58_102 h95 (n96 + 1)) fun t58_99 h100 n101 => ifP t53_82 true h100 n101 (fun k103 => k103 t21_10 h100 (n101 + 1)) fun t59_104 h105 n106 => ifP t53_82 true h105 n106 (fun k107 => k107 t16_7 h105 (n106 + 1)) fun t60_108 h109 n110 => ifP t53_82 true h109 n110 (fun k111 => bindP (buildV Try.prog y_a2_int [(0, t59_104), (1, t60_108)]) fun t61_115 => k111 t61_115 h109 (n110 + 1)) fun t61_112 h113 n114 => ifP t53_82 true h113 n114 (fun k116 => bindP (plainTy Try.prog 20 y_a2_int) fun ks120 => bindP (aggB ks120 .eql t58_99 t61_112) fun t62_121 => k116 t62_121 h113 (n114 + 1)) fun t62_117 h118 n119 => bindP (pickV t53_82 t62_117 (Value.bool false)) fun t63_122 => ifP t63_122 true h118 (n119 + 2) (fun k123 => bindP (fwdP 258 (ptr (n25 + 3))) fun t65_127 => k123 t65_127 h118 (n119 + 3)) fun t65_124 h125 n126 => ifP t63_122 true h125 n126 (fun k128 => bindP (load1 ro h125 t65_124) fun t66_132 => k128 t66_132 h125 (n126 + 1)) fun t66_129 h130 n131 => ifP t63_122 true h130 n131 (fun k133 => bindP (ixSl 4 t66_129 (Value.int IntKind.i64 1)) fun t67_137 => k133 t67_137 h130 (n131 + 1)) fun t67_134 h135 n136 => ifP t63_122 true h135 n136 (fun k138 => bindP (fwdP 1 t67_134) fun t68_142 => k138 t68_142 h135 (n136 + 1)) fun t68_139 h140 n141 => ifP t63_122 true h140 n141 (fun k143 => bindP (load1 ro h140 t68_139) fun t69_147 => k143 t69_147 h140 (n141 + 1)) fun t69_144 h145 n146 => ifP t63_122 true h145 n146 (fun k148 => bindP (lenSl t69_144) fun t70_152 => k148 t70_152 h145 (n146 + 1)) fun t70_149 h150 n151 => ifP t63_122 true h150 n151 (fun k153 => bindP (intB .eql t70_149 (Value.int IntKind.i64 1)) fun t71_157 => k153 t71_157 h150 (n151 + 1)) fun t71_154 h155 n156 => bindP (pickV t63_122 t71_154 (Value.bool false)) fun t72_158 => ifP t72_158 true h155 (n156 + 2) (fun k159 => bindP (fwdP 258 (ptr (n25 + 3))) fun t74_163 => k159 t74_163 h155 (n156 + 3)) fun t74_160 h161 n162 => ifP t72_158 true h161 n162 (fun k164 => bindP (load1 ro h161 t74_160) fun t75_168 => k164 t75_168 h161 (n162 + 1)) fun t75_165 h166 n167 => ifP t72_158 true h166 n167 (fun k169 => bindP (ixSl 4 t75_165 (Value.int IntKind.i64 1)) fun t76_173 => k169 t76_173 h166 (n167 + 1)) fun t76_170 h171 n172 => ifP t72_158 true h171 n172 (fun k174 => bindP (fwdP 3 t76_170) fun t77_178 => k174 t77_178 h171 (n172 + 1)) fun t77_175 h176 n177 => ifP t72_158 true h176 n177 (fun k179 => bindP (load1 ro h176 t77_175) fun t78_183 => k179 t78_183 h176 (n177 + 1)) fun t78_180 h181 n182 => ifP t72_158 true h181 n182 (fun k184 => bindP (lenSl t78_180) fun t79_188 => k184 t79_188 h181 (n182 + 1)) fun t79_185 h186 n187 => ifP t72_158 true h186 n187 (fun k189 => bindP (intB .eql t79_185 (Value.int IntKind.i64 3)) fun t80_193 => k189 t80_193 h186 (n187 + 1)) fun t80_190 h191 n192 => bindP (pickV t72_158 t80_190 (Value.bool false)) fun t81_194 => ifP t81_194 true h191 (n192 + 2) (fun k195 => bindP (loadA ro h191 259 (ptr (n25 + 3))) fun t83_199 => k195 t83_199 h191 (n192 + 3)) fun t83_196 h197 n198 => ifP t81_194 true h197 n198 (fun k200 => callP Try.prog ro i_auto_Right [t83_196] h197 (n198 + 1) fun t84_204 h205 n206 => k200 t84_204 h205 n206) fun t84_201 h202 n203 => bindP (pickV t81_194 t84_201 (Value.bool false)) fun t85_207 => ∃ h208, Sub h208 h202 ∧ K t85_207 h208 (n203 + 2))
theorem law11_AutoOne_eq (ro : Ro) (v0 v1 v2 : Value) (h : T Obj) (nx : Nat) (K : KV) : callPre Try.prog ro (callP Try.prog ro) Try.f9 [v0, v1, v2] h nx K = law11_AutoOne ro v0 v1 v2 h nx K := by kernel_rfl
theorem law11_AutoOne_of {ro : Ro} {v0 v1 v2 : Value} {h : T Obj} {nx : Nat} {K : KV} (hw : law11_AutoOne ro v0 v1 v2 h nx K) : callP Try.prog ro i_law11_AutoOne [v0, v1, v2] h nx K := callP_by (P := Try.prog) (fn := Try.f9) (by kernel_rfl) (by kernel_rfl) (by kernel_rfl) (Eq.mpr (law11_AutoOne_eq ro v0 v1 v2 h nx K) hw)
end V
end Go.Proofs.Ytmmdcdjkmakgpaa
set_option linter.unusedVariables false
set_option linter.unusedSimpArgs false
namespace Go.Proofs.Ytmmdcdjkmakgpaa
namespace V
open PA
attribute [local irreducible] bindP ifP condP newP optP exP beqP
theorem build_PosO (m : Nat) (a b : Int) : buildV Try.prog y_api_Pos [(0, .agg (setL m).toArray), (1, .int .i64 a), (2, .int .i64 b), (4, .bool true)] = some (.agg (posL ⟨m, a, b, 0, true, []⟩ nilS).toArray) := by kernel_rfl
theorem build_GlO (i j : Nat) : buildV Try.prog y_api_Glush [(0, .slice (some (own i 1)) 1 1), (1, .slice (some (own j 9)) 1 1)] = some (.agg #[.slice (some (own i 1)) 1 1, .slice (some (own j 9)) 1 1]) := by kernel_rfl
theorem eql_cnt (a b : Int) {K : Value → Prop} (hk : K (.bool true)) : bindP (plainTy Try.prog 20 y_a2_int) fun ks => bindP (aggB ks .eql (.agg [Value.int .i64 a, .int .i64 b].toArray) (.agg #[Value.int .i64 a, .int .i64 b])) K := by
  refine bindP_mk plain_cnt (bindP_mk (a := .bool true) ?_ hk)
  unfold aggB
  simp [eqCells, eqCell]
section
variable {ro : Ro}
set_option maxRecDepth 8000 in
set_option maxHeartbeats 2000000 in
theorem law11_AutoOne_c {lo hi m : Nat} (hlo : lo < 65536) (hhi : hi < 65536) (hm : m < 2 ^ 256) {h : T Obj} {nx : Nat} {K : KV} (hf : Fr h nx) (hK : ∀ h' nx', K (.bool true) h' nx') : callP Try.prog ro i_law11_AutoOne [.int .u16 (lo : Int), .int .u16 (hi : Int), setV m] h nx K := by
  apply law11_AutoOne_of
  unfold law11_AutoOne
  refine param_mk hf (Nat.le_refl _) fun h1 hs1 hf1 g1 _ => ?_
  have g1 : h1.get nx = some (.cells (setL m).toArray y_api_Set) := g1
  refine shown_c ?_
  have hmod : ((hi : Nat) : Int) % 4095 = ((hi % 4095 : Nat) : Int) := by omega
  refine bindP_mk (intB_rem .u16 (a := (hi : Int)) (b := 4095) (by omega) (by omega)) ?_
  rw [hmod]
  refine bindP_mk (convI_int _ _ _) ?_
  rw [wr_i64 (by omega) (by omega)]
  refine bindP_mk (intB_add _ _ _) ?_
  rw [wr_i64 (by omega) (by omega)]
  refine bindP_mk (convI_int _ _ _) ?_
  rw [wr_i64 (by omega) (by omega)]
  generalize hB : ((hi % 4095 : Nat) : Int) + 2 = B
  have hB1 : 2 ≤ B ∧ B ≤ 4096 := by omega
  refine bindP_mk (intB_rem .i64 (a := (lo : Int)) (b := B) (by omega) (by omega)) ?_
  have hm1 : 0 ≤ (lo : Int) % B := Int.emod_nonneg _ (by omega)
  have hm2 : (lo : Int) % B < B := Int.emod_lt_of_pos _ (by omega)
  refine bindP_mk (intB_add _ _ _) ?_
  rw [wr_i64 (by omega) (by omega)]
  generalize hA : (lo : Int) % B + 1 = A
  have hA1 : 1 ≤ A ∧ A ≤ B := by omega
  refine bindP_mk (loadA_all (l := setL m) g1 rfl) ?_
  refine bindP_mk build_Set0 (bindP_mk plain_Set (eql_set0_s hm (fun h0 => ?_) fun h0 => ?_))
  · exact condP_t ⟨_, Sub.refl _, hK _ _⟩
  · refine condP_f (bindP_mk (lit_int _ _) (optP_mk ?_))
    have g2 : (h1.upd (nx + 3 + 15) (some (.cells [Value.int .i64 0].toArray y_int))).get nx = _ := (T.get_upd_ne _ _ (by omega)).trans g1
    refine bindP_mk (loadA_all (l := setL m) g2 rfl) ?_
    refine bindP_mk (build_PosO _ _ _) (bindP_mk (lit_Pos _ _ _) (optP_mk (bindP_mk (build_GlO _ _) ?_)))
    have hf3 : Fr ((h1.upd (nx + 3 + 15) (some (.cells [Value.int .i64 0].toArray y_int))).upd (nx + 3 + 20) (some (.cells (posL ⟨m, A, B, 0, true, []⟩ nilS).toArray y_api_Pos))) (nx + 3 + 23) := ((hf1.mono (show nx + 1 ≤ nx + 3 + 23 by omega)).upd (Nat.le_refl _) (by omega)).upd (Nat.le_refl _) (by omega)
    have hrg : RG ro ((h1.upd (nx + 3 + 15) (some (.cells [Value.int .i64 0].toArray y_int))).upd (nx + 3 + 20) (some (.cells (posL ⟨m, A, B, 0, true, []⟩ nilS).toArray y_api_Pos))) (.agg #[.slice (some (own (nx + 3 + 15) 1)) 1 1, .slice (some (own (nx + 3 + 20) 9)) 1 1]) (oneG m A B) := by
      refine ⟨_, _, rfl, ?_, ⟨[posL ⟨m, A, B, 0, true, []⟩ nilS], ?_, rfl, fun i x d hx hd => ?_⟩⟩
      · refine Sl.own (l := [[.int .i64 0]]) (e := y_int) (f := (0, 0)) ?_ (by simp) (Nat.le_refl _)
        rw [T.get_upd_ne _ _ (by omega), T.get_upd_same]; rfl
      · refine Sl.own (l := [posL ⟨m, A, B, 0, true, []⟩ nilS]) (e := y_api_Pos) (f := (0, 0)) ?_ (by intro x hx; simp at hx; rw [hx]; rfl) (Nat.le_refl _)
        rw [T.get_upd_same]; simp
      · cases i with
        | succ i => simp at hx
        | zero =>
          simp at hx
          have hd : some (⟨m, A, B, 0, true, []⟩ : PosD) = some d := hd
          cases hd
          exact ⟨nilS, hx.symm, Sl.nil, hm⟩
    generalize (h1.upd (nx + 3 + 15) (some (.cells [Value.int .i64 0].toArray y_int))).upd (nx + 3 + 20) (some (.cells (posL ⟨m, A, B, 0, true, []⟩ nilS).toArray y_api_Pos)) = h3 at hf3 hrg
    refine auto_Of_c hf3 hrg fun h5 n5 xs hn5 hs5 hf5 hR => ?_
    obtain ⟨S, s, o1, o2, o3, o4, o5, o6⟩ := one_of (m := m) (lo := A) (hi := B) h0 hm (by omega) (by omega) (by omega) (by omega)
    have hri := right_of (g := oneG m A B) (by rw [o1])
    rw [o1] at hR hri ⊢
    have hR0 := hR
    (repeat (first | refine bindP_mk (by simp (disch := first | omega | exact Int.natCast_nonneg _ | assumption) only [BB, B2, ↓reduceIte, Nat.reduceLeDiff, Nat.reduceAdd, CC, nth0, nth1] <;> rfl) ?_ | refine newP_mk ?_ | refine optP_mk ?_ | with_reducible first | refine condP_t ?_ | refine condP_f ?_ | refine ifP_tt' ?_ | refine ifP_ff' ?_ | refine ifP_tf' ?_ | refine ifP_ft' ?_ | refine ifP_u' ?_ | refine optP_mk0 ?_))
    obtain ⟨cv, sv, rfl, hc, hcb, hcv, hsv, hc1, hc2⟩ := hR
    have hcvk : cellOk cv = true := by obtain ⟨cs, h1, _⟩ := hcv; exact h1.ok
    have hsvk : cellOk sv = true := by obtain ⟨cs, h1, _⟩ := hsv; exact h1.ok
    refine local_mk zer_Auto (by rw [Value.cells_agg, ts]; exact autZ_len) (x := autL (ofD (oneG m A B) S).c (ofD (oneG m A B) S).many cv sv) rfl (autL_len hc) (autL_ok hcvk hsvk) hf5 (show n5 ≤ n5 + 3 by omega) fun h6 hs6 hf6 g6 _ => ?_
    have hcv6 := hcv.sub hs6 fun _ _ h => h
    have hsv6 := hsv.sub hs6 (RState.sub hs6)
    have n1 := hsv6.len
    have n2 := hcv6.len
    have e1 : (ofD (oneG m A B) S).states = S := rfl
    have e2 : (ofD (oneG m A B) S).counts = [(A, B)] := o6
    rw [e1, o2] at n1
    rw [e2] at n2
    have n1 : lenSl sv = some (.int .i64 2) := n1
    have n2 : lenSl cv = some (.int .i64 1) := n2
    have a1 := autL_states (n := (ofD (oneG m A B) S).many) (cv := cv) (sv := sv) hc
    have a2 := autL_counts (n := (ofD (oneG m A B) S).many) (cv := cv) (sv := sv) hc
    have hc0 : 0 < (ofD (oneG m A B) S).counts.length := by rw [e2]; exact Nat.one_pos
    have hce : (ofD (oneG m A B) S).counts[0] = (A, B) := by simp only [e2]; rfl
    obtain ⟨x, x1, x2, x3, x4, x5⟩ := hcv6.at hc0
    have x1 : x = [.int .i64 ((ofD (oneG m A B) S).counts[0]).1, .int .i64 ((ofD (oneG m A B) S).counts[0]).2] := x1
    rw [hce] at x1
    subst x1
    have i0 := hcv6.ix .i64 (i := 0) hc0
    have hS1 : 1 < (ofD (oneG m A B) S).states.length := by rw [e1, o2]; exact Nat.lt_succ_self 1
    have hse : (ofD (oneG m A B) S).states[1] = s := (List.getElem?_eq_some_iff.1 o3).2
    obtain ⟨y, ⟨lv, rv, uv, nv, rfl, y1, y2, y3, y4, y5⟩, z2, z3, z4, z5⟩ := hsv6.at hS1
    rw [hse] at y1 y2 y3 y4
    have i1 := hsv6.ix .i64 (i := 1) hS1
    have f1 := z4 1
    have f3 := z4 3
    have l1 := z5 1 rv rfl
    have l3 := z5 3 nv rfl
    have r1 := y2.len
    have r3 := y4.len
    rw [o4] at r1
    rw [o5] at r3
    have r1 : lenSl rv = some (.int .i64 1) := r1
    have r3 : lenSl nv = some (.int .i64 3) := r3
    have hz0 : ((0 : Nat) : Int) = 0 := rfl
    have hz1 : ((1 : Nat) : Int) = 1 := rfl
    rw [hz0] at i0
    rw [hz1] at i1
    (repeat (first | refine bindP_mk (by simp (disch := first | omega | exact Int.natCast_nonneg _ | assumption) only [BB, B2, ↓reduceIte, Nat.reduceLeDiff, Nat.reduceAdd, CC, g6, a1, a2, n1, n2, i0, x3] <;> rfl) ?_ | refine newP_mk ?_ | refine optP_mk ?_ | with_reducible first | refine condP_t ?_ | refine condP_f ?_ | refine ifP_tt' ?_ | refine ifP_ff' ?_ | refine ifP_tf' ?_ | refine ifP_ft' ?_ | refine ifP_u' ?_ | refine optP_mk0 ?_))
    refine bindP_mk (build_cnt _ _) ?_
    (repeat (first | refine bindP_mk (by simp (disch := first | omega | exact Int.natCast_nonneg _ | assumption) only [BB, B2, ↓reduceIte, Nat.reduceLeDiff, Nat.reduceAdd, CC] <;> rfl) ?_ | refine newP_mk ?_ | refine optP_mk ?_ | with_reducible first | refine condP_t ?_ | refine condP_f ?_ | refine ifP_tt' ?_ | refine ifP_ff' ?_ | refine ifP_tf' ?_ | refine ifP_ft' ?_ | refine ifP_u' ?_ | refine optP_mk0 ?_))
    refine eql_cnt A B ?_
    (repeat (first | refine bindP_mk (by simp (disch := first | omega | exact Int.natCast_nonneg _ | assumption) only [BB, B2, ↓reduceIte, Nat.reduceLeDiff, Nat.reduceAdd, CC, g6, a1, i1, f1, f3, l1, l3, r1, r3] <;> rfl) ?_ | refine newP_mk ?_ | refine optP_mk ?_ | with_reducible first | refine condP_t ?_ | refine condP_f ?_ | refine ifP_tt' ?_ | refine ifP_ff' ?_ | refine ifP_tf' ?_ | refine ifP_ft' ?_ | refine ifP_u' ?_ | refine optP_mk0 ?_))
    refine bindP_mk (loadA_all (l := autL (ofD (oneG m A B) S).c (ofD (oneG m A B) S).many cv sv) g6 (autL_len hc)) ?_
    (repeat (first | refine bindP_mk (by simp (disch := first | omega | exact Int.natCast_nonneg _ | assumption) only [BB, B2, ↓reduceIte, Nat.reduceLeDiff, Nat.reduceAdd, CC] <;> rfl) ?_ | refine newP_mk ?_ | refine optP_mk ?_ | with_reducible first | refine condP_t ?_ | refine condP_f ?_ | refine ifP_tt' ?_ | refine ifP_ff' ?_ | refine ifP_tf' ?_ | refine ifP_ft' ?_ | refine ifP_u' ?_ | refine optP_mk0 ?_))
    refine auto_Right_c (hf6.mono (by omega)) (d := ofD (oneG m A B) S) ⟨cv, sv, rfl, hc, hcb, hcv6, hsv6, hc1, hc2⟩ fun n9 hn9 => ?_
    rw [hri]
    (repeat (first | refine bindP_mk (by simp (disch := first | omega | exact Int.natCast_nonneg _ | assumption) only [BB, B2, ↓reduceIte, Nat.reduceLeDiff, Nat.reduceAdd, CC] <;> rfl) ?_ | refine newP_mk ?_ | refine optP_mk ?_ | with_reducible first | refine condP_t ?_ | refine condP_f ?_ | refine ifP_tt' ?_ | refine ifP_ff' ?_ | refine ifP_tf' ?_ | refine ifP_ft' ?_ | refine ifP_u' ?_ | refine optP_mk0 ?_))
    exact ⟨_, Sub.refl _, hK _ _⟩
end
end V
end Go.Proofs.Ytmmdcdjkmakgpaa