/- CE, CF: texts of layer 2, for a seat of more.
   No condition. -/
import Derived.Test.YtmmdcdjkmakgpaaDB
set_option linter.unusedVariables false
set_option linter.unusedSimpArgs false
namespace Go.Proofs.Ytmmdcdjkmakgpaa
set_option maxRecDepth 20000
namespace V
open PA
theorem pairs_length (c : List Nat) (x : Nat) : (pairs c x).length = 256 := by rw [pairs, List.length_map, bs_length]
theorem pairs_get {c : List Nat} {x i : Nat} (hi : i < 256) : (pairs c x)[i]? = some (c.getD i 0, x.testBit i) := by rw [pairs, List.getElem?_map, bs_get hi]; rfl
/-- The classes dealt so far. -/
def part (l : List Nat) (i : Nat) : List Nat := l.take i ++ List.replicate (256 - i) 0
theorem part_len {l : List Nat} (hl : l.length = 256) {i : Nat} (hi : i ≤ 256) : (part l i).length = 256 := by simp [part, hl]; omega
theorem part_set {l : List Nat} (hl : l.length = 256) {i : Nat} (hi : i < 256) : (part l i).set i (l[i]'(by omega)) = part l (i + 1) := by
  unfold part
  rw [List.set_append_right _ _ (by simp; omega)]
  have e : 256 - i = (256 - (i + 1)) + 1 := by omega
  rw [e, List.replicate_succ]
  have e2 : i - (List.take i l).length = 0 := by simp; omega
  rw [e2, List.set_cons_zero, List.take_succ_eq_append_getElem (by omega), List.append_assoc]
  rfl
theorem part_all {l : List Nat} (hl : l.length = 256) : part l 256 = l := by
  unfold part
  rw [List.take_of_length_le (by omega)]; simp
theorem split_cut_end {ro : Ro} {c : List Nat} {s : List (Nat × Bool)} {e : Env} {h h0 : T Obj} {id nx nx0 : Nat} {K : KV} (hc : c.length = 256)
    (e4 : e 4 = at_ (id + 2) 0 0) (e5 : e 5 = at_ (id + 3) 0 0) (e6 : e 6 = .map (some (id + 4)))
    (g3 : h.get (id + 2) = some (.cells (splitL (List.replicate 256 0) 0).toArray y_api_Split)) (g4 : h.get (id + 3) = some (.cells (splitL c 0).toArray y_api_Split)) (g5 : h.get (id + 4) = some (.map (ents 0 s).toArray s.length))
    (hf : Fr h0 nx0) (hs : Sub h0 h) (hid : nx0 ≤ id) (hK : K (splitV c s.length) h0 (nx + 6)) : split_cut_j1 ro K e h nx := by
  unfold split_cut_j1
  rw [e4, e5, e6]
  refine bindP_mk (len_pair g5) ?_
  (repeat (first | refine bindP_mk (by simp (disch := first | omega | exact Int.natCast_nonneg _ | assumption) only [BB, B2, ↓reduceIte, Nat.reduceLeDiff, Nat.reduceAdd, intB_eql, intB_neq, intB_lss, intB_leq, intB_gtr, intB_geq] <;> rfl) ?_ | refine newP_mk ?_ | refine optP_mk ?_ | with_reducible first | refine condP_t ?_ | refine condP_f ?_ | refine ifP_tt' ?_ | refine ifP_ff' ?_ | refine ifP_tf' ?_ | refine ifP_ft' ?_ | refine ifP_u' ?_ | refine optP_mk0 ?_))
  refine bindP_mk (store1_own g4 (by rw [splitL_len hc]; omega) rfl rfl) ?_
  rw [splitL_setM _ hc]
  refine bindP_mk (loadA_all (by rw [T.get_upd_same]) (splitL_len hc)) ?_
  refine bindP_mk (storeA_own (l := splitL (List.replicate 256 0) 0) (vs := splitL c s.length) (e := y_api_Split) (f := (0, 0)) (by simp (disch := first | omega | exact Int.natCast_nonneg _ | assumption) only [BB, B2, ↓reduceIte, Nat.reduceLeDiff, Nat.reduceAdd, intB_eql, intB_neq, intB_lss, intB_leq, intB_gtr, intB_geq, g3]) rfl (splitL_len hc) (splitL_len rep_len) (splitL_ok _ _)) ?_
  refine bindP_mk (loadA_all (by rw [T.get_upd_same]) (splitL_len hc)) ?_
  exact ⟨h0, (hs.new hf (by omega)).new hf (by omega), hK⟩
set_option maxRecDepth 4000 in
theorem split_cut_c {ro : Ro} {c : List Nat} {m x : Nat} (hc : c.length = 256) {h : T Obj} {nx : Nat} {K : KV} (hf : Fr h nx)
    (hK : ∀ nx', nx ≤ nx' → K (splitV (num (pairs c x)) (dd (pairs c x)).length) h nx') : callP Try.prog ro i_split_cut [splitV c m, setV x] h nx K := by
  apply split_cut_of
  unfold split_cut
  refine newP_mk (newP_mk (zer_Split_mk (newP_mk (zer_Split_mk (newP_mk (newP_mk ?_))))))
  have hN : (num (pairs c x)).length = 256 := by rw [num_length, pairs_length]
  refine loopP_rule (fun n e h' nx' => ∃ i : Nat, i + n = 256 ∧ nx + 5 ≤ nx' ∧ e 2 = ptr nx ∧ e 3 = ptr (nx + 1) ∧ e 4 = ptr (nx + 2) ∧ e 5 = ptr (nx + 3) ∧ e 6 = .map (some (nx + 4)) ∧ e 12 = .int .i64 i ∧ Sub h h' ∧ Fr h' nx' ∧
    h'.get nx = some (.cells (splitL c m).toArray y_api_Split) ∧ h'.get (nx + 1) = some (.cells (setL x).toArray y_api_Set) ∧ h'.get (nx + 2) = some (.cells (splitL (List.replicate 256 0) 0).toArray y_api_Split) ∧
    h'.get (nx + 3) = some (.cells (splitL (part (num (pairs c x)) i) 0).toArray y_api_Split) ∧ h'.get (nx + 4) = some (.map (ents 0 (dd ((pairs c x).take i))).toArray (dd ((pairs c x).take i)).length)) ?_ (n := 256)
    ⟨0, by omega, by omega, rfl, rfl, rfl, rfl, rfl, rfl, ?_, ?_, ?_, ?_, ?_, ?_, ?_⟩
  · rintro n e h' nx' ⟨i, hin, hnx, e2, e3, e4, e5, e6, e12, hs, hf', g1, g2, g3, g4, g5⟩ Q' hq hx
    unfold split_cut_L1
    rw [e2, e3, e6, e12]
    (repeat (first | refine bindP_mk (by simp (disch := first | omega | exact Int.natCast_nonneg _ | assumption) only [BB, B2, ↓reduceIte, Nat.reduceLeDiff, Nat.reduceAdd, intB_eql, intB_neq, intB_lss, intB_leq, intB_gtr, intB_geq] <;> rfl) ?_ | refine newP_mk ?_ | refine optP_mk ?_ | with_reducible first | refine condP_t ?_ | refine condP_f ?_ | refine ifP_tt' ?_ | refine ifP_ff' ?_ | refine ifP_tf' ?_ | refine ifP_ft' ?_ | refine ifP_u' ?_ | refine optP_mk0 ?_))
    by_cases hi : i < 256
    · refine condP_tr (by simp; omega) ?_
      have hic : i < c.length := by omega
      have hg := splitL_get (m := m) hic
      (repeat (first | refine bindP_mk (by simp (disch := first | omega | exact Int.natCast_nonneg _ | assumption) only [BB, B2, ↓reduceIte, Nat.reduceLeDiff, Nat.reduceAdd, intB_eql, intB_neq, intB_lss, intB_leq, intB_gtr, intB_geq, g1, hg] <;> rfl) ?_ | refine newP_mk ?_ | refine optP_mk ?_ | with_reducible first | refine condP_t ?_ | refine condP_f ?_ | refine ifP_tt' ?_ | refine ifP_ff' ?_ | refine ifP_tf' ?_ | refine ifP_ft' ?_ | refine ifP_u' ?_ | refine optP_mk0 ?_))
      refine bindP_mk (loadA_all g2 rfl) ?_
      (repeat (first | refine bindP_mk (by simp (disch := first | omega | exact Int.natCast_nonneg _ | assumption) only [BB, B2, ↓reduceIte, Nat.reduceLeDiff, Nat.reduceAdd, intB_eql, intB_neq, intB_lss, intB_leq, intB_gtr, intB_geq] <;> rfl) ?_ | refine newP_mk ?_ | refine optP_mk ?_ | with_reducible first | refine condP_t ?_ | refine condP_f ?_ | refine ifP_tt' ?_ | refine ifP_ff' ?_ | refine ifP_tf' ?_ | refine ifP_ft' ?_ | refine ifP_u' ?_ | refine optP_mk0 ?_))
      refine bset_Has_c hi (hf'.mono (by omega)) fun n1 hn1 => ?_
      refine ⟨sameV_own g1 g1, ?_⟩
      refine bindP_mk (buildV_pair _ _ rfl rfl) ?_
      refine zer_pair_mk (newP_mk ?_)
      refine bindP_mk (storeA_own (l := pairL (0, false)) (vs := pairL (c[i], x.testBit i)) (e := y_split_pair) (f := (0, 0)) (by rw [T.get_upd_same]; rfl) rfl rfl rfl rfl) ?_
      refine bindP_mk (loadA_all (by rw [T.get_upd_same]) rfl) ?_
      generalize hp : (c[i], x.testBit i) = p
      have hpi : (pairs c x)[i]? = some p := by rw [pairs_get hi, ← hp, List.getD_eq_getElem?_getD, List.getElem?_eq_getElem hic]; rfl
      have hpl : i < (pairs c x).length := by rw [pairs_length]; exact hi
      have hpe : (pairs c x)[i] = p := by rw [List.getElem?_eq_getElem hpl] at hpi; exact Option.some.inj hpi
      have htake : (pairs c x).take (i + 1) = (pairs c x).take i ++ [p] := by rw [List.take_succ_eq_append_getElem hpl, hpe]
      have hdd : dd ((pairs c x).take (i + 1)) = addN (dd ((pairs c x).take i)) p := by rw [htake, dd_append]
      have hNi : (num (pairs c x))[i]'(by omega) = ix ((pairs c x).take (i + 1)) p := by
        have h1 := num_get (l := pairs c x) hpl
        rw [hpe, List.getElem?_eq_getElem (by omega)] at h1
        rw [Option.some.inj h1]
        have h2 := idx_stable (l := (pairs c x).take (i + 1)) (m := (pairs c x).drop (i + 1)) (p := p) (by rw [htake]; simp)
        rw [List.take_append_drop] at h2
        exact h2
      have hval : ∀ v : Nat, v = ix ((pairs c x).take (i + 1)) p → ∀ (e : Env) (h1 : T Obj) (n2 : Nat), nx' ≤ n2 → e 2 = ptr nx → e 3 = ptr (nx + 1) → e 4 = ptr (nx + 2) → e 5 = ptr (nx + 3) → e 6 = .map (some (nx + 4)) → e 12 = .int .i64 i → e 7 = .int .i64 i → e 9 = .int .u8 (v : Int) →
          Sub h h1 → Fr h1 n2 → h1.get nx = some (.cells (splitL c m).toArray y_api_Split) → h1.get (nx + 1) = some (.cells (setL x).toArray y_api_Set) → h1.get (nx + 2) = some (.cells (splitL (List.replicate 256 0) 0).toArray y_api_Split) →
          h1.get (nx + 3) = some (.cells (splitL (part (num (pairs c x)) i) 0).toArray y_api_Split) → h1.get (nx + 4) = some (.map (ents 0 (dd ((pairs c x).take (i + 1)))).toArray (dd ((pairs c x).take (i + 1))).length) → split_cut_j3 ro Q' e h1 n2 := by
        intro v hv e h1 n2 hn2 e2 e3 e4 e5 e6 e12 e7 e9 hs1 hf1 g1 g2 g3 g4 g5
        unfold split_cut_j3
        rw [e5, e7, e9]
        (repeat (first | refine bindP_mk (by simp (disch := first | omega | exact Int.natCast_nonneg _ | assumption) only [BB, B2, ↓reduceIte, Nat.reduceLeDiff, Nat.reduceAdd, intB_eql, intB_neq, intB_lss, intB_leq, intB_gtr, intB_geq] <;> rfl) ?_ | refine newP_mk ?_ | refine optP_mk ?_ | with_reducible first | refine condP_t ?_ | refine condP_f ?_ | refine ifP_tt' ?_ | refine ifP_ff' ?_ | refine ifP_tf' ?_ | refine ifP_ft' ?_ | refine ifP_u' ?_ | refine optP_mk0 ?_))
        have hpl2 : (part (num (pairs c x)) i).length = 256 := part_len hN (by omega)
        refine bindP_mk (store1_own g4 (by rw [splitL_len hpl2]; omega) rfl rfl) ?_
        rw [splitL_set _ (by omega), hv, ← hNi, part_set hN hi]
        unfold split_cut_j2
        show bindP (intB .add (e 12) _) _
        rw [e12]
        (repeat (first | refine bindP_mk (by simp (disch := first | omega | exact Int.natCast_nonneg _ | assumption) only [BB, B2, ↓reduceIte, Nat.reduceLeDiff, Nat.reduceAdd, intB_eql, intB_neq, intB_lss, intB_leq, intB_gtr, intB_geq] <;> rfl) ?_ | refine newP_mk ?_ | refine optP_mk ?_ | with_reducible first | refine condP_t ?_ | refine condP_f ?_ | refine ifP_tt' ?_ | refine ifP_ff' ?_ | refine ifP_tf' ?_ | refine ifP_ft' ?_ | refine ifP_u' ?_ | refine optP_mk0 ?_))
        refine hq (n - 1) _ _ _ _ (by omega) ⟨i + 1, by omega, ?_, e2, e3, e4, e5, e6, rfl, hs1.new hf (by omega), (hf1.mono (by omega)).upd (Nat.le_refl _) (by omega), ?_, ?_, ?_, ?_, ?_⟩ (Sub.refl _)
        · omega
        · simp (disch := first | omega | exact Int.natCast_nonneg _ | assumption) only [BB, B2, ↓reduceIte, Nat.reduceLeDiff, Nat.reduceAdd, intB_eql, intB_neq, intB_lss, intB_leq, intB_gtr, intB_geq, g1]
        · simp (disch := first | omega | exact Int.natCast_nonneg _ | assumption) only [BB, B2, ↓reduceIte, Nat.reduceLeDiff, Nat.reduceAdd, intB_eql, intB_neq, intB_lss, intB_leq, intB_gtr, intB_geq, g2]
        · simp (disch := first | omega | exact Int.natCast_nonneg _ | assumption) only [BB, B2, ↓reduceIte, Nat.reduceLeDiff, Nat.reduceAdd, intB_eql, intB_neq, intB_lss, intB_leq, intB_gtr, intB_geq, g3]
        · rw [T.get_upd_same]
        · simp (disch := first | omega | exact Int.natCast_nonneg _ | assumption) only [BB, B2, ↓reduceIte, Nat.reduceLeDiff, Nat.reduceAdd, intB_eql, intB_neq, intB_lss, intB_leq, intB_gtr, intB_geq, g5]
      have hnew : ∀ k, k ≠ nx' + 12 → ((h'.upd (nx' + 12) (some (.cells (Value.cells (pairV (0, false))) y_split_pair))).upd (nx' + 12) (some (.cells (pairL p).toArray y_split_pair))).get k = h'.get k := fun k hk => by
        rw [T.get_upd_ne _ _ hk, T.get_upd_ne _ _ hk]
      generalize hH : (h'.upd (nx' + 12) (some (.cells (Value.cells (pairV (0, false))) y_split_pair))).upd (nx' + 12) (some (.cells (pairL p).toArray y_split_pair)) = H at hnew
      have hHs : Sub h H := by rw [← hH]; exact (hs.new hf (by omega)).new hf (by omega)
      have hHf : Fr H n1 := by rw [← hH]; exact ((hf'.mono (by omega)).upd (Nat.le_refl _) (by omega)).upd (Nat.le_refl _) (by omega)
      have hHk : H.get (nx' + 12) = some (.cells (pairL p).toArray y_split_pair) := by rw [← hH, T.get_upd_same]
      generalize hS : dd ((pairs c x).take i) = s at hdd g5
      have hsl : s.length ≤ i := by
        rw [← hS]
        refine Nat.le_trans (dd_length _) ?_
        rw [List.length_take]; omega
      have g5' : H.get (nx + 4) = some (.map (ents 0 s).toArray s.length) := by rw [hnew _ (by omega)]; exact g5
      refine bindP_mk (look_pair (p := p) g5') ?_
      refine bindP_mk rfl ?_
      refine bindP_mk rfl ?_
      (repeat (first | refine bindP_mk (by simp (disch := first | omega | exact Int.natCast_nonneg _ | assumption) only [BB, B2, ↓reduceIte, Nat.reduceLeDiff, Nat.reduceAdd, intB_eql, intB_neq, intB_lss, intB_leq, intB_gtr, intB_geq] <;> rfl) ?_ | refine newP_mk ?_ | refine optP_mk ?_ | with_reducible first | refine condP_t ?_ | refine condP_f ?_ | refine ifP_tt' ?_ | refine ifP_ff' ?_ | refine ifP_tf' ?_ | refine ifP_ft' ?_ | refine ifP_u' ?_ | refine optP_mk0 ?_))
      by_cases hm : p ∈ s
      · refine condP_fa (by simp [hm]) ?_
        have hix : (if p ∈ s then pos s p else 0) = ix ((pairs c x).take (i + 1)) p := by
          rw [if_pos hm]; unfold ix; rw [hdd]; unfold addN; rw [if_pos hm]
        refine hval _ hix _ _ _ (by omega) e2 e3 e4 e5 e6 e12 rfl rfl hHs (hHf.mono (by omega)) ?_ ?_ ?_ ?_ ?_
        · rw [hnew _ (by omega)]; exact g1
        · rw [hnew _ (by omega)]; exact g2
        · rw [hnew _ (by omega)]; exact g3
        · rw [hnew _ (by omega)]; exact g4
        · rw [hdd, g5']; unfold addN; rw [if_pos hm]
      · refine condP_tr (by simp [hm]) ?_
        refine bindP_mk (len_pair g5') ?_
        (repeat (first | refine bindP_mk (by simp (disch := first | omega | exact Int.natCast_nonneg _ | assumption) only [BB, B2, ↓reduceIte, Nat.reduceLeDiff, Nat.reduceAdd, intB_eql, intB_neq, intB_lss, intB_leq, intB_gtr, intB_geq] <;> rfl) ?_ | refine newP_mk ?_ | refine optP_mk ?_ | with_reducible first | refine condP_t ?_ | refine condP_f ?_ | refine ifP_tt' ?_ | refine ifP_ff' ?_ | refine ifP_tf' ?_ | refine ifP_ft' ?_ | refine ifP_u' ?_ | refine optP_mk0 ?_))
        refine bindP_mk (loadA_all hHk rfl) ?_
        refine bindP_mk (put_pair g5' hm) ?_
        have hix : s.length = ix ((pairs c x).take (i + 1)) p := by
          rw [htake, ix_new (by rw [hS]; exact hm), hS]
        refine hval _ hix _ _ _ (by omega) e2 e3 e4 e5 e6 e12 rfl rfl (hHs.new hf (by omega)) ((hHf.mono (by omega)).upd (Nat.le_refl _) (by omega)) ?_ ?_ ?_ ?_ ?_
        · rw [T.get_upd_ne _ _ (by omega), hnew _ (by omega)]; exact g1
        · rw [T.get_upd_ne _ _ (by omega), hnew _ (by omega)]; exact g2
        · rw [T.get_upd_ne _ _ (by omega), hnew _ (by omega)]; exact g3
        · rw [T.get_upd_ne _ _ (by omega), hnew _ (by omega)]; exact g4
        · rw [hdd, T.get_upd_same]; unfold addN; rw [if_neg hm]
    · refine condP_fa (by simp; omega) ?_
      refine hx _ _ _ _ (fun e => by cases e) ?_
      show exP _ _ _ _
      rw [exP_exit]
      show split_cut_j1 ro K _ _ _
      have hi2 : i = 256 := by omega
      subst hi2
      have ht : (pairs c x).take 256 = pairs c x := List.take_of_length_le (by rw [pairs_length]; omega)
      rw [part_all hN] at g4
      rw [ht] at g5
      exact split_cut_end (id := nx) hN e4 e5 e6 g3 g4 g5 hf hs (Nat.le_refl _) (hK _ (by omega))
  · exact (((((Sub.refl h).new hf (Nat.le_refl _)).new hf (by omega)).new hf (by omega)).new hf (by omega)).new hf (by omega)
  · exact ((((hf.upd (m := nx + 7) (by omega) (by omega)).upd (Nat.le_refl _) (by omega)).upd (Nat.le_refl _) (by omega)).upd (Nat.le_refl _) (by omega)).upd (Nat.le_refl _) (by omega)
  · simp (disch := first | omega | exact Int.natCast_nonneg _ | assumption) only [BB, B2, ↓reduceIte, Nat.reduceLeDiff, Nat.reduceAdd, intB_eql, intB_neq, intB_lss, intB_leq, intB_gtr, intB_geq, splitV_cells]
  · simp (disch := first | omega | exact Int.natCast_nonneg _ | assumption) only [BB, B2, ↓reduceIte, Nat.reduceLeDiff, Nat.reduceAdd, intB_eql, intB_neq, intB_lss, intB_leq, intB_gtr, intB_geq, setV_cells]
  · simp (disch := first | omega | exact Int.natCast_nonneg _ | assumption) only [BB, B2, ↓reduceIte, Nat.reduceLeDiff, Nat.reduceAdd, intB_eql, intB_neq, intB_lss, intB_leq, intB_gtr, intB_geq, splitV_cells]
  · simp (disch := first | omega | exact Int.natCast_nonneg _ | assumption) only [BB, B2, ↓reduceIte, Nat.reduceLeDiff, Nat.reduceAdd, intB_eql, intB_neq, intB_lss, intB_leq, intB_gtr, intB_geq, splitV_cells]
    rfl
  · simp (disch := first | omega | exact Int.natCast_nonneg _ | assumption) only [BB, B2, ↓reduceIte, Nat.reduceLeDiff, Nat.reduceAdd, intB_eql, intB_neq, intB_lss, intB_leq, intB_gtr, intB_geq]
    rfl
end V
end Go.Proofs.Ytmmdcdjkmakgpaa

set_option linter.unusedVariables false
set_option linter.unusedSimpArgs false
namespace Go.Proofs.Ytmmdcdjkmakgpaa
set_option maxRecDepth 20000
namespace V
open PA
def setsC (l : List Nat) : List (List Value) := l.map setL
theorem setsC_len (l : List Nat) : (setsC l).length = l.length := by simp [setsC]
theorem setsC_get {l : List Nat} {i : Nat} (hi : i < l.length) : (setsC l)[i]? = some (setL l[i]) := by simp [setsC, hi]
theorem setsC_take (l : List Nat) (n : Nat) : (setsC l).take n = setsC (l.take n) := by simp [setsC, List.map_take]
theorem buildV_Split1 : buildV Try.prog y_api_Split [(1, .int .i64 1)] = some (splitV (List.replicate 256 0) 1) := by kernel_rfl
theorem buildV_Split0 : buildV Try.prog y_api_Split [] = some (splitV (List.replicate 256 0) 0) := by kernel_rfl
set_option maxRecDepth 4000 in
theorem split_Of_c {ro : Ro} {v : Value} {l : List Nat} (hlen : l.length ≤ 1000000) {h : T Obj} {nx : Nat} {K : KV} (hf : Fr h nx) (hv : Sl ro h v 4 (setsC l)) (hK : ∀ nx', nx ≤ nx' → K (splitV (cls l) (many l)) h nx') : callP Try.prog ro i_split_Of [v] h nx K := by
  apply split_Of_of
  unfold split_Of
  refine zer_Split_mk (newP_mk (bindP_mk buildV_Split1 (zer_Split_mk (newP_mk ?_))))
  refine bindP_mk (storeA_own (l := splitL (List.replicate 256 0) 0) (vs := splitL (List.replicate 256 0) 1) (by rw [T.get_upd_same]; rfl) rfl (splitL_len rep_len) (splitL_len rep_len) (splitL_ok _ _)) ?_
  have hs2 : Sub h ((((h.upd nx (some (.cells (Value.cells (splitV (List.replicate 256 0) 0)) y_api_Split))).upd (nx + 2) (some (.cells (Value.cells (splitV (List.replicate 256 0) 0)) y_api_Split)))).upd (nx + 2) (some (.cells (splitL (List.replicate 256 0) 1).toArray y_api_Split))) := (((Sub.refl h).new hf (Nat.le_refl _)).new hf (by omega)).new hf (by omega)
  have hlenv := (hv.sub hs2).len
  rw [setsC_len] at hlenv
  refine bindP_mk hlenv ?_
  refine loopP_rule (fun n e h' nx' => ∃ i : Nat, i + n = l.length ∧ nx + 3 ≤ nx' ∧ e 7 = v ∧ e 8 = .int .i64 (l.length : Nat) ∧ e 2 = ptr nx ∧ e 3 = ptr (nx + 2) ∧ e 9 = .int .i64 i ∧ Sub h h' ∧ Fr h' nx' ∧
    h'.get nx = some (.cells (splitL (List.replicate 256 0) 0).toArray y_api_Split) ∧ h'.get (nx + 2) = some (.cells (splitL (cls (l.take i)) (many (l.take i))).toArray y_api_Split)) ?_ (n := l.length) ⟨0, by omega, by omega, rfl, rfl, rfl, rfl, rfl, hs2, ?_, ?_, ?_⟩
  · rintro n e h' nx' ⟨i, hin, hnx, e7, e8, e2, e3, e9, hs, hf', g1, g2⟩ Q' hc hx
    unfold split_Of_L1
    rw [e7, e8, e3, e9]
    (repeat (first | refine bindP_mk (by simp (disch := first | omega | exact Int.natCast_nonneg _ | assumption) only [BB, B2, ↓reduceIte, Nat.reduceLeDiff, Nat.reduceAdd, intB_eql, intB_neq, intB_lss, intB_leq, intB_gtr, intB_geq] <;> rfl) ?_ | refine newP_mk ?_ | refine optP_mk ?_ | with_reducible first | refine condP_t ?_ | refine condP_f ?_ | refine ifP_tt' ?_ | refine ifP_ff' ?_ | refine ifP_tf' ?_ | refine ifP_ft' ?_ | refine ifP_u' ?_ | refine optP_mk0 ?_))
    by_cases hi : i < l.length
    · refine condP_tr (by simp; omega) ?_
      refine bindP_mk ((hv.sub hs).ix _ (by rw [setsC_len]; exact hi)) ?_
      refine bindP_mk ((hv.sub hs).loadA (setsC_get hi)) ?_
      refine zer_Set_mk (newP_mk ?_)
      refine bindP_mk (storeA_own (l := setL 0) (vs := setL l[i]) (e := y_api_Set) (f := (0, 0)) (by rw [T.get_upd_same]; rfl) rfl rfl rfl rfl) ?_
      refine bindP_mk (loadA_all (l := splitL (cls (l.take i)) (many (l.take i))) (e := y_api_Split) (f := (0, 0)) (by simp (disch := first | omega | exact Int.natCast_nonneg _ | assumption) only [BB, B2, ↓reduceIte, Nat.reduceLeDiff, Nat.reduceAdd, intB_eql, intB_neq, intB_lss, intB_leq, intB_gtr, intB_geq, g2]) (splitL_len (cls_length _))) ?_
      refine bindP_mk (loadA_all (l := setL l[i]) (by rw [T.get_upd_same]) rfl) ?_
      refine split_cut_c (m := many (l.take i)) (cls_length _) (((hf'.mono (by omega)).upd (n := nx' + 8) (Nat.le_refl _) (by omega)).upd (Nat.le_refl _) (by omega)) fun n1 hn1 => ?_
      obtain ⟨q1, q2⟩ := cls_step (l.take i) l[i]
      have ht : l.take i ++ [l[i]] = l.take (i + 1) := (List.take_succ_eq_append_getElem hi).symm
      rw [ht] at q1 q2
      rw [q1, q2]
      refine bindP_mk (storeA_own (l := splitL (cls (l.take i)) (many (l.take i))) (vs := splitL (cls (l.take (i + 1))) (many (l.take (i + 1)))) (e := y_api_Split) (f := (0, 0)) (by simp (disch := first | omega | exact Int.natCast_nonneg _ | assumption) only [BB, B2, ↓reduceIte, Nat.reduceLeDiff, Nat.reduceAdd, intB_eql, intB_neq, intB_lss, intB_leq, intB_gtr, intB_geq, g2]) rfl (splitL_len (cls_length _)) (splitL_len (cls_length _)) (splitL_ok _ _)) ?_
      (repeat (first | refine bindP_mk (by simp (disch := first | omega | exact Int.natCast_nonneg _ | assumption) only [BB, B2, ↓reduceIte, Nat.reduceLeDiff, Nat.reduceAdd, intB_eql, intB_neq, intB_lss, intB_leq, intB_gtr, intB_geq] <;> rfl) ?_ | refine newP_mk ?_ | refine optP_mk ?_ | with_reducible first | refine condP_t ?_ | refine condP_f ?_ | refine ifP_tt' ?_ | refine ifP_ff' ?_ | refine ifP_tf' ?_ | refine ifP_ft' ?_ | refine ifP_u' ?_ | refine optP_mk0 ?_))
      refine hc (n - 1) _ _ _ _ (by omega) ⟨i + 1, by omega, ?_, e7, e8, e2, e3, rfl, ((hs.new hf (by omega)).new hf (by omega)).new hf (by omega), (((hf'.mono (by omega)).upd (Nat.le_refl _) (by omega)).upd (Nat.le_refl _) (by omega)).upd (Nat.le_refl _) (by omega), ?_, ?_⟩ (Sub.refl _)
      · omega
      · simp (disch := first | omega | exact Int.natCast_nonneg _ | assumption) only [BB, B2, ↓reduceIte, Nat.reduceLeDiff, Nat.reduceAdd, intB_eql, intB_neq, intB_lss, intB_leq, intB_gtr, intB_geq, g1]
      · rw [T.get_upd_same]
    · refine condP_fa (by simp; omega) ?_
      refine hx _ _ _ _ (fun e => by cases e) (exP_e (beqP_t ?_))
      unfold split_Of_j1
      have ht : l.take i = l := List.take_of_length_le (by omega)
      rw [ht] at g2
      show bindP (loadA ro h' 257 (e 3)) _
      rw [e3]
      show bindP _ fun t => bindP (storeN 257 h' (e 2) t) fun h8 => bindP (loadA ro h8 257 (e 2)) _
      rw [e2]
      exact ret_copy g2 g1 (splitL_len (cls_length _)) (splitL_len rep_len) (splitL_ok _ _) hf hs (Nat.le_refl _) (hK _ (by omega))
  · exact ((hf.upd (m := nx + 7) (by omega) (by omega)).upd (Nat.le_refl _) (by omega)).upd (Nat.le_refl _) (by omega)
  · simp (disch := first | omega | exact Int.natCast_nonneg _ | assumption) only [BB, B2, ↓reduceIte, Nat.reduceLeDiff, Nat.reduceAdd, intB_eql, intB_neq, intB_lss, intB_leq, intB_gtr, intB_geq, splitV_cells]
  · rw [T.get_upd_same, List.take_zero, cls_nil, many_nil]
theorem und_sets : ∃ e, und Try.prog y_s_api_Set = some (.slice e) ∧ siz Try.prog e = some 4 := ⟨y_api_Set, by kernel_rfl, by kernel_rfl⟩
theorem min_int (a b : Int) (ts : Array TypeId) (h : T Obj) : builtinQ Try.prog h .min ts [.int .i64 a, .int .i64 b] = some (.int .i64 (min a b)) := by
  unfold builtinQ
  have h2 : ∀ c : Int, minV true [.int .i64 c] = some (.int .i64 c) := fun c => by unfold minV; rfl
  show minV true [.int .i64 a, .int .i64 b] = _
  unfold minV
  rw [h2]
  by_cases e : b < a
  · simp only [e, decide_true]; congr 2; omega
  · simp only [e, decide_false]; congr 2; omega
end V
end Go.Proofs.Ytmmdcdjkmakgpaa

