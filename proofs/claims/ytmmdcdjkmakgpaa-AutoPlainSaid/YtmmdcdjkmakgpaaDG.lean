/- CG, CH: texts of layer 2, for a seat of more.
   No condition. -/
import Derived.Test.YtmmdcdjkmakgpaaDE
set_option linter.unusedVariables false
set_option linter.unusedSimpArgs false
namespace Go.Proofs.Ytmmdcdjkmakgpaa
set_option maxRecDepth 20000
namespace V
open PA
theorem sig_take_succ {l : List Nat} {i : Nat} (hi : i < l.length) (b : Nat) : sig (l.take (i + 1)) b = sig (l.take i) b ++ [l[i].testBit b] := by
  rw [List.take_succ_eq_append_getElem hi, sig_snoc]
theorem sig_differ {l : List Nat} {i a b : Nat} (hi : i < l.length) (h : l[i].testBit a ≠ l[i].testBit b) : sig l a ≠ sig l b := by
  intro e
  have h1 : (sig l a)[i]? = some (l[i].testBit a) := by simp [sig, hi]
  have h2 : (sig l b)[i]? = some (l[i].testBit b) := by simp [sig, hi]
  rw [e, h2] at h1
  exact h (Option.some.inj h1).symm
theorem ref02_alike_c {ro : Ro} {v : Value} {l : List Nat} {a b : Nat} (ha : a < 256) (hb : b < 256) (hlen : l.length ≤ 1000000) {h : T Obj} {nx : Nat} {K : KV} (hf : Fr h nx) (hv : Sl ro h v 4 (setsC l)) (hK : ∀ nx', nx ≤ nx' → K (.bool (decide (sig l a = sig l b))) h nx') :
    callP Try.prog ro i_ref02_alike [v, .int .u8 a, .int .u8 b] h nx K := by
  apply ref02_alike_of
  unfold ref02_alike
  refine loopP_rule (fun n e h' nx' => ∃ i : Nat, i + n = l.length ∧ nx ≤ nx' ∧ e 0 = v ∧ e 1 = .int .u8 a ∧ e 2 = .int .u8 b ∧ e 7 = .int .i64 i ∧ h' = h ∧ sig (l.take i) a = sig (l.take i) b) ?_ (n := l.length) ⟨0, by omega, by omega, rfl, rfl, rfl, rfl, rfl, rfl⟩
  rintro n e h' nx' ⟨i, hin, hnx, e0, e1, e2, e7, rfl, hsig⟩ Q' hc hx
  unfold ref02_alike_L1
  rw [e0, e1, e2, e7]
  have hl := hv.len
  rw [setsC_len] at hl
  refine bindP_mk hl ?_
  (repeat (first | refine bindP_mk (by simp (disch := first | omega | exact Int.natCast_nonneg _ | assumption) only [BB, B2, ↓reduceIte, Nat.reduceLeDiff, Nat.reduceAdd, intB_eql, intB_neq, intB_lss, intB_leq, intB_gtr, intB_geq] <;> rfl) ?_ | refine newP_mk ?_ | refine optP_mk ?_ | with_reducible first | refine condP_t ?_ | refine condP_f ?_ | refine ifP_tt' ?_ | refine ifP_ff' ?_ | refine ifP_tf' ?_ | refine ifP_ft' ?_ | refine ifP_u' ?_ | refine optP_mk0 ?_))
  by_cases hi : i < l.length
  · refine condP_tr (by simp; omega) ?_
    have hix := hv.ix .i64 (i := i) (by rw [setsC_len]; exact hi)
    have hld := hv.loadA (setsC_get hi)
    refine bindP_mk hix (bindP_mk hld ?_)
    refine ref01_Has_c ha (hf.mono (by omega)) fun n1 hn1 => ?_
    refine bindP_mk hix (bindP_mk hld ?_)
    refine ⟨hv.same (Sub.refl _) (by rw [setsC_len]; exact hi), ?_⟩
    refine ref01_Has_c hb (hf.mono (by omega)) fun n2 hn2 => ?_
    (repeat (first | refine bindP_mk (by simp (disch := first | omega | exact Int.natCast_nonneg _ | assumption) only [BB, B2, ↓reduceIte, Nat.reduceLeDiff, Nat.reduceAdd, intB_eql, intB_neq, intB_lss, intB_leq, intB_gtr, intB_geq] <;> rfl) ?_ | refine newP_mk ?_ | refine optP_mk ?_ | with_reducible first | refine condP_t ?_ | refine condP_f ?_ | refine ifP_tt' ?_ | refine ifP_ff' ?_ | refine ifP_tf' ?_ | refine ifP_ft' ?_ | refine ifP_u' ?_ | refine optP_mk0 ?_))
    by_cases he : l[i].testBit a = l[i].testBit b
    · refine condP_fa (by simp [he]) ?_
      (repeat (first | refine bindP_mk (by simp (disch := first | omega | exact Int.natCast_nonneg _ | assumption) only [BB, B2, ↓reduceIte, Nat.reduceLeDiff, Nat.reduceAdd, intB_eql, intB_neq, intB_lss, intB_leq, intB_gtr, intB_geq] <;> rfl) ?_ | refine newP_mk ?_ | refine optP_mk ?_ | with_reducible first | refine condP_t ?_ | refine condP_f ?_ | refine ifP_tt' ?_ | refine ifP_ff' ?_ | refine ifP_tf' ?_ | refine ifP_ft' ?_ | refine ifP_u' ?_ | refine optP_mk0 ?_))
      refine hc (n - 1) _ _ _ _ (by omega) ⟨i + 1, by omega, by omega, e0, e1, e2, rfl, rfl, ?_⟩ (Sub.refl _)
      rw [sig_take_succ hi, sig_take_succ hi, hsig, he]
    · refine condP_tr (by simp [he]) ?_
      refine hx _ _ _ _ (fun e => by cases e) (exP_r ?_)
      refine ⟨h', Sub.refl _, ?_⟩
      have := hK (n2 + 1) (by omega)
      rw [decide_eq_false (sig_differ hi he)] at this
      exact this
  · refine condP_fa (by simp; omega) ?_
    refine hx _ _ _ _ (fun e => by cases e) (exP_e (beqP_t ?_))
    unfold ref02_alike_j1
    refine ⟨h', Sub.refl _, ?_⟩
    have ht : l.take i = l := List.take_of_length_le (by omega)
    rw [ht] at hsig
    have := hK (nx' + 4 + 1) (by omega)
    rw [decide_eq_true hsig] at this
    exact this
theorem lit_u8 (aid : Nat) (b : Int) : sliceLitV Try.prog y_s_uint8 aid 1 [(0, .int .u8 b)] = some (.slice (some (own aid 1)) 1 1, some (.cells #[.int .u8 b] y_uint8)) := by kernel_rfl
theorem und_u8s : und Try.prog y_s_uint8 = some (.slice y_uint8) := by kernel_rfl
theorem tin_u8 : ∃ i, tin Try.prog y_uint8 = some i ∧ i.size = 1 ∧ i.bytes = 1 := by
  have h : (tin Try.prog y_uint8).map (fun i => (i.size, i.bytes)) = some (1, 1) := by kernel_rfl
  cases hi : tin Try.prog y_uint8 with
  | none => rw [hi] at h; cases h
  | some i => rw [hi] at h; simp at h; exact ⟨i, rfl, h.1, h.2⟩
theorem zer_u8 : zer Try.prog y_uint8 = some (.int .u8 0) := by kernel_rfl
/-- Bytes to which one more is appended. -/
theorem append_u8 {ro : Ro} {h : T Obj} {v x : Value} {nx lo hi : Nat} {l : List Nat} {b : Nat} (ho : Own h v 1 y_uint8 (bytesC l) lo hi) (hx : Sl ro h x 1 (bytesC [b])) (hb : l.length ≤ 1000000) (hlo : lo ≤ nx) (hnx : hi ≤ nx) :
    ∃ h' r, appendV Try.prog ro h nx #[y_s_uint8, y_s_uint8] [v, x] = some (r, h', nx + 1) ∧ Own h' r 1 y_uint8 (bytesC (l ++ [b])) lo (nx + 1) ∧ (∀ k, (k < lo ∨ hi ≤ k) → k ≠ nx → h'.get k = h.get k) ∧ (∀ k, k ≠ nx → h'.get k = h.get k ∨ h'.get k = none) := by
  obtain ⟨i, h1, h2, h3⟩ := tin_u8
  have hcat : bytesC l ++ bytesC [b] = bytesC (l ++ [b]) := by simp [bytesC]
  have hl1 : (bytesC l).length = l.length := bytesC_len l
  have hl2 : (bytesC [b]).length = 1 := rfl
  obtain ⟨h', q1, q2, q3, q4⟩ := append_own (P := Try.prog) (t := y_s_uint8) ho hx und_u8s h1 h2 (by omega) zer_u8 rfl (by simp [bytesC]) rfl (by rw [hl1, hl2, h3]; unfold big; omega) (by rw [hl1, hl2]; unfold big; omega) hlo hnx
  rw [hcat] at q1 q2
  exact ⟨h', _, q1, q2, q3, q4⟩
end V
end Go.Proofs.Ytmmdcdjkmakgpaa

set_option linter.unusedVariables false
set_option linter.unusedSimpArgs false
namespace Go.Proofs.Ytmmdcdjkmakgpaa
set_option maxRecDepth 20000
namespace V
open PA
set_option maxRecDepth 4000 in
theorem ref02_Of_c {ro : Ro} {v : Value} {l : List Nat} (hlen : l.length ≤ 1000000) {h : T Obj} {nx : Nat} {K : KV} (hf : Fr h nx) (hv : Sl ro h v 4 (setsC l)) (hK : ∀ nx', nx ≤ nx' → K (splitV (cls l) (many l)) h nx') : callP Try.prog ro i_ref02_Of [v] h nx K := by
  apply ref02_Of_of
  unfold ref02_Of
  refine zer_Split_mk (newP_mk (bindP_mk buildV_Split0 (zer_Split_mk (newP_mk ?_))))
  refine bindP_mk (storeA_own (l := splitL (List.replicate 256 0) 0) (vs := splitL (List.replicate 256 0) 0) (by rw [T.get_upd_same]; rfl) rfl (splitL_len rep_len) (splitL_len rep_len) (splitL_ok _ _)) ?_
  have hN := cls_length l
  refine loopP_rule (fun n e h' nx' => ∃ (i : Nat) (reps : List Nat) (fv : Value), i + n = 256 ∧ nx + 6 ≤ nx' ∧ e 0 = v ∧ e 2 = ptr nx ∧ e 3 = ptr (nx + 2) ∧ e 4 = fv ∧ e 5 = .int .i64 i ∧ Sub h h' ∧ Fr h' nx' ∧
    h'.get nx = some (.cells (splitL (List.replicate 256 0) 0).toArray y_api_Split) ∧ h'.get (nx + 2) = some (.cells (splitL (part (cls l) i) 0).toArray y_api_Split) ∧
    Own h' fv 1 y_uint8 (bytesC reps) (nx + 3) nx' ∧ reps.map (sig l) = dd ((sigs l).take i) ∧ ∀ r ∈ reps, r < 256) ?_ (n := 256)
    ⟨0, [], _, by omega, by omega, rfl, rfl, rfl, rfl, rfl, ?_, ?_, ?_, ?_, Own.nil, rfl, by simp⟩
  · rintro n e h' nx' ⟨i, reps, fv, hin, hnx, e0, e2, e3, e4, e5, hs, hf', g1, g2, ho, hreps, hr⟩ Q' hc hx
    unfold ref02_Of_L1
    rw [e5]
    (repeat (first | refine bindP_mk (by simp (disch := first | omega | exact Int.natCast_nonneg _ | assumption) only [BB, B2, ↓reduceIte, Nat.reduceLeDiff, Nat.reduceAdd, intB_eql, intB_neq, intB_lss, intB_leq, intB_gtr, intB_geq] <;> rfl) ?_ | refine newP_mk ?_ | refine optP_mk ?_ | with_reducible first | refine condP_t ?_ | refine condP_f ?_ | refine ifP_tt' ?_ | refine ifP_ff' ?_ | refine ifP_tf' ?_ | refine ifP_ft' ?_ | refine ifP_u' ?_ | refine optP_mk0 ?_))
    by_cases hi : i < 256
    · refine condP_tr (by simp; omega) ?_
      have hrl : reps.length ≤ i := by
        have := congrArg List.length hreps
        rw [List.length_map] at this
        rw [this]
        refine Nat.le_trans (dd_length _) ?_
        rw [List.length_take]; omega
      have hsl : i < (sigs l).length := by rw [sigs_length]; exact hi
      have hse : (sigs l)[i] = sig l i := by have := sigs_get (l := l) hi; rw [List.getElem?_eq_getElem hsl] at this; exact Option.some.inj this
      have htake : (sigs l).take (i + 1) = (sigs l).take i ++ [sig l i] := by rw [List.take_succ_eq_append_getElem hsl, hse]
      have hNi : (cls l)[i]'(by omega) = ix ((sigs l).take (i + 1)) (sig l i) := by
        have h1 := cls_get (l := l) hi
        rw [List.getElem?_eq_getElem (by omega)] at h1
        rw [Option.some.inj h1]
        have h2 := idx_stable (l := (sigs l).take (i + 1)) (m := (sigs l).drop (i + 1)) (p := sig l i) (by rw [htake]; simp)
        rw [List.take_append_drop] at h2
        exact h2
      have hrg : ∀ j, (dd ((sigs l).take i))[j]? = (reps[j]?).map (sig l) := fun j => by rw [← hreps, List.getElem?_map]
      -- what stands behind the inner loop
      have hj4 : ∀ (k : Nat) (reps' : List Nat), k = ix ((sigs l).take (i + 1)) (sig l i) → k ≤ i → reps'.map (sig l) = dd ((sigs l).take (i + 1)) → (∀ r ∈ reps', r < 256) → ∀ (e : Env) (h1 : T Obj) (n2 : Nat) (fv : Value), nx' ≤ n2 → e 0 = v → e 2 = ptr nx → e 3 = ptr (nx + 2) → e 4 = fv → e 5 = .int .i64 i → e 6 = .int .i64 k →
          Sub h h1 → Fr h1 n2 → h1.get nx = some (.cells (splitL (List.replicate 256 0) 0).toArray y_api_Split) → h1.get (nx + 2) = some (.cells (splitL (part (cls l) i) 0).toArray y_api_Split) → Own h1 fv 1 y_uint8 (bytesC reps') (nx + 3) n2 → ref02_Of_j4 ro Q' e h1 n2 := by
        intro k reps' hk hki hreps' hr' e h1 n2 fv hn2 e0 e2 e3 e4 e5 e6 hs1 hf1 g1 g2 ho'
        unfold ref02_Of_j4
        rw [e3, e5, e6]
        (repeat (first | refine bindP_mk (by simp (disch := first | omega | exact Int.natCast_nonneg _ | assumption) only [BB, B2, ↓reduceIte, Nat.reduceLeDiff, Nat.reduceAdd, intB_eql, intB_neq, intB_lss, intB_leq, intB_gtr, intB_geq] <;> rfl) ?_ | refine newP_mk ?_ | refine optP_mk ?_ | with_reducible first | refine condP_t ?_ | refine condP_f ?_ | refine ifP_tt' ?_ | refine ifP_ff' ?_ | refine ifP_tf' ?_ | refine ifP_ft' ?_ | refine ifP_u' ?_ | refine optP_mk0 ?_))
        have hpl2 : (part (cls l) i).length = 256 := part_len hN (by omega)
        refine bindP_mk (store1_own g2 (by rw [splitL_len hpl2]; omega) rfl rfl) ?_
        rw [splitL_set _ (by omega), hk, ← hNi, part_set hN hi]
        unfold ref02_Of_j2
        show bindP (intB .add (e 5) _) _
        rw [e5]
        (repeat (first | refine bindP_mk (by simp (disch := first | omega | exact Int.natCast_nonneg _ | assumption) only [BB, B2, ↓reduceIte, Nat.reduceLeDiff, Nat.reduceAdd, intB_eql, intB_neq, intB_lss, intB_leq, intB_gtr, intB_geq] <;> rfl) ?_ | refine newP_mk ?_ | refine optP_mk ?_ | with_reducible first | refine condP_t ?_ | refine condP_f ?_ | refine ifP_tt' ?_ | refine ifP_ff' ?_ | refine ifP_tf' ?_ | refine ifP_ft' ?_ | refine ifP_u' ?_ | refine optP_mk0 ?_))
        refine hc (n - 1) _ _ _ _ (by omega) ⟨i + 1, reps', fv, by omega, ?_, e0, e2, e3, e4, rfl, hs1.new hf (by omega), (hf1.mono (by omega)).upd (Nat.le_refl _) (by omega), ?_, ?_, ?_, hreps', hr'⟩ (Sub.refl _)
        · omega
        · simp (disch := first | omega | exact Int.natCast_nonneg _ | assumption) only [BB, B2, ↓reduceIte, Nat.reduceLeDiff, Nat.reduceAdd, intB_eql, intB_neq, intB_lss, intB_leq, intB_gtr, intB_geq, g1]
        · rw [T.get_upd_same]
        · exact ho'.keep (by omega) fun id hid1 hid2 o hg => by rw [T.get_upd_ne _ _ (by omega)]; exact hg
      have hj3 : ∀ (k : Nat), k ≤ reps.length → (∀ j, j < k → ∀ r, reps[j]? = some r → sig l r ≠ sig l i) → (∀ r, reps[k]? = some r → sig l r = sig l i) → ∀ (e : Env) (n2 : Nat), nx' ≤ n2 → e 0 = v → e 2 = ptr nx → e 3 = ptr (nx + 2) → e 4 = fv → e 5 = .int .i64 i → e 6 = .int .i64 k → ref02_Of_j3 ro Q' e h' n2 := by
        intro k hkl hk1 hk2 e n2 hn2 e0 e2 e3 e4 e5 e6
        unfold ref02_Of_j3
        rw [e4, e5, e6]
        have hl := (ho.sl (ro := ro)).len
        rw [bytesC_len] at hl
        refine bindP_mk hl ?_
        (repeat (first | refine bindP_mk (by simp (disch := first | omega | exact Int.natCast_nonneg _ | assumption) only [BB, B2, ↓reduceIte, Nat.reduceLeDiff, Nat.reduceAdd, intB_eql, intB_neq, intB_lss, intB_leq, intB_gtr, intB_geq] <;> rfl) ?_ | refine newP_mk ?_ | refine optP_mk ?_ | with_reducible first | refine condP_t ?_ | refine condP_f ?_ | refine ifP_tt' ?_ | refine ifP_ff' ?_ | refine ifP_tf' ?_ | refine ifP_ft' ?_ | refine ifP_u' ?_ | refine optP_mk0 ?_))
        by_cases hkk : k = reps.length
        · refine condP_tr (by simp [hkk]) ?_
          (repeat (first | refine bindP_mk (by simp (disch := first | omega | exact Int.natCast_nonneg _ | assumption) only [BB, B2, ↓reduceIte, Nat.reduceLeDiff, Nat.reduceAdd, intB_eql, intB_neq, intB_lss, intB_leq, intB_gtr, intB_geq] <;> rfl) ?_ | refine newP_mk ?_ | refine optP_mk ?_ | with_reducible first | refine condP_t ?_ | refine condP_f ?_ | refine ifP_tt' ?_ | refine ifP_ff' ?_ | refine ifP_tf' ?_ | refine ifP_ft' ?_ | refine ifP_u' ?_ | refine optP_mk0 ?_))
          refine bindP_mk (lit_u8 _ _) (optP_mk ?_)
          have hnm : ¬ sig l i ∈ dd ((sigs l).take i) := by
            rw [← hreps]
            intro hm
            obtain ⟨r, hr1, hr2⟩ := List.mem_map.1 hm
            obtain ⟨j, hj⟩ := List.mem_iff_getElem?.1 hr1
            exact hk1 j (by have := (List.getElem?_eq_some_iff.1 hj).1; omega) r hj hr2
          have ho2 : Own (h'.upd (n2 + 7) (some (.cells #[.int .u8 (i : Int)] y_uint8))) fv 1 y_uint8 (bytesC reps) (nx + 3) (n2 + 7) := ho.keep (by omega) fun id h1 h2 o hg => by rw [T.get_upd_ne _ _ (by omega)]; exact hg
          have hx1 : Sl ro (h'.upd (n2 + 7) (some (.cells #[.int .u8 (i : Int)] y_uint8))) (.slice (some (own (n2 + 7) 1)) 1 1) 1 (bytesC [i]) := Sl.own (l := bytesC [i]) (by rw [T.get_upd_same]; rfl) (by simp [bytesC]) (Nat.le_refl _)
          obtain ⟨h2, r, q1, q2, q3, q4⟩ := append_u8 (nx := n2 + 9) ho2 hx1 (by omega) (by omega) (by omega)
          refine bindP_mk q1 ?_
          dsimp only
          have hS2 : Sub h h2 := fun b o hb => by
            have hbn : b < nx := by
              rcases Nat.lt_or_ge b nx with h9 | h9
              · exact h9
              · rw [hf b h9] at hb; cases hb
            rw [q3 b (.inl (by omega)) (by omega), T.get_upd_ne _ _ (by omega)]
            exact hs b o hb
          have hF2 : Fr h2 (n2 + 9 + 1 + 1) := fun b hb => by
            rw [q3 b (.inr (by omega)) (by omega), T.get_upd_ne _ _ (by omega)]
            exact hf' b (by omega)
          refine hj4 k (reps ++ [i]) ?_ (by omega) ?_ ?_ _ _ _ r (by omega) e0 e2 e3 rfl e5 e6 hS2 hF2 ?_ ?_ (q2.keep (by omega) fun _ _ _ _ hg => hg)
          · rw [htake, ix_new hnm, hkk, ← hreps, List.length_map]
          · rw [htake, dd_append]; unfold addN; rw [if_neg hnm, List.map_append, hreps]; rfl
          · intro r hr3
            rcases List.mem_append.1 hr3 with h9 | h9
            · exact hr r h9
            · simp at h9; omega
          · rw [q3 nx (.inl (by omega)) (by omega), T.get_upd_ne _ _ (by omega)]; exact g1
          · rw [q3 (nx + 2) (.inl (by omega)) (by omega), T.get_upd_ne _ _ (by omega)]; exact g2
        · refine condP_fa (by simp; omega) ?_
          have hkl2 : k < reps.length := by omega
          have hkr : reps[k]? = some reps[k] := List.getElem?_eq_getElem hkl2
          have hkm := hk2 _ hkr
          have hdk : (dd ((sigs l).take i))[k]? = some (sig l i) := by rw [hrg, hkr, ← hkm]; rfl
          have hmem : sig l i ∈ dd ((sigs l).take i) := List.mem_of_getElem? hdk
          have hdd : dd ((sigs l).take (i + 1)) = dd ((sigs l).take i) := by rw [htake, dd_append]; unfold addN; rw [if_pos hmem]
          refine hj4 k reps ?_ (by omega) (by rw [hdd]; exact hreps) hr _ _ _ fv (by omega) e0 e2 e3 e4 e5 e6 hs (hf'.mono (by omega)) g1 g2 (ho.keep (by omega) fun _ _ _ _ hg => hg)
          unfold ix
          rw [hdd]
          refine (pos_of hdk fun j hj => ?_).symm
          rw [hrg]
          cases hj2 : reps[j]? with
          | none => intro h9; cases h9
          | some r => intro h9; exact hk1 j hj r hj2 (Option.some.inj h9)
      refine loopP_rule (fun n2 e1 h1 n1 => ∃ k : Nat, k + n2 = reps.length ∧ nx' ≤ n1 ∧ e1 0 = v ∧ e1 2 = ptr nx ∧ e1 3 = ptr (nx + 2) ∧ e1 4 = fv ∧ e1 5 = .int .i64 i ∧ e1 6 = .int .i64 k ∧ h1 = h' ∧ ∀ j, j < k → ∀ r, reps[j]? = some r → sig l r ≠ sig l i) ?_ (n := reps.length)
        ⟨0, by omega, by omega, e0, e2, e3, e4, e5, rfl, rfl, fun j hj => by omega⟩
      rintro n2 e1 h1 n1 ⟨k, hkn, hn1, f0, f2, f3, f4, f5, f6, rfl, hk1⟩ Q2 hc2 hx2
      unfold ref02_Of_L2
      rw [f0, f4, f5, f6]
      have hl := (ho.sl (ro := ro)).len
      rw [bytesC_len] at hl
      refine bindP_mk hl ?_
      (repeat (first | refine bindP_mk (by simp (disch := first | omega | exact Int.natCast_nonneg _ | assumption) only [BB, B2, ↓reduceIte, Nat.reduceLeDiff, Nat.reduceAdd, intB_eql, intB_neq, intB_lss, intB_leq, intB_gtr, intB_geq] <;> rfl) ?_ | refine newP_mk ?_ | refine optP_mk ?_ | with_reducible first | refine condP_t ?_ | refine condP_f ?_ | refine ifP_tt' ?_ | refine ifP_ff' ?_ | refine ifP_tf' ?_ | refine ifP_ft' ?_ | refine ifP_u' ?_ | refine optP_mk0 ?_))
      by_cases hk : k < reps.length
      · have e9 : decide ((k : Int) < (reps.length : Int)) = true := by simp; omega
        rw [e9]
        (repeat (first | refine bindP_mk (by simp (disch := first | omega | exact Int.natCast_nonneg _ | assumption) only [BB, B2, ↓reduceIte, Nat.reduceLeDiff, Nat.reduceAdd, intB_eql, intB_neq, intB_lss, intB_leq, intB_gtr, intB_geq] <;> rfl) ?_ | refine newP_mk ?_ | refine optP_mk ?_ | with_reducible first | refine condP_t ?_ | refine condP_f ?_ | refine ifP_tt' ?_ | refine ifP_ff' ?_ | refine ifP_tf' ?_ | refine ifP_ft' ?_ | refine ifP_u' ?_ | refine optP_mk0 ?_))
        refine bindP_mk ((ho.sl (ro := ro)).ix _ (by rw [bytesC_len]; exact hk)) ?_
        (repeat (first | refine bindP_mk (by simp (disch := first | omega | exact Int.natCast_nonneg _ | assumption) only [BB, B2, ↓reduceIte, Nat.reduceLeDiff, Nat.reduceAdd, intB_eql, intB_neq, intB_lss, intB_leq, intB_gtr, intB_geq] <;> rfl) ?_ | refine newP_mk ?_ | refine optP_mk ?_ | with_reducible first | refine condP_t ?_ | refine condP_f ?_ | refine ifP_tt' ?_ | refine ifP_ff' ?_ | refine ifP_tf' ?_ | refine ifP_ft' ?_ | refine ifP_u' ?_ | refine optP_mk0 ?_))
        refine bindP_mk ((ho.sl (ro := ro)).load1 (bytesC_get hk)) ?_
        (repeat (first | refine bindP_mk (by simp (disch := first | omega | exact Int.natCast_nonneg _ | assumption) only [BB, B2, ↓reduceIte, Nat.reduceLeDiff, Nat.reduceAdd, intB_eql, intB_neq, intB_lss, intB_leq, intB_gtr, intB_geq] <;> rfl) ?_ | refine newP_mk ?_ | refine optP_mk ?_ | with_reducible first | refine condP_t ?_ | refine condP_f ?_ | refine ifP_tt' ?_ | refine ifP_ff' ?_ | refine ifP_tf' ?_ | refine ifP_ft' ?_ | refine ifP_u' ?_ | refine optP_mk0 ?_))
        refine ref02_alike_c (hr _ (List.getElem_mem hk)) hi hlen (hf'.mono (by omega)) (hv.sub hs) fun n3 hn3 => ?_
        (repeat (first | refine bindP_mk (by simp (disch := first | omega | exact Int.natCast_nonneg _ | assumption) only [BB, B2, ↓reduceIte, Nat.reduceLeDiff, Nat.reduceAdd, intB_eql, intB_neq, intB_lss, intB_leq, intB_gtr, intB_geq] <;> rfl) ?_ | refine newP_mk ?_ | refine optP_mk ?_ | with_reducible first | refine condP_t ?_ | refine condP_f ?_ | refine ifP_tt' ?_ | refine ifP_ff' ?_ | refine ifP_tf' ?_ | refine ifP_ft' ?_ | refine ifP_u' ?_ | refine optP_mk0 ?_))
        by_cases he : sig l reps[k] = sig l i
        · refine condP_fa (by simp [he]) ?_
          refine hx2 _ _ _ _ (fun e => by cases e) (exP_e (beqP_t ?_))
          exact hj3 k (by omega) hk1 (fun r hr9 => by rw [List.getElem?_eq_getElem hk] at hr9; cases hr9; exact he) _ _ (by omega) f0 f2 f3 f4 f5 f6
        · refine condP_tr (by simp [he]) ?_
          (repeat (first | refine bindP_mk (by simp (disch := first | omega | exact Int.natCast_nonneg _ | assumption) only [BB, B2, ↓reduceIte, Nat.reduceLeDiff, Nat.reduceAdd, intB_eql, intB_neq, intB_lss, intB_leq, intB_gtr, intB_geq] <;> rfl) ?_ | refine newP_mk ?_ | refine optP_mk ?_ | with_reducible first | refine condP_t ?_ | refine condP_f ?_ | refine ifP_tt' ?_ | refine ifP_ff' ?_ | refine ifP_tf' ?_ | refine ifP_ft' ?_ | refine ifP_u' ?_ | refine optP_mk0 ?_))
          refine hc2 (n2 - 1) _ _ _ _ (by omega) ⟨k + 1, by omega, by omega, f0, f2, f3, f4, f5, rfl, rfl, fun j hj r hr9 => ?_⟩ (Sub.refl _)
          rcases Nat.lt_or_eq_of_le (Nat.le_of_lt_succ hj) with h9 | rfl
          · exact hk1 j h9 r hr9
          · rw [List.getElem?_eq_getElem hk] at hr9; cases hr9; exact he
      · have e9 : decide ((k : Int) < (reps.length : Int)) = false := by simp; omega
        rw [e9]
        (repeat (first | refine bindP_mk (by simp (disch := first | omega | exact Int.natCast_nonneg _ | assumption) only [BB, B2, ↓reduceIte, Nat.reduceLeDiff, Nat.reduceAdd, intB_eql, intB_neq, intB_lss, intB_leq, intB_gtr, intB_geq] <;> rfl) ?_ | refine newP_mk ?_ | refine optP_mk ?_ | with_reducible first | refine condP_t ?_ | refine condP_f ?_ | refine ifP_tt' ?_ | refine ifP_ff' ?_ | refine ifP_tf' ?_ | refine ifP_ft' ?_ | refine ifP_u' ?_ | refine optP_mk0 ?_))
        refine hx2 _ _ _ _ (fun e => by cases e) (exP_e (beqP_t ?_))
        exact hj3 k (by omega) hk1 (fun r hr9 => by rw [List.getElem?_eq_none (by omega)] at hr9; cases hr9) _ _ (by omega) f0 f2 f3 f4 f5 f6
    · refine condP_fa (by simp; omega) ?_
      refine hx _ _ _ _ (fun e => by cases e) (exP_e (beqP_t ?_))
      have hi2 : i = 256 := by omega
      subst hi2
      unfold ref02_Of_j1
      have hl := (ho.sl (ro := ro)).len
      rw [bytesC_len] at hl
      have hmany : reps.length = many l := by
        have := congrArg List.length hreps
        rw [List.length_map, List.take_of_length_le (by rw [sigs_length]; omega)] at this
        exact this
      show bindP (lenSl (e 4)) _
      rw [e4]
      refine bindP_mk hl ?_
      show bindP (fwdP 256 (e 3)) _
      rw [e3, hmany]
      (repeat (first | refine bindP_mk (by simp (disch := first | omega | exact Int.natCast_nonneg _ | assumption) only [BB, B2, ↓reduceIte, Nat.reduceLeDiff, Nat.reduceAdd, intB_eql, intB_neq, intB_lss, intB_leq, intB_gtr, intB_geq] <;> rfl) ?_ | refine newP_mk ?_ | refine optP_mk ?_ | with_reducible first | refine condP_t ?_ | refine condP_f ?_ | refine ifP_tt' ?_ | refine ifP_ff' ?_ | refine ifP_tf' ?_ | refine ifP_ft' ?_ | refine ifP_u' ?_ | refine optP_mk0 ?_))
      rw [part_all hN] at g2
      refine bindP_mk (store1_own g2 (by rw [splitL_len hN]; omega) rfl rfl) ?_
      rw [splitL_setM _ hN]
      show bindP _ fun t => bindP (storeN 257 _ (e 2) t) fun h8 => bindP (loadA ro h8 257 (e 2)) _
      rw [e2]
      show bindP (loadA ro _ 257 (e 3)) _
      rw [e3]
      refine ret_copy (l1 := splitL (cls l) (many l)) (l2 := splitL (List.replicate 256 0) 0) (id1 := nx + 2) (id2 := nx) (n0 := nx) (e1 := y_api_Split) (f1 := (0, 0)) (e2 := y_api_Split) (f2 := (0, 0)) (h0 := h) ?_ ?_ (splitL_len hN) (splitL_len rep_len) (splitL_ok _ _) hf ?_ (Nat.le_refl _) ?_
      · rw [T.get_upd_same]
      · simp (disch := first | omega | exact Int.natCast_nonneg _ | assumption) only [BB, B2, ↓reduceIte, Nat.reduceLeDiff, Nat.reduceAdd, intB_eql, intB_neq, intB_lss, intB_leq, intB_gtr, intB_geq, g1]
      · exact hs.new hf (by omega)
      · exact hK _ (by omega)
  · exact (((Sub.refl h).new hf (Nat.le_refl _)).new hf (by omega)).new hf (by omega)
  · exact ((hf.upd (m := nx + 6) (by omega) (by omega)).upd (Nat.le_refl _) (by omega)).upd (Nat.le_refl _) (by omega)
  · simp (disch := first | omega | exact Int.natCast_nonneg _ | assumption) only [BB, B2, ↓reduceIte, Nat.reduceLeDiff, Nat.reduceAdd, intB_eql, intB_neq, intB_lss, intB_leq, intB_gtr, intB_geq, splitV_cells]
  · rw [T.get_upd_same]; rfl
end V
end Go.Proofs.Ytmmdcdjkmakgpaa

