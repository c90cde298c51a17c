/- CL, CM: texts of layer 2, for a seat of more.
   No condition. -/
import Derived.Test.YtmmdcdjkmakgpaaDG
set_option linter.unusedVariables false
set_option linter.unusedSimpArgs false
namespace Go.Proofs.Ytmmdcdjkmakgpaa
set_option maxRecDepth 20000
namespace V
open PA
theorem testBit_ofBytes (m : Nat) (l : List Nat) (b : Nat) : (ofBytes m l).testBit b = (m.testBit b || decide (b ∈ l)) := by
  induction l generalizing m with
  | nil => simp [ofBytes]
  | cons a l ih =>
    have : ofBytes m (a :: l) = ofBytes (m ||| 2 ^ a) l := rfl
    rw [this, ih, Nat.testBit_or, Nat.testBit_two_pow]
    by_cases e : a = b
    · subst e; simp
    · have : ¬ b = a := fun h => e h.symm
      simp [e, this]
open PA
theorem splitI_nat (c : List Nat) (m : Nat) : splitV c m = splitI c (m : Int) := rfl
/-- The bytes of a class, below one. -/
def mem (c : List Nat) (k : Int) (i : Nat) : List Nat := (List.range i).filter fun b => decide (((c.getD b 0 : Nat) : Int) = k)
def clsS (c : List Nat) (k : Int) : Nat := ofBytes 0 (mem c k 256)
theorem filter_one (p : Nat → Bool) (i : Nat) : [i].filter p = if p i = true then [i] else [] := by
  cases h : p i <;> simp [h]
theorem mem_succ (c : List Nat) (k : Int) (i : Nat) : mem c k (i + 1) = mem c k i ++ (if ((c.getD i 0 : Nat) : Int) = k then [i] else []) := by
  unfold mem
  rw [List.range_succ, List.filter_append, filter_one]
  simp only [decide_eq_true_eq]
theorem mem_lt {c : List Nat} {k : Int} {i b : Nat} (h : b ∈ mem c k i) : b < i := by
  unfold mem at h
  exact List.mem_range.1 (List.mem_filter.1 h).1
theorem mem_len (c : List Nat) (k : Int) (i : Nat) : (mem c k i).length ≤ i := by
  unfold mem
  refine Nat.le_trans (List.length_filter_le _ _) ?_
  simp
/-- A byte more, out of a literal of one. -/
theorem append_lit8 {ro : Ro} {h h0 : T Obj} {v : Value} {n1 lo hi nx nx0 : Nat} {l : List Nat} {b : Nat} {K : Value × T Obj × Nat → Prop} (ho : Own h v 1 y_uint8 (bytesC l) lo hi) (hl : l.length ≤ 1000000) (hf : Fr h nx) (hs : Sub h0 h) (hf0 : Fr h0 nx0) (hlo0 : nx0 ≤ lo) (hlo : lo ≤ hi) (hn : hi ≤ n1) (hnx : nx ≤ n1) (h2 : n1 + 1 ≤ nx + 1000)
    {n2 : Nat} (hn2 : n1 < n2)
    (hK : ∀ h' r, Own h' r 1 y_uint8 (bytesC (l ++ [b])) lo (n2 + 1) → Sub h0 h' → Fr h' (n2 + 1) → (∀ k, (k < lo ∨ hi ≤ k) → k ≠ n2 → k ≠ n1 → h'.get k = h.get k) → K (r, h', n2 + 1)) :
    bindP (sliceLitV Try.prog y_s_uint8 n1 1 [(0, .int .u8 (b : Int))]) fun r => optP h n1 r.2 fun h' => bindP (appendV Try.prog ro h' n2 #[y_s_uint8, y_s_uint8] [v, r.1]) K := by
  refine bindP_mk (lit_u8 _ _) (optP_mk ?_)
  have ho2 : Own (h.upd n1 (some (.cells #[.int .u8 (b : Int)] y_uint8))) v 1 y_uint8 (bytesC l) lo hi := ho.keep (Nat.le_refl _) fun id h1 h2 o hg => by rw [T.get_upd_ne _ _ (by omega)]; exact hg
  have hx1 : Sl ro (h.upd n1 (some (.cells #[.int .u8 (b : Int)] y_uint8))) (.slice (some (own n1 1)) 1 1) 1 (bytesC [b]) := Sl.own (l := bytesC [b]) (by rw [T.get_upd_same]; rfl) (by simp [bytesC]) (Nat.le_refl _)
  obtain ⟨h2, r, q1, q2, q3, q4⟩ := append_u8 (nx := n2) ho2 hx1 hl (by omega) (by omega)
  refine bindP_mk q1 (hK h2 r q2 ?_ ?_ ?_)
  · intro k o hk
    have hkn : k < nx0 := by
      rcases Nat.lt_or_ge k nx0 with h9 | h9
      · exact h9
      · rw [hf0 k h9] at hk; cases hk
    rw [q3 k (.inl (by omega)) (by omega), T.get_upd_ne _ _ (by omega)]
    exact hs k o hk
  · intro k hk
    rw [q3 k (.inr (by omega)) (by omega), T.get_upd_ne _ _ (by omega)]
    exact hf k (by omega)
  · intro k hk h3 h4
    rw [q3 k hk h3, T.get_upd_ne _ _ h4]
end V
end Go.Proofs.Ytmmdcdjkmakgpaa

set_option linter.unusedVariables false
set_option linter.unusedSimpArgs false
namespace Go.Proofs.Ytmmdcdjkmakgpaa
set_option maxRecDepth 20000
namespace V
open PA

open PA
set_option maxRecDepth 4000 in
theorem ref02_Set_c {ro : Ro} {c : List Nat} {n k : Int} (hc : c.length = 256) (hcl : ∀ x ∈ c, x < 256) {h : T Obj} {nx : Nat} {K : KV} (hf : Fr h nx) (hK : ∀ nx', nx ≤ nx' → K (setV (clsS c k)) h nx') : callP Try.prog ro i_ref02_Set [splitI c n, .int .i64 k] h nx K := by
  apply ref02_Set_of
  unfold ref02_Set
  refine newP_mk (zer_Set_mk (newP_mk ?_))
  refine loopP_rule (fun j e h' nx' => ∃ (i : Nat) (lv : Value), i + j = 256 ∧ nx + 2 ≤ nx' ∧ e 1 = .int .i64 k ∧ e 2 = ptr nx ∧ e 4 = ptr (nx + 1) ∧ e 5 = lv ∧ e 6 = .int .i64 i ∧ Sub h h' ∧ Fr h' nx' ∧
    h'.get nx = some (.cells (splitLI c n).toArray y_api_Split) ∧ h'.get (nx + 1) = some (.cells (setL 0).toArray y_api_Set) ∧ Own h' lv 1 y_uint8 (bytesC (mem c k i)) (nx + 2) nx') ?_ (n := 256) ⟨0, _, by omega, by omega, rfl, rfl, rfl, rfl, rfl, ?_, ?_, ?_, ?_, Own.nil⟩
  · rintro j e h' nx' ⟨i, lv, hij, hnx, e1, e2, e4, e5, e6, hs, hf', g0, g1, ho⟩ Q' hq hx
    unfold ref02_Set_L1
    rw [e1, e2, e5, e6]
    (repeat (first | refine bindP_mk (by simp (disch := first | omega | exact Int.natCast_nonneg _ | assumption) only [BB, B2, ↓reduceIte, Nat.reduceLeDiff, Nat.reduceAdd, intB_eql, intB_neq, intB_lss, intB_leq, intB_gtr, intB_geq] <;> rfl) ?_ | refine newP_mk ?_ | refine optP_mk ?_ | with_reducible first | refine condP_t ?_ | refine condP_f ?_ | refine ifP_tt' ?_ | refine ifP_ff' ?_ | refine ifP_tf' ?_ | refine ifP_ft' ?_ | refine ifP_u' ?_ | refine optP_mk0 ?_))
    by_cases hi : i < 256
    · refine condP_tr (by simp; omega) ?_
      have hic : i < c.length := by omega
      have hci := hcl _ (List.getElem_mem hic)
      have hg := splitLI_get (n := n) hic
      have hgd : c.getD i 0 = c[i] := by rw [List.getD_eq_getElem?_getD, List.getElem?_eq_getElem hic]; rfl
      (repeat (first | refine bindP_mk (by simp (disch := first | omega | exact Int.natCast_nonneg _ | assumption) only [BB, B2, ↓reduceIte, Nat.reduceLeDiff, Nat.reduceAdd, intB_eql, intB_neq, intB_lss, intB_leq, intB_gtr, intB_geq, g0, hg] <;> rfl) ?_ | refine newP_mk ?_ | refine optP_mk ?_ | with_reducible first | refine condP_t ?_ | refine condP_f ?_ | refine ifP_tt' ?_ | refine ifP_ff' ?_ | refine ifP_tf' ?_ | refine ifP_ft' ?_ | refine ifP_u' ?_ | refine optP_mk0 ?_))
      have hj2 : ∀ (e : Env) (h1 : T Obj) (n2 : Nat) (lv : Value), nx' ≤ n2 → e 1 = .int .i64 k → e 2 = ptr nx → e 4 = ptr (nx + 1) → e 5 = lv → e 6 = .int .i64 i → Sub h h1 → Fr h1 n2 → h1.get nx = some (.cells (splitLI c n).toArray y_api_Split) → h1.get (nx + 1) = some (.cells (setL 0).toArray y_api_Set) →
          Own h1 lv 1 y_uint8 (bytesC (mem c k (i + 1))) (nx + 2) n2 → ref02_Set_j2 ro Q' e h1 n2 := by
        intro e h1 n2 lv hn2 e1 e2 e4 e5 e6 hs1 hf1 g0 g1 ho1
        unfold ref02_Set_j2
        rw [e6]
        (repeat (first | refine bindP_mk (by simp (disch := first | omega | exact Int.natCast_nonneg _ | assumption) only [BB, B2, ↓reduceIte, Nat.reduceLeDiff, Nat.reduceAdd, intB_eql, intB_neq, intB_lss, intB_leq, intB_gtr, intB_geq] <;> rfl) ?_ | refine newP_mk ?_ | refine optP_mk ?_ | with_reducible first | refine condP_t ?_ | refine condP_f ?_ | refine ifP_tt' ?_ | refine ifP_ff' ?_ | refine ifP_tf' ?_ | refine ifP_ft' ?_ | refine ifP_u' ?_ | refine optP_mk0 ?_))
        exact hq (j - 1) _ _ _ _ (by omega) ⟨i + 1, lv, by omega, by omega, e1, e2, e4, e5, rfl, hs1, hf1.mono (by omega), g0, g1, ho1.keep (by omega) fun _ _ _ _ hg => hg⟩ (Sub.refl _)
      by_cases hk : ((c[i] : Nat) : Int) = k
      · refine condP_tr (by simp [hk]) ?_
        (repeat (first | refine bindP_mk (by simp (disch := first | omega | exact Int.natCast_nonneg _ | assumption) only [BB, B2, ↓reduceIte, Nat.reduceLeDiff, Nat.reduceAdd, intB_eql, intB_neq, intB_lss, intB_leq, intB_gtr, intB_geq] <;> rfl) ?_ | refine newP_mk ?_ | refine optP_mk ?_ | with_reducible first | refine condP_t ?_ | refine condP_f ?_ | refine ifP_tt' ?_ | refine ifP_ff' ?_ | refine ifP_tf' ?_ | refine ifP_ft' ?_ | refine ifP_u' ?_ | refine optP_mk0 ?_))
        refine append_lit8 (h0 := h) (nx0 := nx) (nx := nx') (lo := nx + 2) (hi := nx') ho (Nat.le_trans (mem_len _ _ _) (by omega)) hf' hs hf (by omega) (by omega) (by omega) (by omega) (by omega) (by omega) fun h2 r q1 q2 q3 q4 => ?_
        dsimp only
        refine hj2 _ _ _ r (by omega) e1 e2 e4 rfl e6 q2 (q3.mono (by omega)) ?_ ?_ ?_
        · rw [q4 _ (.inl (by omega)) (by omega) (by omega)]; exact g0
        · rw [q4 _ (.inl (by omega)) (by omega) (by omega)]; exact g1
        · rw [mem_succ, hgd, if_pos hk]; exact q1.keep (by omega) fun _ _ _ _ hg => hg
      · refine condP_fa (by simp [hk]) ?_
        refine hj2 _ _ _ lv (by omega) e1 e2 e4 e5 e6 hs (hf'.mono (by omega)) g0 g1 ?_
        rw [mem_succ, hgd, if_neg hk, List.append_nil]; exact ho.keep (by omega) fun _ _ _ _ hg => hg
    · refine condP_fa (by simp; omega) ?_
      refine hx _ _ _ _ (fun e => by cases e) (exP_e (beqP_t ?_))
      have hi2 : i = 256 := by omega
      subst hi2
      unfold ref02_Set_j1
      have f4 : ∀ a b, Env.put (Env.put e 7 a) 8 b 4 = ptr (nx + 1) := fun a b => e4
      have f5 : ∀ a b, Env.put (Env.put e 7 a) 8 b 5 = lv := fun a b => e5
      simp only [puts, f4, f5]
      refine ref01_Of_c (fun b hb => mem_lt hb) (Nat.le_trans (mem_len c k 256) (by omega)) (hf'.mono (by omega)) ho.sl fun n2 hn2 => ?_
      refine bindP_mk (storeA_own (l := setL 0) (vs := setL (clsS c k)) g1 rfl rfl rfl rfl) ?_
      refine bindP_mk (loadA_all (by rw [T.get_upd_same]) rfl) ?_
      exact ⟨h, hs.new hf (by omega), hK _ (by omega)⟩
  · exact ((Sub.refl h).new hf (Nat.le_refl _)).new hf (by omega)
  · exact (hf.upd (m := nx + 4) (by omega) (by omega)).upd (Nat.le_refl _) (by omega)
  · simp (disch := first | omega | exact Int.natCast_nonneg _ | assumption) only [BB, B2, ↓reduceIte, Nat.reduceLeDiff, Nat.reduceAdd, intB_eql, intB_neq, intB_lss, intB_leq, intB_gtr, intB_geq, splitI_cells]
  · simp (disch := first | omega | exact Int.natCast_nonneg _ | assumption) only [BB, B2, ↓reduceIte, Nat.reduceLeDiff, Nat.reduceAdd, intB_eql, intB_neq, intB_lss, intB_leq, intB_gtr, intB_geq, setV_cells]
/-- The bytes of a set, rising, below one. -/
def lst (m i : Nat) : List Nat := (List.range i).filter fun b => m.testBit b
def listS (m : Nat) : List Nat := lst m 256
theorem lst_succ (m i : Nat) : lst m (i + 1) = lst m i ++ (if m.testBit i = true then [i] else []) := by
  unfold lst
  rw [List.range_succ, List.filter_append, filter_one]
theorem lst_lt {m i b : Nat} (h : b ∈ lst m i) : b < i := by
  unfold lst at h
  exact List.mem_range.1 (List.mem_filter.1 h).1
theorem lst_len (m i : Nat) : (lst m i).length ≤ i := by
  unfold lst
  refine Nat.le_trans (List.length_filter_le _ _) ?_
  simp
set_option maxRecDepth 4000 in
theorem ref01_List_c {ro : Ro} {m : Nat} {h : T Obj} {nx : Nat} {K : KV} (hf : Fr h nx) (hK : ∀ r h' nx', nx ≤ nx' → Sub h h' → Fr h' nx' → Own h' r 1 y_uint8 (bytesC (listS m)) nx nx' → K r h' nx') : callP Try.prog ro i_ref01_List [setV m] h nx K := by
  apply ref01_List_of
  unfold ref01_List
  refine newP_mk ?_
  refine loopP_rule (fun j e h' nx' => ∃ (i : Nat) (lv : Value), i + j = 256 ∧ nx + 1 ≤ nx' ∧ e 1 = ptr nx ∧ e 3 = lv ∧ e 4 = .int .i64 i ∧ Sub h h' ∧ Fr h' nx' ∧
    h'.get nx = some (.cells (setL m).toArray y_api_Set) ∧ Own h' lv 1 y_uint8 (bytesC (lst m i)) (nx + 1) nx') ?_ (n := 256) ⟨0, _, by omega, by omega, rfl, rfl, rfl, ?_, ?_, ?_, Own.nil⟩
  · rintro j e h' nx' ⟨i, lv, hij, hnx, e1, e3, e4, hs, hf', g0, ho⟩ Q' hq hx
    unfold ref01_List_L1
    rw [e1, e3, e4]
    (repeat (first | refine bindP_mk (by simp (disch := first | omega | exact Int.natCast_nonneg _ | assumption) only [BB, B2, ↓reduceIte, Nat.reduceLeDiff, Nat.reduceAdd, intB_eql, intB_neq, intB_lss, intB_leq, intB_gtr, intB_geq] <;> rfl) ?_ | refine newP_mk ?_ | refine optP_mk ?_ | with_reducible first | refine condP_t ?_ | refine condP_f ?_ | refine ifP_tt' ?_ | refine ifP_ff' ?_ | refine ifP_tf' ?_ | refine ifP_ft' ?_ | refine ifP_u' ?_ | refine optP_mk0 ?_))
    by_cases hi : i < 256
    · refine condP_tr (by simp; omega) ?_
      refine bindP_mk (loadA_all g0 rfl) ?_
      (repeat (first | refine bindP_mk (by simp (disch := first | omega | exact Int.natCast_nonneg _ | assumption) only [BB, B2, ↓reduceIte, Nat.reduceLeDiff, Nat.reduceAdd, intB_eql, intB_neq, intB_lss, intB_leq, intB_gtr, intB_geq] <;> rfl) ?_ | refine newP_mk ?_ | refine optP_mk ?_ | with_reducible first | refine condP_t ?_ | refine condP_f ?_ | refine ifP_tt' ?_ | refine ifP_ff' ?_ | refine ifP_tf' ?_ | refine ifP_ft' ?_ | refine ifP_u' ?_ | refine optP_mk0 ?_))
      refine ref01_Has_c hi (hf'.mono (by omega)) fun n1 hn1 => ?_
      have hj2 : ∀ (e : Env) (h1 : T Obj) (n2 : Nat) (lv : Value), nx' ≤ n2 → e 1 = ptr nx → e 3 = lv → e 4 = .int .i64 i → Sub h h1 → Fr h1 n2 → h1.get nx = some (.cells (setL m).toArray y_api_Set) →
          Own h1 lv 1 y_uint8 (bytesC (lst m (i + 1))) (nx + 1) n2 → ref01_List_j2 ro Q' e h1 n2 := by
        intro e h1 n2 lv hn2 e1 e3 e4 hs1 hf1 g0 ho1
        unfold ref01_List_j2
        rw [e4]
        (repeat (first | refine bindP_mk (by simp (disch := first | omega | exact Int.natCast_nonneg _ | assumption) only [BB, B2, ↓reduceIte, Nat.reduceLeDiff, Nat.reduceAdd, intB_eql, intB_neq, intB_lss, intB_leq, intB_gtr, intB_geq] <;> rfl) ?_ | refine newP_mk ?_ | refine optP_mk ?_ | with_reducible first | refine condP_t ?_ | refine condP_f ?_ | refine ifP_tt' ?_ | refine ifP_ff' ?_ | refine ifP_tf' ?_ | refine ifP_ft' ?_ | refine ifP_u' ?_ | refine optP_mk0 ?_))
        exact hq (j - 1) _ _ _ _ (by omega) ⟨i + 1, lv, by omega, by omega, e1, e3, rfl, hs1, hf1.mono (by omega), g0, ho1.keep (by omega) fun _ _ _ _ hg => hg⟩ (Sub.refl _)
      cases hb : m.testBit i with
      | true =>
        refine condP_tr rfl ?_
        (repeat (first | refine bindP_mk (by simp (disch := first | omega | exact Int.natCast_nonneg _ | assumption) only [BB, B2, ↓reduceIte, Nat.reduceLeDiff, Nat.reduceAdd, intB_eql, intB_neq, intB_lss, intB_leq, intB_gtr, intB_geq] <;> rfl) ?_ | refine newP_mk ?_ | refine optP_mk ?_ | with_reducible first | refine condP_t ?_ | refine condP_f ?_ | refine ifP_tt' ?_ | refine ifP_ff' ?_ | refine ifP_tf' ?_ | refine ifP_ft' ?_ | refine ifP_u' ?_ | refine optP_mk0 ?_))
        refine append_lit8 (h0 := h) (nx0 := nx) (nx := n1) (lo := nx + 1) (hi := nx') ho (Nat.le_trans (lst_len _ _) (by omega)) (hf'.mono (by omega)) hs hf (by omega) (by omega) (by omega) (by omega) (by omega) (by omega) fun h2 r q1 q2 q3 q4 => ?_
        dsimp only
        refine hj2 _ _ _ r (by omega) e1 rfl e4 q2 (q3.mono (by omega)) ?_ ?_
        · rw [q4 _ (.inl (by omega)) (by omega) (by omega)]; exact g0
        · rw [lst_succ, hb, if_pos rfl]; exact q1.keep (by omega) fun _ _ _ _ hg => hg
      | false =>
        refine condP_fa rfl ?_
        refine hj2 _ _ _ lv (by omega) e1 e3 e4 hs (hf'.mono (by omega)) g0 ?_
        rw [lst_succ, hb, if_neg (by simp), List.append_nil]; exact ho.keep (by omega) fun _ _ _ _ hg => hg
    · refine condP_fa (by simp; omega) ?_
      refine hx _ _ _ _ (fun e => by cases e) (exP_e (beqP_t ?_))
      have hi2 : i = 256 := by omega
      subst hi2
      unfold ref01_List_j1
      have f3 : ∀ a b, Env.put (Env.put e 5 a) 6 b 3 = lv := fun a b => e3
      simp only [puts, f3]
      refine ⟨h', Sub.refl _, hK _ _ _ (by omega) hs (hf'.mono (by omega)) ?_⟩
      rcases ho with ho | ⟨id, h1, h2, h3⟩
      · exact .inl ho
      · exact .inr ⟨id, by omega, by omega, h3⟩
  · exact (Sub.refl h).new hf (Nat.le_refl _)
  · exact hf.upd (m := nx + 4) (by omega) (by omega)
  · simp (disch := first | omega | exact Int.natCast_nonneg _ | assumption) only [BB, B2, ↓reduceIte, Nat.reduceLeDiff, Nat.reduceAdd, intB_eql, intB_neq, intB_lss, intB_leq, intB_gtr, intB_geq, setV_cells]
end V
end Go.Proofs.Ytmmdcdjkmakgpaa

