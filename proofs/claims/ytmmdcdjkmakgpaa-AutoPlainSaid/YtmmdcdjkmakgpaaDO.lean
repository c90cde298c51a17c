/- CO: texts of layer 2, for a seat of more.
   No condition. -/
import Derived.Test.YtmmdcdjkmakgpaaDL
set_option linter.unusedVariables false
set_option linter.unusedSimpArgs false
namespace Go.Proofs.Ytmmdcdjkmakgpaa
set_option maxRecDepth 20000
namespace V
open PA
/-- The least byte of a class, from one on; 0 if there is none. -/
def lb (c : List Nat) (k i : Nat) : Nat := ((List.range' i (256 - i)).find? fun b => decide (c.getD b 0 = k)).getD 0
theorem lb_end (c : List Nat) (k : Nat) : lb c k 256 = 0 := rfl
theorem lb_step {c : List Nat} {k i : Nat} (hi : i < 256) : lb c k i = if c.getD i 0 = k then i else lb c k (i + 1) := by
  unfold lb
  rw [show 256 - i = (256 - (i + 1)) + 1 by omega, List.range'_succ, List.find?_cons]
  by_cases h : c.getD i 0 = k
  · rw [if_pos h, decide_eq_true h]; rfl
  · rw [if_neg h, decide_eq_false h]
/-- The least byte of each class. -/
def firstZ (c : List Nat) (n : Int) : List Nat := if n < 1 ∨ 256 < n then [] else (List.range n.toNat).map fun k => lb c k 0
theorem ixSl_own {id z len cap i : Nat} (k : IntKind) (hi : i < len) : ixSl z (.slice (some (own id z)) len cap) (.int k (i : Int)) = some (at_ id (i * z) 0) := by
  have hn : natV (.int k (i : Int)) = some i := by simp [natV]
  have hb : Nat.blt i len = true := by simp [Nat.blt]; omega
  unfold ixSl
  rw [hn]
  simp only [Option.bind_some, hb, own, Nat.beq_refl]
  simp [elt]
theorem zerosV_u8 : ∀ n : Nat, zerosV [.int .u8 0] n = u8s (List.replicate n 0)
  | 0 => rfl
  | n + 1 => by
    have := zerosV_u8 n
    simp only [zerosV, this, u8s, List.replicate_succ, List.map_cons]; rfl
theorem make_u8 {aid n : Nat} (h0 : 1 ≤ n) (h1 : n ≤ 1000000) : makeV Try.prog y_s_uint8 aid (.int .i64 (n : Int)) (.int .i64 (n : Int)) = some (.slice (some (own aid 1)) n n, some (.cells (u8s (List.replicate n 0)).toArray y_uint8)) := by
  obtain ⟨i, g1, g2, g3⟩ := tin_u8
  have hb : Nat.ble n big = true := Nat.ble_eq_true_of_le (by unfold big; omega)
  have e1 : decide ((0 : Int) ≤ (n : Int)) = true := by simp
  have e2 : decide ((n : Int) ≤ (n : Int)) = true := by simp
  have e3 : decide ((n : Int) ≤ 70368744177664) = true := by simp; omega
  have hz : zrow Try.prog y_uint8 n = some (u8s (List.replicate n 0)) := by
    obtain ⟨m, rfl⟩ : ∃ m, n = m + 1 := ⟨n - 1, by omega⟩
    have hs : siz Try.prog y_uint8 = some 1 := by kernel_rfl
    unfold zrow
    simp only [zer_u8, hs, Option.bind_some]
    have h3 : Nat.beq (Value.cells (.int .u8 0)).size 1 = true := rfl
    have h4 : Nat.blt 0 1 = true := rfl
    rw [h3, h4]
    simp only
    rw [← zerosV_u8]; rfl
  unfold makeV
  simp only [und_u8s, e1, e2, g1, Option.bind_some, g3, Nat.mul_one, Int.toNat_natCast, hb, e3, hz, g2]
theorem flat_bytesC (l : List Nat) : (bytesC l).flatten = u8s l := by
  induction l with
  | nil => rfl
  | cons a l ih => simp only [bytesC, u8s, List.map_cons, List.flatten_cons] at ih ⊢; rw [ih]; rfl
theorem u8s_set {l : List Nat} {i v : Nat} : (u8s l).set i (.int .u8 (v : Int)) = u8s (l.set i v) := by simp [u8s, List.map_set]
set_option maxRecDepth 4000 in
theorem split_First_c {ro : Ro} {c : List Nat} {n : Int} (hc : c.length = 256) (hcl : ∀ x ∈ c, x < 256) {h : T Obj} {nx : Nat} {K : KV} (hf : Fr h nx) (hK : ∀ r h' nx', nx ≤ nx' → Sub h h' → Fr h' nx' → Own h' r 1 y_uint8 (bytesC (firstZ c n)) nx nx' → K r h' nx') : callP Try.prog ro i_split_First [splitI c n] h nx K := by
  apply split_First_of
  unfold split_First
  refine newP_mk ?_
  have hg := splitLI_many (n := n) hc
  have g0 : (h.upd nx (some (.cells (Value.cells (splitI c n)) y_api_Split))).get nx = some (.cells (splitLI c n).toArray y_api_Split) := by rw [T.get_upd_same]; rfl
  have hs0 : Sub h (h.upd nx (some (.cells (Value.cells (splitI c n)) y_api_Split))) := (Sub.refl h).new hf (Nat.le_refl _)
  have hf0 : Fr (h.upd nx (some (.cells (Value.cells (splitI c n)) y_api_Split))) (nx + 1) := (hf.mono (Nat.le_succ _)).upd (Nat.le_refl _) (by omega)
  generalize (h.upd nx (some (.cells (Value.cells (splitI c n)) y_api_Split))) = h0 at g0 hs0 hf0
  (repeat (first | refine bindP_mk (by simp (disch := first | omega | exact Int.natCast_nonneg _ | assumption) only [BB, B2, ↓reduceIte, Nat.reduceLeDiff, Nat.reduceAdd, intB_eql, intB_neq, intB_lss, intB_leq, intB_gtr, intB_geq, g0, hg] <;> rfl) ?_ | refine newP_mk ?_ | refine optP_mk ?_ | with_reducible first | refine condP_t ?_ | refine condP_f ?_ | refine ifP_tt' ?_ | refine ifP_ff' ?_ | refine ifP_tf' ?_ | refine ifP_ft' ?_ | refine ifP_u' ?_ | refine optP_mk0 ?_))
  by_cases h1 : n < 1
  · rw [decide_eq_true h1]
    (repeat (first | refine bindP_mk (by simp (disch := first | omega | exact Int.natCast_nonneg _ | assumption) only [BB, B2, ↓reduceIte, Nat.reduceLeDiff, Nat.reduceAdd, intB_eql, intB_neq, intB_lss, intB_leq, intB_gtr, intB_geq, g0, hg] <;> rfl) ?_ | refine newP_mk ?_ | refine optP_mk ?_ | with_reducible first | refine condP_t ?_ | refine condP_f ?_ | refine ifP_tt' ?_ | refine ifP_ff' ?_ | refine ifP_tf' ?_ | refine ifP_ft' ?_ | refine ifP_u' ?_ | refine optP_mk0 ?_))
    exact ⟨h0, Sub.refl _, hK _ _ _ (by omega) hs0 (hf0.mono (by omega)) (by unfold firstZ; rw [if_pos (.inl h1)]; exact Own.nil)⟩
  rw [decide_eq_false h1]
  (repeat (first | refine bindP_mk (by simp (disch := first | omega | exact Int.natCast_nonneg _ | assumption) only [BB, B2, ↓reduceIte, Nat.reduceLeDiff, Nat.reduceAdd, intB_eql, intB_neq, intB_lss, intB_leq, intB_gtr, intB_geq, g0, hg] <;> rfl) ?_ | refine newP_mk ?_ | refine optP_mk ?_ | with_reducible first | refine condP_t ?_ | refine condP_f ?_ | refine ifP_tt' ?_ | refine ifP_ff' ?_ | refine ifP_tf' ?_ | refine ifP_ft' ?_ | refine ifP_u' ?_ | refine optP_mk0 ?_))
  by_cases h2 : 256 < n
  · rw [decide_eq_true h2]
    (repeat (first | refine bindP_mk (by simp (disch := first | omega | exact Int.natCast_nonneg _ | assumption) only [BB, B2, ↓reduceIte, Nat.reduceLeDiff, Nat.reduceAdd, intB_eql, intB_neq, intB_lss, intB_leq, intB_gtr, intB_geq, g0, hg] <;> rfl) ?_ | refine newP_mk ?_ | refine optP_mk ?_ | with_reducible first | refine condP_t ?_ | refine condP_f ?_ | refine ifP_tt' ?_ | refine ifP_ff' ?_ | refine ifP_tf' ?_ | refine ifP_ft' ?_ | refine ifP_u' ?_ | refine optP_mk0 ?_))
    exact ⟨h0, Sub.refl _, hK _ _ _ (by omega) hs0 (hf0.mono (by omega)) (by unfold firstZ; rw [if_pos (.inr h2)]; exact Own.nil)⟩
  rw [decide_eq_false h2]
  obtain ⟨k0, rfl⟩ : ∃ k0 : Nat, n = (k0 : Int) := ⟨n.toNat, by omega⟩
  (repeat (first | refine bindP_mk (by simp (disch := first | omega | exact Int.natCast_nonneg _ | assumption) only [BB, B2, ↓reduceIte, Nat.reduceLeDiff, Nat.reduceAdd, intB_eql, intB_neq, intB_lss, intB_leq, intB_gtr, intB_geq, g0, hg] <;> rfl) ?_ | refine newP_mk ?_ | refine optP_mk ?_ | with_reducible first | refine condP_t ?_ | refine condP_f ?_ | refine ifP_tt' ?_ | refine ifP_ff' ?_ | refine ifP_tf' ?_ | refine ifP_ft' ?_ | refine ifP_u' ?_ | refine optP_mk0 ?_))
  refine bindP_mk (make_u8 (by omega) (by omega)) (optP_mk ?_)
  generalize hN : nx + 7 + 1 + 1 + 3 = ob
  refine loopP_rule (fun j e h' nx' => ∃ i : Nat, i = j ∧ i ≤ 256 ∧ ob + 1 ≤ nx' ∧ e 1 = ptr nx ∧ e 3 = .slice (some (own ob 1)) k0 k0 ∧ e 4 = .int .i64 ((i : Int) - 1) ∧ Sub h h' ∧ Fr h' nx' ∧
    h'.get nx = some (.cells (splitLI c k0).toArray y_api_Split) ∧ h'.get ob = some (.cells (u8s ((List.range k0).map fun k => lb c k i)).toArray y_uint8)) ?_ (n := 256) ⟨256, rfl, by omega, by omega, rfl, rfl, rfl, ?_, ?_, ?_, ?_⟩
  · rintro j e h' nx' ⟨i, rfl, hi, hnx, e1, e3, e4, hs, hf', g0, g1⟩ Q' hq hx
    unfold split_First_L1
    rw [e1, e3, e4]
    (repeat (first | refine bindP_mk (by simp (disch := first | omega | exact Int.natCast_nonneg _ | assumption) only [BB, B2, ↓reduceIte, Nat.reduceLeDiff, Nat.reduceAdd, intB_eql, intB_neq, intB_lss, intB_leq, intB_gtr, intB_geq] <;> rfl) ?_ | refine newP_mk ?_ | refine optP_mk ?_ | with_reducible first | refine condP_t ?_ | refine condP_f ?_ | refine ifP_tt' ?_ | refine ifP_ff' ?_ | refine ifP_tf' ?_ | refine ifP_ft' ?_ | refine ifP_u' ?_ | refine optP_mk0 ?_))
    by_cases hi0 : 0 < i
    · refine condP_tr (by simp; omega) ?_
      obtain ⟨b, rfl⟩ : ∃ b, i = b + 1 := ⟨i - 1, by omega⟩
      have hbb : (((b + 1 : Nat) : Int) - 1) = (b : Int) := by omega
      rw [hbb] at e4 ⊢
      have hbc : b < c.length := by omega
      have hcb := hcl _ (List.getElem_mem hbc)
      have hgb := splitLI_get (n := (k0 : Int)) hbc
      have hgd : c.getD b 0 = c[b] := by rw [List.getD_eq_getElem?_getD, List.getElem?_eq_getElem hbc]; rfl
      (repeat (first | refine bindP_mk (by simp (disch := first | omega | exact Int.natCast_nonneg _ | assumption) only [BB, B2, ↓reduceIte, Nat.reduceLeDiff, Nat.reduceAdd, intB_eql, intB_neq, intB_lss, intB_leq, intB_gtr, intB_geq, g0, hg, hgb] <;> rfl) ?_ | refine newP_mk ?_ | refine optP_mk ?_ | with_reducible first | refine condP_t ?_ | refine condP_f ?_ | refine ifP_tt' ?_ | refine ifP_ff' ?_ | refine ifP_tf' ?_ | refine ifP_ft' ?_ | refine ifP_u' ?_ | refine optP_mk0 ?_))
      have hj2 : ∀ (e : Env) (h2 : T Obj) (n2 : Nat), nx' ≤ n2 → e 1 = ptr nx → e 3 = .slice (some (own ob 1)) k0 k0 → e 4 = .int .i64 (b : Int) → Sub h h2 → Fr h2 n2 → h2.get nx = some (.cells (splitLI c k0).toArray y_api_Split) →
          h2.get ob = some (.cells (u8s ((List.range k0).map fun k => lb c k b)).toArray y_uint8) → split_First_j2 ro Q' e h2 n2 := by
        intro e h2 n2 hn2 e1 e3 e4 hs2 hf2 g0 g1
        unfold split_First_j2
        rw [e4]
        (repeat (first | refine bindP_mk (by simp (disch := first | omega | exact Int.natCast_nonneg _ | assumption) only [BB, B2, ↓reduceIte, Nat.reduceLeDiff, Nat.reduceAdd, intB_eql, intB_neq, intB_lss, intB_leq, intB_gtr, intB_geq] <;> rfl) ?_ | refine newP_mk ?_ | refine optP_mk ?_ | with_reducible first | refine condP_t ?_ | refine condP_f ?_ | refine ifP_tt' ?_ | refine ifP_ff' ?_ | refine ifP_tf' ?_ | refine ifP_ft' ?_ | refine ifP_u' ?_ | refine optP_mk0 ?_))
        exact hq b _ _ _ _ (by omega) ⟨b, rfl, by omega, by omega, e1, e3, rfl, hs2, hf2.mono (by omega), g0, g1⟩ (Sub.refl _)
      have hlb : ∀ k, lb c k b = if c[b] = k then b else lb c k (b + 1) := fun k => by rw [lb_step (by omega), hgd]
      by_cases hlt : c[b] < k0
      · refine condP_tr (by simp; omega) ?_
        (repeat (first | refine bindP_mk (by simp (disch := first | omega | exact Int.natCast_nonneg _ | assumption) only [BB, B2, ↓reduceIte, Nat.reduceLeDiff, Nat.reduceAdd, intB_eql, intB_neq, intB_lss, intB_leq, intB_gtr, intB_geq] <;> rfl) ?_ | refine newP_mk ?_ | refine optP_mk ?_ | with_reducible first | refine condP_t ?_ | refine condP_f ?_ | refine ifP_tt' ?_ | refine ifP_ff' ?_ | refine ifP_tf' ?_ | refine ifP_ft' ?_ | refine ifP_u' ?_ | refine optP_mk0 ?_))
        refine bindP_mk (ixSl_own _ hlt) ?_
        have hul : (u8s ((List.range k0).map fun k => lb c k (b + 1))).length = k0 := by rw [u8s_len, List.length_map, List.length_range]
        refine bindP_mk (store1_own g1 (by rw [hul]; omega) rfl rfl) ?_
        refine hj2 _ _ _ (by omega) e1 e3 e4 (hs.new hf (by omega)) ((hf'.mono (by omega)).upd (Nat.le_refl _) (by omega)) ?_ ?_
        · simp (disch := first | omega | exact Int.natCast_nonneg _ | assumption) only [BB, B2, ↓reduceIte, Nat.reduceLeDiff, Nat.reduceAdd, intB_eql, intB_neq, intB_lss, intB_leq, intB_gtr, intB_geq, g0]
        · rw [T.get_upd_same, Nat.mul_one, u8s_set]
          congr 4
          apply List.ext_getElem
          · simp
          · intro q h5 h6
            simp only [List.getElem_set, List.getElem_map, List.getElem_range, hlb]
      · refine condP_fa (by simp; omega) ?_
        refine hj2 _ _ _ (by omega) e1 e3 e4 hs (hf'.mono (by omega)) g0 ?_
        rw [g1]
        congr 4
        apply List.map_congr_left
        intro k hk
        have hk := List.mem_range.1 hk
        rw [hlb, if_neg (by omega)]
    · refine condP_fa (by simp; omega) ?_
      refine hx _ _ _ _ (fun e => by cases e) (exP_e (beqP_t ?_))
      have hi2 : i = 0 := by omega
      subst hi2
      unfold split_First_j1
      have f3 : ∀ a b, Env.put (Env.put e 17 a) 18 b 3 = .slice (some (own ob 1)) k0 k0 := fun a b => e3
      simp only [puts, f3]
      have hfz : firstZ c (k0 : Int) = (List.range k0).map fun k => lb c k 0 := by unfold firstZ; rw [if_neg (by omega)]; simp
      refine ⟨h', Sub.refl _, hK _ _ _ (by omega) hs (hf'.mono (by omega)) ?_⟩
      rw [hfz]
      refine .inr ⟨ob, by omega, by omega, ?_, by simp [bytesC], by rw [flat_bytesC]; exact g1⟩
      rw [bytesC_len, List.length_map, List.length_range]
  · exact hs0.new hf (by omega)
  · exact (hf0.mono (by omega)).upd (Nat.le_refl _) (by omega)
  · simp (disch := first | omega | exact Int.natCast_nonneg _ | assumption) only [BB, B2, ↓reduceIte, Nat.reduceLeDiff, Nat.reduceAdd, intB_eql, intB_neq, intB_lss, intB_leq, intB_gtr, intB_geq, g0]
  · rw [T.get_upd_same]
    congr 4
    apply List.ext_getElem
    · simp
    · intro q h5 h6
      simp [lb_end]
theorem listS_cls {c : List Nat} {k : Int} : listS (clsS c k) = mem c k 256 := by
  unfold listS lst mem
  apply List.filter_congr
  intro b hb
  have hb := List.mem_range.1 hb
  unfold clsS
  rw [testBit_ofBytes]
  simp [mem, hb]
theorem mem_head {c : List Nat} {k : Nat} : (mem c (k : Int) 256).head?.getD 0 = lb c k 0 := by
  unfold mem lb
  rw [List.head?_filter]
  have : (fun b => decide (((c.getD b 0 : Nat) : Int) = (k : Int))) = fun b => decide (c.getD b 0 = k) := by
    funext b
    by_cases h : c.getD b 0 = k
    · rw [decide_eq_true h, decide_eq_true (by rw [h])]
    · rw [decide_eq_false h, decide_eq_false (by omega)]
  rw [this, ← List.range_eq_range']
set_option maxRecDepth 4000 in
theorem ref02_First_c {ro : Ro} {c : List Nat} {n : Int} (hc : c.length = 256) (hcl : ∀ x ∈ c, x < 256) {h : T Obj} {nx : Nat} {K : KV} (hf : Fr h nx) (hK : ∀ r h' nx', nx ≤ nx' → Sub h h' → Fr h' nx' → Own h' r 1 y_uint8 (bytesC (firstZ c n)) nx nx' → K r h' nx') : callP Try.prog ro i_ref02_First [splitI c n] h nx K := by
  apply ref02_First_of
  unfold ref02_First
  refine newP_mk ?_
  have hg := splitLI_many (n := n) hc
  have g0 : (h.upd nx (some (.cells (Value.cells (splitI c n)) y_api_Split))).get nx = some (.cells (splitLI c n).toArray y_api_Split) := by rw [T.get_upd_same]; rfl
  have hs0 : Sub h (h.upd nx (some (.cells (Value.cells (splitI c n)) y_api_Split))) := (Sub.refl h).new hf (Nat.le_refl _)
  have hf0 : Fr (h.upd nx (some (.cells (Value.cells (splitI c n)) y_api_Split))) (nx + 1) := (hf.mono (Nat.le_succ _)).upd (Nat.le_refl _) (by omega)
  generalize (h.upd nx (some (.cells (Value.cells (splitI c n)) y_api_Split))) = h0 at g0 hs0 hf0
  (repeat (first | refine bindP_mk (by simp (disch := first | omega | exact Int.natCast_nonneg _ | assumption) only [BB, B2, ↓reduceIte, Nat.reduceLeDiff, Nat.reduceAdd, intB_eql, intB_neq, intB_lss, intB_leq, intB_gtr, intB_geq, g0, hg] <;> rfl) ?_ | refine newP_mk ?_ | refine optP_mk ?_ | with_reducible first | refine condP_t ?_ | refine condP_f ?_ | refine ifP_tt' ?_ | refine ifP_ff' ?_ | refine ifP_tf' ?_ | refine ifP_ft' ?_ | refine ifP_u' ?_ | refine optP_mk0 ?_))
  by_cases h1 : n < 1
  · rw [decide_eq_true h1]
    (repeat (first | refine bindP_mk (by simp (disch := first | omega | exact Int.natCast_nonneg _ | assumption) only [BB, B2, ↓reduceIte, Nat.reduceLeDiff, Nat.reduceAdd, intB_eql, intB_neq, intB_lss, intB_leq, intB_gtr, intB_geq, g0, hg] <;> rfl) ?_ | refine newP_mk ?_ | refine optP_mk ?_ | with_reducible first | refine condP_t ?_ | refine condP_f ?_ | refine ifP_tt' ?_ | refine ifP_ff' ?_ | refine ifP_tf' ?_ | refine ifP_ft' ?_ | refine ifP_u' ?_ | refine optP_mk0 ?_))
    exact ⟨h0, Sub.refl _, hK _ _ _ (by omega) hs0 (hf0.mono (by omega)) (by unfold firstZ; rw [if_pos (.inl h1)]; exact Own.nil)⟩
  rw [decide_eq_false h1]
  (repeat (first | refine bindP_mk (by simp (disch := first | omega | exact Int.natCast_nonneg _ | assumption) only [BB, B2, ↓reduceIte, Nat.reduceLeDiff, Nat.reduceAdd, intB_eql, intB_neq, intB_lss, intB_leq, intB_gtr, intB_geq, g0, hg] <;> rfl) ?_ | refine newP_mk ?_ | refine optP_mk ?_ | with_reducible first | refine condP_t ?_ | refine condP_f ?_ | refine ifP_tt' ?_ | refine ifP_ff' ?_ | refine ifP_tf' ?_ | refine ifP_ft' ?_ | refine ifP_u' ?_ | refine optP_mk0 ?_))
  by_cases h2 : 256 < n
  · rw [decide_eq_true h2]
    (repeat (first | refine bindP_mk (by simp (disch := first | omega | exact Int.natCast_nonneg _ | assumption) only [BB, B2, ↓reduceIte, Nat.reduceLeDiff, Nat.reduceAdd, intB_eql, intB_neq, intB_lss, intB_leq, intB_gtr, intB_geq, g0, hg] <;> rfl) ?_ | refine newP_mk ?_ | refine optP_mk ?_ | with_reducible first | refine condP_t ?_ | refine condP_f ?_ | refine ifP_tt' ?_ | refine ifP_ff' ?_ | refine ifP_tf' ?_ | refine ifP_ft' ?_ | refine ifP_u' ?_ | refine optP_mk0 ?_))
    exact ⟨h0, Sub.refl _, hK _ _ _ (by omega) hs0 (hf0.mono (by omega)) (by unfold firstZ; rw [if_pos (.inr h2)]; exact Own.nil)⟩
  rw [decide_eq_false h2]
  obtain ⟨k0, rfl⟩ : ∃ k0 : Nat, n = (k0 : Int) := ⟨n.toNat, by omega⟩
  (repeat (first | refine bindP_mk (by simp (disch := first | omega | exact Int.natCast_nonneg _ | assumption) only [BB, B2, ↓reduceIte, Nat.reduceLeDiff, Nat.reduceAdd, intB_eql, intB_neq, intB_lss, intB_leq, intB_gtr, intB_geq, g0, hg] <;> rfl) ?_ | refine newP_mk ?_ | refine optP_mk ?_ | with_reducible first | refine condP_t ?_ | refine condP_f ?_ | refine ifP_tt' ?_ | refine ifP_ff' ?_ | refine ifP_tf' ?_ | refine ifP_ft' ?_ | refine ifP_u' ?_ | refine optP_mk0 ?_))
  refine loopP_rule (fun j e h' nx' => ∃ (i : Nat) (lv : Value), i + j = k0 ∧ nx + 1 ≤ nx' ∧ e 1 = ptr nx ∧ e 3 = lv ∧ e 4 = .int .i64 (i : Int) ∧ Sub h h' ∧ Fr h' nx' ∧
    h'.get nx = some (.cells (splitLI c k0).toArray y_api_Split) ∧ Own h' lv 1 y_uint8 (bytesC ((List.range i).map fun k => lb c k 0)) (nx + 1) nx') ?_ (n := k0) ⟨0, _, by omega, by omega, rfl, rfl, rfl, hs0, hf0.mono (by omega), g0, Own.nil⟩
  rintro j e h' nx' ⟨i, lv, hij, hnx, e1, e3, e4, hs, hf', g0, ho⟩ Q' hq hx
  unfold ref02_First_L1
  rw [e1, e3, e4]
  (repeat (first | refine bindP_mk (by simp (disch := first | omega | exact Int.natCast_nonneg _ | assumption) only [BB, B2, ↓reduceIte, Nat.reduceLeDiff, Nat.reduceAdd, intB_eql, intB_neq, intB_lss, intB_leq, intB_gtr, intB_geq, g0, hg] <;> rfl) ?_ | refine newP_mk ?_ | refine optP_mk ?_ | with_reducible first | refine condP_t ?_ | refine condP_f ?_ | refine ifP_tt' ?_ | refine ifP_ff' ?_ | refine ifP_tf' ?_ | refine ifP_ft' ?_ | refine ifP_u' ?_ | refine optP_mk0 ?_))
  by_cases hi : i < k0
  · refine condP_tr (by simp; omega) ?_
    refine bindP_mk (loadA_all g0 (splitLI_len hc)) ?_
    refine ref02_Set_c (n := (k0 : Int)) hc hcl (hf'.mono (by omega)) fun n1 hn1 => ?_
    refine ref01_List_c (hf'.mono (by omega)) fun r h2 n2 hn2 hs2 hf2 hr => ?_
    rw [listS_cls] at hr
    have hlen := (hr.sl (ro := ro)).len
    rw [bytesC_len] at hlen
    refine bindP_mk hlen ?_
    (repeat (first | refine bindP_mk (by simp (disch := first | omega | exact Int.natCast_nonneg _ | assumption) only [BB, B2, ↓reduceIte, Nat.reduceLeDiff, Nat.reduceAdd, intB_eql, intB_neq, intB_lss, intB_leq, intB_gtr, intB_geq] <;> rfl) ?_ | refine newP_mk ?_ | refine optP_mk ?_ | with_reducible first | refine condP_t ?_ | refine condP_f ?_ | refine ifP_tt' ?_ | refine ifP_ff' ?_ | refine ifP_tf' ?_ | refine ifP_ft' ?_ | refine ifP_u' ?_ | refine optP_mk0 ?_))
    have hrange : (List.range (i + 1)).map (fun k => lb c k 0) = (List.range i).map (fun k => lb c k 0) ++ [lb c i 0] := by rw [List.range_succ, List.map_append]; rfl
    have hol : ((List.range i).map fun k => lb c k 0).length ≤ 1000000 := by rw [List.length_map, List.length_range]; omega
    have ho2 : Own h2 lv 1 y_uint8 (bytesC ((List.range i).map fun k => lb c k 0)) (nx + 1) nx' := ho.keep (Nat.le_refl _) fun id _ _ o hg => hs2 _ _ hg
    have hj2 : ∀ (e : Env) (h3 : T Obj) (n3 : Nat) (lv : Value), nx' ≤ n3 → e 1 = ptr nx → e 3 = lv → e 4 = .int .i64 (i : Int) → Sub h h3 → Fr h3 n3 → h3.get nx = some (.cells (splitLI c k0).toArray y_api_Split) →
        Own h3 lv 1 y_uint8 (bytesC ((List.range (i + 1)).map fun k => lb c k 0)) (nx + 1) n3 → ref02_First_j2 ro Q' e h3 n3 := by
      intro e h3 n3 lv hn3 e1 e3 e4 hs3 hf3 g0 ho3
      unfold ref02_First_j2
      rw [e4]
      (repeat (first | refine bindP_mk (by simp (disch := first | omega | exact Int.natCast_nonneg _ | assumption) only [BB, B2, ↓reduceIte, Nat.reduceLeDiff, Nat.reduceAdd, intB_eql, intB_neq, intB_lss, intB_leq, intB_gtr, intB_geq] <;> rfl) ?_ | refine newP_mk ?_ | refine optP_mk ?_ | with_reducible first | refine condP_t ?_ | refine condP_f ?_ | refine ifP_tt' ?_ | refine ifP_ff' ?_ | refine ifP_tf' ?_ | refine ifP_ft' ?_ | refine ifP_u' ?_ | refine optP_mk0 ?_))
      exact hq (j - 1) _ _ _ _ (by omega) ⟨i + 1, lv, by omega, by omega, e1, e3, rfl, hs3, hf3.mono (by omega), g0, ho3.keep (by omega) fun _ _ _ _ hg => hg⟩ (Sub.refl _)
    have hhd := mem_head (c := c) (k := i)
    by_cases hm : (mem c (i : Int) 256) = []
    · refine condP_tr (by rw [hm]; rfl) ?_
      have hl0 : lb c i 0 = 0 := by rw [← hhd, hm]; rfl
      refine append_lit8 (b := 0) (h0 := h) (nx0 := nx) (nx := n2) (lo := nx + 1) (hi := nx') ho2 hol hf2 (hs.trans hs2) hf (by omega) (by omega) (by omega) (by omega) (by omega) (by omega) fun h3 r3 q1 q2 q3 q4 => ?_
      dsimp only
      refine hj2 _ _ _ r3 (by omega) e1 rfl e4 q2 (q3.mono (by omega)) ?_ ?_
      · rw [q4 _ (.inl (by omega)) (by omega) (by omega)]; exact hs2 _ _ g0
      · rw [hrange, hl0]; exact q1.keep (by omega) fun _ _ _ _ hg => hg
    · have hpos : 0 < (mem c (i : Int) 256).length := List.length_pos_iff.2 hm
      refine condP_fa (by simp; exact hm) ?_
      have hix := (hr.sl (ro := ro)).ix .i64 (i := 0) (by rw [bytesC_len]; exact hpos)
      refine bindP_mk hix ?_
      refine bindP_mk ((hr.sl (ro := ro)).load1 (bytesC_get hpos)) ?_
      have hl0 : (mem c (i : Int) 256)[0] = lb c i 0 := by rw [← hhd, List.head?_eq_getElem?, List.getElem?_eq_getElem hpos]; rfl
      rw [hl0]
      refine append_lit8 (h0 := h) (nx0 := nx) (nx := n2) (lo := nx + 1) (hi := nx') ho2 hol hf2 (hs.trans hs2) hf (by omega) (by omega) (by omega) (by omega) (by omega) (by omega) fun h3 r3 q1 q2 q3 q4 => ?_
      dsimp only
      refine hj2 _ _ _ r3 (by omega) e1 rfl e4 q2 (q3.mono (by omega)) ?_ ?_
      · rw [q4 _ (.inl (by omega)) (by omega) (by omega)]; exact hs2 _ _ g0
      · rw [hrange]; exact q1.keep (by omega) fun _ _ _ _ hg => hg
  · refine condP_fa (by simp; omega) ?_
    refine hx _ _ _ _ (fun e => by cases e) (exP_e (beqP_t ?_))
    have hi2 : i = k0 := by omega
    subst hi2
    unfold ref02_First_j1
    have f3 : ∀ a b c d, Env.put (Env.put (Env.put (Env.put e 14 a) 15 b) 16 c) 17 d 3 = lv := fun a b c d => e3
    simp only [puts, f3]
    have hfz : firstZ c (i : Int) = (List.range i).map fun k => lb c k 0 := by unfold firstZ; rw [if_neg (by omega)]; simp
    refine ⟨h', Sub.refl _, hK _ _ _ (by omega) hs (hf'.mono (by omega)) ?_⟩
    rw [hfz]
    rcases ho with ho | ⟨id, q1, q2, q3⟩
    · exact .inl ho
    · exact .inr ⟨id, by omega, by omega, q3⟩
end V
end Go.Proofs.Ytmmdcdjkmakgpaa

