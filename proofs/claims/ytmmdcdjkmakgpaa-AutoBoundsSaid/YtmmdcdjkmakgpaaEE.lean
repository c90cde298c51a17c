/- AutoBounds: whatever the input, true; its counts and its end.
   No condition. -/
import Derived.Test.YtmmdcdjkmakgpaaED
set_option linter.unusedVariables false
set_option linter.unusedSimpArgs false
namespace Go.Proofs.Ytmmdcdjkmakgpaa
namespace V
open PA
attribute [local irreducible] bindP ifP condP newP optP exP beqP
theorem cntsL_app (a b : List PosD) : cntsL (a ++ b) = cntsL a ++ cntsL b := by unfold cntsL; rw [List.filter_append, List.map_append]
theorem cntsL_get {ps : List PosD} {k : Nat} (hk : k < ps.length) (hh : 1 < ps[k].hi) : (cntsL ps)[(cntsL (ps.take k)).length]? = some (ps[k].lo, ps[k].hi) := by
  have h1 : ps = ps.take k ++ (ps[k] :: ps.drop (k + 1)) := by rw [← drop_cons hk, List.take_append_drop]
  have h2 : cntsL (ps[k] :: ps.drop (k + 1)) = (ps[k].lo, ps[k].hi) :: cntsL (ps.drop (k + 1)) := by
    unfold cntsL
    rw [List.filter_cons_of_pos (by unfold ctdP; exact decide_eq_true hh)]; rfl
  have h3 : cntsL ps = cntsL (ps.take k) ++ ((ps[k].lo, ps[k].hi) :: cntsL (ps.drop (k + 1))) := by
    rw [← h2, ← cntsL_app, ← h1]
  rw [h3, List.getElem?_append_right (Nat.le_refl _), Nat.sub_self]; rfl
section
variable {ro : Ro}
set_option maxRecDepth 8000 in
set_option maxHeartbeats 1000000 in
theorem bounds_L1_c {e : Env} {y : GlD} {A : AutoD} {err : Int} {bid : Nat} {pv cv sv : Value} (hyl : y.p.length ≤ 40) (hA0 : err = 0 → A.counts = cntsL y.p) (hA1 : err ≠ 0 → A.counts = []) (hc : A.c.length = 256) {h : T Obj} {nx : Nat} {Q : KE} (hf : Fr h nx) (hy : SlR ro h pv 9 (RPos ro h) y.p)
    (gb : h.get bid = some (.cells (autL A.c A.many cv sv).toArray y_api_Auto)) (hcv : SlR ro h cv 2 RCount A.counts)
    (e5 : e 5 = .bool true) (e11 : e 11 = .int .i64 err) (e12 : e 12 = ptr bid) (e14 : e 14 = .int .i64 0) (e90 : e 90 = pv) (e91 : e 91 = .int .i64 y.p.length) (e92 : e 92 = .int .i64 0)
    (hQ : ∀ e' h' nx', nx ≤ nx' → Fr h' nx' → Sub h h' → e' 5 = .bool true → e' 12 = ptr bid → e' 14 = .int .i64 A.counts.length → Q (.exit 2) e' h' nx') :
    loopP (law11_AutoBounds_L1 ro) e h nx Q := by
  refine loopP_rule (fun j e h' nx' => ∃ (k : Nat), k + j = y.p.length ∧ nx ≤ nx' ∧ Fr h' nx' ∧ Sub h h' ∧ e 5 = .bool true ∧ e 11 = .int .i64 err ∧ e 12 = ptr bid ∧ e 14 = .int .i64 (if err = 0 then ((cntsL (y.p.take k)).length : Int) else 0) ∧ e 90 = pv ∧ e 91 = .int .i64 y.p.length ∧ e 92 = .int .i64 k) ?_ (n := y.p.length)
    ⟨0, by omega, by omega, hf, Sub.refl _, e5, e11, e12, by rw [e14]; congr 1; split <;> rfl, e90, e91, e92⟩
  rintro j e h' nx' ⟨k, hj, hnx, hf', hs, e5, e11, e12, e14, e90, e91, e92⟩ Q' hq hx
  have hy' := hy.sub hs (RPos.sub hs)
  unfold law11_AutoBounds_L1
  rw [e11, e12, e14, e90, e91, e92]
  refine lss_s (fun hk => ?_) (fun hk => ?_)
  · have hk : k < y.p.length := by omega
    obtain ⟨x, ⟨nv, rfl, z1, z2⟩, y2, y3, y4, y5⟩ := hy'.at hk
    have htk : cntsL (y.p.take (k + 1)) = if 1 < y.p[k].hi then cntsL (y.p.take k) ++ [(y.p[k].lo, y.p[k].hi)] else cntsL (y.p.take k) := by
      rw [List.take_succ_eq_append_getElem hk, cntsL_snoc]
    have hcl : (cntsL (y.p.take k)).length ≤ 40 := by have := cntsL_len (y.p.take k); rw [List.length_take] at this; omega
    have hj3 : ∀ (e : Env) (h3 : T Obj) (n3 : Nat), nx' ≤ n3 → Fr h3 n3 → Sub h h3 → e 5 = .bool true → e 11 = .int .i64 err → e 12 = ptr bid → e 14 = .int .i64 (if err = 0 then ((cntsL (y.p.take (k + 1))).length : Int) else 0) → e 90 = pv → e 91 = .int .i64 y.p.length → e 92 = .int .i64 k → law11_AutoBounds_j3 ro Q' e h3 n3 := by
      intro e h3 n3 hn3 s1 s2 e5 e11 e12 e14 e90 e91 e92
      unfold law11_AutoBounds_j3
      rw [e92]
      (repeat (first | refine bindP_mk (by simp (disch := first | omega | exact Int.natCast_nonneg _ | assumption) only [BB, B2, ↓reduceIte, Nat.reduceLeDiff, Nat.reduceAdd, CC] <;> rfl) ?_ | refine newP_mk ?_ | refine optP_mk ?_ | with_reducible first | refine condP_t ?_ | refine condP_f ?_ | refine ifP_tt' ?_ | refine ifP_ff' ?_ | refine ifP_tf' ?_ | refine ifP_ft' ?_ | refine ifP_u' ?_ | refine optP_mk0 ?_))
      exact hq (j - 1) _ _ _ _ (by omega) ⟨k + 1, by omega, by omega, s1.mono (by omega), s2, e5, e11, e12, e14, e90, e91, rfl⟩ (Sub.refl _)
    refine condP_t (bindP_mk (hy'.ix _ hk) (bindP_mk y3 ?_))
    refine local_mk zer_PosZ rfl (x := posL y.p[k] nv) rfl rfl (posL_ok z1.ok) hf' (show nx' ≤ nx' + 3 by omega) fun h3 hs3 hf3 g3 _ => ?_
    have a5 : (posL y.p[k] nv)[5]? = some (.int .i64 y.p[k].hi) := rfl
    have a4 : (posL y.p[k] nv)[4]? = some (.int .i64 y.p[k].lo) := rfl
    have gb3 := hs3 _ _ (hs _ _ gb)
    have hc3 := hcv.sub (hs.trans hs3) fun _ _ h => h
    have hcn := hc3.len
    have b3 := autL_counts (n := A.many) (cv := cv) (sv := sv) hc
    have hs03 := hs.trans hs3
    refine eql_s (fun h0 => ?_) (fun h0 => ?_)
    · have hA := hA0 h0
      rw [if_pos h0] at hj3 ⊢
      (repeat (first | refine bindP_mk (by simp (disch := first | omega | exact Int.natCast_nonneg _ | assumption) only [BB, B2, ↓reduceIte, Nat.reduceLeDiff, Nat.reduceAdd, CC, g3, a5] <;> rfl) ?_ | refine newP_mk ?_ | refine optP_mk ?_ | with_reducible first | refine condP_t ?_ | refine condP_f ?_ | refine ifP_tt' ?_ | refine ifP_ff' ?_ | refine ifP_tf' ?_ | refine ifP_ft' ?_ | refine ifP_u' ?_ | refine optP_mk0 ?_))
      refine gtr_s (fun u => ?_) (fun u => ?_)
      · rw [if_pos u] at htk
        have hget := cntsL_get hk u
        rw [← hA] at hget
        have hml := (List.getElem?_eq_some_iff.1 hget).1
        have hge := (List.getElem?_eq_some_iff.1 hget).2
        obtain ⟨x, x1, x2, x3, x4, x5⟩ := hc3.at hml
        have x1 : x = [.int .i64 (A.counts[(cntsL (y.p.take k)).length]).1, .int .i64 (A.counts[(cntsL (y.p.take k)).length]).2] := x1
        rw [hge] at x1
        subst x1
        have i1 := hc3.ix .i64 hml
        (repeat (first | refine bindP_mk (by simp (disch := first | omega | exact Int.natCast_nonneg _ | assumption) only [BB, B2, ↓reduceIte, Nat.reduceLeDiff, Nat.reduceAdd, CC, gb3, b3, hcn] <;> rfl) ?_ | refine newP_mk ?_ | refine optP_mk ?_ | with_reducible first | refine condP_t ?_ | refine condP_f ?_ | refine ifP_tt' ?_ | refine ifP_ff' ?_ | refine ifP_tf' ?_ | refine ifP_ft' ?_ | refine ifP_u' ?_ | refine optP_mk0 ?_))
        (repeat (first | refine bindP_mk (by simp (disch := first | omega | exact Int.natCast_nonneg _ | assumption) only [BB, B2, ↓reduceIte, Nat.reduceLeDiff, Nat.reduceAdd, CC, gb3, b3, i1, x3, g3, a4, a5] <;> rfl) ?_ | refine newP_mk ?_ | refine optP_mk ?_ | with_reducible first | refine condP_t ?_ | refine condP_f ?_ | refine ifP_tt' ?_ | refine ifP_ff' ?_ | refine ifP_tf' ?_ | refine ifP_ft' ?_ | refine ifP_u' ?_ | refine optP_mk0 ?_))
        refine bindP_mk (build_cnt _ _) ?_
        (repeat (first | refine bindP_mk (by simp (disch := first | omega | exact Int.natCast_nonneg _ | assumption) only [BB, B2, ↓reduceIte, Nat.reduceLeDiff, Nat.reduceAdd, CC] <;> rfl) ?_ | refine newP_mk ?_ | refine optP_mk ?_ | with_reducible first | refine condP_t ?_ | refine condP_f ?_ | refine ifP_tt' ?_ | refine ifP_ff' ?_ | refine ifP_tf' ?_ | refine ifP_ft' ?_ | refine ifP_u' ?_ | refine optP_mk0 ?_))
        refine neq_cnt (y.p[k].lo, y.p[k].hi) ?_
        (repeat (first | refine bindP_mk (by simp (disch := first | omega | exact Int.natCast_nonneg _ | assumption) only [BB, B2, ↓reduceIte, Nat.reduceLeDiff, Nat.reduceAdd, CC] <;> rfl) ?_ | refine newP_mk ?_ | refine optP_mk ?_ | with_reducible first | refine condP_t ?_ | refine condP_f ?_ | refine ifP_tt' ?_ | refine ifP_ff' ?_ | refine ifP_tf' ?_ | refine ifP_ft' ?_ | refine ifP_u' ?_ | refine optP_mk0 ?_))
        refine hj3 _ _ _ (by omega) (hf3.mono (by omega)) hs03 e5 e11 e12 ?_ e90 e91 e92
        rw [htk]
        show Value.int .i64 _ = _
        rw [List.length_append]; rfl
      · rw [if_neg (by omega)] at htk
        (repeat (first | refine bindP_mk (by simp (disch := first | omega | exact Int.natCast_nonneg _ | assumption) only [BB, B2, ↓reduceIte, Nat.reduceLeDiff, Nat.reduceAdd, CC] <;> rfl) ?_ | refine newP_mk ?_ | refine optP_mk ?_ | with_reducible first | refine condP_t ?_ | refine condP_f ?_ | refine ifP_tt' ?_ | refine ifP_ff' ?_ | refine ifP_tf' ?_ | refine ifP_ft' ?_ | refine ifP_u' ?_ | refine optP_mk0 ?_))
        refine hj3 _ _ _ (by omega) (hf3.mono (by omega)) hs03 e5 e11 e12 ?_ e90 e91 e92
        rw [htk]; rw [if_pos h0] at e14; exact e14
    · rw [if_neg h0] at hj3 ⊢
      (repeat (first | refine bindP_mk (by simp (disch := first | omega | exact Int.natCast_nonneg _ | assumption) only [BB, B2, ↓reduceIte, Nat.reduceLeDiff, Nat.reduceAdd, CC] <;> rfl) ?_ | refine newP_mk ?_ | refine optP_mk ?_ | with_reducible first | refine condP_t ?_ | refine condP_f ?_ | refine ifP_tt' ?_ | refine ifP_ff' ?_ | refine ifP_tf' ?_ | refine ifP_ft' ?_ | refine ifP_u' ?_ | refine optP_mk0 ?_))
      refine hj3 _ _ _ (by omega) (hf3.mono (by omega)) hs03 e5 e11 e12 ?_ e90 e91 e92
      rw [if_neg h0] at e14; exact e14
  · have hkl : k = y.p.length := by omega
    subst hkl
    rw [List.take_length] at e14
    refine condP_f (hx _ _ _ _ (fun e => by cases e) ?_)
    refine hQ _ _ _ (by omega) (hf'.mono (by omega)) hs e5 e12 ?_
    show e 14 = _
    rw [e14]
    by_cases h0 : err = 0
    · rw [if_pos h0, hA0 h0]
    · rw [if_neg h0, hA1 h0]; rfl
set_option maxRecDepth 8000 in
set_option maxHeartbeats 2000000 in
theorem law11_AutoBounds_c {v w : Value} {g : GlD} {l : List (Nat × Nat)} {h : T Obj} {nx : Nat} {K : KV} (hf : Fr h nx) (hg : RG ro h v g) (hw : SlR ro h w 2 RPair l) (hK : ∀ h' nx', K (.bool true) h' nx') : callP Try.prog ro i_law11_AutoBounds [v, w] h nx K := by
  have hg0 := hg
  obtain ⟨a, b, rfl, ha, hb⟩ := hg
  apply law11_AutoBounds_of
  unfold law11_AutoBounds
  refine param_mk hf (Nat.le_refl _) fun h1 hs1 hf1 g1 _ => ?_
  have g1 : h1.get nx = some (.cells [a, b].toArray y_api_Glush) := g1
  refine shown_c ?_
  refine bindP_mk (loadA_all (l := [a, b]) g1 rfl) ?_
  refine law11_few_c (hf1.mono (show nx + 1 ≤ _ by omega)) (hg0.sub hs1) fun n8 v' hn8 hx => ?_
  obtain ⟨a', b', rfl, hxa, hxb⟩ := hx
  have hxl := fewD_len g
  generalize fewD g = x at hxa hxb hxl
  have hak := hxa.ok
  have hbk : cellOk b' = true := by obtain ⟨cs, h1, _⟩ := hxb; exact h1.ok
  refine local_mk zer_Gl rfl (x := [a', b']) rfl rfl (by simp [hak, hbk]) hf1 (show nx + 1 ≤ n8 by omega) fun h2 hs2 hf2 g2 _ => ?_
  have b0 : ([a', b'] : List Value)[0]? = some a' := rfl
  have b1 : ([a', b'] : List Value)[1]? = some b' := rfl
  (repeat (first | refine bindP_mk (by simp (disch := first | omega | exact Int.natCast_nonneg _ | assumption) only [BB, B2, ↓reduceIte, Nat.reduceLeDiff, Nat.reduceAdd, CC, g2, b0] <;> rfl) ?_ | refine newP_mk ?_ | refine optP_mk ?_ | with_reducible first | refine condP_t ?_ | refine condP_f ?_ | refine ifP_tt' ?_ | refine ifP_ff' ?_ | refine ifP_tf' ?_ | refine ifP_ft' ?_ | refine ifP_u' ?_ | refine optP_mk0 ?_))
  refine bindP_mk (build_Gl1 _ (cells_of_ok hak)) ?_
  refine local_mk zer_Gl rfl (x := [a', nilS]) rfl rfl (by simp only [List.all_cons, List.all_nil, hak]; rfl) hf2 (show n8 + 1 ≤ n8 + 5 by omega) fun h3 hs3 hf3 g3 _ => ?_
  have g2 := hs3 _ _ g2
  have hxa := hxa.sub hs2
  have hxb := hxb.sub hs2 (RPos.sub hs2)
  have hxa3 := hxa.sub hs3
  have hxb3 := hxb.sub hs3 (RPos.sub hs3)
  have hbl := hxb3.len
  (repeat (first | refine bindP_mk (by simp (disch := first | omega | exact Int.natCast_nonneg _ | assumption) only [BB, B2, ↓reduceIte, Nat.reduceLeDiff, Nat.reduceAdd, CC, g2, b1, hbl] <;> rfl) ?_ | refine newP_mk ?_ | refine optP_mk ?_ | with_reducible first | refine condP_t ?_ | refine condP_f ?_ | refine ifP_tt' ?_ | refine ifP_ff' ?_ | refine ifP_tf' ?_ | refine ifP_ft' ?_ | refine ifP_u' ?_ | refine optP_mk0 ?_))
  have hd : Sub h2 (del h3 [n8 + 5]) := hs3.delN hf2 (by simp)
  have hw3 := hw.sub (hs1.trans hs2) fun _ _ h => h
  refine bounds_L2_c (l := l) (x := x) (xid := n8) (yid := n8 + 5) hxl (hf3.mono (show n8 + 5 + 1 ≤ n8 + 11 by omega)) (hxb.sub hd (RPos.sub hd)) (hw3.sub hd fun _ _ h => h) g3 ?_ ?_ ?_ ?_ ?_ ?_ ?_ ?_
  · rfl
  · rfl
  · rfl
  · rfl
  · rfl
  · rfl
  · rfl
  intro e' h4 n4 pv hn4 hf4 hk4 g4 hpk hpr e5 e6 e7
  refine exP_e (beqP_t ?_)
  unfold law11_AutoBounds_j1
  rw [e6, e7]
  have hs24 : Sub h2 h4 := hd.trans (hk4.delS fun _ h => h)
  have g2' := hk4 _ _ g2 (by simp)
  refine bindP_mk (loadA_all (l := [a', b']) g2' rfl) ?_
  refine auto_Of_c (hf4.mono (show n4 ≤ n4 + 2 by omega)) ⟨a', b', rfl, hxa.sub hs24, hxb.sub hs24 (RPos.sub hs24)⟩ fun h5 n5 xs hn5 hs5 hf5 hR => ?_
  (repeat (first | refine bindP_mk (by simp (disch := first | omega | exact Int.natCast_nonneg _ | assumption) only [BB, B2, ↓reduceIte, Nat.reduceLeDiff, Nat.reduceAdd, CC, nth0, nth1] <;> rfl) ?_ | refine newP_mk ?_ | refine optP_mk ?_ | with_reducible first | refine condP_t ?_ | refine condP_f ?_ | refine ifP_tt' ?_ | refine ifP_ff' ?_ | refine ifP_tf' ?_ | refine ifP_ft' ?_ | refine ifP_u' ?_ | refine optP_mk0 ?_))
  obtain ⟨cv, sv, rfl, hc, hcb, hcv, hsv, hc1, hc2⟩ := hR
  have hcvk : cellOk cv = true := by obtain ⟨cs, h1, _⟩ := hcv; exact h1.ok
  have hsvk : cellOk sv = true := by obtain ⟨cs, h1, _⟩ := hsv; exact h1.ok
  refine local_mk zer_Auto (by rw [Value.cells_agg, ts]; exact autZ_len) (x := autL (ofZ x).2.c (ofZ x).2.many cv sv) rfl (autL_len hc) (autL_ok hcvk hsvk) hf5 (show n5 ≤ n5 + 3 by omega) fun h6 hs6 hf6 g6 _ => ?_
  have hs46 := hs5.trans hs6
  refine eql_s (fun u => ?_) (fun u => ?_)
  · rw [e5]
    exact condP_t ⟨h6, Sub.refl _, hK _ _⟩
  · refine condP_f ?_
    have hrx : rightD x = true := by
      cases hq : rightD x with
      | true => rfl
      | false => exact absurd (by unfold ofZ; rw [hq]; rfl) u
    obtain ⟨o1, o2, o3, o4, o5, o6, o7⟩ := (boundsG_alike x l).of hrx (boundsG_right hrx)
    have hry : RG ro h6 (.agg #[a', pv]) (boundsG x l) := ⟨a', pv, rfl, hxa.sub (hs24.trans hs46), hpr.sub hs46 (RPos.sub hs46)⟩
    have hyl : (boundsG x l).p.length ≤ 40 := by
      have : (boundsG x l).p.length = x.p.length := boundsP_len l x.p 0
      omega
    have hpr6 : SlR ro h6 pv 9 (RPos ro h6) (boundsG x l).p := hpr.sub hs46 (RPos.sub hs46)
    have hsm := (ofZ_small (boundsG x l)).1
    refine bindP_mk (loadA_all (l := [a', pv]) (hs46 _ _ g4) rfl) ?_
    generalize boundsG x l = y at o1 o2 o3 o4 o5 o6 o7 hry hyl hpr6 hsm
    refine auto_Of_c (hf6.mono (show n5 + 3 + 1 ≤ n5 + 10 by omega)) hry fun h7 n7 ys hn7 hs7 hf7 hR => ?_
    (repeat (first | refine bindP_mk (by simp (disch := first | omega | exact Int.natCast_nonneg _ | assumption) only [BB, B2, ↓reduceIte, Nat.reduceLeDiff, Nat.reduceAdd, CC, nth0, nth1] <;> rfl) ?_ | refine newP_mk ?_ | refine optP_mk ?_ | with_reducible first | refine condP_t ?_ | refine condP_f ?_ | refine ifP_tt' ?_ | refine ifP_ff' ?_ | refine ifP_tf' ?_ | refine ifP_ft' ?_ | refine ifP_u' ?_ | refine optP_mk0 ?_))
    obtain ⟨cw, sw, rfl, hd1, hdb, hcw, hsw, hd2, hd3⟩ := hR
    have hcwk : cellOk cw = true := by obtain ⟨cs, h1, _⟩ := hcw; exact h1.ok
    have hswk : cellOk sw = true := by obtain ⟨cs, h1, _⟩ := hsw; exact h1.ok
    refine local_mk zer_Auto (by rw [Value.cells_agg, ts]; exact autZ_len) (x := autL (ofZ y).2.c (ofZ y).2.many cw sw) rfl (autL_len hd1) (autL_ok hcwk hswk) hf7 (show n7 ≤ n7 + 3 by omega) fun h8 hs8 hf8 g8 _ => ?_
    have hs68 := hs7.trans hs8
    have g6' := hs68 _ _ g6
    have n1 := (hcv.sub (hs6.trans hs68) fun _ _ h => h).len
    have n2 := (hcw.sub hs8 fun _ _ h => h).len
    rw [o5] at n1
    refine neq_f o1 ?_
    (repeat (first | refine bindP_mk (by simp (disch := first | omega | exact Int.natCast_nonneg _ | assumption) only [BB, B2, ↓reduceIte, Nat.reduceLeDiff, Nat.reduceAdd, CC] <;> rfl) ?_ | refine newP_mk ?_ | refine optP_mk ?_ | with_reducible first | refine condP_t ?_ | refine condP_f ?_ | refine ifP_tt' ?_ | refine ifP_ff' ?_ | refine ifP_tf' ?_ | refine ifP_ft' ?_ | refine ifP_u' ?_ | refine optP_mk0 ?_))
    refine bindP_mk (loadA_all (l := autL (ofZ x).2.c (ofZ x).2.many cv sv) g6' (autL_len hc)) ?_
    (repeat (first | refine bindP_mk (by simp (disch := first | omega | exact Int.natCast_nonneg _ | assumption) only [BB, B2, ↓reduceIte, Nat.reduceLeDiff, Nat.reduceAdd, CC] <;> rfl) ?_ | refine newP_mk ?_ | refine optP_mk ?_ | with_reducible first | refine condP_t ?_ | refine condP_f ?_ | refine ifP_tt' ?_ | refine ifP_ff' ?_ | refine ifP_tf' ?_ | refine ifP_ft' ?_ | refine ifP_u' ?_ | refine optP_mk0 ?_))
    refine bindP_mk (loadA_all (l := autL (ofZ y).2.c (ofZ y).2.many cw sw) g8 (autL_len hd1)) ?_
    (repeat (first | refine bindP_mk (by simp (disch := first | omega | exact Int.natCast_nonneg _ | assumption) only [BB, B2, ↓reduceIte, Nat.reduceLeDiff, Nat.reduceAdd, CC] <;> rfl) ?_ | refine newP_mk ?_ | refine optP_mk ?_ | with_reducible first | refine condP_t ?_ | refine condP_f ?_ | refine ifP_tt' ?_ | refine ifP_ff' ?_ | refine ifP_tf' ?_ | refine ifP_ft' ?_ | refine ifP_u' ?_ | refine optP_mk0 ?_))
    rw [o2, o3]
    refine ref11_SameStates_c hsm hd1 (hf8.mono (by omega)) n1 n2 (by rw [← o4]; exact hsv.sub (hs6.trans hs68) (RState.sub (hs6.trans hs68))) (hsw.sub hs8 (RState.sub hs8)) fun n9 hn9 => ?_
    have g48 := hs68 _ _ (hs46 _ _ g4)
    have p1 : ([a', pv] : List Value)[1]? = some pv := rfl
    have hpl := (hpr6.sub hs68 (RPos.sub hs68)).len
    (repeat (first | refine bindP_mk (by simp (disch := first | omega | exact Int.natCast_nonneg _ | assumption) only [BB, B2, ↓reduceIte, Nat.reduceLeDiff, Nat.reduceAdd, CC, g48, p1, hpl] <;> rfl) ?_ | refine newP_mk ?_ | refine optP_mk ?_ | with_reducible first | refine condP_t ?_ | refine condP_f ?_ | refine ifP_tt' ?_ | refine ifP_ff' ?_ | refine ifP_tf' ?_ | refine ifP_ft' ?_ | refine ifP_u' ?_ | refine optP_mk0 ?_))
    refine bounds_L1_c (y := y) (A := (ofZ y).2) (err := (ofZ x).1) (bid := n7 + 3) (pv := pv) (cv := cw) (sv := sw) hyl (fun h0 => o6 (o1 ▸ h0)) (fun h0 => o7 (o1 ▸ h0)) hd1 (hf8.mono (by omega)) (hpr6.sub hs68 (RPos.sub hs68)) g8 (hcw.sub hs8 fun _ _ h => h) ?_ ?_ ?_ ?_ ?_ ?_ ?_ ?_
    · exact e5
    · rfl
    · rfl
    · rfl
    · rfl
    · rfl
    · rfl
    intro e9 h9 n9' hn9' hf9 hs9 f5 f12 f14
    refine exP_e (beqP_t ?_)
    unfold law11_AutoBounds_j2
    rw [f5, f12, f14]
    have g89 := hs9 _ _ g8
    have n29 := (hcw.sub (hs8.trans hs9) fun _ _ h => h).len
    have b3 := autL_counts (n := (ofZ y).2.many) (cv := cw) (sv := sw) hd1
    (repeat (first | refine bindP_mk (by simp (disch := first | omega | exact Int.natCast_nonneg _ | assumption) only [BB, B2, ↓reduceIte, Nat.reduceLeDiff, Nat.reduceAdd, CC, g89, b3, n29] <;> rfl) ?_ | refine newP_mk ?_ | refine optP_mk ?_ | with_reducible first | refine condP_t ?_ | refine condP_f ?_ | refine ifP_tt' ?_ | refine ifP_ff' ?_ | refine ifP_tf' ?_ | refine ifP_ft' ?_ | refine ifP_u' ?_ | refine optP_mk0 ?_))
    exact ⟨_, Sub.refl _, hK _ _⟩
end
end V
end Go.Proofs.Ytmmdcdjkmakgpaa
