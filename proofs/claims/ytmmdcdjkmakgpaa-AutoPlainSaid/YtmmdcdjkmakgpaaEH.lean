/- AutoPlain: whatever the input, true; its end.
   No condition. -/
import Derived.Test.YtmmdcdjkmakgpaaEG
set_option linter.unusedVariables false
set_option linter.unusedSimpArgs false
namespace Go.Proofs.Ytmmdcdjkmakgpaa
namespace V
open PA
attribute [local irreducible] bindP ifP condP newP optP exP beqP
theorem autL_cls {c : List Nat} {n : Int} {cv sv : Value} {b k : Nat} (hc : c.length = 256) (hk : c[b]? = some k) : (autL c n cv sv)[b]? = some (.int .u8 (k : Int)) := by
  obtain ⟨hb, he⟩ := List.getElem?_eq_some_iff.1 hk
  unfold autL
  rw [List.getElem?_append_left (by rw [splitLI_len hc]; omega), splitLI_get hb, he]
theorem part1_0 (a b : Value) : part1 0 (.agg #[a, b]) = some a := rfl
theorem part1_1 (a b : Value) : part1 1 (.agg #[a, b]) = some b := rfl
/-- What few hands back. -/
def fewV (v : Value) (g : GlD) : Value := if 40 < g.p.length then .agg #[nilS, nilS] else v
theorem fewV_R {ro : Ro} {h : T Obj} {v : Value} {g : GlD} (hg : RG ro h v g) : RG ro h (fewV v g) (fewD g) := by
  unfold fewV fewD
  split
  · exact ⟨nilS, nilS, rfl, Sl.nil, SlR.nil⟩
  · exact hg
set_option maxRecDepth 4000 in
theorem law11_few_c2 {ro : Ro} {v : Value} {g : GlD} {h : T Obj} {nx : Nat} {K : KV} (hf : Fr h nx) (hg : RG ro h v g) (hK : ∀ nx', nx ≤ nx' → K (fewV v g) h nx') : callP Try.prog ro i_law11_few [v] h nx K := by
  obtain ⟨a, b, rfl, ha, hb⟩ := hg
  apply law11_few_of
  unfold law11_few
  refine param_mk hf (Nat.le_refl _) fun h1 hs1 hf1 g1 _ => ?_
  have g1 : h1.get nx = some (.cells [a, b].toArray y_api_Glush) := g1
  refine bindP_mk zer_Gl (obj_mk hf1 (Nat.le_refl _) fun h2 hs2 hf2 g2 _ => ?_)
  have g2 : h2.get (nx + 1) = some (.cells [nilS, nilS].toArray y_api_Glush) := g2
  have g1 := hs2 _ _ g1
  have hs := hs1.trans hs2
  have hbl := (hb.sub hs (RPos.sub hs)).len
  have e1 : ([a, b] : List Value)[1]? = some b := rfl
  have hak := ha.ok
  have hbk : cellOk b = true := by obtain ⟨cs, h1, _⟩ := hb; exact h1.ok
  (repeat (first | refine bindP_mk (by simp (disch := first | omega | exact Int.natCast_nonneg _ | assumption) only [BB, B2, ↓reduceIte, Nat.reduceLeDiff, Nat.reduceAdd, CC, g1, e1, hbl] <;> rfl) ?_ | refine newP_mk ?_ | refine optP_mk ?_ | with_reducible first | refine condP_t ?_ | refine condP_f ?_ | refine ifP_tt' ?_ | refine ifP_ff' ?_ | refine ifP_tf' ?_ | refine ifP_ft' ?_ | refine ifP_u' ?_ | refine optP_mk0 ?_))
  refine gtr_s (fun u => ?_) (fun u => ?_)
  · refine condP_t (bindP_mk build_Gl0 ?_)
    refine bindP_mk (storeA_own (l := [nilS, nilS]) (vs := [nilS, nilS]) g2 rfl rfl rfl rfl) ?_
    refine bindP_mk (loadA_all (l := [nilS, nilS]) (by rw [T.get_upd_same]) rfl) ?_
    refine ⟨h, hs.new hf (by omega), ?_⟩
    have := hK (nx + 8) (by omega)
    unfold fewV at this
    rw [if_pos (by omega)] at this
    exact this
  · refine condP_f (bindP_mk (loadA_all (l := [a, b]) g1 rfl) ?_)
    refine bindP_mk (storeA_own (l := [nilS, nilS]) (vs := [a, b]) g2 rfl rfl rfl (by simp [hak, hbk])) ?_
    refine bindP_mk (loadA_all (l := [a, b]) (by rw [T.get_upd_same]) rfl) ?_
    refine ⟨h, hs.new hf (by omega), ?_⟩
    have := hK (nx + 8) (by omega)
    unfold fewV at this
    rw [if_neg (by omega)] at this
    exact this
section
variable {ro : Ro}
set_option maxRecDepth 8000 in
set_option maxHeartbeats 2000000 in
theorem law11_AutoPlain_c {v : Value} {g : GlD} {b : Nat} (hb8 : b < 256) {h : T Obj} {nx : Nat} {K : KV} (hf : Fr h nx) (hg : RG ro h v g) (hK : ∀ h' nx', K (.bool true) h' nx') : callP Try.prog ro i_law11_AutoPlain [v, .int .u8 (b : Int)] h nx K := by
  have hg0 := hg
  obtain ⟨a, b9, rfl, ha, hb⟩ := hg
  apply law11_AutoPlain_of
  unfold law11_AutoPlain
  refine param_mk hf (Nat.le_refl _) fun h1 hs1 hf1 g1 _ => ?_
  have g1 : h1.get nx = some (.cells [a, b9].toArray y_api_Glush) := g1
  refine shown_c ?_
  refine bindP_mk (loadA_all (l := [a, b9]) g1 rfl) ?_
  refine law11_few_c2 (hf1.mono (show nx + 1 ≤ _ by omega)) (hg0.sub hs1) fun n8 hn8 => ?_
  have hx := fewV_R (hg0.sub hs1)
  have hxl := fewD_len g
  generalize hv' : fewV (.agg #[a, b9]) g = v' at hx
  obtain ⟨a', b', rfl, hxa, hxb⟩ := hx
  have hak := hxa.ok
  refine bindP_mk (part1_0 _ _) (bindP_mk (build_Gl1 _ (cells_of_ok hak)) ?_)
  refine local_mk zer_Gl rfl (x := [a', nilS]) rfl rfl (by simp only [List.all_cons, List.all_nil, hak]; rfl) hf1 (show nx + 1 ≤ n8 + 2 by omega) fun h3 hs3 hf3 g3 _ => ?_
  refine bindP_mk (loadA_all (l := [a, b9]) (hs3 _ _ g1) rfl) ?_
  refine law11_few_c2 (hf3.mono (show n8 + 2 + 1 ≤ n8 + 6 by omega)) (hg0.sub (hs1.trans hs3)) fun n9 hn9 => ?_
  have hv'' : fewV (.agg [a, b9].toArray) g = .agg #[a', b'] := hv'
  rw [hv'']
  have hd : Sub h1 (del h3 [n8 + 2]) := hs3.delN hf1 (by simp; omega)
  generalize fewD g = x at hxa hxb hxl
  have hbl := (hxb.sub hs3 (RPos.sub hs3)).len
  refine bindP_mk (part1_1 _ _) (bindP_mk hbl ?_)
  refine plain_L3_c (x := x) (yid := n8 + 2) (v1 := .int .u8 (b : Int)) hxl (hf3.mono (show n8 + 2 + 1 ≤ n9 + 3 by omega)) (hxb.sub hd (RPos.sub hd)) g3 ?_ ?_ ?_ ?_ ?_ ?_ ?_
  · rfl
  · rfl
  · rfl
  · rfl
  · rfl
  · rfl
  intro e' h4 n4 pv hn4 hf4 hk4 g4 hpk hpr e1 e5 e6
  refine exP_e (beqP_t ?_)
  unfold law11_AutoPlain_j1
  rw [e6]
  have hs14 : Sub h1 h4 := hd.trans (hk4.delS fun _ h => h)
  have hry : RG ro h4 (.agg #[a', pv]) (plainG x) := ⟨a', pv, rfl, hxa.sub hs14, hpr⟩
  refine bindP_mk (loadA_all (l := [a', pv]) g4 rfl) ?_
  refine auto_Of_c (hf4.mono (show n4 ≤ n4 + 2 by omega)) hry fun h5 n5 xs hn5 hs5 hf5 hR => ?_
  (repeat (first | refine bindP_mk (by simp (disch := first | omega | exact Int.natCast_nonneg _ | assumption) only [BB, B2, ↓reduceIte, Nat.reduceLeDiff, Nat.reduceAdd, CC, nth0, nth1] <;> rfl) ?_ | refine newP_mk ?_ | refine optP_mk ?_ | with_reducible first | refine condP_t ?_ | refine condP_f ?_ | refine ifP_tt' ?_ | refine ifP_ff' ?_ | refine ifP_tf' ?_ | refine ifP_ft' ?_ | refine ifP_u' ?_ | refine optP_mk0 ?_))
  obtain ⟨cv, sv, rfl, hc, hcb, hcv, hsv, hc1, hc2⟩ := hR
  have hcvk : cellOk cv = true := by obtain ⟨cs, h1, _⟩ := hcv; exact h1.ok
  have hsvk : cellOk sv = true := by obtain ⟨cs, h1, _⟩ := hsv; exact h1.ok
  refine local_mk zer_Auto (by rw [Value.cells_agg, ts]; exact autZ_len) (x := autL (ofZ (plainG x)).2.c (ofZ (plainG x)).2.many cv sv) rfl (autL_len hc) (autL_ok hcvk hsvk) hf5 (show n5 ≤ n5 + 3 by omega) fun h6 hs6 hf6 g6 _ => ?_
  have hs46 := hs5.trans hs6
  refine neq_s (fun u => ?_) (fun u => ?_)
  · rw [e5]
    exact condP_t ⟨h6, Sub.refl _, hK _ _⟩
  · refine condP_f ?_
    obtain ⟨hr, S, hS, hm, _⟩ := ofZ_ok u
    rw [hS] at hc hcb hcv hsv g6
    have hst : ∀ s ∈ (ofD (plainG x) S).states, s.r = [] ∧ s.rule.length = 1 ∧ s.next.length = 1 ∧ ∀ row, s.next[0]? = some row → (row.length : Int) = (ofD (plainG x) S).many := fun s hs => by
      obtain ⟨i, hi⟩ := List.mem_iff_getElem?.1 hs
      obtain ⟨q1, q2, q3, q4⟩ := plain_state hm hi
      exact ⟨q1, q2, q3, fun row hrow => by rw [q4 row hrow]; rfl⟩
    have hsv6 := hsv.sub hs6 (RState.sub hs6)
    have n6 := hsv6.len
    have as6 := autL_states (n := (ofD (plainG x) S).many) (cv := cv) (sv := sv) hc
    (repeat (first | refine bindP_mk (by simp (disch := first | omega | exact Int.natCast_nonneg _ | assumption) only [BB, B2, ↓reduceIte, Nat.reduceLeDiff, Nat.reduceAdd, CC, g6, as6, n6] <;> rfl) ?_ | refine newP_mk ?_ | refine optP_mk ?_ | with_reducible first | refine condP_t ?_ | refine condP_f ?_ | refine ifP_tt' ?_ | refine ifP_ff' ?_ | refine ifP_tf' ?_ | refine ifP_ft' ?_ | refine ifP_u' ?_ | refine optP_mk0 ?_))
    refine plain_L2_c (d := ofD (plainG x) S) (aid := n5 + 3) (cv := cv) (sv := sv) (v1 := .int .u8 (b : Int)) (v6 := ptr (n8 + 2)) hc hm.base.few hst (hf6.mono (show n5 + 3 + 1 ≤ n5 + 12 by omega)) g6 hsv6 ?_ ?_ ?_ ?_ ?_ ?_ ?_ ?_
    · exact e1
    · exact e5
    · exact e6
    · rfl
    · rfl
    · rfl
    · rfl
    intro e7 h7 n7 hn7 hf7 hs7 f1 f5 f6 f9
    refine exP_e (beqP_t ?_)
    unfold law11_AutoPlain_j2
    rw [f6]
    have hs47 := hs46.trans hs7
    obtain ⟨hgl, hfr, _⟩ := right_parts hr
    have g47 := hs47 _ _ g4
    have ha7 := (hxa.sub hs14).sub hs47
    have hal := ha7.len
    have y0 : ([a', pv] : List Value)[0]? = some a' := rfl
    (repeat (first | refine bindP_mk (by simp (disch := first | omega | exact Int.natCast_nonneg _ | assumption) only [BB, B2, ↓reduceIte, Nat.reduceLeDiff, Nat.reduceAdd, CC, g47, y0, hal] <;> rfl) ?_ | refine newP_mk ?_ | refine optP_mk ?_ | with_reducible first | refine condP_t ?_ | refine condP_f ?_ | refine ifP_tt' ?_ | refine ifP_ff' ?_ | refine ifP_tf' ?_ | refine ifP_ft' ?_ | refine ifP_u' ?_ | refine optP_mk0 ?_))
    refine plain_L1_c (av := a') (yid := n8 + 2) (v9 := ptr (n5 + 3)) (pv := pv) (g := plainG x) hb8 hfr hgl (hf7.mono (show n7 ≤ n7 + 5 by omega)) g47 ha7 (hpr.sub hs47 (RPos.sub hs47)) ?_ ?_ ?_ ?_ ?_ ?_ ?_ ?_ ?_
    · exact f1
    · exact f5
    · exact f6
    · exact f9
    · rfl
    · rfl
    · rfl
    · rfl
    intro e8 n8' hn8' k1 k5 k9 k13
    refine exP_e (beqP_t ?_)
    unfold law11_AutoPlain_j3
    rw [k1, k5, k9, k13]
    obtain ⟨kc, s, row, m, p1, p2, p3, p4, p5, p6, p7⟩ := plain_begin hr hm hb8
    have hsv7 := hsv6.sub hs7 (RState.sub hs7)
    have hcv7 := hcv.sub (hs6.trans hs7) fun _ _ h => h
    have hcn := hcv7.len
    have hc0 : (ofD (plainG x) S).counts = [] := plain_cnts x
    rw [hc0] at hcn
    have hl0 : (([] : List (Int × Int)).length : Int) = 0 := rfl
    rw [hl0] at hcn
    have g67 := hs7 _ _ g6
    have acl := autL_cls (n := (ofD (plainG x) S).many) (cv := cv) (sv := sv) hc p1
    have acn := autL_counts (n := (ofD (plainG x) S).many) (cv := cv) (sv := sv) hc
    have aman := autL_many (n := (ofD (plainG x) S).many) (cv := cv) (sv := sv) hc
    have hmv : (ofD (plainG x) S).many = (many (setsL (plainG x).p) : Int) := rfl
    have hS0 : 0 < S.length := (List.getElem?_eq_some_iff.1 p3).1
    have hse : S[0] = s := (List.getElem?_eq_some_iff.1 p3).2
    obtain ⟨xx, ⟨lv, rv, uv, nv, rfl, x1, x2, x3, x4, x5⟩, y2, y3, y4, y5⟩ := hsv7.at (i := 0) hS0
    have hse' : (ofD (plainG x) S).states[0] = s := hse
    rw [hse'] at x1 x2 x3 x4
    have ix0 := hsv7.ix .i64 (i := 0) hS0
    have ld2 := y5 2 uv rfl
    have ld3 := y5 3 nv rfl
    have fw2 := y4 2
    have fw3 := y4 3
    have hr0 : 0 < s.rule.length := (List.getElem?_eq_some_iff.1 p4).1
    have ir0 := x3.ix .i64 (i := 0) hr0
    have lr0 := x3.load' p4
    have hn0 : 0 < s.next.length := (List.getElem?_eq_some_iff.1 p5).1
    have hne : s.next[0] = row := (List.getElem?_eq_some_iff.1 p5).2
    have in0 := x4.ix .i64 (i := 0) hn0
    obtain ⟨w, ⟨w', r1, r2, r3⟩, r4⟩ := x4.at1 (i := 0) hn0
    simp only [List.cons.injEq, and_true] at r1
    subst r1
    rw [hne] at r2
    have hk0 : kc < row.length := (List.getElem?_eq_some_iff.1 p6).1
    have hke : row[kc] = m := (List.getElem?_eq_some_iff.1 p6).2
    have ik0 := r2.ix .i64 (i := kc) hk0
    obtain ⟨zz, ⟨ov, rfl, o1, o2⟩, z2, z3, z4, z5⟩ := r2.at (i := kc) hk0
    have ldm := z5 0 _ rfl
    rw [hke] at ldm
    have fwm := z4 0
    have hz0 : ((0 : Nat) : Int) = 0 := rfl
    rw [hz0] at ix0 ir0 in0
    have hkb : kc < 256 := hcb kc (List.mem_of_getElem? p1)
    have hkm : (kc : Int) < (ofD (plainG x) S).many := by rw [hmv]; omega
    have hbb : (b : Int) < (256 : Nat) := by omega
    have hwk : wr .i64 (kc : Int) = (kc : Int) := wr_i64 (by omega) (by omega)
    (repeat (first | refine bindP_mk (by simp (disch := first | omega | exact Int.natCast_nonneg _ | assumption) only [BB, B2, ↓reduceIte, Nat.reduceLeDiff, Nat.reduceAdd, CC, g67, acl, acn, hcn, as6, ix0, fw2, ld2, ir0, lr0, aman, fw3, ld3, in0, r4, ik0, fwm, ldm, hwk] <;> rfl) ?_ | refine newP_mk ?_ | refine optP_mk ?_ | with_reducible first | refine condP_t ?_ | refine condP_f ?_ | refine ifP_tt' ?_ | refine ifP_ff' ?_ | refine ifP_tf' ?_ | refine ifP_ft' ?_ | refine ifP_u' ?_ | refine optP_mk0 ?_))
    refine bindP_mk (intB_gtr _ _ _) ?_
    rw [p7]
    have hbe : ∀ t : Bool, boolB .eql (.bool t) (.bool t) = some (.bool true) := fun t => by cases t <;> rfl
    have hfe : (plainG x).first.any (fun q => ((plainG x).at q).s.testBit b) = x.first.any fun q => ((plainG x).at q).s.testBit b := rfl
    rw [hfe]
    (repeat (first | refine bindP_mk (by simp (disch := first | omega | exact Int.natCast_nonneg _ | assumption) only [BB, B2, ↓reduceIte, Nat.reduceLeDiff, Nat.reduceAdd, CC, hbe] <;> rfl) ?_ | refine newP_mk ?_ | refine optP_mk ?_ | with_reducible first | refine condP_t ?_ | refine condP_f ?_ | refine ifP_tt' ?_ | refine ifP_ff' ?_ | refine ifP_tf' ?_ | refine ifP_ft' ?_ | refine ifP_u' ?_ | refine optP_mk0 ?_))
    exact ⟨_, Sub.refl _, hK _ _⟩
end
end V
end Go.Proofs.Ytmmdcdjkmakgpaa
