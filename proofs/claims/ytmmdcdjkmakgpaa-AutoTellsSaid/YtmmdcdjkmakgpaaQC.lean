/- Texts laid one behind the other: FJ, FK, NC, FL, EA, EB, GB, EC, AS, ED, GP, EG, EH, GU, FM, LTells.
   No condition. -/
import Derived.KernelRfl
import Derived.Test.YtmmdcdjkmakgpaaQC6
set_option linter.unusedVariables false
set_option linter.unusedSimpArgs false
set_option linter.unusedVariables false
set_option linter.unusedSimpArgs false
namespace Go.Proofs.Ytmmdcdjkmakgpaa
namespace V
open PA
attribute [local irreducible] bindP ifP condP newP optP exP beqP
section
variable {ro : Ro} {g : GlD} {bid sid aid : Nat} {av bv nv cv : Value} {c : List Nat} {n : Int} {S : List StateD} {cs : List (List Value)}
set_option maxRecDepth 8000 in
set_option maxHeartbeats 2000000 in
theorem of_L1_c {B : List Nat} (hr : rightD g = true) (hcl : ∀ x ∈ c, x < 256) (hBf : firstZ c n = B) (hBn : n = (B.length : Int)) (hBl : B.length ≤ 256) (hb : ∀ b ∈ B, b < 256) (hm0 : Made g B S 0 0) (htl0 : ∀ (i : Nat) x, cs[i]? = some x → ∃ lv rv, x = [lv, rv, nilS, nilS])
    {h : T Obj} {nx : Nat} {Q : KE} {e0 : Env} (hf : Fr h nx) (hB : Rb h bid sid av bv nv c n cv S cs) (hS : RSt ro (del h [bid, sid, aid]) cs S) (hn : ZI ro (del h [bid, sid, aid]) nv (numL g)) (ha : ZI ro (del h [bid, sid, aid]) av g.first) (hP : SlR ro (del h [bid, sid, aid]) bv 9 (RPos ro (del h [bid, sid, aid])) g.p) (hA : h.get aid = some (.cells autZ.toArray y_api_Auto))
    (e2 : e0 2 = ptr aid) (e4 : e0 4 = ptr bid) (e7 : e0 7 = .int .i64 0)
    (hQe : (allZ g B 256 0 S).1 ≠ 0 → ∀ e' h' nx', nx ≤ nx' → Fr h' nx' → Keep [bid, sid] h h' → h'.get aid = some (.cells autZ.toArray y_api_Auto) → e' 2 = ptr aid → e' 3 = .int .i64 (allZ g B 256 0 S).1 → Q .ret e' h' nx')
    (hQ : (allZ g B 256 0 S).1 = 0 → ∀ e' h' nx' sid' cs', nx ≤ nx' → Fr h' nx' → Keep [bid, sid] h h' → (sid' = sid ∨ nx ≤ sid') → Rb h' bid sid' av bv nv c n cv (allZ g B 256 0 S).2 cs' → RSt ro (del h' [bid, sid', aid]) cs' (allZ g B 256 0 S).2 → e' 2 = ptr aid → e' 4 = ptr bid → Q (.exit 2) e' h' nx') :
    loopP (ref11_Of_L1 ro) e0 h nx Q := by
  generalize hZ : allZ g B 256 0 S = Z at hQe hQ
  refine loopP_rule (fun j e h' nx' => ∃ (k sid' : Nat) (cs' : List (List Value)) (S' : List StateD), k + j = 256 ∧ k ≤ S'.length ∧ nx ≤ nx' ∧ Fr h' nx' ∧ Keep [bid, sid] h h' ∧ (sid' = sid ∨ nx ≤ sid') ∧ Rb h' bid sid' av bv nv c n cv S' cs' ∧ RSt ro (del h' [bid, sid', aid]) cs' S' ∧ Made g B S' k 0 ∧ (∀ (i : Nat) x, k ≤ i → cs'[i]? = some x → ∃ lv rv, x = [lv, rv, nilS, nilS]) ∧
    e 2 = ptr aid ∧ e 4 = ptr bid ∧ e 7 = .int .i64 k ∧ allZ g B j k S' = Z) ?_ (n := 256)
    ⟨0, sid, cs, S, by omega, by omega, by omega, hf, (Sub.refl h).keepL, .inl rfl, hB, hS, hm0, fun i x _ hx => htl0 i x hx, e2, e4, e7, hZ⟩
  rintro j e h' nx' ⟨k, sid', cs', S', hj, hkS, hnx, hf', hkp, hsd, hB', hS', hm, htl, e2', e4', e7', hrz⟩ Q' hq hx
  have hbk := hB'.blk
  have hfew := hB'.few
  have hlen := hB'.len
  have b261 := rbL_261 (av := av) (bv := bv) (nv := nv) (n := n) (cv := cv) (sv := .slice (some (own sid' 4)) cs'.length cs'.length) (ev := .int .i64 0) hB.hc
  have hdS := del_sub h' [bid, sid', aid]
  have hsl := hB'.slr hS' hdS
  have hsn := hsl.len
  unfold ref11_Of_L1
  rw [e4', e7']
  (repeat (first | refine bindP_mk (by simp (disch := first | omega | exact Int.natCast_nonneg _ | assumption) only [BB, B2, ↓reduceIte, Nat.reduceLeDiff, Nat.reduceAdd, CC, nilCk_at, hbk, b261, hsn] <;> rfl) ?_ | refine newP_mk ?_ | refine optP_mk ?_ | with_reducible first | refine condP_t ?_ | refine condP_f ?_ | refine ifP_tt' ?_ | refine ifP_ff' ?_ | refine ifP_tf' ?_ | refine ifP_ft' ?_ | refine ifP_u' ?_ | refine optP_mk0 ?_))
  refine lss_s (fun hk => ?_) (fun hk => ?_)
  · have hk : k < S'.length := by omega
    obtain ⟨j, rfl⟩ : ∃ j', j = j' + 1 := ⟨j - 1, by omega⟩
    obtain ⟨s, hs⟩ : ∃ s, S'[k]? = some s := ⟨_, List.getElem?_eq_getElem hk⟩
    have hgd : S'.getD k noS = s := by rw [List.getD_eq_getElem?_getD, hs]; rfl
    have hke := (List.getElem?_eq_some_iff.1 hs).2
    obtain ⟨o1, o2, o3⟩ := hm.base.ok s (List.mem_of_getElem? hs)
    obtain ⟨p1, p2⟩ := codes_pos o3
    have p3 := codes_27 o3
    obtain ⟨m1, m2⟩ := hm.cnt k s hs
    have hd0 : doneZ k 0 k s = 0 := by unfold doneZ; rw [if_neg (by omega), if_pos rfl]
    rw [hd0] at m1 m2
    have hmod := set_nil hs (List.eq_nil_iff_length_eq_zero.2 m1) (List.eq_nil_iff_length_eq_zero.2 m2)
    have h00 : k = 0 → s.l = [] := fun hk0 => by
      obtain ⟨z, z1, z2⟩ := hm.base.zero
      subst hk0
      rw [hs] at z1; cases z1; exact z2
    rw [allZ_succ, if_pos hk, hgd] at hrz
    obtain ⟨y, ⟨lv, rv, uv, wv, rfl, y1, y2, y3, y4, y5⟩, w2, w3, w4, w5⟩ := hsl.at hk
    rw [hke] at y2
    have six := hsl.ix .i64 hk
    have f1 := w4 1
    have l1 := w5 1 rv rfl
    have rl := y2.len
    have hA' : h'.get aid = some (.cells autZ.toArray y_api_Auto) := hB.tyk hkp (by decide) (by decide) _ _ _ hA
    have hsubD := hkp.del2 (aid := aid) hf hsd
    (repeat (first | refine bindP_mk (by simp (disch := first | omega | exact Int.natCast_nonneg _ | assumption) only [BB, B2, ↓reduceIte, Nat.reduceLeDiff, Nat.reduceAdd, CC, nilCk_at, hbk, b261, six, f1, l1, rl] <;> rfl) ?_ | refine newP_mk ?_ | refine optP_mk ?_ | with_reducible first | refine condP_t ?_ | refine condP_f ?_ | refine ifP_tt' ?_ | refine ifP_ff' ?_ | refine ifP_tf' ?_ | refine ifP_ft' ?_ | refine ifP_u' ?_ | refine optP_mk0 ?_))
    refine ref11_Codes_c fun n2 hn2 => ?_
    have hMc : codesD (s.r.length : Int) = ((codesD (s.r.length : Int)).toNat : Int) := (Int.toNat_of_nonneg p2).symm
    have hM27 : (codesD (s.r.length : Int)).toNat ≤ 27 := by omega
    have hspec := codesZ_spec (n := (codesD (s.r.length : Int)).toNat) (c := 0) hm hk
    have hz0 : ((0 : Nat) : Int) = 0 := rfl
    rw [hz0] at hspec
    refine of_L2_c (M := (codesD (s.r.length : Int)).toNat) (s := s) (aid := aid) hr hcl hBf hBn hBl hb hM27 hs hm.base.ok h00 hm.base.zero (hf'.mono (show nx' ≤ _ by omega)) hB' hS' (hn.sub hsubD) (ha.sub hsubD) (hP.sub hsubD (RPos.sub hsubD)) hA' ?_ ?_ ?_ ?_ ?_ ?_ ?_ (fun hz e9 h4 n4 p1 p2 p3 p4 p5 p6 => ?_) fun hz e9 h4 n4 sid4 cs4 S4 R N ws q1 q2 q3 q4 q5 q6 q7 q8 q9 q10 q11 q12 q13 => ?_
    · exact e2'
    · exact e4'
    · exact e7'
    · exact congrArg (Value.int IntKind.i64) hMc
    · rfl
    · rfl
    · rfl
    · rw [hmod] at hz p6
      rw [if_neg hz] at hrz
      refine exP_r (hx _ _ _ _ (fun e => by cases e) ?_)
      have hz1 : Z.1 = (codesZ g B k (codesD (s.r.length : Int)).toNat 0 S').1 := by rw [← hrz]
      exact hQe (by rw [hz1]; exact hz) _ _ _ (by omega) p2 (hkp.chain2 hf p3 hsd) p4 p5 (by rw [hz1]; exact p6)
    · rw [hmod] at hz q12
      rw [if_pos hz] at hrz
      obtain ⟨c1, c2⟩ := hspec hz
      rw [q12] at hrz c1 c2
      obtain ⟨k2, k4, k7⟩ := q13
      have k2 : e9 2 = ptr aid := k2.trans e2'
      have k4 : e9 4 = ptr bid := k4.trans e4'
      have k7 : e9 7 = .int .i64 (k : Int) := k7.trans e7'
      have hgrH := q6.ty (del_sub _ _).ty
      have hA4 := hB'.tyk q3 (by decide) (by decide) _ _ _ hA'
      have hS4 := hS'.grow (lo := n2 + 4) hA4 (hf'.mono (by omega)) q3 q4 q5 hgrH hlen fun t ht => (q7 t ht).2.2
      have hgr0 := hgrH
      obtain ⟨ds, TT, a1, a2, a3, a4⟩ := hgr0
      have hs4 : S4[k]? = some s := by rw [a2, List.getElem?_append_left hk]; exact hs
      have hkc : k < cs'.length := by omega
      obtain ⟨lv9, rv9, hx9⟩ := htl k _ (Nat.le_refl _) (List.getElem?_eq_getElem hkc)
      have hx4 : cs4[k]? = some [lv9, rv9, nilS, nilS] := by rw [a1, List.getElem?_append_left hkc, List.getElem?_eq_getElem hkc, hx9]
      refine exP_e (beqP_t ?_)
      refine of_j4_c q2 q5 hA4 hS4 hs4 q7 hx4 q8 q9 q10 k4 k7 fun e7 h7 n7 r1 r2 r3 r4 r5 r6 r7 r8 => ?_
      have hfs : S4.modify k (setRN R N) = S4.modify k (setRN R N) := rfl
      obtain ⟨s', h3, h4'⟩ := c2 k s hs
      have hr9 : s'.r = s.r := by
        rw [(hm.base.ok s (List.mem_of_getElem? hs)).2.1, (c1.base.ok s' (List.mem_of_getElem? h3)).2.1, h4']
      rw [Nat.zero_add] at c1
      have c3 := Made.next' h3 (by rw [hr9]; exact c1)
      have hk3 := (List.getElem?_eq_some_iff.1 h3).1
      have hkp7 : Keep [bid, sid] h h7 := (hkp.chain2 hf q3 hsd).chain2 hf r3 (by
        rcases q4 with q4 | q4
        · rw [q4]; exact hsd
        · exact .inr (by omega))
      refine hq j _ h7 _ _ (by omega) ⟨k + 1, sid4, cs4.set k [lv9, rv9, e9 9, e9 10], S4.modify k (setRN R N), by omega, by omega, by omega, r2, hkp7, ?_, r4, r5, c3, fun i x hi hx8 => ?_, r6.trans k2, r7, r8, hrz⟩ (Sub.refl _)
      · rcases q4 with q4 | q4
        · rw [q4]; exact hsd
        · exact .inr (by omega)
      · rw [List.getElem?_set_ne (by omega), a1] at hx8
        rcases Nat.lt_or_ge i cs'.length with hil | hil
        · rw [List.getElem?_append_left hil] at hx8
          exact htl i x (by omega) hx8
        · rw [List.getElem?_append_right hil] at hx8
          have htl9 : i - cs'.length < TT.length := by
            have := (List.getElem?_eq_some_iff.1 hx8).1
            omega
          obtain ⟨lv8, rv8, z1, _⟩ := a4 _ x _ hx8 (List.getElem?_eq_getElem htl9)
          exact ⟨lv8, rv8, z1⟩
  · have hkl : k = S'.length := by omega
    have hrz : ((0 : Int), S') = Z := by
      rw [← hrz]
      cases j with
      | zero => rfl
      | succ j => rw [allZ_succ, if_neg (by omega)]
    subst hrz
    exact condP_f (hx _ _ _ _ (fun e => by cases e) (hQ rfl _ _ _ sid' cs' (by omega) (hf'.mono (by omega)) hkp hsd hB' hS' e2' e4'))
end
end V
end Go.Proofs.Ytmmdcdjkmakgpaa
set_option linter.unusedVariables false
set_option linter.unusedSimpArgs false
namespace Go.Proofs.Ytmmdcdjkmakgpaa
namespace V
open PA
attribute [local irreducible] bindP ifP condP newP optP exP beqP
theorem build_rb (a b : Value) : buildV Try.prog y_raddleref11_builder [(0, .agg #[a, b])] = some (.agg (rbL a b nilS (List.replicate 256 0) 0 nilS nilS (.int .i64 0)).toArray) := by kernel_rfl
def numT (g : GlD) (k : Nat) : List Int := (placesZ k).map (numOf g)
theorem numT_succ (g : GlD) (k : Nat) : numT g (k + 1) = numT g k ++ [numOf g (k : Int)] := by
  unfold numT
  rw [placesZ_succ, List.map_append]; rfl
theorem numT_len (g : GlD) (k : Nat) : (numT g k).length = k := by unfold numT; rw [List.length_map, placesZ_len]
section
variable {ro : Ro} {g : GlD} {bid gid rid : Nat} {av bv : Value}
set_option maxRecDepth 8000 in
set_option maxHeartbeats 2000000 in
theorem rOf_L4_c {e : Env} (hr : rightD g = true) {h : T Obj} {nx : Nat} {Q : KE} (hf : Fr h nx) (hP : SlR ro (del h [bid]) bv 9 (RPos ro (del h [bid])) g.p)
    (hb : h.get bid = some (.cells (rbL av bv nilS (List.replicate 256 0) 0 nilS nilS (.int .i64 0)).toArray y_raddleref11_builder)) (hg : h.get gid = some (.cells [av, bv].toArray y_api_Glush))
    (e1 : e 1 = ptr gid) (e2 : e 2 = ptr rid) (e4 : e 4 = ptr bid) (e5 : e 5 = nilS) (e6 : e 6 = .int .i64 0)
    (hQ : ∀ e' h' nx' sv cv nv, nx ≤ nx' → Fr h' nx' → Keep [bid] h h' → h'.get bid = some (.cells (rbL av bv nv (List.replicate 256 0) 0 cv nilS (.int .i64 0)).toArray y_raddleref11_builder) → OwnT h' nv 1 y_int (intsZ (numT g g.p.length)) nx → OwnT h' sv 4 y_api_Set (setsC (setsL g.p)) nx → OwnT h' cv 2 y_a2_int (cntC (cntsL g.p)) nx →
      e' 2 = ptr rid → e' 4 = ptr bid → e' 5 = sv → Q (.exit 0) e' h' nx') :
    loopP (ref11_Of_L4 ro) e h nx Q := by
  obtain ⟨hgl, hfr, hmay⟩ := right_parts hr
  have hbl := hf.lt' hb
  have hgb : gid ≠ bid := by
    rintro rfl
    rw [hg] at hb
    simp only [Option.some.injEq, Obj.cells.injEq] at hb
    exact absurd hb.2.1 (by decide)
  refine loopP_rule (fun j e h' nx' => ∃ (k : Nat) (cv nv : Value), k + j = g.p.length ∧ nx ≤ nx' ∧ Fr h' nx' ∧ Keep [bid] h h' ∧ h'.get bid = some (.cells (rbL av bv nv (List.replicate 256 0) 0 cv nilS (.int .i64 0)).toArray y_raddleref11_builder) ∧
    OwnT h' nv 1 y_int (intsZ (numT g k)) nx ∧ OwnT h' (e 5) 4 y_api_Set (setsC (setsL (g.p.take k))) nx ∧ OwnT h' cv 2 y_a2_int (cntC (cntsL (g.p.take k))) nx ∧
    e 1 = ptr gid ∧ e 2 = ptr rid ∧ e 4 = ptr bid ∧ e 6 = .int .i64 k) ?_ (n := g.p.length)
    ⟨0, nilS, nilS, by omega, by omega, hf, (Sub.refl h).keepL, hb, OwnT.nil, by rw [e5]; exact OwnT.nil, OwnT.nil, e1, e2, e4, e6⟩
  rintro j e' h' nx' ⟨k, cv, nv, hj, hnx, hf', hkp, hb', hnv, hsv, hcv, f1, f2, f4, f6⟩ Q' hq hx
  unfold ref11_Of_L4
  rw [f1, f4, f6]
  have hsub : Sub (del h [bid]) h' := hkp.delS fun _ h => h
  have hg' : h'.get gid = some (.cells [av, bv].toArray y_api_Glush) := hkp _ _ hg (by simpa using hgb)
  have hP' : SlR ro h' bv 9 (RPos ro h') g.p := hP.sub hsub (RPos.sub hsub)
  have hpl := hP'.len
  have c1 : ([av, bv] : List Value)[1]? = some bv := rfl
  (repeat (first | refine bindP_mk (by simp (disch := first | omega | exact Int.natCast_nonneg _ | assumption) only [BB, B2, ↓reduceIte, Nat.reduceLeDiff, Nat.reduceAdd, CC, hg', c1, hpl] <;> rfl) ?_ | refine newP_mk ?_ | refine optP_mk ?_ | with_reducible first | refine condP_t ?_ | refine condP_f ?_ | refine ifP_tt' ?_ | refine ifP_ff' ?_ | refine ifP_tf' ?_ | refine ifP_ft' ?_ | refine ifP_u' ?_ | refine optP_mk0 ?_))
  refine lss_s (fun hk => ?_) (fun hk => ?_)
  · have hk : k < g.p.length := by omega
    obtain ⟨x, ⟨pv, rfl, y1, y2⟩, x2⟩ := hP'.loadAK hk
    obtain ⟨x', ⟨pv', rfl, y1', y2'⟩, _, x3, x4, x5⟩ := hP'.at hk
    have hix := hP'.ix .i64 hk
    have fw0 := x4 0
    have ldS : loadA ro h' 4 (elPtrK 9 bv k 0) = some (setV g.p[k].s) := x2 0 4 (by show 0 + 4 ≤ 9; omega)
    have hat := at_nat hk
    have htk : g.p.take (k + 1) = g.p.take k ++ [g.p[k]] := List.take_succ_eq_append_getElem hk
    have hcd : ctd g (k : Int) = decide (1 < g.p[k].hi) := by unfold ctd; rw [hat]
    have hnum := numZ_cnts (g := g) k
    have hst : setsL (g.p.take (k + 1)) = setsL (g.p.take k) ++ [g.p[k].s] := by rw [htk]; unfold setsL; rw [List.map_append]; rfl
    have hct := cntsL_snoc (g.p.take k) g.p[k]
    rw [← htk] at hct
    have hsl : (setsL (g.p.take k)).length ≤ 512 := by unfold setsL; rw [List.length_map, List.length_take]; omega
    have hcl : (cntsL (g.p.take k)).length ≤ 512 := by have := cntsL_len (g.p.take k); rw [List.length_take] at this; omega
    have hnl := numT_len g k
    have hns := numT_succ g k
    have hj7 : ∀ (e : Env) (h4 : T Obj) (n4 : Nat) (cv' nv' : Value), nx' ≤ n4 → Fr h4 n4 → Keep [bid] h h4 → h4.get bid = some (.cells (rbL av bv nv' (List.replicate 256 0) 0 cv' nilS (.int .i64 0)).toArray y_raddleref11_builder) →
        OwnT h4 nv' 1 y_int (intsZ (numT g (k + 1))) nx → OwnT h4 (e 5) 4 y_api_Set (setsC (setsL (g.p.take (k + 1)))) nx → OwnT h4 cv' 2 y_a2_int (cntC (cntsL (g.p.take (k + 1)))) nx →
        e 1 = ptr gid → e 2 = ptr rid → e 4 = ptr bid → e 6 = .int .i64 k → ref11_Of_j7 ro Q' e h4 n4 := by
      intro e h4 n4 cv' nv' hn4 s1 s2 s3 s4 s6 s7 f1 f2 f4 f6
      unfold ref11_Of_j7
      rw [f6]
      (repeat (first | refine bindP_mk (by simp (disch := first | omega | exact Int.natCast_nonneg _ | assumption) only [BB, B2, ↓reduceIte, Nat.reduceLeDiff, Nat.reduceAdd, CC] <;> rfl) ?_ | refine newP_mk ?_ | refine optP_mk ?_ | with_reducible first | refine condP_t ?_ | refine condP_f ?_ | refine ifP_tt' ?_ | refine ifP_ff' ?_ | refine ifP_tf' ?_ | refine ifP_ft' ?_ | refine ifP_u' ?_ | refine optP_mk0 ?_))
      exact hq (j - 1) _ _ _ _ (by omega) ⟨k + 1, cv', nv', by omega, by omega, s1.mono (by omega), s2, s3, s4, s6, s7, f1, f2, f4, rfl⟩ (Sub.refl _)
    (repeat (first | refine bindP_mk (by simp (disch := first | omega | exact Int.natCast_nonneg _ | assumption) only [BB, B2, ↓reduceIte, Nat.reduceLeDiff, Nat.reduceAdd, CC, hg', c1, hix, fw0, ldS] <;> rfl) ?_ | refine newP_mk ?_ | refine optP_mk ?_ | with_reducible first | refine condP_t ?_ | refine condP_f ?_ | refine ifP_tt' ?_ | refine ifP_ff' ?_ | refine ifP_tf' ?_ | refine ifP_ft' ?_ | refine ifP_u' ?_ | refine optP_mk0 ?_))
    refine app_Set hsv (by omega) hf' (by omega) (by omega) (by omega) fun h4 w q1 q2 q3 => ?_
    dsimp only
    rw [← hst] at q1
    have t1 : TyKeep y_raddleref11_builder h' h4 := q2.ty hsv (by decide)
    have t2 : TyKeep y_int h' h4 := q2.ty hsv (by decide)
    have t3 : TyKeep y_a2_int h' h4 := q2.ty hsv (by decide)
    have t4 : TyKeep y_api_Glush h' h4 := q2.ty hsv (by decide)
    have hb4 := t1 _ _ _ hb'
    have hg4 := t4 _ _ _ hg'
    have hnv4 := hnv.ty t2
    have hcv4 := hcv.ty t3
    have hk4 : Keep [bid] h h4 := fun i o hi hn9 => by
      have := hf.lt' hi
      refine q2 i o (hkp i o hi hn9) fun e => ?_
      have := (hsv.blk e).1
      omega
    have hP4 : SlR ro h4 bv 9 (RPos ro h4) g.p := hP.sub (hk4.delS fun _ h => h) (RPos.sub (hk4.delS fun _ h => h))
    obtain ⟨x', ⟨pv4, rfl, _, _⟩, _, _, z4, z5⟩ := hP4.at hk
    have fw5 := z4 5
    have fw4 := z4 4
    have l5 := z5 5 _ rfl
    have l4 := z5 4 _ rfl
    have b2 := rbL_2 (av := av) (bv := bv) (nv := nv) (c := List.replicate 256 0) (n := 0) (cv := cv) (sv := nilS) (ev := .int .i64 0)
    have b260 := rbL_260 (av := av) (bv := bv) (nv := nv) (c := List.replicate 256 0) (n := 0) (cv := cv) (sv := nilS) (ev := .int .i64 0) List.length_replicate
    have hrl := rbL_len (av := av) (bv := bv) (nv := nv) (c := List.replicate 256 0) (n := 0) (cv := cv) (sv := nilS) (ev := .int .i64 0) List.length_replicate
    (repeat (first | refine bindP_mk (by simp (disch := first | omega | exact Int.natCast_nonneg _ | assumption) only [BB, B2, ↓reduceIte, Nat.reduceLeDiff, Nat.reduceAdd, CC, hg4, c1, hix, fw5, l5] <;> rfl) ?_ | refine newP_mk ?_ | refine optP_mk ?_ | with_reducible first | refine condP_t ?_ | refine condP_f ?_ | refine ifP_tt' ?_ | refine ifP_ff' ?_ | refine ifP_tf' ?_ | refine ifP_ft' ?_ | refine ifP_u' ?_ | refine optP_mk0 ?_))
    refine gtr_s (fun u1 => ?_) (fun u1 => ?_)
    · rw [if_pos u1] at hct
      rw [decide_eq_true u1] at hcd
      have hno : numOf g (k : Int) = ((cntsL (g.p.take k)).length : Nat) := by rw [(numOf_t hcd).1, hnum]
      rw [hno] at hns
      have hcn := (hcv4.sl (ro := ro)).len
      rw [cntC_len] at hcn
      (repeat (first | refine bindP_mk (by simp (disch := first | omega | exact Int.natCast_nonneg _ | assumption) only [BB, B2, ↓reduceIte, Nat.reduceLeDiff, Nat.reduceAdd, CC, nilCk_at, hb4, b2, b260, hcn] <;> rfl) ?_ | refine newP_mk ?_ | refine optP_mk ?_ | with_reducible first | refine condP_t ?_ | refine condP_f ?_ | refine ifP_tt' ?_ | refine ifP_ff' ?_ | refine ifP_tf' ?_ | refine ifP_ft' ?_ | refine ifP_u' ?_ | refine optP_mk0 ?_))
      refine app_int hnv4 (by omega) q3 (by omega) (by omega) (by omega) fun h5 w5 s1 s2 s3 s4 => ?_
      dsimp only
      rw [← hns] at s1
      have hw5 : cellOk w5 = true := s1.ok
      have hb5 := s3.ty (e := y_raddleref11_builder) hnv4 (by decide) _ _ _ hb4
      have hg5 := s3.ty (e := y_api_Glush) hnv4 (by decide) _ _ _ hg4
      have hcv5 := hcv4.ty (s3.ty (e := y_a2_int) hnv4 (by decide))
      have hsv5 := q1.ty (s3.ty (e := y_api_Set) hnv4 (by decide))
      have hk5 : Keep [bid] h h5 := fun i o hi hn9 => by
        have := hf.lt' hi
        refine s3 i o (hk4 i o hi hn9) fun e => ?_
        have := (hnv4.blk e).1
        omega
      (repeat (first | refine bindP_mk (by simp (disch := first | omega | exact Int.natCast_nonneg _ | assumption) only [BB, B2, ↓reduceIte, Nat.reduceLeDiff, Nat.reduceAdd, CC, nilCk_at] <;> rfl) ?_ | refine newP_mk ?_ | refine optP_mk ?_ | with_reducible first | refine condP_t ?_ | refine condP_f ?_ | refine ifP_tt' ?_ | refine ifP_ff' ?_ | refine ifP_tf' ?_ | refine ifP_ft' ?_ | refine ifP_u' ?_ | refine optP_mk0 ?_))
      refine bindP_mk (store1_own hb5 (by rw [hrl]; omega) hw5 (cells_of_ok hw5)) ?_
      rw [rbL_set2]
      have hb6 : (h5.upd bid (some (.cells (rbL av bv w5 (List.replicate 256 0) 0 cv nilS (.int .i64 0)).toArray y_raddleref11_builder))).get bid = _ := T.get_upd_same _ _ _
      have hg6 : (h5.upd bid (some (.cells (rbL av bv w5 (List.replicate 256 0) 0 cv nilS (.int .i64 0)).toArray y_raddleref11_builder))).get gid = _ := (T.get_upd_ne _ _ hgb).trans hg5
      have hk6 : Keep [bid] h (h5.upd bid (some (.cells (rbL av bv w5 (List.replicate 256 0) 0 cv nilS (.int .i64 0)).toArray y_raddleref11_builder))) := hk5.upd (by simp)
      have hcv6 := hcv5.updNe (o := some (.cells (rbL av bv w5 (List.replicate 256 0) 0 cv nilS (.int .i64 0)).toArray y_raddleref11_builder)) hb5 (by decide)
      have hsv6 := hsv5.updNe (o := some (.cells (rbL av bv w5 (List.replicate 256 0) 0 cv nilS (.int .i64 0)).toArray y_raddleref11_builder)) hb5 (by decide)
      have hnv6 := s1.updNe (o := some (.cells (rbL av bv w5 (List.replicate 256 0) 0 cv nilS (.int .i64 0)).toArray y_raddleref11_builder)) hb5 (by decide)
      have hf6 := s4.upd (o := some (.cells (rbL av bv w5 (List.replicate 256 0) 0 cv nilS (.int .i64 0)).toArray y_raddleref11_builder)) (Nat.le_refl _) (show bid < _ by omega)
      generalize h5.upd bid (some (.cells (rbL av bv w5 (List.replicate 256 0) 0 cv nilS (.int .i64 0)).toArray y_raddleref11_builder)) = h6 at hb6 hg6 hk6 hcv6 hsv6 hnv6 hf6
      have hP6 : SlR ro h6 bv 9 (RPos ro h6) g.p := hP.sub (hk6.delS fun _ h => h) (RPos.sub (hk6.delS fun _ h => h))
      obtain ⟨x', ⟨pv6, rfl, _, _⟩, _, _, v4, v5⟩ := hP6.at hk
      have l56 := v5 5 _ rfl
      have l46 := v5 4 _ rfl
      have b260' := rbL_260 (av := av) (bv := bv) (nv := w5) (c := List.replicate 256 0) (n := 0) (cv := cv) (sv := nilS) (ev := .int .i64 0) List.length_replicate
      have hrl' := rbL_len (av := av) (bv := bv) (nv := w5) (c := List.replicate 256 0) (n := 0) (cv := cv) (sv := nilS) (ev := .int .i64 0) List.length_replicate
      (repeat (first | refine bindP_mk (by simp (disch := first | omega | exact Int.natCast_nonneg _ | assumption) only [BB, B2, ↓reduceIte, Nat.reduceLeDiff, Nat.reduceAdd, CC, nilCk_at, hb6, b260', hg6, c1, hix, fw4, fw5, l56, l46] <;> rfl) ?_ | refine newP_mk ?_ | refine optP_mk ?_ | with_reducible first | refine condP_t ?_ | refine condP_f ?_ | refine ifP_tt' ?_ | refine ifP_ff' ?_ | refine ifP_tf' ?_ | refine ifP_ft' ?_ | refine ifP_u' ?_ | refine optP_mk0 ?_))
      refine bindP_mk (build_cnt _ _) ?_
      refine app_cnt hcv6 (by omega) (hf6.mono (show _ ≤ _ from Nat.le_refl _)) (by omega) (by omega) (by omega) fun h7 w7 r1 r2 r3 => ?_
      dsimp only
      rw [← hct] at r1
      have hw7 : cellOk w7 = true := r1.ok
      have hb7 := r2.ty (e := y_raddleref11_builder) hcv6 (by decide) _ _ _ hb6
      have hnv7 := hnv6.ty (r2.ty (e := y_int) hcv6 (by decide))
      have hsv7 := hsv6.ty (r2.ty (e := y_api_Set) hcv6 (by decide))
      have hk7 : Keep [bid] h h7 := fun i o hi hn9 => by
        have := hf.lt' hi
        refine r2 i o (hk6 i o hi hn9) fun e => ?_
        have := (hcv6.blk e).1
        omega
      (repeat (first | refine bindP_mk (by simp (disch := first | omega | exact Int.natCast_nonneg _ | assumption) only [BB, B2, ↓reduceIte, Nat.reduceLeDiff, Nat.reduceAdd, CC, nilCk_at] <;> rfl) ?_ | refine newP_mk ?_ | refine optP_mk ?_ | with_reducible first | refine condP_t ?_ | refine condP_f ?_ | refine ifP_tt' ?_ | refine ifP_ff' ?_ | refine ifP_tf' ?_ | refine ifP_ft' ?_ | refine ifP_u' ?_ | refine optP_mk0 ?_))
      refine bindP_mk (store1_own hb7 (by rw [hrl']; omega) hw7 (cells_of_ok hw7)) ?_
      rw [rbL_set260 List.length_replicate]
      exact hj7 _ _ _ w7 w5 (by omega) ((r3.mono (by omega)).upd (Nat.le_refl _) (by omega)) (hk7.upd (by simp)) (T.get_upd_same _ _ _) (hnv7.updNe hb7 (by decide)) (hsv7.updNe hb7 (by decide)) (r1.updNe hb7 (by decide)) f1 f2 f4 f6
    · rw [if_neg (by omega)] at hct
      rw [decide_eq_false (by omega)] at hcd
      rw [numOf_f hcd] at hns
      (repeat (first | refine bindP_mk (by simp (disch := first | omega | exact Int.natCast_nonneg _ | assumption) only [BB, B2, ↓reduceIte, Nat.reduceLeDiff, Nat.reduceAdd, CC, nilCk_at, hb4, b2] <;> rfl) ?_ | refine newP_mk ?_ | refine optP_mk ?_ | with_reducible first | refine condP_t ?_ | refine condP_f ?_ | refine ifP_tt' ?_ | refine ifP_ff' ?_ | refine ifP_tf' ?_ | refine ifP_ft' ?_ | refine ifP_u' ?_ | refine optP_mk0 ?_))
      refine app_int hnv4 (by omega) q3 (by omega) (by omega) (by omega) fun h5 w5 s1 s2 s3 s4 => ?_
      dsimp only
      rw [← hns] at s1
      have hw5 : cellOk w5 = true := s1.ok
      have hb5 := s3.ty (e := y_raddleref11_builder) hnv4 (by decide) _ _ _ hb4
      have hcv5 := hcv4.ty (s3.ty (e := y_a2_int) hnv4 (by decide))
      have hsv5 := q1.ty (s3.ty (e := y_api_Set) hnv4 (by decide))
      have hk5 : Keep [bid] h h5 := fun i o hi hn9 => by
        have := hf.lt' hi
        refine s3 i o (hk4 i o hi hn9) fun e => ?_
        have := (hnv4.blk e).1
        omega
      (repeat (first | refine bindP_mk (by simp (disch := first | omega | exact Int.natCast_nonneg _ | assumption) only [BB, B2, ↓reduceIte, Nat.reduceLeDiff, Nat.reduceAdd, CC, nilCk_at] <;> rfl) ?_ | refine newP_mk ?_ | refine optP_mk ?_ | with_reducible first | refine condP_t ?_ | refine condP_f ?_ | refine ifP_tt' ?_ | refine ifP_ff' ?_ | refine ifP_tf' ?_ | refine ifP_ft' ?_ | refine ifP_u' ?_ | refine optP_mk0 ?_))
      refine bindP_mk (store1_own hb5 (by rw [hrl]; omega) hw5 (cells_of_ok hw5)) ?_
      rw [rbL_set2]
      exact hj7 _ _ _ cv w5 (by omega) ((s4.mono (by omega)).upd (Nat.le_refl _) (by omega)) (hk5.upd (by simp)) (T.get_upd_same _ _ _) (s1.updNe hb5 (by decide)) (hsv5.updNe hb5 (by decide)) (by rw [hct]; exact hcv5.updNe hb5 (by decide)) f1 f2 f4 f6
  · have hkl : k = g.p.length := by omega
    subst hkl
    rw [List.take_length] at hsv hcv
    exact condP_f (hx _ _ _ _ (fun e => by cases e) (hQ _ _ _ _ cv nv (by omega) (hf'.mono (by omega)) hkp hb' hnv hsv hcv f2 f4 rfl))
end
end V
end Go.Proofs.Ytmmdcdjkmakgpaa
set_option linter.unusedVariables false
set_option linter.unusedSimpArgs false
namespace Go.Proofs.Ytmmdcdjkmakgpaa
namespace V
open PA
attribute [local irreducible] bindP ifP condP newP optP exP beqP
set_option maxRecDepth 4000 in
theorem ref09_rises_c {ro : Ro} {v : Value} {l : List Int} {many : Int} (hm : many ≤ 1000000) {h : T Obj} {nx : Nat} {K : KV} (hv : ZI ro h v l) (hK : ∀ nx', nx ≤ nx' → K (.bool (rz (-1) many l)) h nx') : callP Try.prog ro i_ref09_rises [v, .int .i64 many] h nx K := by
  apply ref09_rises_of
  unfold ref09_rises
  generalize hR : rz (-1) many l = R at hK
  refine loopP_rule (fun j e h' nx' => ∃ (k : Nat) (last : Int), k + j = l.length ∧ nx ≤ nx' ∧ h' = h ∧ e 0 = v ∧ e 1 = .int .i64 many ∧ e 5 = .int .i64 k ∧ (k : Int) ≤ last + 1 ∧ last ≤ 1000000 ∧ (k = 0 → last = -1) ∧ (∀ q, q + 1 = k → l[q]? = some last) ∧ rz last many (l.drop k) = R) ?_ (n := l.length) ⟨0, -1, by omega, by omega, rfl, rfl, rfl, rfl, by omega, by omega, fun _ => rfl, fun q hq => by omega, hR⟩
  rintro j e h' nx' ⟨k, last, hj, hnx, rfl, e0, e1, e5, hk1, hk2, hk0, hkp, hr⟩ Q' hq hx
  unfold ref09_rises_L1
  rw [e0, e1, e5]
  refine bindP_mk hv.len ?_
  refine lss_s (fun hk => ?_) (fun hk => ?_)
  · have hk : k < l.length := by omega
    have hxk : l[k]? = some l[k] := List.getElem?_eq_getElem hk
    rw [drop_cons hk, rz_cons] at hr
    (repeat (first | refine bindP_mk (by simp (disch := first | omega | exact Int.natCast_nonneg _ | assumption) only [BB, B2, ↓reduceIte, Nat.reduceLeDiff, Nat.reduceAdd, CC] <;> rfl) ?_ | refine newP_mk ?_ | refine optP_mk ?_ | with_reducible first | refine condP_t ?_ | refine condP_f ?_ | refine ifP_tt' ?_ | refine ifP_ff' ?_ | refine ifP_tf' ?_ | refine ifP_ft' ?_ | refine ifP_u' ?_ | refine optP_mk0 ?_))
    refine bindP_mk (hv.ix _ hk) (bindP_mk (hv.load hk) ?_)
    generalize l[k] = x at hr hxk
    have hfin : ∀ (e' : Env) n, e' 4 = .bool false → (¬ last < x ∨ ¬ x < many) → nx ≤ n → Q' .ret e' h' n := fun e' n h4 hc hn => by
      refine hx _ _ _ _ (fun e => by cases e) (exP_r ?_)
      rw [h4]
      refine ⟨_, Sub.refl _, kb hK ?_ hn⟩
      rw [← hr]
      rcases hc with hc | hc
      · rw [decide_eq_false hc]; rfl
      · rw [decide_eq_false hc]; simp
    have hok : ∀ (e' : Env) n, e' 0 = v → e' 1 = .int .i64 many → e' 5 = .int .i64 ((k : Int) + 1) → last < x → x < many → nx ≤ n → Q' .normal e' h' n := fun e' n g0 g1 g5 hc1 hc2 hn => by
      refine hq (j - 1) _ _ _ _ (by omega) ⟨k + 1, x, by omega, hn, rfl, g0, g1, g5, by omega, by omega, fun h => by omega, fun q hq => ?_, ?_⟩ (Sub.refl _)
      · have : q = k := by omega
        subst this; exact hxk
      · rw [← hr, decide_eq_true hc1, decide_eq_true hc2]; rfl
    (first | refine lss_s (fun hb => ?_) (fun hb => ?_) | refine leq_s (fun hb => ?_) (fun hb => ?_) | refine gtr_s (fun hb => ?_) (fun hb => ?_) | refine geq_s (fun hb => ?_) (fun hb => ?_) | refine eql_s (fun hb => ?_) (fun hb => ?_) | refine neq_s (fun hb => ?_) (fun hb => ?_))
    · (repeat (first | refine bindP_mk (by simp (disch := first | omega | exact Int.natCast_nonneg _ | assumption) only [BB, B2, ↓reduceIte, Nat.reduceLeDiff, Nat.reduceAdd, CC] <;> rfl) ?_ | refine newP_mk ?_ | refine optP_mk ?_ | with_reducible first | refine condP_t ?_ | refine condP_f ?_ | refine ifP_tt' ?_ | refine ifP_ff' ?_ | refine ifP_tf' ?_ | refine ifP_ft' ?_ | refine ifP_u' ?_ | refine optP_mk0 ?_))
      exact hfin _ _ rfl (.inl (by omega)) (by omega)
    · (repeat (first | refine bindP_mk (by simp (disch := first | omega | exact Int.natCast_nonneg _ | assumption) only [BB, B2, ↓reduceIte, Nat.reduceLeDiff, Nat.reduceAdd, CC] <;> rfl) ?_ | refine newP_mk ?_ | refine optP_mk ?_ | with_reducible first | refine condP_t ?_ | refine condP_f ?_ | refine ifP_tt' ?_ | refine ifP_ff' ?_ | refine ifP_tf' ?_ | refine ifP_ft' ?_ | refine ifP_u' ?_ | refine optP_mk0 ?_))
      refine bindP_mk (hv.ix _ hk) ?_
      (repeat (first | refine bindP_mk (by simp (disch := first | omega | exact Int.natCast_nonneg _ | assumption) only [BB, B2, ↓reduceIte, Nat.reduceLeDiff, Nat.reduceAdd, CC] <;> rfl) ?_ | refine newP_mk ?_ | refine optP_mk ?_ | with_reducible first | refine condP_t ?_ | refine condP_f ?_ | refine ifP_tt' ?_ | refine ifP_ff' ?_ | refine ifP_tf' ?_ | refine ifP_ft' ?_ | refine ifP_u' ?_ | refine optP_mk0 ?_))
      refine bindP_mk (hv.load' hxk) ?_
      (repeat (first | refine bindP_mk (by simp (disch := first | omega | exact Int.natCast_nonneg _ | assumption) only [BB, B2, ↓reduceIte, Nat.reduceLeDiff, Nat.reduceAdd, CC] <;> rfl) ?_ | refine newP_mk ?_ | refine optP_mk ?_ | with_reducible first | refine condP_t ?_ | refine condP_f ?_ | refine ifP_tt' ?_ | refine ifP_ff' ?_ | refine ifP_tf' ?_ | refine ifP_ft' ?_ | refine ifP_u' ?_ | refine optP_mk0 ?_))
      (first | refine lss_s (fun hb => ?_) (fun hb => ?_) | refine leq_s (fun hb => ?_) (fun hb => ?_) | refine gtr_s (fun hb => ?_) (fun hb => ?_) | refine geq_s (fun hb => ?_) (fun hb => ?_) | refine eql_s (fun hb => ?_) (fun hb => ?_) | refine neq_s (fun hb => ?_) (fun hb => ?_))
      · (repeat (first | refine bindP_mk (by simp (disch := first | omega | exact Int.natCast_nonneg _ | assumption) only [BB, B2, ↓reduceIte, Nat.reduceLeDiff, Nat.reduceAdd, CC] <;> rfl) ?_ | refine newP_mk ?_ | refine optP_mk ?_ | with_reducible first | refine condP_t ?_ | refine condP_f ?_ | refine ifP_tt' ?_ | refine ifP_ff' ?_ | refine ifP_tf' ?_ | refine ifP_ft' ?_ | refine ifP_u' ?_ | refine optP_mk0 ?_))
        exact hfin _ _ rfl (.inr (by omega)) (by omega)
      · (repeat (first | refine bindP_mk (by simp (disch := first | omega | exact Int.natCast_nonneg _ | assumption) only [BB, B2, ↓reduceIte, Nat.reduceLeDiff, Nat.reduceAdd, CC] <;> rfl) ?_ | refine newP_mk ?_ | refine optP_mk ?_ | with_reducible first | refine condP_t ?_ | refine condP_f ?_ | refine ifP_tt' ?_ | refine ifP_ff' ?_ | refine ifP_tf' ?_ | refine ifP_ft' ?_ | refine ifP_u' ?_ | refine optP_mk0 ?_))
        (first | refine lss_s (fun hb => ?_) (fun hb => ?_) | refine leq_s (fun hb => ?_) (fun hb => ?_) | refine gtr_s (fun hb => ?_) (fun hb => ?_) | refine geq_s (fun hb => ?_) (fun hb => ?_) | refine eql_s (fun hb => ?_) (fun hb => ?_) | refine neq_s (fun hb => ?_) (fun hb => ?_))
        · have h2 := hkp (k - 1) (by omega)
          have h3 := (List.getElem?_eq_some_iff.1 h2).1
          have h4 : ((k : Int) - 1).toNat = k - 1 := by omega
          (repeat (first | refine bindP_mk (by simp (disch := first | omega | exact Int.natCast_nonneg _ | assumption) only [BB, B2, ↓reduceIte, Nat.reduceLeDiff, Nat.reduceAdd, CC] <;> rfl) ?_ | refine newP_mk ?_ | refine optP_mk ?_ | with_reducible first | refine condP_t ?_ | refine condP_f ?_ | refine ifP_tt' ?_ | refine ifP_ff' ?_ | refine ifP_tf' ?_ | refine ifP_ft' ?_ | refine ifP_u' ?_ | refine optP_mk0 ?_))
          refine bindP_mk (hv.ixI _ (by omega) (by omega)) ?_
          rw [h4]
          (repeat (first | refine bindP_mk (by simp (disch := first | omega | exact Int.natCast_nonneg _ | assumption) only [BB, B2, ↓reduceIte, Nat.reduceLeDiff, Nat.reduceAdd, CC] <;> rfl) ?_ | refine newP_mk ?_ | refine optP_mk ?_ | with_reducible first | refine condP_t ?_ | refine condP_f ?_ | refine ifP_tt' ?_ | refine ifP_ff' ?_ | refine ifP_tf' ?_ | refine ifP_ft' ?_ | refine ifP_u' ?_ | refine optP_mk0 ?_))
          refine bindP_mk (hv.load' h2) ?_
          (repeat (first | refine bindP_mk (by simp (disch := first | omega | exact Int.natCast_nonneg _ | assumption) only [BB, B2, ↓reduceIte, Nat.reduceLeDiff, Nat.reduceAdd, CC] <;> rfl) ?_ | refine newP_mk ?_ | refine optP_mk ?_ | with_reducible first | refine condP_t ?_ | refine condP_f ?_ | refine ifP_tt' ?_ | refine ifP_ff' ?_ | refine ifP_tf' ?_ | refine ifP_ft' ?_ | refine ifP_u' ?_ | refine optP_mk0 ?_))
          refine bindP_mk (hv.ix _ hk) ?_
          (repeat (first | refine bindP_mk (by simp (disch := first | omega | exact Int.natCast_nonneg _ | assumption) only [BB, B2, ↓reduceIte, Nat.reduceLeDiff, Nat.reduceAdd, CC] <;> rfl) ?_ | refine newP_mk ?_ | refine optP_mk ?_ | with_reducible first | refine condP_t ?_ | refine condP_f ?_ | refine ifP_tt' ?_ | refine ifP_ff' ?_ | refine ifP_tf' ?_ | refine ifP_ft' ?_ | refine ifP_u' ?_ | refine optP_mk0 ?_))
          refine bindP_mk (hv.load' hxk) ?_
          (repeat (first | refine bindP_mk (by simp (disch := first | omega | exact Int.natCast_nonneg _ | assumption) only [BB, B2, ↓reduceIte, Nat.reduceLeDiff, Nat.reduceAdd, CC] <;> rfl) ?_ | refine newP_mk ?_ | refine optP_mk ?_ | with_reducible first | refine condP_t ?_ | refine condP_f ?_ | refine ifP_tt' ?_ | refine ifP_ff' ?_ | refine ifP_tf' ?_ | refine ifP_ft' ?_ | refine ifP_u' ?_ | refine optP_mk0 ?_))
          (first | refine lss_s (fun hb => ?_) (fun hb => ?_) | refine leq_s (fun hb => ?_) (fun hb => ?_) | refine gtr_s (fun hb => ?_) (fun hb => ?_) | refine geq_s (fun hb => ?_) (fun hb => ?_) | refine eql_s (fun hb => ?_) (fun hb => ?_) | refine neq_s (fun hb => ?_) (fun hb => ?_))
          · (repeat (first | refine bindP_mk (by simp (disch := first | omega | exact Int.natCast_nonneg _ | assumption) only [BB, B2, ↓reduceIte, Nat.reduceLeDiff, Nat.reduceAdd, CC] <;> rfl) ?_ | refine newP_mk ?_ | refine optP_mk ?_ | with_reducible first | refine condP_t ?_ | refine condP_f ?_ | refine ifP_tt' ?_ | refine ifP_ff' ?_ | refine ifP_tf' ?_ | refine ifP_ft' ?_ | refine ifP_u' ?_ | refine optP_mk0 ?_))
            exact hfin _ _ rfl (.inl (by omega)) (by omega)
          · (repeat (first | refine bindP_mk (by simp (disch := first | omega | exact Int.natCast_nonneg _ | assumption) only [BB, B2, ↓reduceIte, Nat.reduceLeDiff, Nat.reduceAdd, CC] <;> rfl) ?_ | refine newP_mk ?_ | refine optP_mk ?_ | with_reducible first | refine condP_t ?_ | refine condP_f ?_ | refine ifP_tt' ?_ | refine ifP_ff' ?_ | refine ifP_tf' ?_ | refine ifP_ft' ?_ | refine ifP_u' ?_ | refine optP_mk0 ?_))
            exact hok _ _ e0 e1 rfl (by omega) (by omega) (by omega)
        · (repeat (first | refine bindP_mk (by simp (disch := first | omega | exact Int.natCast_nonneg _ | assumption) only [BB, B2, ↓reduceIte, Nat.reduceLeDiff, Nat.reduceAdd, CC] <;> rfl) ?_ | refine newP_mk ?_ | refine optP_mk ?_ | with_reducible first | refine condP_t ?_ | refine condP_f ?_ | refine ifP_tt' ?_ | refine ifP_ff' ?_ | refine ifP_tf' ?_ | refine ifP_ft' ?_ | refine ifP_u' ?_ | refine optP_mk0 ?_))
          exact hok _ _ e0 e1 rfl (by omega) (by omega) (by omega)
  · (repeat (first | refine bindP_mk (by simp (disch := first | omega | exact Int.natCast_nonneg _ | assumption) only [BB, B2, ↓reduceIte, Nat.reduceLeDiff, Nat.reduceAdd, CC] <;> rfl) ?_ | refine newP_mk ?_ | refine optP_mk ?_ | with_reducible first | refine condP_t ?_ | refine condP_f ?_ | refine ifP_tt' ?_ | refine ifP_ff' ?_ | refine ifP_tf' ?_ | refine ifP_ft' ?_ | refine ifP_u' ?_ | refine optP_mk0 ?_))
    refine hx _ _ _ _ (fun e => by cases e) (exP_e (beqP_t ?_))
    unfold ref09_rises_j1
    rw [drop_all (by omega)] at hr
    exact ⟨_, Sub.refl _, kb hK hr.symm (by omega)⟩
theorem zer_Pos : zer Try.prog y_api_Pos = some (.agg (posL dummy (.slice none 0 0)).toArray) := by kernel_rfl
set_option maxRecDepth 4000 in
theorem ref09_Right_c {ro : Ro} {v : Value} {g : GlD} {h : T Obj} {nx : Nat} {K : KV} (hf : Fr h nx) (hg : RG ro h v g) (hK : ∀ nx', nx ≤ nx' → K (.bool (rightD g)) h nx') : callP Try.prog ro i_ref09_Right [v] h nx K := by
  obtain ⟨a, b, rfl, ha, hb⟩ := hg
  apply ref09_Right_of
  unfold ref09_Right
  refine newP_mk ?_
  have hs1 : Sub h (h.upd nx (some (.cells (Value.cells (.agg #[a, b])) y_api_Glush))) := (Sub.refl h).new hf (Nat.le_refl _)
  have hf1 : Fr (h.upd nx (some (.cells (Value.cells (.agg #[a, b])) y_api_Glush))) (nx + 1) := hf.upd (by omega) (by omega)
  have g1 : (h.upd nx (some (.cells (Value.cells (.agg #[a, b])) y_api_Glush))).get nx = some (.cells #[a, b] y_api_Glush) := by rw [T.get_upd_same]; rfl
  generalize h.upd nx (some (.cells (Value.cells (.agg #[a, b])) y_api_Glush)) = h1 at hs1 hf1 g1
  have hK' : ∀ (c : Bool) n, rightD g = c → nx ≤ n → ∃ h', Sub h' h1 ∧ K (.bool c) h' n := fun c n e hn => ⟨h, hs1, kb hK e hn⟩
  unfold rightD at hK'
  have hl := hb.len
  have hb1 := hb.sub hs1 (RPos.sub hs1)
  (repeat (first | refine bindP_mk (by simp (disch := first | omega | exact Int.natCast_nonneg _ | assumption) only [BB, B2, ↓reduceIte, Nat.reduceLeDiff, Nat.reduceAdd, CC, g1, hl] <;> rfl) ?_ | refine newP_mk ?_ | refine optP_mk ?_ | with_reducible first | refine condP_t ?_ | refine condP_f ?_ | refine ifP_tt' ?_ | refine ifP_ff' ?_ | refine ifP_tf' ?_ | refine ifP_ft' ?_ | refine ifP_u' ?_ | refine optP_mk0 ?_))
  (first | refine lss_s (fun hb => ?_) (fun hb => ?_) | refine leq_s (fun hb => ?_) (fun hb => ?_) | refine gtr_s (fun hb => ?_) (fun hb => ?_) | refine geq_s (fun hb => ?_) (fun hb => ?_) | refine eql_s (fun hb => ?_) (fun hb => ?_) | refine neq_s (fun hb => ?_) (fun hb => ?_))
  · (repeat (first | refine bindP_mk (by simp (disch := first | omega | exact Int.natCast_nonneg _ | assumption) only [BB, B2, ↓reduceIte, Nat.reduceLeDiff, Nat.reduceAdd, CC, g1, hl] <;> rfl) ?_ | refine newP_mk ?_ | refine optP_mk ?_ | with_reducible first | refine condP_t ?_ | refine condP_f ?_ | refine ifP_tt' ?_ | refine ifP_ff' ?_ | refine ifP_tf' ?_ | refine ifP_ft' ?_ | refine ifP_u' ?_ | refine optP_mk0 ?_))
    exact hK' _ _ (by rw [decide_eq_false (by omega)]; rfl) (by omega)
  · (repeat (first | refine bindP_mk (by simp (disch := first | omega | exact Int.natCast_nonneg _ | assumption) only [BB, B2, ↓reduceIte, Nat.reduceLeDiff, Nat.reduceAdd, CC, g1, hl] <;> rfl) ?_ | refine newP_mk ?_ | refine optP_mk ?_ | with_reducible first | refine condP_t ?_ | refine condP_f ?_ | refine ifP_tt' ?_ | refine ifP_ff' ?_ | refine ifP_tf' ?_ | refine ifP_ft' ?_ | refine ifP_u' ?_ | refine optP_mk0 ?_))
    refine ref09_rises_c (by omega) (ha.sub hs1) fun n hn => ?_
    cases hr : rz (-1) g.p.length g.first with
    | false =>
      (repeat (first | refine bindP_mk (by simp (disch := first | omega | exact Int.natCast_nonneg _ | assumption) only [BB, B2, ↓reduceIte, Nat.reduceLeDiff, Nat.reduceAdd, CC, g1, hl] <;> rfl) ?_ | refine newP_mk ?_ | refine optP_mk ?_ | with_reducible first | refine condP_t ?_ | refine condP_f ?_ | refine ifP_tt' ?_ | refine ifP_ff' ?_ | refine ifP_tf' ?_ | refine ifP_ft' ?_ | refine ifP_u' ?_ | refine optP_mk0 ?_))
      exact hK' _ _ (by rw [hr]; simp) (by omega)
    | true =>
      (repeat (first | refine bindP_mk (by simp (disch := first | omega | exact Int.natCast_nonneg _ | assumption) only [BB, B2, ↓reduceIte, Nat.reduceLeDiff, Nat.reduceAdd, CC, g1, hl] <;> rfl) ?_ | refine newP_mk ?_ | refine optP_mk ?_ | with_reducible first | refine condP_t ?_ | refine condP_f ?_ | refine ifP_tt' ?_ | refine ifP_ff' ?_ | refine ifP_tf' ?_ | refine ifP_ft' ?_ | refine ifP_u' ?_ | refine optP_mk0 ?_))
      rw [hr, decide_eq_true (by omega)] at hK'
      simp only [Bool.true_and] at hK'
      generalize hR : g.p.all (mayD g.p.length) = R at hK'
      refine loopP_rule (fun j e h' nx' => ∃ (k : Nat), k + j = g.p.length ∧ nx + 1 ≤ nx' ∧ h' = h1 ∧ e 1 = ptr nx ∧ e 3 = .int .i64 k ∧ (g.p.drop k).all (mayD g.p.length) = R) ?_ (n := g.p.length) ⟨0, by omega, by omega, rfl, rfl, rfl, hR⟩
      rintro j e h' nx' ⟨k, hj, hnx, rfl, e1, e3, hr2⟩ Q' hq hx
      unfold ref09_Right_L1
      rw [e1, e3]
      (repeat (first | refine bindP_mk (by simp (disch := first | omega | exact Int.natCast_nonneg _ | assumption) only [BB, B2, ↓reduceIte, Nat.reduceLeDiff, Nat.reduceAdd, CC, g1, hl] <;> rfl) ?_ | refine newP_mk ?_ | refine optP_mk ?_ | with_reducible first | refine condP_t ?_ | refine condP_f ?_ | refine ifP_tt' ?_ | refine ifP_ff' ?_ | refine ifP_tf' ?_ | refine ifP_ft' ?_ | refine ifP_u' ?_ | refine optP_mk0 ?_))
      refine lss_s (fun hk => ?_) (fun hk => ?_)
      · have hk : k < g.p.length := by omega
        rw [drop_cons hk, List.all_cons] at hr2
        obtain ⟨x, ⟨nv, rfl, hn1, hn2⟩, hx2, hx3, hx4, hx5⟩ := hb1.at hk
        generalize g.p[k] = p at hr2 hx2 hx3 hx5 hn1 hn2
        (repeat (first | refine bindP_mk (by simp (disch := first | omega | exact Int.natCast_nonneg _ | assumption) only [BB, B2, ↓reduceIte, Nat.reduceLeDiff, Nat.reduceAdd, CC, g1, hl] <;> rfl) ?_ | refine newP_mk ?_ | refine optP_mk ?_ | with_reducible first | refine condP_t ?_ | refine condP_f ?_ | refine ifP_tt' ?_ | refine ifP_ff' ?_ | refine ifP_tf' ?_ | refine ifP_ft' ?_ | refine ifP_u' ?_ | refine optP_mk0 ?_))
        refine bindP_mk (hb1.ix _ hk) (bindP_mk hx3 (bindP_mk zer_Pos (newP_mk ?_)))
        refine bindP_mk (storeA_own (l := posL dummy (.slice none 0 0)) (vs := posL p nv) (e := y_api_Pos) (f := (0, 0)) (by rw [T.get_upd_same]; rfl) rfl rfl rfl (posL_ok hn1.ok)) ?_
        have hs2 : Sub h' ((h'.upd (nx' + 10) (some (.cells (Value.cells (.agg (posL dummy (.slice none 0 0)).toArray)) y_api_Pos))).upd (nx' + 10) (some (.cells (posL p nv).toArray y_api_Pos))) := ((Sub.refl h').new hf1 (by omega)).new hf1 (by omega)
        have hf2 : Fr ((h'.upd (nx' + 10) (some (.cells (Value.cells (.agg (posL dummy (.slice none 0 0)).toArray)) y_api_Pos))).upd (nx' + 10) (some (.cells (posL p nv).toArray y_api_Pos))) (nx' + 11) := ((hf1.mono (show nx + 1 ≤ nx' + 11 by omega)).upd (Nat.le_refl _) (by omega)).upd (Nat.le_refl _) (by omega)
        have g2 : ((h'.upd (nx' + 10) (some (.cells (Value.cells (.agg (posL dummy (.slice none 0 0)).toArray)) y_api_Pos))).upd (nx' + 10) (some (.cells (posL p nv).toArray y_api_Pos))).get (nx' + 10) = some (.cells (posL p nv).toArray y_api_Pos) := by rw [T.get_upd_same]
        have g3 := hs2 _ _ g1
        generalize (h'.upd (nx' + 10) (some (.cells (Value.cells (.agg (posL dummy (.slice none 0 0)).toArray)) y_api_Pos))).upd (nx' + 10) (some (.cells (posL p nv).toArray y_api_Pos)) = h2 at hs2 hf2 g2 g3
        have hfin : ∀ (e' : Env) n, e' 2 = .bool false → mayD g.p.length p = false → nx ≤ n → Q' .ret e' h2 n := fun e' n h4 hc hn => by
          refine hx _ _ _ _ (fun e => by cases e) (exP_r ?_)
          rw [h4]
          obtain ⟨h9, q1, q2⟩ := hK' false n (by rw [← hr2, hc]; rfl) hn
          exact ⟨h9, q1.trans hs2, q2⟩
        have hok : ∀ (e' : Env) n, e' 1 = ptr nx → e' 3 = .int .i64 ((k : Int) + 1) → mayD g.p.length p = true → nx + 1 ≤ n → Q' .normal e' h2 n := fun e' n q1 q3 hc hn => by
          refine hq (j - 1) _ h' _ _ (by omega) ⟨k + 1, by omega, hn, rfl, q1, q3, ?_⟩ hs2
          rw [← hr2, hc, Bool.true_and]
        unfold mayD at hfin hok
        (repeat (first | refine bindP_mk (by simp (disch := first | omega | exact Int.natCast_nonneg _ | assumption) only [BB, B2, ↓reduceIte, Nat.reduceLeDiff, Nat.reduceAdd, CC, g2, g3, posL_take] <;> rfl) ?_ | refine newP_mk ?_ | refine optP_mk ?_ | with_reducible first | refine condP_t ?_ | refine condP_f ?_ | refine ifP_tt' ?_ | refine ifP_ff' ?_ | refine ifP_tf' ?_ | refine ifP_ft' ?_ | refine ifP_u' ?_ | refine optP_mk0 ?_))
        refine bindP_mk build_Set0 (bindP_mk plain_Set (eql_set0_s hn2 (fun h0 => ?_) (fun h0 => ?_)))
        · (repeat (first | refine bindP_mk (by simp (disch := first | omega | exact Int.natCast_nonneg _ | assumption) only [BB, B2, ↓reduceIte, Nat.reduceLeDiff, Nat.reduceAdd, CC, g2, g3] <;> rfl) ?_ | refine newP_mk ?_ | refine optP_mk ?_ | with_reducible first | refine condP_t ?_ | refine condP_f ?_ | refine ifP_tt' ?_ | refine ifP_ff' ?_ | refine ifP_tf' ?_ | refine ifP_ft' ?_ | refine ifP_u' ?_ | refine optP_mk0 ?_))
          exact hfin _ _ rfl (by simp [h0]) (by omega)
        · (repeat (first | refine bindP_mk (by simp (disch := first | omega | exact Int.natCast_nonneg _ | assumption) only [BB, B2, ↓reduceIte, Nat.reduceLeDiff, Nat.reduceAdd, CC, g2, g3] <;> rfl) ?_ | refine newP_mk ?_ | refine optP_mk ?_ | with_reducible first | refine condP_t ?_ | refine condP_f ?_ | refine ifP_tt' ?_ | refine ifP_ff' ?_ | refine ifP_tf' ?_ | refine ifP_ft' ?_ | refine ifP_u' ?_ | refine optP_mk0 ?_))
          iterate 5 ((first | refine lss_s (fun hb => ?_) (fun hb => ?_) | refine leq_s (fun hb => ?_) (fun hb => ?_) | refine gtr_s (fun hb => ?_) (fun hb => ?_) | refine geq_s (fun hb => ?_) (fun hb => ?_) | refine eql_s (fun hb => ?_) (fun hb => ?_) | refine neq_s (fun hb => ?_) (fun hb => ?_)); (focus ((repeat (first | refine bindP_mk (by simp (disch := first | omega | exact Int.natCast_nonneg _ | assumption) only [BB, B2, ↓reduceIte, Nat.reduceLeDiff, Nat.reduceAdd, CC, g2, g3] <;> rfl) ?_ | refine newP_mk ?_ | refine optP_mk ?_ | with_reducible first | refine condP_t ?_ | refine condP_f ?_ | refine ifP_tt' ?_ | refine ifP_ff' ?_ | refine ifP_tf' ?_ | refine ifP_ft' ?_ | refine ifP_u' ?_ | refine optP_mk0 ?_)); refine hfin _ _ rfl ?_ (by omega); simp only [Bool.and_eq_false_iff, decide_eq_false_iff_not]; omega)); (repeat (first | refine bindP_mk (by simp (disch := first | omega | exact Int.natCast_nonneg _ | assumption) only [BB, B2, ↓reduceIte, Nat.reduceLeDiff, Nat.reduceAdd, CC, g2, g3, hl] <;> rfl) ?_ | refine newP_mk ?_ | refine optP_mk ?_ | with_reducible first | refine condP_t ?_ | refine condP_f ?_ | refine ifP_tt' ?_ | refine ifP_ff' ?_ | refine ifP_tf' ?_ | refine ifP_ft' ?_ | refine ifP_u' ?_ | refine optP_mk0 ?_)))
          (repeat (first | refine bindP_mk (by simp (disch := first | omega | exact Int.natCast_nonneg _ | assumption) only [BB, B2, ↓reduceIte, Nat.reduceLeDiff, Nat.reduceAdd, CC, g2, g3, hl] <;> rfl) ?_ | refine newP_mk ?_ | refine optP_mk ?_ | with_reducible first | refine condP_t ?_ | refine condP_f ?_ | refine ifP_tt' ?_ | refine ifP_ff' ?_ | refine ifP_tf' ?_ | refine ifP_ft' ?_ | refine ifP_u' ?_ | refine optP_mk0 ?_))
          refine ref09_rises_c (by omega) (hn1.sub hs2) fun n hn => ?_
          cases hr3 : rz (-1) g.p.length p.next with
          | false =>
            (repeat (first | refine bindP_mk (by simp (disch := first | omega | exact Int.natCast_nonneg _ | assumption) only [BB, B2, ↓reduceIte, Nat.reduceLeDiff, Nat.reduceAdd, CC] <;> rfl) ?_ | refine newP_mk ?_ | refine optP_mk ?_ | with_reducible first | refine condP_t ?_ | refine condP_f ?_ | refine ifP_tt' ?_ | refine ifP_ff' ?_ | refine ifP_tf' ?_ | refine ifP_ft' ?_ | refine ifP_u' ?_ | refine optP_mk0 ?_))
            exact hfin _ _ rfl (by rw [hr3]; simp) (by omega)
          | true =>
            (repeat (first | refine bindP_mk (by simp (disch := first | omega | exact Int.natCast_nonneg _ | assumption) only [BB, B2, ↓reduceIte, Nat.reduceLeDiff, Nat.reduceAdd, CC] <;> rfl) ?_ | refine newP_mk ?_ | refine optP_mk ?_ | with_reducible first | refine condP_t ?_ | refine condP_f ?_ | refine ifP_tt' ?_ | refine ifP_ff' ?_ | refine ifP_tf' ?_ | refine ifP_ft' ?_ | refine ifP_u' ?_ | refine optP_mk0 ?_))
            refine hok _ _ e1 rfl ?_ (by omega)
            rw [hr3, decide_eq_true h0]
            repeat rw [decide_eq_true (by omega), Bool.true_and]
            rfl
      · (repeat (first | refine bindP_mk (by simp (disch := first | omega | exact Int.natCast_nonneg _ | assumption) only [BB, B2, ↓reduceIte, Nat.reduceLeDiff, Nat.reduceAdd, CC] <;> rfl) ?_ | refine newP_mk ?_ | refine optP_mk ?_ | with_reducible first | refine condP_t ?_ | refine condP_f ?_ | refine ifP_tt' ?_ | refine ifP_ff' ?_ | refine ifP_tf' ?_ | refine ifP_ft' ?_ | refine ifP_u' ?_ | refine optP_mk0 ?_))
        refine hx _ _ _ _ (fun e => by cases e) (exP_e (beqP_t ?_))
        unfold ref09_Right_j1
        rw [drop_all (by omega)] at hr2
        exact hK' _ _ (by exact hr2.symm) (by omega)
end V
end Go.Proofs.Ytmmdcdjkmakgpaa
set_option linter.unusedVariables false
set_option linter.unusedSimpArgs false
namespace Go.Proofs.Ytmmdcdjkmakgpaa
namespace V
open PA
attribute [local irreducible] bindP ifP condP newP optP exP beqP
section
variable {av bv nv : Value} {c c' : List Nat} {n n' : Int} {cv sv ev : Value}
theorem rbL_drop3 : (rbL av bv nv c n cv sv ev).drop 3 = splitLI c n ++ [cv, sv, ev] := by
  show autL c n cv sv ++ [ev] = _
  unfold autL
  rw [List.append_assoc]; rfl
theorem rbL_over3 (hc : c.length = 256) (hc' : c'.length = 256) : over (rbL av bv nv c n cv sv ev) 3 (splitLI c' n') = rbL av bv nv c' n' cv sv ev := by
  unfold over
  rw [← List.drop_drop, rbL_drop3, splitLI_len hc', show 257 = (splitLI c n).length from (splitLI_len hc).symm, List.drop_left]
  show [av, bv, nv] ++ splitLI c' n' ++ [cv, sv, ev] = _
  unfold rbL autL
  simp
theorem rb_store {h : T Obj} {bid : Nat} {e : TypeId} {f : Nat × Nat} (hc : c.length = 256) (hc' : c'.length = 256) (hg : h.get bid = some (.cells (rbL av bv nv c n cv sv ev).toArray e f)) : storeN 257 h (at_ bid 3 0) (splitI c' n') = some (h.upd bid (some (.cells (rbL av bv nv c' n' cv sv ev).toArray e f))) := by
  rw [storeN_own, splitI_cells, hg]
  have h1 := splitLI_len (n := n') hc'
  have h2 := rbL_len (av := av) (bv := bv) (nv := nv) (n := n) (cv := cv) (sv := sv) (ev := ev) hc
  rw [if_pos (by rw [ts]; exact h1), putIn_cells (by rw [tl, ts, h1, h2]; omega) (by rw [tl]; exact splitLI_ok _ _)]
  rw [tl, tl, rbL_over3 hc hc']; rfl
theorem rb_auto {ro : Ro} {h : T Obj} {bid : Nat} {e : TypeId} {f : Nat × Nat} (hc : c.length = 256) (hg : h.get bid = some (.cells (rbL av bv nv c n cv sv ev).toArray e f)) : loadA ro h 259 (at_ bid 3 0) = some (.agg (autL c n cv sv).toArray) := by
  rw [loadA_own, hg, cellsIn_some]
  simp only [Option.bind_some, tl]
  rw [if_pos (by rw [rbL_len hc]; omega)]
  have : (rbL av bv nv c n cv sv ev).drop 3 = autL c n cv sv ++ [ev] := rfl
  rw [this, List.take_append_of_le_length (by rw [autL_len hc]; omega), List.take_of_length_le (by rw [autL_len hc]; omega)]
end
set_option maxRecDepth 8000 in
set_option maxHeartbeats 4000000 in
theorem ref11_Of_c {ro : Ro} {v : Value} {g : GlD} {h : T Obj} {nx : Nat} {K : KV} (hf : Fr h nx) (hg : RG ro h v g)
    (hK : ∀ h' nx' x, nx ≤ nx' → Sub h h' → Fr h' nx' → RAuto ro h' x (ofZ g).2 → K (.tuple #[.agg x.toArray, .int .i64 (ofZ g).1]) h' nx') : callP Try.prog ro i_ref11_Of [v] h nx K := by
  obtain ⟨a, b, rfl, ha, hb⟩ := hg
  apply ref11_Of_of
  unfold ref11_Of
  refine param_mk hf (Nat.le_refl _) fun h1 hs1 hf1 g1 _ => ?_
  have g1 : h1.get nx = some (.cells [a, b].toArray y_api_Glush) := g1
  refine bindP_mk zer_Auto (obj_mk hf1 (Nat.le_refl _) fun h2 hs2 hf2 g2 _ => ?_)
  have g2 : h2.get (nx + 1) = some (.cells autZ.toArray y_api_Auto) := g2
  have g1 := hs2 _ _ g1
  have hs := hs1.trans hs2
  refine bindP_mk (loadA_all (l := [a, b]) g1 rfl) ?_
  refine ref09_Right_c (hf2.mono (show nx + 1 + 1 ≤ nx + 5 by omega)) ⟨a, b, rfl, ha.sub hs, hb.sub hs (RPos.sub hs)⟩ fun n7 hn7 => ?_
  cases hr : rightD g with
  | false =>
    have hz : ofZ g = (1, autD0) := by unfold ofZ; rw [hr]; rfl
    rw [hz] at hK
    (repeat (first | refine bindP_mk (by simp (disch := first | omega | exact Int.natCast_nonneg _ | assumption) only [BB, B2, ↓reduceIte, Nat.reduceLeDiff, Nat.reduceAdd, CC] <;> rfl) ?_ | refine newP_mk ?_ | refine optP_mk ?_ | with_reducible first | refine condP_t ?_ | refine condP_f ?_ | refine ifP_tt' ?_ | refine ifP_ff' ?_ | refine ifP_tf' ?_ | refine ifP_ft' ?_ | refine ifP_u' ?_ | refine optP_mk0 ?_))
    refine bindP_mk build_Auto0 ?_
    refine bindP_mk (storeA_own (l := autZ) (vs := autZ) g2 rfl autZ_len autZ_len autZ_ok) ?_
    refine bindP_mk (loadA_all (l := autZ) (by rw [T.get_upd_same]) autZ_len) ?_
    exact ⟨h, hs.new hf (by omega), hK h _ autZ (by omega) (Sub.refl _) (hf.mono (by omega)) autD0_R⟩
  | true =>
    have hz : ofZ g = if (allZ g (ofB g) 256 0 [noS]).1 = 0 then (0, ofD g (allZ g (ofB g) 256 0 [noS]).2) else ((allZ g (ofB g) 256 0 [noS]).1, autD0) := by unfold ofZ; rw [hr]; rfl
    obtain ⟨hgl, hfr, hmay⟩ := right_parts hr
    have hgs : (setsL g.p).length ≤ 1000000 := by unfold setsL; rw [List.length_map]; omega
    (repeat (first | refine bindP_mk (by simp (disch := first | omega | exact Int.natCast_nonneg _ | assumption) only [BB, B2, ↓reduceIte, Nat.reduceLeDiff, Nat.reduceAdd, CC] <;> rfl) ?_ | refine newP_mk ?_ | refine optP_mk ?_ | with_reducible first | refine condP_t ?_ | refine condP_f ?_ | refine ifP_tt' ?_ | refine ifP_ff' ?_ | refine ifP_tf' ?_ | refine ifP_ft' ?_ | refine ifP_u' ?_ | refine optP_mk0 ?_))
    refine bindP_mk (loadA_all (l := [a, b]) g1 rfl) ?_
    refine bindP_mk (build_rb _ _) ?_
    refine param_mk hf2 (show nx + 1 + 1 ≤ n7 + 3 by omega) fun h7 hs7 hf7 g7 _ => ?_
    have g7 : h7.get (n7 + 3) = some (.cells (rbL a b nilS (List.replicate 256 0) 0 nilS nilS (.int .i64 0)).toArray y_raddleref11_builder) := g7
    have g1 := hs7 _ _ g1
    have g2 := hs7 _ _ g2
    have hs := hs.trans hs7
    refine rOf_L4_c (gid := nx) (rid := nx + 1) hr (hf7.mono (show n7 + 3 + 1 ≤ n7 + 7 by omega)) (hb.sub (hs.delN hf (by simp; omega)) (RPos.sub (hs.delN hf (by simp; omega)))) g7 g1 ?_ ?_ ?_ ?_ ?_ ?_
    · rfl
    · rfl
    · rfl
    · rfl
    · rfl
    intro e' h8 n8 sv cv nv hn8 hf8 hk8 g8 hnv hsv hcv f2 f4 f5
    refine exP_e (beqP_t ?_)
    unfold ref11_Of_j1
    rw [f4, f5]
    refine ref02_Of_c hgs (hf8.mono (show n8 ≤ n8 + 3 by omega)) hsv.sl fun n9 hn9 => ?_
    have hc := cls_length (setsL g.p)
    have hcb := cls_bound (l := setsL g.p)
    rw [splitI_nat]
    (repeat (first | refine bindP_mk (by simp (disch := first | omega | exact Int.natCast_nonneg _ | assumption) only [BB, B2, ↓reduceIte, Nat.reduceLeDiff, Nat.reduceAdd, CC, nilCk_at] <;> rfl) ?_ | refine newP_mk ?_ | refine optP_mk ?_ | with_reducible first | refine condP_t ?_ | refine condP_f ?_ | refine ifP_tt' ?_ | refine ifP_ff' ?_ | refine ifP_tf' ?_ | refine ifP_ft' ?_ | refine ifP_u' ?_ | refine optP_mk0 ?_))
    refine bindP_mk (rb_store List.length_replicate hc g8) ?_
    have hbd : n7 + 3 < n8 := by omega
    have hf9 := hf8.upd (o := some (.cells (rbL a b nv (cls (setsL g.p)) (many (setsL g.p) : Int) cv nilS (.int .i64 0)).toArray y_raddleref11_builder)) (Nat.le_refl _) hbd
    have g9 : (h8.upd (n7 + 3) (some (.cells (rbL a b nv (cls (setsL g.p)) (many (setsL g.p) : Int) cv nilS (.int .i64 0)).toArray y_raddleref11_builder))).get (n7 + 3) = _ := T.get_upd_same _ _ _
    have hk9 : Keep [n7 + 3] h7 (h8.upd (n7 + 3) (some (.cells (rbL a b nv (cls (setsL g.p)) (many (setsL g.p) : Int) cv nilS (.int .i64 0)).toArray y_raddleref11_builder))) := hk8.upd (by simp)
    have hcv9 := hcv.updNe (o := some (.cells (rbL a b nv (cls (setsL g.p)) (many (setsL g.p) : Int) cv nilS (.int .i64 0)).toArray y_raddleref11_builder)) g8 (by decide)
    have hnv9 := hnv.updNe (o := some (.cells (rbL a b nv (cls (setsL g.p)) (many (setsL g.p) : Int) cv nilS (.int .i64 0)).toArray y_raddleref11_builder)) g8 (by decide)
    generalize h8.upd (n7 + 3) (some (.cells (rbL a b nv (cls (setsL g.p)) (many (setsL g.p) : Int) cv nilS (.int .i64 0)).toArray y_raddleref11_builder)) = h9 at hf9 g9 hk9 hcv9 hnv9
    refine bindP_mk build_State0 (bindP_mk (lit_State _ _ _ _ _) (optP_mk ?_))
    have hs11 : Sub h9 (h9.upd (n9 + 6) (some (.cells [nilS, nilS, nilS, nilS].toArray y_api_State))) := (Sub.refl h9).new hf9 (by omega)
    have hf11 : Fr (h9.upd (n9 + 6) (some (.cells [nilS, nilS, nilS, nilS].toArray y_api_State))) (n9 + 6 + 1) := (hf9.mono (by omega)).upd (Nat.le_refl _) (by omega)
    have gs11 : (h9.upd (n9 + 6) (some (.cells [nilS, nilS, nilS, nilS].toArray y_api_State))).get (n9 + 6) = _ := T.get_upd_same _ _ _
    generalize h9.upd (n9 + 6) (some (.cells [nilS, nilS, nilS, nilS].toArray y_api_State)) = h11 at hs11 hf11 gs11 ⊢
    have g11 := hs11 _ _ g9
    have hk11 : Keep [n7 + 3] h7 h11 := hk9.trans hs11.keepL
    have hcv11 := hcv9.keepS hs11
    have hnv11 := hnv9.keepS hs11
    (repeat (first | refine bindP_mk (by simp (disch := first | omega | exact Int.natCast_nonneg _ | assumption) only [BB, B2, ↓reduceIte, Nat.reduceLeDiff, Nat.reduceAdd, CC, nilCk_at] <;> rfl) ?_ | refine newP_mk ?_ | refine optP_mk ?_ | with_reducible first | refine condP_t ?_ | refine condP_f ?_ | refine ifP_tt' ?_ | refine ifP_ff' ?_ | refine ifP_tf' ?_ | refine ifP_ft' ?_ | refine ifP_u' ?_ | refine optP_mk0 ?_))
    refine bindP_mk (store1_own g11 (by rw [rbL_len hc]; omega) rfl rfl) ?_
    rw [rbL_set261 hc]
    have hf12 := hf11.upd (o := some (.cells (rbL a b nv (cls (setsL g.p)) (many (setsL g.p) : Int) cv (.slice (some (own (n9 + 6) 4)) 1 1) (.int .i64 0)).toArray y_raddleref11_builder)) (Nat.le_refl _) (show n7 + 3 < _ by omega)
    have g12 : (h11.upd (n7 + 3) (some (.cells (rbL a b nv (cls (setsL g.p)) (many (setsL g.p) : Int) cv (.slice (some (own (n9 + 6) 4)) 1 1) (.int .i64 0)).toArray y_raddleref11_builder))).get (n7 + 3) = _ := T.get_upd_same _ _ _
    have gs12 : (h11.upd (n7 + 3) (some (.cells (rbL a b nv (cls (setsL g.p)) (many (setsL g.p) : Int) cv (.slice (some (own (n9 + 6) 4)) 1 1) (.int .i64 0)).toArray y_raddleref11_builder))).get (n9 + 6) = _ := (T.get_upd_ne _ _ (by omega)).trans gs11
    have hk12 : Keep [n7 + 3] h7 (h11.upd (n7 + 3) (some (.cells (rbL a b nv (cls (setsL g.p)) (many (setsL g.p) : Int) cv (.slice (some (own (n9 + 6) 4)) 1 1) (.int .i64 0)).toArray y_raddleref11_builder))) := hk11.upd (by simp)
    have hcv12 := hcv11.updNe (o := some (.cells (rbL a b nv (cls (setsL g.p)) (many (setsL g.p) : Int) cv (.slice (some (own (n9 + 6) 4)) 1 1) (.int .i64 0)).toArray y_raddleref11_builder)) g11 (by decide)
    have hnv12 := hnv11.updNe (o := some (.cells (rbL a b nv (cls (setsL g.p)) (many (setsL g.p) : Int) cv (.slice (some (own (n9 + 6) 4)) 1 1) (.int .i64 0)).toArray y_raddleref11_builder)) g11 (by decide)
    generalize h11.upd (n7 + 3) (some (.cells (rbL a b nv (cls (setsL g.p)) (many (setsL g.p) : Int) cv (.slice (some (own (n9 + 6) 4)) 1 1) (.int .i64 0)).toArray y_raddleref11_builder)) = h12 at hf12 g12 gs12 hk12 hcv12 hnv12
    have k2 := hk12 _ _ g2 (by simp; omega)
    have hs12 : Sub h h12 := fun i o hi => hk12 i o (hs _ _ hi) (by have := hf.lt' hi; simp; omega)
    have hB12 : Rb h12 (n7 + 3) (n9 + 6) a b nv (cls (setsL g.p)) (many (setsL g.p) : Int) cv [noS] [[nilS, nilS, nilS, nilS]] :=
      ⟨hc, g12, gs12, fun x hx => by simp at hx; rw [hx]; rfl, rfl, by simp, by simp⟩
    have hsd : Sub h (V.del h12 [n7 + 3, n9 + 6, nx + 1]) := hs12.delN hf (by
      intro i hi
      simp only [List.mem_cons, List.not_mem_nil, or_false] at hi
      omega)
    have hmB := ofB_many g
    refine of_L1_c (aid := nx + 1) (B := ofB g) hr hcb rfl (by rw [hmB]) (by rw [hmB]; exact many_le _) first_lt (made0 g (ofB g)) (fun i x hx => ?_) (hf12.mono (show n9 + 6 + 1 ≤ n9 + 12 by omega)) hB12 (fun i x t hx ht => ?_) (hB12.delN k2 hnv12 (by decide) (by decide) (by decide)).sl (ha.sub hsd) (hb.sub hsd (RPos.sub hsd)) k2 ?_ ?_ ?_ (fun hz9 e9 h13 n13 p1 p2 p3 p4 p5 p6 => ?_) fun hz9 e9 h13 n13 sid' cs' p1 p2 p3 p4 p5 p6 p7 p8 => ?_
    · cases i with
      | succ i => simp at hx
      | zero =>
        simp at hx
        exact ⟨nilS, nilS, hx.symm⟩
    · cases i with
      | succ i => simp at hx
      | zero =>
        simp at hx ht
        subst hx; subst ht
        exact ⟨nilS, nilS, nilS, nilS, rfl, Sl.nil, Sl.nil, Sl.nil, SlR.nil, Nat.zero_le _⟩
    · exact f2
    · exact f4
    · rfl
    · rw [if_neg hz9] at hz
      rw [hz] at hK
      refine exP_r ?_
      rw [p5, p6]
      refine bindP_mk (loadA_all (l := autZ) p4 autZ_len) ?_
      exact ⟨h, hsd.trans (p3.delS fun k hk => by simp only [List.mem_cons, List.not_mem_nil, or_false] at hk ⊢; exact hk.elim .inl fun h => .inr (.inl h)), hK h _ autZ (by omega) (Sub.refl _) (hf.mono (by omega)) autD0_R⟩
    · rw [if_pos hz9] at hz
      rw [hz] at hK
      refine exP_e (beqP_t ?_)
      unfold ref11_Of_j2
      rw [p7, p8]
      have hb13 := p5.blk
      have k13 := hB12.tyk p3 (by decide) (by decide) _ _ _ k2
      have hcv13 := hcv12.ty (hB12.tyk p3 (by decide) (by decide))
      have lda := rb_auto (ro := ro) hc hb13
      (repeat (first | refine bindP_mk (by simp (disch := first | omega | exact Int.natCast_nonneg _ | assumption) only [BB, B2, ↓reduceIte, Nat.reduceLeDiff, Nat.reduceAdd, CC, nilCk_at, lda] <;> rfl) ?_ | refine newP_mk ?_ | refine optP_mk ?_ | with_reducible first | refine condP_t ?_ | refine condP_f ?_ | refine ifP_tt' ?_ | refine ifP_ff' ?_ | refine ifP_tf' ?_ | refine ifP_ft' ?_ | refine ifP_u' ?_ | refine optP_mk0 ?_))
      have hcvok := hcv13.ok
      refine bindP_mk (storeA_own (l := autZ) (vs := autL (cls (setsL g.p)) (many (setsL g.p) : Int) cv (.slice (some (own sid' 4)) cs'.length cs'.length)) k13 rfl (autL_len hc) autZ_len (autL_ok hcvok rfl)) ?_
      refine bindP_mk (loadA_all (l := autL (cls (setsL g.p)) (many (setsL g.p) : Int) cv (.slice (some (own sid' 4)) cs'.length cs'.length)) (by rw [T.get_upd_same]) (autL_len hc)) ?_
      refine ⟨_, Sub.refl _, ?_⟩
      have hfin : Sub (V.del h13 [n7 + 3, sid', nx + 1]) (h13.upd (nx + 1) (some (.cells (autL (cls (setsL g.p)) (many (setsL g.p) : Int) cv (.slice (some (own sid' 4)) cs'.length cs'.length)).toArray y_api_Auto))) := fun i o hi => by
        rw [del_get] at hi
        split at hi
        · cases hi
        · rename_i hn
          rw [T.get_upd_ne _ _ (by rintro rfl; exact hn (by simp))]; exact hi
      have hrs : sid' ≠ nx + 1 := by
        rintro rfl
        have := p5.row
        rw [k13] at this
        simp only [Option.some.injEq, Obj.cells.injEq] at this
        exact absurd this.2.1 (by decide)
      have hs13 : Sub h (V.del h13 [n7 + 3, sid', nx + 1]) := hsd.trans (p3.del2 hf12 (by omega))
      refine hK _ _ _ (by omega) (hs13.trans hfin) ((p2.mono (show n13 ≤ n13 + 6 by omega)).upd (Nat.le_refl _) (by omega)) ⟨cv, _, rfl, hc, hcb, ?_, ⟨cs', ?_, p5.len, fun i x t hx ht => RState.sub hfin _ _ (p6 i x t hx ht)⟩, ?_, ?_⟩
      · exact cnt_R (hcv13.updNe k13 (by decide))
      · refine OwnT.sl (h := h13.upd (nx + 1) _) (lo := 0) (e := y_api_State) (.inr ⟨sid', Nat.zero_le _, rfl, p5.z4, ?_⟩)
        rw [T.get_upd_ne _ _ hrs]; exact p5.row
      · have := cntsL_len g.p
        show (cntsL g.p).length ≤ maxB
        unfold maxB; omega
      · have := p5.few
        show (allZ g (ofB g) 256 0 [noS]).2.length ≤ maxB
        unfold maxB; omega
end V
end Go.Proofs.Ytmmdcdjkmakgpaa
set_option linter.unusedVariables false
set_option linter.unusedSimpArgs false
namespace Go.Proofs.Ytmmdcdjkmakgpaa
namespace V
open PA
attribute [local irreducible] bindP ifP condP newP optP exP beqP
def fewD (g : GlD) : GlD := if 40 < g.p.length then ⟨[], []⟩ else g
theorem zer_Gl : zer Try.prog y_api_Glush = some (.agg #[nilS, nilS]) := by kernel_rfl
theorem build_Gl0 : buildV Try.prog y_api_Glush [] = some (.agg #[nilS, nilS]) := by kernel_rfl
theorem ref11_ints_c {ro : Ro} {v w : Value} {l : List Int} (hl : l.length ≤ 1000000) {h : T Obj} {nx : Nat} {K : KV} (hv : ZI ro h v l) (hw : ZI ro h w l) (hK : ∀ nx', nx ≤ nx' → K (.bool true) h nx') : callP Try.prog ro i_ref11_ints [v, w] h nx K := by
  apply ref11_ints_of
  unfold ref11_ints
  refine bindP_mk hv.len (bindP_mk hw.len ?_)
  refine neq_f rfl (condP_f ?_)
  refine loopP_rule (fun j e h' nx' => ∃ (k : Nat), k + j = l.length ∧ nx ≤ nx' ∧ h' = h ∧ e 0 = v ∧ e 1 = w ∧ e 5 = .int .i64 k) ?_ (n := l.length) ⟨0, by omega, by omega, rfl, rfl, rfl, rfl⟩
  rintro j e h' nx' ⟨k, hj, hnx, rfl, e0, e1, e5⟩ Q' hq hx
  unfold ref11_ints_L1
  rw [e0, e1, e5]
  refine bindP_mk hv.len ?_
  refine lss_s (fun hk => ?_) (fun hk => ?_)
  · have hk : k < l.length := by omega
    refine condP_t (bindP_mk (hv.ix _ hk) (bindP_mk (hv.load hk) (bindP_mk (hw.ix _ hk) (bindP_mk (hw.load hk) ?_))))
    refine neq_f rfl (condP_f ?_)
    (repeat (first | refine bindP_mk (by simp (disch := first | omega | exact Int.natCast_nonneg _ | assumption) only [BB, B2, ↓reduceIte, Nat.reduceLeDiff, Nat.reduceAdd, CC] <;> rfl) ?_ | refine newP_mk ?_ | refine optP_mk ?_ | with_reducible first | refine condP_t ?_ | refine condP_f ?_ | refine ifP_tt' ?_ | refine ifP_ff' ?_ | refine ifP_tf' ?_ | refine ifP_ft' ?_ | refine ifP_u' ?_ | refine optP_mk0 ?_))
    exact hq (j - 1) _ _ _ _ (by omega) ⟨k + 1, by omega, by omega, rfl, e0, e1, rfl⟩ (Sub.refl _)
  · (repeat (first | refine bindP_mk (by simp (disch := first | omega | exact Int.natCast_nonneg _ | assumption) only [BB, B2, ↓reduceIte, Nat.reduceLeDiff, Nat.reduceAdd, CC] <;> rfl) ?_ | refine newP_mk ?_ | refine optP_mk ?_ | with_reducible first | refine condP_t ?_ | refine condP_f ?_ | refine ifP_tt' ?_ | refine ifP_ff' ?_ | refine ifP_tf' ?_ | refine ifP_ft' ?_ | refine ifP_u' ?_ | refine optP_mk0 ?_))
    refine hx _ _ _ _ (fun e => by cases e) (exP_e (beqP_t ?_))
    unfold ref11_ints_j1
    exact ⟨_, Sub.refl _, hK _ (by omega)⟩
theorem flat_u8 : ∀ {cs : List (List Value)} {l : List Nat}, cs.length = l.length → (∀ (i : Nat) x d, cs[i]? = some x → l[i]? = some d → RU8 x d) → cs.flatten = l.map fun b : Nat => Value.int .u8 (b : Int)
  | [], [], _, _ => rfl
  | x :: cs, d :: l, hl, hr => by
    have h0 := hr 0 x d rfl rfl
    have ih := flat_u8 (cs := cs) (l := l) (by simpa using hl) fun i x d hx hd => hr (i + 1) x d (by simpa using hx) (by simpa using hd)
    rw [List.flatten_cons, ih, h0.1]; rfl
  | [], d :: l, hl, _ => by simp at hl
  | x :: cs, [], hl, _ => by simp at hl
theorem bytesV_map : ∀ l : List Nat, bytesV (l.map fun b : Nat => Value.int .u8 (b : Int)) = some (l.map UInt8.ofNat)
  | [] => rfl
  | b :: l => by
    have ih := bytesV_map l
    show (bytesV (l.map fun b : Nat => Value.int .u8 (b : Int))).bind _ = _
    rw [ih]; rfl
theorem conv_R {ro : Ro} {h : T Obj} {aid : Nat} {v : Value} {l : List Nat} (hv : SlR ro h v 1 RU8 l) : convV Try.prog ro h aid y_s_uint8 y_string v = some (injS (l.map UInt8.ofNat), none) := by
  obtain ⟨cs, h1, h2, h3⟩ := hv
  have hu : und Try.prog y_uint8 = some (.int .u8) := by kernel_rfl
  have hfl := flat_u8 h2 h3
  rcases h1 with ⟨rfl, rfl⟩ | ⟨a, cap, rfl, q1, q2, q3, q4⟩
  · have : l = [] := List.eq_nil_iff_length_eq_zero.2 (by simpa using h2.symm)
    subst this
    unfold convV
    simp only [und_u8s', und_S, hu]
    rfl
  · unfold convV
    simp only [und_u8s', und_S, hu]
    rw [Nat.mul_one] at q4
    rw [q4, hfl]
    simp only [Option.bind_some, bytesV_map]
    rfl
theorem strB_self (l : List UInt8) : strB .eql (injS l) (injS l) = some (.bool true) := by
  unfold strB injS strV
  simp
set_option maxRecDepth 8000 in
theorem ref11_sameMove_c {ro : Ro} {x y : List Value} {m : MoveD} {h : T Obj} {nx : Nat} {K : KV} (hf : Fr h nx) (hx : RMove ro h x m) (hy : RMove ro h y m) (hK : ∀ nx', nx ≤ nx' → K (.bool true) h nx') : callP Try.prog ro i_ref11_sameMove [.agg x.toArray, .agg y.toArray] h nx K := by
  obtain ⟨ov, rfl, o1, o2⟩ := hx
  obtain ⟨ow, rfl, p1, p2⟩ := hy
  apply ref11_sameMove_of
  unfold ref11_sameMove
  refine param_mk hf (Nat.le_refl _) fun h1 hs1 hf1 g1 _ => ?_
  have g1 : h1.get nx = some (.cells [.int .i64 m.to, ov].toArray y_api_Move) := g1
  refine param_mk hf1 (Nat.le_refl _) fun h2 hs2 hf2 g2 _ => ?_
  have g2 : h2.get (nx + 1) = some (.cells [.int .i64 m.to, ow].toArray y_api_Move) := g2
  have g1 := hs2 _ _ g1
  have hs := hs1.trans hs2
  have a0 : ([.int .i64 m.to, ov] : List Value)[0]? = some (.int .i64 m.to) := rfl
  have a1 : ([.int .i64 m.to, ov] : List Value)[1]? = some ov := rfl
  have b0 : ([.int .i64 m.to, ow] : List Value)[0]? = some (.int .i64 m.to) := rfl
  have b1 : ([.int .i64 m.to, ow] : List Value)[1]? = some ow := rfl
  have c1 := fun aid => conv_R (ro := ro) (aid := aid) (o1.sub hs fun _ _ h => h)
  have c2 := fun aid => conv_R (ro := ro) (aid := aid) (p1.sub hs fun _ _ h => h)
  (repeat (first | refine bindP_mk (by simp (disch := first | omega | exact Int.natCast_nonneg _ | assumption) only [BB, B2, ↓reduceIte, Nat.reduceLeDiff, Nat.reduceAdd, CC, g1, g2, a0, a1, b0, b1, c1, c2, strB_self] <;> rfl) ?_ | refine newP_mk ?_ | refine optP_mk ?_ | with_reducible first | refine condP_t ?_ | refine condP_f ?_ | refine ifP_tt' ?_ | refine ifP_ff' ?_ | refine ifP_tf' ?_ | refine ifP_ft' ?_ | refine ifP_u' ?_ | refine optP_mk0 ?_))
  exact ⟨h, hs, hK _ (by omega)⟩
set_option maxRecDepth 8000 in
set_option maxHeartbeats 1000000 in
theorem ref11_sameState_c {ro : Ro} {x y : List Value} {s : StateD} (hl1 : s.l.length ≤ 1000000) (hl2 : s.r.length ≤ 1000000) (hl3 : s.rule.length ≤ 1000000) (hl4 : s.next.length ≤ 1000000) (hl5 : ∀ row ∈ s.next, row.length ≤ 1000000) {h : T Obj} {nx : Nat} {K : KV} (hf : Fr h nx) (hx : RState ro h x s) (hy : RState ro h y s)
    (hK : ∀ nx', nx ≤ nx' → K (.bool true) h nx') : callP Try.prog ro i_ref11_sameState [.agg x.toArray, .agg y.toArray] h nx K := by
  obtain ⟨lv, rv, uv, nv, rfl, x1, x2, x3, x4, x5⟩ := hx
  obtain ⟨lw, rw_, uw, nw, rfl, y1, y2, y3, y4, y5⟩ := hy
  apply ref11_sameState_of
  unfold ref11_sameState
  refine param_mk hf (Nat.le_refl _) fun h1 hs1 hf1 g1 _ => ?_
  have g1 : h1.get nx = some (.cells [lv, rv, uv, nv].toArray y_api_State) := g1
  refine param_mk hf1 (Nat.le_refl _) fun h2 hs2 hf2 g2 _ => ?_
  have g2 : h2.get (nx + 1) = some (.cells [lw, rw_, uw, nw].toArray y_api_State) := g2
  have g1 := hs2 _ _ g1
  have hs := hs1.trans hs2
  have a0 : ([lv, rv, uv, nv] : List Value)[0]? = some lv := rfl
  have a1 : ([lv, rv, uv, nv] : List Value)[1]? = some rv := rfl
  have a2 : ([lv, rv, uv, nv] : List Value)[2]? = some uv := rfl
  have a3 : ([lv, rv, uv, nv] : List Value)[3]? = some nv := rfl
  have b0 : ([lw, rw_, uw, nw] : List Value)[0]? = some lw := rfl
  have b1 : ([lw, rw_, uw, nw] : List Value)[1]? = some rw_ := rfl
  have b2 : ([lw, rw_, uw, nw] : List Value)[2]? = some uw := rfl
  have b3 : ([lw, rw_, uw, nw] : List Value)[3]? = some nw := rfl
  have x1 := x1.sub hs
  have x2 := x2.sub hs
  have x3 := x3.sub hs
  have x4 := x4.sub hs (RRow.sub hs)
  have y1 := y1.sub hs
  have y2 := y2.sub hs
  have y3 := y3.sub hs
  have y4 := y4.sub hs (RRow.sub hs)
  have n1 := x4.len
  have n2 := y4.len
  (repeat (first | refine bindP_mk (by simp (disch := first | omega | exact Int.natCast_nonneg _ | assumption) only [BB, B2, ↓reduceIte, Nat.reduceLeDiff, Nat.reduceAdd, CC, g1, g2, a0, b0] <;> rfl) ?_ | refine newP_mk ?_ | refine optP_mk ?_ | with_reducible first | refine condP_t ?_ | refine condP_f ?_ | refine ifP_tt' ?_ | refine ifP_ff' ?_ | refine ifP_tf' ?_ | refine ifP_ft' ?_ | refine ifP_u' ?_ | refine optP_mk0 ?_))
  refine ref11_ints_c hl1 x1 y1 fun n3 hn3 => ?_
  (repeat (first | refine bindP_mk (by simp (disch := first | omega | exact Int.natCast_nonneg _ | assumption) only [BB, B2, ↓reduceIte, Nat.reduceLeDiff, Nat.reduceAdd, CC, g1, g2, a1, b1] <;> rfl) ?_ | refine newP_mk ?_ | refine optP_mk ?_ | with_reducible first | refine condP_t ?_ | refine condP_f ?_ | refine ifP_tt' ?_ | refine ifP_ff' ?_ | refine ifP_tf' ?_ | refine ifP_ft' ?_ | refine ifP_u' ?_ | refine optP_mk0 ?_))
  refine ref11_ints_c hl2 x2 y2 fun n4 hn4 => ?_
  (repeat (first | refine bindP_mk (by simp (disch := first | omega | exact Int.natCast_nonneg _ | assumption) only [BB, B2, ↓reduceIte, Nat.reduceLeDiff, Nat.reduceAdd, CC, g1, g2, a2, b2] <;> rfl) ?_ | refine newP_mk ?_ | refine optP_mk ?_ | with_reducible first | refine condP_t ?_ | refine condP_f ?_ | refine ifP_tt' ?_ | refine ifP_ff' ?_ | refine ifP_tf' ?_ | refine ifP_ft' ?_ | refine ifP_u' ?_ | refine optP_mk0 ?_))
  refine ref11_ints_c hl3 x3 y3 fun n5 hn5 => ?_
  (repeat (first | refine bindP_mk (by simp (disch := first | omega | exact Int.natCast_nonneg _ | assumption) only [BB, B2, ↓reduceIte, Nat.reduceLeDiff, Nat.reduceAdd, CC, g1, g2, a3, b3, n1, n2] <;> rfl) ?_ | refine newP_mk ?_ | refine optP_mk ?_ | with_reducible first | refine condP_t ?_ | refine condP_f ?_ | refine ifP_tt' ?_ | refine ifP_ff' ?_ | refine ifP_tf' ?_ | refine ifP_ft' ?_ | refine ifP_u' ?_ | refine optP_mk0 ?_))
  refine loopP_rule (fun j e h' nx' => ∃ (k : Nat), k + j = s.next.length ∧ n5 ≤ nx' ∧ h' = h2 ∧ e 2 = ptr nx ∧ e 3 = ptr (nx + 1) ∧ e 5 = .int .i64 k) ?_ (n := s.next.length) ⟨0, by omega, by omega, rfl, rfl, rfl, rfl⟩
  rintro j e h' nx' ⟨k, hj, hnx, rfl, e2, e3, e5⟩ Q' hq hx9
  unfold ref11_sameState_L1
  rw [e2, e3, e5]
  (repeat (first | refine bindP_mk (by simp (disch := first | omega | exact Int.natCast_nonneg _ | assumption) only [BB, B2, ↓reduceIte, Nat.reduceLeDiff, Nat.reduceAdd, CC, g1, a3, n1] <;> rfl) ?_ | refine newP_mk ?_ | refine optP_mk ?_ | with_reducible first | refine condP_t ?_ | refine condP_f ?_ | refine ifP_tt' ?_ | refine ifP_ff' ?_ | refine ifP_tf' ?_ | refine ifP_ft' ?_ | refine ifP_u' ?_ | refine optP_mk0 ?_))
  refine lss_s (fun hk => ?_) (fun hk => ?_)
  · have hk : k < s.next.length := by omega
    have hrl := hl5 _ (List.getElem_mem hk)
    obtain ⟨w1, ⟨w1', r1, r2, r3⟩, r4⟩ := x4.at1 hk
    simp only [List.cons.injEq, and_true] at r1
    subst r1
    obtain ⟨w2, ⟨w2', t1, t2, t3⟩, t4⟩ := y4.at1 hk
    simp only [List.cons.injEq, and_true] at t1
    subst t1
    have i1 := x4.ix .i64 hk
    have i2 := y4.ix .i64 hk
    generalize s.next[k] = row at hrl r2 r3 t2 t3
    have m1 := r2.len
    have m2 := t2.len
    (repeat (first | refine bindP_mk (by simp (disch := first | omega | exact Int.natCast_nonneg _ | assumption) only [BB, B2, ↓reduceIte, Nat.reduceLeDiff, Nat.reduceAdd, CC, g1, g2, a3, b3, i1, i2, r4, t4, m1, m2] <;> rfl) ?_ | refine newP_mk ?_ | refine optP_mk ?_ | with_reducible first | refine condP_t ?_ | refine condP_f ?_ | refine ifP_tt' ?_ | refine ifP_ff' ?_ | refine ifP_tf' ?_ | refine ifP_ft' ?_ | refine ifP_u' ?_ | refine optP_mk0 ?_))
    refine loopP_rule (fun j2 e h5 nx2 => ∃ (q : Nat), q + j2 = row.length ∧ nx' ≤ nx2 ∧ h5 = h' ∧ e 2 = ptr nx ∧ e 3 = ptr (nx + 1) ∧ e 5 = .int .i64 k ∧ e 6 = .int .i64 q) ?_ (n := row.length) ⟨0, by omega, by omega, rfl, e2, e3, e5, rfl⟩
    rintro j2 e h5 nx2 ⟨q, hj2, hnx2, rfl, e2, e3, e5, e6⟩ Q2 hq2 hx2
    unfold ref11_sameState_L2
    rw [e2, e3, e5, e6]
    (repeat (first | refine bindP_mk (by simp (disch := first | omega | exact Int.natCast_nonneg _ | assumption) only [BB, B2, ↓reduceIte, Nat.reduceLeDiff, Nat.reduceAdd, CC, g1, a3, i1, r4, m1] <;> rfl) ?_ | refine newP_mk ?_ | refine optP_mk ?_ | with_reducible first | refine condP_t ?_ | refine condP_f ?_ | refine ifP_tt' ?_ | refine ifP_ff' ?_ | refine ifP_tf' ?_ | refine ifP_ft' ?_ | refine ifP_u' ?_ | refine optP_mk0 ?_))
    refine lss_s (fun hq9 => ?_) (fun hq9 => ?_)
    · have hq9 : q < row.length := by omega
      obtain ⟨c1, c2, c3, c4, c5, c6⟩ := r2.at hq9
      obtain ⟨d1, d2, d3, d4, d5, d6⟩ := t2.at hq9
      have i3 := r2.ix .i64 hq9
      have i4 := t2.ix .i64 hq9
      (repeat (first | refine bindP_mk (by simp (disch := first | omega | exact Int.natCast_nonneg _ | assumption) only [BB, B2, ↓reduceIte, Nat.reduceLeDiff, Nat.reduceAdd, CC, g1, g2, a3, b3, i1, i2, r4, t4, i3, i4, c4, d4] <;> rfl) ?_ | refine newP_mk ?_ | refine optP_mk ?_ | with_reducible first | refine condP_t ?_ | refine condP_f ?_ | refine ifP_tt' ?_ | refine ifP_ff' ?_ | refine ifP_tf' ?_ | refine ifP_ft' ?_ | refine ifP_u' ?_ | refine optP_mk0 ?_))
      refine ref11_sameMove_c (hf2.mono (by omega)) c2 d2 fun n6 hn6 => ?_
      (repeat (first | refine bindP_mk (by simp (disch := first | omega | exact Int.natCast_nonneg _ | assumption) only [BB, B2, ↓reduceIte, Nat.reduceLeDiff, Nat.reduceAdd, CC] <;> rfl) ?_ | refine newP_mk ?_ | refine optP_mk ?_ | with_reducible first | refine condP_t ?_ | refine condP_f ?_ | refine ifP_tt' ?_ | refine ifP_ff' ?_ | refine ifP_tf' ?_ | refine ifP_ft' ?_ | refine ifP_u' ?_ | refine optP_mk0 ?_))
      exact hq2 (j2 - 1) _ _ _ _ (by omega) ⟨q + 1, by omega, by omega, rfl, e2, e3, e5, rfl⟩ (Sub.refl _)
    · refine condP_f ?_
      refine hx2 _ _ _ _ (fun e => by cases e) (exP_e (beqP_t ?_))
      have fin : ∀ (e' : Env) n', nx2 ≤ n' → e' 2 = ptr nx → e' 3 = ptr (nx + 1) → e' 5 = .int .i64 k → ref11_sameState_j2 ro Q' e' h5 n' := by
        intro e' n' hn' f2 f3 f5
        unfold ref11_sameState_j2
        rw [f5]
        (repeat (first | refine bindP_mk (by simp (disch := first | omega | exact Int.natCast_nonneg _ | assumption) only [BB, B2, ↓reduceIte, Nat.reduceLeDiff, Nat.reduceAdd, CC] <;> rfl) ?_ | refine newP_mk ?_ | refine optP_mk ?_ | with_reducible first | refine condP_t ?_ | refine condP_f ?_ | refine ifP_tt' ?_ | refine ifP_ff' ?_ | refine ifP_tf' ?_ | refine ifP_ft' ?_ | refine ifP_u' ?_ | refine optP_mk0 ?_))
        exact hq (j - 1) _ _ _ _ (by omega) ⟨k + 1, by omega, by omega, rfl, f2, f3, rfl⟩ (Sub.refl _)
      exact fin _ _ (by omega) e2 e3 e5
  · refine condP_f ?_
    refine hx9 _ _ _ _ (fun e => by cases e) (exP_e (beqP_t ?_))
    unfold ref11_sameState_j1
    exact ⟨h, hs, hK _ (by omega)⟩
end V
end Go.Proofs.Ytmmdcdjkmakgpaa
set_option linter.unusedVariables false
set_option linter.unusedSimpArgs false
namespace Go.Proofs.Ytmmdcdjkmakgpaa
namespace V
open PA
attribute [local irreducible] bindP ifP condP newP optP exP beqP
set_option maxRecDepth 8000 in
theorem plain_Spl : plainTy Try.prog 20 y_api_Split = some (List.replicate 257 1) := by kernel_rfl
theorem plain_cnt : plainTy Try.prog 20 y_a2_int = some [1, 1] := by kernel_rfl
theorem eqCells_ints : ∀ {l : List Value}, (∀ v ∈ l, ∃ k n, v = .int k n) → eqCells (List.replicate l.length 1) l l = some true
  | [], _ => rfl
  | v :: l, h => by
    obtain ⟨k, n, rfl⟩ := h v (by simp)
    have ih := eqCells_ints (l := l) fun w hw => h w (by simp [hw])
    rw [List.length_cons, List.replicate_succ]
    unfold eqCells
    rw [ih]
    simp [eqCell]
theorem neq_split {c : List Nat} {n : Int} (hc : c.length = 256) {K : Value → Prop} (hk : K (.bool false)) : bindP (plainTy Try.prog 20 y_api_Split) fun ks => bindP (aggB ks .neq (splitI c n) (splitI c n)) K := by
  refine bindP_mk plain_Spl (bindP_mk (a := .bool false) ?_ hk)
  unfold splitI aggB
  have : (splitLI c n).length = 257 := splitLI_len hc
  have h2 : eqCells (List.replicate 257 1) (splitLI c n) (splitLI c n) = some true := by
    rw [← this]
    refine eqCells_ints fun v hv => ?_
    unfold splitLI u8s at hv
    rcases List.mem_append.1 hv with hv | hv
    · obtain ⟨b, _, rfl⟩ := List.mem_map.1 hv
      exact ⟨_, _, rfl⟩
    · simp at hv; exact ⟨_, _, hv⟩
  simp only [tl, h2, Option.bind_some, Bool.not_true]
def Small (S : List StateD) : Prop := S.length ≤ 1000000 ∧ ∀ s ∈ S, s.l.length ≤ 1000000 ∧ s.r.length ≤ 1000000 ∧ s.rule.length ≤ 1000000 ∧ s.next.length ≤ 1000000 ∧ ∀ row ∈ s.next, row.length ≤ 1000000
set_option maxRecDepth 8000 in
set_option maxHeartbeats 1000000 in
theorem ref11_SameStates_c {ro : Ro} {c : List Nat} {n m : Int} {cv sv cw sw : Value} {S : List StateD} (hS : Small S) (hc : c.length = 256) {h : T Obj} {nx : Nat} {K : KV} (hf : Fr h nx) (hcv : lenSl cv = some (.int .i64 m)) (hcw : lenSl cw = some (.int .i64 m)) (hsv : SlR ro h sv 4 (RState ro h) S) (hsw : SlR ro h sw 4 (RState ro h) S)
    (hK : ∀ nx', nx ≤ nx' → K (.bool true) h nx') : callP Try.prog ro i_ref11_SameStates [.agg (autL c n cv sv).toArray, .agg (autL c n cw sw).toArray] h nx K := by
  apply ref11_SameStates_of
  unfold ref11_SameStates
  refine param_mk hf (Nat.le_refl _) fun h1 hs1 hf1 g1 _ => ?_
  have g1 : h1.get nx = some (.cells (autL c n cv sv).toArray y_api_Auto) := g1
  refine param_mk hf1 (Nat.le_refl _) fun h2 hs2 hf2 g2 _ => ?_
  have g2 : h2.get (nx + 1) = some (.cells (autL c n cw sw).toArray y_api_Auto) := g2
  have g1 := hs2 _ _ g1
  have hs := hs1.trans hs2
  have hsv := hsv.sub hs (RState.sub hs)
  have hsw := hsw.sub hs (RState.sub hs)
  have a1 := autL_states (n := n) (cv := cv) (sv := sv) hc
  have a2 := autL_states (n := n) (cv := cw) (sv := sw) hc
  have a3 := autL_counts (n := n) (cv := cv) (sv := sv) hc
  have a4 := autL_counts (n := n) (cv := cw) (sv := sw) hc
  have l1 := loadS (ro := ro) (z := 0) g1 hc
  have l2 := loadS (ro := ro) (z := 0) g2 hc
  have n1 := hsv.len
  have n2 := hsw.len
  refine bindP_mk rfl (bindP_mk l1 (bindP_mk rfl (bindP_mk l2 (neq_split hc ?_))))
  (repeat (first | refine bindP_mk (by simp (disch := first | omega | exact Int.natCast_nonneg _ | assumption) only [BB, B2, ↓reduceIte, Nat.reduceLeDiff, Nat.reduceAdd, CC, g1, g2, a1, a2, n1, n2] <;> rfl) ?_ | refine newP_mk ?_ | refine optP_mk ?_ | with_reducible first | refine condP_t ?_ | refine condP_f ?_ | refine ifP_tt' ?_ | refine ifP_ff' ?_ | refine ifP_tf' ?_ | refine ifP_ft' ?_ | refine ifP_u' ?_ | refine optP_mk0 ?_))
  (repeat (first | refine bindP_mk (by simp (disch := first | omega | exact Int.natCast_nonneg _ | assumption) only [BB, B2, ↓reduceIte, Nat.reduceLeDiff, Nat.reduceAdd, CC, g1, g2, a3, a4, hcv, hcw] <;> rfl) ?_ | refine newP_mk ?_ | refine optP_mk ?_ | with_reducible first | refine condP_t ?_ | refine condP_f ?_ | refine ifP_tt' ?_ | refine ifP_ff' ?_ | refine ifP_tf' ?_ | refine ifP_ft' ?_ | refine ifP_u' ?_ | refine optP_mk0 ?_))
  refine loopP_rule (fun j e h' nx' => ∃ (k : Nat), k + j = S.length ∧ nx ≤ nx' ∧ h' = h2 ∧ e 2 = ptr nx ∧ e 3 = ptr (nx + 1) ∧ e 5 = .int .i64 k) ?_ (n := S.length) ⟨0, by omega, by omega, rfl, rfl, rfl, rfl⟩
  rintro j e h' nx' ⟨k, hj, hnx, rfl, e2, e3, e5⟩ Q' hq hx
  have hS1 := hS.1
  unfold ref11_SameStates_L1
  rw [e2, e3, e5]
  (repeat (first | refine bindP_mk (by simp (disch := first | omega | exact Int.natCast_nonneg _ | assumption) only [BB, B2, ↓reduceIte, Nat.reduceLeDiff, Nat.reduceAdd, CC, g1, a1, n1] <;> rfl) ?_ | refine newP_mk ?_ | refine optP_mk ?_ | with_reducible first | refine condP_t ?_ | refine condP_f ?_ | refine ifP_tt' ?_ | refine ifP_ff' ?_ | refine ifP_tf' ?_ | refine ifP_ft' ?_ | refine ifP_u' ?_ | refine optP_mk0 ?_))
  refine lss_s (fun hk => ?_) (fun hk => ?_)
  · have hk : k < S.length := by omega
    obtain ⟨q1, q2, q3, q4, q5⟩ := hS.2 _ (List.getElem_mem hk)
    obtain ⟨x, x1, x2, x3, x4, x5⟩ := hsv.at hk
    obtain ⟨y, y1, y2, y3, y4, y5⟩ := hsw.at hk
    have i1 := hsv.ix .i64 hk
    have i2 := hsw.ix .i64 hk
    (repeat (first | refine bindP_mk (by simp (disch := first | omega | exact Int.natCast_nonneg _ | assumption) only [BB, B2, ↓reduceIte, Nat.reduceLeDiff, Nat.reduceAdd, CC, g1, g2, a1, a2, i1, i2, x3, y3] <;> rfl) ?_ | refine newP_mk ?_ | refine optP_mk ?_ | with_reducible first | refine condP_t ?_ | refine condP_f ?_ | refine ifP_tt' ?_ | refine ifP_ff' ?_ | refine ifP_tf' ?_ | refine ifP_ft' ?_ | refine ifP_u' ?_ | refine optP_mk0 ?_))
    refine ref11_sameState_c q1 q2 q3 q4 q5 (hf2.mono (by omega)) x1 y1 fun n3 hn3 => ?_
    (repeat (first | refine bindP_mk (by simp (disch := first | omega | exact Int.natCast_nonneg _ | assumption) only [BB, B2, ↓reduceIte, Nat.reduceLeDiff, Nat.reduceAdd, CC] <;> rfl) ?_ | refine newP_mk ?_ | refine optP_mk ?_ | with_reducible first | refine condP_t ?_ | refine condP_f ?_ | refine ifP_tt' ?_ | refine ifP_ff' ?_ | refine ifP_tf' ?_ | refine ifP_ft' ?_ | refine ifP_u' ?_ | refine optP_mk0 ?_))
    exact hq (j - 1) _ _ _ _ (by omega) ⟨k + 1, by omega, by omega, rfl, e2, e3, rfl⟩ (Sub.refl _)
  · refine condP_f ?_
    refine hx _ _ _ _ (fun e => by cases e) (exP_e (beqP_t ?_))
    unfold ref11_SameStates_j1
    exact ⟨h, hs, hK _ (by omega)⟩
theorem neq_cnt (d : Int × Int) {K : Value → Prop} (hk : K (.bool false)) : bindP (plainTy Try.prog 20 y_a2_int) fun ks => bindP (aggB ks .neq (.agg [Value.int .i64 d.1, .int .i64 d.2].toArray) (.agg [Value.int .i64 d.1, .int .i64 d.2].toArray)) K := by
  refine bindP_mk plain_cnt (bindP_mk (a := .bool false) ?_ hk)
  unfold aggB
  simp [eqCells, eqCell]
set_option maxRecDepth 8000 in
set_option maxHeartbeats 1000000 in
theorem ref11_Same_c {ro : Ro} {x y : List Value} {d : AutoD} (hS : Small d.states) (hcl : d.counts.length ≤ 1000000) {h : T Obj} {nx : Nat} {K : KV} (hf : Fr h nx) (hx : RAuto ro h x d) (hy : RAuto ro h y d)
    (hK : ∀ nx', nx ≤ nx' → K (.bool true) h nx') : callP Try.prog ro i_ref11_Same [.agg x.toArray, .agg y.toArray] h nx K := by
  obtain ⟨cv, sv, rfl, hc, hcb, hcv, hsv, _, _⟩ := hx
  obtain ⟨cw, sw, rfl, _, _, hcw, hsw, _, _⟩ := hy
  apply ref11_Same_of
  unfold ref11_Same
  refine param_mk hf (Nat.le_refl _) fun h1 hs1 hf1 g1 _ => ?_
  have g1 : h1.get nx = some (.cells (autL d.c d.many cv sv).toArray y_api_Auto) := g1
  refine param_mk hf1 (Nat.le_refl _) fun h2 hs2 hf2 g2 _ => ?_
  have g2 : h2.get (nx + 1) = some (.cells (autL d.c d.many cw sw).toArray y_api_Auto) := g2
  have g1 := hs2 _ _ g1
  have hs := hs1.trans hs2
  have hsv := hsv.sub hs (RState.sub hs)
  have hsw := hsw.sub hs (RState.sub hs)
  have hcv := hcv.sub hs fun _ _ h => h
  have hcw := hcw.sub hs fun _ _ h => h
  have n1 := hcv.len
  have n2 := hcw.len
  have a3 := autL_counts (n := d.many) (cv := cv) (sv := sv) hc
  have a4 := autL_counts (n := d.many) (cv := cw) (sv := sw) hc
  refine bindP_mk (loadA_all (l := autL d.c d.many cv sv) g1 (autL_len hc)) (bindP_mk (loadA_all (l := autL d.c d.many cw sw) g2 (autL_len hc)) ?_)
  refine ref11_SameStates_c hS hc (hf2.mono (show nx + 1 + 1 ≤ nx + 6 by omega)) n1 n2 hsv hsw fun n3 hn3 => ?_
  (repeat (first | refine bindP_mk (by simp (disch := first | omega | exact Int.natCast_nonneg _ | assumption) only [BB, B2, ↓reduceIte, Nat.reduceLeDiff, Nat.reduceAdd, CC] <;> rfl) ?_ | refine newP_mk ?_ | refine optP_mk ?_ | with_reducible first | refine condP_t ?_ | refine condP_f ?_ | refine ifP_tt' ?_ | refine ifP_ff' ?_ | refine ifP_tf' ?_ | refine ifP_ft' ?_ | refine ifP_u' ?_ | refine optP_mk0 ?_))
  refine loopP_rule (fun j e h' nx' => ∃ (k : Nat), k + j = d.counts.length ∧ nx ≤ nx' ∧ h' = h2 ∧ e 2 = ptr nx ∧ e 3 = ptr (nx + 1) ∧ e 5 = .int .i64 k) ?_ (n := d.counts.length) ⟨0, by omega, by omega, rfl, rfl, rfl, rfl⟩
  rintro j e h' nx' ⟨k, hj, hnx, rfl, e2, e3, e5⟩ Q' hq hx
  unfold ref11_Same_L1
  rw [e2, e3, e5]
  (repeat (first | refine bindP_mk (by simp (disch := first | omega | exact Int.natCast_nonneg _ | assumption) only [BB, B2, ↓reduceIte, Nat.reduceLeDiff, Nat.reduceAdd, CC, g1, a3, n1] <;> rfl) ?_ | refine newP_mk ?_ | refine optP_mk ?_ | with_reducible first | refine condP_t ?_ | refine condP_f ?_ | refine ifP_tt' ?_ | refine ifP_ff' ?_ | refine ifP_tf' ?_ | refine ifP_ft' ?_ | refine ifP_u' ?_ | refine optP_mk0 ?_))
  refine lss_s (fun hk => ?_) (fun hk => ?_)
  · have hk : k < d.counts.length := by omega
    obtain ⟨x, x1, x2, x3, x4, x5⟩ := hcv.at hk
    obtain ⟨y, y1, y2, y3, y4, y5⟩ := hcw.at hk
    have x1 : x = [.int .i64 d.counts[k].1, .int .i64 d.counts[k].2] := x1
    have y1 : y = [.int .i64 d.counts[k].1, .int .i64 d.counts[k].2] := y1
    subst x1; subst y1
    have i1 := hcv.ix .i64 hk
    have i2 := hcw.ix .i64 hk
    (repeat (first | refine bindP_mk (by simp (disch := first | omega | exact Int.natCast_nonneg _ | assumption) only [BB, B2, ↓reduceIte, Nat.reduceLeDiff, Nat.reduceAdd, CC, g1, g2, a3, a4, i1, i2, x3, y3] <;> rfl) ?_ | refine newP_mk ?_ | refine optP_mk ?_ | with_reducible first | refine condP_t ?_ | refine condP_f ?_ | refine ifP_tt' ?_ | refine ifP_ff' ?_ | refine ifP_tf' ?_ | refine ifP_ft' ?_ | refine ifP_u' ?_ | refine optP_mk0 ?_))
    refine neq_cnt _ ?_
    (repeat (first | refine bindP_mk (by simp (disch := first | omega | exact Int.natCast_nonneg _ | assumption) only [BB, B2, ↓reduceIte, Nat.reduceLeDiff, Nat.reduceAdd, CC] <;> rfl) ?_ | refine newP_mk ?_ | refine optP_mk ?_ | with_reducible first | refine condP_t ?_ | refine condP_f ?_ | refine ifP_tt' ?_ | refine ifP_ff' ?_ | refine ifP_tf' ?_ | refine ifP_ft' ?_ | refine ifP_u' ?_ | refine optP_mk0 ?_))
    exact hq (j - 1) _ _ _ _ (by omega) ⟨k + 1, by omega, by omega, rfl, e2, e3, rfl⟩ (Sub.refl _)
  · refine condP_f ?_
    refine hx _ _ _ _ (fun e => by cases e) (exP_e (beqP_t ?_))
    unfold ref11_Same_j1
    exact ⟨h, hs, hK _ (by omega)⟩
end V
end Go.Proofs.Ytmmdcdjkmakgpaa
set_option linter.unusedVariables false
set_option linter.unusedSimpArgs false
namespace Go.Proofs.Ytmmdcdjkmakgpaa
namespace V
attribute [local irreducible] callPre callP bindP
end V
end Go.Proofs.Ytmmdcdjkmakgpaa
set_option linter.unusedVariables false
set_option linter.unusedSimpArgs false
namespace Go.Proofs.Ytmmdcdjkmakgpaa
namespace V
open PA
structure Alike1 (p q : PosD) : Prop where
  s : p.s = q.s
  rule : p.rule = q.rule
  last : p.last = q.last
  next : p.next = q.next
  ct : ctdP p = ctdP q
structure AlikeG (x y : GlD) : Prop where
  first : x.first = y.first
  len : x.p.length = y.p.length
  each : ∀ (i : Nat) p q, x.p[i]? = some p → y.p[i]? = some q → Alike1 p q
section
variable {x y : GlD}
theorem AlikeG.at (h : AlikeG x y) (q : Int) : Alike1 (x.at q) (y.at q) := by
  unfold GlD.at
  rw [List.getD_eq_getElem?_getD, List.getD_eq_getElem?_getD]
  cases hx : x.p[q.toNat]? with
  | none =>
    have : y.p[q.toNat]? = none := by rw [List.getElem?_eq_none_iff] at hx ⊢; have := h.len; omega
    rw [this]; exact ⟨rfl, rfl, rfl, rfl, rfl⟩
  | some p =>
    have hl := (List.getElem?_eq_some_iff.1 hx).1
    have hy : y.p[q.toNat]? = some (y.p[q.toNat]'(by have := h.len; omega)) := List.getElem?_eq_getElem _
    rw [hy]; exact h.each _ _ _ hx hy
theorem AlikeG.ctd (h : AlikeG x y) : ctd x = ctd y := funext fun q => (h.at q).ct
theorem filter_len : ∀ {a b : List PosD}, a.length = b.length → (∀ (i : Nat) p q, a[i]? = some p → b[i]? = some q → Alike1 p q) → (a.filter ctdP).length = (b.filter ctdP).length
  | [], [], _, _ => rfl
  | p :: a, q :: b, hl, he => by
    have h0 := (he 0 p q rfl rfl).ct
    have ih := filter_len (a := a) (b := b) (by simpa using hl) fun i p q hp hq => he (i + 1) p q (by simpa using hp) (by simpa using hq)
    cases hc : ctdP q with
    | true => rw [List.filter_cons_of_pos (h0.trans hc), List.filter_cons_of_pos hc, List.length_cons, List.length_cons, ih]
    | false => rw [List.filter_cons_of_neg (by rw [h0, hc]; decide), List.filter_cons_of_neg (by rw [hc]; decide), ih]
  | [], q :: b, hl, _ => by simp at hl
  | p :: a, [], hl, _ => by simp at hl
theorem AlikeG.num (h : AlikeG x y) : numZ x = numZ y := funext fun q => by
  unfold numZ
  rw [filter_len (a := x.p.take q.toNat) (b := y.p.take q.toNat) (by rw [List.length_take, List.length_take, h.len]) fun i p r hp hr => by
    rw [List.getElem?_take] at hp hr
    split at hp
    · rename_i hi
      rw [if_pos hi] at hr
      exact h.each i p r hp hr
    · cases hp]
theorem AlikeG.regs (h : AlikeG x y) : regsZ x = regsZ y := funext fun l => by unfold regsZ; rw [h.ctd, h.num]
theorem AlikeG.digs (h : AlikeG x y) : ∀ (l : List Int) (c : Int), digs x l c = digs y l c
  | [], c => rfl
  | p :: r, c => by rw [digs_cons, digs_cons, h.ctd, h.digs r (c / 3), h.digs r c]
theorem AlikeG.enters (h : AlikeG x y) (k : Nat) (D : List (Int × Int)) : entersZ x k D = entersZ y k D := funext fun q => by
  unfold entersZ
  rw [h.first]
  congr 2
  funext d
  rw [(h.at d.1).next]
theorem AlikeG.rule (h : AlikeG x y) : ∀ (D : List (Int × Int)) (b : Int), ruleZ x b D = ruleZ y b D
  | [], b => rfl
  | d :: r, b => by rw [ruleZ_cons, ruleZ_cons, (h.at d.1).last, (h.at d.1).rule, h.rule r]
theorem AlikeG.lz (h : AlikeG x y) (en st : Int → Bool) (b : Nat) : lZ x en st b = lZ y en st b := by
  unfold lZ
  rw [h.len]
  congr 1
  funext q
  unfold takesZ
  rw [(h.at q).s]
theorem AlikeG.ops (h : AlikeG x y) (en st : Int → Bool) (l : List Int) : opsZ x en st l = opsZ y en st l := by unfold opsZ; rw [h.ctd]
theorem AlikeG.find (h : AlikeG x y) (S : List StateD) (l : List Int) : findZ x S l = findZ y S l := by unfold findZ; rw [h.regs]
theorem AlikeG.goes (h : AlikeG x y) (en st : Int → Bool) (b : Nat) (S : List StateD) : goesZ x en st b S = goesZ y en st b S := by
  by_cases hl : lZ y en st b = []
  · rw [goesZ_nil hl, goesZ_nil (by rw [h.lz]; exact hl)]
  · rw [goesZ_ne hl, goesZ_ne (by rw [h.lz]; exact hl), h.lz, h.find, h.ops]
theorem AlikeG.row (h : AlikeG x y) (en st : Int → Bool) : ∀ (B : List Nat) (S : List StateD), rowZ x en st B S = rowZ y en st B S
  | [], S => rfl
  | b :: r, S => by rw [rowZ_cons, rowZ_cons, h.goes, h.row en st r]
theorem AlikeG.code (h : AlikeG x y) (B : List Nat) (k : Nat) (c : Int) (S : List StateD) : codeZ x B k c S = codeZ y B k c S := by
  unfold codeZ
  dsimp only
  rw [h.digs, h.enters, h.row, h.rule]
theorem AlikeG.codes (h : AlikeG x y) (B : List Nat) (k : Nat) : ∀ (n : Nat) (c : Int) (S : List StateD), codesZ x B k n c S = codesZ y B k n c S
  | 0, c, S => rfl
  | n + 1, c, S => by rw [codesZ_succ, codesZ_succ, h.code, h.codes B k n]
theorem AlikeG.all (h : AlikeG x y) (B : List Nat) : ∀ (n k : Nat) (S : List StateD), allZ x B n k S = allZ y B n k S
  | 0, k, S => rfl
  | n + 1, k, S => by rw [allZ_succ, allZ_succ, h.codes, h.all B n]
theorem AlikeG.sets (h : AlikeG x y) : setsL x.p = setsL y.p := by
  unfold setsL
  apply List.ext_getElem?
  intro i
  rw [List.getElem?_map, List.getElem?_map]
  cases hx : x.p[i]? with
  | none =>
    have : y.p[i]? = none := by rw [List.getElem?_eq_none_iff] at hx ⊢; have := h.len; omega
    rw [this]
  | some p =>
    have hl := (List.getElem?_eq_some_iff.1 hx).1
    have hy : y.p[i]? = some (y.p[i]'(by have := h.len; omega)) := List.getElem?_eq_getElem _
    rw [hy]
    show some p.s = some _
    rw [(h.each _ _ _ hx hy).s]
theorem AlikeG.cnts (h : AlikeG x y) : (cntsL x.p).length = (cntsL y.p).length := by
  unfold cntsL
  rw [List.length_map, List.length_map]
  exact filter_len h.len h.each
theorem AlikeG.of (h : AlikeG x y) (hx : rightD x = true) (hy : rightD y = true) : (ofZ x).1 = (ofZ y).1 ∧ (ofZ x).2.c = (ofZ y).2.c ∧ (ofZ x).2.many = (ofZ y).2.many ∧ (ofZ x).2.states = (ofZ y).2.states ∧ (ofZ x).2.counts.length = (ofZ y).2.counts.length ∧ ((ofZ y).1 = 0 → (ofZ y).2.counts = cntsL y.p) ∧ ((ofZ y).1 ≠ 0 → (ofZ y).2.counts = []) := by
  have hB : ofB x = ofB y := by unfold ofB; rw [h.sets]
  unfold ofZ
  rw [if_pos hx, if_pos hy, hB, h.all]
  by_cases h0 : (allZ y (ofB y) 256 0 [noS]).1 = 0
  · rw [if_pos h0, if_pos h0]
    refine ⟨rfl, ?_, ?_, rfl, h.cnts, fun _ => rfl, fun h => absurd rfl h⟩
    · show cls (setsL x.p) = cls (setsL y.p); rw [h.sets]
    · show (many (setsL x.p) : Int) = many (setsL y.p); rw [h.sets]
  · rw [if_neg h0, if_neg h0]
    exact ⟨rfl, rfl, rfl, rfl, rfl, fun h => absurd h h0, fun _ => rfl⟩
end
end V
end Go.Proofs.Ytmmdcdjkmakgpaa
set_option linter.unusedVariables false
set_option linter.unusedSimpArgs false
namespace Go.Proofs.Ytmmdcdjkmakgpaa
namespace V
theorem okZ : zerosOk Try.prog = true := by kernel_rfl
theorem okN : namesOk Try.prog = true := by kernel_rfl
theorem okM : Try.prog.follows .mixedOrders = true := by kernel_rfl
set_option maxRecDepth 1000000 in
theorem shown_orc : Orc Try.prog i_law11_shown (.bool true) := orc_ev okZ okN okM (k := 200) rfl (by kernel_rfl) fun ro => by kernel_rfl
theorem shown_c {ro : Ro} {h : T Obj} {nx : Nat} {K : KV} (hK : K (.bool true) h nx) : callP Try.prog ro i_law11_shown [] h nx K := callP_orc shown_orc hK
end V
end Go.Proofs.Ytmmdcdjkmakgpaa
set_option linter.unusedVariables false
set_option linter.unusedSimpArgs false
namespace Go.Proofs.Ytmmdcdjkmakgpaa
namespace V
open PA
attribute [local irreducible] bindP ifP condP newP optP exP beqP
theorem ofB_len (g : GlD) : (ofB g).length ≤ 256 := first_len
theorem ofZ_small (g : GlD) : Small (ofZ g).2.states ∧ (ofZ g).2.counts.length ≤ 1000000 := by
  have h0 : Small autD0.states ∧ autD0.counts.length ≤ 1000000 := ⟨⟨Nat.zero_le _, fun s hs => (by cases hs)⟩, Nat.zero_le _⟩
  unfold ofZ
  split
  · rename_i hr
    split
    · rename_i hz
      have hm := all_made hz
      obtain ⟨hgl, _, _⟩ := right_parts hr
      refine ⟨⟨by have := hm.base.few; show (allZ g (ofB g) 256 0 [noS]).2.length ≤ 1000000; omega, fun s hs => ?_⟩, by have := cntsL_len g.p; show (cntsL g.p).length ≤ 1000000; omega⟩
      obtain ⟨i, hi⟩ := List.mem_iff_getElem?.1 hs
      obtain ⟨o1, o2, o3⟩ := hm.base.ok s hs
      obtain ⟨c1, c2⟩ := hm.codes hi
      have hcl := codes_le (s.r.length : Int)
      have hl := rz_lenN o1 (by omega)
      refine ⟨by omega, by omega, by omega, by omega, fun row hrow => ?_⟩
      obtain ⟨q, hq⟩ := List.mem_iff_getElem?.1 hrow
      have := (hm.next i s q row hi hq).1
      have := ofB_len g
      omega
    · exact h0
  · exact h0
section
variable {ro : Ro} {x : GlD} {l : List (Nat × Nat)} {av bv w : Value}
end
end V
end Go.Proofs.Ytmmdcdjkmakgpaa
set_option linter.unusedVariables false
set_option linter.unusedSimpArgs false
namespace Go.Proofs.Ytmmdcdjkmakgpaa
namespace V
attribute [local irreducible] callPre callP bindP
end V
end Go.Proofs.Ytmmdcdjkmakgpaa
set_option linter.unusedVariables false
set_option linter.unusedSimpArgs false
namespace Go.Proofs.Ytmmdcdjkmakgpaa
namespace V
open PA
attribute [local irreducible] bindP ifP condP newP optP exP beqP
theorem SlR.slice {D : Type} {ro : Ro} {h : T Obj} {v : Value} {z : Nat} {R : List Value → D → Prop} {l : List D} (hv : SlR ro h v z R l) (hl : 0 < l.length) : ∃ a n c, v = .slice (some a) n c := by
  obtain ⟨cs, h1, h2, h3⟩ := hv
  rcases h1 with ⟨rfl, rfl⟩ | ⟨a, cap, rfl, _⟩
  · simp at h2; omega
  · exact ⟨_, _, _, rfl⟩
section
variable {ro : Ro} {x : GlD} {av bv w : Value}
end
end V
end Go.Proofs.Ytmmdcdjkmakgpaa
set_option linter.unusedVariables false
set_option linter.unusedSimpArgs false
namespace Go.Proofs.Ytmmdcdjkmakgpaa
namespace V
open PA
attribute [local irreducible] bindP ifP condP newP optP exP beqP
def fewV (v : Value) (g : GlD) : Value := if 40 < g.p.length then .agg #[nilS, nilS] else v
theorem fewV_R {ro : Ro} {h : T Obj} {v : Value} {g : GlD} (hg : RG ro h v g) : RG ro h (fewV v g) (fewD g) := by
  unfold fewV fewD
  split
  · exact ⟨nilS, nilS, rfl, Sl.nil, SlR.nil⟩
  · exact hg
set_option maxRecDepth 4000 in
theorem law11_few_c2 {ro : Ro} {v : Value} {g : GlD} {h : T Obj} {nx : Nat} {K : KV} (hf : Fr h nx) (hg : RG ro h v g) (hK : ∀ nx', nx ≤ nx' → K (fewV v g) h nx') : callP Try.prog ro i_law11_few [v] h nx K := by
  obtain ⟨a, b, rfl, ha, hb⟩ := hg
  apply law11_few_of
  unfold law11_few
  refine param_mk hf (Nat.le_refl _) fun h1 hs1 hf1 g1 _ => ?_
  have g1 : h1.get nx = some (.cells [a, b].toArray y_api_Glush) := g1
  refine bindP_mk zer_Gl (obj_mk hf1 (Nat.le_refl _) fun h2 hs2 hf2 g2 _ => ?_)
  have g2 : h2.get (nx + 1) = some (.cells [nilS, nilS].toArray y_api_Glush) := g2
  have g1 := hs2 _ _ g1
  have hs := hs1.trans hs2
  have hbl := (hb.sub hs (RPos.sub hs)).len
  have e1 : ([a, b] : List Value)[1]? = some b := rfl
  have hak := ha.ok
  have hbk : cellOk b = true := by obtain ⟨cs, h1, _⟩ := hb; exact h1.ok
  (repeat (first | refine bindP_mk (by simp (disch := first | omega | exact Int.natCast_nonneg _ | assumption) only [BB, B2, ↓reduceIte, Nat.reduceLeDiff, Nat.reduceAdd, CC, g1, e1, hbl] <;> rfl) ?_ | refine newP_mk ?_ | refine optP_mk ?_ | with_reducible first | refine condP_t ?_ | refine condP_f ?_ | refine ifP_tt' ?_ | refine ifP_ff' ?_ | refine ifP_tf' ?_ | refine ifP_ft' ?_ | refine ifP_u' ?_ | refine optP_mk0 ?_))
  refine gtr_s (fun u => ?_) (fun u => ?_)
  · refine condP_t (bindP_mk build_Gl0 ?_)
    refine bindP_mk (storeA_own (l := [nilS, nilS]) (vs := [nilS, nilS]) g2 rfl rfl rfl rfl) ?_
    refine bindP_mk (loadA_all (l := [nilS, nilS]) (by rw [T.get_upd_same]) rfl) ?_
    refine ⟨h, hs.new hf (by omega), ?_⟩
    have := hK (nx + 8) (by omega)
    unfold fewV at this
    rw [if_pos (by omega)] at this
    exact this
  · refine condP_f (bindP_mk (loadA_all (l := [a, b]) g1 rfl) ?_)
    refine bindP_mk (storeA_own (l := [nilS, nilS]) (vs := [a, b]) g2 rfl rfl rfl (by simp [hak, hbk])) ?_
    refine bindP_mk (loadA_all (l := [a, b]) (by rw [T.get_upd_same]) rfl) ?_
    refine ⟨h, hs.new hf (by omega), ?_⟩
    have := hK (nx + 8) (by omega)
    unfold fewV at this
    rw [if_neg (by omega)] at this
    exact this
section
variable {ro : Ro}
end
end V
end Go.Proofs.Ytmmdcdjkmakgpaa
set_option linter.unusedVariables false
set_option linter.unusedSimpArgs false
namespace Go.Proofs.Ytmmdcdjkmakgpaa
namespace V
attribute [local irreducible] callPre callP bindP
@[irreducible] def law11_AutoTells (ro : Ro) (v0 v1 : Value) (h : T Obj) (nx : Nat) (K : KV) : Prop := newP h nx (.cells (Value.cells v0) y_api_Glush) fun h1 => bindP (loadA ro h1 2 (ptr nx)) fun t10_2 => callP Try.prog ro i_law11_few [t10_2] h1 (nx + 4) fun t11_3 h4 n5 => callP Try.prog ro i_auto_Of [t11_3] h4 (n5 + 1) fun t12_6 h7 n8 => bindP (nth 0 t12_6) fun t13_9 => bindP (nth 1 t12_6) fun t14_10 => bindP (zer Try.prog y_api_Auto) fun z11 => newP h7 (n8 + 3) (.cells z11.cells y_api_Auto) fun h12 => bindP (storeN 259 h12 (ptr (n8 + 3)) t13_9) fun h13 => bindP (loadA ro h13 2 (ptr nx)) fun t16_14 => callP Try.prog ro i_law11_few [t16_14] h13 (n8 + 8) fun t17_15 h16 n17 => callP Try.prog ro i_ref11_Of [t17_15] h16 (n17 + 1) fun t18_18 h19 n20 => bindP (nth 0 t18_18) fun t19_21 => bindP (nth 1 t18_18) fun t20_22 => bindP (zer Try.prog y_api_Auto) fun z23 => newP h19 (n20 + 3) (.cells z23.cells y_api_Auto) fun h24 => bindP (storeN 259 h24 (ptr (n20 + 3)) t19_21) fun h25 => callP Try.prog ro i_law11_shown [] h25 (n20 + 7) fun t21_26 h27 n28 => ifP t21_26 true h27 (n28 + 1) (fun k29 => bindP (loadA ro h27 259 (ptr (n8 + 3))) fun t23_33 => k29 t23_33 h27 (n28 + 2)) fun t23_30 h31 n32 => ifP t21_26 true h31 n32 (fun k34 => bindP (loadA ro h31 259 (ptr (n20 + 3))) fun t24_38 => k34 t24_38 h31 (n32 + 1)) fun t24_35 h36 n37 => ifP t21_26 true h36 n37 (fun k39 => callP Try.prog ro i_ref11_Same [t23_30, t24_35] h36 (n37 + 1) fun t25_43 h44 n45 => k39 t25_43 h44 n45) fun t25_40 h41 n42 => bindP (pickV t21_26 t25_40 (Value.bool false)) fun t26_46 => ifP t26_46 true h41 (n42 + 2) (fun k47 => k47 t14_10 h41 (n42 + 3)) fun t28_48 h49 n50 => ifP t26_46 true h49 n50 (fun k51 => k51 t20_22 h49 (n50 + 1)) fun t29_52 h53 n54 => ifP t26_46 true h53 n54 (fun k55 => bindP (intB .eql t28_48 t29_52) fun t30_59 => k55 t30_59 h53 (n54 + 1)) fun t30_56 h57 n58 => bindP (pickV t26_46 t30_56 (Value.bool false)) fun t31_60 => ifP t31_60 true h57 (n58 + 2) (fun k61 => k61 v1 h57 (n58 + 3)) fun t33_62 h63 n64 => ifP t31_60 true h63 n64 (fun k65 => callP Try.prog ro i_auto_Codes [t33_62] h63 (n64 + 1) fun t34_69 h70 n71 => k65 t34_69 h70 n71) fun t34_66 h67 n68 => ifP t31_60 true h67 n68 (fun k72 => k72 v1 h67 (n68 + 1)) fun t35_73 h74 n75 => ifP t31_60 true h74 n75 (fun k76 => callP Try.prog ro i_ref11_Codes [t35_73] h74 (n75 + 1) fun t36_80 h81 n82 => k76 t36_80 h81 n82) fun t36_77 h78 n79 => ifP t31_60 true h78 n79 (fun k83 => bindP (intB .eql t34_66 t36_77) fun t37_87 => k83 t37_87 h78 (n79 + 1)) fun t37_84 h85 n86 => bindP (pickV t31_60 t37_84 (Value.bool false)) fun t38_88 => ∃ h89, Sub h89 h85 ∧ K t38_88 h89 (n86 + 2)
theorem law11_AutoTells_eq (ro : Ro) (v0 v1 : Value) (h : T Obj) (nx : Nat) (K : KV) : callPre Try.prog ro (callP Try.prog ro) Try.f3 [v0, v1] h nx K = law11_AutoTells ro v0 v1 h nx K := by kernel_rfl
theorem law11_AutoTells_of {ro : Ro} {v0 v1 : Value} {h : T Obj} {nx : Nat} {K : KV} (hw : law11_AutoTells ro v0 v1 h nx K) : callP Try.prog ro i_law11_AutoTells [v0, v1] h nx K := callP_by (P := Try.prog) (fn := Try.f3) (by kernel_rfl) (by kernel_rfl) (by kernel_rfl) (Eq.mpr (law11_AutoTells_eq ro v0 v1 h nx K) hw)
end V
end Go.Proofs.Ytmmdcdjkmakgpaa
set_option linter.unusedVariables false
set_option linter.unusedSimpArgs false
namespace Go.Proofs.Ytmmdcdjkmakgpaa
namespace V
open PA
attribute [local irreducible] bindP ifP condP newP optP exP beqP
section
variable {ro : Ro}
set_option maxRecDepth 8000 in
set_option maxHeartbeats 2000000 in
theorem law11_AutoTells_c {v : Value} {g : GlD} {m : Int} {h : T Obj} {nx : Nat} {K : KV} (hf : Fr h nx) (hg : RG ro h v g) (hK : ∀ h' nx', K (.bool true) h' nx') : callP Try.prog ro i_law11_AutoTells [v, .int .i64 m] h nx K := by
  have hg0 := hg
  obtain ⟨a, b, rfl, ha, hb⟩ := hg
  apply law11_AutoTells_of
  unfold law11_AutoTells
  refine param_mk hf (Nat.le_refl _) fun h1 hs1 hf1 g1 _ => ?_
  have g1 : h1.get nx = some (.cells [a, b].toArray y_api_Glush) := g1
  refine bindP_mk (loadA_all (l := [a, b]) g1 rfl) ?_
  refine law11_few_c2 (hf1.mono (show nx + 1 ≤ _ by omega)) (hg0.sub hs1) fun n8 hn8 => ?_
  have hx := fewV_R (hg0.sub hs1)
  refine auto_Of_c (hf1.mono (show nx + 1 ≤ n8 + 1 by omega)) hx fun h5 n5 xs hn5 hs5 hf5 hR => ?_
  have hR0 := hR
  (repeat (first | refine bindP_mk (by simp (disch := first | omega | exact Int.natCast_nonneg _ | assumption) only [BB, B2, ↓reduceIte, Nat.reduceLeDiff, Nat.reduceAdd, CC, nth0, nth1] <;> rfl) ?_ | refine newP_mk ?_ | refine optP_mk ?_ | with_reducible first | refine condP_t ?_ | refine condP_f ?_ | refine ifP_tt' ?_ | refine ifP_ff' ?_ | refine ifP_tf' ?_ | refine ifP_ft' ?_ | refine ifP_u' ?_ | refine optP_mk0 ?_))
  obtain ⟨cv, sv, rfl, hc, hcb, hcv, hsv, hc1, hc2⟩ := hR
  have hcvk : cellOk cv = true := by obtain ⟨cs, h1, _⟩ := hcv; exact h1.ok
  have hsvk : cellOk sv = true := by obtain ⟨cs, h1, _⟩ := hsv; exact h1.ok
  refine local_mk zer_Auto (by rw [Value.cells_agg, ts]; exact autZ_len) (x := autL (ofZ (fewD g)).2.c (ofZ (fewD g)).2.many cv sv) rfl (autL_len hc) (autL_ok hcvk hsvk) hf5 (show n5 ≤ n5 + 3 by omega) fun h6 hs6 hf6 g6 _ => ?_
  have hs16 := hs5.trans hs6
  have g16 := hs16 _ _ g1
  refine bindP_mk (loadA_all (l := [a, b]) g16 rfl) ?_
  refine law11_few_c2 (hf6.mono (show n5 + 3 + 1 ≤ _ by omega)) (hg0.sub (hs1.trans hs16)) fun n9 hn9 => ?_
  have hx9 := fewV_R (hg0.sub (hs1.trans hs16))
  refine ref11_Of_c (hf6.mono (show n5 + 3 + 1 ≤ n9 + 1 by omega)) hx9 fun h7 n7 ys hn7 hs7 hf7 hR7 => ?_
  have hR70 := hR7
  (repeat (first | refine bindP_mk (by simp (disch := first | omega | exact Int.natCast_nonneg _ | assumption) only [BB, B2, ↓reduceIte, Nat.reduceLeDiff, Nat.reduceAdd, CC, nth0, nth1] <;> rfl) ?_ | refine newP_mk ?_ | refine optP_mk ?_ | with_reducible first | refine condP_t ?_ | refine condP_f ?_ | refine ifP_tt' ?_ | refine ifP_ff' ?_ | refine ifP_tf' ?_ | refine ifP_ft' ?_ | refine ifP_u' ?_ | refine optP_mk0 ?_))
  obtain ⟨cw, sw, rfl, hc', hcb', hcw, hsw, hc1', hc2'⟩ := hR7
  have hcwk : cellOk cw = true := by obtain ⟨cs, h1, _⟩ := hcw; exact h1.ok
  have hswk : cellOk sw = true := by obtain ⟨cs, h1, _⟩ := hsw; exact h1.ok
  refine local_mk zer_Auto (by rw [Value.cells_agg, ts]; exact autZ_len) (x := autL (ofZ (fewD g)).2.c (ofZ (fewD g)).2.many cw sw) rfl (autL_len hc) (autL_ok hcwk hswk) hf7 (show n7 ≤ n7 + 3 by omega) fun h8 hs8 hf8 g8 _ => ?_
  refine shown_c ?_
  have hs68 := hs7.trans hs8
  have hs58 := hs6.trans hs68
  have g68 := hs68 _ _ g6
  have hlo1 := loadA_all (ro := ro) (z := 0) (n := 259) (l := autL (ofZ (fewD g)).2.c (ofZ (fewD g)).2.many cv sv) g68 (autL_len hc)
  have hlo2 := loadA_all (ro := ro) (z := 0) (n := 259) (l := autL (ofZ (fewD g)).2.c (ofZ (fewD g)).2.many cw sw) g8 (autL_len hc)
  have r1 : RAuto ro h8 (autL (ofZ (fewD g)).2.c (ofZ (fewD g)).2.many cv sv) (ofZ (fewD g)).2 := ⟨cv, sv, rfl, hc, hcb, hcv.sub hs58 fun _ _ h => h, hsv.sub hs58 (RState.sub hs58), hc1, hc2⟩
  have r2 : RAuto ro h8 (autL (ofZ (fewD g)).2.c (ofZ (fewD g)).2.many cw sw) (ofZ (fewD g)).2 := ⟨cw, sw, rfl, hc, hcb, hcw.sub hs8 fun _ _ h => h, hsw.sub hs8 (RState.sub hs8), hc1, hc2⟩
  obtain ⟨s1, s2⟩ := ofZ_small (fewD g)
  (repeat (first | refine bindP_mk (by simp (disch := first | omega | exact Int.natCast_nonneg _ | assumption) only [BB, B2, ↓reduceIte, Nat.reduceLeDiff, Nat.reduceAdd, CC] <;> rfl) ?_ | refine newP_mk ?_ | refine optP_mk ?_ | with_reducible first | refine condP_t ?_ | refine condP_f ?_ | refine ifP_tt' ?_ | refine ifP_ff' ?_ | refine ifP_tf' ?_ | refine ifP_ft' ?_ | refine ifP_u' ?_ | refine optP_mk0 ?_))
  refine bindP_mk hlo1 ?_
  (repeat (first | refine bindP_mk (by simp (disch := first | omega | exact Int.natCast_nonneg _ | assumption) only [BB, B2, ↓reduceIte, Nat.reduceLeDiff, Nat.reduceAdd, CC] <;> rfl) ?_ | refine newP_mk ?_ | refine optP_mk ?_ | with_reducible first | refine condP_t ?_ | refine condP_f ?_ | refine ifP_tt' ?_ | refine ifP_ff' ?_ | refine ifP_tf' ?_ | refine ifP_ft' ?_ | refine ifP_u' ?_ | refine optP_mk0 ?_))
  refine bindP_mk hlo2 ?_
  (repeat (first | refine bindP_mk (by simp (disch := first | omega | exact Int.natCast_nonneg _ | assumption) only [BB, B2, ↓reduceIte, Nat.reduceLeDiff, Nat.reduceAdd, CC] <;> rfl) ?_ | refine newP_mk ?_ | refine optP_mk ?_ | with_reducible first | refine condP_t ?_ | refine condP_f ?_ | refine ifP_tt' ?_ | refine ifP_ff' ?_ | refine ifP_tf' ?_ | refine ifP_ft' ?_ | refine ifP_u' ?_ | refine optP_mk0 ?_))
  refine ref11_Same_c s1 s2 (hf8.mono (show n7 + 3 + 1 ≤ _ by omega)) r1 r2 fun n10 hn10 => ?_
  (repeat (first | refine bindP_mk (by simp (disch := first | omega | exact Int.natCast_nonneg _ | assumption) only [BB, B2, ↓reduceIte, Nat.reduceLeDiff, Nat.reduceAdd, CC] <;> rfl) ?_ | refine newP_mk ?_ | refine optP_mk ?_ | with_reducible first | refine condP_t ?_ | refine condP_f ?_ | refine ifP_tt' ?_ | refine ifP_ff' ?_ | refine ifP_tf' ?_ | refine ifP_ft' ?_ | refine ifP_u' ?_ | refine optP_mk0 ?_))
  refine auto_Codes_c fun n11 hn11 => ?_
  (repeat (first | refine bindP_mk (by simp (disch := first | omega | exact Int.natCast_nonneg _ | assumption) only [BB, B2, ↓reduceIte, Nat.reduceLeDiff, Nat.reduceAdd, CC] <;> rfl) ?_ | refine newP_mk ?_ | refine optP_mk ?_ | with_reducible first | refine condP_t ?_ | refine condP_f ?_ | refine ifP_tt' ?_ | refine ifP_ff' ?_ | refine ifP_tf' ?_ | refine ifP_ft' ?_ | refine ifP_u' ?_ | refine optP_mk0 ?_))
  refine ref11_Codes_c fun n12 hn12 => ?_
  (repeat (first | refine bindP_mk (by simp (disch := first | omega | exact Int.natCast_nonneg _ | assumption) only [BB, B2, ↓reduceIte, Nat.reduceLeDiff, Nat.reduceAdd, CC] <;> rfl) ?_ | refine newP_mk ?_ | refine optP_mk ?_ | with_reducible first | refine condP_t ?_ | refine condP_f ?_ | refine ifP_tt' ?_ | refine ifP_ff' ?_ | refine ifP_tf' ?_ | refine ifP_ft' ?_ | refine ifP_u' ?_ | refine optP_mk0 ?_))
  exact ⟨_, Sub.refl _, hK _ _⟩
end
end V
end Go.Proofs.Ytmmdcdjkmakgpaa
set_option linter.unusedVariables false
set_option linter.unusedSimpArgs false
set_option maxRecDepth 16000
namespace Go.Proofs.Ytmmdcdjkmakgpaa
namespace V
open Go.ChangeShapes Go.WideShapes Go.ChangeAt Go.RowKit
theorem autoTells_lifted (os : Os) (started : os.Started) (H : Type) (enc : TypeId × Value → H) :
    ReturnsInHanded {} Try.checked os 3 .any (Rows.autoTellsSpec.pre6 enc Try.prog Try.f3 Rows.autoTellsRow.domain false) (Rows.autoTellsSpec.post enc Try.prog Try.f3 false true false false) := by
  refine returnsInHanded_of_change_sized (C := Try.checked) okOwn started (by kernel_rfl) (by kernel_rfl)
    (ChangeSpec.witness6 (enc := enc) (C := Try.checked) false ⟨#[], #[.agg #[.slice none 0 0, .slice none 0 0], .int .i64 0], []⟩ 8 (by kernel_rfl) (by kernel_rfl) (by kernel_rfl) (by kernel_rfl)) ?_
  intro W base args ds gs before hval hW _ _ _
  have hW' := hW
  obtain ⟨p, q, hA0, hV, rfl, hfz, hnd⟩ := hW
  have hA : DataW.TrodAll enc Try.prog W 0 (fun _ => true) true [y_api_Glush, y_int] args.toList ds p := hA0
  obtain ⟨v0, v1, d0, d1, p0, p1, rfl, rfl, rfl, h0, h1⟩ := trodAll_two hA
  obtain ⟨rfl, rfl⟩ := trodVars_none hV
  obtain ⟨w0, g0, a0, hg0⟩ := open_glush h0 (hval 0 y_api_Glush v0 rfl rfl)
  obtain ⟨x1, a1⟩ := open_i64 h1 (hval 1 y_int v1 rfl rfl)
  have hsay : Says Try.prog W 3 [w0, .int .i64 x1] := law11_AutoTells_c Fr.e hg0 fun _ _ => rfl
  refine (says_calls okZ okN okM (args := #[v0, v1]) (.cons a0 (.cons a1 .nil)) hsay).mono fun e W' ⟨he, hb⟩ => ?_
  subst he
  exact ⟨_, rfl, law_post (tb := y_bool) okLaid (by kernel_rfl) (by kernel_rfl) (by kernel_rfl) rfl hW' hb rfl⟩
end V
theorem autoTells_holds : Rows.AutoTellsSaid :=
  OpenClaim.holds_of_wide 3 Try.f3 rfl rfl rfl rfl rfl rfl rfl ⟨rfl, rfl, rfl, rfl, rfl⟩ rfl rfl rfl rfl rfl (by kernel_rfl) (by kernel_rfl) (by kernel_rfl)
    (of_decide_eq_true (by kernel_rfl)) (by unfold Func.isWrapper; rw [if_neg (of_decide_eq_false (by kernel_rfl))]; exact ⟨rfl, rfl⟩)
    (fun os started H enc _ => V.autoTells_lifted os started H enc)
end Go.Proofs.Ytmmdcdjkmakgpaa