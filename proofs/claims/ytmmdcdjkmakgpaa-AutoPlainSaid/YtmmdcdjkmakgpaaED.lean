/- AutoBounds: whatever the input, true.
   No condition. -/
import Derived.Test.YtmmdcdjkmakgpaaEB
import Derived.Test.YtmmdcdjkmakgpaaGB
import Derived.Test.YtmmdcdjkmakgpaaEC
import Derived.Test.YtmmdcdjkmakgpaaES
import Derived.Test.YtmmdcdjkmakgpaaAS
import Derived.Test.YtmmdcdjkmakgpaaBT
set_option linter.unusedVariables false
set_option linter.unusedSimpArgs false
namespace Go.Proofs.Ytmmdcdjkmakgpaa
namespace V
open PA
attribute [local irreducible] bindP ifP condP newP optP exP beqP
theorem ofB_len (g : GlD) : (ofB g).length ≤ 256 := first_len
theorem ofZ_small (g : GlD) : Small (ofZ g).2.states ∧ (ofZ g).2.counts.length ≤ 1000000 := by
  have h0 : Small autD0.states ∧ autD0.counts.length ≤ 1000000 := ⟨⟨Nat.zero_le _, fun s hs => (by cases hs)⟩, Nat.zero_le _⟩
  unfold ofZ
  split
  · rename_i hr
    split
    · rename_i hz
      have hm := all_made hz
      obtain ⟨hgl, _, _⟩ := right_parts hr
      refine ⟨⟨by have := hm.base.few; show (allZ g (ofB g) 256 0 [noS]).2.length ≤ 1000000; omega, fun s hs => ?_⟩, by have := cntsL_len g.p; show (cntsL g.p).length ≤ 1000000; omega⟩
      obtain ⟨i, hi⟩ := List.mem_iff_getElem?.1 hs
      obtain ⟨o1, o2, o3⟩ := hm.base.ok s hs
      obtain ⟨c1, c2⟩ := hm.codes hi
      have hcl := codes_le (s.r.length : Int)
      have hl := rz_lenN o1 (by omega)
      refine ⟨by omega, by omega, by omega, by omega, fun row hrow => ?_⟩
      obtain ⟨q, hq⟩ := List.mem_iff_getElem?.1 hrow
      have := (hm.next i s q row hi hq).1
      have := ofB_len g
      omega
    · exact h0
  · exact h0
theorem build_Gl1 (a : Value) (ha : a.cells = #[a]) : buildV Try.prog y_api_Glush [(0, a)] = some (.agg #[a, nilS]) := by
  have hp : (match und Try.prog y_api_Glush with | some (.struct fs) => placesV Try.prog fs.toList | _ => none) = some [(0, 1), (1, 1)] := by kernel_rfl
  unfold buildV
  rw [zer_Gl]
  simp only [Option.bind]
  cases hu : und Try.prog y_api_Glush with
  | none => rw [hu] at hp; cases hp
  | some d =>
    rw [hu] at hp
    cases d <;> try (cases hp; done)
    rename_i fs
    simp only at hp ⊢
    rw [hp]
    simp only [fillV, ha]
    rfl
theorem lit_Pos (aid : Nat) (p : PosD) (nv : Value) : sliceLitV Try.prog y_s_api_Pos aid 1 [(0, .agg (posL p nv).toArray)] = some (.slice (some (own aid 9)) 1 1, some (.cells (posL p nv).toArray y_api_Pos)) := by kernel_rfl
theorem und_sPos : und Try.prog y_s_api_Pos = some (.slice y_api_Pos) := by kernel_rfl
theorem tin_Pos : ∃ i, tin Try.prog y_api_Pos = some i ∧ i.size = 9 ∧ i.bytes = 88 := tinOf (by kernel_rfl)
theorem app_Pos {ro : Ro} {h : T Obj} {v nv : Value} {p : PosD} {nx n1 n2 lo : Nat} {l : List (List Value)} {K : Value × Option Obj → T Obj → Value × T Obj × Nat → Prop} (hn : cellOk nv = true) (ho : OwnT h v 9 y_api_Pos l lo) (hl : l.length ≤ 1000000) (hf : Fr h nx) (hlo : lo ≤ nx) (hn1 : nx ≤ n1) (hn2 : n1 < n2)
    (hK : ∀ h' w, OwnT h' w 9 y_api_Pos (l ++ [posL p nv]) lo → Kp v h h' → Fr h' (n2 + 1) → K (.slice (some (own n1 9)) 1 1, some (.cells (posL p nv).toArray y_api_Pos)) (h.upd n1 (some (.cells (posL p nv).toArray y_api_Pos))) (w, h', n2 + 1)) :
    bindP (sliceLitV Try.prog y_s_api_Pos n1 1 [(0, .agg (posL p nv).toArray)]) fun r => optP h n1 r.2 fun h' => bindP (appendV Try.prog ro h' n2 #[y_s_api_Pos, y_s_api_Pos] [v, r.1]) (K r h') := by
  obtain ⟨i, g1, g2, g3⟩ := tin_Pos
  exact append_lit (z := 9) (l := l) (y := posL p nv) (lit_Pos _ _ _) rfl ho und_sPos g1 g2 (by omega) zer_PosZ rfl (posL_ok hn) (by rw [g3]; unfold big; omega) (by unfold big; omega) hf hlo hn1 hn2 fun h' q1 q2 q3 => hK h' _ q1 q2 q3
theorem ixArr_fwd {n j : Nat} {k : IntKind} {p q : Value} (h : fwdP j p = some q) (hj : j < n) : ixArr n 1 p (.int k (j : Int)) = some q := by
  have hn : natV (.int k (j : Int)) = some j := by simp [natV]
  have hb : Nat.blt j n = true := by simp [Nat.blt]; omega
  unfold fwdP at h
  unfold ixArr
  rw [hn]
  simp only [Option.bind_some, hb, Nat.mul_one]
  exact h
section
variable {ro : Ro} {x : GlD} {l : List (Nat × Nat)} {av bv w : Value}
set_option maxRecDepth 8000 in
set_option maxHeartbeats 1000000 in
/-- The places with other bounds. -/
theorem bounds_L2_c {e : Env} {xid yid : Nat} (hxl : x.p.length ≤ 40) {h : T Obj} {nx : Nat} {Q : KE} (hf : Fr h nx) (hb : SlR ro (del h [yid]) bv 9 (RPos ro (del h [yid])) x.p) (hw : SlR ro (del h [yid]) w 2 RPair l) (gy : h.get yid = some (.cells [av, nilS].toArray y_api_Glush))
    (e1 : e 1 = w) (e5 : e 5 = .bool true) (e6 : e 6 = ptr xid) (e7 : e 7 = ptr yid) (e24 : e 24 = bv) (e25 : e 25 = .int .i64 x.p.length) (e26 : e 26 = .int .i64 0)
    (hQ : ∀ e' h' nx' pv, nx ≤ nx' → Fr h' nx' → Keep [yid] h h' → h'.get yid = some (.cells [av, pv].toArray y_api_Glush) → cellOk pv = true → SlR ro h' pv 9 (RPos ro h') (boundsP l x.p 0) → e' 5 = .bool true → e' 6 = ptr xid → e' 7 = ptr yid → Q (.exit 0) e' h' nx') :
    loopP (law11_AutoBounds_L2 ro) e h nx Q := by
  have hyl := hf.lt' gy
  refine loopP_rule (fun j e h' nx' => ∃ (k : Nat) (pv : Value) (cs : List (List Value)), k + j = x.p.length ∧ nx ≤ nx' ∧ Fr h' nx' ∧ Keep [yid] h h' ∧ h'.get yid = some (.cells [av, pv].toArray y_api_Glush) ∧ OwnT h' pv 9 y_api_Pos cs nx ∧ cs.length = k ∧ (∀ (i : Nat) y d, cs[i]? = some y → (boundsP l (x.p.take k) 0)[i]? = some d → RPos ro (del h [yid]) y d) ∧
    e 1 = w ∧ e 5 = .bool true ∧ e 6 = ptr xid ∧ e 7 = ptr yid ∧ e 24 = bv ∧ e 25 = .int .i64 x.p.length ∧ e 26 = .int .i64 k) ?_ (n := x.p.length)
    ⟨0, nilS, [], by omega, by omega, hf, (Sub.refl h).keepL, gy, OwnT.nil, rfl, fun i y d hy => by simp at hy, e1, e5, e6, e7, e24, e25, e26⟩
  rintro j e h' nx' ⟨k, pv, cs, hj, hnx, hf', hkp, gy', hpv, hcl, hrd, e1, e5, e6, e7, e24, e25, e26⟩ Q' hq hx
  have hsub : Sub (del h [yid]) h' := hkp.delS fun _ h => h
  have hb' := hb.sub hsub (RPos.sub hsub)
  have hw' := hw.sub hsub fun _ _ h => h
  unfold law11_AutoBounds_L2
  rw [e24, e25, e26]
  refine lss_s (fun hk => ?_) (fun hk => ?_)
  · have hk : k < x.p.length := by omega
    obtain ⟨y, ⟨nv, rfl, z1, z2⟩, y2, y3, y4, y5⟩ := hb'.at hk
    obtain ⟨y', ⟨nv', p1, p2, p3⟩, p4, p5, p6, p7⟩ := hb.at hk
    have hnv : nv' = nv := by
      have a1 := loadA_sub hsub p5
      rw [y3, p1] at a1
      have a2 := Option.some.inj a1
      simp only [Value.agg.injEq] at a2
      have a3 := congrArg Array.toList a2
      simp [posL, setL] at a3
      exact a3.symm
    subst hnv
    have htk : boundsP l (x.p.take (k + 1)) 0 = boundsP l (x.p.take k) 0 ++ [setB k l x.p[k]] := by
      rw [List.take_succ_eq_append_getElem hk, boundsP_snoc, List.length_take, Nat.zero_add, Nat.min_eq_left (by omega)]
    have hlk : (boundsP l (x.p.take k) 0).length = k := by rw [boundsP_len, List.length_take]; omega
    have hnk := z1.ok
    refine condP_t (bindP_mk (hb'.ix _ hk) (bindP_mk y3 ?_))
    refine local_mk zer_PosZ rfl (x := posL x.p[k] nv') rfl rfl (posL_ok hnk) hf' (show nx' ≤ nx' + 4 by omega) fun h3 hs3 hf3 g3 hne3 => ?_
    have gy3 := hs3 _ _ gy'
    -- the end of a round
    have hj5 : ∀ (e : Env) (h4 : T Obj) (n4 : Nat), nx' + 5 ≤ n4 → Fr h4 n4 → (∀ i o, h3.get i = some o → i ≠ nx' + 4 → h4.get i = some o) → h4.get (nx' + 4) = some (.cells (posL (setB k l x.p[k]) nv').toArray y_api_Pos) → e 1 = w → e 5 = .bool true → e 6 = ptr xid → e 7 = ptr yid → e 9 = ptr (nx' + 4) → e 24 = bv → e 25 = .int .i64 x.p.length → e 26 = .int .i64 k → law11_AutoBounds_j5 ro Q' e h4 n4 := by
      intro e h4 n4 hn4 hf4 hk4 g4 e1 e5 e6 e7 e9 e24 e25 e26
      unfold law11_AutoBounds_j5
      rw [e7, e9]
      have gy4 := hk4 _ _ gy3 (by omega)
      have b1 : ([av, pv] : List Value)[1]? = some pv := rfl
      (repeat (first | refine bindP_mk (by simp (disch := first | omega | exact Int.natCast_nonneg _ | assumption) only [BB, B2, ↓reduceIte, Nat.reduceLeDiff, Nat.reduceAdd, CC, gy4, b1] <;> rfl) ?_ | refine newP_mk ?_ | refine optP_mk ?_ | with_reducible first | refine condP_t ?_ | refine condP_f ?_ | refine ifP_tt' ?_ | refine ifP_ff' ?_ | refine ifP_tf' ?_ | refine ifP_ft' ?_ | refine ifP_u' ?_ | refine optP_mk0 ?_))
      refine bindP_mk (loadA_all (l := posL (setB k l x.p[k]) nv') g4 rfl) ?_
      have hpv4 : OwnT h4 pv 9 y_api_Pos cs nx := by
        rcases hpv with hpv | ⟨id, o1, rfl, o4, o5⟩
        · exact .inl hpv
        · exact .inr ⟨id, o1, rfl, o4, hk4 _ _ (hs3 _ _ o5) (by have := hf'.lt' o5; omega)⟩
      refine app_Pos hnk hpv4 (by omega) hf4 (by omega) (by omega) (by omega) fun h5 w5 q1 q2 q3 => ?_
      dsimp only
      have hwk := q1.ok
      have gy5 := q2 _ _ gy4 (hpv4.neB gy4 (by intro c f e; simp only [Obj.cells.injEq] at e; exact absurd e.2.1 (by decide)))
      (repeat (first | refine bindP_mk (by simp (disch := first | omega | exact Int.natCast_nonneg _ | assumption) only [BB, B2, ↓reduceIte, Nat.reduceLeDiff, Nat.reduceAdd, CC] <;> rfl) ?_ | refine newP_mk ?_ | refine optP_mk ?_ | with_reducible first | refine condP_t ?_ | refine condP_f ?_ | refine ifP_tt' ?_ | refine ifP_ff' ?_ | refine ifP_tf' ?_ | refine ifP_ft' ?_ | refine ifP_u' ?_ | refine optP_mk0 ?_))
      refine bindP_mk (store1_own (l := [av, pv]) gy5 (by show 1 < 2; omega) hwk (cells_of_ok hwk)) ?_
      unfold law11_AutoBounds_j4
      show bindP (intB .add (e 26) _) _
      rw [e26]
      (repeat (first | refine bindP_mk (by simp (disch := first | omega | exact Int.natCast_nonneg _ | assumption) only [BB, B2, ↓reduceIte, Nat.reduceLeDiff, Nat.reduceAdd, CC] <;> rfl) ?_ | refine newP_mk ?_ | refine optP_mk ?_ | with_reducible first | refine condP_t ?_ | refine condP_f ?_ | refine ifP_tt' ?_ | refine ifP_ff' ?_ | refine ifP_tf' ?_ | refine ifP_ft' ?_ | refine ifP_u' ?_ | refine optP_mk0 ?_))
      refine hq (j - 1) _ _ _ _ (by omega) ⟨k + 1, w5, cs ++ [posL (setB k l x.p[k]) nv'], by omega, by omega, (q3.mono (show _ ≤ n4 + 5 + 1 + 2 + 2 by omega)).upd (Nat.le_refl _) (by omega), ?_, by rw [T.get_upd_same]; rfl, q1.updNe gy5 (by decide), by simp [hcl], ?_, e1, e5, e6, e7, e24, e25, rfl⟩ (Sub.refl _)
      · refine Keep.upd (fun i o hi hn => ?_) (by simp)
        have hil := hf.lt' hi
        refine q2 i o (hk4 _ _ (hs3 _ _ (hkp i o hi hn)) (by omega)) fun e => ?_
        have := (hpv4.blk e).1
        omega
      · intro i y9 d hy hd
        rw [htk] at hd
        rcases Nat.lt_or_ge i k with hik | hik
        · rw [List.getElem?_append_left (by omega)] at hy hd
          exact hrd i y9 d hy hd
        · rw [List.getElem?_append_right (by omega)] at hy hd
          rw [hcl] at hy
          rw [hlk] at hd
          generalize i - k = q at hy hd
          cases q with
          | succ q => simp at hy
          | zero =>
            simp at hy hd
            subst hy; subst hd
            have ha := setB_alike k l x.p[k]
            exact ⟨nv', rfl, by rw [← ha.next]; exact p2, by rw [← ha.s]; exact p3⟩
    have a5 : (posL x.p[k] nv')[5]? = some (.int .i64 x.p[k].hi) := rfl
    have hwl := hw'.len
    (repeat (first | refine bindP_mk (by simp (disch := first | omega | exact Int.natCast_nonneg _ | assumption) only [BB, B2, ↓reduceIte, Nat.reduceLeDiff, Nat.reduceAdd, CC, g3, a5] <;> rfl) ?_ | refine newP_mk ?_ | refine optP_mk ?_ | with_reducible first | refine condP_t ?_ | refine condP_f ?_ | refine ifP_tt' ?_ | refine ifP_ff' ?_ | refine ifP_tf' ?_ | refine ifP_ft' ?_ | refine ifP_u' ?_ | refine optP_mk0 ?_))
    refine gtr_s (fun u1 => ?_) (fun u1 => ?_)
    · (repeat (first | refine bindP_mk (by simp (disch := first | omega | exact Int.natCast_nonneg _ | assumption) only [BB, B2, ↓reduceIte, Nat.reduceLeDiff, Nat.reduceAdd, CC, e1, hwl] <;> rfl) ?_ | refine newP_mk ?_ | refine optP_mk ?_ | with_reducible first | refine condP_t ?_ | refine condP_f ?_ | refine ifP_tt' ?_ | refine ifP_ff' ?_ | refine ifP_tf' ?_ | refine ifP_ft' ?_ | refine ifP_u' ?_ | refine optP_mk0 ?_))
      refine lss_s (fun u2 => ?_) (fun u2 => ?_)
      · have hkl : k < l.length := by omega
        obtain ⟨pr, ⟨rfl, d1, d2⟩, r2, r3, r4, r5⟩ := hw.at hkl
        have hsb : setB k l x.p[k] = newP2 x.p[k] l[k] := by
          unfold setB
          rw [if_pos u1, List.getElem?_eq_getElem hkl]
        have hix := hw.ix .i64 hkl
        generalize l[k] = dd at d1 d2 r5 hsb
        have i1 := ixArr_fwd (n := 2) (j := 1) (k := .i64) (r4 1) (by omega)
        have i0 := ixArr_fwd (n := 2) (j := 0) (k := .i64) (r4 0) (by omega)
        have l1 := load1_sub (hsub.trans hs3) (r5 1 _ rfl)
        have l0 := r5 0 _ rfl
        rw [show (((1 : Nat)) : Int) = 1 from rfl] at i1
        rw [show (((0 : Nat)) : Int) = 0 from rfl] at i0
        have hmod : ((dd.2 : Nat) : Int) % 4095 = ((dd.2 % 4095 : Nat) : Int) := by omega
        refine bindP_mk rfl (condP_t ?_)
        rw [e1]
        refine bindP_mk hix (bindP_mk i1 (bindP_mk l1 (bindP_mk (intB_rem _ (by omega) (by omega)) (bindP_mk (convI_int _ _ _) ?_))))
        rw [hmod, wr_i64 (by omega) (by omega)]
        refine bindP_mk (intB_add _ _ _) ?_
        rw [wr_i64 (by omega) (by omega)]
        (repeat (first | refine bindP_mk (by simp (disch := first | omega | exact Int.natCast_nonneg _ | assumption) only [BB, B2, ↓reduceIte, Nat.reduceLeDiff, Nat.reduceAdd, CC] <;> rfl) ?_ | refine newP_mk ?_ | refine optP_mk ?_ | with_reducible first | refine condP_t ?_ | refine condP_f ?_ | refine ifP_tt' ?_ | refine ifP_ff' ?_ | refine ifP_tf' ?_ | refine ifP_ft' ?_ | refine ifP_u' ?_ | refine optP_mk0 ?_))
        refine bindP_mk (store1_own (l := posL x.p[k] nv') g3 (by show 5 < 9; omega) rfl rfl) ?_
        have g4 : (h3.upd (nx' + 4) (some (.cells ((posL x.p[k] nv').set 5 (.int .i64 (2 + ((dd.2 % 4095 : Nat) : Int)))).toArray y_api_Pos))).get (nx' + 4) = _ := T.get_upd_same _ _ _
        have hkk : ∀ i o, h3.get i = some o → i ≠ nx' + 4 → (h3.upd (nx' + 4) (some (.cells ((posL x.p[k] nv').set 5 (.int .i64 (2 + ((dd.2 % 4095 : Nat) : Int)))).toArray y_api_Pos))).get i = some o := fun i o hi hn => by rw [T.get_upd_ne _ _ hn]; exact hi
        have hf4 : Fr (h3.upd (nx' + 4) (some (.cells ((posL x.p[k] nv').set 5 (.int .i64 (2 + ((dd.2 % 4095 : Nat) : Int)))).toArray y_api_Pos))) (nx' + 4 + 1) := hf3.upd (Nat.le_refl _) (by omega)
        have hsub4 : Sub (del h [yid]) (h3.upd (nx' + 4) (some (.cells ((posL x.p[k] nv').set 5 (.int .i64 (2 + ((dd.2 % 4095 : Nat) : Int)))).toArray y_api_Pos))) := fun i o hi => by
          have h1 := hsub i o hi
          have := hf'.lt' h1
          exact hkk i o (hs3 _ _ h1) (by omega)
        have l04 := load1_sub hsub4 l0
        generalize h3.upd (nx' + 4) (some (.cells ((posL x.p[k] nv').set 5 (.int .i64 (2 + ((dd.2 % 4095 : Nat) : Int)))).toArray y_api_Pos)) = h4 at g4 hkk hf4 hsub4 l04
        have a5' : ((posL x.p[k] nv').set 5 (.int .i64 (2 + ((dd.2 % 4095 : Nat) : Int))))[5]? = some (.int .i64 (2 + ((dd.2 % 4095 : Nat) : Int))) := rfl
        refine bindP_mk hix (bindP_mk i0 (bindP_mk l04 (bindP_mk (convI_int _ _ _) ?_)))
        rw [wr_i64 (by omega) (by omega)]
        refine bindP_mk (a := at_ (nx' + 4) 5 0) rfl (bindP_mk (load1_get g4 a5') (bindP_mk (intB_rem .i64 (a := (dd.1 : Int)) (b := 2 + ((dd.2 % 4095 : Nat) : Int)) (by omega) (by omega)) ?_))
        have hm1 : 0 ≤ ((dd.1 : Nat) : Int) % (2 + ((dd.2 % 4095 : Nat) : Int)) := Int.emod_nonneg _ (by omega)
        have hm2 : ((dd.1 : Nat) : Int) % (2 + ((dd.2 % 4095 : Nat) : Int)) < 2 + ((dd.2 % 4095 : Nat) : Int) := Int.emod_lt_of_pos _ (by omega)
        refine bindP_mk (intB_add _ _ _) ?_
        rw [wr_i64 (by omega) (by omega)]
        (repeat (first | refine bindP_mk (by simp (disch := first | omega | exact Int.natCast_nonneg _ | assumption) only [BB, B2, ↓reduceIte, Nat.reduceLeDiff, Nat.reduceAdd, CC] <;> rfl) ?_ | refine newP_mk ?_ | refine optP_mk ?_ | with_reducible first | refine condP_t ?_ | refine condP_f ?_ | refine ifP_tt' ?_ | refine ifP_ff' ?_ | refine ifP_tf' ?_ | refine ifP_ft' ?_ | refine ifP_u' ?_ | refine optP_mk0 ?_))
        refine bindP_mk (store1_own (l := (posL x.p[k] nv').set 5 (.int .i64 (2 + ((dd.2 % 4095 : Nat) : Int)))) g4 (by show 4 < 9; omega) rfl rfl) ?_
        refine hj5 _ _ _ (by omega) ((hf4.mono (by omega)).upd (Nat.le_refl _) (by omega)) (fun i o hi hn => by rw [T.get_upd_ne _ _ hn]; exact hkk i o hi hn) (by rw [T.get_upd_same, hsb]; rfl) ?_ e5 e6 e7 rfl e24 e25 e26
        exact e1
      · have hsb : setB k l x.p[k] = x.p[k] := by
          unfold setB
          rw [if_pos u1, List.getElem?_eq_none (by omega)]
        (repeat (first | refine bindP_mk (by simp (disch := first | omega | exact Int.natCast_nonneg _ | assumption) only [BB, B2, ↓reduceIte, Nat.reduceLeDiff, Nat.reduceAdd, CC] <;> rfl) ?_ | refine newP_mk ?_ | refine optP_mk ?_ | with_reducible first | refine condP_t ?_ | refine condP_f ?_ | refine ifP_tt' ?_ | refine ifP_ff' ?_ | refine ifP_tf' ?_ | refine ifP_ft' ?_ | refine ifP_u' ?_ | refine optP_mk0 ?_))
        exact hj5 _ _ _ (by omega) (hf3.mono (by omega)) (fun i o hi _ => hi) (by rw [hsb]; exact g3) e1 e5 e6 e7 rfl e24 e25 e26
    · have hsb : setB k l x.p[k] = x.p[k] := by unfold setB; rw [if_neg (by omega)]
      (repeat (first | refine bindP_mk (by simp (disch := first | omega | exact Int.natCast_nonneg _ | assumption) only [BB, B2, ↓reduceIte, Nat.reduceLeDiff, Nat.reduceAdd, CC] <;> rfl) ?_ | refine newP_mk ?_ | refine optP_mk ?_ | with_reducible first | refine condP_t ?_ | refine condP_f ?_ | refine ifP_tt' ?_ | refine ifP_ff' ?_ | refine ifP_tf' ?_ | refine ifP_ft' ?_ | refine ifP_u' ?_ | refine optP_mk0 ?_))
      exact hj5 _ _ _ (by omega) (hf3.mono (by omega)) (fun i o hi _ => hi) (by rw [hsb]; exact g3) e1 e5 e6 e7 rfl e24 e25 e26
  · have hkl : k = x.p.length := by omega
    subst hkl
    rw [List.take_length] at hrd
    refine condP_f (hx _ _ _ _ (fun e => by cases e) ?_)
    refine hQ _ _ _ pv (by omega) (hf'.mono (by omega)) hkp gy' hpv.ok ⟨cs, hpv.sl, by rw [boundsP_len]; exact hcl, fun i y d hy hd => RPos.sub hsub _ _ (hrd i y d hy hd)⟩ e5 e6 e7
end
end V
end Go.Proofs.Ytmmdcdjkmakgpaa
