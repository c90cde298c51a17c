/- AutoPlain: whatever the input, true.
   No condition. -/
import Derived.Test.YtmmdcdjkmakgpaaED
import Derived.Test.YtmmdcdjkmakgpaaGP
import Derived.Test.YtmmdcdjkmakgpaaEF
set_option linter.unusedVariables false
set_option linter.unusedSimpArgs false
namespace Go.Proofs.Ytmmdcdjkmakgpaa
namespace V
open PA
attribute [local irreducible] bindP ifP condP newP optP exP beqP
theorem word_bit (m b : Nat) : (decide (((Nat.land ((word m (b / 64) / 2 ^ (b % 64) : Nat) : Int).toNat (1 : Int).toNat : Nat) : Int) = 1)) = m.testBit b := by
  have h9 := word_has m b
  have h8 : Nat.land (word m (b / 64) / 2 ^ (b % 64)) 1 = word m (b / 64) / 2 ^ (b % 64) % 2 := Nat.and_one_is_mod _
  rw [Int.toNat_natCast, show (1 : Int).toNat = 1 from rfl, h8]
  cases hm : m.testBit b with
  | true => rw [hm] at h9; have := h9.2 rfl; rw [this]; rfl
  | false =>
    rw [hm] at h9
    have : ¬ (word m (b / 64) / 2 ^ (b % 64) % 2 = 1) := fun e => by have := h9.1 e; cases this
    apply decide_eq_false; omega
theorem word_bit2 (m b : Nat) : (decide (((Nat.land (word m (b / 64) / 2 ^ (b % 64)) (Int.toNat 1) : Nat) : Int) = 1)) = m.testBit b := word_bit m b
theorem SlR.slice {D : Type} {ro : Ro} {h : T Obj} {v : Value} {z : Nat} {R : List Value → D → Prop} {l : List D} (hv : SlR ro h v z R l) (hl : 0 < l.length) : ∃ a n c, v = .slice (some a) n c := by
  obtain ⟨cs, h1, h2, h3⟩ := hv
  rcases h1 with ⟨rfl, rfl⟩ | ⟨a, cap, rfl, _⟩
  · simp at h2; omega
  · exact ⟨_, _, _, rfl⟩
theorem elPtrK_fwd {v : Value} {z i k j : Nat} (hs : ∃ a n c, v = .slice (some a) n c) : fwdP j (elPtrK z v i k) = some (elPtrK z v i (k + j)) := by
  obtain ⟨a, n, c, rfl⟩ := hs
  simp only [fwdP, elPtrK, asP, Option.bind, elt_elt, Nat.add_assoc]
section
variable {ro : Ro} {x : GlD} {av bv w : Value}
set_option maxRecDepth 8000 in
set_option maxHeartbeats 1000000 in
/-- The places, none of which is counted. -/
theorem plain_L3_c {e : Env} {yid : Nat} {v1 : Value} (hxl : x.p.length ≤ 40) {h : T Obj} {nx : Nat} {Q : KE} (hf : Fr h nx) (hb : SlR ro (del h [yid]) bv 9 (RPos ro (del h [yid])) x.p) (gy : h.get yid = some (.cells [av, nilS].toArray y_api_Glush))
    (e1 : e 1 = v1) (e5 : e 5 = .bool true) (e6 : e 6 = ptr yid) (e24 : e 24 = bv) (e25 : e 25 = .int .i64 x.p.length) (e26 : e 26 = .int .i64 0)
    (hQ : ∀ e' h' nx' pv, nx ≤ nx' → Fr h' nx' → Keep [yid] h h' → h'.get yid = some (.cells [av, pv].toArray y_api_Glush) → cellOk pv = true → SlR ro h' pv 9 (RPos ro h') (x.p.map oneP) → e' 1 = v1 → e' 5 = .bool true → e' 6 = ptr yid → Q (.exit 0) e' h' nx') :
    loopP (law11_AutoPlain_L3 ro) e h nx Q := by
  have hyl := hf.lt' gy
  refine loopP_rule (fun j e h' nx' => ∃ (k : Nat) (pv : Value) (cs : List (List Value)), k + j = x.p.length ∧ nx ≤ nx' ∧ Fr h' nx' ∧ Keep [yid] h h' ∧ h'.get yid = some (.cells [av, pv].toArray y_api_Glush) ∧ OwnT h' pv 9 y_api_Pos cs nx ∧ cs.length = k ∧ (∀ (i : Nat) y d, cs[i]? = some y → ((x.p.take k).map oneP)[i]? = some d → RPos ro (del h [yid]) y d) ∧
    e 1 = v1 ∧ e 5 = .bool true ∧ e 6 = ptr yid ∧ e 24 = bv ∧ e 25 = .int .i64 x.p.length ∧ e 26 = .int .i64 k) ?_ (n := x.p.length)
    ⟨0, nilS, [], by omega, by omega, hf, (Sub.refl h).keepL, gy, OwnT.nil, rfl, fun i y d hy => by simp at hy, e1, e5, e6, e24, e25, e26⟩
  rintro j e h' nx' ⟨k, pv, cs, hj, hnx, hf', hkp, gy', hpv, hcl, hrd, e1, e5, e6, e24, e25, e26⟩ Q' hq hx
  have hsub : Sub (del h [yid]) h' := hkp.delS fun _ h => h
  have hb' := hb.sub hsub (RPos.sub hsub)
  unfold law11_AutoPlain_L3
  rw [e6, e24, e25, e26]
  refine lss_s (fun hk => ?_) (fun hk => ?_)
  · have hk : k < x.p.length := by omega
    obtain ⟨y, ⟨nv, rfl, z1, z2⟩, y2, y3, y4, y5⟩ := hb'.at hk
    obtain ⟨y', ⟨nv', p1, p2, p3⟩, p4, p5, p6, p7⟩ := hb.at hk
    have hnv : nv' = nv := by
      have a1 := loadA_sub hsub p5
      rw [y3, p1] at a1
      have a2 := Option.some.inj a1
      simp only [Value.agg.injEq] at a2
      have a3 := congrArg Array.toList a2
      simp [posL, setL] at a3
      exact a3.symm
    subst hnv
    have htk : (x.p.take (k + 1)).map oneP = (x.p.take k).map oneP ++ [oneP x.p[k]] := by
      rw [List.take_succ_eq_append_getElem hk, List.map_append]; rfl
    have hlk : ((x.p.take k).map oneP).length = k := by rw [List.length_map, List.length_take]; omega
    have hnk := z1.ok
    refine condP_t (bindP_mk (hb'.ix _ hk) (bindP_mk y3 ?_))
    refine local_mk zer_PosZ rfl (x := posL x.p[k] nv') rfl rfl (posL_ok hnk) hf' (show nx' ≤ nx' + 3 by omega) fun h3 hs3 hf3 g3 hne3 => ?_
    have gy3 := hs3 _ _ gy'
    refine bindP_mk (a := at_ (nx' + 3) 4 0) rfl (bindP_mk (store1_own (l := posL x.p[k] nv') g3 (by show 4 < 9; omega) rfl rfl) ?_)
    refine bindP_mk (a := at_ (nx' + 3) 5 0) rfl (bindP_mk (store1_own (l := (posL x.p[k] nv').set 4 (.int .i64 1)) (T.get_upd_same _ _ _) (by show 5 < 9; omega) rfl rfl) ?_)
    have g4 : (((h3.upd (nx' + 3) (some (.cells ((posL x.p[k] nv').set 4 (.int .i64 1)).toArray y_api_Pos))).upd (nx' + 3) (some (.cells (((posL x.p[k] nv').set 4 (.int .i64 1)).set 5 (.int .i64 1)).toArray y_api_Pos)))).get (nx' + 3) = some (.cells (posL (oneP x.p[k]) nv').toArray y_api_Pos) := T.get_upd_same _ _ _
    have hk4 : ∀ i o, h3.get i = some o → i ≠ nx' + 3 → (((h3.upd (nx' + 3) (some (.cells ((posL x.p[k] nv').set 4 (.int .i64 1)).toArray y_api_Pos))).upd (nx' + 3) (some (.cells (((posL x.p[k] nv').set 4 (.int .i64 1)).set 5 (.int .i64 1)).toArray y_api_Pos)))).get i = some o := fun i o hi hn => by rw [T.get_upd_ne _ _ hn, T.get_upd_ne _ _ hn]; exact hi
    have hf4 : Fr (((h3.upd (nx' + 3) (some (.cells ((posL x.p[k] nv').set 4 (.int .i64 1)).toArray y_api_Pos))).upd (nx' + 3) (some (.cells (((posL x.p[k] nv').set 4 (.int .i64 1)).set 5 (.int .i64 1)).toArray y_api_Pos)))) (nx' + 3 + 1) := (hf3.upd (Nat.le_refl _) (by omega)).upd (Nat.le_refl _) (by omega)
    generalize ((h3.upd (nx' + 3) (some (.cells ((posL x.p[k] nv').set 4 (.int .i64 1)).toArray y_api_Pos))).upd (nx' + 3) (some (.cells (((posL x.p[k] nv').set 4 (.int .i64 1)).set 5 (.int .i64 1)).toArray y_api_Pos))) = h4 at g4 hk4 hf4
    have gy4 := hk4 _ _ gy3 (by omega)
    have b1 : ([av, pv] : List Value)[1]? = some pv := rfl
    (repeat (first | refine bindP_mk (by simp (disch := first | omega | exact Int.natCast_nonneg _ | assumption) only [BB, B2, ↓reduceIte, Nat.reduceLeDiff, Nat.reduceAdd, CC, gy4, b1] <;> rfl) ?_ | refine newP_mk ?_ | refine optP_mk ?_ | with_reducible first | refine condP_t ?_ | refine condP_f ?_ | refine ifP_tt' ?_ | refine ifP_ff' ?_ | refine ifP_tf' ?_ | refine ifP_ft' ?_ | refine ifP_u' ?_ | refine optP_mk0 ?_))
    refine bindP_mk (loadA_all (l := posL (oneP x.p[k]) nv') g4 rfl) ?_
    have hpv4 : OwnT h4 pv 9 y_api_Pos cs nx := by
      rcases hpv with hpv | ⟨id, o1, rfl, o4, o5⟩
      · exact .inl hpv
      · exact .inr ⟨id, o1, rfl, o4, hk4 _ _ (hs3 _ _ o5) (by have := hf'.lt' o5; omega)⟩
    refine app_Pos hnk hpv4 (by omega) (hf4.mono (show nx' + 3 + 1 ≤ nx' + 12 by omega)) (by omega) (by omega) (by omega) fun h5 w5 q1 q2 q3 => ?_
    dsimp only
    have hwk := q1.ok
    have gy5 := q2 _ _ gy4 (hpv4.neB gy4 (by intro c f e; simp only [Obj.cells.injEq] at e; exact absurd e.2.1 (by decide)))
    refine bindP_mk (a := at_ yid 1 0) rfl (bindP_mk (store1_own (l := [av, pv]) gy5 (by show 1 < 2; omega) hwk (cells_of_ok hwk)) ?_)
    (repeat (first | refine bindP_mk (by simp (disch := first | omega | exact Int.natCast_nonneg _ | assumption) only [BB, B2, ↓reduceIte, Nat.reduceLeDiff, Nat.reduceAdd, CC] <;> rfl) ?_ | refine newP_mk ?_ | refine optP_mk ?_ | with_reducible first | refine condP_t ?_ | refine condP_f ?_ | refine ifP_tt' ?_ | refine ifP_ff' ?_ | refine ifP_tf' ?_ | refine ifP_ft' ?_ | refine ifP_u' ?_ | refine optP_mk0 ?_))
    refine hq (j - 1) _ _ _ _ (by omega) ⟨k + 1, w5, cs ++ [posL (oneP x.p[k]) nv'], by omega, by omega, (q3.mono (show _ ≤ nx' + 14 + 1 + 4 by omega)).upd (Nat.le_refl _) (by omega), ?_, by rw [T.get_upd_same]; rfl, q1.updNe gy5 (by decide), by simp [hcl], ?_, e1, e5, e6, e24, e25, rfl⟩ (Sub.refl _)
    · refine Keep.upd (fun i o hi hn => ?_) (by simp)
      have hil := hf.lt' hi
      refine q2 i o (hk4 _ _ (hs3 _ _ (hkp i o hi hn)) (by omega)) fun e => ?_
      have := (hpv4.blk e).1
      omega
    · intro i y9 d hy hd
      rw [htk] at hd
      rcases Nat.lt_or_ge i k with hik | hik
      · rw [List.getElem?_append_left (by omega)] at hy hd
        exact hrd i y9 d hy hd
      · rw [List.getElem?_append_right (by omega)] at hy hd
        rw [hcl] at hy
        rw [hlk] at hd
        generalize i - k = q at hy hd
        cases q with
        | succ q => simp at hy
        | zero =>
          simp at hy hd
          subst hy; subst hd
          exact ⟨nv', rfl, p2, p3⟩
  · have hkl : k = x.p.length := by omega
    subst hkl
    rw [List.take_length] at hrd
    refine condP_f (hx _ _ _ _ (fun e => by cases e) ?_)
    refine hQ _ _ _ pv (by omega) (hf'.mono (by omega)) hkp gy' hpv.ok ⟨cs, hpv.sl, by rw [List.length_map]; exact hcl, fun i y d hy hd => RPos.sub hsub _ _ (hrd i y d hy hd)⟩ e1 e5 e6
set_option maxRecDepth 8000 in
set_option maxHeartbeats 1000000 in
/-- Each state has one code. -/
theorem plain_L2_c {e : Env} {d : AutoD} {aid : Nat} {cv sv v1 v6 : Value} (hc : d.c.length = 256) (hsl : d.states.length ≤ 256) (hst : ∀ s ∈ d.states, s.r = [] ∧ s.rule.length = 1 ∧ s.next.length = 1 ∧ ∀ row, s.next[0]? = some row → (row.length : Int) = d.many) {h : T Obj} {nx : Nat} {Q : KE} (hf : Fr h nx)
    (ga : h.get aid = some (.cells (autL d.c d.many cv sv).toArray y_api_Auto)) (hsv : SlR ro h sv 4 (RState ro h) d.states) (e1 : e 1 = v1) (e5 : e 5 = .bool true) (e6 : e 6 = v6) (e9 : e 9 = ptr aid) (e48 : e 48 = sv) (e49 : e 49 = .int .i64 d.states.length) (e50 : e 50 = .int .i64 0)
    (hQ : ∀ e' h' nx', nx ≤ nx' → Fr h' nx' → Sub h h' → e' 1 = v1 → e' 5 = .bool true → e' 6 = v6 → e' 9 = ptr aid → Q (.exit 2) e' h' nx') :
    loopP (law11_AutoPlain_L2 ro) e h nx Q := by
  refine loopP_rule (fun j e h' nx' => ∃ (k : Nat), k + j = d.states.length ∧ nx ≤ nx' ∧ Fr h' nx' ∧ Sub h h' ∧ e 1 = v1 ∧ e 5 = .bool true ∧ e 6 = v6 ∧ e 9 = ptr aid ∧ e 48 = sv ∧ e 49 = .int .i64 d.states.length ∧ e 50 = .int .i64 k) ?_ (n := d.states.length) ⟨0, by omega, by omega, hf, Sub.refl _, e1, e5, e6, e9, e48, e49, e50⟩
  rintro j e h' nx' ⟨k, hj, hnx, hf', hs, e1, e5, e6, e9, e48, e49, e50⟩ Q' hq hx
  unfold law11_AutoPlain_L2
  rw [e9, e48, e49, e50]
  have hsv' := hsv.sub hs (RState.sub hs)
  refine lss_s (fun hk => ?_) (fun hk => ?_)
  · have hk : k < d.states.length := by omega
    obtain ⟨t1, t2, t3, t4⟩ := hst _ (List.getElem_mem hk)
    obtain ⟨x, ⟨lv, rv, uv, nv, rfl, x1, x2, x3, x4, x5⟩, y2, y3, y4, y5⟩ := hsv'.at hk
    generalize d.states[k] = s at t1 t2 t3 t4 x1 x2 x3 x4 x5
    have k1 := x1.ok
    have k2 := x2.ok
    have k3 := x3.ok
    have k4 : cellOk nv = true := by obtain ⟨cs, h1, _⟩ := x4; exact h1.ok
    refine condP_t (bindP_mk (hsv'.ix _ hk) (bindP_mk y3 ?_))
    refine local_mk zer_State rfl (x := [lv, rv, uv, nv]) rfl rfl (by simp only [List.all_cons, List.all_nil, k1, k2, k3, k4]; rfl) hf' (show nx' ≤ nx' + 3 by omega) fun h3 hs3 hf3 g3 _ => ?_
    have n1 := (x2.sub hs3).len
    have n2 := (x3.sub hs3).len
    have x4' := x4.sub hs3 (RRow.sub hs3)
    have n3 := x4'.len
    rw [t1] at n1
    rw [t2] at n2
    rw [t3] at n3
    have hn0 : (([] : List Int).length : Int) = 0 := rfl
    rw [hn0] at n1
    have hn1 : ((1 : Nat) : Int) = 1 := rfl
    rw [hn1] at n2 n3
    obtain ⟨w, ⟨w', r1, r2, r3⟩, r4⟩ := x4'.at1 (i := 0) (by omega)
    simp only [List.cons.injEq, and_true] at r1
    subst r1
    have i0 := x4'.ix .i64 (i := 0) (by omega)
    have hz0 : ((0 : Nat) : Int) = 0 := rfl
    rw [hz0] at i0
    have hrow := t4 _ (List.getElem?_eq_getElem (show 0 < s.next.length by omega))
    have n4 := r2.len
    rw [hrow] at n4
    have ga3 := hs3 _ _ (hs _ _ ga)
    have am := autL_many (n := d.many) (cv := cv) (sv := sv) hc
    have b1 : ([lv, rv, uv, nv] : List Value)[1]? = some rv := rfl
    have b2 : ([lv, rv, uv, nv] : List Value)[2]? = some uv := rfl
    have b3 : ([lv, rv, uv, nv] : List Value)[3]? = some nv := rfl
    (repeat (first | refine bindP_mk (by simp (disch := first | omega | exact Int.natCast_nonneg _ | assumption) only [BB, B2, ↓reduceIte, Nat.reduceLeDiff, Nat.reduceAdd, CC, g3, b1, b2, b3, n1, n2, n3, i0, r4, n4, ga3, am] <;> rfl) ?_ | refine newP_mk ?_ | refine optP_mk ?_ | with_reducible first | refine condP_t ?_ | refine condP_f ?_ | refine ifP_tt' ?_ | refine ifP_ff' ?_ | refine ifP_tf' ?_ | refine ifP_ft' ?_ | refine ifP_u' ?_ | refine optP_mk0 ?_))
    exact hq (j - 1) _ _ _ _ (by omega) ⟨k + 1, by omega, by omega, hf3.mono (by omega), hs.trans hs3, e1, e5, e6, e9, e48, e49, rfl⟩ (Sub.refl _)
  · refine condP_f (hx _ _ _ _ (fun e => by cases e) ?_)
    exact hQ _ _ _ (by omega) (hf'.mono (by omega)) hs e1 e5 e6 e9
set_option maxRecDepth 8000 in
set_option maxHeartbeats 1000000 in
/-- Does some first place take the byte? -/
theorem plain_L1_c {e : Env} {yid : Nat} {v9 pv : Value} {g : GlD} {b : Nat} (hb : b < 256) (hfr : rz (-1) g.p.length g.first = true) (hgl : g.p.length ≤ 512) {h : T Obj} {nx : Nat} {Q : KE} (hf : Fr h nx)
    (gy : h.get yid = some (.cells [av, pv].toArray y_api_Glush)) (ha : ZI ro h av g.first) (hp : SlR ro h pv 9 (RPos ro h) g.p) (e1 : e 1 = .int .u8 (b : Int)) (e5 : e 5 = .bool true) (e6 : e 6 = ptr yid) (e9 : e 9 = v9) (e13 : e 13 = .bool false) (e83 : e 83 = av) (e84 : e 84 = .int .i64 g.first.length) (e85 : e 85 = .int .i64 0)
    (hQ : ∀ e' nx', nx ≤ nx' → e' 1 = .int .u8 (b : Int) → e' 5 = .bool true → e' 9 = v9 → e' 13 = .bool (g.first.any fun q => (g.at q).s.testBit b) → Q (.exit 4) e' h nx') :
    loopP (law11_AutoPlain_L1 ro) e h nx Q := by
  have hfl := rz_lenN hfr (by omega)
  refine loopP_rule (fun j e h' nx' => ∃ (k : Nat), k + j = g.first.length ∧ nx ≤ nx' ∧ h' = h ∧ e 1 = .int .u8 (b : Int) ∧ e 5 = .bool true ∧ e 6 = ptr yid ∧ e 9 = v9 ∧ e 13 = .bool ((g.first.take k).any fun q => (g.at q).s.testBit b) ∧ e 83 = av ∧ e 84 = .int .i64 g.first.length ∧ e 85 = .int .i64 k) ?_ (n := g.first.length) ⟨0, by omega, by omega, rfl, e1, e5, e6, e9, e13, e83, e84, e85⟩
  rintro j e h' nx' ⟨k, hj, hnx, rfl, e1, e5, e6, e9, e13, e83, e84, e85⟩ Q' hq hx
  unfold law11_AutoPlain_L1
  rw [e1, e6, e13, e83, e84, e85]
  refine lss_s (fun hk => ?_) (fun hk => ?_)
  · have hk : k < g.first.length := by omega
    have hxm := rz_mem hfr _ (List.getElem_mem hk)
    have hld := ha.load hk
    have hany : (g.first.take (k + 1)).any (fun q => (g.at q).s.testBit b) = ((g.first.take k).any (fun q => (g.at q).s.testBit b) || (g.at g.first[k]).s.testBit b) := by
      rw [List.take_succ_eq_append_getElem hk, List.any_append]; simp
    generalize g.first[k] = q at hxm hld hany
    refine condP_t (bindP_mk (ha.ix _ hk) (bindP_mk hld ?_))
    have hql : q.toNat < g.p.length := by omega
    have hgq : g.at q = g.p[q.toNat] := by
      unfold GlD.at
      rw [List.getD_eq_getElem?_getD, List.getElem?_eq_getElem hql]; rfl
    obtain ⟨y, ⟨nv, rfl, z1, z2⟩, y2, y3, y4, y5⟩ := hp.at hql
    rw [← hgq] at y5
    have hbl : b / 64 < 4 := by omega
    have w0 := setL_get (m := (g.at q).s) hbl
    have w1 : (posL (g.at q) nv)[b / 64]? = some (.int .u64 (word (g.at q).s (b / 64))) := by
      unfold posL
      rw [List.getElem?_append_left (by show b / 64 < 4; omega)]; exact w0
    have l1 := y5 (b / 64) _ w1
    have hsl := hp.slice (by omega)
    have hix := hp.ixI .i64 (i := q) (by omega) (by omega)
    have b1 : ([av, pv] : List Value)[1]? = some pv := rfl
    have c64 : ((b : Int) / 64) = ((b / 64 : Nat) : Int) := by omega
    have r64 : ((b : Int) % 64) = ((b % 64 : Nat) : Int) := by omega
    have i4 := ixArr_fwd (n := 4) (j := b / 64) (k := .u8) (elPtrK_fwd (z := 9) (i := q.toNat) (k := 0) (j := b / 64) hsl) hbl
    rw [Nat.zero_add] at i4
    have fin : ∀ (e' : Env) n' (t : Bool), nx' ≤ n' → t = ((g.first.take (k + 1)).any fun q => (g.at q).s.testBit b) → e' 1 = .int .u8 (b : Int) → e' 5 = .bool true → e' 6 = ptr yid → e' 9 = v9 → e' 13 = .bool t → e' 83 = av → e' 84 = .int .i64 g.first.length → e' 85 = .int .i64 ((k : Int) + 1) → Q' .normal e' h' n' := by
      intro e' n' t hn' ht f1 f5 f6 f9 f13 f83 f84 f85
      exact hq (j - 1) _ _ _ _ (by omega) ⟨k + 1, by omega, by omega, rfl, f1, f5, f6, f9, by rw [← ht]; exact f13, f83, f84, f85⟩ (Sub.refl _)
    cases hc : (g.first.take k).any (fun q => (g.at q).s.testBit b) with
    | true =>
      rw [hc, Bool.true_or] at hany
      (repeat (first | refine bindP_mk (by simp (disch := first | omega | exact Int.natCast_nonneg _ | assumption) only [BB, B2, ↓reduceIte, Nat.reduceLeDiff, Nat.reduceAdd, CC] <;> rfl) ?_ | refine newP_mk ?_ | refine optP_mk ?_ | with_reducible first | refine condP_t ?_ | refine condP_f ?_ | refine ifP_tt' ?_ | refine ifP_ff' ?_ | refine ifP_tf' ?_ | refine ifP_ft' ?_ | refine ifP_u' ?_ | refine optP_mk0 ?_))
      exact fin _ _ true (by omega) hany.symm e1 e5 e6 e9 rfl e83 e84 rfl
    | false =>
      rw [hc, Bool.false_or] at hany
      have h3 := word_lt (g.at q).s (b / 64)
      have hsh := intB_shr_u64 (k' := .u8) (word (g.at q).s (b / 64)) (b := ((b % 64 : Nat) : Int)) (by omega) (by omega)
      rw [Int.toNat_natCast] at hsh
      have h6 : word (g.at q).s (b / 64) / 2 ^ (b % 64) ≤ word (g.at q).s (b / 64) := Nat.div_le_self _ _
      have h7 : ((word (g.at q).s (b / 64) / 2 ^ (b % 64) : Nat) : Int) ≤ 18446744073709551615 := cast_le (Nat.lt_of_le_of_lt h6 h3)
      have hand := intB_and64 (a := ((word (g.at q).s (b / 64) / 2 ^ (b % 64) : Nat) : Int)) (b := 1) (Int.natCast_nonneg _) (by omega) h7 (by omega)
      have hfd := y4 0
      have hwq : wr .u8 ((b / 64 : Nat) : Int) = ((b / 64 : Nat) : Int) := wr_u8 (by omega) (by omega)
      (repeat (first | refine bindP_mk (by simp (disch := first | omega | exact Int.natCast_nonneg _ | assumption) only [BB, B2, ↓reduceIte, Nat.reduceLeDiff, Nat.reduceAdd, CC, gy, b1, c64, r64, hix, hfd, hwq, i4, l1, hsh, hand] <;> rfl) ?_ | refine newP_mk ?_ | refine optP_mk ?_ | with_reducible first | refine condP_t ?_ | refine condP_f ?_ | refine ifP_tt' ?_ | refine ifP_ff' ?_ | refine ifP_tf' ?_ | refine ifP_ft' ?_ | refine ifP_u' ?_ | refine optP_mk0 ?_))
      refine bindP_mk (intB_eql _ _ _) ?_
      rw [word_bit2]
      (repeat (first | refine bindP_mk (by simp (disch := first | omega | exact Int.natCast_nonneg _ | assumption) only [BB, B2, ↓reduceIte, Nat.reduceLeDiff, Nat.reduceAdd, CC] <;> rfl) ?_ | refine newP_mk ?_ | refine optP_mk ?_ | with_reducible first | refine condP_t ?_ | refine condP_f ?_ | refine ifP_tt' ?_ | refine ifP_ff' ?_ | refine ifP_tf' ?_ | refine ifP_ft' ?_ | refine ifP_u' ?_ | refine optP_mk0 ?_))
      exact fin _ _ _ (by omega) hany.symm e1 e5 e6 e9 rfl e83 e84 rfl
  · have hkl : k = g.first.length := by omega
    subst hkl
    rw [List.take_length] at e13
    refine condP_f (hx _ _ _ _ (fun e => by cases e) ?_)
    exact hQ _ _ (by omega) e1 e5 e9 e13
end
end V
end Go.Proofs.Ytmmdcdjkmakgpaa
