/- What few, and the reference's Same and SameStates (of like automata), hand back.
   No condition. -/
import Derived.Test.YtmmdcdjkmakgpaaBD
import Derived.Test.YtmmdcdjkmakgpaaBG
set_option linter.unusedVariables false
set_option linter.unusedSimpArgs false
namespace Go.Proofs.Ytmmdcdjkmakgpaa
namespace V
open PA
attribute [local irreducible] bindP ifP condP newP optP exP beqP
def fewD (g : GlD) : GlD := if 40 < g.p.length then ⟨[], []⟩ else g
theorem fewD_len (g : GlD) : (fewD g).p.length ≤ 40 := by
  unfold fewD
  split
  · exact Nat.zero_le _
  · omega
theorem zer_Gl : zer Try.prog y_api_Glush = some (.agg #[nilS, nilS]) := by kernel_rfl
theorem build_Gl0 : buildV Try.prog y_api_Glush [] = some (.agg #[nilS, nilS]) := by kernel_rfl
set_option maxRecDepth 4000 in
theorem law11_few_c {ro : Ro} {v : Value} {g : GlD} {h : T Obj} {nx : Nat} {K : KV} (hf : Fr h nx) (hg : RG ro h v g) (hK : ∀ nx' v', nx ≤ nx' → RG ro h v' (fewD g) → K v' h nx') : callP Try.prog ro i_law11_few [v] h nx K := by
  obtain ⟨a, b, rfl, ha, hb⟩ := hg
  apply law11_few_of
  unfold law11_few
  refine param_mk hf (Nat.le_refl _) fun h1 hs1 hf1 g1 _ => ?_
  have g1 : h1.get nx = some (.cells [a, b].toArray y_api_Glush) := g1
  refine bindP_mk zer_Gl (obj_mk hf1 (Nat.le_refl _) fun h2 hs2 hf2 g2 _ => ?_)
  have g2 : h2.get (nx + 1) = some (.cells [nilS, nilS].toArray y_api_Glush) := g2
  have g1 := hs2 _ _ g1
  have hs := hs1.trans hs2
  have hbl := (hb.sub hs (RPos.sub hs)).len
  have e1 : ([a, b] : List Value)[1]? = some b := rfl
  have hak := ha.ok
  have hbk : cellOk b = true := by obtain ⟨cs, h1, _⟩ := hb; exact h1.ok
  (repeat (first | refine bindP_mk (by simp (disch := first | omega | exact Int.natCast_nonneg _ | assumption) only [BB, B2, ↓reduceIte, Nat.reduceLeDiff, Nat.reduceAdd, CC, g1, e1, hbl] <;> rfl) ?_ | refine newP_mk ?_ | refine optP_mk ?_ | with_reducible first | refine condP_t ?_ | refine condP_f ?_ | refine ifP_tt' ?_ | refine ifP_ff' ?_ | refine ifP_tf' ?_ | refine ifP_ft' ?_ | refine ifP_u' ?_ | refine optP_mk0 ?_))
  refine gtr_s (fun u => ?_) (fun u => ?_)
  · refine condP_t (bindP_mk build_Gl0 ?_)
    refine bindP_mk (storeA_own (l := [nilS, nilS]) (vs := [nilS, nilS]) g2 rfl rfl rfl rfl) ?_
    refine bindP_mk (loadA_all (l := [nilS, nilS]) (by rw [T.get_upd_same]) rfl) ?_
    refine ⟨h, hs.new hf (by omega), hK _ _ (by omega) ⟨nilS, nilS, rfl, ?_, ?_⟩⟩
    · unfold fewD; rw [if_pos (by omega)]; exact Sl.nil
    · unfold fewD; rw [if_pos (by omega)]; exact SlR.nil
  · refine condP_f (bindP_mk (loadA_all (l := [a, b]) g1 rfl) ?_)
    refine bindP_mk (storeA_own (l := [nilS, nilS]) (vs := [a, b]) g2 rfl rfl rfl (by simp [hak, hbk])) ?_
    refine bindP_mk (loadA_all (l := [a, b]) (by rw [T.get_upd_same]) rfl) ?_
    refine ⟨h, hs.new hf (by omega), hK _ _ (by omega) ⟨a, b, rfl, ?_, ?_⟩⟩
    · unfold fewD; rw [if_neg (by omega)]; exact ha
    · unfold fewD; rw [if_neg (by omega)]; exact hb
/-! ### Alike -/
theorem ref11_ints_c {ro : Ro} {v w : Value} {l : List Int} (hl : l.length ≤ 1000000) {h : T Obj} {nx : Nat} {K : KV} (hv : ZI ro h v l) (hw : ZI ro h w l) (hK : ∀ nx', nx ≤ nx' → K (.bool true) h nx') : callP Try.prog ro i_ref11_ints [v, w] h nx K := by
  apply ref11_ints_of
  unfold ref11_ints
  refine bindP_mk hv.len (bindP_mk hw.len ?_)
  refine neq_f rfl (condP_f ?_)
  refine loopP_rule (fun j e h' nx' => ∃ (k : Nat), k + j = l.length ∧ nx ≤ nx' ∧ h' = h ∧ e 0 = v ∧ e 1 = w ∧ e 5 = .int .i64 k) ?_ (n := l.length) ⟨0, by omega, by omega, rfl, rfl, rfl, rfl⟩
  rintro j e h' nx' ⟨k, hj, hnx, rfl, e0, e1, e5⟩ Q' hq hx
  unfold ref11_ints_L1
  rw [e0, e1, e5]
  refine bindP_mk hv.len ?_
  refine lss_s (fun hk => ?_) (fun hk => ?_)
  · have hk : k < l.length := by omega
    refine condP_t (bindP_mk (hv.ix _ hk) (bindP_mk (hv.load hk) (bindP_mk (hw.ix _ hk) (bindP_mk (hw.load hk) ?_))))
    refine neq_f rfl (condP_f ?_)
    (repeat (first | refine bindP_mk (by simp (disch := first | omega | exact Int.natCast_nonneg _ | assumption) only [BB, B2, ↓reduceIte, Nat.reduceLeDiff, Nat.reduceAdd, CC] <;> rfl) ?_ | refine newP_mk ?_ | refine optP_mk ?_ | with_reducible first | refine condP_t ?_ | refine condP_f ?_ | refine ifP_tt' ?_ | refine ifP_ff' ?_ | refine ifP_tf' ?_ | refine ifP_ft' ?_ | refine ifP_u' ?_ | refine optP_mk0 ?_))
    exact hq (j - 1) _ _ _ _ (by omega) ⟨k + 1, by omega, by omega, rfl, e0, e1, rfl⟩ (Sub.refl _)
  · (repeat (first | refine bindP_mk (by simp (disch := first | omega | exact Int.natCast_nonneg _ | assumption) only [BB, B2, ↓reduceIte, Nat.reduceLeDiff, Nat.reduceAdd, CC] <;> rfl) ?_ | refine newP_mk ?_ | refine optP_mk ?_ | with_reducible first | refine condP_t ?_ | refine condP_f ?_ | refine ifP_tt' ?_ | refine ifP_ff' ?_ | refine ifP_tf' ?_ | refine ifP_ft' ?_ | refine ifP_u' ?_ | refine optP_mk0 ?_))
    refine hx _ _ _ _ (fun e => by cases e) (exP_e (beqP_t ?_))
    unfold ref11_ints_j1
    exact ⟨_, Sub.refl _, hK _ (by omega)⟩
theorem flat_u8 : ∀ {cs : List (List Value)} {l : List Nat}, cs.length = l.length → (∀ (i : Nat) x d, cs[i]? = some x → l[i]? = some d → RU8 x d) → cs.flatten = l.map fun b : Nat => Value.int .u8 (b : Int)
  | [], [], _, _ => rfl
  | x :: cs, d :: l, hl, hr => by
    have h0 := hr 0 x d rfl rfl
    have ih := flat_u8 (cs := cs) (l := l) (by simpa using hl) fun i x d hx hd => hr (i + 1) x d (by simpa using hx) (by simpa using hd)
    rw [List.flatten_cons, ih, h0.1]; rfl
  | [], d :: l, hl, _ => by simp at hl
  | x :: cs, [], hl, _ => by simp at hl
theorem bytesV_map : ∀ l : List Nat, bytesV (l.map fun b : Nat => Value.int .u8 (b : Int)) = some (l.map UInt8.ofNat)
  | [] => rfl
  | b :: l => by
    have ih := bytesV_map l
    show (bytesV (l.map fun b : Nat => Value.int .u8 (b : Int))).bind _ = _
    rw [ih]; rfl
theorem conv_R {ro : Ro} {h : T Obj} {aid : Nat} {v : Value} {l : List Nat} (hv : SlR ro h v 1 RU8 l) : convV Try.prog ro h aid y_s_uint8 y_string v = some (injS (l.map UInt8.ofNat), none) := by
  obtain ⟨cs, h1, h2, h3⟩ := hv
  have hu : und Try.prog y_uint8 = some (.int .u8) := by kernel_rfl
  have hfl := flat_u8 h2 h3
  rcases h1 with ⟨rfl, rfl⟩ | ⟨a, cap, rfl, q1, q2, q3, q4⟩
  · have : l = [] := List.eq_nil_iff_length_eq_zero.2 (by simpa using h2.symm)
    subst this
    unfold convV
    simp only [und_u8s', und_S, hu]
    rfl
  · unfold convV
    simp only [und_u8s', und_S, hu]
    rw [Nat.mul_one] at q4
    rw [q4, hfl]
    simp only [Option.bind_some, bytesV_map]
    rfl
theorem strB_self (l : List UInt8) : strB .eql (injS l) (injS l) = some (.bool true) := by
  unfold strB injS strV
  simp
set_option maxRecDepth 8000 in
theorem ref11_sameMove_c {ro : Ro} {x y : List Value} {m : MoveD} {h : T Obj} {nx : Nat} {K : KV} (hf : Fr h nx) (hx : RMove ro h x m) (hy : RMove ro h y m) (hK : ∀ nx', nx ≤ nx' → K (.bool true) h nx') : callP Try.prog ro i_ref11_sameMove [.agg x.toArray, .agg y.toArray] h nx K := by
  obtain ⟨ov, rfl, o1, o2⟩ := hx
  obtain ⟨ow, rfl, p1, p2⟩ := hy
  apply ref11_sameMove_of
  unfold ref11_sameMove
  refine param_mk hf (Nat.le_refl _) fun h1 hs1 hf1 g1 _ => ?_
  have g1 : h1.get nx = some (.cells [.int .i64 m.to, ov].toArray y_api_Move) := g1
  refine param_mk hf1 (Nat.le_refl _) fun h2 hs2 hf2 g2 _ => ?_
  have g2 : h2.get (nx + 1) = some (.cells [.int .i64 m.to, ow].toArray y_api_Move) := g2
  have g1 := hs2 _ _ g1
  have hs := hs1.trans hs2
  have a0 : ([.int .i64 m.to, ov] : List Value)[0]? = some (.int .i64 m.to) := rfl
  have a1 : ([.int .i64 m.to, ov] : List Value)[1]? = some ov := rfl
  have b0 : ([.int .i64 m.to, ow] : List Value)[0]? = some (.int .i64 m.to) := rfl
  have b1 : ([.int .i64 m.to, ow] : List Value)[1]? = some ow := rfl
  have c1 := fun aid => conv_R (ro := ro) (aid := aid) (o1.sub hs fun _ _ h => h)
  have c2 := fun aid => conv_R (ro := ro) (aid := aid) (p1.sub hs fun _ _ h => h)
  (repeat (first | refine bindP_mk (by simp (disch := first | omega | exact Int.natCast_nonneg _ | assumption) only [BB, B2, ↓reduceIte, Nat.reduceLeDiff, Nat.reduceAdd, CC, g1, g2, a0, a1, b0, b1, c1, c2, strB_self] <;> rfl) ?_ | refine newP_mk ?_ | refine optP_mk ?_ | with_reducible first | refine condP_t ?_ | refine condP_f ?_ | refine ifP_tt' ?_ | refine ifP_ff' ?_ | refine ifP_tf' ?_ | refine ifP_ft' ?_ | refine ifP_u' ?_ | refine optP_mk0 ?_))
  exact ⟨h, hs, hK _ (by omega)⟩
set_option maxRecDepth 8000 in
set_option maxHeartbeats 1000000 in
theorem ref11_sameState_c {ro : Ro} {x y : List Value} {s : StateD} (hl1 : s.l.length ≤ 1000000) (hl2 : s.r.length ≤ 1000000) (hl3 : s.rule.length ≤ 1000000) (hl4 : s.next.length ≤ 1000000) (hl5 : ∀ row ∈ s.next, row.length ≤ 1000000) {h : T Obj} {nx : Nat} {K : KV} (hf : Fr h nx) (hx : RState ro h x s) (hy : RState ro h y s)
    (hK : ∀ nx', nx ≤ nx' → K (.bool true) h nx') : callP Try.prog ro i_ref11_sameState [.agg x.toArray, .agg y.toArray] h nx K := by
  obtain ⟨lv, rv, uv, nv, rfl, x1, x2, x3, x4, x5⟩ := hx
  obtain ⟨lw, rw_, uw, nw, rfl, y1, y2, y3, y4, y5⟩ := hy
  apply ref11_sameState_of
  unfold ref11_sameState
  refine param_mk hf (Nat.le_refl _) fun h1 hs1 hf1 g1 _ => ?_
  have g1 : h1.get nx = some (.cells [lv, rv, uv, nv].toArray y_api_State) := g1
  refine param_mk hf1 (Nat.le_refl _) fun h2 hs2 hf2 g2 _ => ?_
  have g2 : h2.get (nx + 1) = some (.cells [lw, rw_, uw, nw].toArray y_api_State) := g2
  have g1 := hs2 _ _ g1
  have hs := hs1.trans hs2
  have a0 : ([lv, rv, uv, nv] : List Value)[0]? = some lv := rfl
  have a1 : ([lv, rv, uv, nv] : List Value)[1]? = some rv := rfl
  have a2 : ([lv, rv, uv, nv] : List Value)[2]? = some uv := rfl
  have a3 : ([lv, rv, uv, nv] : List Value)[3]? = some nv := rfl
  have b0 : ([lw, rw_, uw, nw] : List Value)[0]? = some lw := rfl
  have b1 : ([lw, rw_, uw, nw] : List Value)[1]? = some rw_ := rfl
  have b2 : ([lw, rw_, uw, nw] : List Value)[2]? = some uw := rfl
  have b3 : ([lw, rw_, uw, nw] : List Value)[3]? = some nw := rfl
  have x1 := x1.sub hs
  have x2 := x2.sub hs
  have x3 := x3.sub hs
  have x4 := x4.sub hs (RRow.sub hs)
  have y1 := y1.sub hs
  have y2 := y2.sub hs
  have y3 := y3.sub hs
  have y4 := y4.sub hs (RRow.sub hs)
  have n1 := x4.len
  have n2 := y4.len
  (repeat (first | refine bindP_mk (by simp (disch := first | omega | exact Int.natCast_nonneg _ | assumption) only [BB, B2, ↓reduceIte, Nat.reduceLeDiff, Nat.reduceAdd, CC, g1, g2, a0, b0] <;> rfl) ?_ | refine newP_mk ?_ | refine optP_mk ?_ | with_reducible first | refine condP_t ?_ | refine condP_f ?_ | refine ifP_tt' ?_ | refine ifP_ff' ?_ | refine ifP_tf' ?_ | refine ifP_ft' ?_ | refine ifP_u' ?_ | refine optP_mk0 ?_))
  refine ref11_ints_c hl1 x1 y1 fun n3 hn3 => ?_
  (repeat (first | refine bindP_mk (by simp (disch := first | omega | exact Int.natCast_nonneg _ | assumption) only [BB, B2, ↓reduceIte, Nat.reduceLeDiff, Nat.reduceAdd, CC, g1, g2, a1, b1] <;> rfl) ?_ | refine newP_mk ?_ | refine optP_mk ?_ | with_reducible first | refine condP_t ?_ | refine condP_f ?_ | refine ifP_tt' ?_ | refine ifP_ff' ?_ | refine ifP_tf' ?_ | refine ifP_ft' ?_ | refine ifP_u' ?_ | refine optP_mk0 ?_))
  refine ref11_ints_c hl2 x2 y2 fun n4 hn4 => ?_
  (repeat (first | refine bindP_mk (by simp (disch := first | omega | exact Int.natCast_nonneg _ | assumption) only [BB, B2, ↓reduceIte, Nat.reduceLeDiff, Nat.reduceAdd, CC, g1, g2, a2, b2] <;> rfl) ?_ | refine newP_mk ?_ | refine optP_mk ?_ | with_reducible first | refine condP_t ?_ | refine condP_f ?_ | refine ifP_tt' ?_ | refine ifP_ff' ?_ | refine ifP_tf' ?_ | refine ifP_ft' ?_ | refine ifP_u' ?_ | refine optP_mk0 ?_))
  refine ref11_ints_c hl3 x3 y3 fun n5 hn5 => ?_
  (repeat (first | refine bindP_mk (by simp (disch := first | omega | exact Int.natCast_nonneg _ | assumption) only [BB, B2, ↓reduceIte, Nat.reduceLeDiff, Nat.reduceAdd, CC, g1, g2, a3, b3, n1, n2] <;> rfl) ?_ | refine newP_mk ?_ | refine optP_mk ?_ | with_reducible first | refine condP_t ?_ | refine condP_f ?_ | refine ifP_tt' ?_ | refine ifP_ff' ?_ | refine ifP_tf' ?_ | refine ifP_ft' ?_ | refine ifP_u' ?_ | refine optP_mk0 ?_))
  refine loopP_rule (fun j e h' nx' => ∃ (k : Nat), k + j = s.next.length ∧ n5 ≤ nx' ∧ h' = h2 ∧ e 2 = ptr nx ∧ e 3 = ptr (nx + 1) ∧ e 5 = .int .i64 k) ?_ (n := s.next.length) ⟨0, by omega, by omega, rfl, rfl, rfl, rfl⟩
  rintro j e h' nx' ⟨k, hj, hnx, rfl, e2, e3, e5⟩ Q' hq hx9
  unfold ref11_sameState_L1
  rw [e2, e3, e5]
  (repeat (first | refine bindP_mk (by simp (disch := first | omega | exact Int.natCast_nonneg _ | assumption) only [BB, B2, ↓reduceIte, Nat.reduceLeDiff, Nat.reduceAdd, CC, g1, a3, n1] <;> rfl) ?_ | refine newP_mk ?_ | refine optP_mk ?_ | with_reducible first | refine condP_t ?_ | refine condP_f ?_ | refine ifP_tt' ?_ | refine ifP_ff' ?_ | refine ifP_tf' ?_ | refine ifP_ft' ?_ | refine ifP_u' ?_ | refine optP_mk0 ?_))
  refine lss_s (fun hk => ?_) (fun hk => ?_)
  · have hk : k < s.next.length := by omega
    have hrl := hl5 _ (List.getElem_mem hk)
    obtain ⟨w1, ⟨w1', r1, r2, r3⟩, r4⟩ := x4.at1 hk
    simp only [List.cons.injEq, and_true] at r1
    subst r1
    obtain ⟨w2, ⟨w2', t1, t2, t3⟩, t4⟩ := y4.at1 hk
    simp only [List.cons.injEq, and_true] at t1
    subst t1
    have i1 := x4.ix .i64 hk
    have i2 := y4.ix .i64 hk
    generalize s.next[k] = row at hrl r2 r3 t2 t3
    have m1 := r2.len
    have m2 := t2.len
    (repeat (first | refine bindP_mk (by simp (disch := first | omega | exact Int.natCast_nonneg _ | assumption) only [BB, B2, ↓reduceIte, Nat.reduceLeDiff, Nat.reduceAdd, CC, g1, g2, a3, b3, i1, i2, r4, t4, m1, m2] <;> rfl) ?_ | refine newP_mk ?_ | refine optP_mk ?_ | with_reducible first | refine condP_t ?_ | refine condP_f ?_ | refine ifP_tt' ?_ | refine ifP_ff' ?_ | refine ifP_tf' ?_ | refine ifP_ft' ?_ | refine ifP_u' ?_ | refine optP_mk0 ?_))
    refine loopP_rule (fun j2 e h5 nx2 => ∃ (q : Nat), q + j2 = row.length ∧ nx' ≤ nx2 ∧ h5 = h' ∧ e 2 = ptr nx ∧ e 3 = ptr (nx + 1) ∧ e 5 = .int .i64 k ∧ e 6 = .int .i64 q) ?_ (n := row.length) ⟨0, by omega, by omega, rfl, e2, e3, e5, rfl⟩
    rintro j2 e h5 nx2 ⟨q, hj2, hnx2, rfl, e2, e3, e5, e6⟩ Q2 hq2 hx2
    unfold ref11_sameState_L2
    rw [e2, e3, e5, e6]
    (repeat (first | refine bindP_mk (by simp (disch := first | omega | exact Int.natCast_nonneg _ | assumption) only [BB, B2, ↓reduceIte, Nat.reduceLeDiff, Nat.reduceAdd, CC, g1, a3, i1, r4, m1] <;> rfl) ?_ | refine newP_mk ?_ | refine optP_mk ?_ | with_reducible first | refine condP_t ?_ | refine condP_f ?_ | refine ifP_tt' ?_ | refine ifP_ff' ?_ | refine ifP_tf' ?_ | refine ifP_ft' ?_ | refine ifP_u' ?_ | refine optP_mk0 ?_))
    refine lss_s (fun hq9 => ?_) (fun hq9 => ?_)
    · have hq9 : q < row.length := by omega
      obtain ⟨c1, c2, c3, c4, c5, c6⟩ := r2.at hq9
      obtain ⟨d1, d2, d3, d4, d5, d6⟩ := t2.at hq9
      have i3 := r2.ix .i64 hq9
      have i4 := t2.ix .i64 hq9
      (repeat (first | refine bindP_mk (by simp (disch := first | omega | exact Int.natCast_nonneg _ | assumption) only [BB, B2, ↓reduceIte, Nat.reduceLeDiff, Nat.reduceAdd, CC, g1, g2, a3, b3, i1, i2, r4, t4, i3, i4, c4, d4] <;> rfl) ?_ | refine newP_mk ?_ | refine optP_mk ?_ | with_reducible first | refine condP_t ?_ | refine condP_f ?_ | refine ifP_tt' ?_ | refine ifP_ff' ?_ | refine ifP_tf' ?_ | refine ifP_ft' ?_ | refine ifP_u' ?_ | refine optP_mk0 ?_))
      refine ref11_sameMove_c (hf2.mono (by omega)) c2 d2 fun n6 hn6 => ?_
      (repeat (first | refine bindP_mk (by simp (disch := first | omega | exact Int.natCast_nonneg _ | assumption) only [BB, B2, ↓reduceIte, Nat.reduceLeDiff, Nat.reduceAdd, CC] <;> rfl) ?_ | refine newP_mk ?_ | refine optP_mk ?_ | with_reducible first | refine condP_t ?_ | refine condP_f ?_ | refine ifP_tt' ?_ | refine ifP_ff' ?_ | refine ifP_tf' ?_ | refine ifP_ft' ?_ | refine ifP_u' ?_ | refine optP_mk0 ?_))
      exact hq2 (j2 - 1) _ _ _ _ (by omega) ⟨q + 1, by omega, by omega, rfl, e2, e3, e5, rfl⟩ (Sub.refl _)
    · refine condP_f ?_
      refine hx2 _ _ _ _ (fun e => by cases e) (exP_e (beqP_t ?_))
      have fin : ∀ (e' : Env) n', nx2 ≤ n' → e' 2 = ptr nx → e' 3 = ptr (nx + 1) → e' 5 = .int .i64 k → ref11_sameState_j2 ro Q' e' h5 n' := by
        intro e' n' hn' f2 f3 f5
        unfold ref11_sameState_j2
        rw [f5]
        (repeat (first | refine bindP_mk (by simp (disch := first | omega | exact Int.natCast_nonneg _ | assumption) only [BB, B2, ↓reduceIte, Nat.reduceLeDiff, Nat.reduceAdd, CC] <;> rfl) ?_ | refine newP_mk ?_ | refine optP_mk ?_ | with_reducible first | refine condP_t ?_ | refine condP_f ?_ | refine ifP_tt' ?_ | refine ifP_ff' ?_ | refine ifP_tf' ?_ | refine ifP_ft' ?_ | refine ifP_u' ?_ | refine optP_mk0 ?_))
        exact hq (j - 1) _ _ _ _ (by omega) ⟨k + 1, by omega, by omega, rfl, f2, f3, rfl⟩ (Sub.refl _)
      exact fin _ _ (by omega) e2 e3 e5
  · refine condP_f ?_
    refine hx9 _ _ _ _ (fun e => by cases e) (exP_e (beqP_t ?_))
    unfold ref11_sameState_j1
    exact ⟨h, hs, hK _ (by omega)⟩
end V
end Go.Proofs.Ytmmdcdjkmakgpaa
