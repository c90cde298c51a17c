/- What code (of auto's builder) puts at its end.
   No condition. -/
import Derived.Test.YtmmdcdjkmakgpaaBG
set_option linter.unusedVariables false
set_option linter.unusedSimpArgs false
namespace Go.Proofs.Ytmmdcdjkmakgpaa
namespace V
open PA
attribute [local irreducible] bindP ifP condP newP optP exP beqP
theorem flat4_get : ∀ {cs : List (List Value)} {k j : Nat} {x : List Value}, (∀ x ∈ cs, x.length = 4) → cs[k]? = some x → j < 4 → cs.flatten[k * 4 + j]? = x[j]?
  | [], k, j, x, _, hx, _ => by simp at hx
  | y :: r, 0, j, x, hz, hx, hj => by
    simp at hx; subst hx
    have hy := hz y (by simp)
    rw [Nat.zero_mul, Nat.zero_add, List.flatten_cons, List.getElem?_append_left (by omega)]
  | y :: r, k + 1, j, x, hz, hx, hj => by
    have hy := hz y (by simp)
    have ih := flat4_get (cs := r) (k := k) (j := j) (x := x) (fun z hz' => hz z (by simp [hz'])) (by simpa using hx) hj
    rw [List.flatten_cons, List.getElem?_append_right (by omega), show (k + 1) * 4 + j - y.length = k * 4 + j by omega]
    exact ih
theorem flat4_set : ∀ {cs : List (List Value)} {k j : Nat} {x : List Value} (w : Value), (∀ x ∈ cs, x.length = 4) → cs[k]? = some x → j < 4 → cs.flatten.set (k * 4 + j) w = (cs.set k (x.set j w)).flatten
  | [], k, j, x, w, _, hx, _ => by simp at hx
  | y :: r, 0, j, x, w, hz, hx, hj => by
    simp at hx; subst hx
    have hy := hz y (by simp)
    rw [Nat.zero_mul, Nat.zero_add, List.flatten_cons, List.set_append_left _ _ (by omega)]; rfl
  | y :: r, k + 1, j, x, w, hz, hx, hj => by
    have hy := hz y (by simp)
    have ih := flat4_set (cs := r) (k := k) (j := j) (x := x) w (fun z hz' => hz z (by simp [hz'])) (by simpa using hx) hj
    rw [List.flatten_cons, List.set_append_right _ _ (by omega), show (k + 1) * 4 + j - y.length = k * 4 + j by omega, ih]; rfl
theorem flat4_len {cs : List (List Value)} (hz : ∀ x ∈ cs, x.length = 4) : cs.flatten.length = cs.length * 4 := (flatten_part hz).1
theorem set_z4 {cs : List (List Value)} {k : Nat} {y : List Value} (hz : ∀ x ∈ cs, x.length = 4) (hy : y.length = 4) : ∀ x ∈ cs.set k y, x.length = 4 := fun x hx => by
  rcases List.mem_or_eq_of_mem_set hx with h | h
  · exact hz x h
  · rw [h]; exact hy
theorem lit_row (aid : Nat) (a : Value) (ha : a.cells = #[a]) : sliceLitV Try.prog y_s_s_api_Move aid 1 [(0, a)] = some (.slice (some (own aid 1)) 1 1, some (.cells [a].toArray y_s_api_Move)) := by
  have hu : und Try.prog y_s_s_api_Move = some (.slice y_s_api_Move) := by kernel_rfl
  have hs : siz Try.prog y_s_api_Move = some 1 := by kernel_rfl
  have hz : zrow Try.prog y_s_api_Move 1 = some [nilS] := by kernel_rfl
  unfold sliceLitV
  simp only [hu, hs, hz, Option.bind_some]
  have hb : Nat.ble (1 * 1) 16777216 = true := by decide
  simp only [hb, fillV, ha]
  rfl
theorem und_rows : und Try.prog y_s_s_api_Move = some (.slice y_s_api_Move) := by kernel_rfl
theorem tin_row1 : ∃ i, tin Try.prog y_s_api_Move = some i ∧ i.size = 1 ∧ i.bytes = 24 := tinOf (by kernel_rfl)
theorem zer_row1 : zer Try.prog y_s_api_Move = some nilS := by kernel_rfl
def onesC (l : List Value) : List (List Value) := l.map fun v => [v]
theorem onesC_len (l : List Value) : (onesC l).length = l.length := by simp [onesC]
theorem app_row {ro : Ro} {h : T Obj} {v a : Value} {nx n1 n2 lo : Nat} {l : List Value} {K : Value × Option Obj → T Obj → Value × T Obj × Nat → Prop} (ha : cellOk a = true) (ho : OwnT h v 1 y_s_api_Move (onesC l) lo) (hl : l.length ≤ 1000000) (hf : Fr h nx) (hlo : lo ≤ nx) (hn1 : nx ≤ n1) (hn2 : n1 < n2)
    (hK : ∀ h' w, OwnT h' w 1 y_s_api_Move (onesC (l ++ [a])) lo → w = .slice (some (own n2 1)) (l.length + 1) (l.length + 1) → Kp v h h' → Fr h' (n2 + 1) → K (.slice (some (own n1 1)) 1 1, some (.cells [a].toArray y_s_api_Move)) (h.upd n1 (some (.cells [a].toArray y_s_api_Move))) (w, h', n2 + 1)) :
    bindP (sliceLitV Try.prog y_s_s_api_Move n1 1 [(0, a)]) fun r => optP h n1 r.2 fun h' => bindP (appendV Try.prog ro h' n2 #[y_s_s_api_Move, y_s_s_api_Move] [v, r.1]) (K r h') := by
  obtain ⟨i, g1, g2, g3⟩ := tin_row1
  have e : onesC l ++ [[a]] = onesC (l ++ [a]) := by simp [onesC]
  have el := onesC_len l
  refine append_lit (z := 1) (l := onesC l) (y := [a]) (lit_row _ _ (cells_of_ok ha)) rfl ho und_rows g1 g2 (by omega) zer_row1 rfl (by simp [ha]) (by rw [el, g3]; unfold big; omega) (by rw [el]; unfold big; omega) hf hlo hn1 hn2 fun h' q1 q2 q3 => ?_
  rw [e] at q1 ⊢
  refine hK h' _ q1 ?_ q2 q3
  rw [onesC_len, List.length_append]; rfl
theorem OwnT.lo {h : T Obj} {v : Value} {z lo lo' id len : Nat} {e : TypeId} {l : List (List Value)} (ho : OwnT h v z e l lo) (hv : v = .slice (some (own id z)) len len) (hid : lo' ≤ id) : OwnT h v z e l lo' := by
  rcases ho with ⟨rfl, _⟩ | ⟨i, h1, rfl, h4, h5⟩
  · cases hv
  · refine .inr ⟨i, ?_, rfl, h4, h5⟩
    have : i = id := by
      simp only [Value.slice.injEq, Option.some.injEq, own, Addr.mk.injEq] at hv
      exact hv.1.1
    omega
/-- A block of another kind is not what a slice leads to. -/
theorem OwnT.neB {h : T Obj} {v : Value} {z : Nat} {e : TypeId} {l : List (List Value)} {lo k : Nat} {o : Obj} (ho : OwnT h v z e l lo) (hk : h.get k = some o) (he : ∀ c f, o ≠ .cells c e f) : sblk v ≠ some k := fun hb => by
  obtain ⟨_, h5⟩ := ho.blk hb
  rw [hk] at h5
  exact he _ _ (Option.some.inj h5)
theorem elPtr_own (id len cap k : Nat) : elPtr 4 (.slice (some (own id 4)) len cap) k = at_ id (k * 4) 0 := by simp [elPtr, elt, own]
theorem elPtr_own' (id len cap k z : Nat) : elPtr z (.slice (some (own id z)) len cap) k = at_ id (k * z) 0 := by simp [elPtr, elt, own]
theorem ixSl_own' {id z len cap k : Nat} (hk : k < len) : ixSl z (.slice (some (own id z)) len cap) (.int .i64 (k : Int)) = some (at_ id (k * z) 0) := by
  have hn : natV (.int .i64 (k : Int)) = some k := by simp [natV]
  have hb : Nat.blt k len = true := by simp [Nat.blt]; omega
  unfold ixSl
  rw [hn]
  simp only [Option.bind_some, hb, own, Nat.beq_refl]
  simp [elt]
set_option maxRecDepth 8000 in
set_option maxHeartbeats 2000000 in
theorem code_j3_c {ro : Ro} {g : GlD} {bid nid kid eid yid sid k : Nat} {av bv fv cv lv rv uv wv rowv : Value} {c : List Nat} {n rule : Int} {S : List StateD} {cs : List (List Value)} {R : List Int} {ws : List Value} {e : Env}
    {h : T Obj} {nx : Nat} {K : KV} (hf : Fr h nx) (hB : Bd h g bid nid kid eid yid sid av bv fv c n cv S cs) (hx : cs[k]? = some [lv, rv, uv, wv]) (hu : OwnT h uv 1 y_int (intsZ R) 0) (hw : OwnT h wv 1 y_s_api_Move (onesC ws) 0) (hR : R.length ≤ 1000000) (hws : ws.length ≤ 1000000) (hrow : cellOk rowv = true)
    (e0 : e 0 = ptr bid) (e1 : e 1 = .int .i64 (k : Int)) (e9 : e 9 = .int .i64 rule) (e19 : e 19 = rowv)
    (hK : ∀ h' nx' uv' wv', nx ≤ nx' → Fr h' nx' → Keep (sid :: ((sblk uv).toList ++ (sblk wv).toList)) h h' → Bd h' g bid nid kid eid yid sid av bv fv c n cv S (cs.set k [lv, rv, uv', wv']) → OwnT h' uv' 1 y_int (intsZ (R ++ [rule])) nx → OwnT h' wv' 1 y_s_api_Move (onesC (ws ++ [rowv])) nx → K (.int .i64 0) h' nx') :
    auto_builder_code_j3 ro K e h nx := by
  unfold auto_builder_code_j3
  rw [e0, e1, e9, e19]
  have hb := hB.blk
  have b262 := bldL_262 (av := av) (bv := bv) (nv := .map (some nid)) (fv := fv) (n := n) (cv := cv) (sv := .slice (some (own sid 4)) cs.length cs.length) (kv := .map (some kid)) (ev := .map (some eid)) (yv := .map (some yid)) hB.hc
  have hkl : k < cs.length := (List.getElem?_eq_some_iff.1 hx).1
  have hix := ixSl_own' (id := sid) (z := 4) (cap := cs.length) hkl
  have hrg := hB.row
  have q2 := flat4_get (j := 2) hB.z4 hx (by omega)
  have q3 := flat4_get (j := 3) hB.z4 hx (by omega)
  have q2 : cs.flatten[k * 4 + 2]? = some uv := q2
  have q3 : cs.flatten[k * 4 + 3]? = some wv := q3
  obtain ⟨i1, i2, i3, i4, i5⟩ := hB.ids
  obtain ⟨l1, l2, l3, l4⟩ := hB.lt hf
  obtain ⟨f1, m1, m2⟩ := hB.num
  obtain ⟨es1, c1, ps1, m3, m4, m5⟩ := m1
  obtain ⟨f2, k1, k2⟩ := hB.known
  obtain ⟨es2, c2, ps2, k3, k4, k5⟩ := k1
  have hfl := flat4_len hB.z4
  (repeat (first | refine bindP_mk (by simp (disch := first | omega | exact Int.natCast_nonneg _ | assumption) only [BB, B2, ↓reduceIte, Nat.reduceLeDiff, Nat.reduceAdd, CC, nilCk_at, hb, b262, hix, hrg, q2] <;> rfl) ?_ | refine newP_mk ?_ | refine optP_mk ?_ | with_reducible first | refine condP_t ?_ | refine condP_f ?_ | refine ifP_tt' ?_ | refine ifP_ff' ?_ | refine ifP_tf' ?_ | refine ifP_ft' ?_ | refine ifP_u' ?_ | refine optP_mk0 ?_))
  refine app_int hu hR hf (Nat.zero_le _) (by omega) (by omega) fun h1 w1 r1 r2 r3 r4 => ?_
  dsimp only
  have ub := hu.neB hb (by intro c f e; simp only [Obj.cells.injEq] at e; exact absurd e.2.1 (by decide))
  have ur := hu.neB hrg (by intro c f e; simp only [Obj.cells.injEq] at e; exact absurd e.2.1 (by decide))
  have un := hu.neB m3 (by intro c f e; cases e)
  have uk := hu.neB k3 (by intro c f e; cases e)
  have wb := hw.neB hb (by intro c f e; simp only [Obj.cells.injEq] at e; exact absurd e.2.1 (by decide))
  have wr := hw.neB hrg (by intro c f e; simp only [Obj.cells.injEq] at e; exact absurd e.2.1 (by decide))
  have wn := hw.neB m3 (by intro c f e; cases e)
  have wk := hw.neB k3 (by intro c f e; cases e)
  have hb1 := r3 _ _ hb ub
  have hr1 := r3 _ _ hrg ur
  have hn1 := r3 _ _ m3 un
  have hk1 := r3 _ _ k3 uk
  have hw1 : OwnT h1 wv 1 y_s_api_Move (onesC ws) 0 := hw.keep r3 fun id hid => by
    obtain ⟨_, z1⟩ := hw.blk hid
    exact hu.neB z1 (by intro c f e; simp only [Obj.cells.injEq] at e; exact absurd e.2.1 (by decide))
  have r1 := r1.lo (lo' := nx) r2 (by omega)
  refine ⟨sameV_own (o := .cells (bldL av bv (.map (some nid)) fv c n cv (.slice (some (own sid 4)) cs.length cs.length) (.map (some kid)) (.map (some eid)) (.map (some yid))).toArray y_auto_builder) (by rw [T.get_upd_ne _ _ (by omega)]; exact hb) hb1, ?_⟩
  have hw1ok : cellOk w1 = true := r1.ok
  (repeat (first | refine bindP_mk (by simp (disch := first | omega | exact Int.natCast_nonneg _ | assumption) only [BB, B2, ↓reduceIte, Nat.reduceLeDiff, Nat.reduceAdd, CC, hix] <;> rfl) ?_ | refine newP_mk ?_ | refine optP_mk ?_ | with_reducible first | refine condP_t ?_ | refine condP_f ?_ | refine ifP_tt' ?_ | refine ifP_ff' ?_ | refine ifP_tf' ?_ | refine ifP_ft' ?_ | refine ifP_u' ?_ | refine optP_mk0 ?_))
  refine bindP_mk (store1_own (l := cs.flatten) hr1 (by omega) hw1ok (cells_of_ok hw1ok)) ?_
  rw [flat4_set w1 hB.z4 hx (by omega)]
  have hcs1 : cs.set k ([lv, rv, uv, wv].set 2 w1) = cs.set k [lv, rv, w1, wv] := rfl
  rw [hcs1]
  have hz1 : ∀ x ∈ cs.set k [lv, rv, w1, wv], x.length = 4 := set_z4 hB.z4 rfl
  have hx1 : (cs.set k [lv, rv, w1, wv])[k]? = some [lv, rv, w1, wv] := by rw [List.getElem?_set_self hkl]
  have q31 := flat4_get (j := 3) hz1 hx1 (by omega)
  have q31 : (cs.set k [lv, rv, w1, wv]).flatten[k * 4 + 3]? = some wv := q31
  have hsub : ∀ i o, h1.get i = some o → i ≠ sid → (h1.upd sid (some (.cells (cs.set k [lv, rv, w1, wv]).flatten.toArray y_api_State))).get i = some o := fun i o hi hne => by rw [T.get_upd_ne _ _ hne]; exact hi
  have hb2 := hsub _ _ hb1 i1
  have hn2 := hsub _ _ hn1 i5.symm
  have hk2 := hsub _ _ hk1 i4.symm
  have hr2 : (h1.upd sid (some (.cells (cs.set k [lv, rv, w1, wv]).flatten.toArray y_api_State))).get sid = some (.cells (cs.set k [lv, rv, w1, wv]).flatten.toArray y_api_State) := T.get_upd_same _ _ _
  have hw2 : OwnT (h1.upd sid (some (.cells (cs.set k [lv, rv, w1, wv]).flatten.toArray y_api_State))) wv 1 y_s_api_Move (onesC ws) 0 := hw1.updNe hr1 (by decide)
  have hu2 : OwnT (h1.upd sid (some (.cells (cs.set k [lv, rv, w1, wv]).flatten.toArray y_api_State))) w1 1 y_int (intsZ (R ++ [rule])) nx := r1.updNe hr1 (by decide)
  have hkp2 : Keep (sid :: ((sblk uv).toList ++ (sblk wv).toList)) h (h1.upd sid (some (.cells (cs.set k [lv, rv, w1, wv]).flatten.toArray y_api_State))) := (r3.keepL fun id hid => by simp [hid]).upd (by simp)
  have hf2 : Fr (h1.upd sid (some (.cells (cs.set k [lv, rv, w1, wv]).flatten.toArray y_api_State))) (nx + 21 + 1) := r4.upd (Nat.le_refl _) (by omega)
  generalize h1.upd sid (some (.cells (cs.set k [lv, rv, w1, wv]).flatten.toArray y_api_State)) = h2 at hsub hb2 hn2 hk2 hr2 hw2 hu2 hkp2 hf2
  (repeat (first | refine bindP_mk (by simp (disch := first | omega | exact Int.natCast_nonneg _ | assumption) only [BB, B2, ↓reduceIte, Nat.reduceLeDiff, Nat.reduceAdd, CC, nilCk_at, hb2, b262, hix, hr2, q31] <;> rfl) ?_ | refine newP_mk ?_ | refine optP_mk ?_ | with_reducible first | refine condP_t ?_ | refine condP_f ?_ | refine ifP_tt' ?_ | refine ifP_ff' ?_ | refine ifP_tf' ?_ | refine ifP_ft' ?_ | refine ifP_u' ?_ | refine optP_mk0 ?_))
  refine app_row hrow hw2 hws hf2 (Nat.zero_le _) (by omega) (by omega) fun h3 w3 s1 s2 s3 s4 => ?_
  dsimp only
  have hwb2 : ∀ i o, h2.get i = some o → (∀ c f, o ≠ .cells c y_s_api_Move f) → h3.get i = some o := fun i o hi hty => s3 i o hi (hw2.neB hi hty)
  have hb3 := hwb2 _ _ hb2 (by intro c f e; simp only [Obj.cells.injEq] at e; exact absurd e.2.1 (by decide))
  have hr3 := hwb2 _ _ hr2 (by intro c f e; simp only [Obj.cells.injEq] at e; exact absurd e.2.1 (by decide))
  have hn3 := hwb2 _ _ hn2 (by intro c f e; cases e)
  have hk3 := hwb2 _ _ hk2 (by intro c f e; cases e)
  have hu3 : OwnT h3 w1 1 y_int (intsZ (R ++ [rule])) nx := hu2.keep s3 fun id hid => by
    obtain ⟨_, z1⟩ := hu2.blk hid
    exact hw2.neB z1 (by intro c f e; simp only [Obj.cells.injEq] at e; exact absurd e.2.1 (by decide))
  have s1 := s1.lo (lo' := nx) s2 (by omega)
  refine ⟨sameV_own (o := .cells (bldL av bv (.map (some nid)) fv c n cv (.slice (some (own sid 4)) cs.length cs.length) (.map (some kid)) (.map (some eid)) (.map (some yid))).toArray y_auto_builder) (by rw [T.get_upd_ne _ _ (by omega)]; exact hb2) hb3, ?_⟩
  have hw3ok : cellOk w3 = true := s1.ok
  (repeat (first | refine bindP_mk (by simp (disch := first | omega | exact Int.natCast_nonneg _ | assumption) only [BB, B2, ↓reduceIte, Nat.reduceLeDiff, Nat.reduceAdd, CC, hix] <;> rfl) ?_ | refine newP_mk ?_ | refine optP_mk ?_ | with_reducible first | refine condP_t ?_ | refine condP_f ?_ | refine ifP_tt' ?_ | refine ifP_ff' ?_ | refine ifP_tf' ?_ | refine ifP_ft' ?_ | refine ifP_u' ?_ | refine optP_mk0 ?_))
  have hl1 : (cs.set k [lv, rv, w1, wv]).flatten.length = cs.length * 4 := by rw [flat4_len hz1, List.length_set]
  refine bindP_mk (store1_own (l := (cs.set k [lv, rv, w1, wv]).flatten) hr3 (by omega) hw3ok (cells_of_ok hw3ok)) ?_
  rw [flat4_set w3 hz1 hx1 (by omega)]
  have hcs2 : (cs.set k [lv, rv, w1, wv]).set k ([lv, rv, w1, wv].set 3 w3) = cs.set k [lv, rv, w1, w3] := by rw [List.set_set]; rfl
  rw [hcs2]
  refine ⟨_, Sub.refl _, hK _ _ w1 w3 (by omega) ((s4.mono (show _ ≤ nx + 21 + 1 + 21 + 1 + 1 by omega)).upd (Nat.le_refl _) (by omega)) ?_ ⟨hB.hc, ?_, ⟨f1, ⟨es1, c1, ps1, ?_, m4, m5⟩, m2⟩, ⟨f2, ⟨es2, c2, ps2, ?_, k4, k5⟩, k2⟩, ?_, set_z4 hB.z4 rfl, ?_, hB.few, hB.pos, hB.nk⟩ ?_ ?_⟩
  · refine Keep.upd (hkp2.trans ?_) (by simp)
    exact s3.keepL fun id hid => by simp [hid]
  · rw [T.get_upd_ne _ _ i1, List.length_set]; exact hb3
  · rw [T.get_upd_ne _ _ i5.symm]; exact hn3
  · rw [T.get_upd_ne _ _ i4.symm]; exact hk3
  · rw [T.get_upd_same]
  · rw [List.length_set]; exact hB.len
  · exact hu3.updNe hr3 (by decide)
  · exact s1.updNe hr3 (by decide)
end V
end Go.Proofs.Ytmmdcdjkmakgpaa
