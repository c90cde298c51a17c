/- Texts laid one behind the other: BH, BI, BJ, BK, BL, BN, DB, DE, DG, DL, DO, DP, BO, BP, ES, EF.
   No condition. -/
import Derived.Test.YtmmdcdjkmakgpaaQD4
set_option linter.unusedVariables false
set_option linter.unusedSimpArgs false
set_option linter.unusedVariables false
set_option linter.unusedSimpArgs false
namespace Go.Proofs.Ytmmdcdjkmakgpaa
namespace V
open PA
attribute [local irreducible] bindP ifP condP newP optP exP beqP
theorem flat4_get : ∀ {cs : List (List Value)} {k j : Nat} {x : List Value}, (∀ x ∈ cs, x.length = 4) → cs[k]? = some x → j < 4 → cs.flatten[k * 4 + j]? = x[j]?
  | [], k, j, x, _, hx, _ => by simp at hx
  | y :: r, 0, j, x, hz, hx, hj => by
    simp at hx; subst hx
    have hy := hz y (by simp)
    rw [Nat.zero_mul, Nat.zero_add, List.flatten_cons, List.getElem?_append_left (by omega)]
  | y :: r, k + 1, j, x, hz, hx, hj => by
    have hy := hz y (by simp)
    have ih := flat4_get (cs := r) (k := k) (j := j) (x := x) (fun z hz' => hz z (by simp [hz'])) (by simpa using hx) hj
    rw [List.flatten_cons, List.getElem?_append_right (by omega), show (k + 1) * 4 + j - y.length = k * 4 + j by omega]
    exact ih
theorem flat4_set : ∀ {cs : List (List Value)} {k j : Nat} {x : List Value} (w : Value), (∀ x ∈ cs, x.length = 4) → cs[k]? = some x → j < 4 → cs.flatten.set (k * 4 + j) w = (cs.set k (x.set j w)).flatten
  | [], k, j, x, w, _, hx, _ => by simp at hx
  | y :: r, 0, j, x, w, hz, hx, hj => by
    simp at hx; subst hx
    have hy := hz y (by simp)
    rw [Nat.zero_mul, Nat.zero_add, List.flatten_cons, List.set_append_left _ _ (by omega)]; rfl
  | y :: r, k + 1, j, x, w, hz, hx, hj => by
    have hy := hz y (by simp)
    have ih := flat4_set (cs := r) (k := k) (j := j) (x := x) w (fun z hz' => hz z (by simp [hz'])) (by simpa using hx) hj
    rw [List.flatten_cons, List.set_append_right _ _ (by omega), show (k + 1) * 4 + j - y.length = k * 4 + j by omega, ih]; rfl
theorem flat4_len {cs : List (List Value)} (hz : ∀ x ∈ cs, x.length = 4) : cs.flatten.length = cs.length * 4 := (flatten_part hz).1
theorem set_z4 {cs : List (List Value)} {k : Nat} {y : List Value} (hz : ∀ x ∈ cs, x.length = 4) (hy : y.length = 4) : ∀ x ∈ cs.set k y, x.length = 4 := fun x hx => by
  rcases List.mem_or_eq_of_mem_set hx with h | h
  · exact hz x h
  · rw [h]; exact hy
theorem lit_row (aid : Nat) (a : Value) (ha : a.cells = #[a]) : sliceLitV Try.prog y_s_s_api_Move aid 1 [(0, a)] = some (.slice (some (own aid 1)) 1 1, some (.cells [a].toArray y_s_api_Move)) := by
  have hu : und Try.prog y_s_s_api_Move = some (.slice y_s_api_Move) := by kernel_rfl
  have hs : siz Try.prog y_s_api_Move = some 1 := by kernel_rfl
  have hz : zrow Try.prog y_s_api_Move 1 = some [nilS] := by kernel_rfl
  unfold sliceLitV
  simp only [hu, hs, hz, Option.bind_some]
  have hb : Nat.ble (1 * 1) 16777216 = true := by decide
  simp only [hb, fillV, ha]
  rfl
theorem und_rows : und Try.prog y_s_s_api_Move = some (.slice y_s_api_Move) := by kernel_rfl
theorem tin_row1 : ∃ i, tin Try.prog y_s_api_Move = some i ∧ i.size = 1 ∧ i.bytes = 24 := tinOf (by kernel_rfl)
theorem zer_row1 : zer Try.prog y_s_api_Move = some nilS := by kernel_rfl
def onesC (l : List Value) : List (List Value) := l.map fun v => [v]
theorem onesC_len (l : List Value) : (onesC l).length = l.length := by simp [onesC]
theorem app_row {ro : Ro} {h : T Obj} {v a : Value} {nx n1 n2 lo : Nat} {l : List Value} {K : Value × Option Obj → T Obj → Value × T Obj × Nat → Prop} (ha : cellOk a = true) (ho : OwnT h v 1 y_s_api_Move (onesC l) lo) (hl : l.length ≤ 1000000) (hf : Fr h nx) (hlo : lo ≤ nx) (hn1 : nx ≤ n1) (hn2 : n1 < n2)
    (hK : ∀ h' w, OwnT h' w 1 y_s_api_Move (onesC (l ++ [a])) lo → w = .slice (some (own n2 1)) (l.length + 1) (l.length + 1) → Kp v h h' → Fr h' (n2 + 1) → K (.slice (some (own n1 1)) 1 1, some (.cells [a].toArray y_s_api_Move)) (h.upd n1 (some (.cells [a].toArray y_s_api_Move))) (w, h', n2 + 1)) :
    bindP (sliceLitV Try.prog y_s_s_api_Move n1 1 [(0, a)]) fun r => optP h n1 r.2 fun h' => bindP (appendV Try.prog ro h' n2 #[y_s_s_api_Move, y_s_s_api_Move] [v, r.1]) (K r h') := by
  obtain ⟨i, g1, g2, g3⟩ := tin_row1
  have e : onesC l ++ [[a]] = onesC (l ++ [a]) := by simp [onesC]
  have el := onesC_len l
  refine append_lit (z := 1) (l := onesC l) (y := [a]) (lit_row _ _ (cells_of_ok ha)) rfl ho und_rows g1 g2 (by omega) zer_row1 rfl (by simp [ha]) (by rw [el, g3]; unfold big; omega) (by rw [el]; unfold big; omega) hf hlo hn1 hn2 fun h' q1 q2 q3 => ?_
  rw [e] at q1 ⊢
  refine hK h' _ q1 ?_ q2 q3
  rw [onesC_len, List.length_append]; rfl
theorem OwnT.lo {h : T Obj} {v : Value} {z lo lo' id len : Nat} {e : TypeId} {l : List (List Value)} (ho : OwnT h v z e l lo) (hv : v = .slice (some (own id z)) len len) (hid : lo' ≤ id) : OwnT h v z e l lo' := by
  rcases ho with ⟨rfl, _⟩ | ⟨i, h1, rfl, h4, h5⟩
  · cases hv
  · refine .inr ⟨i, ?_, rfl, h4, h5⟩
    have : i = id := by
      simp only [Value.slice.injEq, Option.some.injEq, own, Addr.mk.injEq] at hv
      exact hv.1.1
    omega
theorem OwnT.neB {h : T Obj} {v : Value} {z : Nat} {e : TypeId} {l : List (List Value)} {lo k : Nat} {o : Obj} (ho : OwnT h v z e l lo) (hk : h.get k = some o) (he : ∀ c f, o ≠ .cells c e f) : sblk v ≠ some k := fun hb => by
  obtain ⟨_, h5⟩ := ho.blk hb
  rw [hk] at h5
  exact he _ _ (Option.some.inj h5)
theorem elPtr_own (id len cap k : Nat) : elPtr 4 (.slice (some (own id 4)) len cap) k = at_ id (k * 4) 0 := by simp [elPtr, elt, own]
theorem ixSl_own' {id z len cap k : Nat} (hk : k < len) : ixSl z (.slice (some (own id z)) len cap) (.int .i64 (k : Int)) = some (at_ id (k * z) 0) := by
  have hn : natV (.int .i64 (k : Int)) = some k := by simp [natV]
  have hb : Nat.blt k len = true := by simp [Nat.blt]; omega
  unfold ixSl
  rw [hn]
  simp only [Option.bind_some, hb, own, Nat.beq_refl]
  simp [elt]
set_option maxRecDepth 8000 in
set_option maxHeartbeats 2000000 in
theorem code_j3_c {ro : Ro} {g : GlD} {bid nid kid eid yid sid k : Nat} {av bv fv cv lv rv uv wv rowv : Value} {c : List Nat} {n rule : Int} {S : List StateD} {cs : List (List Value)} {R : List Int} {ws : List Value} {e : Env}
    {h : T Obj} {nx : Nat} {K : KV} (hf : Fr h nx) (hB : Bd h g bid nid kid eid yid sid av bv fv c n cv S cs) (hx : cs[k]? = some [lv, rv, uv, wv]) (hu : OwnT h uv 1 y_int (intsZ R) 0) (hw : OwnT h wv 1 y_s_api_Move (onesC ws) 0) (hR : R.length ≤ 1000000) (hws : ws.length ≤ 1000000) (hrow : cellOk rowv = true)
    (e0 : e 0 = ptr bid) (e1 : e 1 = .int .i64 (k : Int)) (e9 : e 9 = .int .i64 rule) (e19 : e 19 = rowv)
    (hK : ∀ h' nx' uv' wv', nx ≤ nx' → Fr h' nx' → Keep (sid :: ((sblk uv).toList ++ (sblk wv).toList)) h h' → Bd h' g bid nid kid eid yid sid av bv fv c n cv S (cs.set k [lv, rv, uv', wv']) → OwnT h' uv' 1 y_int (intsZ (R ++ [rule])) nx → OwnT h' wv' 1 y_s_api_Move (onesC (ws ++ [rowv])) nx → K (.int .i64 0) h' nx') :
    auto_builder_code_j3 ro K e h nx := by
  unfold auto_builder_code_j3
  rw [e0, e1, e9, e19]
  have hb := hB.blk
  have b262 := bldL_262 (av := av) (bv := bv) (nv := .map (some nid)) (fv := fv) (n := n) (cv := cv) (sv := .slice (some (own sid 4)) cs.length cs.length) (kv := .map (some kid)) (ev := .map (some eid)) (yv := .map (some yid)) hB.hc
  have hkl : k < cs.length := (List.getElem?_eq_some_iff.1 hx).1
  have hix := ixSl_own' (id := sid) (z := 4) (cap := cs.length) hkl
  have hrg := hB.row
  have q2 := flat4_get (j := 2) hB.z4 hx (by omega)
  have q3 := flat4_get (j := 3) hB.z4 hx (by omega)
  have q2 : cs.flatten[k * 4 + 2]? = some uv := q2
  have q3 : cs.flatten[k * 4 + 3]? = some wv := q3
  obtain ⟨i1, i2, i3, i4, i5⟩ := hB.ids
  obtain ⟨l1, l2, l3, l4⟩ := hB.lt hf
  obtain ⟨f1, m1, m2⟩ := hB.num
  obtain ⟨es1, c1, ps1, m3, m4, m5⟩ := m1
  obtain ⟨f2, k1, k2⟩ := hB.known
  obtain ⟨es2, c2, ps2, k3, k4, k5⟩ := k1
  have hfl := flat4_len hB.z4
  (repeat (first | refine bindP_mk (by simp (disch := first | omega | exact Int.natCast_nonneg _ | assumption) only [BB, B2, ↓reduceIte, Nat.reduceLeDiff, Nat.reduceAdd, CC, nilCk_at, hb, b262, hix, hrg, q2] <;> rfl) ?_ | refine newP_mk ?_ | refine optP_mk ?_ | with_reducible first | refine condP_t ?_ | refine condP_f ?_ | refine ifP_tt' ?_ | refine ifP_ff' ?_ | refine ifP_tf' ?_ | refine ifP_ft' ?_ | refine ifP_u' ?_ | refine optP_mk0 ?_))
  refine app_int hu hR hf (Nat.zero_le _) (by omega) (by omega) fun h1 w1 r1 r2 r3 r4 => ?_
  dsimp only
  have ub := hu.neB hb (by intro c f e; simp only [Obj.cells.injEq] at e; exact absurd e.2.1 (by decide))
  have ur := hu.neB hrg (by intro c f e; simp only [Obj.cells.injEq] at e; exact absurd e.2.1 (by decide))
  have un := hu.neB m3 (by intro c f e; cases e)
  have uk := hu.neB k3 (by intro c f e; cases e)
  have wb := hw.neB hb (by intro c f e; simp only [Obj.cells.injEq] at e; exact absurd e.2.1 (by decide))
  have wr := hw.neB hrg (by intro c f e; simp only [Obj.cells.injEq] at e; exact absurd e.2.1 (by decide))
  have wn := hw.neB m3 (by intro c f e; cases e)
  have wk := hw.neB k3 (by intro c f e; cases e)
  have hb1 := r3 _ _ hb ub
  have hr1 := r3 _ _ hrg ur
  have hn1 := r3 _ _ m3 un
  have hk1 := r3 _ _ k3 uk
  have hw1 : OwnT h1 wv 1 y_s_api_Move (onesC ws) 0 := hw.keep r3 fun id hid => by
    obtain ⟨_, z1⟩ := hw.blk hid
    exact hu.neB z1 (by intro c f e; simp only [Obj.cells.injEq] at e; exact absurd e.2.1 (by decide))
  have r1 := r1.lo (lo' := nx) r2 (by omega)
  refine ⟨sameV_own (o := .cells (bldL av bv (.map (some nid)) fv c n cv (.slice (some (own sid 4)) cs.length cs.length) (.map (some kid)) (.map (some eid)) (.map (some yid))).toArray y_auto_builder) (by rw [T.get_upd_ne _ _ (by omega)]; exact hb) hb1, ?_⟩
  have hw1ok : cellOk w1 = true := r1.ok
  (repeat (first | refine bindP_mk (by simp (disch := first | omega | exact Int.natCast_nonneg _ | assumption) only [BB, B2, ↓reduceIte, Nat.reduceLeDiff, Nat.reduceAdd, CC, hix] <;> rfl) ?_ | refine newP_mk ?_ | refine optP_mk ?_ | with_reducible first | refine condP_t ?_ | refine condP_f ?_ | refine ifP_tt' ?_ | refine ifP_ff' ?_ | refine ifP_tf' ?_ | refine ifP_ft' ?_ | refine ifP_u' ?_ | refine optP_mk0 ?_))
  refine bindP_mk (store1_own (l := cs.flatten) hr1 (by omega) hw1ok (cells_of_ok hw1ok)) ?_
  rw [flat4_set w1 hB.z4 hx (by omega)]
  have hcs1 : cs.set k ([lv, rv, uv, wv].set 2 w1) = cs.set k [lv, rv, w1, wv] := rfl
  rw [hcs1]
  have hz1 : ∀ x ∈ cs.set k [lv, rv, w1, wv], x.length = 4 := set_z4 hB.z4 rfl
  have hx1 : (cs.set k [lv, rv, w1, wv])[k]? = some [lv, rv, w1, wv] := by rw [List.getElem?_set_self hkl]
  have q31 := flat4_get (j := 3) hz1 hx1 (by omega)
  have q31 : (cs.set k [lv, rv, w1, wv]).flatten[k * 4 + 3]? = some wv := q31
  have hsub : ∀ i o, h1.get i = some o → i ≠ sid → (h1.upd sid (some (.cells (cs.set k [lv, rv, w1, wv]).flatten.toArray y_api_State))).get i = some o := fun i o hi hne => by rw [T.get_upd_ne _ _ hne]; exact hi
  have hb2 := hsub _ _ hb1 i1
  have hn2 := hsub _ _ hn1 i5.symm
  have hk2 := hsub _ _ hk1 i4.symm
  have hr2 : (h1.upd sid (some (.cells (cs.set k [lv, rv, w1, wv]).flatten.toArray y_api_State))).get sid = some (.cells (cs.set k [lv, rv, w1, wv]).flatten.toArray y_api_State) := T.get_upd_same _ _ _
  have hw2 : OwnT (h1.upd sid (some (.cells (cs.set k [lv, rv, w1, wv]).flatten.toArray y_api_State))) wv 1 y_s_api_Move (onesC ws) 0 := hw1.updNe hr1 (by decide)
  have hu2 : OwnT (h1.upd sid (some (.cells (cs.set k [lv, rv, w1, wv]).flatten.toArray y_api_State))) w1 1 y_int (intsZ (R ++ [rule])) nx := r1.updNe hr1 (by decide)
  have hkp2 : Keep (sid :: ((sblk uv).toList ++ (sblk wv).toList)) h (h1.upd sid (some (.cells (cs.set k [lv, rv, w1, wv]).flatten.toArray y_api_State))) := (r3.keepL fun id hid => by simp [hid]).upd (by simp)
  have hf2 : Fr (h1.upd sid (some (.cells (cs.set k [lv, rv, w1, wv]).flatten.toArray y_api_State))) (nx + 21 + 1) := r4.upd (Nat.le_refl _) (by omega)
  generalize h1.upd sid (some (.cells (cs.set k [lv, rv, w1, wv]).flatten.toArray y_api_State)) = h2 at hsub hb2 hn2 hk2 hr2 hw2 hu2 hkp2 hf2
  (repeat (first | refine bindP_mk (by simp (disch := first | omega | exact Int.natCast_nonneg _ | assumption) only [BB, B2, ↓reduceIte, Nat.reduceLeDiff, Nat.reduceAdd, CC, nilCk_at, hb2, b262, hix, hr2, q31] <;> rfl) ?_ | refine newP_mk ?_ | refine optP_mk ?_ | with_reducible first | refine condP_t ?_ | refine condP_f ?_ | refine ifP_tt' ?_ | refine ifP_ff' ?_ | refine ifP_tf' ?_ | refine ifP_ft' ?_ | refine ifP_u' ?_ | refine optP_mk0 ?_))
  refine app_row hrow hw2 hws hf2 (Nat.zero_le _) (by omega) (by omega) fun h3 w3 s1 s2 s3 s4 => ?_
  dsimp only
  have hwb2 : ∀ i o, h2.get i = some o → (∀ c f, o ≠ .cells c y_s_api_Move f) → h3.get i = some o := fun i o hi hty => s3 i o hi (hw2.neB hi hty)
  have hb3 := hwb2 _ _ hb2 (by intro c f e; simp only [Obj.cells.injEq] at e; exact absurd e.2.1 (by decide))
  have hr3 := hwb2 _ _ hr2 (by intro c f e; simp only [Obj.cells.injEq] at e; exact absurd e.2.1 (by decide))
  have hn3 := hwb2 _ _ hn2 (by intro c f e; cases e)
  have hk3 := hwb2 _ _ hk2 (by intro c f e; cases e)
  have hu3 : OwnT h3 w1 1 y_int (intsZ (R ++ [rule])) nx := hu2.keep s3 fun id hid => by
    obtain ⟨_, z1⟩ := hu2.blk hid
    exact hw2.neB z1 (by intro c f e; simp only [Obj.cells.injEq] at e; exact absurd e.2.1 (by decide))
  have s1 := s1.lo (lo' := nx) s2 (by omega)
  refine ⟨sameV_own (o := .cells (bldL av bv (.map (some nid)) fv c n cv (.slice (some (own sid 4)) cs.length cs.length) (.map (some kid)) (.map (some eid)) (.map (some yid))).toArray y_auto_builder) (by rw [T.get_upd_ne _ _ (by omega)]; exact hb2) hb3, ?_⟩
  have hw3ok : cellOk w3 = true := s1.ok
  (repeat (first | refine bindP_mk (by simp (disch := first | omega | exact Int.natCast_nonneg _ | assumption) only [BB, B2, ↓reduceIte, Nat.reduceLeDiff, Nat.reduceAdd, CC, hix] <;> rfl) ?_ | refine newP_mk ?_ | refine optP_mk ?_ | with_reducible first | refine condP_t ?_ | refine condP_f ?_ | refine ifP_tt' ?_ | refine ifP_ff' ?_ | refine ifP_tf' ?_ | refine ifP_ft' ?_ | refine ifP_u' ?_ | refine optP_mk0 ?_))
  have hl1 : (cs.set k [lv, rv, w1, wv]).flatten.length = cs.length * 4 := by rw [flat4_len hz1, List.length_set]
  refine bindP_mk (store1_own (l := (cs.set k [lv, rv, w1, wv]).flatten) hr3 (by omega) hw3ok (cells_of_ok hw3ok)) ?_
  rw [flat4_set w3 hz1 hx1 (by omega)]
  have hcs2 : (cs.set k [lv, rv, w1, wv]).set k ([lv, rv, w1, wv].set 3 w3) = cs.set k [lv, rv, w1, w3] := by rw [List.set_set]; rfl
  rw [hcs2]
  refine ⟨_, Sub.refl _, hK _ _ w1 w3 (by omega) ((s4.mono (show _ ≤ nx + 21 + 1 + 21 + 1 + 1 by omega)).upd (Nat.le_refl _) (by omega)) ?_ ⟨hB.hc, ?_, ⟨f1, ⟨es1, c1, ps1, ?_, m4, m5⟩, m2⟩, ⟨f2, ⟨es2, c2, ps2, ?_, k4, k5⟩, k2⟩, ?_, set_z4 hB.z4 rfl, ?_, hB.few, hB.pos, hB.nk⟩ ?_ ?_⟩
  · refine Keep.upd (hkp2.trans ?_) (by simp)
    exact s3.keepL fun id hid => by simp [hid]
  · rw [T.get_upd_ne _ _ i1, List.length_set]; exact hb3
  · rw [T.get_upd_ne _ _ i5.symm]; exact hn3
  · rw [T.get_upd_ne _ _ i4.symm]; exact hk3
  · rw [T.get_upd_same]
  · rw [List.length_set]; exact hB.len
  · exact hu3.updNe hr3 (by decide)
  · exact s1.updNe hr3 (by decide)
end V
end Go.Proofs.Ytmmdcdjkmakgpaa
set_option linter.unusedVariables false
set_option linter.unusedSimpArgs false
namespace Go.Proofs.Ytmmdcdjkmakgpaa
namespace V
open PA
attribute [local irreducible] bindP ifP condP newP optP exP beqP
def TyKeep (e : TypeId) (h h' : T Obj) : Prop := ∀ (k : Nat) c f, h.get k = some (.cells c e f) → h'.get k = some (.cells c e f)
theorem TyKeep.refl {e : TypeId} {h : T Obj} : TyKeep e h h := fun _ _ _ hg => hg
theorem TyKeep.trans {e : TypeId} {a b c : T Obj} (h1 : TyKeep e a b) (h2 : TyKeep e b c) : TyKeep e a c := fun k x f hg => h2 k x f (h1 k x f hg)
theorem Sub.ty {e : TypeId} {h h' : T Obj} (hs : Sub h h') : TyKeep e h h' := fun k c f hg => hs _ _ hg
theorem TyKeep.upd {e e' : TypeId} {a h : T Obj} {i : Nat} {o : Option Obj} {c : Array Value} {f : Nat × Nat} (h1 : TyKeep e a h) (hg : h.get i = some (.cells c e' f)) (he : e' ≠ e) : TyKeep e a (h.upd i o) := fun k x q hk => by
  have := h1 k x q hk
  rw [T.get_upd_ne _ _ (by
    rintro rfl
    rw [hg] at this
    simp only [Option.some.injEq, Obj.cells.injEq] at this
    exact he this.2.1)]
  exact this
theorem OwnT.ty {h h' : T Obj} {v : Value} {z : Nat} {e : TypeId} {l : List (List Value)} {lo : Nat} (ho : OwnT h v z e l lo) (hk : TyKeep e h h') : OwnT h' v z e l lo := by
  rcases ho with ho | ⟨id, h1, rfl, h4, h5⟩
  · exact .inl ho
  · exact .inr ⟨id, h1, rfl, h4, hk _ _ _ h5⟩
theorem Kp.ty {h h' : T Obj} {v : Value} {z : Nat} {e e' : TypeId} {l : List (List Value)} {lo : Nat} (hk : Kp v h h') (ho : OwnT h v z e' l lo) (he : e' ≠ e) : TyKeep e h h' := fun k c f hg => hk k _ hg (ho.neB hg (by
  intro c f h
  simp only [Obj.cells.injEq] at h
  exact he h.2.1.symm))
theorem NewSt.ty {h h' : T Obj} {lo : Nat} {x : List Value} {s : StateD} (hn : NewSt h lo x s) (hk : TyKeep y_int h h') : NewSt h' lo x s := by
  obtain ⟨lv, rv, h1, h2, h3, h4⟩ := hn
  exact ⟨lv, rv, h1, h2.ty hk, h3.ty hk, h4⟩
theorem NewSt.mono {h : T Obj} {lo lo' : Nat} {x : List Value} {s : StateD} (hn : NewSt h lo x s) (hl : lo' ≤ lo) : NewSt h lo' x s := by
  obtain ⟨lv, rv, h1, h2, h3, h4⟩ := hn
  exact ⟨lv, rv, h1, h2.mono hl, h3.mono hl, h4⟩
theorem Grow.ty {h h' : T Obj} {lo : Nat} {cs cs' : List (List Value)} {S S' : List StateD} (hn : Grow h lo cs cs' S S') (hk : TyKeep y_int h h') : Grow h' lo cs cs' S S' := by
  obtain ⟨ds, T, h1, h2, h3, h4⟩ := hn
  exact ⟨ds, T, h1, h2, h3, fun i x s hx hs => (h4 i x s hx hs).ty hk⟩
theorem Grow.trans {h : T Obj} {lo lo' : Nat} {cs cs' cs'' : List (List Value)} {S S' S'' : List StateD} (h1 : Grow h lo cs cs' S S') (h2 : Grow h lo' cs' cs'' S' S'') (hl : lo ≤ lo') : Grow h lo cs cs'' S S'' := by
  obtain ⟨ds, T, a1, a2, a3, a4⟩ := h1
  obtain ⟨ds', T', b1, b2, b3, b4⟩ := h2
  refine ⟨ds ++ ds', T ++ T', by rw [b1, a1, List.append_assoc], by rw [b2, a2, List.append_assoc], by simp [a3, b3], fun i x s hx hs => ?_⟩
  rcases Nat.lt_or_ge i ds.length with hi | hi
  · rw [List.getElem?_append_left hi] at hx
    rw [List.getElem?_append_left (by omega)] at hs
    exact a4 i x s hx hs
  · rw [List.getElem?_append_right hi] at hx
    rw [List.getElem?_append_right (by omega), ← a3] at hs
    exact (b4 _ x s hx hs).mono hl
section
variable {h h' a b : T Obj} {g : GlD} {bid nid kid eid yid sid sid' lo : Nat} {av bv fv : Value} {c : List Nat} {n : Int} {cv : Value} {S : List StateD} {cs : List (List Value)}
theorem Bd.tyk (hB : Bd h g bid nid kid eid yid sid av bv fv c n cv S cs) (hk : Keep [bid, kid, sid] h h') {e : TypeId} (he1 : e ≠ y_auto_builder) (he2 : e ≠ y_api_State) : TyKeep e h h' := fun i x f hg => hk _ _ hg (by
  have h1 := hB.blk
  have h2 := hB.row
  obtain ⟨f2, k1, k2⟩ := hB.known
  obtain ⟨es, ec, k3⟩ := k1.obj
  simp only [List.mem_cons, List.not_mem_nil, or_false]
  rintro (rfl | rfl | rfl)
  · rw [hg] at h1
    simp only [Option.some.injEq, Obj.cells.injEq] at h1
    exact he1 h1.2.1
  · rw [hg] at k3; cases k3
  · rw [hg] at h2
    simp only [Option.some.injEq, Obj.cells.injEq] at h2
    exact he2 h2.2.1)
theorem Keep.chain (hf : Fr h lo) (h1 : Keep [bid, kid, sid] h a) (h2 : Keep [bid, kid, sid'] a b) (hs : sid' = sid ∨ lo ≤ sid') : Keep [bid, kid, sid] h b := fun k o hk hn => by
  refine h2 k o (h1 k o hk hn) ?_
  have := hf.lt' hk
  simp only [List.mem_cons, List.not_mem_nil, or_false, not_or] at hn ⊢
  refine ⟨hn.1, hn.2.1, ?_⟩
  rcases hs with rfl | hs
  · exact hn.2.2
  · omega
theorem BMap.keepK {r : Nat} {E : Int → Bool} {ids : List Nat} (hm : BMap h r E) (hk : Keep ids h h') (hn : r ∉ ids) : BMap h' r E := by
  obtain ⟨f, ⟨es, c, ps, h1, h2, h3⟩, h4⟩ := hm
  exact ⟨f, ⟨es, c, ps, hk _ _ h1 hn, h2, h3⟩, h4⟩
end
def RowOwn (h : T Obj) (lo : Nat) (mcs : List (List Value)) (row : List MoveD) : Prop := mcs.length = row.length ∧ ∀ (i : Nat) x m, mcs[i]? = some x → row[i]? = some m → ∃ ov, x = [.int .i64 m.to, ov] ∧ OwnT h ov 1 y_uint8 (opsC m.ops) lo
theorem RowOwn.ty {h h' : T Obj} {lo : Nat} {mcs : List (List Value)} {row : List MoveD} (hr : RowOwn h lo mcs row) (hk : TyKeep y_uint8 h h') : RowOwn h' lo mcs row := ⟨hr.1, fun i x m hx hm => by
  obtain ⟨ov, h1, h2⟩ := hr.2 i x m hx hm
  exact ⟨ov, h1, h2.ty hk⟩⟩
theorem lit_Move (aid : Nat) (a b : Value) : sliceLitV Try.prog y_s_api_Move aid 1 [(0, .agg #[a, b])] = some (.slice (some (own aid 2)) 1 1, some (.cells [a, b].toArray y_api_Move)) := by kernel_rfl
theorem und_sMove : und Try.prog y_s_api_Move = some (.slice y_api_Move) := by kernel_rfl
theorem tin_Move : ∃ i, tin Try.prog y_api_Move = some i ∧ i.size = 2 ∧ i.bytes = 32 := tinOf (by kernel_rfl)
theorem app_Move {ro : Ro} {h : T Obj} {v a b : Value} {nx n1 n2 lo : Nat} {l : List (List Value)} {K : Value × Option Obj → T Obj → Value × T Obj × Nat → Prop} (ha : cellOk a = true) (hb : cellOk b = true) (ho : OwnT h v 2 y_api_Move l lo) (hl : l.length ≤ 1000000) (hf : Fr h nx) (hlo : lo ≤ nx) (hn1 : nx ≤ n1) (hn2 : n1 < n2)
    (hK : ∀ h' w, OwnT h' w 2 y_api_Move (l ++ [[a, b]]) lo → w = .slice (some (own n2 2)) (l ++ [[a, b]]).length (l ++ [[a, b]]).length → Kp v h h' → Fr h' (n2 + 1) → K (.slice (some (own n1 2)) 1 1, some (.cells [a, b].toArray y_api_Move)) (h.upd n1 (some (.cells [a, b].toArray y_api_Move))) (w, h', n2 + 1)) :
    bindP (sliceLitV Try.prog y_s_api_Move n1 1 [(0, .agg #[a, b])]) fun r => optP h n1 r.2 fun h' => bindP (appendV Try.prog ro h' n2 #[y_s_api_Move, y_s_api_Move] [v, r.1]) (K r h') := by
  obtain ⟨i, g1, g2, g3⟩ := tin_Move
  exact append_lit (z := 2) (l := l) (y := [a, b]) (lit_Move _ _ _) rfl ho und_sMove g1 g2 (by omega) zer_Move rfl (by simp [ha, hb]) (by rw [g3]; unfold big; omega) (by unfold big; omega) hf hlo hn1 hn2 fun h' q1 q2 q3 => hK h' _ q1 rfl q2 q3
theorem rowZ_cons (g : GlD) (en st : Int → Bool) (b : Nat) (r : List Nat) (S : List StateD) : rowZ g en st (b :: r) S = if (goesZ g en st b S).2.1 = 0 then ((rowZ g en st r (goesZ g en st b S).2.2).1, (goesZ g en st b S).1 :: (rowZ g en st r (goesZ g en st b S).2.2).2.1, (rowZ g en st r (goesZ g en st b S).2.2).2.2) else ((goesZ g en st b S).2.1, [], S) := rfl
def XL (bid kid eid yid sid : Nat) (uv wv : Value) : List Nat := [bid, kid, eid, yid, sid] ++ ((sblk uv).toList ++ (sblk wv).toList)
set_option maxRecDepth 8000 in
set_option maxHeartbeats 2000000 in
theorem code_j2_c {ro : Ro} {g : GlD} {bid nid kid eid yid sid k : Nat} {av bv fv cv lv rv uv wv : Value} {c : List Nat} {n rule : Int} {S : List StateD} {cs : List (List Value)} {R : List Int} {ws : List Value} {B : List Nat} {en st : Int → Bool} {e : Env} (hg : g.p.length ≤ 512) (hBl : B.length ≤ 256)
    {h : T Obj} {nx : Nat} {K : KV} (hf : Fr h nx) (hB : Bd h g bid nid kid eid yid sid av bv fv c n cv S cs) (hen : BMap h eid en) (hst : BMap h yid st) (hek : eid ≠ kid) (hyk : yid ≠ kid) (hP : SlR ro (del h [bid, kid, sid]) bv 9 (RPos ro (del h [bid, kid, sid])) g.p) (hfv : SlR ro (del h [bid, kid, sid]) fv 1 RU8 B)
    (hx : cs[k]? = some [lv, rv, uv, wv]) (hu : OwnT h uv 1 y_int (intsZ R) 0) (hw : OwnT h wv 1 y_s_api_Move (onesC ws) 0) (hR : R.length ≤ 1000000) (hws : ws.length ≤ 1000000)
    (e0 : e 0 = ptr bid) (e1 : e 1 = .int .i64 (k : Int)) (e9 : e 9 = .int .i64 rule)
    (hKe : (rowZ g en st B S).1 ≠ 0 → ∀ h' nx', nx ≤ nx' → Fr h' nx' → Keep [bid, kid, sid] h h' → K (.int .i64 (rowZ g en st B S).1) h' nx')
    (hK : (rowZ g en st B S).1 = 0 → ∀ h' nx' sid' cs' uv' wv' rowv mcs, nx ≤ nx' → Fr h' nx' → Keep ([bid, kid, sid] ++ ((sblk uv).toList ++ (sblk wv).toList)) h h' → (sid' = sid ∨ nx ≤ sid') → Bd h' g bid nid kid eid yid sid' av bv fv c n cv (rowZ g en st B S).2.2 (cs'.set k [lv, rv, uv', wv']) →
      Grow (del h' (XL bid kid eid yid sid' uv' wv')) nx cs cs' S (rowZ g en st B S).2.2 → OwnT h' uv' 1 y_int (intsZ (R ++ [rule])) nx → OwnT h' wv' 1 y_s_api_Move (onesC (ws ++ [rowv])) nx → OwnT (del h' (XL bid kid eid yid sid' uv' wv')) rowv 2 y_api_Move mcs nx → RowOwn (del h' (XL bid kid eid yid sid' uv' wv')) nx mcs (rowZ g en st B S).2.1 → BMap h' eid en → BMap h' yid st → K (.int .i64 0) h' nx') :
    auto_builder_code_j2 ro K e h nx := by
  unfold auto_builder_code_j2
  rw [e0]
  have hb := hB.blk
  have b3 := bldL_3 (av := av) (bv := bv) (nv := .map (some nid)) (fv := fv) (c := c) (n := n) (cv := cv) (sv := .slice (some (own sid 4)) cs.length cs.length) (kv := .map (some kid)) (ev := .map (some eid)) (yv := .map (some yid))
  have hfl := hfv.len
  generalize hZ : rowZ g en st B S = Z at hKe hK
  have hkl : k < cs.length := (List.getElem?_eq_some_iff.1 hx).1
  obtain ⟨fe1, me1⟩ := hen.obj
  obtain ⟨ce1, me1⟩ := me1
  obtain ⟨fy1, my1⟩ := hst.obj
  obtain ⟨cy1, my1⟩ := my1
  have hel : eid < nx := hf.lt' me1
  have hyl : yid < nx := hf.lt' my1
  have heb : eid ≠ bid := by rintro rfl; rw [hb] at me1; cases me1
  have hyb : yid ≠ bid := by rintro rfl; rw [hb] at my1; cases my1
  have hes : eid ≠ sid := by rintro rfl; have := hB.row; rw [this] at me1; cases me1
  have hys : yid ≠ sid := by rintro rfl; have := hB.row; rw [this] at my1; cases my1
  (repeat (first | refine bindP_mk (by simp (disch := first | omega | exact Int.natCast_nonneg _ | assumption) only [BB, B2, ↓reduceIte, Nat.reduceLeDiff, Nat.reduceAdd, CC, nilCk_at, hb, b3, hfl] <;> rfl) ?_ | refine newP_mk ?_ | refine optP_mk ?_ | with_reducible first | refine condP_t ?_ | refine condP_f ?_ | refine ifP_tt' ?_ | refine ifP_ff' ?_ | refine ifP_tf' ?_ | refine ifP_ft' ?_ | refine ifP_u' ?_ | refine optP_mk0 ?_))
  refine loopP_rule (fun j e h' nx' => ∃ (i sid' : Nat) (cs' : List (List Value)) (S' : List StateD) (mcs : List (List Value)) (row : List MoveD), i + j = B.length ∧ nx ≤ nx' ∧ Fr h' nx' ∧ Keep [bid, kid, sid] h h' ∧ (sid' = sid ∨ nx ≤ sid') ∧ Bd h' g bid nid kid eid yid sid' av bv fv c n cv S' cs' ∧
    Grow h' nx cs cs' S S' ∧ RowOwn h' nx mcs row ∧ OwnT h' (e 19) 2 y_api_Move mcs nx ∧ row.length = i ∧ e 0 = ptr bid ∧ e 1 = .int .i64 (k : Int) ∧ e 9 = .int .i64 rule ∧ e 129 = fv ∧ e 130 = .int .i64 B.length ∧ e 131 = .int .i64 i ∧
    ((rowZ g en st (B.drop i) S').1, row ++ (rowZ g en st (B.drop i) S').2.1, (rowZ g en st (B.drop i) S').2.2) = Z) ?_ (n := B.length)
    ⟨0, sid, cs, S, [], [], by omega, by omega, hf.mono (by omega), (Sub.refl h).keepL, .inl rfl, hB, Grow.refl, ⟨rfl, fun i x m hx => by simp at hx⟩, OwnT.nil, rfl, e0, e1, e9, rfl, rfl, rfl, by rw [← hZ]; rfl⟩
  rintro j e' h' nx' ⟨i, sid', cs', S', mcs, row, hj, hnx, hf', hkp, hsd, hB', hgr, hro, hrv, hrl, f0, f1, f9, f129, f130, f131, hrow⟩ Q' hq hxx
  have hsubD : Sub (del h [bid, kid, sid]) h' := fun q o hq9 => by
    rw [del_get] at hq9
    split at hq9
    · cases hq9
    · rename_i hn; exact hkp q o hq9 hn
  have hfv' := hfv.sub hsubD fun _ _ h => h
  have hP' := hP.sub hsubD (RPos.sub hsubD)
  have hen' : BMap h' eid en := hen.keepK hkp (by simp [heb, hek, hes])
  have hst' : BMap h' yid st := hst.keepK hkp (by simp [hyb, hyk, hys])
  unfold auto_builder_code_L1
  rw [f0, f129, f130, f131]
  refine lss_s (fun hi => ?_) (fun hi => ?_)
  · have hi : i < B.length := by omega
    rw [drop_cons hi, rowZ_cons] at hrow
    obtain ⟨w, ⟨w1, w2⟩, w3⟩ := hfv'.at1 hi
    have w1 : w = .int .u8 (B[i] : Int) := by simpa using w1
    subst w1
    generalize B[i] = b at hrow w2 w3
    refine condP_t (bindP_mk (hfv'.ix _ hi) (bindP_mk w3 ?_))
    refine auto_goes_c hg w2 (hf'.mono (show nx' ≤ nx' + 7 by omega)) hB' hen' hst' hP' fun h3 n3 sid3 cs3 ov r1 r2 r3 r4 r5 r6 r7 => ?_
    generalize goesZ g en st b S' = G at hrow r5 r6 r7
    have hkp3 : Keep [bid, kid, sid] h h3 := Keep.chain hf hkp r3 hsd
    have t1 : TyKeep y_int h' h3 := hB'.tyk r3 (by decide) (by decide)
    have t2 : TyKeep y_uint8 h' h3 := hB'.tyk r3 (by decide) (by decide)
    have t3 : TyKeep y_api_Move h' h3 := hB'.tyk r3 (by decide) (by decide)
    have hgr3 := (hgr.ty t1).trans r6 (show nx ≤ nx' + 7 by omega)
    have hovk := r7.ok
    (repeat (first | refine bindP_mk (by simp (disch := first | omega | exact Int.natCast_nonneg _ | assumption) only [BB, B2, ↓reduceIte, Nat.reduceLeDiff, Nat.reduceAdd, CC, nth0, nth1] <;> rfl) ?_ | refine newP_mk ?_ | refine optP_mk ?_ | with_reducible first | refine condP_t ?_ | refine condP_f ?_ | refine ifP_tt' ?_ | refine ifP_ff' ?_ | refine ifP_tf' ?_ | refine ifP_ft' ?_ | refine ifP_u' ?_ | refine optP_mk0 ?_))
    refine local_mk zer_Move rfl (x := [.int .i64 G.1.to, ov]) rfl rfl (by simp only [List.all_cons, List.all_nil, hovk]; rfl) r2 (show n3 ≤ n3 + 3 by omega) fun h4 hs4 hf4 g4 _ => ?_
    refine neq_s (fun u1 => ?_) (fun u1 => ?_)
    · (repeat (first | refine bindP_mk (by simp (disch := first | omega | exact Int.natCast_nonneg _ | assumption) only [BB, B2, ↓reduceIte, Nat.reduceLeDiff, Nat.reduceAdd, CC] <;> rfl) ?_ | refine newP_mk ?_ | refine optP_mk ?_ | with_reducible first | refine condP_t ?_ | refine condP_f ?_ | refine ifP_tt' ?_ | refine ifP_ff' ?_ | refine ifP_tf' ?_ | refine ifP_ft' ?_ | refine ifP_u' ?_ | refine optP_mk0 ?_))
      refine hxx _ _ _ _ (fun e => by cases e) (exP_r ?_)
      rw [if_neg u1] at hrow
      have hz1 : Z.1 = G.2.1 := by rw [← hrow]
      refine ⟨h4, Sub.refl _, ?_⟩
      show K (.int .i64 G.2.1) h4 _
      rw [← hz1]
      exact hKe (by rw [hz1]; exact u1) _ _ (by omega) (hf4.mono (by omega)) (hkp3.trans hs4.keepL)
    · rw [if_pos u1] at hrow
      refine condP_f (bindP_mk (loadA_all (l := [.int .i64 G.1.to, ov]) g4 rfl) ?_)
      have hrv4 := (hrv.ty t3).keepS hs4
      refine app_Move rfl hovk hrv4 (by rw [hro.1]; omega) (hf4.mono (show n3 + 3 + 1 ≤ n3 + 10 by omega)) (by omega) (by omega) (by omega) fun h5 w5 s1 s2 s3 s4 => ?_
      dsimp only
      refine bindP_mk (intB_add _ _ _) ?_
      rw [wr_i64 (by omega) (by omega)]
      have t4 : TyKeep y_int h3 h5 := (hs4.ty).trans (s3.ty hrv4 (by decide))
      have t5 : TyKeep y_uint8 h3 h5 := (hs4.ty).trans (s3.ty hrv4 (by decide))
      have hkp5 : Keep [bid, kid, sid] h h5 := fun q o hq9 hn => by
        have hql := hf.lt' hq9
        refine s3 q o (hs4 _ _ (hkp3 q o hq9 hn)) fun e => ?_
        have := (hrv4.blk e).1
        omega
      have hB5 : Bd h5 g bid nid kid eid yid sid3 av bv fv c n cv G.2.2 cs3 := (r5.sub hs4).keepN fun q o hq9 hd => s3 q o hq9 fun e => by
        obtain ⟨z1, z2⟩ := hrv4.blk e
        have hB4 := r5.sub hs4
        obtain ⟨a1, a2, a3⟩ := hB4.num
        obtain ⟨_, _, a4⟩ := a2.obj
        obtain ⟨d1, d2, d3⟩ := hB4.known
        obtain ⟨_, _, d4⟩ := d2.obj
        rcases hd with rfl | rfl | rfl | rfl
        · have := hB4.blk
          rw [z2] at this
          simp only [Option.some.injEq, Obj.cells.injEq] at this
          exact absurd this.2.1 (by decide)
        · rw [z2] at a4; cases a4
        · rw [z2] at d4; cases d4
        · have := hB4.row
          rw [z2] at this
          simp only [Option.some.injEq, Obj.cells.injEq] at this
          exact absurd this.2.1 (by decide)
      refine hq (j - 1) _ _ _ _ (by omega) ⟨i + 1, sid3, cs3, G.2.2, mcs ++ [[.int .i64 G.1.to, ov]], row ++ [G.1], by omega, by omega, s4.mono (by omega), hkp5, ?_, hB5, hgr3.ty t4, ?_, ?_, by simp [hrl], f0, f1, f9, f129, f130, rfl, ?_⟩ (Sub.refl _)
      · rcases r4 with r4 | r4
        · rw [r4]; exact hsd
        · exact .inr (by omega)
      · have ho1 := hro.ty (t2.trans t5)
        refine ⟨by simp [hro.1], fun q x m hx9 hm9 => ?_⟩
        rcases Nat.lt_or_ge q mcs.length with hql | hql
        · rw [List.getElem?_append_left hql] at hx9
          rw [List.getElem?_append_left (by have := hro.1; omega)] at hm9
          exact ho1.2 q x m hx9 hm9
        · rw [List.getElem?_append_right hql] at hx9
          rw [List.getElem?_append_right (by have := hro.1; omega), ← hro.1] at hm9
          generalize q - mcs.length = q' at hx9 hm9
          cases q' with
          | succ q' => simp at hx9
          | zero =>
            simp at hx9 hm9
            subst hx9; subst hm9
            exact ⟨ov, rfl, (r7.ty t5).mono (by omega)⟩
      · exact s1
      · rw [← hrow]; simp
  · refine condP_f ?_
    refine hxx _ _ _ _ (fun e => by cases e) (exP_e (beqP_t ?_))
    rw [drop_all (l := B) (by omega)] at hrow
    have hrow : ((0 : Int), row, S') = Z := by simpa [rowZ] using hrow
    subst hrow
    have hgr' := hgr
    obtain ⟨ds, T, a1, a2, a3, a4⟩ := hgr'
    have hx' : cs'[k]? = some [lv, rv, uv, wv] := by rw [a1, List.getElem?_append_left hkl]; exact hx
    have ti : TyKeep y_int h h' := hB.tyk hkp (by decide) (by decide)
    have tw : TyKeep y_s_api_Move h h' := hB.tyk hkp (by decide) (by decide)
    have hu' := hu.ty ti
    have hw' := hw.ty tw
    have hrvk := hrv.ok
    have hul : ∀ id, id ∈ (sblk uv).toList ++ (sblk wv).toList → id < nx := by
      intro id hid
      rcases List.mem_append.1 hid with hid | hid
      · have := (hu.blk (by simpa using hid)).2
        exact hf.lt' this
      · have := (hw.blk (by simpa using hid)).2
        exact hf.lt' this
    refine code_j3_c (hf'.mono (show nx' ≤ nx' + 1 by omega)) hB' hx' hu' hw' hR hws hrvk f0 f1 f9 rfl fun h2 n2 uv' wv' p1 p2 p3 p4 p5 p6 => ?_
    have hrow' := hB'.row
    -- what is new stays
    obtain ⟨b1, b2, b3, b4⟩ := hB.lt hf
    have hold : ∀ {v : Value} {z : Nat} {e : TypeId} {l : List (List Value)}, e ≠ y_api_State → OwnT h' v z e l nx → OwnT (del h2 (XL bid kid eid yid sid' uv' wv')) v z e l nx := fun he ho => by
      have hns : ∀ id, sblk _ = some id → id ≠ sid' := fun id hid => by
        obtain ⟨z1, z2⟩ := ho.blk hid
        rintro rfl
        rw [hrow'] at z2
        simp only [Option.some.injEq, Obj.cells.injEq] at z2
        exact he z2.2.1.symm
      refine (ho.keepK p3 fun id hid => ?_).del fun id hid => ?_
      · obtain ⟨z1, z2⟩ := ho.blk hid
        simp only [List.mem_cons, not_or]
        refine ⟨hns id hid, fun hm => ?_⟩
        have := hul _ hm; omega
      · obtain ⟨z1, z2⟩ := ho.blk hid
        have z3 := hf'.lt' z2
        have z4 := hns id hid
        unfold XL
        simp only [List.mem_append, List.mem_cons, List.not_mem_nil, or_false, not_or, Option.mem_toList]
        refine ⟨⟨by omega, by omega, by omega, by omega, z4⟩, fun h9 => ?_, fun h9 => ?_⟩
        · have := (p5.blk h9).1; omega
        · have := (p6.blk h9).1; omega
    refine hK rfl h2 n2 sid' cs' uv' wv' _ mcs (by omega) p2 ?_ hsd p4 ?_ (p5.mono (by omega)) (p6.mono (by omega)) (hold (by decide) hrv) ?_ ?_ ?_
    · intro q o hq9 hn
      have hql := hf.lt' hq9
      simp only [List.mem_append, List.mem_cons, List.not_mem_nil, or_false, not_or] at hn
      refine p3 q o (hkp q o hq9 (by simp; exact hn.1)) ?_
      simp only [List.mem_cons, List.mem_append, not_or]
      refine ⟨?_, hn.2⟩
      rcases hsd with rfl | hs
      · exact hn.1.2.2
      · omega
    · refine ⟨ds, T, a1, a2, a3, fun q x s hx9 hs9 => ?_⟩
      obtain ⟨l1, l2, l3, l4, l5, l6⟩ := a4 q x s hx9 hs9
      exact ⟨l1, l2, l3, hold (by decide) l4, hold (by decide) l5, l6⟩
    · refine ⟨hro.1, fun q x m hx9 hm9 => ?_⟩
      obtain ⟨ov, o1, o2⟩ := hro.2 q x m hx9 hm9
      exact ⟨ov, o1, hold (by decide) o2⟩
    · refine hen'.keepK p3 ?_
      simp only [List.mem_cons, not_or]
      refine ⟨?_, ?_⟩
      · rcases hsd with rfl | hs
        · exact hes
        · omega
      · intro hm
        rcases List.mem_append.1 hm with hm | hm
        · obtain ⟨_, z⟩ := hu.blk (id := eid) (by simpa using hm)
          rw [me1] at z; cases z
        · obtain ⟨_, z⟩ := hw.blk (id := eid) (by simpa using hm)
          rw [me1] at z; cases z
    · refine hst'.keepK p3 ?_
      simp only [List.mem_cons, not_or]
      refine ⟨?_, ?_⟩
      · rcases hsd with rfl | hs
        · exact hys
        · omega
      · intro hm
        rcases List.mem_append.1 hm with hm | hm
        · obtain ⟨_, z⟩ := hu.blk (id := yid) (by simpa using hm)
          rw [my1] at z; cases z
        · obtain ⟨_, z⟩ := hw.blk (id := yid) (by simpa using hm)
          rw [my1] at z; cases z
end V
end Go.Proofs.Ytmmdcdjkmakgpaa
set_option linter.unusedVariables false
set_option linter.unusedSimpArgs false
namespace Go.Proofs.Ytmmdcdjkmakgpaa
namespace V
open PA
attribute [local irreducible] bindP ifP condP newP optP exP beqP
theorem del_mono {h : T Obj} {l l' : List Nat} (hl : ∀ k, k ∈ l → k ∈ l') : Sub (del h l') (del h l) := fun k o hk => by
  rw [del_get] at hk
  split at hk
  · cases hk
  · rename_i hn
    exact del_some hk fun h => hn (hl k h)
theorem Keep.delS {ids l : List Nat} {h h' : T Obj} (hk : Keep ids h h') (hl : ∀ k, k ∈ ids → k ∈ l) : Sub (V.del h l) h' := fun k o hg => by
  rw [del_get] at hg
  split at hg
  · cases hg
  · rename_i hn; exact hk k o hg fun h => hn (hl k h)
theorem digs_fst (g : GlD) : ∀ (l : List Int) (c : Int), (digs g l c).map (·.1) = l
  | [], c => rfl
  | p :: r, c => by
    rw [digs_cons]
    split <;> simp [digs_fst g r]
theorem digs_snd (g : GlD) : ∀ (l : List Int) (c : Int), 0 ≤ c → ∀ d ∈ digs g l c, d.2 = -1 ∨ d.2 = 0 ∨ d.2 = 1 ∨ d.2 = 2
  | [], c, _, d, hd => by cases hd
  | p :: r, c, hc, d, hd => by
    rw [digs_cons] at hd
    split at hd
    · rcases List.mem_cons.1 hd with rfl | hd
      · show c % 3 = _ ∨ c % 3 = _ ∨ c % 3 = _ ∨ c % 3 = _
        omega
      · exact digs_snd g r (c / 3) (by omega) d hd
    · rcases List.mem_cons.1 hd with rfl | hd
      · exact .inl rfl
      · exact digs_snd g r c hc d hd
theorem ruleZ_cons (g : GlD) (best : Int) (d : Int × Int) (r : List (Int × Int)) : ruleZ g best (d :: r) = ruleZ g (if decide (d.2 ≠ 0) && ((g.at d.1).last && (decide (best < 0) || decide ((g.at d.1).rule < best))) then (g.at d.1).rule else best) r := rfl
def enD (g : GlD) (D : List (Int × Int)) (q : Int) : Bool := D.any fun d => decide (d.2 ≠ 0) && (g.at d.1).next.contains q
theorem enD_snoc (g : GlD) (D : List (Int × Int)) (d : Int × Int) (q : Int) : enD g (D ++ [d]) q = (enD g D q || (decide (d.2 ≠ 0) && (g.at d.1).next.contains q)) := by simp [enD]
theorem staysZ_snoc (D : List (Int × Int)) (d : Int × Int) (q : Int) : staysZ (D ++ [d]) q = (staysZ D q || (decide (d.1 = q) && (decide (d.2 = 0) || decide (d.2 = 2)))) := by simp [staysZ]
theorem staysZ_no {D : List (Int × Int)} {q : Int} (h : ∀ d ∈ D, d.1 ≠ q) : staysZ D q = false := by
  unfold staysZ
  rw [List.any_eq_false]
  intro d hd
  simp [h d hd]
theorem right_parts {g : GlD} (h : rightD g = true) : g.p.length ≤ 512 ∧ rz (-1) g.p.length g.first = true ∧ ∀ p ∈ g.p, mayD g.p.length p = true := by
  unfold rightD at h
  simp only [Bool.and_eq_true, decide_eq_true_eq, List.all_eq_true] at h
  exact ⟨h.1, h.2.1, h.2.2⟩
theorem may_parts {m : Int} {p : PosD} (h : mayD m p = true) : 1 ≤ p.lo ∧ p.lo ≤ p.hi ∧ p.hi ≤ 4096 ∧ 0 ≤ p.rule ∧ p.rule < 512 ∧ rz (-1) m p.next = true := by
  unfold mayD at h
  simp only [Bool.and_eq_true, decide_eq_true_eq] at h
  exact ⟨h.2.1, h.2.2.1, h.2.2.2.1, h.2.2.2.2.1, h.2.2.2.2.2.1, h.2.2.2.2.2.2⟩
theorem rz_lenN : ∀ {l : List Int} {a m : Int}, rz a m l = true → a < m → (l.length : Int) + a + 1 ≤ m
  | [], a, m, h, ha => by simp; omega
  | x :: r, a, m, h, ha => by
    simp only [rz, Bool.and_eq_true, decide_eq_true_eq] at h
    have := rz_lenN h.2.2 h.2.1
    rw [List.length_cons]; omega
theorem rz_pairs : ∀ {l : List Int} {a m : Int}, rz a m l = true → l.Pairwise (· < ·)
  | [], _, _, _ => List.Pairwise.nil
  | x :: r, a, m, h => by
    simp only [rz, Bool.and_eq_true, decide_eq_true_eq] at h
    exact List.Pairwise.cons (fun y hy => (rz_mem h.2.2 y hy).1) (rz_pairs h.2.2)
theorem contains_take {l : List Int} {k : Nat} (hk : k < l.length) (q : Int) : (l.take (k + 1)).contains q = ((l.take k).contains q || decide (q = l[k])) := by
  rw [List.take_succ_eq_append_getElem hk]
  simp only [List.contains_eq_mem, List.mem_append, List.mem_singleton, Bool.decide_or]
section
variable {ro : Ro} {g : GlD} {bid nid kid eid yid sid k did sl : Nat} {av bv fv cv lv rv uv wv : Value} {c : List Nat} {n : Int} {S : List StateD} {cs : List (List Value)} {D : List (Int × Int)}
set_option maxRecDepth 8000 in
set_option maxHeartbeats 2000000 in
theorem code_L2_c (hr : rightD g = true) (hz : rz (-1) g.p.length (D.map (·.1)) = true) (hd : ∀ d ∈ D, d.2 = -1 ∨ d.2 = 0 ∨ d.2 = 1 ∨ d.2 = 2) (hey : eid ≠ yid) (hen : eid ≠ nid) (hek : eid ≠ kid) (hyn : yid ≠ nid) (hyk : yid ≠ kid) {e : Env} {en0 : Int → Bool} {f : Int → Option Value}
    {h : T Obj} {nx : Nat} {K : KV} (hf : Fr h nx) (hB : Bd h g bid nid kid eid yid sid av bv fv c n cv S cs) (hE : BMap h eid en0) (hY : BMap h yid fun _ => false) (hD : MapG injI h did f) (hDo : DOk f D) (hde : did ≠ eid) (hdy : did ≠ yid)
    (hP : SlR ro (del h [eid, yid]) bv 9 (RPos ro (del h [eid, yid])) g.p) (hl : ZI ro (del h [eid, yid]) lv (D.map (·.1)))
    (e0 : e 0 = ptr bid) (e1 : e 1 = .int .i64 (k : Int)) (e8 : e 8 = .map (some did)) (e9 : e 9 = .int .i64 (-1)) (e63 : e 63 = lv) (e64 : e 64 = .int .i64 D.length) (e65 : e 65 = .int .i64 0) {Q : KE}
    (hQ : ∀ e' h' nx' en st, nx ≤ nx' → Fr h' nx' → Keep [eid, yid] h h' → BMap h' eid en → BMap h' yid st → (∀ q, en q = (en0 q || enD g D q)) → (∀ q, st q = staysZ D q) → e' 0 = ptr bid → e' 1 = .int .i64 (k : Int) → e' 9 = .int .i64 (ruleZ g (-1) D) → Q (.exit 2) e' h' nx') :
    loopP (auto_builder_code_L2 ro) e h nx Q := by
  obtain ⟨hgl, hfr, hmay⟩ := right_parts hr
  have hDl : D.length ≤ 512 := by
    have := rz_lenN hz (by omega)
    simp at this; omega
  generalize hrf : ruleZ g (-1) D = rf at hQ
  have hbid : eid ≠ bid ∧ yid ≠ bid ∧ eid ≠ sid ∧ yid ≠ sid := by
    obtain ⟨es1, c1, o1⟩ := hE.obj
    obtain ⟨es2, c2, o2⟩ := hY.obj
    have h1 := hB.blk
    have h2 := hB.row
    refine ⟨?_, ?_, ?_, ?_⟩ <;> rintro rfl
    · rw [o1] at h1; cases h1
    · rw [o2] at h1; cases h1
    · rw [o1] at h2; cases h2
    · rw [o2] at h2; cases h2
  refine loopP_rule (fun j e h' nx' => ∃ (i : Nat) (en st : Int → Bool) (ru : Int), i + j = D.length ∧ nx ≤ nx' ∧ Fr h' nx' ∧ Keep [eid, yid] h h' ∧ BMap h' eid en ∧ BMap h' yid st ∧ (∀ q, en q = (en0 q || enD g (D.take i) q)) ∧ (∀ q, st q = staysZ (D.take i) q) ∧
    e 0 = ptr bid ∧ e 1 = .int .i64 (k : Int) ∧ e 8 = .map (some did) ∧ e 9 = .int .i64 ru ∧ e 63 = lv ∧ e 64 = .int .i64 D.length ∧ e 65 = .int .i64 i ∧ ruleZ g ru (D.drop i) = rf) ?_ (n := D.length)
    ⟨0, en0, fun _ => false, -1, by omega, by omega, hf, (Sub.refl h).keepL, hE, hY, fun q => by simp [enD], fun q => by simp [staysZ], e0, e1, e8, e9, e63, e64, e65, hrf⟩
  rintro j e h' nx' ⟨i, en, st, ru, hj, hnx, hf', hkp, hE', hY', hen', hst', f0, f1, f8, f9, f63, f64, f65, hru⟩ Q' hq hx
  have hsd : Sub (del h [eid, yid]) h' := hkp.delS fun _ h => h
  have hB' : Bd h' g bid nid kid eid yid sid av bv fv c n cv S cs := hB.keepN fun q o hq9 hd9 => hkp q o hq9 (by
    simp only [List.mem_cons, List.not_mem_nil, or_false, not_or]
    rcases hd9 with rfl | rfl | rfl | rfl
    · exact ⟨hbid.1.symm, hbid.2.1.symm⟩
    · exact ⟨hen.symm, hyn.symm⟩
    · exact ⟨hek.symm, hyk.symm⟩
    · exact ⟨hbid.2.2.1.symm, hbid.2.2.2.symm⟩)
  have hD' : MapG injI h' did f := by
    obtain ⟨es, c9, ps, a1, a2, a3⟩ := hD
    exact ⟨es, c9, ps, hkp _ _ a1 (by simp [hde, hdy]), a2, a3⟩
  have hl' := hl.sub hsd
  have hP' := hP.sub hsd (RPos.sub hsd)
  have hbk := hB'.blk
  have b1 := bldL_1 (av := av) (bv := bv) (nv := .map (some nid)) (fv := fv) (c := c) (n := n) (cv := cv) (sv := .slice (some (own sid 4)) cs.length cs.length) (kv := .map (some kid)) (ev := .map (some eid)) (yv := .map (some yid))
  have b264 := bldL_264 (av := av) (bv := bv) (nv := .map (some nid)) (fv := fv) (n := n) (cv := cv) (sv := .slice (some (own sid 4)) cs.length cs.length) (kv := .map (some kid)) (ev := .map (some eid)) (yv := .map (some yid)) hB.hc
  have b265 := bldL_265 (av := av) (bv := bv) (nv := .map (some nid)) (fv := fv) (n := n) (cv := cv) (sv := .slice (some (own sid 4)) cs.length cs.length) (kv := .map (some kid)) (ev := .map (some eid)) (yv := .map (some yid)) hB.hc
  unfold auto_builder_code_L2
  rw [f0, f8, f63, f64, f65]
  refine lss_s (fun hi => ?_) (fun hi => ?_)
  · have hi : i < D.length := by omega
    have hil : i < (D.map (·.1)).length := by simpa using hi
    have hld := hl'.load hil
    have hxm := rz_mem hz _ (List.getElem_mem hil)
    have hdi := hd _ (List.getElem_mem hi)
    have hfo := hDo _ (List.getElem_mem hi)
    have hgm : (D.map (·.1))[i] = (D[i]).1 := by simp
    rw [hgm] at hld hxm
    rw [drop_cons hi, ruleZ_cons] at hru
    have hex : ∀ d ∈ D.take i, d.1 ≠ (D[i]).1 := by
      intro d hd9 he
      obtain ⟨m, hm⟩ := List.mem_iff_getElem?.1 hd9
      rw [List.getElem?_take] at hm
      split at hm
      · rename_i hmi
        have hml := (List.getElem?_eq_some_iff.1 hm).1
        have hpw := List.pairwise_iff_getElem.1 (rz_pairs hz) m i (by simpa using hml) hil hmi
        simp only [List.getElem_map] at hpw
        have : D[m] = d := by
          rw [List.getElem?_eq_getElem hml] at hm
          exact Option.some.inj hm
        rw [this, he] at hpw
        omega
      · cases hm
    have hst0 : staysZ (D.take i) (D[i]).1 = false := staysZ_no hex
    have hen1 : ∀ q, enD g (D.take (i + 1)) q = (enD g (D.take i) q || (decide ((D[i]).2 ≠ 0) && (g.at (D[i]).1).next.contains q)) := fun q => by rw [List.take_succ_eq_append_getElem hi, enD_snoc]
    have hst1 : ∀ q, staysZ (D.take (i + 1)) q = (staysZ (D.take i) q || (decide ((D[i]).1 = q) && (decide ((D[i]).2 = 0) || decide ((D[i]).2 = 2)))) := fun q => by rw [List.take_succ_eq_append_getElem hi, staysZ_snoc]
    generalize D[i] = dd at hld hxm hdi hfo hru hst0 hen1 hst1
    obtain ⟨x, d⟩ := dd
    dsimp only at hld hxm hdi hfo hru hst0 hen1 hst1
    have hxl : x.toNat < g.p.length := by omega
    have hpx : g.at x = g.p[x.toNat] := by
      unfold GlD.at
      rw [List.getD_eq_getElem?_getD, List.getElem?_eq_getElem hxl]; rfl
    obtain ⟨y, ⟨nv, rfl, y1, y2⟩, x2, x3, x4, x5⟩ := hP'.at hxl
    rw [← hpx] at x2 x3 x5 y1 y2
    have hmx := may_parts (hmay _ (List.getElem_mem hxl))
    rw [← hpx] at hmx
    have hlk := look_iu hD' x
    rw [hfo] at hlk
    refine condP_t (bindP_mk (hl'.ix _ hil) (bindP_mk hld ?_))
    (repeat (first | refine bindP_mk (by simp (disch := first | omega | exact Int.natCast_nonneg _ | assumption) only [BB, B2, ↓reduceIte, Nat.reduceLeDiff, Nat.reduceAdd, CC, nilCk_at, hbk, b1] <;> rfl) ?_ | refine newP_mk ?_ | refine optP_mk ?_ | with_reducible first | refine condP_t ?_ | refine condP_f ?_ | refine ifP_tt' ?_ | refine ifP_ff' ?_ | refine ifP_tf' ?_ | refine ifP_ft' ?_ | refine ifP_u' ?_ | refine optP_mk0 ?_))
    refine bindP_mk (hP'.ixI _ (by omega) (by omega)) (bindP_mk x3 ?_)
    refine local_mk zer_PosZ rfl (x := posL (g.at x) nv) rfl rfl (posL_ok y1.ok) hf' (show nx' ≤ nx' + 12 by omega) fun h3 hs3 hf3 g3 _ => ?_
    have hlk3 := look_iu (hD'.sub hs3) x
    rw [hfo] at hlk3
    have hb3 := hs3 _ _ hbk
    have hn3 := y1.sub hs3
    have hnl := hn3.len
    have hE3 : BMap h3 eid en := by obtain ⟨f, q1, q2⟩ := hE'; exact ⟨f, q1.sub hs3, q2⟩
    have hY3 : BMap h3 yid st := by obtain ⟨f, q1, q2⟩ := hY'; exact ⟨f, q1.sub hs3, q2⟩
    have hk3 := hkp.trans hs3.keepL
    have hel := (hE3.obj)
    obtain ⟨_, _, hel⟩ := hel
    have hel := hf3.lt' hel
    obtain ⟨_, _, hyl⟩ := hY3.obj
    have hyl := hf3.lt' hyl
    have hel' : eid < nx' := by obtain ⟨_, _, q⟩ := hE'.obj; exact hf'.lt' q
    have hyl' : yid < nx' := by obtain ⟨_, _, q⟩ := hY'.obj; exact hf'.lt' q
    -- the end of a round
    have hj4 : ∀ (e : Env) (h4 : T Obj) (n4 : Nat) (en' st' : Int → Bool) (ru' : Int), nx' ≤ n4 → Fr h4 n4 → Keep [eid, yid] h h4 → BMap h4 eid en' → BMap h4 yid st' → (∀ q, en' q = (en0 q || enD g (D.take (i + 1)) q)) → (∀ q, st' q = staysZ (D.take (i + 1)) q) →
        e 0 = ptr bid → e 1 = .int .i64 (k : Int) → e 8 = .map (some did) → e 9 = .int .i64 ru' → e 63 = lv → e 64 = .int .i64 D.length → e 65 = .int .i64 i → ruleZ g ru' (D.drop (i + 1)) = rf → auto_builder_code_j4 ro Q' e h4 n4 := by
      intro e h4 n4 en' st' ru' hn4 s1 s2 s3 s4 s5 s6 f0 f1 f8 f9 f63 f64 f65 s7
      unfold auto_builder_code_j4
      rw [f65]
      (repeat (first | refine bindP_mk (by simp (disch := first | omega | exact Int.natCast_nonneg _ | assumption) only [BB, B2, ↓reduceIte, Nat.reduceLeDiff, Nat.reduceAdd, CC] <;> rfl) ?_ | refine newP_mk ?_ | refine optP_mk ?_ | with_reducible first | refine condP_t ?_ | refine condP_f ?_ | refine ifP_tt' ?_ | refine ifP_ff' ?_ | refine ifP_tf' ?_ | refine ifP_ft' ?_ | refine ifP_u' ?_ | refine optP_mk0 ?_))
      exact hq (j - 1) _ _ _ _ (by omega) ⟨i + 1, en', st', ru', by omega, by omega, s1.mono (by omega), s2, s3, s4, s5, s6, f0, f1, f8, f9, f63, f64, rfl, s7⟩ (Sub.refl _)
    -- the places behind, and the rule
    have hL3 : ∀ (e : Env) (h4 : T Obj) (n4 : Nat) (st' : Int → Bool), nx' + 13 ≤ n4 → Fr h4 n4 → Keep [eid, yid] h h4 → Keep [eid, yid] h3 h4 → BMap h4 eid en → BMap h4 yid st' → (∀ q, st' q = staysZ (D.take (i + 1)) q) → d ≠ 0 →
        e 0 = ptr bid → e 1 = .int .i64 (k : Int) → e 8 = .map (some did) → e 9 = .int .i64 ru → e 14 = ptr (nx' + 12) → e 63 = lv → e 64 = .int .i64 D.length → e 65 = .int .i64 i → e 99 = nv → e 100 = .int .i64 (g.at x).next.length → e 101 = .int .i64 0 →
        loopP (auto_builder_code_L3 ro) e h4 n4 fun x183 e180 h181 n182 => exP x183 (auto_builder_code_j5 ro Q' e180 h181 n182) (fun i184 => beqP (Nat.beq i184 4) (auto_builder_code_j5 ro Q' e180 h181 n182) (beqP (Nat.beq i184 3) (auto_builder_code_j4 ro Q' e180 h181 n182) (Q' (.exit i184) e180 h181 n182))) (Q' .ret e180 h181 n182) := by
      intro e h4 n4 st' hn4 s1 s2 s2' s3 s4 s5 hd0 f0 f1 f8 f9 f14 f63 f64 f65 f99 f100 f101
      have hnxt : (g.at x).next.length ≤ 512 := by have := rz_lenN hmx.2.2.2.2.2 (by omega); omega
      refine loopP_rule (fun j2 e h5 n5 => ∃ (m : Nat) (en' : Int → Bool), m + j2 = (g.at x).next.length ∧ n4 ≤ n5 ∧ Fr h5 n5 ∧ Keep [eid, yid] h4 h5 ∧ BMap h5 eid en' ∧ BMap h5 yid st' ∧ (∀ q, en' q = (en q || ((g.at x).next.take m).contains q)) ∧
        e 0 = ptr bid ∧ e 1 = .int .i64 (k : Int) ∧ e 8 = .map (some did) ∧ e 9 = .int .i64 ru ∧ e 14 = ptr (nx' + 12) ∧ e 63 = lv ∧ e 64 = .int .i64 D.length ∧ e 65 = .int .i64 i ∧ e 99 = nv ∧ e 100 = .int .i64 (g.at x).next.length ∧ e 101 = .int .i64 m) ?_ (n := (g.at x).next.length)
        ⟨0, en, by omega, by omega, s1, (Sub.refl h4).keepL, s3, s4, fun q => by simp, f0, f1, f8, f9, f14, f63, f64, f65, f99, f100, f101⟩
      rintro j2 e h5 n5 ⟨m, en', hj2, hn5, hf5, hk5, hE5, hY5, hen5, f0, f1, f8, f9, f14, f63, f64, f65, f99, f100, f101⟩ Q2 hq2 hx2
      have hk35 : Keep [eid, yid] h3 h5 := s2'.trans hk5
      have hn5' : ZI ro h5 nv (g.at x).next := by
        have hsub9 : Sub (del h [eid, yid]) h5 := (s2.trans hk5).delS fun _ h => h
        obtain ⟨y', ⟨nv', q1, q2, q3⟩, q4, q5, q6, q7⟩ := (hP.sub hsub9 (RPos.sub hsub9)).at hxl
        rw [← hpx] at q1 q2 q3
        have : nv' = nv := by
          obtain ⟨y7, z4, z5, z6, z7⟩ := hP.at hxl
          have a1 := loadA_sub hsd z6
          have a2 := loadA_sub hsub9 z6
          rw [x3] at a1
          rw [q5, q1] at a2
          have a3 := Option.some.inj (a2.trans (Eq.symm a1))
          simp only [Value.agg.injEq] at a3
          have a4 := congrArg Array.toList a3
          simp [posL, setL] at a4
          exact a4
        rw [← this]; exact q2
      have hb5 : h5.get bid = _ := hk35 _ _ hb3 (by simp [hbid.1.symm, hbid.2.1.symm])
      unfold auto_builder_code_L3
      rw [f0, f99, f100, f101]
      refine lss_s (fun hm => ?_) (fun hm => ?_)
      · have hm : m < (g.at x).next.length := by omega
        have hld5 := hn5'.load hm
        have hct := contains_take hm
        generalize (g.at x).next[m] = q0 at hld5 hct
        refine condP_t (bindP_mk (hn5'.ix _ hm) (bindP_mk hld5 ?_))
        obtain ⟨es, ec, p1, p2⟩ := hE5.put q0 true
        (repeat (first | refine bindP_mk (by simp (disch := first | omega | exact Int.natCast_nonneg _ | assumption) only [BB, B2, ↓reduceIte, Nat.reduceLeDiff, Nat.reduceAdd, CC, nilCk_at, hb5, b264, p1] <;> rfl) ?_ | refine newP_mk ?_ | refine optP_mk ?_ | with_reducible first | refine condP_t ?_ | refine condP_f ?_ | refine ifP_tt' ?_ | refine ifP_ff' ?_ | refine ifP_tf' ?_ | refine ifP_ft' ?_ | refine ifP_u' ?_ | refine optP_mk0 ?_))
        refine hq2 (j2 - 1) _ _ _ _ (by omega) ⟨m + 1, _, by omega, by omega, (hf5.mono (show n5 ≤ n5 + 12 by omega)).upd (Nat.le_refl _) (by omega), hk5.upd (by simp), p2 _ (by rw [T.get_upd_same]), hY5.keep (by rw [T.get_upd_ne _ _ hey.symm]), fun q => ?_, f0, f1, f8, f9, f14, f63, f64, f65, f99, f100, rfl⟩ (Sub.refl _)
        show (if q = q0 then true else en' q) = _
        rw [hct, hen5]
        by_cases hqq : q = q0
        · rw [if_pos hqq, decide_eq_true hqq]; simp
        · rw [if_neg hqq, decide_eq_false hqq, Bool.or_false]
      · refine condP_f ?_
        refine hx2 _ _ _ _ (fun e => by cases e) (exP_e (beqP_t ?_))
        rw [List.take_of_length_le (by omega)] at hen5
        have hen6 : ∀ q, en' q = (en0 q || enD g (D.take (i + 1)) q) := fun q => by
          rw [hen5, hen', hen1, decide_eq_true hd0, Bool.true_and, Bool.or_assoc]
        have hk6 : Keep [eid, yid] h h5 := s2.trans hk5
        have g5 : h5.get (nx' + 12) = some (.cells (posL (g.at x) nv).toArray y_api_Pos) := hk35 _ _ g3 (by simp; omega)
        have pl7 : (posL (g.at x) nv)[7]? = some (.bool (g.at x).last) := rfl
        have pl6 : (posL (g.at x) nv)[6]? = some (.int .i64 (g.at x).rule) := rfl
        have fin : ∀ (e : Env) n6, n5 ≤ n6 → e 0 = ptr bid → e 1 = .int .i64 (k : Int) → e 8 = .map (some did) → e 9 = .int .i64 ru → e 14 = ptr (nx' + 12) → e 63 = lv → e 64 = .int .i64 D.length → e 65 = .int .i64 i → auto_builder_code_j5 ro Q' e h5 n6 := by
          intro e n6 hn6 f0 f1 f8 f9 f14 f63 f64 f65
          unfold auto_builder_code_j5
          rw [f9, f14]
          (repeat (first | refine bindP_mk (by simp (disch := first | omega | exact Int.natCast_nonneg _ | assumption) only [BB, B2, ↓reduceIte, Nat.reduceLeDiff, Nat.reduceAdd, CC, g5, pl7] <;> rfl) ?_ | refine newP_mk ?_ | refine optP_mk ?_ | with_reducible first | refine condP_t ?_ | refine condP_f ?_ | refine ifP_tt' ?_ | refine ifP_ff' ?_ | refine ifP_tf' ?_ | refine ifP_ft' ?_ | refine ifP_u' ?_ | refine optP_mk0 ?_))
          rw [decide_eq_true hd0, Bool.true_and] at hru
          cases hla : (g.at x).last with
          | false =>
            rw [hla, Bool.false_and, if_neg (by decide)] at hru
            (repeat (first | refine bindP_mk (by simp (disch := first | omega | exact Int.natCast_nonneg _ | assumption) only [BB, B2, ↓reduceIte, Nat.reduceLeDiff, Nat.reduceAdd, CC] <;> rfl) ?_ | refine newP_mk ?_ | refine optP_mk ?_ | with_reducible first | refine condP_t ?_ | refine condP_f ?_ | refine ifP_tt' ?_ | refine ifP_ff' ?_ | refine ifP_tf' ?_ | refine ifP_ft' ?_ | refine ifP_u' ?_ | refine optP_mk0 ?_))
            exact hj4 _ _ _ en' st' ru (by omega) (hf5.mono (by omega)) hk6 hE5 hY5 hen6 s5 f0 f1 f8 f9 f63 f64 f65 hru
          | true =>
            rw [hla, Bool.true_and] at hru
            (repeat (first | refine bindP_mk (by simp (disch := first | omega | exact Int.natCast_nonneg _ | assumption) only [BB, B2, ↓reduceIte, Nat.reduceLeDiff, Nat.reduceAdd, CC] <;> rfl) ?_ | refine newP_mk ?_ | refine optP_mk ?_ | with_reducible first | refine condP_t ?_ | refine condP_f ?_ | refine ifP_tt' ?_ | refine ifP_ff' ?_ | refine ifP_tf' ?_ | refine ifP_ft' ?_ | refine ifP_u' ?_ | refine optP_mk0 ?_))
            refine lss_s (fun v1 => ?_) (fun v1 => ?_)
            · rw [decide_eq_true v1, Bool.true_or, if_pos rfl] at hru
              (repeat (first | refine bindP_mk (by simp (disch := first | omega | exact Int.natCast_nonneg _ | assumption) only [BB, B2, ↓reduceIte, Nat.reduceLeDiff, Nat.reduceAdd, CC, g5, pl6] <;> rfl) ?_ | refine newP_mk ?_ | refine optP_mk ?_ | with_reducible first | refine condP_t ?_ | refine condP_f ?_ | refine ifP_tt' ?_ | refine ifP_ff' ?_ | refine ifP_tf' ?_ | refine ifP_ft' ?_ | refine ifP_u' ?_ | refine optP_mk0 ?_))
              exact hj4 _ _ _ en' st' (g.at x).rule (by omega) (hf5.mono (by omega)) hk6 hE5 hY5 hen6 s5 f0 f1 f8 rfl f63 f64 f65 hru
            · rw [decide_eq_false (by omega), Bool.false_or] at hru
              (repeat (first | refine bindP_mk (by simp (disch := first | omega | exact Int.natCast_nonneg _ | assumption) only [BB, B2, ↓reduceIte, Nat.reduceLeDiff, Nat.reduceAdd, CC, g5, pl6] <;> rfl) ?_ | refine newP_mk ?_ | refine optP_mk ?_ | with_reducible first | refine condP_t ?_ | refine condP_f ?_ | refine ifP_tt' ?_ | refine ifP_ff' ?_ | refine ifP_tf' ?_ | refine ifP_ft' ?_ | refine ifP_u' ?_ | refine optP_mk0 ?_))
              refine lss_s (fun v2 => ?_) (fun v2 => ?_)
              · rw [decide_eq_true v2, if_pos rfl] at hru
                (repeat (first | refine bindP_mk (by simp (disch := first | omega | exact Int.natCast_nonneg _ | assumption) only [BB, B2, ↓reduceIte, Nat.reduceLeDiff, Nat.reduceAdd, CC, g5, pl6] <;> rfl) ?_ | refine newP_mk ?_ | refine optP_mk ?_ | with_reducible first | refine condP_t ?_ | refine condP_f ?_ | refine ifP_tt' ?_ | refine ifP_ff' ?_ | refine ifP_tf' ?_ | refine ifP_ft' ?_ | refine ifP_u' ?_ | refine optP_mk0 ?_))
                exact hj4 _ _ _ en' st' (g.at x).rule (by omega) (hf5.mono (by omega)) hk6 hE5 hY5 hen6 s5 f0 f1 f8 rfl f63 f64 f65 hru
              · rw [decide_eq_false (by omega), if_neg (by decide)] at hru
                (repeat (first | refine bindP_mk (by simp (disch := first | omega | exact Int.natCast_nonneg _ | assumption) only [BB, B2, ↓reduceIte, Nat.reduceLeDiff, Nat.reduceAdd, CC, g5, pl6] <;> rfl) ?_ | refine newP_mk ?_ | refine optP_mk ?_ | with_reducible first | refine condP_t ?_ | refine condP_f ?_ | refine ifP_tt' ?_ | refine ifP_ff' ?_ | refine ifP_tf' ?_ | refine ifP_ft' ?_ | refine ifP_u' ?_ | refine optP_mk0 ?_))
                exact hj4 _ _ _ en' st' ru (by omega) (hf5.mono (by omega)) hk6 hE5 hY5 hen6 s5 f0 f1 f8 f9 f63 f64 f65 hru
        exact fin _ _ (by omega) f0 f1 f8 f9 f14 f63 f64 f65
    have hnpl : (posL (g.at x) nv)[8]? = some nv := rfl
    (repeat (first | refine bindP_mk (by simp (disch := first | omega | exact Int.natCast_nonneg _ | assumption) only [BB, B2, ↓reduceIte, Nat.reduceLeDiff, Nat.reduceAdd, CC, hlk3, nth0, nth1, nilCk_at, hb3, b265] <;> rfl) ?_ | refine newP_mk ?_ | refine optP_mk ?_ | with_reducible first | refine condP_t ?_ | refine condP_f ?_ | refine ifP_tt' ?_ | refine ifP_ff' ?_ | refine ifP_tf' ?_ | refine ifP_ft' ?_ | refine ifP_u' ?_ | refine optP_mk0 ?_))
    -- what stays
    have hst2 : ∀ (b : Bool), b = (decide (d = 0) || decide (d = 2)) → ∀ q, (if q = x then b else st q) = staysZ (D.take (i + 1)) q := fun b hb q => by
      rw [hst1, ← hst']
      by_cases hq9 : q = x
      · subst hq9; rw [if_pos rfl, hst', hst0, Bool.false_or, decide_eq_true rfl, Bool.true_and, hb]
      · rw [if_neg hq9, decide_eq_false (fun e => hq9 e.symm), Bool.false_and, Bool.or_false]
    rcases hdi with rfl | rfl | rfl | rfl
    · simp only [if_true, Option.isSome_none, Option.getD_none]
      obtain ⟨es, ec, p1, p2⟩ := hY3.put x false
      (repeat (first | refine bindP_mk (by simp (disch := first | omega | exact Int.natCast_nonneg _ | assumption) only [BB, B2, ↓reduceIte, Nat.reduceLeDiff, Nat.reduceAdd, CC, p1] <;> rfl) ?_ | refine newP_mk ?_ | refine optP_mk ?_ | with_reducible first | refine condP_t ?_ | refine condP_f ?_ | refine ifP_tt' ?_ | refine ifP_ff' ?_ | refine ifP_tf' ?_ | refine ifP_ft' ?_ | refine ifP_u' ?_ | refine optP_mk0 ?_))
      have g4 : (h3.upd yid (some (.map es ec))).get (nx' + 12) = _ := (T.get_upd_ne _ _ (by omega)).trans g3
      (repeat (first | refine bindP_mk (by simp (disch := first | omega | exact Int.natCast_nonneg _ | assumption) only [BB, B2, ↓reduceIte, Nat.reduceLeDiff, Nat.reduceAdd, CC, g4, hnpl, hnl] <;> rfl) ?_ | refine newP_mk ?_ | refine optP_mk ?_ | with_reducible first | refine condP_t ?_ | refine condP_f ?_ | refine ifP_tt' ?_ | refine ifP_ff' ?_ | refine ifP_tf' ?_ | refine ifP_ft' ?_ | refine ifP_u' ?_ | refine optP_mk0 ?_))
      exact hL3 _ _ _ _ (by omega) ((hf3.mono (by omega)).upd (Nat.le_refl _) (by omega)) (hk3.upd (by simp)) (((Sub.refl h3).keepL).upd (by simp)) (hE3.keep (by rw [T.get_upd_ne _ _ hey])) (p2 _ (by rw [T.get_upd_same])) (hst2 false rfl) (by decide) f0 f1 f8 f9 rfl f63 f64 f65 rfl rfl rfl
    · have e01 : ¬ ((0 : Int) = -1) := by decide
      simp only [if_neg e01, Option.isSome_some, Option.getD_some]
      obtain ⟨es, ec, p1, p2⟩ := hY3.put x true
      (repeat (first | refine bindP_mk (by simp (disch := first | omega | exact Int.natCast_nonneg _ | assumption) only [BB, B2, ↓reduceIte, Nat.reduceLeDiff, Nat.reduceAdd, CC, p1] <;> rfl) ?_ | refine newP_mk ?_ | refine optP_mk ?_ | with_reducible first | refine condP_t ?_ | refine condP_f ?_ | refine ifP_tt' ?_ | refine ifP_ff' ?_ | refine ifP_tf' ?_ | refine ifP_ft' ?_ | refine ifP_u' ?_ | refine optP_mk0 ?_))
      refine hj4 _ _ _ en _ ru (by omega) ((hf3.mono (by omega)).upd (Nat.le_refl _) (by omega)) (hk3.upd (by simp)) (hE3.keep (by rw [T.get_upd_ne _ _ hey])) (p2 _ (by rw [T.get_upd_same])) (fun q => ?_) (hst2 true rfl) f0 f1 f8 f9 f63 f64 f65 ?_
      · rw [hen', hen1]; simp
      · simpa using hru
    · have e01 : ¬ ((1 : Int) = -1) := by decide
      simp only [if_neg e01, Option.isSome_some, Option.getD_some]
      obtain ⟨es, ec, p1, p2⟩ := hY3.put x false
      (repeat (first | refine bindP_mk (by simp (disch := first | omega | exact Int.natCast_nonneg _ | assumption) only [BB, B2, ↓reduceIte, Nat.reduceLeDiff, Nat.reduceAdd, CC, p1] <;> rfl) ?_ | refine newP_mk ?_ | refine optP_mk ?_ | with_reducible first | refine condP_t ?_ | refine condP_f ?_ | refine ifP_tt' ?_ | refine ifP_ff' ?_ | refine ifP_tf' ?_ | refine ifP_ft' ?_ | refine ifP_u' ?_ | refine optP_mk0 ?_))
      have g4 : (h3.upd yid (some (.map es ec))).get (nx' + 12) = _ := (T.get_upd_ne _ _ (by omega)).trans g3
      (repeat (first | refine bindP_mk (by simp (disch := first | omega | exact Int.natCast_nonneg _ | assumption) only [BB, B2, ↓reduceIte, Nat.reduceLeDiff, Nat.reduceAdd, CC, g4, hnpl, hnl] <;> rfl) ?_ | refine newP_mk ?_ | refine optP_mk ?_ | with_reducible first | refine condP_t ?_ | refine condP_f ?_ | refine ifP_tt' ?_ | refine ifP_ff' ?_ | refine ifP_tf' ?_ | refine ifP_ft' ?_ | refine ifP_u' ?_ | refine optP_mk0 ?_))
      exact hL3 _ _ _ _ (by omega) ((hf3.mono (by omega)).upd (Nat.le_refl _) (by omega)) (hk3.upd (by simp)) (((Sub.refl h3).keepL).upd (by simp)) (hE3.keep (by rw [T.get_upd_ne _ _ hey])) (p2 _ (by rw [T.get_upd_same])) (hst2 false rfl) (by decide) f0 f1 f8 f9 rfl f63 f64 f65 rfl rfl rfl
    · have e01 : ¬ ((2 : Int) = -1) := by decide
      simp only [if_neg e01, Option.isSome_some, Option.getD_some]
      obtain ⟨es, ec, p1, p2⟩ := hY3.put x true
      (repeat (first | refine bindP_mk (by simp (disch := first | omega | exact Int.natCast_nonneg _ | assumption) only [BB, B2, ↓reduceIte, Nat.reduceLeDiff, Nat.reduceAdd, CC, p1] <;> rfl) ?_ | refine newP_mk ?_ | refine optP_mk ?_ | with_reducible first | refine condP_t ?_ | refine condP_f ?_ | refine ifP_tt' ?_ | refine ifP_ff' ?_ | refine ifP_tf' ?_ | refine ifP_ft' ?_ | refine ifP_u' ?_ | refine optP_mk0 ?_))
      have g4 : (h3.upd yid (some (.map es ec))).get (nx' + 12) = _ := (T.get_upd_ne _ _ (by omega)).trans g3
      (repeat (first | refine bindP_mk (by simp (disch := first | omega | exact Int.natCast_nonneg _ | assumption) only [BB, B2, ↓reduceIte, Nat.reduceLeDiff, Nat.reduceAdd, CC, g4, hnpl, hnl] <;> rfl) ?_ | refine newP_mk ?_ | refine optP_mk ?_ | with_reducible first | refine condP_t ?_ | refine condP_f ?_ | refine ifP_tt' ?_ | refine ifP_ff' ?_ | refine ifP_tf' ?_ | refine ifP_ft' ?_ | refine ifP_u' ?_ | refine optP_mk0 ?_))
      exact hL3 _ _ _ _ (by omega) ((hf3.mono (by omega)).upd (Nat.le_refl _) (by omega)) (hk3.upd (by simp)) (((Sub.refl h3).keepL).upd (by simp)) (hE3.keep (by rw [T.get_upd_ne _ _ hey])) (p2 _ (by rw [T.get_upd_same])) (hst2 true rfl) (by decide) f0 f1 f8 f9 rfl f63 f64 f65 rfl rfl rfl
  · refine condP_f ?_
    rw [drop_all (by omega)] at hru
    rw [List.take_of_length_le (by omega)] at hen' hst'
    have hru : ru = rf := hru
    subst hru
    exact hx _ _ _ _ (fun e => by cases e) (hQ _ _ _ en st (by omega) (hf'.mono (by omega)) hkp hE' hY' hen' hst' f0 f1 f9)
end
end V
end Go.Proofs.Ytmmdcdjkmakgpaa
set_option linter.unusedVariables false
set_option linter.unusedSimpArgs false
namespace Go.Proofs.Ytmmdcdjkmakgpaa
namespace V
open PA
attribute [local irreducible] bindP ifP condP newP optP exP beqP
theorem Grow.mono {h : T Obj} {lo lo' : Nat} {cs cs' : List (List Value)} {S S' : List StateD} (hg : Grow h lo cs cs' S S') (hl : lo' ≤ lo) : Grow h lo' cs cs' S S' := by
  obtain ⟨ds, T, h1, h2, h3, h4⟩ := hg
  exact ⟨ds, T, h1, h2, h3, fun i x s hx hs => (h4 i x s hx hs).mono hl⟩
theorem RowOwn.mono {h : T Obj} {lo lo' : Nat} {mcs : List (List Value)} {row : List MoveD} (hr : RowOwn h lo mcs row) (hl : lo' ≤ lo) : RowOwn h lo' mcs row := ⟨hr.1, fun i x m hx hm => by
  obtain ⟨ov, h1, h2⟩ := hr.2 i x m hx hm
  exact ⟨ov, h1, h2.mono hl⟩⟩
theorem digs_len (g : GlD) (l : List Int) (c : Int) : (digs g l c).length = l.length := by
  have := congrArg List.length (digs_fst g l c)
  simpa using this
section
variable {ro : Ro} {g : GlD} {bid nid kid eid yid sid k : Nat} {av bv fv cv lv rv uv wv : Value} {c : List Nat} {n : Int} {S : List StateD} {cs : List (List Value)}
set_option maxRecDepth 8000 in
set_option maxHeartbeats 2000000 in
theorem auto_code_c {s : StateD} {ws : List Value} {B : List Nat} {code : Int} {en0 st0 : Int → Bool} (hr : rightD g = true) (hBl : B.length ≤ 256) (hc0 : 0 ≤ code) (hc1 : code ≤ 255) (hey : eid ≠ yid) (hen : eid ≠ nid) (hek : eid ≠ kid) (hyn : yid ≠ nid) (hyk : yid ≠ kid)
    {h : T Obj} {nx : Nat} {K : KV} (hf : Fr h nx) (hB : Bd h g bid nid kid eid yid sid av bv fv c n cv S cs) (hE : BMap h eid en0) (hY : BMap h yid st0)
    (hP : SlR ro (del h (XL bid kid eid yid sid uv wv)) bv 9 (RPos ro (del h (XL bid kid eid yid sid uv wv))) g.p) (ha : ZI ro (del h (XL bid kid eid yid sid uv wv)) av g.first) (hfv : SlR ro (del h (XL bid kid eid yid sid uv wv)) fv 1 RU8 B)
    (hx : cs[k]? = some [lv, rv, uv, wv]) (hs : S[k]? = some s) (hlv : ZI ro (del h (XL bid kid eid yid sid uv wv)) lv s.l) (hrv : ZI ro (del h (XL bid kid eid yid sid uv wv)) rv s.r) (hz : rz (-1) g.p.length s.l = true) (hu : OwnT h uv 1 y_int (intsZ s.rule) 0) (hw : OwnT h wv 1 y_s_api_Move (onesC ws) 0) (hR : s.rule.length ≤ 1000000) (hws : ws.length ≤ 1000000)
    (hKe : (rowZ g (entersZ g k (digs g s.l code)) (staysZ (digs g s.l code)) B S).1 ≠ 0 → ∀ h' nx', nx ≤ nx' → Fr h' nx' → Keep [bid, kid, eid, yid, sid] h h' → K (.int .i64 (rowZ g (entersZ g k (digs g s.l code)) (staysZ (digs g s.l code)) B S).1) h' nx')
    (hK : (rowZ g (entersZ g k (digs g s.l code)) (staysZ (digs g s.l code)) B S).1 = 0 → ∀ h' nx' sid' cs' uv' wv' rowv mcs en st, nx ≤ nx' → Fr h' nx' → Keep (XL bid kid eid yid sid uv wv) h h' → (sid' = sid ∨ nx ≤ sid') → Bd h' g bid nid kid eid yid sid' av bv fv c n cv (rowZ g (entersZ g k (digs g s.l code)) (staysZ (digs g s.l code)) B S).2.2 (cs'.set k [lv, rv, uv', wv']) →
      Grow (del h' (XL bid kid eid yid sid' uv' wv')) nx cs cs' S (rowZ g (entersZ g k (digs g s.l code)) (staysZ (digs g s.l code)) B S).2.2 → OwnT h' uv' 1 y_int (intsZ (s.rule ++ [ruleZ g (-1) (digs g s.l code)])) nx → OwnT h' wv' 1 y_s_api_Move (onesC (ws ++ [rowv])) nx → OwnT (del h' (XL bid kid eid yid sid' uv' wv')) rowv 2 y_api_Move mcs nx →
      RowOwn (del h' (XL bid kid eid yid sid' uv' wv')) nx mcs (rowZ g (entersZ g k (digs g s.l code)) (staysZ (digs g s.l code)) B S).2.1 → BMap h' eid en → BMap h' yid st → K (.int .i64 0) h' nx') :
    callP Try.prog ro i_auto_builder_code [ptr bid, .int .i64 (k : Int), .int .i64 code] h nx K := by
  apply auto_builder_code_of
  unfold auto_builder_code
  obtain ⟨hgl, hfr, hmay⟩ := right_parts hr
  have hbk := hB.blk
  have hkl : k < cs.length := (List.getElem?_eq_some_iff.1 hx).1
  have b262 := bldL_262 (av := av) (bv := bv) (nv := .map (some nid)) (fv := fv) (n := n) (cv := cv) (sv := .slice (some (own sid 4)) cs.length cs.length) (kv := .map (some kid)) (ev := .map (some eid)) (yv := .map (some yid)) hB.hc
  have b264 := bldL_264 (av := av) (bv := bv) (nv := .map (some nid)) (fv := fv) (n := n) (cv := cv) (sv := .slice (some (own sid 4)) cs.length cs.length) (kv := .map (some kid)) (ev := .map (some eid)) (yv := .map (some yid)) hB.hc
  have b265 := bldL_265 (av := av) (bv := bv) (nv := .map (some nid)) (fv := fv) (n := n) (cv := cv) (sv := .slice (some (own sid 4)) cs.length cs.length) (kv := .map (some kid)) (ev := .map (some eid)) (yv := .map (some yid)) hB.hc
  have b0 := bldL_0 (av := av) (bv := bv) (nv := .map (some nid)) (fv := fv) (c := c) (n := n) (cv := cv) (sv := .slice (some (own sid 4)) cs.length cs.length) (kv := .map (some kid)) (ev := .map (some eid)) (yv := .map (some yid))
  have hix := ixSl_own' (id := sid) (z := 4) (cap := cs.length) hkl
  have hlda : loadA ro h 4 (at_ sid (k * 4) 0) = some (.agg #[lv, rv, uv, wv]) := by
    have := (hB.own.sl (ro := ro)).loadA hx
    rwa [elPtr_own] at this
  have hul := hu.ok
  have hwl := hw.ok
  have hXs : Sub (del h (XL bid kid eid yid sid uv wv)) h := del_sub _ _
  have hlvk := (hlv.sub hXs).ok
  have hrvk := (hrv.sub hXs).ok
  have hll : s.l.length ≤ 512 := by have := rz_lenN hz (by omega); omega
  obtain ⟨fe1, ce1, me1⟩ := hE.obj
  obtain ⟨fy1, cy1, my1⟩ := hY.obj
  have hel := hf.lt' me1
  have hyl := hf.lt' my1
  have hbid : eid ≠ bid ∧ yid ≠ bid ∧ eid ≠ sid ∧ yid ≠ sid := by
    have h1 := hB.blk
    have h2 := hB.row
    refine ⟨?_, ?_, ?_, ?_⟩ <;> rintro rfl
    · rw [me1] at h1; cases h1
    · rw [my1] at h1; cases h1
    · rw [me1] at h2; cases h2
    · rw [my1] at h2; cases h2
  have hXe : ∀ q, q ∈ [eid, yid] → q ∈ XL bid kid eid yid sid uv wv := by
    intro q hq
    unfold XL
    simp only [List.mem_cons, List.not_mem_nil, or_false] at hq
    simp only [List.mem_append, List.mem_cons, List.not_mem_nil, or_false]
    omega
  have hXb : ∀ q, q ∈ [bid, kid, sid] → q ∈ XL bid kid eid yid sid uv wv := by
    intro q hq
    unfold XL
    simp only [List.mem_cons, List.not_mem_nil, or_false] at hq
    simp only [List.mem_append, List.mem_cons, List.not_mem_nil, or_false]
    omega
  (repeat (first | refine bindP_mk (by simp (disch := first | omega | exact Int.natCast_nonneg _ | assumption) only [BB, B2, ↓reduceIte, Nat.reduceLeDiff, Nat.reduceAdd, CC, nilCk_at, hbk, b262, hix, hlda] <;> rfl) ?_ | refine newP_mk ?_ | refine optP_mk ?_ | with_reducible first | refine condP_t ?_ | refine condP_f ?_ | refine ifP_tt' ?_ | refine ifP_ff' ?_ | refine ifP_tf' ?_ | refine ifP_ft' ?_ | refine ifP_u' ?_ | refine optP_mk0 ?_))
  refine local_mk zer_State rfl (x := [lv, rv, uv, wv]) rfl rfl (by simp only [List.all_cons, List.all_nil, hul, hwl, hlvk, hrvk]; rfl) hf (show nx ≤ nx + 9 by omega) fun h9 hs9 hf9 g9 _ => ?_
  refine bindP_mk (loadA_all (l := [lv, rv, uv, wv]) g9 rfl) ?_
  obtain ⟨fn, hm1, hm2⟩ := hB.num
  refine auto_digits_c (g := g) (many := g.p.length) (by omega) hz hll hc0 hc1 (hf9.mono (show _ ≤ nx + 15 by omega)) (hs9 _ _ hbk) (hm1.sub hs9) hm2 ((hlv.sub hXs).sub hs9) fun h12 n13 did fd hn13 hs12 hf12 hd1 hd2 hmd hdo => ?_
  have hs := hs9.trans hs12
  have hb12 := hs _ _ hbk
  have hD1 := digs_fst g s.l code
  have hD2 := digs_snd g s.l code hc0
  have hD3 := digs_len g s.l code
  have hZd : ∀ q, entersZ g k (digs g s.l code) q = ((decide (k = 0) && g.first.contains q) || enD g (digs g s.l code) q) := fun q => rfl
  generalize digs g s.l code = D at hKe hK hdo hD1 hD2 hD3 hZd
  have hE12 : BMap h12 eid en0 := by obtain ⟨f, q1, q2⟩ := hE; exact ⟨f, q1.sub hs, q2⟩
  have hY12 : BMap h12 yid st0 := by obtain ⟨f, q1, q2⟩ := hY; exact ⟨f, q1.sub hs, q2⟩
  have hndid : did ≠ eid ∧ did ≠ yid := by omega
  obtain ⟨c1, p1⟩ := hE12.clear
  (repeat (first | refine bindP_mk (by simp (disch := first | omega | exact Int.natCast_nonneg _ | assumption) only [BB, B2, ↓reduceIte, Nat.reduceLeDiff, Nat.reduceAdd, CC, nilCk_at, hb12, b264, und_mib, p1] <;> rfl) ?_ | refine newP_mk ?_ | refine optP_mk ?_ | with_reducible first | refine condP_t ?_ | refine condP_f ?_ | refine ifP_tt' ?_ | refine ifP_ff' ?_ | refine ifP_tf' ?_ | refine ifP_ft' ?_ | refine ifP_u' ?_ | refine optP_mk0 ?_))
  have hb17 : (h12.upd eid (some (.map #[] c1))).get bid = _ := (T.get_upd_ne _ _ hbid.1.symm).trans hb12
  have hY17 : BMap (h12.upd eid (some (.map #[] c1))) yid st0 := hY12.keep (T.get_upd_ne _ _ hey.symm)
  obtain ⟨c2, p2⟩ := hY17.clear
  (repeat (first | refine bindP_mk (by simp (disch := first | omega | exact Int.natCast_nonneg _ | assumption) only [BB, B2, ↓reduceIte, Nat.reduceLeDiff, Nat.reduceAdd, CC, nilCk_at, hb17, b265, und_mib, p2] <;> rfl) ?_ | refine newP_mk ?_ | refine optP_mk ?_ | with_reducible first | refine condP_t ?_ | refine condP_f ?_ | refine ifP_tt' ?_ | refine ifP_ff' ?_ | refine ifP_tf' ?_ | refine ifP_ft' ?_ | refine ifP_u' ?_ | refine optP_mk0 ?_))
  have hk21 : Keep [eid, yid] h12 ((h12.upd eid (some (.map #[] c1))).upd yid (some (.map #[] c2))) := (((Sub.refl h12).keepL).upd (by simp)).upd (by simp)
  have hf21 : Fr ((h12.upd eid (some (.map #[] c1))).upd yid (some (.map #[] c2))) n13 := (hf12.upd (Nat.le_refl _) (by omega)).upd (Nat.le_refl _) (by omega)
  have hE21 : BMap ((h12.upd eid (some (.map #[] c1))).upd yid (some (.map #[] c2))) eid fun _ => false := BMap.new (c := c1) (by rw [T.get_upd_ne _ _ hey, T.get_upd_same])
  have hY21 : BMap ((h12.upd eid (some (.map #[] c1))).upd yid (some (.map #[] c2))) yid fun _ => false := BMap.new (c := c2) (by rw [T.get_upd_same])
  generalize (h12.upd eid (some (.map #[] c1))).upd yid (some (.map #[] c2)) = h21 at hk21 hf21 hE21 hY21
  have hBk : ∀ h4, Keep [eid, yid] h12 h4 → Bd h4 g bid nid kid eid yid sid av bv fv c n cv S cs := fun h4 hk4 => (hB.sub hs).keepN fun q o hq9 hd9 => hk4 q o hq9 (by
    simp only [List.mem_cons, List.not_mem_nil, or_false, not_or]
    rcases hd9 with rfl | rfl | rfl | rfl
    · exact ⟨hbid.1.symm, hbid.2.1.symm⟩
    · exact ⟨hen.symm, hyn.symm⟩
    · exact ⟨hek.symm, hyk.symm⟩
    · exact ⟨hbid.2.2.1.symm, hbid.2.2.2.symm⟩)
  -- behind the first places
  have hj1 : ∀ (e : Env) (h4 : T Obj) (n4 : Nat) (en1 : Int → Bool), n13 ≤ n4 → Fr h4 n4 → Keep [eid, yid] h12 h4 → BMap h4 eid en1 → BMap h4 yid (fun _ => false) → (∀ q, en1 q = (decide (k = 0) && g.first.contains q)) →
      e 0 = ptr bid → e 1 = .int .i64 (k : Int) → e 7 = ptr (nx + 9) → e 8 = .map (some did) → e 9 = .int .i64 (-1) → auto_builder_code_j1 ro K e h4 n4 := by
    intro e h4 n4 en1 hn4 hf4 hk4 hE4 hY4 hen1 f0 f1 f7 f8 f9
    have hkh4 : Keep [eid, yid] h h4 := (hs.keepL).trans hk4
    unfold auto_builder_code_j1
    rw [f7]
    have g4 : h4.get (nx + 9) = some (.cells [lv, rv, uv, wv].toArray y_api_State) := hk4 _ _ (hs12 _ _ g9) (by simp; omega)
    have hsD : Sub (del h (XL bid kid eid yid sid uv wv)) (del h4 [eid, yid]) := hkh4.del hXe fun q hq => .inl (hXe q hq)
    have hl4 : ZI ro (del h4 [eid, yid]) lv (D.map (·.1)) := by rw [hD1]; exact hlv.sub hsD
    have hlen4 := (hl4.sub (del_sub _ _)).len
    rw [List.length_map] at hlen4
    (repeat (first | refine bindP_mk (by simp (disch := first | omega | exact Int.natCast_nonneg _ | assumption) only [BB, B2, ↓reduceIte, Nat.reduceLeDiff, Nat.reduceAdd, CC, g4, hlen4] <;> rfl) ?_ | refine newP_mk ?_ | refine optP_mk ?_ | with_reducible first | refine condP_t ?_ | refine condP_f ?_ | refine ifP_tt' ?_ | refine ifP_ff' ?_ | refine ifP_tf' ?_ | refine ifP_ft' ?_ | refine ifP_u' ?_ | refine optP_mk0 ?_))
    have hmd4 : MapG injI h4 did fd := by
      obtain ⟨es, c9, ps, a1, a2, a3⟩ := hmd
      exact ⟨es, c9, ps, hk4 _ _ a1 (by simp [hndid.1, hndid.2]), a2, a3⟩
    refine code_L2_c (K := K) (k := k) hr (by rw [hD1]; exact hz) hD2 hey hen hek hyn hyk (hf4.mono (show n4 ≤ n4 + 4 by omega)) (hBk h4 hk4) hE4 hY4 hmd4 hdo hndid.1 hndid.2 (hP.sub hsD (RPos.sub hsD)) hl4 ?_ ?_ ?_ ?_ ?_ ?_ ?_ ?_
    · exact f0
    · exact f1
    · exact f8
    · exact f9
    · rfl
    · rfl
    · rfl
    intro e' h5 n5 en st hn5 hf5 hk5 hE5 hY5 hen5 hst5 f0 f1 f9
    refine exP_e (beqP_t ?_)
    have hkh5 : Keep [eid, yid] h h5 := hkh4.trans hk5
    have hsB : Sub (del h (XL bid kid eid yid sid uv wv)) (del h5 [bid, kid, sid]) := hkh5.del hXe fun q hq => .inl (hXb q hq)
    have hE5' : BMap h5 eid (entersZ g k D) := hE5.ext fun q => by rw [hen5, hen1, hZd]
    have hY5' : BMap h5 yid (staysZ D) := hY5.ext hst5
    have hu5 : OwnT h5 uv 1 y_int (intsZ s.rule) 0 := hu.keepK hkh5 fun id hid => by
      obtain ⟨_, z⟩ := hu.blk hid
      simp only [List.mem_cons, List.not_mem_nil, or_false, not_or]
      refine ⟨?_, ?_⟩ <;> rintro rfl
      · rw [me1] at z; cases z
      · rw [my1] at z; cases z
    have hw5 : OwnT h5 wv 1 y_s_api_Move (onesC ws) 0 := hw.keepK hkh5 fun id hid => by
      obtain ⟨_, z⟩ := hw.blk hid
      simp only [List.mem_cons, List.not_mem_nil, or_false, not_or]
      refine ⟨?_, ?_⟩ <;> rintro rfl
      · rw [me1] at z; cases z
      · rw [my1] at z; cases z
    refine code_j2_c hgl hBl hf5 (hBk h5 (hk4.trans hk5)) hE5' hY5' hek hyk (hP.sub hsB (RPos.sub hsB)) (hfv.sub hsB fun _ _ h => h) hx hu5 hw5 hR hws f0 f1 f9 (fun hz9 h' nx' q1 q2 q3 => ?_) fun hz9 h' nx' sid' cs' uv' wv' rowv mcs q1 q2 q3 q4 q5 q6 q7 q8 q9 q10 q11 q12 => ?_
    · refine hKe hz9 h' nx' (by omega) q2 ?_
      refine (hkh5.mono ?_).trans (q3.mono ?_)
      · intro q hq; simp only [List.mem_cons, List.not_mem_nil, or_false] at hq ⊢; omega
      · intro q hq; simp only [List.mem_cons, List.not_mem_nil, or_false] at hq ⊢; omega
    · refine hK hz9 h' nx' sid' cs' uv' wv' rowv mcs _ _ (by omega) q2 ?_ (by omega) q5 (q6.mono (by omega)) (q7.mono (by omega)) (q8.mono (by omega)) (q9.mono (by omega)) (q10.mono (by omega)) q11 q12
      refine (hkh5.mono hXe).trans (q3.mono ?_)
      intro q hq
      rcases List.mem_append.1 hq with hq | hq
      · exact hXb q hq
      · unfold XL; exact List.mem_append.2 (.inr hq)
  refine eql_s (fun hk0 => ?_) (fun hk0 => ?_)
  · have hk0 : k = 0 := by omega
    have hb21 := (hBk h21 hk21).blk
    have hsD21 : Sub (del h (XL bid kid eid yid sid uv wv)) h21 := ((hs.keepL).trans hk21).delS hXe
    have ha21 := ha.sub hsD21
    have hal := ha21.len
    have hfl : g.first.length ≤ 512 := by have := rz_lenN hfr (by omega); omega
    (repeat (first | refine bindP_mk (by simp (disch := first | omega | exact Int.natCast_nonneg _ | assumption) only [BB, B2, ↓reduceIte, Nat.reduceLeDiff, Nat.reduceAdd, CC, nilCk_at, hb21, b0, hal] <;> rfl) ?_ | refine newP_mk ?_ | refine optP_mk ?_ | with_reducible first | refine condP_t ?_ | refine condP_f ?_ | refine ifP_tt' ?_ | refine ifP_ff' ?_ | refine ifP_tf' ?_ | refine ifP_ft' ?_ | refine ifP_u' ?_ | refine optP_mk0 ?_))
    refine loopP_rule (fun j e h' nx' => ∃ (i : Nat) (en1 : Int → Bool), i + j = g.first.length ∧ n13 ≤ nx' ∧ Fr h' nx' ∧ Keep [eid, yid] h12 h' ∧ BMap h' eid en1 ∧ BMap h' yid (fun _ => false) ∧ (∀ q, en1 q = (g.first.take i).contains q) ∧
      e 0 = ptr bid ∧ e 1 = .int .i64 (k : Int) ∧ e 7 = ptr (nx + 9) ∧ e 8 = .map (some did) ∧ e 9 = .int .i64 (-1) ∧ e 50 = av ∧ e 51 = .int .i64 g.first.length ∧ e 52 = .int .i64 i) ?_ (n := g.first.length)
      ⟨0, _, by omega, by omega, hf21.mono (by omega), hk21, hE21, hY21, fun q => by simp, rfl, rfl, rfl, rfl, rfl, rfl, rfl, rfl⟩
    rintro j e h' nx' ⟨i, en1, hj, hnx, hf', hk', hE', hY', hen1, f0, f1, f7, f8, f9, f50, f51, f52⟩ Q' hq hx9
    have hb' := (hBk h' hk').blk
    have ha' := ha.sub (((hs.keepL).trans hk').delS hXe)
    unfold auto_builder_code_L4
    rw [f0, f50, f51, f52]
    have hel' : eid < nx' := by obtain ⟨_, _, q⟩ := hE'.obj; exact hf'.lt' q
    refine lss_s (fun hi => ?_) (fun hi => ?_)
    · have hi : i < g.first.length := by omega
      have hld := ha'.load hi
      have hct := contains_take hi
      generalize g.first[i] = q0 at hld hct
      refine condP_t (bindP_mk (ha'.ix _ hi) (bindP_mk hld ?_))
      obtain ⟨es, ec, r1, r2⟩ := hE'.put q0 true
      (repeat (first | refine bindP_mk (by simp (disch := first | omega | exact Int.natCast_nonneg _ | assumption) only [BB, B2, ↓reduceIte, Nat.reduceLeDiff, Nat.reduceAdd, CC, nilCk_at, hb', b264, r1] <;> rfl) ?_ | refine newP_mk ?_ | refine optP_mk ?_ | with_reducible first | refine condP_t ?_ | refine condP_f ?_ | refine ifP_tt' ?_ | refine ifP_ff' ?_ | refine ifP_tf' ?_ | refine ifP_ft' ?_ | refine ifP_u' ?_ | refine optP_mk0 ?_))
      refine hq (j - 1) _ _ _ _ (by omega) ⟨i + 1, _, by omega, by omega, (hf'.mono (show nx' ≤ nx' + 12 by omega)).upd (Nat.le_refl _) (by omega), hk'.upd (by simp), r2 _ (by rw [T.get_upd_same]), hY'.keep (by rw [T.get_upd_ne _ _ hey.symm]), fun q => ?_, f0, f1, f7, f8, f9, f50, f51, rfl⟩ (Sub.refl _)
      show (if q = q0 then true else en1 q) = _
      rw [hct, hen1]
      by_cases hqq : q = q0
      · rw [if_pos hqq, decide_eq_true hqq]; simp
      · rw [if_neg hqq, decide_eq_false hqq, Bool.or_false]
    · refine condP_f ?_
      refine hx9 _ _ _ _ (fun e => by cases e) (exP_e (beqP_t ?_))
      rw [List.take_of_length_le (by omega)] at hen1
      exact hj1 _ _ _ en1 (by omega) (hf'.mono (by omega)) hk' hE' hY' (fun q => by rw [hen1, decide_eq_true hk0, Bool.true_and]) f0 f1 f7 f8 f9
  · have hk0 : ¬ k = 0 := by omega
    (repeat (first | refine bindP_mk (by simp (disch := first | omega | exact Int.natCast_nonneg _ | assumption) only [BB, B2, ↓reduceIte, Nat.reduceLeDiff, Nat.reduceAdd, CC] <;> rfl) ?_ | refine newP_mk ?_ | refine optP_mk ?_ | with_reducible first | refine condP_t ?_ | refine condP_f ?_ | refine ifP_tt' ?_ | refine ifP_ff' ?_ | refine ifP_tf' ?_ | refine ifP_ft' ?_ | refine ifP_u' ?_ | refine optP_mk0 ?_))
    exact hj1 _ _ _ _ (by omega) (hf21.mono (by omega)) hk21 hE21 hY21 (fun q => by rw [decide_eq_false hk0, Bool.false_and]) rfl rfl rfl rfl rfl
end
end V
end Go.Proofs.Ytmmdcdjkmakgpaa
set_option linter.unusedVariables false
set_option linter.unusedSimpArgs false
namespace Go.Proofs.Ytmmdcdjkmakgpaa
namespace V
open PA
attribute [local irreducible] bindP ifP condP newP optP exP beqP
def SOk (g : GlD) (S : List StateD) : Prop := ∀ s ∈ S, rz (-1) g.p.length s.l = true ∧ s.r = regsZ g s.l ∧ s.r.length ≤ 3
theorem findZ_ok {g : GlD} {S : List StateD} {l : List Int} (hS : SOk g S) (hl : rz (-1) g.p.length l = true) : SOk g (findZ g S l).2.2 := by
  unfold findZ
  split
  · exact hS
  · split
    · exact hS
    · split
      · exact hS
      · intro s hs
        rcases List.mem_append.1 hs with hs | hs
        · exact hS s hs
        · simp at hs; subst hs
          exact ⟨hl, rfl, by show (regsZ g l).length ≤ 3; omega⟩
theorem goesZ_ok {g : GlD} {en st : Int → Bool} {b : Nat} {S : List StateD} (hS : SOk g S) : SOk g (goesZ g en st b S).2.2 := by
  by_cases h : lZ g en st b = []
  · rw [goesZ_nil h]; exact hS
  · rw [goesZ_ne h]; exact findZ_ok hS (lZ_rz _ _ _ _)
theorem rowZ_ok {g : GlD} {en st : Int → Bool} : ∀ {B : List Nat} {S : List StateD}, SOk g S → SOk g (rowZ g en st B S).2.2
  | [], S, hS => hS
  | b :: r, S, hS => by
    rw [rowZ_cons]
    split
    · exact rowZ_ok (goesZ_ok hS)
    · exact hS
theorem opZ_lt (en st : Int → Bool) (q : Int) : opZ en st q < 256 := by
  unfold opZ
  split
  · split <;> omega
  · omega
theorem goesZ_ops {g : GlD} (hg : g.p.length ≤ 512) {en st : Int → Bool} {b : Nat} {S : List StateD} : (∀ o ∈ (goesZ g en st b S).1.ops, o < 256) ∧ (goesZ g en st b S).1.ops.length ≤ 512 := by
  by_cases h : lZ g en st b = []
  · rw [goesZ_nil h]; exact ⟨fun o ho => (by cases ho), by simp⟩
  · rw [goesZ_ne h]
    refine ⟨fun o ho => ?_, ?_⟩
    · have ho : o ∈ opsZ g en st (lZ g en st b) := ho
      unfold opsZ at ho
      obtain ⟨q, _, rfl⟩ := List.mem_map.1 ho
      exact opZ_lt _ _ _
    · have h1 := opsZ_len g en st (lZ g en st b)
      have h2 := lZ_len g en st b
      show (opsZ g en st (lZ g en st b)).length ≤ 512
      omega
theorem rowZ_ops {g : GlD} (hg : g.p.length ≤ 512) {en st : Int → Bool} : ∀ {B : List Nat} {S : List StateD}, (∀ m ∈ (rowZ g en st B S).2.1, (∀ o ∈ m.ops, o < 256) ∧ m.ops.length ≤ 512) ∧ (rowZ g en st B S).2.1.length ≤ B.length
  | [], S => ⟨fun m hm => (by cases hm), Nat.le_refl _⟩
  | b :: r, S => by
    rw [rowZ_cons]
    split
    · obtain ⟨h1, h2⟩ := rowZ_ops hg (en := en) (st := st) (B := r) (S := (goesZ g en st b S).2.2)
      refine ⟨fun m hm => ?_, ?_⟩
      · rcases List.mem_cons.1 hm with rfl | hm
        · exact goesZ_ops hg
        · exact h1 m hm
      · simp only [List.length_cons]; omega
    · exact ⟨fun m hm => (by cases hm), Nat.zero_le _⟩
theorem modify_ok {g : GlD} {S : List StateD} (hS : SOk g S) (k : Nat) (rule : Int) (row : List MoveD) : SOk g (S.modify k (addRow rule row)) := by
  intro s hs
  obtain ⟨i, hi⟩ := List.mem_iff_getElem?.1 hs
  rw [List.getElem?_modify] at hi
  cases hq : S[i]? with
  | none => rw [hq] at hi; cases hi
  | some t =>
    rw [hq] at hi
    have ht := hS t (List.mem_of_getElem? hq)
    have hi := Option.some.inj hi
    split at hi
    · rw [← hi]; exact ht
    · have hi : t = s := hi
      rw [← hi]; exact ht
theorem codeZ_ok {g : GlD} {B : List Nat} {k : Nat} {c : Int} {S : List StateD} (hS : SOk g S) : SOk g (codeZ g B k c S).2 := by
  unfold codeZ
  dsimp only
  split
  · exact modify_ok (rowZ_ok hS) _ _ _
  · exact hS
theorem modify_ne {S : List StateD} {f : StateD → StateD} {i k : Nat} (h : i ≠ k) : (S.modify k f)[i]? = S[i]? := by
  rw [List.getElem?_modify]
  cases S[i]? with
  | none => rfl
  | some t => show some (if k = i then f t else t) = some t; rw [if_neg (Ne.symm h)]
theorem modify_self {S : List StateD} {f : StateD → StateD} {k : Nat} : (S.modify k f)[k]? = (S[k]?).map f := by
  rw [List.getElem?_modify]
  cases S[k]? with
  | none => rfl
  | some t => show some (if k = k then f t else t) = some (f t); rw [if_pos rfl]
theorem OwnT.updLo {h : T Obj} {v : Value} {z i : Nat} {e : TypeId} {l : List (List Value)} {lo : Nat} {o : Option Obj} (ho : OwnT h v z e l lo) (hi : i < lo) : OwnT (h.upd i o) v z e l lo := by
  rcases ho with ho | ⟨id, h1, rfl, h4, h5⟩
  · exact .inl ho
  · exact .inr ⟨id, h1, rfl, h4, by rw [T.get_upd_ne _ _ (by omega)]; exact h5⟩
structure StR (ro : Ro) (h : T Obj) (X : List Nat) (k : Nat) (uv wv lv rv : Value) (S : List StateD) (cs : List (List Value)) (s : StateD) (ws : List Value) : Prop where
  other : ∀ (i : Nat) x t, i ≠ k → cs[i]? = some x → S[i]? = some t → RState ro (del h X) x t
  tail : ∀ (i : Nat) x t, k < i → cs[i]? = some x → S[i]? = some t → (∃ lv rv, x = [lv, rv, nilS, nilS]) ∧ t.rule = [] ∧ t.next = []
  hx : cs[k]? = some [lv, rv, uv, wv]
  hs : S[k]? = some s
  l : ZI ro (del h X) lv s.l
  r : ZI ro (del h X) rv s.r
  u : OwnT h uv 1 y_int (intsZ s.rule) 0
  w : OwnT h wv 1 y_s_api_Move (onesC ws) 0
  rl : ws.length = s.next.length
  rows : ∀ (i : Nat) v row, ws[i]? = some v → s.next[i]? = some row → RRow ro (del h X) [v] row
theorem ops_R {ro : Ro} {h : T Obj} {v : Value} {l : List Nat} {lo : Nat} (ho : OwnT h v 1 y_uint8 (opsC l) lo) (hl : ∀ o ∈ l, o < 256) : SlR ro h v 1 RU8 l := ⟨opsC l, ho.sl, opsC_len l, fun i x d hx hd => by
  unfold opsC at hx
  rw [List.getElem?_map, hd] at hx
  exact ⟨(Option.some.inj hx).symm, hl d (List.mem_of_getElem? hd)⟩⟩
theorem row_R {ro : Ro} {h : T Obj} {v : Value} {lo : Nat} {mcs : List (List Value)} {row : List MoveD} (ho : OwnT h v 2 y_api_Move mcs lo) (hr : RowOwn h lo mcs row) (hl : ∀ m ∈ row, (∀ o ∈ m.ops, o < 256) ∧ m.ops.length ≤ 512) (hb : row.length ≤ 1000000) : RRow ro h [v] row :=
  ⟨v, rfl, ⟨mcs, ho.sl, hr.1, fun i x m hx hm => by
    obtain ⟨ov, h1, h2⟩ := hr.2 i x m hx hm
    obtain ⟨h3, h4⟩ := hl m (List.mem_of_getElem? hm)
    exact ⟨ov, h1, ops_R h2 h3, by unfold maxB; omega⟩⟩, by unfold maxB; omega⟩
theorem new_R {ro : Ro} {h : T Obj} {x : List Value} {t : StateD} {lo : Nat} (hn : NewSt h lo x t) (hr : t.r.length ≤ 3) : RState ro h x t := by
  obtain ⟨lv, rv, h1, h2, h3, h4, h5⟩ := hn
  refine ⟨lv, rv, nilS, nilS, h1, h2.sl, h3.sl, ?_, ?_, by unfold maxB; omega⟩
  · rw [h4]; exact Sl.nil
  · rw [h5]; exact SlR.nil
section
variable {ro : Ro} {g : GlD} {bid nid kid eid yid sid k : Nat} {av bv fv cv lv rv uv wv : Value} {c : List Nat} {n : Int} {S : List StateD} {cs : List (List Value)} {s : StateD} {ws : List Value}
set_option maxHeartbeats 1000000 in
theorem StR.step {h h' : T Obj} {nx sid' rid : Nat} {uv' wv' rowv : Value} {S' : List StateD} {cs' mcs : List (List Value)} {rule : Int} {row : List MoveD} (hrid : rid < nx) (hSR : StR ro h (rid :: XL bid kid eid yid sid uv wv) k uv wv lv rv S cs s ws) (hf : Fr h nx) (hk : Keep (XL bid kid eid yid sid uv wv) h h') (hsd : sid' = sid ∨ nx ≤ sid') (hlen : cs.length = S.length)
    (hg : Grow (del h' (XL bid kid eid yid sid' uv' wv')) nx cs cs' S S') (hu : OwnT h' uv' 1 y_int (intsZ (s.rule ++ [rule])) nx) (hw : OwnT h' wv' 1 y_s_api_Move (onesC (ws ++ [rowv])) nx) (hro : OwnT (del h' (XL bid kid eid yid sid' uv' wv')) rowv 2 y_api_Move mcs nx) (hrw : RowOwn (del h' (XL bid kid eid yid sid' uv' wv')) nx mcs row)
    (hok : ∀ t ∈ S', t.r.length ≤ 3) (hops : ∀ m ∈ row, (∀ o ∈ m.ops, o < 256) ∧ m.ops.length ≤ 512) (hrl : row.length ≤ 1000000) :
    Sub (del h (rid :: XL bid kid eid yid sid uv wv)) (del h' (rid :: XL bid kid eid yid sid' uv' wv')) ∧ StR ro h' (rid :: XL bid kid eid yid sid' uv' wv') k uv' wv' lv rv (S'.modify k (addRow rule row)) (cs'.set k [lv, rv, uv', wv']) (addRow rule row s) (ws ++ [rowv]) := by
  have hg : Grow (del h' (rid :: XL bid kid eid yid sid' uv' wv')) nx cs cs' S S' := by
    obtain ⟨ds, T, a1, a2, a3, a4⟩ := hg
    refine ⟨ds, T, a1, a2, a3, fun i x t hx ht => ?_⟩
    obtain ⟨lv, rv, h1, h2, h3, h4⟩ := a4 i x t hx ht
    exact ⟨lv, rv, h1, h2.updLo hrid, h3.updLo hrid, h4⟩
  have hro : OwnT (del h' (rid :: XL bid kid eid yid sid' uv' wv')) rowv 2 y_api_Move mcs nx := hro.updLo hrid
  have hrw : RowOwn (del h' (rid :: XL bid kid eid yid sid' uv' wv')) nx mcs row := ⟨hrw.1, fun i x m hx hm => by
    obtain ⟨ov, h1, h2⟩ := hrw.2 i x m hx hm
    exact ⟨ov, h1, h2.updLo hrid⟩⟩
  have hsub : Sub (del h (rid :: XL bid kid eid yid sid uv wv)) (del h' (rid :: XL bid kid eid yid sid' uv' wv')) := hk.del (fun _ h => List.mem_cons_of_mem _ h) fun q hq => by
    rcases List.mem_cons.1 hq with hq | hq
    · exact .inl (List.mem_cons.2 (.inl hq))
    unfold XL at hq
    simp only [List.mem_append, List.mem_cons, List.not_mem_nil, or_false, Option.mem_toList] at hq
    have hin : ∀ q, (q = bid ∨ q = kid ∨ q = eid ∨ q = yid ∨ q = sid) → q ∈ rid :: XL bid kid eid yid sid uv wv := fun q hq => by
      refine List.mem_cons_of_mem _ ?_
      unfold XL
      simp only [List.mem_append, List.mem_cons, List.not_mem_nil, or_false]
      exact .inl hq
    rcases hq with (hq | hq | hq | hq | hq) | hq | hq
    · exact .inl (hin _ (.inl hq))
    · exact .inl (hin _ (.inr (.inl hq)))
    · exact .inl (hin _ (.inr (.inr (.inl hq))))
    · exact .inl (hin _ (.inr (.inr (.inr (.inl hq)))))
    · rcases hsd with hsd | hsd
      · exact .inl (hin _ (.inr (.inr (.inr (.inr (hq.trans hsd))))))
      · exact .inr (hf q (by omega))
    · exact .inr (hf q (hu.blk hq).1)
    · exact .inr (hf q (hw.blk hq).1)
  refine ⟨hsub, ?_⟩
  have hkl := (List.getElem?_eq_some_iff.1 hSR.hx).1
  have hgg := hg
  obtain ⟨ds, T, a1, a2, a3, a4⟩ := hgg
  have hS'k : S'[k]? = some s := by rw [a2, List.getElem?_append_left (by omega)]; exact hSR.hs
  refine ⟨fun i x t hi hx ht => ?_, fun i x t hi hx ht => ?_, ?_, ?_, hSR.l.sub hsub, hSR.r.sub hsub, hu.mono (Nat.zero_le _), hw.mono (Nat.zero_le _), ?_, fun i v r9 hv hr9 => ?_⟩
  · rw [List.getElem?_set_ne (Ne.symm hi)] at hx
    rw [modify_ne hi] at ht
    rcases Nat.lt_or_ge i cs.length with hil | hil
    · rw [a1, List.getElem?_append_left hil] at hx
      rw [a2, List.getElem?_append_left (by omega)] at ht
      exact RState.sub hsub _ _ (hSR.other i x t hi hx ht)
    · have htm := List.mem_of_getElem? ht
      rw [a1, List.getElem?_append_right hil] at hx
      rw [a2, List.getElem?_append_right (by omega), ← hlen] at ht
      exact new_R (a4 _ x t hx ht) (hok t htm)
  · rw [List.getElem?_set_ne (by omega)] at hx
    rw [modify_ne (by omega)] at ht
    rcases Nat.lt_or_ge i cs.length with hil | hil
    · rw [a1, List.getElem?_append_left hil] at hx
      rw [a2, List.getElem?_append_left (by omega)] at ht
      exact hSR.tail i x t hi hx ht
    · rw [a1, List.getElem?_append_right hil] at hx
      rw [a2, List.getElem?_append_right (by omega), ← hlen] at ht
      obtain ⟨lv, rv, q1, q2, q3, q4, q5⟩ := a4 _ x t hx ht
      exact ⟨⟨lv, rv, q1⟩, q4, q5⟩
  · rw [List.getElem?_set_self (by rw [a1]; simp; omega)]
  · rw [modify_self, hS'k]; rfl
  · have := hSR.rl
    show (ws ++ [rowv]).length = (s.next ++ [row]).length
    simp [this]
  · have hr9 : (s.next ++ [row])[i]? = some r9 := hr9
    rcases Nat.lt_or_ge i ws.length with hil | hil
    · rw [List.getElem?_append_left hil] at hv
      rw [List.getElem?_append_left (by have := hSR.rl; omega)] at hr9
      exact RRow.sub hsub _ _ (hSR.rows i v r9 hv hr9)
    · rw [List.getElem?_append_right hil] at hv
      rw [List.getElem?_append_right (by have := hSR.rl; omega), ← hSR.rl] at hr9
      generalize i - ws.length = j at hv hr9
      cases j with
      | succ j => simp at hv
      | zero =>
        simp at hv hr9
        subst hv; subst hr9
        exact row_R hro hrw hops hrl
theorem Bd.modS {h : T Obj} {S' : List StateD} (hB : Bd h g bid nid kid eid yid sid av bv fv c n cv S cs) (hl : S'.length = S.length) (hi : ∀ l, S'.findIdx? (isL l) = S.findIdx? (isL l)) : Bd h g bid nid kid eid yid sid av bv fv c n cv S' cs := by
  obtain ⟨f2, k1, k2⟩ := hB.known
  exact ⟨hB.hc, hB.blk, hB.num, ⟨f2, k1, fun l h1 h2 => by rw [hi]; exact k2 l h1 h2⟩, hB.row, hB.z4, by rw [hl]; exact hB.len, by rw [hl]; exact hB.few, by rw [hl]; exact hB.pos, hB.nk⟩
theorem findIdx_modify (k : Nat) (f : StateD → StateD) (l : List Int) (hf : ∀ s, isL l (f s) = isL l s) : ∀ (S : List StateD), (S.modify k f).findIdx? (isL l) = S.findIdx? (isL l) := by
  intro S
  induction S generalizing k with
  | nil => cases k <;> simp
  | cons s S ih =>
    cases k with
    | zero => rw [List.modify_zero_cons, List.findIdx?_cons, List.findIdx?_cons, hf]
    | succ k => rw [List.modify_succ_cons, List.findIdx?_cons, List.findIdx?_cons, ih]
theorem XL5 : XL bid kid eid yid sid nilS nilS = [bid, kid, eid, yid, sid] := rfl
set_option maxHeartbeats 1000000 in
theorem code_SR {B : List Nat} {code : Int} {en0 st0 : Int → Bool} {hb : T Obj} {rid : Nat} {ra : Array Value} (hr : rightD g = true) (hBl : B.length ≤ 256) (hc0 : 0 ≤ code) (hc1 : code ≤ 255) (hey : eid ≠ yid) (hen : eid ≠ nid) (hek : eid ≠ kid) (hyn : yid ≠ nid) (hyk : yid ≠ kid)
    {h : T Obj} {nx : Nat} {K : KV} (hf : Fr h nx) (hB : Bd h g bid nid kid eid yid sid av bv fv c n cv S cs) (hE : BMap h eid en0) (hY : BMap h yid st0) (hri : h.get rid = some (.cells ra y_api_Auto)) (hbs : Sub hb (del h (rid :: XL bid kid eid yid sid uv wv)))
    (hP : SlR ro hb bv 9 (RPos ro hb) g.p) (ha : ZI ro hb av g.first) (hfv : SlR ro hb fv 1 RU8 B) (hSR : StR ro h (rid :: XL bid kid eid yid sid uv wv) k uv wv lv rv S cs s ws) (hOk : SOk g S) (hrl : s.rule.length ≤ 1000000) (hwl : ws.length ≤ 1000000)
    (hKe : (codeZ g B k code S).1 ≠ 0 → ∀ h' nx', nx ≤ nx' → Fr h' nx' → Sub hb h' → h'.get rid = some (.cells ra y_api_Auto) → K (.int .i64 (codeZ g B k code S).1) h' nx')
    (hK : (codeZ g B k code S).1 = 0 → ∀ h' nx' sid' cs' uv' wv' ws' s' en st, nx ≤ nx' → Fr h' nx' → h'.get rid = some (.cells ra y_api_Auto) → Sub hb (del h' (rid :: XL bid kid eid yid sid' uv' wv')) → Bd h' g bid nid kid eid yid sid' av bv fv c n cv (codeZ g B k code S).2 cs' → StR ro h' (rid :: XL bid kid eid yid sid' uv' wv') k uv' wv' lv rv (codeZ g B k code S).2 cs' s' ws' →
      s'.l = s.l → s'.rule.length = s.rule.length + 1 → ws'.length = ws.length + 1 → BMap h' eid en → BMap h' yid st → K (.int .i64 0) h' nx') :
    callP Try.prog ro i_auto_builder_code [ptr bid, .int .i64 (k : Int), .int .i64 code] h nx K := by
  obtain ⟨hgl, hfr, hmay⟩ := right_parts hr
  have hbs0 : Sub hb (del h (XL bid kid eid yid sid uv wv)) := hbs.trans (del_mono fun q hq => List.mem_cons_of_mem _ hq)
  have hd0 : Sub (del h (rid :: XL bid kid eid yid sid uv wv)) (del h (XL bid kid eid yid sid uv wv)) := del_mono fun q hq => List.mem_cons_of_mem _ hq
  have hrn : rid ∉ XL bid kid eid yid sid uv wv := by
    have m4 := hB.blk
    have m5 := hB.row
    obtain ⟨_, _, m1⟩ := hE.obj
    obtain ⟨_, _, m2⟩ := hY.obj
    obtain ⟨f2, k1, k2⟩ := hB.known
    obtain ⟨_, _, m3⟩ := k1.obj
    unfold XL
    simp only [List.mem_append, List.mem_cons, List.not_mem_nil, or_false, Option.mem_toList, not_or]
    refine ⟨⟨?_, ?_, ?_, ?_, ?_⟩, ?_, ?_⟩
    · rintro rfl
      rw [hri] at m4
      simp only [Option.some.injEq, Obj.cells.injEq] at m4
      exact absurd m4.2.1 (by decide)
    · rintro rfl; rw [hri] at m3; cases m3
    · rintro rfl; rw [hri] at m1; cases m1
    · rintro rfl; rw [hri] at m2; cases m2
    · rintro rfl
      rw [hri] at m5
      simp only [Option.some.injEq, Obj.cells.injEq] at m5
      exact absurd m5.2.1 (by decide)
    · exact hSR.u.neB hri (by intro c f e; simp only [Obj.cells.injEq] at e; exact absurd e.2.1 (by decide))
    · exact hSR.w.neB hri (by intro c f e; simp only [Obj.cells.injEq] at e; exact absurd e.2.1 (by decide))
  have hsm := List.mem_of_getElem? hSR.hs
  have hlk : lAt S k = s.l := by unfold lAt; rw [List.getD_eq_getElem?_getD, hSR.hs]; rfl
  have hcz : codeZ g B k code S = if (rowZ g (entersZ g k (digs g s.l code)) (staysZ (digs g s.l code)) B S).1 = 0 then (0, (rowZ g (entersZ g k (digs g s.l code)) (staysZ (digs g s.l code)) B S).2.2.modify k (addRow (ruleZ g (-1) (digs g s.l code)) (rowZ g (entersZ g k (digs g s.l code)) (staysZ (digs g s.l code)) B S).2.1)) else ((rowZ g (entersZ g k (digs g s.l code)) (staysZ (digs g s.l code)) B S).1, S) := by
    unfold codeZ; rw [hlk]
  have hrk := rowZ_ok (en := entersZ g k (digs g s.l code)) (st := staysZ (digs g s.l code)) (B := B) hOk
  have hop := rowZ_ops hgl (en := entersZ g k (digs g s.l code)) (st := staysZ (digs g s.l code)) (B := B) (S := S)
  refine auto_code_c hr hBl hc0 hc1 hey hen hek hyn hyk hf hB hE hY (hP.sub hbs0 (RPos.sub hbs0)) (ha.sub hbs0) (hfv.sub hbs0 fun _ _ h => h) hSR.hx hSR.hs (hSR.l.sub hd0) (hSR.r.sub hd0) (hOk s hsm).1 hSR.u hSR.w hrl hwl (fun hz h' nx' q1 q2 q3 => ?_) fun hz h' nx' sid' cs' uv' wv' rowv mcs en st q1 q2 q3 q4 q5 q6 q7 q8 q9 q10 q11 q12 => ?_
  · rw [hcz, if_neg hz] at hKe
    refine hKe hz h' nx' q1 q2 (hbs0.trans (q3.delS fun q hq => ?_)) (q3 _ _ hri fun hm => hrn ?_)
    · unfold XL
      exact List.mem_append.2 (.inl hq)
    · unfold XL
      exact List.mem_append.2 (.inl hm)
  · rw [hcz, if_pos hz] at hK
    generalize rowZ g (entersZ g k (digs g s.l code)) (staysZ (digs g s.l code)) B S = Z at *
    obtain ⟨r1, r2⟩ := StR.step (rid := rid) (rule := ruleZ g (-1) (digs g s.l code)) (row := Z.2.1) (hf.lt' hri) hSR hf q3 q4 hB.len q6 q7 q8 q9 q10 (fun t ht => (hrk t ht).2.2) hop.1 (by have := hop.2; omega)
    refine hK rfl h' nx' sid' _ uv' wv' _ _ en st q1 q2 (q3 _ _ hri hrn) (hbs.trans r1) (q5.modS (by simp) fun l => findIdx_modify k (addRow (ruleZ g (-1) (digs g s.l code)) Z.2.1) l (fun _ => rfl) _) r2 rfl (by show (s.rule ++ [_]).length = _; simp) (by simp) q11 q12
end
end V
end Go.Proofs.Ytmmdcdjkmakgpaa
set_option linter.unusedVariables false
set_option linter.unusedSimpArgs false
namespace Go.Proofs.Ytmmdcdjkmakgpaa
namespace V
open PA
attribute [local irreducible] bindP ifP condP newP optP exP beqP
def autZ : List Value := autL (List.replicate 256 0) 0 nilS nilS
theorem zer_Auto : zer Try.prog y_api_Auto = some (.agg autZ.toArray) := by kernel_rfl
theorem build_Auto0 : buildV Try.prog y_api_Auto [] = some (.agg autZ.toArray) := by kernel_rfl
theorem autZ_len : autZ.length = 259 := autL_len List.length_replicate
theorem autZ_ok : autZ.all cellOk = true := autL_ok rfl rfl
theorem codesZ_succ (g : GlD) (B : List Nat) (k m : Nat) (c : Int) (S : List StateD) : codesZ g B k (m + 1) c S = if (codeZ g B k c S).1 = 0 then codesZ g B k m (c + 1) (codeZ g B k c S).2 else ((codeZ g B k c S).1, S) := rfl
theorem allZ_succ (g : GlD) (B : List Nat) (m k : Nat) (S : List StateD) : allZ g B (m + 1) k S = if k < S.length then (if (codesZ g B k (codesD (S.getD k noS).r.length).toNat 0 S).1 = 0 then allZ g B m (k + 1) (codesZ g B k (codesD (S.getD k noS).r.length).toNat 0 S).2 else ((codesZ g B k (codesD (S.getD k noS).r.length).toNat 0 S).1, S)) else (0, S) := rfl
structure Fz (ro : Ro) (h : T Obj) (X : List Nat) (k : Nat) (S : List StateD) (cs : List (List Value)) : Prop where
  all : ∀ (i : Nat) x t, cs[i]? = some x → S[i]? = some t → RState ro (del h X) x t
  tail : ∀ (i : Nat) x t, k ≤ i → cs[i]? = some x → S[i]? = some t → (∃ lv rv, x = [lv, rv, nilS, nilS]) ∧ t.rule = [] ∧ t.next = []
section
variable {ro : Ro} {g : GlD} {bid nid kid eid yid k rid : Nat} {av bv fv cv : Value} {c : List Nat} {n : Int} {B : List Nat} {hb : T Obj}
set_option maxRecDepth 8000 in
set_option maxHeartbeats 1000000 in
theorem Of_L2_c {sid : Nat} {uv wv lv rv : Value} {S : List StateD} {cs : List (List Value)} {s : StateD} {ws : List Value} {en0 st0 : Int → Bool} {e : Env} {N : Nat} (hr : rightD g = true) (hBl : B.length ≤ 256) (hN : N ≤ 27) (hey : eid ≠ yid) (hen : eid ≠ nid) (hek : eid ≠ kid) (hyn : yid ≠ nid) (hyk : yid ≠ kid)
    (hP : SlR ro hb bv 9 (RPos ro hb) g.p) (ha : ZI ro hb av g.first) (hfv : SlR ro hb fv 1 RU8 B) 
    {h : T Obj} {nx : Nat} {Q : KE} (hf : Fr h nx) (hrid : h.get rid = some (.cells autZ.toArray y_api_Auto)) (hB : Bd h g bid nid kid eid yid sid av bv fv c n cv S cs) (hE : BMap h eid en0) (hY : BMap h yid st0) (hbs : Sub hb (del h (rid :: XL bid kid eid yid sid uv wv)))
    (hSR : StR ro h (rid :: XL bid kid eid yid sid uv wv) k uv wv lv rv S cs s ws) (hOk : SOk g S) (hrl : s.rule.length ≤ 1000) (hwl : ws.length ≤ 1000)
    (e2 : e 2 = ptr rid) (e4 : e 4 = ptr bid) (e8 : e 8 = .int .i64 (k : Int)) (e107 : e 107 = .int .i64 (N : Int)) (e108 : e 108 = .int .i64 0)
    (hQe : (codesZ g B k N 0 S).1 ≠ 0 → ∀ e' h' nx', nx ≤ nx' → Fr h' nx' → Sub hb h' → h'.get rid = some (.cells autZ.toArray y_api_Auto) → e' 2 = ptr rid → e' 3 = .int .i64 (codesZ g B k N 0 S).1 → Q .ret e' h' nx')
    (hQ : (codesZ g B k N 0 S).1 = 0 → ∀ e' h' nx' sid' cs' uv' wv' ws' s' en st, nx ≤ nx' → Fr h' nx' → h'.get rid = some (.cells autZ.toArray y_api_Auto) → Sub hb (del h' (rid :: XL bid kid eid yid sid' uv' wv')) → Bd h' g bid nid kid eid yid sid' av bv fv c n cv (codesZ g B k N 0 S).2 cs' → StR ro h' (rid :: XL bid kid eid yid sid' uv' wv') k uv' wv' lv rv (codesZ g B k N 0 S).2 cs' s' ws' → SOk g (codesZ g B k N 0 S).2 →
      BMap h' eid en → BMap h' yid st → e' 2 = ptr rid → e' 4 = ptr bid → e' 8 = .int .i64 (k : Int) → Q (.exit 4) e' h' nx') :
    loopP (auto_Of_L2 ro) e h nx Q := by
  generalize hZ : codesZ g B k N 0 S = Z at hQe hQ
  refine loopP_rule (fun j e h' nx' => ∃ (i sid' : Nat) (S' : List StateD) (cs' : List (List Value)) (uv' wv' : Value) (ws' : List Value) (s' : StateD) (en st : Int → Bool), i + j = N ∧ nx ≤ nx' ∧ Fr h' nx' ∧ h'.get rid = some (.cells autZ.toArray y_api_Auto) ∧ Sub hb (del h' (rid :: XL bid kid eid yid sid' uv' wv')) ∧ Bd h' g bid nid kid eid yid sid' av bv fv c n cv S' cs' ∧
    StR ro h' (rid :: XL bid kid eid yid sid' uv' wv') k uv' wv' lv rv S' cs' s' ws' ∧ SOk g S' ∧ s'.rule.length ≤ 1000 + i ∧ ws'.length ≤ 1000 + i ∧ BMap h' eid en ∧ BMap h' yid st ∧ e 2 = ptr rid ∧ e 4 = ptr bid ∧ e 8 = .int .i64 (k : Int) ∧ e 107 = .int .i64 (N : Int) ∧ e 108 = .int .i64 i ∧ codesZ g B k j i S' = Z) ?_ (n := N)
    ⟨0, sid, S, cs, uv, wv, ws, s, en0, st0, by omega, by omega, hf, hrid, hbs, hB, hSR, hOk, by omega, by omega, hE, hY, e2, e4, e8, e107, e108, hZ⟩
  rintro j e' h' nx' ⟨i, sid', S', cs', uv', wv', ws', s', en, st, hj, hnx, hf', hri', hbs', hB', hSR', hOk', hrl', hwl', hE', hY', f2, f4, f8, f107, f108, hrz⟩ Q' hq hx
  unfold auto_Of_L2
  rw [f4, f8, f107, f108]
  refine lss_s (fun hi => ?_) (fun hi => ?_)
  · obtain ⟨j, rfl⟩ : ∃ j', j = j' + 1 := ⟨j - 1, by omega⟩
    rw [codesZ_succ] at hrz
    refine condP_t ?_
    refine code_SR hr hBl (by omega) (by omega) hey hen hek hyn hyk (hf'.mono (show nx' ≤ nx' + 7 by omega)) hB' hE' hY' hri' hbs' hP ha hfv hSR' hOk' (by omega) (by omega) (fun hz h3 n3 q1 q2 q3 hg3 => ?_) fun hz h3 n3 sid3 cs3 uv3 wv3 ws3 s3 en3 st3 q1 q2 qri q3 q4 q5 q6 q7 q8 q9 q10 => ?_
    · rw [if_neg hz] at hrz
      have hz1 : Z.1 = (codeZ g B k i S').1 := by rw [← hrz]
      refine neq_t hz (condP_t (bindP_mk build_Auto0 ?_))
      show bindP (storeN 259 h3 (e' 2) _) _
      rw [f2]
      refine bindP_mk (storeA_own (l := autZ) (vs := autZ) hg3 rfl autZ_len autZ_len autZ_ok) ?_
      refine hx _ _ _ _ (fun e => by cases e) ?_
      refine hQe (by rw [hz1]; exact hz) _ _ _ (by omega) ((q2.mono (show n3 ≤ n3 + 7 by omega)).upd (Nat.le_refl _) (by have := q2.lt' hg3; omega)) (fun i o hi => ?_) (by rw [T.get_upd_same]) f2 (by rw [hz1]; rfl)
      have hi3 := q3 _ _ hi
      by_cases hir : i = rid
      · subst hir
        rw [T.get_upd_same, ← hg3, hi3]
      · rw [T.get_upd_ne _ _ hir]; exact hi3
    · rw [if_pos hz] at hrz
      have hok3 := codeZ_ok (B := B) (k := k) (c := (i : Int)) hOk'
      generalize (codeZ g B k (i : Int) S').2 = S3 at hrz q4 q5 hok3
      refine neq_f rfl (condP_f (bindP_mk (intB_add _ _ _) ?_))
      rw [wr_i64 (by omega) (by omega)]
      exact hq j _ _ _ _ (by omega) ⟨i + 1, sid3, S3, cs3, uv3, wv3, ws3, s3, en3, st3, by omega, by omega, q2.mono (by omega), qri, q3, q4, q5, hok3, by omega, by omega, q9, q10, f2, f4, f8, f107, rfl, hrz⟩ (Sub.refl _)
  · obtain rfl : j = 0 := by omega
    have hrz : ((0 : Int), S') = Z := hrz
    subst hrz
    refine condP_f (hx _ _ _ _ (fun e => by cases e) ?_)
    exact hQ rfl _ _ _ sid' cs' uv' wv' ws' s' en st (by omega) (hf'.mono (by omega)) hri' hbs' hB' hSR' hOk' hE' hY' f2 f4 f8
theorem StR.fz {h : T Obj} {sid : Nat} {uv wv lv rv : Value} {S : List StateD} {cs : List (List Value)} {s : StateD} {ws : List Value} {en st : Int → Bool} (hri : h.get rid = some (.cells autZ.toArray y_api_Auto)) (hSR : StR ro h (rid :: XL bid kid eid yid sid uv wv) k uv wv lv rv S cs s ws) (hB : Bd h g bid nid kid eid yid sid av bv fv c n cv S cs) (hE : BMap h eid en) (hY : BMap h yid st) (hOk : SOk g S) : Fz ro h [rid, bid, kid, eid, yid, sid] (k + 1) S cs := by
  have hsub : Sub (del h (rid :: XL bid kid eid yid sid uv wv)) (del h [rid, bid, kid, eid, yid, sid]) := del_mono fun q hq => by
    rcases List.mem_cons.1 hq with hq | hq
    · exact List.mem_cons.2 (.inl hq)
    · unfold XL; exact List.mem_cons_of_mem _ (List.mem_append.2 (.inl hq))
  have hnot : ∀ {v : Value} {z lo : Nat} {e : TypeId} {l : List (List Value)}, e ≠ y_auto_builder → e ≠ y_api_State → e ≠ y_api_Auto → OwnT h v z e l lo → OwnT (del h [rid, bid, kid, eid, yid, sid]) v z e l lo := fun he1 he2 he3 ho => ho.del fun id hid => by
    obtain ⟨_, z⟩ := ho.blk hid
    obtain ⟨_, _, m1⟩ := hE.obj
    obtain ⟨_, _, m2⟩ := hY.obj
    obtain ⟨f2, k1, k2⟩ := hB.known
    obtain ⟨_, _, m3⟩ := k1.obj
    have m4 := hB.blk
    have m5 := hB.row
    simp only [List.mem_cons, List.not_mem_nil, or_false, not_or]
    refine ⟨?_, ?_, ?_, ?_, ?_, ?_⟩ <;> rintro rfl
    · rw [z] at hri
      simp only [Option.some.injEq, Obj.cells.injEq] at hri
      exact he3 hri.2.1
    · rw [z] at m4
      simp only [Option.some.injEq, Obj.cells.injEq] at m4
      exact he1 m4.2.1
    · rw [z] at m3; cases m3
    · rw [z] at m1; cases m1
    · rw [z] at m2; cases m2
    · rw [z] at m5
      simp only [Option.some.injEq, Obj.cells.injEq] at m5
      exact he2 m5.2.1
  refine ⟨fun i x t hx ht => ?_, fun i x t hi hx ht => hSR.tail i x t (by omega) hx ht⟩
  by_cases hik : i = k
  · subst hik
    rw [hSR.hx] at hx
    rw [hSR.hs] at ht
    cases hx; cases ht
    refine ⟨lv, rv, uv, wv, rfl, hSR.l.sub hsub, hSR.r.sub hsub, (hnot (by decide) (by decide) (by decide) hSR.u).sl, ⟨onesC ws, (hnot (by decide) (by decide) (by decide) hSR.w).sl, by rw [onesC_len]; exact hSR.rl, fun i x d hx hd => ?_⟩, ?_⟩
    · unfold onesC at hx
      rw [List.getElem?_map] at hx
      cases hq : ws[i]? with
      | none => rw [hq] at hx; cases hx
      | some v =>
        rw [hq] at hx
        cases hx
        exact RRow.sub hsub _ _ (hSR.rows i v d hq hd)
    · have := (hOk _ (List.mem_of_getElem? hSR.hs)).2.2
      unfold maxB; omega
  · exact RState.sub hsub _ _ (hSR.other i x t hik hx ht)
set_option maxRecDepth 8000 in
set_option maxHeartbeats 1000000 in
theorem Of_L1_c {sid : Nat} {S : List StateD} {cs : List (List Value)} {en0 st0 : Int → Bool} {e : Env} (hr : rightD g = true) (hBl : B.length ≤ 256) (hey : eid ≠ yid) (hen : eid ≠ nid) (hek : eid ≠ kid) (hyn : yid ≠ nid) (hyk : yid ≠ kid)
    (hP : SlR ro hb bv 9 (RPos ro hb) g.p) (ha : ZI ro hb av g.first) (hfv : SlR ro hb fv 1 RU8 B) 
    {h : T Obj} {nx : Nat} {Q : KE} (hf : Fr h nx) (hrid : h.get rid = some (.cells autZ.toArray y_api_Auto)) (hB : Bd h g bid nid kid eid yid sid av bv fv c n cv S cs) (hE : BMap h eid en0) (hY : BMap h yid st0) (hbs : Sub hb (del h [rid, bid, kid, eid, yid, sid]))
    (hFz : Fz ro h [rid, bid, kid, eid, yid, sid] 0 S cs) (hOk : SOk g S) (e2 : e 2 = ptr rid) (e4 : e 4 = ptr bid) (e8 : e 8 = .int .i64 0)
    (hQe : (allZ g B 256 0 S).1 ≠ 0 → ∀ e' h' nx', nx ≤ nx' → Fr h' nx' → Sub hb h' → h'.get rid = some (.cells autZ.toArray y_api_Auto) → e' 2 = ptr rid → e' 3 = .int .i64 (allZ g B 256 0 S).1 → Q .ret e' h' nx')
    (hQ : (allZ g B 256 0 S).1 = 0 → ∀ e' h' nx' sid' cs', nx ≤ nx' → Fr h' nx' → h'.get rid = some (.cells autZ.toArray y_api_Auto) → Sub hb (del h' [rid, bid, kid, eid, yid, sid']) → Bd h' g bid nid kid eid yid sid' av bv fv c n cv (allZ g B 256 0 S).2 cs' → (∀ (i : Nat) x t, cs'[i]? = some x → (allZ g B 256 0 S).2[i]? = some t → RState ro (del h' [rid, bid, kid, eid, yid, sid']) x t) → SOk g (allZ g B 256 0 S).2 → e' 2 = ptr rid → e' 4 = ptr bid → Q (.exit 2) e' h' nx') :
    loopP (auto_Of_L1 ro) e h nx Q := by
  generalize hZ : allZ g B 256 0 S = Z at hQe hQ
  refine loopP_rule (fun j e h' nx' => ∃ (k sid' : Nat) (S' : List StateD) (cs' : List (List Value)) (en st : Int → Bool), k + j = 256 ∧ nx ≤ nx' ∧ Fr h' nx' ∧ h'.get rid = some (.cells autZ.toArray y_api_Auto) ∧ Sub hb (del h' [rid, bid, kid, eid, yid, sid']) ∧ Bd h' g bid nid kid eid yid sid' av bv fv c n cv S' cs' ∧
    Fz ro h' [rid, bid, kid, eid, yid, sid'] k S' cs' ∧ SOk g S' ∧ BMap h' eid en ∧ BMap h' yid st ∧ e 2 = ptr rid ∧ e 4 = ptr bid ∧ e 8 = .int .i64 (k : Int) ∧ allZ g B j k S' = Z) ?_ (n := 256)
    ⟨0, sid, S, cs, en0, st0, by omega, by omega, hf, hrid, hbs, hB, hFz, hOk, hE, hY, e2, e4, e8, hZ⟩
  rintro j e' h' nx' ⟨k, sid', S', cs', en, st, hj, hnx, hf', hri', hbs', hB', hFz', hOk', hE', hY', f2, f4, f8, hrz⟩ Q' hq hx
  unfold auto_Of_L1
  rw [f4, f8]
  have hbk := hB'.blk
  have b262 := bldL_262 (av := av) (bv := bv) (nv := .map (some nid)) (fv := fv) (n := n) (cv := cv) (sv := .slice (some (own sid' 4)) cs'.length cs'.length) (kv := .map (some kid)) (ev := .map (some eid)) (yv := .map (some yid)) hB'.hc
  have hlen := hB'.len
  have hfew := hB'.few
  (repeat (first | refine bindP_mk (by simp (disch := first | omega | exact Int.natCast_nonneg _ | assumption) only [BB, B2, ↓reduceIte, Nat.reduceLeDiff, Nat.reduceAdd, CC, nilCk_at, hbk, b262] <;> rfl) ?_ | refine newP_mk ?_ | refine optP_mk ?_ | with_reducible first | refine condP_t ?_ | refine condP_f ?_ | refine ifP_tt' ?_ | refine ifP_ff' ?_ | refine ifP_tf' ?_ | refine ifP_ft' ?_ | refine ifP_u' ?_ | refine optP_mk0 ?_))
  refine lss_s (fun hi => ?_) (fun hi => ?_)
  · obtain ⟨j, rfl⟩ : ∃ j', j = j' + 1 := ⟨j - 1, by omega⟩
    have hkl : k < cs'.length := by omega
    rw [allZ_succ, if_pos (by omega)] at hrz
    obtain ⟨x, hxk⟩ : ∃ x, cs'[k]? = some x := ⟨_, List.getElem?_eq_getElem hkl⟩
    obtain ⟨s, hsk⟩ : ∃ s, S'[k]? = some s := ⟨_, List.getElem?_eq_getElem (by omega)⟩
    obtain ⟨⟨lv, rv, rfl⟩, ht1, ht2⟩ := hFz'.tail k x s (Nat.le_refl _) hxk hsk
    obtain ⟨lv2, rv2, uv2, nv2, hx1, hx2, hx3, hx4, hx5, hx6⟩ := hFz'.all k _ s hxk hsk
    simp only [List.cons.injEq, and_true] at hx1
    obtain ⟨rfl, rfl, rfl, rfl⟩ := hx1
    have hix := ixSl_own' (id := sid') (z := 4) (cap := cs'.length) hkl
    have hrow := hB'.row
    have q1 := flat4_get (j := 1) hB'.z4 hxk (by omega)
    have q1 : cs'.flatten[k * 4 + 1]? = some rv := q1
    have hrn := (hx3.sub (del_sub _ _)).len
    have hSR : StR ro h' (rid :: XL bid kid eid yid sid' nilS nilS) k nilS nilS lv rv S' cs' s [] := ⟨fun i x t _ hx ht => by rw [XL5]; exact hFz'.all i x t hx ht, fun i x t hi hx ht => hFz'.tail i x t (by omega) hx ht, hxk, hsk, by rw [XL5]; exact hx2, by rw [XL5]; exact hx3, by rw [ht1]; exact OwnT.nil, OwnT.nil, by rw [ht2]; rfl, fun i v row hv => by simp at hv⟩
    have hgd : S'.getD k noS = s := by rw [List.getD_eq_getElem?_getD, hsk]; rfl
    rw [hgd] at hrz
    have hcl := codes_le s.r.length
    (repeat (first | refine bindP_mk (by simp (disch := first | omega | exact Int.natCast_nonneg _ | assumption) only [BB, B2, ↓reduceIte, Nat.reduceLeDiff, Nat.reduceAdd, CC, nilCk_at, hbk, b262, hix, hrow, q1, hrn] <;> rfl) ?_ | refine newP_mk ?_ | refine optP_mk ?_ | with_reducible first | refine condP_t ?_ | refine condP_f ?_ | refine ifP_tt' ?_ | refine ifP_ff' ?_ | refine ifP_tf' ?_ | refine ifP_ft' ?_ | refine ifP_u' ?_ | refine optP_mk0 ?_))
    refine auto_Codes_c fun n5 hn5 => ?_
    have hcn : codesD (s.r.length : Int) = (((codesD (s.r.length : Int)).toNat : Nat) : Int) := by omega
    refine Of_L2_c (N := (codesD (s.r.length : Int)).toNat) (k := k) hr hBl (by omega) hey hen hek hyn hyk hP ha hfv (hf'.mono (show nx' ≤ n5 + 1 by omega)) hri' hB' hE' hY' (by rw [XL5]; exact hbs') hSR hOk' (by rw [ht1]; exact Nat.zero_le _) (Nat.zero_le _) ?_ ?_ ?_ ?_ ?_ ?_ ?_
    · exact f2
    · exact f4
    · exact f8
    · show Value.int _ _ = _
      rw [← hcn]
    · rfl
    · intro hz e3 h3 n3 p1 p2 p3 pri p4 p5
      rw [if_neg hz] at hrz
      have hz1 : Z.1 = (codesZ g B k (codesD (s.r.length : Int)).toNat 0 S').1 := by rw [← hrz]
      refine exP_r (hx _ _ _ _ (fun e => by cases e) ?_)
      exact hQe (by rw [hz1]; exact hz) _ _ _ (by omega) p2 p3 pri p4 (by rw [hz1]; exact p5)
    · intro hz e3 h3 n3 sid3 cs3 uv3 wv3 ws3 s3 en3 st3 p1 p2 pri p3 p4 p5 p6 p7 p8 p9 p10 p11
      rw [if_pos hz] at hrz
      refine exP_e (beqP_t ?_)
      unfold auto_Of_j3
      rw [p11]
      (repeat (first | refine bindP_mk (by simp (disch := first | omega | exact Int.natCast_nonneg _ | assumption) only [BB, B2, ↓reduceIte, Nat.reduceLeDiff, Nat.reduceAdd, CC] <;> rfl) ?_ | refine newP_mk ?_ | refine optP_mk ?_ | with_reducible first | refine condP_t ?_ | refine condP_f ?_ | refine ifP_tt' ?_ | refine ifP_ff' ?_ | refine ifP_tf' ?_ | refine ifP_ft' ?_ | refine ifP_u' ?_ | refine optP_mk0 ?_))
      refine hq j _ _ _ _ (by omega) ⟨k + 1, sid3, _, cs3, en3, st3, by omega, by omega, p2.mono (by omega), pri, p3.trans (del_mono fun q hq => ?_), p4, p5.fz pri p4 p7 p8 p6, p6, p7, p8, p9, p10, rfl, hrz⟩ (Sub.refl _)
      rcases List.mem_cons.1 hq with hq | hq
      · exact List.mem_cons.2 (.inl hq)
      · unfold XL; exact List.mem_cons_of_mem _ (List.mem_append.2 (.inl hq))
  · have hrz : ((0 : Int), S') = Z := by
      cases j with
      | zero => exact hrz
      | succ j => rw [allZ_succ, if_neg (by omega)] at hrz; exact hrz
    subst hrz
    refine condP_f (hx _ _ _ _ (fun e => by cases e) ?_)
    exact hQ rfl _ _ _ sid' cs' (by omega) (hf'.mono (by omega)) hri' hbs' hB' hFz'.all hOk' f2 f4
end
end V
end Go.Proofs.Ytmmdcdjkmakgpaa
set_option linter.unusedVariables false
set_option linter.unusedSimpArgs false
namespace Go.Proofs.Ytmmdcdjkmakgpaa
set_option maxRecDepth 20000
namespace V
open PA
theorem zer_Set_mk {K : Value → Prop} (k : K (setV 0)) : bindP (zer Try.prog y_api_Set) K := by rw [zer_Set]; exact k
section
attribute [local irreducible] bindP ifP condP newP optP exP beqP
end
end V
end Go.Proofs.Ytmmdcdjkmakgpaa
set_option linter.unusedVariables false
set_option linter.unusedSimpArgs false
namespace Go.Proofs.Ytmmdcdjkmakgpaa
set_option maxRecDepth 20000
namespace V
open PA
def bytesC (l : List Nat) : List (List Value) := l.map fun b : Nat => [Value.int .u8 (b : Int)]
theorem bytesC_len (l : List Nat) : (bytesC l).length = l.length := by simp [bytesC]
end V
end Go.Proofs.Ytmmdcdjkmakgpaa
set_option linter.unusedVariables false
set_option linter.unusedSimpArgs false
namespace Go.Proofs.Ytmmdcdjkmakgpaa
set_option maxRecDepth 20000
namespace V
open PA
def splitL (c : List Nat) (m : Nat) : List Value := u8s c ++ [.int .i64 (m : Int)]
def splitV (c : List Nat) (m : Nat) : Value := .agg (splitL c m).toArray
theorem splitL_len {c : List Nat} {m : Nat} (hc : c.length = 256) : (splitL c m).length = 257 := by simp [splitL, u8s_len, hc]
theorem splitL_ok (c : List Nat) (m : Nat) : (splitL c m).all cellOk = true := by simp [splitL, u8s, cellOk]
theorem splitL_get {c : List Nat} {m i : Nat} (hi : i < c.length) : (splitL c m)[i]? = some (.int .u8 (c[i] : Nat)) := by
  unfold splitL
  rw [List.getElem?_append_left (by rw [u8s_len]; exact hi)]
  simp [u8s, hi]
theorem splitL_set {c : List Nat} {m i : Nat} (v : Nat) (hi : i < c.length) : (splitL c m).set i (.int .u8 (v : Int)) = splitL (c.set i v) m := by
  unfold splitL
  rw [List.set_append_left _ _ (by rw [u8s_len]; exact hi)]
  simp [u8s, List.map_set]
theorem splitL_setM {c : List Nat} {m : Nat} (v : Nat) (hc : c.length = 256) : (splitL c m).set 256 (.int .i64 (v : Int)) = splitL c v := by
  unfold splitL
  rw [List.set_append_right _ _ (by rw [u8s_len]; omega)]
  simp [u8s_len, hc]
theorem splitV_cells (c : List Nat) (m : Nat) : (splitV c m).cells = (splitL c m).toArray := rfl
theorem zer_Split : zer Try.prog y_api_Split = some (splitV (List.replicate 256 0) 0) := by kernel_rfl
theorem zer_Split_mk {K : Value → Prop} (k : K (splitV (List.replicate 256 0) 0)) : bindP (zer Try.prog y_api_Split) K := by rw [zer_Split]; exact k
theorem rep_len : (List.replicate 256 0 : List Nat).length = 256 := List.length_replicate
def pairL (p : Nat × Bool) : List Value := [.int .u8 (p.1 : Int), .bool p.2]
def pairV (p : Nat × Bool) : Value := .agg (pairL p).toArray
theorem buildV_pair (a b : Value) (ha : a.cells = #[a]) (hb : b.cells = #[b]) : buildV Try.prog y_split_pair [(0, a), (1, b)] = some (.agg #[a, b]) := by
  have h1 : zer Try.prog y_split_pair = some (.agg #[.int .u8 0, .bool false]) := by kernel_rfl
  have h2 : ((und Try.prog y_split_pair).bind fun d => match d with
    | .struct fs => placesV Try.prog fs.toList
    | _ => none) = some [(0, 1), (1, 1)] := by kernel_rfl
  obtain ⟨d, h2, h3⟩ := bind_some' h2
  cases d <;> try (cases h3; done)
  rename_i fs
  simp only at h3
  unfold buildV
  rw [h1]
  simp only [Option.bind, h2, h3]
  simp [fillV, ha, hb, over, Value.cells_agg]
theorem zer_pair_mk {K : Value → Prop} (k : K (pairV (0, false))) : bindP (zer Try.prog y_split_pair) K := by
  have : zer Try.prog y_split_pair = some (pairV (0, false)) := by kernel_rfl
  rw [this]; exact k
def ents : Nat → List (Nat × Bool) → List MapEntry
  | _, [] => []
  | k, p :: r => ({ key := pairV p, val := .int .u8 (k : Int), born := k } : MapEntry) :: ents (k + 1) r
theorem ents_append (k : Nat) (s : List (Nat × Bool)) (p : Nat × Bool) : ents k (s ++ [p]) = ents k s ++ [({ key := pairV p, val := .int .u8 ((k + s.length : Nat) : Int), born := k + s.length } : MapEntry)] := by
  induction s generalizing k with
  | nil => rfl
  | cons q s ih => simp only [List.cons_append, ents, ih, List.length_cons]; rw [show k + 1 + s.length = k + (s.length + 1) by omega]
theorem ents_length (k : Nat) (s : List (Nat × Bool)) : (ents k s).length = s.length := by
  induction s generalizing k with
  | nil => rfl
  | cons q s ih => simp [ents, ih]
theorem pair_eq (p q : Nat × Bool) : keyEq Try.prog y_split_pair (pairV p) (pairV q) = some (decide (p = q)) := by
  have h1 : isAgg Try.prog y_split_pair = some true := by kernel_rfl
  have h2 : plainTy Try.prog 20 y_split_pair = some [1, 0] := by kernel_rfl
  unfold keyEq pairV
  simp only [h1, h2, Option.bind]
  obtain ⟨a, b⟩ := p
  obtain ⟨c, d⟩ := q
  simp only [pairL, eqCells, eqCell, Option.bind]
  by_cases h : a = c <;> cases b <;> cases d <;> simp [h] <;> omega
theorem find_pair (p : Nat × Bool) : ∀ (s : List (Nat × Bool)) (k i : Nat), findV Try.prog y_split_pair (pairV p) (ents k s) i = some (if p ∈ s then some (i + pos s p, .int .u8 ((k + pos s p : Nat) : Int)) else none) := by
  intro s
  induction s with
  | nil => intro k i; simp [ents, findV]
  | cons q s ih =>
    intro k i
    simp only [ents, findV, pair_eq]
    by_cases h : p = q
    · subst h; simp [pos_self]
    · simp only [h, decide_false]
      rw [ih]
      have e : ¬ q = p := fun e => h e.symm
      by_cases hm : p ∈ s
      · rw [if_pos hm, if_pos (by simp [hm]), pos_ne e]; simp; omega
      · rw [if_neg hm, if_neg (by simp [hm, h])]
theorem und_map : ∃ et, und Try.prog y_map_split_pair_uint8 = some (.map y_split_pair et) ∧ zer Try.prog et = some (.int .u8 0) := by
  refine ⟨y_uint8, ?_, ?_⟩ <;> kernel_rfl
theorem pair_ok (p : Nat × Bool) : keyOk Try.prog y_split_pair (pairV p) = true := by
  have h1 : ((und Try.prog y_split_pair).bind fun d => match d with
    | .struct fs => some true
    | _ => none) = some true := by kernel_rfl
  have h2 : plainTy Try.prog 2 y_split_pair = some [1, 0] := by kernel_rfl
  obtain ⟨d, h1, h3⟩ := bind_some' h1
  cases d <;> try (cases h3; done)
  unfold keyOk pairV
  simp only [h1, h2, pairL]
  simp [eqCells, eqCell]
theorem look_pair {h : T Obj} {id c : Nat} {s : List (Nat × Bool)} {p : Nat × Bool} (hg : h.get id = some (.map (ents 0 s).toArray c)) :
    lookV Try.prog h y_map_split_pair_uint8 (.map (some id)) (pairV p) true = some (.tuple #[.int .u8 ((if p ∈ s then pos s p else 0 : Nat) : Int), .bool (decide (p ∈ s))]) := by
  obtain ⟨et, h1, h2⟩ := und_map
  unfold lookV
  simp only [h1, pair_ok, mapAt, entriesAt, hg, Option.bind, lookIn, find_pair]
  by_cases hm : p ∈ s
  · simp [hm, gotV, outV]
  · simp [hm, gotV, outV, h2]
theorem put_pair {h : T Obj} {id : Nat} {s : List (Nat × Bool)} {p : Nat × Bool} (hg : h.get id = some (.map (ents 0 s).toArray s.length)) (hm : ¬ p ∈ s) :
    mapPutV Try.prog h y_map_split_pair_uint8 (.map (some id)) (pairV p) (.int .u8 (s.length : Int)) = some (h.upd id (some (.map (ents 0 (s ++ [p])).toArray (s ++ [p]).length))) := by
  obtain ⟨et, h1, h2⟩ := und_map
  unfold mapPutV
  simp only [h1, pair_ok, entriesAt, hg, Option.bind, find_pair, if_neg hm]
  rw [ents_append]
  simp
theorem len_pair {h : T Obj} {id c : Nat} {s : List (Nat × Bool)} (hg : h.get id = some (.map (ents 0 s).toArray c)) : lenV Try.prog h y_map_split_pair_uint8 (.map (some id)) = some (.int .i64 (s.length : Int)) := by
  obtain ⟨et, h1, h2⟩ := und_map
  unfold lenV
  simp only [h1, entriesAt, hg, Option.bind]
  simp [ents_length]
end V
end Go.Proofs.Ytmmdcdjkmakgpaa
set_option linter.unusedVariables false
set_option linter.unusedSimpArgs false
namespace Go.Proofs.Ytmmdcdjkmakgpaa
set_option maxRecDepth 20000
namespace V
open PA
theorem pairs_length (c : List Nat) (x : Nat) : (pairs c x).length = 256 := by rw [pairs, List.length_map, bs_length]
theorem pairs_get {c : List Nat} {x i : Nat} (hi : i < 256) : (pairs c x)[i]? = some (c.getD i 0, x.testBit i) := by rw [pairs, List.getElem?_map, bs_get hi]; rfl
def part (l : List Nat) (i : Nat) : List Nat := l.take i ++ List.replicate (256 - i) 0
theorem part_len {l : List Nat} (hl : l.length = 256) {i : Nat} (hi : i ≤ 256) : (part l i).length = 256 := by simp [part, hl]; omega
theorem part_set {l : List Nat} (hl : l.length = 256) {i : Nat} (hi : i < 256) : (part l i).set i (l[i]'(by omega)) = part l (i + 1) := by
  unfold part
  rw [List.set_append_right _ _ (by simp; omega)]
  have e : 256 - i = (256 - (i + 1)) + 1 := by omega
  rw [e, List.replicate_succ]
  have e2 : i - (List.take i l).length = 0 := by simp; omega
  rw [e2, List.set_cons_zero, List.take_succ_eq_append_getElem (by omega), List.append_assoc]
  rfl
theorem part_all {l : List Nat} (hl : l.length = 256) : part l 256 = l := by
  unfold part
  rw [List.take_of_length_le (by omega)]; simp
theorem split_cut_end {ro : Ro} {c : List Nat} {s : List (Nat × Bool)} {e : Env} {h h0 : T Obj} {id nx nx0 : Nat} {K : KV} (hc : c.length = 256)
    (e4 : e 4 = at_ (id + 2) 0 0) (e5 : e 5 = at_ (id + 3) 0 0) (e6 : e 6 = .map (some (id + 4)))
    (g3 : h.get (id + 2) = some (.cells (splitL (List.replicate 256 0) 0).toArray y_api_Split)) (g4 : h.get (id + 3) = some (.cells (splitL c 0).toArray y_api_Split)) (g5 : h.get (id + 4) = some (.map (ents 0 s).toArray s.length))
    (hf : Fr h0 nx0) (hs : Sub h0 h) (hid : nx0 ≤ id) (hK : K (splitV c s.length) h0 (nx + 6)) : split_cut_j1 ro K e h nx := by
  unfold split_cut_j1
  rw [e4, e5, e6]
  refine bindP_mk (len_pair g5) ?_
  (repeat (first | refine bindP_mk (by simp (disch := first | omega | exact Int.natCast_nonneg _ | assumption) only [BB, B2, ↓reduceIte, Nat.reduceLeDiff, Nat.reduceAdd, intB_eql, intB_neq, intB_lss, intB_leq, intB_gtr, intB_geq] <;> rfl) ?_ | refine newP_mk ?_ | refine optP_mk ?_ | with_reducible first | refine condP_t ?_ | refine condP_f ?_ | refine ifP_tt' ?_ | refine ifP_ff' ?_ | refine ifP_tf' ?_ | refine ifP_ft' ?_ | refine ifP_u' ?_ | refine optP_mk0 ?_))
  refine bindP_mk (store1_own g4 (by rw [splitL_len hc]; omega) rfl rfl) ?_
  rw [splitL_setM _ hc]
  refine bindP_mk (loadA_all (by rw [T.get_upd_same]) (splitL_len hc)) ?_
  refine bindP_mk (storeA_own (l := splitL (List.replicate 256 0) 0) (vs := splitL c s.length) (e := y_api_Split) (f := (0, 0)) (by simp (disch := first | omega | exact Int.natCast_nonneg _ | assumption) only [BB, B2, ↓reduceIte, Nat.reduceLeDiff, Nat.reduceAdd, intB_eql, intB_neq, intB_lss, intB_leq, intB_gtr, intB_geq, g3]) rfl (splitL_len hc) (splitL_len rep_len) (splitL_ok _ _)) ?_
  refine bindP_mk (loadA_all (by rw [T.get_upd_same]) (splitL_len hc)) ?_
  exact ⟨h0, (hs.new hf (by omega)).new hf (by omega), hK⟩
set_option maxRecDepth 4000 in
theorem split_cut_c {ro : Ro} {c : List Nat} {m x : Nat} (hc : c.length = 256) {h : T Obj} {nx : Nat} {K : KV} (hf : Fr h nx)
    (hK : ∀ nx', nx ≤ nx' → K (splitV (num (pairs c x)) (dd (pairs c x)).length) h nx') : callP Try.prog ro i_split_cut [splitV c m, setV x] h nx K := by
  apply split_cut_of
  unfold split_cut
  refine newP_mk (newP_mk (zer_Split_mk (newP_mk (zer_Split_mk (newP_mk (newP_mk ?_))))))
  have hN : (num (pairs c x)).length = 256 := by rw [num_length, pairs_length]
  refine loopP_rule (fun n e h' nx' => ∃ i : Nat, i + n = 256 ∧ nx + 5 ≤ nx' ∧ e 2 = ptr nx ∧ e 3 = ptr (nx + 1) ∧ e 4 = ptr (nx + 2) ∧ e 5 = ptr (nx + 3) ∧ e 6 = .map (some (nx + 4)) ∧ e 12 = .int .i64 i ∧ Sub h h' ∧ Fr h' nx' ∧
    h'.get nx = some (.cells (splitL c m).toArray y_api_Split) ∧ h'.get (nx + 1) = some (.cells (setL x).toArray y_api_Set) ∧ h'.get (nx + 2) = some (.cells (splitL (List.replicate 256 0) 0).toArray y_api_Split) ∧
    h'.get (nx + 3) = some (.cells (splitL (part (num (pairs c x)) i) 0).toArray y_api_Split) ∧ h'.get (nx + 4) = some (.map (ents 0 (dd ((pairs c x).take i))).toArray (dd ((pairs c x).take i)).length)) ?_ (n := 256)
    ⟨0, by omega, by omega, rfl, rfl, rfl, rfl, rfl, rfl, ?_, ?_, ?_, ?_, ?_, ?_, ?_⟩
  · rintro n e h' nx' ⟨i, hin, hnx, e2, e3, e4, e5, e6, e12, hs, hf', g1, g2, g3, g4, g5⟩ Q' hq hx
    unfold split_cut_L1
    rw [e2, e3, e6, e12]
    (repeat (first | refine bindP_mk (by simp (disch := first | omega | exact Int.natCast_nonneg _ | assumption) only [BB, B2, ↓reduceIte, Nat.reduceLeDiff, Nat.reduceAdd, intB_eql, intB_neq, intB_lss, intB_leq, intB_gtr, intB_geq] <;> rfl) ?_ | refine newP_mk ?_ | refine optP_mk ?_ | with_reducible first | refine condP_t ?_ | refine condP_f ?_ | refine ifP_tt' ?_ | refine ifP_ff' ?_ | refine ifP_tf' ?_ | refine ifP_ft' ?_ | refine ifP_u' ?_ | refine optP_mk0 ?_))
    by_cases hi : i < 256
    · refine condP_tr (by simp; omega) ?_
      have hic : i < c.length := by omega
      have hg := splitL_get (m := m) hic
      (repeat (first | refine bindP_mk (by simp (disch := first | omega | exact Int.natCast_nonneg _ | assumption) only [BB, B2, ↓reduceIte, Nat.reduceLeDiff, Nat.reduceAdd, intB_eql, intB_neq, intB_lss, intB_leq, intB_gtr, intB_geq, g1, hg] <;> rfl) ?_ | refine newP_mk ?_ | refine optP_mk ?_ | with_reducible first | refine condP_t ?_ | refine condP_f ?_ | refine ifP_tt' ?_ | refine ifP_ff' ?_ | refine ifP_tf' ?_ | refine ifP_ft' ?_ | refine ifP_u' ?_ | refine optP_mk0 ?_))
      refine bindP_mk (loadA_all g2 rfl) ?_
      (repeat (first | refine bindP_mk (by simp (disch := first | omega | exact Int.natCast_nonneg _ | assumption) only [BB, B2, ↓reduceIte, Nat.reduceLeDiff, Nat.reduceAdd, intB_eql, intB_neq, intB_lss, intB_leq, intB_gtr, intB_geq] <;> rfl) ?_ | refine newP_mk ?_ | refine optP_mk ?_ | with_reducible first | refine condP_t ?_ | refine condP_f ?_ | refine ifP_tt' ?_ | refine ifP_ff' ?_ | refine ifP_tf' ?_ | refine ifP_ft' ?_ | refine ifP_u' ?_ | refine optP_mk0 ?_))
      refine bset_Has_c hi (hf'.mono (by omega)) fun n1 hn1 => ?_
      refine ⟨sameV_own g1 g1, ?_⟩
      refine bindP_mk (buildV_pair _ _ rfl rfl) ?_
      refine zer_pair_mk (newP_mk ?_)
      refine bindP_mk (storeA_own (l := pairL (0, false)) (vs := pairL (c[i], x.testBit i)) (e := y_split_pair) (f := (0, 0)) (by rw [T.get_upd_same]; rfl) rfl rfl rfl rfl) ?_
      refine bindP_mk (loadA_all (by rw [T.get_upd_same]) rfl) ?_
      generalize hp : (c[i], x.testBit i) = p
      have hpi : (pairs c x)[i]? = some p := by rw [pairs_get hi, ← hp, List.getD_eq_getElem?_getD, List.getElem?_eq_getElem hic]; rfl
      have hpl : i < (pairs c x).length := by rw [pairs_length]; exact hi
      have hpe : (pairs c x)[i] = p := by rw [List.getElem?_eq_getElem hpl] at hpi; exact Option.some.inj hpi
      have htake : (pairs c x).take (i + 1) = (pairs c x).take i ++ [p] := by rw [List.take_succ_eq_append_getElem hpl, hpe]
      have hdd : dd ((pairs c x).take (i + 1)) = addN (dd ((pairs c x).take i)) p := by rw [htake, dd_append]
      have hNi : (num (pairs c x))[i]'(by omega) = ix ((pairs c x).take (i + 1)) p := by
        have h1 := num_get (l := pairs c x) hpl
        rw [hpe, List.getElem?_eq_getElem (by omega)] at h1
        rw [Option.some.inj h1]
        have h2 := idx_stable (l := (pairs c x).take (i + 1)) (m := (pairs c x).drop (i + 1)) (p := p) (by rw [htake]; simp)
        rw [List.take_append_drop] at h2
        exact h2
      have hval : ∀ v : Nat, v = ix ((pairs c x).take (i + 1)) p → ∀ (e : Env) (h1 : T Obj) (n2 : Nat), nx' ≤ n2 → e 2 = ptr nx → e 3 = ptr (nx + 1) → e 4 = ptr (nx + 2) → e 5 = ptr (nx + 3) → e 6 = .map (some (nx + 4)) → e 12 = .int .i64 i → e 7 = .int .i64 i → e 9 = .int .u8 (v : Int) →
          Sub h h1 → Fr h1 n2 → h1.get nx = some (.cells (splitL c m).toArray y_api_Split) → h1.get (nx + 1) = some (.cells (setL x).toArray y_api_Set) → h1.get (nx + 2) = some (.cells (splitL (List.replicate 256 0) 0).toArray y_api_Split) →
          h1.get (nx + 3) = some (.cells (splitL (part (num (pairs c x)) i) 0).toArray y_api_Split) → h1.get (nx + 4) = some (.map (ents 0 (dd ((pairs c x).take (i + 1)))).toArray (dd ((pairs c x).take (i + 1))).length) → split_cut_j3 ro Q' e h1 n2 := by
        intro v hv e h1 n2 hn2 e2 e3 e4 e5 e6 e12 e7 e9 hs1 hf1 g1 g2 g3 g4 g5
        unfold split_cut_j3
        rw [e5, e7, e9]
        (repeat (first | refine bindP_mk (by simp (disch := first | omega | exact Int.natCast_nonneg _ | assumption) only [BB, B2, ↓reduceIte, Nat.reduceLeDiff, Nat.reduceAdd, intB_eql, intB_neq, intB_lss, intB_leq, intB_gtr, intB_geq] <;> rfl) ?_ | refine newP_mk ?_ | refine optP_mk ?_ | with_reducible first | refine condP_t ?_ | refine condP_f ?_ | refine ifP_tt' ?_ | refine ifP_ff' ?_ | refine ifP_tf' ?_ | refine ifP_ft' ?_ | refine ifP_u' ?_ | refine optP_mk0 ?_))
        have hpl2 : (part (num (pairs c x)) i).length = 256 := part_len hN (by omega)
        refine bindP_mk (store1_own g4 (by rw [splitL_len hpl2]; omega) rfl rfl) ?_
        rw [splitL_set _ (by omega), hv, ← hNi, part_set hN hi]
        unfold split_cut_j2
        show bindP (intB .add (e 12) _) _
        rw [e12]
        (repeat (first | refine bindP_mk (by simp (disch := first | omega | exact Int.natCast_nonneg _ | assumption) only [BB, B2, ↓reduceIte, Nat.reduceLeDiff, Nat.reduceAdd, intB_eql, intB_neq, intB_lss, intB_leq, intB_gtr, intB_geq] <;> rfl) ?_ | refine newP_mk ?_ | refine optP_mk ?_ | with_reducible first | refine condP_t ?_ | refine condP_f ?_ | refine ifP_tt' ?_ | refine ifP_ff' ?_ | refine ifP_tf' ?_ | refine ifP_ft' ?_ | refine ifP_u' ?_ | refine optP_mk0 ?_))
        refine hq (n - 1) _ _ _ _ (by omega) ⟨i + 1, by omega, ?_, e2, e3, e4, e5, e6, rfl, hs1.new hf (by omega), (hf1.mono (by omega)).upd (Nat.le_refl _) (by omega), ?_, ?_, ?_, ?_, ?_⟩ (Sub.refl _)
        · omega
        · simp (disch := first | omega | exact Int.natCast_nonneg _ | assumption) only [BB, B2, ↓reduceIte, Nat.reduceLeDiff, Nat.reduceAdd, intB_eql, intB_neq, intB_lss, intB_leq, intB_gtr, intB_geq, g1]
        · simp (disch := first | omega | exact Int.natCast_nonneg _ | assumption) only [BB, B2, ↓reduceIte, Nat.reduceLeDiff, Nat.reduceAdd, intB_eql, intB_neq, intB_lss, intB_leq, intB_gtr, intB_geq, g2]
        · simp (disch := first | omega | exact Int.natCast_nonneg _ | assumption) only [BB, B2, ↓reduceIte, Nat.reduceLeDiff, Nat.reduceAdd, intB_eql, intB_neq, intB_lss, intB_leq, intB_gtr, intB_geq, g3]
        · rw [T.get_upd_same]
        · simp (disch := first | omega | exact Int.natCast_nonneg _ | assumption) only [BB, B2, ↓reduceIte, Nat.reduceLeDiff, Nat.reduceAdd, intB_eql, intB_neq, intB_lss, intB_leq, intB_gtr, intB_geq, g5]
      have hnew : ∀ k, k ≠ nx' + 12 → ((h'.upd (nx' + 12) (some (.cells (Value.cells (pairV (0, false))) y_split_pair))).upd (nx' + 12) (some (.cells (pairL p).toArray y_split_pair))).get k = h'.get k := fun k hk => by
        rw [T.get_upd_ne _ _ hk, T.get_upd_ne _ _ hk]
      generalize hH : (h'.upd (nx' + 12) (some (.cells (Value.cells (pairV (0, false))) y_split_pair))).upd (nx' + 12) (some (.cells (pairL p).toArray y_split_pair)) = H at hnew
      have hHs : Sub h H := by rw [← hH]; exact (hs.new hf (by omega)).new hf (by omega)
      have hHf : Fr H n1 := by rw [← hH]; exact ((hf'.mono (by omega)).upd (Nat.le_refl _) (by omega)).upd (Nat.le_refl _) (by omega)
      have hHk : H.get (nx' + 12) = some (.cells (pairL p).toArray y_split_pair) := by rw [← hH, T.get_upd_same]
      generalize hS : dd ((pairs c x).take i) = s at hdd g5
      have hsl : s.length ≤ i := by
        rw [← hS]
        refine Nat.le_trans (dd_length _) ?_
        rw [List.length_take]; omega
      have g5' : H.get (nx + 4) = some (.map (ents 0 s).toArray s.length) := by rw [hnew _ (by omega)]; exact g5
      refine bindP_mk (look_pair (p := p) g5') ?_
      refine bindP_mk rfl ?_
      refine bindP_mk rfl ?_
      (repeat (first | refine bindP_mk (by simp (disch := first | omega | exact Int.natCast_nonneg _ | assumption) only [BB, B2, ↓reduceIte, Nat.reduceLeDiff, Nat.reduceAdd, intB_eql, intB_neq, intB_lss, intB_leq, intB_gtr, intB_geq] <;> rfl) ?_ | refine newP_mk ?_ | refine optP_mk ?_ | with_reducible first | refine condP_t ?_ | refine condP_f ?_ | refine ifP_tt' ?_ | refine ifP_ff' ?_ | refine ifP_tf' ?_ | refine ifP_ft' ?_ | refine ifP_u' ?_ | refine optP_mk0 ?_))
      by_cases hm : p ∈ s
      · refine condP_fa (by simp [hm]) ?_
        have hix : (if p ∈ s then pos s p else 0) = ix ((pairs c x).take (i + 1)) p := by
          rw [if_pos hm]; unfold ix; rw [hdd]; unfold addN; rw [if_pos hm]
        refine hval _ hix _ _ _ (by omega) e2 e3 e4 e5 e6 e12 rfl rfl hHs (hHf.mono (by omega)) ?_ ?_ ?_ ?_ ?_
        · rw [hnew _ (by omega)]; exact g1
        · rw [hnew _ (by omega)]; exact g2
        · rw [hnew _ (by omega)]; exact g3
        · rw [hnew _ (by omega)]; exact g4
        · rw [hdd, g5']; unfold addN; rw [if_pos hm]
      · refine condP_tr (by simp [hm]) ?_
        refine bindP_mk (len_pair g5') ?_
        (repeat (first | refine bindP_mk (by simp (disch := first | omega | exact Int.natCast_nonneg _ | assumption) only [BB, B2, ↓reduceIte, Nat.reduceLeDiff, Nat.reduceAdd, intB_eql, intB_neq, intB_lss, intB_leq, intB_gtr, intB_geq] <;> rfl) ?_ | refine newP_mk ?_ | refine optP_mk ?_ | with_reducible first | refine condP_t ?_ | refine condP_f ?_ | refine ifP_tt' ?_ | refine ifP_ff' ?_ | refine ifP_tf' ?_ | refine ifP_ft' ?_ | refine ifP_u' ?_ | refine optP_mk0 ?_))
        refine bindP_mk (loadA_all hHk rfl) ?_
        refine bindP_mk (put_pair g5' hm) ?_
        have hix : s.length = ix ((pairs c x).take (i + 1)) p := by
          rw [htake, ix_new (by rw [hS]; exact hm), hS]
        refine hval _ hix _ _ _ (by omega) e2 e3 e4 e5 e6 e12 rfl rfl (hHs.new hf (by omega)) ((hHf.mono (by omega)).upd (Nat.le_refl _) (by omega)) ?_ ?_ ?_ ?_ ?_
        · rw [T.get_upd_ne _ _ (by omega), hnew _ (by omega)]; exact g1
        · rw [T.get_upd_ne _ _ (by omega), hnew _ (by omega)]; exact g2
        · rw [T.get_upd_ne _ _ (by omega), hnew _ (by omega)]; exact g3
        · rw [T.get_upd_ne _ _ (by omega), hnew _ (by omega)]; exact g4
        · rw [hdd, T.get_upd_same]; unfold addN; rw [if_neg hm]
    · refine condP_fa (by simp; omega) ?_
      refine hx _ _ _ _ (fun e => by cases e) ?_
      show exP _ _ _ _
      rw [exP_exit]
      show split_cut_j1 ro K _ _ _
      have hi2 : i = 256 := by omega
      subst hi2
      have ht : (pairs c x).take 256 = pairs c x := List.take_of_length_le (by rw [pairs_length]; omega)
      rw [part_all hN] at g4
      rw [ht] at g5
      exact split_cut_end (id := nx) hN e4 e5 e6 g3 g4 g5 hf hs (Nat.le_refl _) (hK _ (by omega))
  · exact (((((Sub.refl h).new hf (Nat.le_refl _)).new hf (by omega)).new hf (by omega)).new hf (by omega)).new hf (by omega)
  · exact ((((hf.upd (m := nx + 7) (by omega) (by omega)).upd (Nat.le_refl _) (by omega)).upd (Nat.le_refl _) (by omega)).upd (Nat.le_refl _) (by omega)).upd (Nat.le_refl _) (by omega)
  · simp (disch := first | omega | exact Int.natCast_nonneg _ | assumption) only [BB, B2, ↓reduceIte, Nat.reduceLeDiff, Nat.reduceAdd, intB_eql, intB_neq, intB_lss, intB_leq, intB_gtr, intB_geq, splitV_cells]
  · simp (disch := first | omega | exact Int.natCast_nonneg _ | assumption) only [BB, B2, ↓reduceIte, Nat.reduceLeDiff, Nat.reduceAdd, intB_eql, intB_neq, intB_lss, intB_leq, intB_gtr, intB_geq, setV_cells]
  · simp (disch := first | omega | exact Int.natCast_nonneg _ | assumption) only [BB, B2, ↓reduceIte, Nat.reduceLeDiff, Nat.reduceAdd, intB_eql, intB_neq, intB_lss, intB_leq, intB_gtr, intB_geq, splitV_cells]
  · simp (disch := first | omega | exact Int.natCast_nonneg _ | assumption) only [BB, B2, ↓reduceIte, Nat.reduceLeDiff, Nat.reduceAdd, intB_eql, intB_neq, intB_lss, intB_leq, intB_gtr, intB_geq, splitV_cells]
    rfl
  · simp (disch := first | omega | exact Int.natCast_nonneg _ | assumption) only [BB, B2, ↓reduceIte, Nat.reduceLeDiff, Nat.reduceAdd, intB_eql, intB_neq, intB_lss, intB_leq, intB_gtr, intB_geq]
    rfl
end V
end Go.Proofs.Ytmmdcdjkmakgpaa
set_option linter.unusedVariables false
set_option linter.unusedSimpArgs false
namespace Go.Proofs.Ytmmdcdjkmakgpaa
set_option maxRecDepth 20000
namespace V
open PA
def setsC (l : List Nat) : List (List Value) := l.map setL
theorem setsC_len (l : List Nat) : (setsC l).length = l.length := by simp [setsC]
theorem setsC_get {l : List Nat} {i : Nat} (hi : i < l.length) : (setsC l)[i]? = some (setL l[i]) := by simp [setsC, hi]
theorem buildV_Split1 : buildV Try.prog y_api_Split [(1, .int .i64 1)] = some (splitV (List.replicate 256 0) 1) := by kernel_rfl
set_option maxRecDepth 4000 in
theorem split_Of_c {ro : Ro} {v : Value} {l : List Nat} (hlen : l.length ≤ 1000000) {h : T Obj} {nx : Nat} {K : KV} (hf : Fr h nx) (hv : Sl ro h v 4 (setsC l)) (hK : ∀ nx', nx ≤ nx' → K (splitV (cls l) (many l)) h nx') : callP Try.prog ro i_split_Of [v] h nx K := by
  apply split_Of_of
  unfold split_Of
  refine zer_Split_mk (newP_mk (bindP_mk buildV_Split1 (zer_Split_mk (newP_mk ?_))))
  refine bindP_mk (storeA_own (l := splitL (List.replicate 256 0) 0) (vs := splitL (List.replicate 256 0) 1) (by rw [T.get_upd_same]; rfl) rfl (splitL_len rep_len) (splitL_len rep_len) (splitL_ok _ _)) ?_
  have hs2 : Sub h ((((h.upd nx (some (.cells (Value.cells (splitV (List.replicate 256 0) 0)) y_api_Split))).upd (nx + 2) (some (.cells (Value.cells (splitV (List.replicate 256 0) 0)) y_api_Split)))).upd (nx + 2) (some (.cells (splitL (List.replicate 256 0) 1).toArray y_api_Split))) := (((Sub.refl h).new hf (Nat.le_refl _)).new hf (by omega)).new hf (by omega)
  have hlenv := (hv.sub hs2).len
  rw [setsC_len] at hlenv
  refine bindP_mk hlenv ?_
  refine loopP_rule (fun n e h' nx' => ∃ i : Nat, i + n = l.length ∧ nx + 3 ≤ nx' ∧ e 7 = v ∧ e 8 = .int .i64 (l.length : Nat) ∧ e 2 = ptr nx ∧ e 3 = ptr (nx + 2) ∧ e 9 = .int .i64 i ∧ Sub h h' ∧ Fr h' nx' ∧
    h'.get nx = some (.cells (splitL (List.replicate 256 0) 0).toArray y_api_Split) ∧ h'.get (nx + 2) = some (.cells (splitL (cls (l.take i)) (many (l.take i))).toArray y_api_Split)) ?_ (n := l.length) ⟨0, by omega, by omega, rfl, rfl, rfl, rfl, rfl, hs2, ?_, ?_, ?_⟩
  · rintro n e h' nx' ⟨i, hin, hnx, e7, e8, e2, e3, e9, hs, hf', g1, g2⟩ Q' hc hx
    unfold split_Of_L1
    rw [e7, e8, e3, e9]
    (repeat (first | refine bindP_mk (by simp (disch := first | omega | exact Int.natCast_nonneg _ | assumption) only [BB, B2, ↓reduceIte, Nat.reduceLeDiff, Nat.reduceAdd, intB_eql, intB_neq, intB_lss, intB_leq, intB_gtr, intB_geq] <;> rfl) ?_ | refine newP_mk ?_ | refine optP_mk ?_ | with_reducible first | refine condP_t ?_ | refine condP_f ?_ | refine ifP_tt' ?_ | refine ifP_ff' ?_ | refine ifP_tf' ?_ | refine ifP_ft' ?_ | refine ifP_u' ?_ | refine optP_mk0 ?_))
    by_cases hi : i < l.length
    · refine condP_tr (by simp; omega) ?_
      refine bindP_mk ((hv.sub hs).ix _ (by rw [setsC_len]; exact hi)) ?_
      refine bindP_mk ((hv.sub hs).loadA (setsC_get hi)) ?_
      refine zer_Set_mk (newP_mk ?_)
      refine bindP_mk (storeA_own (l := setL 0) (vs := setL l[i]) (e := y_api_Set) (f := (0, 0)) (by rw [T.get_upd_same]; rfl) rfl rfl rfl rfl) ?_
      refine bindP_mk (loadA_all (l := splitL (cls (l.take i)) (many (l.take i))) (e := y_api_Split) (f := (0, 0)) (by simp (disch := first | omega | exact Int.natCast_nonneg _ | assumption) only [BB, B2, ↓reduceIte, Nat.reduceLeDiff, Nat.reduceAdd, intB_eql, intB_neq, intB_lss, intB_leq, intB_gtr, intB_geq, g2]) (splitL_len (cls_length _))) ?_
      refine bindP_mk (loadA_all (l := setL l[i]) (by rw [T.get_upd_same]) rfl) ?_
      refine split_cut_c (m := many (l.take i)) (cls_length _) (((hf'.mono (by omega)).upd (n := nx' + 8) (Nat.le_refl _) (by omega)).upd (Nat.le_refl _) (by omega)) fun n1 hn1 => ?_
      obtain ⟨q1, q2⟩ := cls_step (l.take i) l[i]
      have ht : l.take i ++ [l[i]] = l.take (i + 1) := (List.take_succ_eq_append_getElem hi).symm
      rw [ht] at q1 q2
      rw [q1, q2]
      refine bindP_mk (storeA_own (l := splitL (cls (l.take i)) (many (l.take i))) (vs := splitL (cls (l.take (i + 1))) (many (l.take (i + 1)))) (e := y_api_Split) (f := (0, 0)) (by simp (disch := first | omega | exact Int.natCast_nonneg _ | assumption) only [BB, B2, ↓reduceIte, Nat.reduceLeDiff, Nat.reduceAdd, intB_eql, intB_neq, intB_lss, intB_leq, intB_gtr, intB_geq, g2]) rfl (splitL_len (cls_length _)) (splitL_len (cls_length _)) (splitL_ok _ _)) ?_
      (repeat (first | refine bindP_mk (by simp (disch := first | omega | exact Int.natCast_nonneg _ | assumption) only [BB, B2, ↓reduceIte, Nat.reduceLeDiff, Nat.reduceAdd, intB_eql, intB_neq, intB_lss, intB_leq, intB_gtr, intB_geq] <;> rfl) ?_ | refine newP_mk ?_ | refine optP_mk ?_ | with_reducible first | refine condP_t ?_ | refine condP_f ?_ | refine ifP_tt' ?_ | refine ifP_ff' ?_ | refine ifP_tf' ?_ | refine ifP_ft' ?_ | refine ifP_u' ?_ | refine optP_mk0 ?_))
      refine hc (n - 1) _ _ _ _ (by omega) ⟨i + 1, by omega, ?_, e7, e8, e2, e3, rfl, ((hs.new hf (by omega)).new hf (by omega)).new hf (by omega), (((hf'.mono (by omega)).upd (Nat.le_refl _) (by omega)).upd (Nat.le_refl _) (by omega)).upd (Nat.le_refl _) (by omega), ?_, ?_⟩ (Sub.refl _)
      · omega
      · simp (disch := first | omega | exact Int.natCast_nonneg _ | assumption) only [BB, B2, ↓reduceIte, Nat.reduceLeDiff, Nat.reduceAdd, intB_eql, intB_neq, intB_lss, intB_leq, intB_gtr, intB_geq, g1]
      · rw [T.get_upd_same]
    · refine condP_fa (by simp; omega) ?_
      refine hx _ _ _ _ (fun e => by cases e) (exP_e (beqP_t ?_))
      unfold split_Of_j1
      have ht : l.take i = l := List.take_of_length_le (by omega)
      rw [ht] at g2
      show bindP (loadA ro h' 257 (e 3)) _
      rw [e3]
      show bindP _ fun t => bindP (storeN 257 h' (e 2) t) fun h8 => bindP (loadA ro h8 257 (e 2)) _
      rw [e2]
      exact ret_copy g2 g1 (splitL_len (cls_length _)) (splitL_len rep_len) (splitL_ok _ _) hf hs (Nat.le_refl _) (hK _ (by omega))
  · exact ((hf.upd (m := nx + 7) (by omega) (by omega)).upd (Nat.le_refl _) (by omega)).upd (Nat.le_refl _) (by omega)
  · simp (disch := first | omega | exact Int.natCast_nonneg _ | assumption) only [BB, B2, ↓reduceIte, Nat.reduceLeDiff, Nat.reduceAdd, intB_eql, intB_neq, intB_lss, intB_leq, intB_gtr, intB_geq, splitV_cells]
  · rw [T.get_upd_same, List.take_zero, cls_nil, many_nil]
end V
end Go.Proofs.Ytmmdcdjkmakgpaa
set_option linter.unusedVariables false
set_option linter.unusedSimpArgs false
namespace Go.Proofs.Ytmmdcdjkmakgpaa
set_option maxRecDepth 20000
namespace V
open PA
theorem und_u8s : und Try.prog y_s_uint8 = some (.slice y_uint8) := by kernel_rfl
theorem tin_u8 : ∃ i, tin Try.prog y_uint8 = some i ∧ i.size = 1 ∧ i.bytes = 1 := by
  have h : (tin Try.prog y_uint8).map (fun i => (i.size, i.bytes)) = some (1, 1) := by kernel_rfl
  cases hi : tin Try.prog y_uint8 with
  | none => rw [hi] at h; cases h
  | some i => rw [hi] at h; simp at h; exact ⟨i, rfl, h.1, h.2⟩
theorem zer_u8 : zer Try.prog y_uint8 = some (.int .u8 0) := by kernel_rfl
end V
end Go.Proofs.Ytmmdcdjkmakgpaa
set_option linter.unusedVariables false
set_option linter.unusedSimpArgs false
namespace Go.Proofs.Ytmmdcdjkmakgpaa
set_option maxRecDepth 20000
namespace V
open PA
end V
end Go.Proofs.Ytmmdcdjkmakgpaa
set_option linter.unusedVariables false
set_option linter.unusedSimpArgs false
namespace Go.Proofs.Ytmmdcdjkmakgpaa
set_option maxRecDepth 20000
namespace V
open PA
open PA
theorem splitI_nat (c : List Nat) (m : Nat) : splitV c m = splitI c (m : Int) := rfl
end V
end Go.Proofs.Ytmmdcdjkmakgpaa
set_option linter.unusedVariables false
set_option linter.unusedSimpArgs false
namespace Go.Proofs.Ytmmdcdjkmakgpaa
set_option maxRecDepth 20000
namespace V
open PA
open PA
end V
end Go.Proofs.Ytmmdcdjkmakgpaa
set_option linter.unusedVariables false
set_option linter.unusedSimpArgs false
namespace Go.Proofs.Ytmmdcdjkmakgpaa
set_option maxRecDepth 20000
namespace V
open PA
def lb (c : List Nat) (k i : Nat) : Nat := ((List.range' i (256 - i)).find? fun b => decide (c.getD b 0 = k)).getD 0
theorem lb_end (c : List Nat) (k : Nat) : lb c k 256 = 0 := rfl
theorem lb_step {c : List Nat} {k i : Nat} (hi : i < 256) : lb c k i = if c.getD i 0 = k then i else lb c k (i + 1) := by
  unfold lb
  rw [show 256 - i = (256 - (i + 1)) + 1 by omega, List.range'_succ, List.find?_cons]
  by_cases h : c.getD i 0 = k
  · rw [if_pos h, decide_eq_true h]; rfl
  · rw [if_neg h, decide_eq_false h]
def firstZ (c : List Nat) (n : Int) : List Nat := if n < 1 ∨ 256 < n then [] else (List.range n.toNat).map fun k => lb c k 0
theorem ixSl_own {id z len cap i : Nat} (k : IntKind) (hi : i < len) : ixSl z (.slice (some (own id z)) len cap) (.int k (i : Int)) = some (at_ id (i * z) 0) := by
  have hn : natV (.int k (i : Int)) = some i := by simp [natV]
  have hb : Nat.blt i len = true := by simp [Nat.blt]; omega
  unfold ixSl
  rw [hn]
  simp only [Option.bind_some, hb, own, Nat.beq_refl]
  simp [elt]
theorem zerosV_u8 : ∀ n : Nat, zerosV [.int .u8 0] n = u8s (List.replicate n 0)
  | 0 => rfl
  | n + 1 => by
    have := zerosV_u8 n
    simp only [zerosV, this, u8s, List.replicate_succ, List.map_cons]; rfl
theorem make_u8 {aid n : Nat} (h0 : 1 ≤ n) (h1 : n ≤ 1000000) : makeV Try.prog y_s_uint8 aid (.int .i64 (n : Int)) (.int .i64 (n : Int)) = some (.slice (some (own aid 1)) n n, some (.cells (u8s (List.replicate n 0)).toArray y_uint8)) := by
  obtain ⟨i, g1, g2, g3⟩ := tin_u8
  have hb : Nat.ble n big = true := Nat.ble_eq_true_of_le (by unfold big; omega)
  have e1 : decide ((0 : Int) ≤ (n : Int)) = true := by simp
  have e2 : decide ((n : Int) ≤ (n : Int)) = true := by simp
  have e3 : decide ((n : Int) ≤ 70368744177664) = true := by simp; omega
  have hz : zrow Try.prog y_uint8 n = some (u8s (List.replicate n 0)) := by
    obtain ⟨m, rfl⟩ : ∃ m, n = m + 1 := ⟨n - 1, by omega⟩
    have hs : siz Try.prog y_uint8 = some 1 := by kernel_rfl
    unfold zrow
    simp only [zer_u8, hs, Option.bind_some]
    have h3 : Nat.beq (Value.cells (.int .u8 0)).size 1 = true := rfl
    have h4 : Nat.blt 0 1 = true := rfl
    rw [h3, h4]
    simp only
    rw [← zerosV_u8]; rfl
  unfold makeV
  simp only [und_u8s, e1, e2, g1, Option.bind_some, g3, Nat.mul_one, Int.toNat_natCast, hb, e3, hz, g2]
theorem flat_bytesC (l : List Nat) : (bytesC l).flatten = u8s l := by
  induction l with
  | nil => rfl
  | cons a l ih => simp only [bytesC, u8s, List.map_cons, List.flatten_cons] at ih ⊢; rw [ih]; rfl
theorem u8s_set {l : List Nat} {i v : Nat} : (u8s l).set i (.int .u8 (v : Int)) = u8s (l.set i v) := by simp [u8s, List.map_set]
set_option maxRecDepth 4000 in
theorem split_First_c {ro : Ro} {c : List Nat} {n : Int} (hc : c.length = 256) (hcl : ∀ x ∈ c, x < 256) {h : T Obj} {nx : Nat} {K : KV} (hf : Fr h nx) (hK : ∀ r h' nx', nx ≤ nx' → Sub h h' → Fr h' nx' → Own h' r 1 y_uint8 (bytesC (firstZ c n)) nx nx' → K r h' nx') : callP Try.prog ro i_split_First [splitI c n] h nx K := by
  apply split_First_of
  unfold split_First
  refine newP_mk ?_
  have hg := splitLI_many (n := n) hc
  have g0 : (h.upd nx (some (.cells (Value.cells (splitI c n)) y_api_Split))).get nx = some (.cells (splitLI c n).toArray y_api_Split) := by rw [T.get_upd_same]; rfl
  have hs0 : Sub h (h.upd nx (some (.cells (Value.cells (splitI c n)) y_api_Split))) := (Sub.refl h).new hf (Nat.le_refl _)
  have hf0 : Fr (h.upd nx (some (.cells (Value.cells (splitI c n)) y_api_Split))) (nx + 1) := (hf.mono (Nat.le_succ _)).upd (Nat.le_refl _) (by omega)
  generalize (h.upd nx (some (.cells (Value.cells (splitI c n)) y_api_Split))) = h0 at g0 hs0 hf0
  (repeat (first | refine bindP_mk (by simp (disch := first | omega | exact Int.natCast_nonneg _ | assumption) only [BB, B2, ↓reduceIte, Nat.reduceLeDiff, Nat.reduceAdd, intB_eql, intB_neq, intB_lss, intB_leq, intB_gtr, intB_geq, g0, hg] <;> rfl) ?_ | refine newP_mk ?_ | refine optP_mk ?_ | with_reducible first | refine condP_t ?_ | refine condP_f ?_ | refine ifP_tt' ?_ | refine ifP_ff' ?_ | refine ifP_tf' ?_ | refine ifP_ft' ?_ | refine ifP_u' ?_ | refine optP_mk0 ?_))
  by_cases h1 : n < 1
  · rw [decide_eq_true h1]
    (repeat (first | refine bindP_mk (by simp (disch := first | omega | exact Int.natCast_nonneg _ | assumption) only [BB, B2, ↓reduceIte, Nat.reduceLeDiff, Nat.reduceAdd, intB_eql, intB_neq, intB_lss, intB_leq, intB_gtr, intB_geq, g0, hg] <;> rfl) ?_ | refine newP_mk ?_ | refine optP_mk ?_ | with_reducible first | refine condP_t ?_ | refine condP_f ?_ | refine ifP_tt' ?_ | refine ifP_ff' ?_ | refine ifP_tf' ?_ | refine ifP_ft' ?_ | refine ifP_u' ?_ | refine optP_mk0 ?_))
    exact ⟨h0, Sub.refl _, hK _ _ _ (by omega) hs0 (hf0.mono (by omega)) (by unfold firstZ; rw [if_pos (.inl h1)]; exact Own.nil)⟩
  rw [decide_eq_false h1]
  (repeat (first | refine bindP_mk (by simp (disch := first | omega | exact Int.natCast_nonneg _ | assumption) only [BB, B2, ↓reduceIte, Nat.reduceLeDiff, Nat.reduceAdd, intB_eql, intB_neq, intB_lss, intB_leq, intB_gtr, intB_geq, g0, hg] <;> rfl) ?_ | refine newP_mk ?_ | refine optP_mk ?_ | with_reducible first | refine condP_t ?_ | refine condP_f ?_ | refine ifP_tt' ?_ | refine ifP_ff' ?_ | refine ifP_tf' ?_ | refine ifP_ft' ?_ | refine ifP_u' ?_ | refine optP_mk0 ?_))
  by_cases h2 : 256 < n
  · rw [decide_eq_true h2]
    (repeat (first | refine bindP_mk (by simp (disch := first | omega | exact Int.natCast_nonneg _ | assumption) only [BB, B2, ↓reduceIte, Nat.reduceLeDiff, Nat.reduceAdd, intB_eql, intB_neq, intB_lss, intB_leq, intB_gtr, intB_geq, g0, hg] <;> rfl) ?_ | refine newP_mk ?_ | refine optP_mk ?_ | with_reducible first | refine condP_t ?_ | refine condP_f ?_ | refine ifP_tt' ?_ | refine ifP_ff' ?_ | refine ifP_tf' ?_ | refine ifP_ft' ?_ | refine ifP_u' ?_ | refine optP_mk0 ?_))
    exact ⟨h0, Sub.refl _, hK _ _ _ (by omega) hs0 (hf0.mono (by omega)) (by unfold firstZ; rw [if_pos (.inr h2)]; exact Own.nil)⟩
  rw [decide_eq_false h2]
  obtain ⟨k0, rfl⟩ : ∃ k0 : Nat, n = (k0 : Int) := ⟨n.toNat, by omega⟩
  (repeat (first | refine bindP_mk (by simp (disch := first | omega | exact Int.natCast_nonneg _ | assumption) only [BB, B2, ↓reduceIte, Nat.reduceLeDiff, Nat.reduceAdd, intB_eql, intB_neq, intB_lss, intB_leq, intB_gtr, intB_geq, g0, hg] <;> rfl) ?_ | refine newP_mk ?_ | refine optP_mk ?_ | with_reducible first | refine condP_t ?_ | refine condP_f ?_ | refine ifP_tt' ?_ | refine ifP_ff' ?_ | refine ifP_tf' ?_ | refine ifP_ft' ?_ | refine ifP_u' ?_ | refine optP_mk0 ?_))
  refine bindP_mk (make_u8 (by omega) (by omega)) (optP_mk ?_)
  generalize hN : nx + 7 + 1 + 1 + 3 = ob
  refine loopP_rule (fun j e h' nx' => ∃ i : Nat, i = j ∧ i ≤ 256 ∧ ob + 1 ≤ nx' ∧ e 1 = ptr nx ∧ e 3 = .slice (some (own ob 1)) k0 k0 ∧ e 4 = .int .i64 ((i : Int) - 1) ∧ Sub h h' ∧ Fr h' nx' ∧
    h'.get nx = some (.cells (splitLI c k0).toArray y_api_Split) ∧ h'.get ob = some (.cells (u8s ((List.range k0).map fun k => lb c k i)).toArray y_uint8)) ?_ (n := 256) ⟨256, rfl, by omega, by omega, rfl, rfl, rfl, ?_, ?_, ?_, ?_⟩
  · rintro j e h' nx' ⟨i, rfl, hi, hnx, e1, e3, e4, hs, hf', g0, g1⟩ Q' hq hx
    unfold split_First_L1
    rw [e1, e3, e4]
    (repeat (first | refine bindP_mk (by simp (disch := first | omega | exact Int.natCast_nonneg _ | assumption) only [BB, B2, ↓reduceIte, Nat.reduceLeDiff, Nat.reduceAdd, intB_eql, intB_neq, intB_lss, intB_leq, intB_gtr, intB_geq] <;> rfl) ?_ | refine newP_mk ?_ | refine optP_mk ?_ | with_reducible first | refine condP_t ?_ | refine condP_f ?_ | refine ifP_tt' ?_ | refine ifP_ff' ?_ | refine ifP_tf' ?_ | refine ifP_ft' ?_ | refine ifP_u' ?_ | refine optP_mk0 ?_))
    by_cases hi0 : 0 < i
    · refine condP_tr (by simp; omega) ?_
      obtain ⟨b, rfl⟩ : ∃ b, i = b + 1 := ⟨i - 1, by omega⟩
      have hbb : (((b + 1 : Nat) : Int) - 1) = (b : Int) := by omega
      rw [hbb] at e4 ⊢
      have hbc : b < c.length := by omega
      have hcb := hcl _ (List.getElem_mem hbc)
      have hgb := splitLI_get (n := (k0 : Int)) hbc
      have hgd : c.getD b 0 = c[b] := by rw [List.getD_eq_getElem?_getD, List.getElem?_eq_getElem hbc]; rfl
      (repeat (first | refine bindP_mk (by simp (disch := first | omega | exact Int.natCast_nonneg _ | assumption) only [BB, B2, ↓reduceIte, Nat.reduceLeDiff, Nat.reduceAdd, intB_eql, intB_neq, intB_lss, intB_leq, intB_gtr, intB_geq, g0, hg, hgb] <;> rfl) ?_ | refine newP_mk ?_ | refine optP_mk ?_ | with_reducible first | refine condP_t ?_ | refine condP_f ?_ | refine ifP_tt' ?_ | refine ifP_ff' ?_ | refine ifP_tf' ?_ | refine ifP_ft' ?_ | refine ifP_u' ?_ | refine optP_mk0 ?_))
      have hj2 : ∀ (e : Env) (h2 : T Obj) (n2 : Nat), nx' ≤ n2 → e 1 = ptr nx → e 3 = .slice (some (own ob 1)) k0 k0 → e 4 = .int .i64 (b : Int) → Sub h h2 → Fr h2 n2 → h2.get nx = some (.cells (splitLI c k0).toArray y_api_Split) →
          h2.get ob = some (.cells (u8s ((List.range k0).map fun k => lb c k b)).toArray y_uint8) → split_First_j2 ro Q' e h2 n2 := by
        intro e h2 n2 hn2 e1 e3 e4 hs2 hf2 g0 g1
        unfold split_First_j2
        rw [e4]
        (repeat (first | refine bindP_mk (by simp (disch := first | omega | exact Int.natCast_nonneg _ | assumption) only [BB, B2, ↓reduceIte, Nat.reduceLeDiff, Nat.reduceAdd, intB_eql, intB_neq, intB_lss, intB_leq, intB_gtr, intB_geq] <;> rfl) ?_ | refine newP_mk ?_ | refine optP_mk ?_ | with_reducible first | refine condP_t ?_ | refine condP_f ?_ | refine ifP_tt' ?_ | refine ifP_ff' ?_ | refine ifP_tf' ?_ | refine ifP_ft' ?_ | refine ifP_u' ?_ | refine optP_mk0 ?_))
        exact hq b _ _ _ _ (by omega) ⟨b, rfl, by omega, by omega, e1, e3, rfl, hs2, hf2.mono (by omega), g0, g1⟩ (Sub.refl _)
      have hlb : ∀ k, lb c k b = if c[b] = k then b else lb c k (b + 1) := fun k => by rw [lb_step (by omega), hgd]
      by_cases hlt : c[b] < k0
      · refine condP_tr (by simp; omega) ?_
        (repeat (first | refine bindP_mk (by simp (disch := first | omega | exact Int.natCast_nonneg _ | assumption) only [BB, B2, ↓reduceIte, Nat.reduceLeDiff, Nat.reduceAdd, intB_eql, intB_neq, intB_lss, intB_leq, intB_gtr, intB_geq] <;> rfl) ?_ | refine newP_mk ?_ | refine optP_mk ?_ | with_reducible first | refine condP_t ?_ | refine condP_f ?_ | refine ifP_tt' ?_ | refine ifP_ff' ?_ | refine ifP_tf' ?_ | refine ifP_ft' ?_ | refine ifP_u' ?_ | refine optP_mk0 ?_))
        refine bindP_mk (ixSl_own _ hlt) ?_
        have hul : (u8s ((List.range k0).map fun k => lb c k (b + 1))).length = k0 := by rw [u8s_len, List.length_map, List.length_range]
        refine bindP_mk (store1_own g1 (by rw [hul]; omega) rfl rfl) ?_
        refine hj2 _ _ _ (by omega) e1 e3 e4 (hs.new hf (by omega)) ((hf'.mono (by omega)).upd (Nat.le_refl _) (by omega)) ?_ ?_
        · simp (disch := first | omega | exact Int.natCast_nonneg _ | assumption) only [BB, B2, ↓reduceIte, Nat.reduceLeDiff, Nat.reduceAdd, intB_eql, intB_neq, intB_lss, intB_leq, intB_gtr, intB_geq, g0]
        · rw [T.get_upd_same, Nat.mul_one, u8s_set]
          congr 4
          apply List.ext_getElem
          · simp
          · intro q h5 h6
            simp only [List.getElem_set, List.getElem_map, List.getElem_range, hlb]
      · refine condP_fa (by simp; omega) ?_
        refine hj2 _ _ _ (by omega) e1 e3 e4 hs (hf'.mono (by omega)) g0 ?_
        rw [g1]
        congr 4
        apply List.map_congr_left
        intro k hk
        have hk := List.mem_range.1 hk
        rw [hlb, if_neg (by omega)]
    · refine condP_fa (by simp; omega) ?_
      refine hx _ _ _ _ (fun e => by cases e) (exP_e (beqP_t ?_))
      have hi2 : i = 0 := by omega
      subst hi2
      unfold split_First_j1
      have f3 : ∀ a b, Env.put (Env.put e 17 a) 18 b 3 = .slice (some (own ob 1)) k0 k0 := fun a b => e3
      simp only [puts, f3]
      have hfz : firstZ c (k0 : Int) = (List.range k0).map fun k => lb c k 0 := by unfold firstZ; rw [if_neg (by omega)]; simp
      refine ⟨h', Sub.refl _, hK _ _ _ (by omega) hs (hf'.mono (by omega)) ?_⟩
      rw [hfz]
      refine .inr ⟨ob, by omega, by omega, ?_, by simp [bytesC], by rw [flat_bytesC]; exact g1⟩
      rw [bytesC_len, List.length_map, List.length_range]
  · exact hs0.new hf (by omega)
  · exact (hf0.mono (by omega)).upd (Nat.le_refl _) (by omega)
  · simp (disch := first | omega | exact Int.natCast_nonneg _ | assumption) only [BB, B2, ↓reduceIte, Nat.reduceLeDiff, Nat.reduceAdd, intB_eql, intB_neq, intB_lss, intB_leq, intB_gtr, intB_geq, g0]
  · rw [T.get_upd_same]
    congr 4
    apply List.ext_getElem
    · simp
    · intro q h5 h6
      simp [lb_end]
end V
end Go.Proofs.Ytmmdcdjkmakgpaa
set_option linter.unusedVariables false
set_option linter.unusedSimpArgs false
namespace Go.Proofs.Ytmmdcdjkmakgpaa
set_option maxRecDepth 20000
namespace V
open PA
theorem cls_getD {l : List Nat} {b : Nat} (hb : b < 256) : (cls l).getD b 0 = ix (sigs l) (sig l b) := by
  rw [List.getD_eq_getElem?_getD, cls_get hb]; rfl
theorem cls_eq {l : List Nat} {a b : Nat} (ha : a < 256) (hb : b < 256) : (cls l).getD a 0 = (cls l).getD b 0 ↔ sig l a = sig l b := by
  rw [cls_getD ha, cls_getD hb]
  constructor
  · intro h
    exact idx_inj (sig_mem ha) (sig_mem hb) h
  · intro h; rw [h]
theorem cls_many {l : List Nat} {b : Nat} (hb : b < 256) : (cls l).getD b 0 < many l := by rw [cls_getD hb]; exact cls_lt hb
theorem cls_bound {l : List Nat} : ∀ x ∈ cls l, x < 256 := by
  intro x hx
  obtain ⟨i, hi⟩ := List.mem_iff_getElem?.1 hx
  have hlt := (List.getElem?_eq_some_iff.1 hi).1
  rw [cls_length] at hlt
  rw [cls_get hlt] at hi
  have := cls_lt (l := l) hlt
  have := many_le l
  have := Option.some.inj hi
  omega
theorem lb_spec {c : List Nat} {k b : Nat} (hb : b < 256) (hk : c.getD b 0 = k) : lb c k 0 ≤ b ∧ c.getD (lb c k 0) 0 = k ∧ ∀ j, j < lb c k 0 → c.getD j 0 ≠ k := by
  have key : ∀ n i, i + n = 256 → i ≤ b → lb c k i ≤ b ∧ i ≤ lb c k i ∧ c.getD (lb c k i) 0 = k ∧ ∀ j, i ≤ j → j < lb c k i → c.getD j 0 ≠ k := by
    intro n
    induction n with
    | zero => intro i h1 h2; omega
    | succ n ih =>
      intro i h1 h2
      rw [lb_step (by omega)]
      by_cases h : c.getD i 0 = k
      · rw [if_pos h]; exact ⟨h2, Nat.le_refl _, h, fun j h3 h4 => by omega⟩
      · rw [if_neg h]
        have hib : i ≠ b := fun e => h (by rw [e]; exact hk)
        obtain ⟨q1, q2, q3, q4⟩ := ih (i + 1) (by omega) (by omega)
        refine ⟨q1, by omega, q3, fun j h3 h4 => ?_⟩
        rcases Nat.eq_or_lt_of_le h3 with e | e
        · subst e; exact h
        · exact q4 j e h4
  obtain ⟨q1, _, q3, q4⟩ := key 256 0 (by omega) (by omega)
  exact ⟨q1, q3, fun j hj => q4 j (by omega) hj⟩
theorem cls_has {l : List Nat} {k : Nat} (hk : k < many l) : ∃ b, b < 256 ∧ (cls l).getD b 0 = k := by
  have hm : (dd (sigs l))[k]'hk ∈ sigs l := mem_dd.1 (List.getElem_mem hk)
  obtain ⟨b, hb, e⟩ := List.mem_map.1 hm
  have hb := mem_bs.1 hb
  refine ⟨b, hb, ?_⟩
  rw [cls_getD hb, e]
  have h1 : (dd (sigs l))[k]? = some ((dd (sigs l))[k]'hk) := List.getElem?_eq_getElem hk
  unfold ix
  refine pos_of h1 fun j hj h2 => ?_
  have hn := nodup_dd (sigs l)
  have hj2 := (List.getElem?_eq_some_iff.1 h2).1
  rw [List.getElem?_eq_getElem hj2] at h2
  exact List.pairwise_iff_getElem.1 hn j k hj2 hk hj (Option.some.inj h2)
theorem lb_cls {l : List Nat} {k : Nat} (hk : k < many l) : lb (cls l) k 0 < 256 ∧ (cls l).getD (lb (cls l) k 0) 0 = k ∧ ∀ j, j < lb (cls l) k 0 → (cls l).getD j 0 ≠ k := by
  obtain ⟨b, hb, e⟩ := cls_has hk
  obtain ⟨h1, h2, h3⟩ := lb_spec hb e
  exact ⟨by omega, h2, h3⟩
theorem cls_le_ahead {l : List Nat} {i : Nat} (hi : i < 256) : (cls l).getD i 0 ≤ (dd ((sigs l).take i)).length := by
  have hsl : i < (sigs l).length := by rw [sigs_length]; exact hi
  have hse : (sigs l)[i] = sig l i := by have := sigs_get (l := l) hi; rw [List.getElem?_eq_getElem hsl] at this; exact Option.some.inj this
  have htake : (sigs l).take (i + 1) = (sigs l).take i ++ [sig l i] := by rw [List.take_succ_eq_append_getElem hsl, hse]
  have h2 := idx_stable (l := (sigs l).take (i + 1)) (m := (sigs l).drop (i + 1)) (p := sig l i) (by rw [htake]; simp)
  rw [List.take_append_drop] at h2
  rw [cls_getD hi, h2]
  have h3 := idx_lt (l := (sigs l).take (i + 1)) (p := sig l i) (by rw [htake]; simp)
  have h4 : (dd ((sigs l).take (i + 1))).length ≤ (dd ((sigs l).take i)).length + 1 := by rw [htake, dd_append]; exact addN_length _ _
  omega
theorem many_pos (l : List Nat) : 0 < many l := by
  have := cls_many (l := l) (b := 0) (by omega)
  omega
theorem firstZ_cls (l : List Nat) : firstZ (cls l) (many l : Int) = (List.range (many l)).map fun k => lb (cls l) k 0 := by
  unfold firstZ
  have h1 := many_pos l
  have h2 := many_le l
  rw [if_neg (by omega)]; simp
theorem rt_cls (l : List Nat) : ∀ i, i ≤ 256 → rt (cls l) i = some (dd ((sigs l).take i)).length := by
  intro i
  induction i with
  | zero => intro _; rfl
  | succ i ih =>
    intro hi
    simp only [rt, ih (by omega), Option.bind_some]
    have h1 := cls_le_ahead (l := l) (i := i) (by omega)
    rw [if_neg (by omega)]
    have hsl : i < (sigs l).length := by rw [sigs_length]; omega
    have hse : (sigs l)[i] = sig l i := by have := sigs_get (l := l) (b := i) (by omega); rw [List.getElem?_eq_getElem hsl] at this; exact Option.some.inj this
    have htake : (sigs l).take (i + 1) = (sigs l).take i ++ [sig l i] := by rw [List.take_succ_eq_append_getElem hsl, hse]
    rw [htake, dd_append]
    by_cases hm : sig l i ∈ dd ((sigs l).take i)
    · have h2 : (cls l).getD i 0 < (dd ((sigs l).take i)).length := by
        have h4 := idx_stable (l := (sigs l).take i) (m := (sigs l).drop i) (p := sig l i) (mem_dd.1 hm)
        rw [List.take_append_drop] at h4
        rw [cls_getD (by omega), h4]
        exact idx_lt (mem_dd.1 hm)
      rw [if_neg (by omega)]
      unfold addN; rw [if_pos hm]
    · have h2 : (cls l).getD i 0 = (dd ((sigs l).take i)).length := by
        have h4 := idx_stable (l := (sigs l).take (i + 1)) (m := (sigs l).drop (i + 1)) (p := sig l i) (by rw [htake]; simp)
        rw [List.take_append_drop] at h4
        rw [cls_getD (by omega), h4, htake, ix_new hm]
      rw [if_pos h2]
      unfold addN; rw [if_neg hm]; simp
theorem right_cls (l : List Nat) : rightB (cls l) (many l : Int) = true := by
  unfold rightB
  rw [rt_cls l 256 (Nat.le_refl _), List.take_of_length_le (by rw [sigs_length]; omega)]
  simp [many]
end V
end Go.Proofs.Ytmmdcdjkmakgpaa
set_option linter.unusedVariables false
set_option linter.unusedSimpArgs false
namespace Go.Proofs.Ytmmdcdjkmakgpaa
namespace V
open PA
attribute [local irreducible] bindP ifP condP newP optP exP beqP
theorem build_bld (a b : Value) (i1 i4 i5 i6 : Nat) : buildV Try.prog y_auto_builder [(0, .agg #[a, b]), (1, .map (some i1)), (4, .map (some i4)), (5, .map (some i5)), (6, .map (some i6))] = some (.agg (bldL a b (.map (some i1)) nilS (List.replicate 256 0) 0 nilS nilS (.map (some i4)) (.map (some i5)) (.map (some i6))).toArray) := by kernel_rfl
theorem lit_Set (aid x : Nat) : sliceLitV Try.prog y_s_api_Set aid 1 [(0, setV x)] = some (.slice (some (own aid 4)) 1 1, some (.cells (setL x).toArray y_api_Set)) := by kernel_rfl
theorem und_sSet : und Try.prog y_s_api_Set = some (.slice y_api_Set) := by kernel_rfl
theorem tin_Set : ∃ i, tin Try.prog y_api_Set = some i ∧ i.size = 4 ∧ i.bytes = 32 := tinOf (by kernel_rfl)
theorem app_Set {ro : Ro} {h : T Obj} {v : Value} {nx n1 n2 lo : Nat} {l : List Nat} {m : Nat} {K : Value × Option Obj → T Obj → Value × T Obj × Nat → Prop} (ho : OwnT h v 4 y_api_Set (setsC l) lo) (hl : l.length ≤ 1000000) (hf : Fr h nx) (hlo : lo ≤ nx) (hn1 : nx ≤ n1) (hn2 : n1 < n2)
    (hK : ∀ h' w, OwnT h' w 4 y_api_Set (setsC (l ++ [m])) lo → Kp v h h' → Fr h' (n2 + 1) → K (.slice (some (own n1 4)) 1 1, some (.cells (setL m).toArray y_api_Set)) (h.upd n1 (some (.cells (setL m).toArray y_api_Set))) (w, h', n2 + 1)) :
    bindP (sliceLitV Try.prog y_s_api_Set n1 1 [(0, setV m)]) fun r => optP h n1 r.2 fun h' => bindP (appendV Try.prog ro h' n2 #[y_s_api_Set, y_s_api_Set] [v, r.1]) (K r h') := by
  obtain ⟨i, g1, g2, g3⟩ := tin_Set
  have e : setsC l ++ [setL m] = setsC (l ++ [m]) := by simp [setsC]
  have el := setsC_len l
  refine append_lit (z := 4) (l := setsC l) (y := setL m) (lit_Set _ _) rfl ho und_sSet g1 g2 (by omega) zer_Set rfl rfl (by rw [el, g3]; unfold big; omega) (by rw [el]; unfold big; omega) hf hlo hn1 hn2 fun h' q1 q2 q3 => ?_
  rw [e] at q1 ⊢
  exact hK h' _ q1 q2 q3
def cntC (l : List (Int × Int)) : List (List Value) := l.map fun p => [Value.int .i64 p.1, Value.int .i64 p.2]
theorem cntC_len (l : List (Int × Int)) : (cntC l).length = l.length := by simp [cntC]
theorem lit_cnt (aid : Nat) (a b : Value) : sliceLitV Try.prog y_s_a2_int aid 1 [(0, .agg #[a, b])] = some (.slice (some (own aid 2)) 1 1, some (.cells [a, b].toArray y_a2_int)) := by kernel_rfl
theorem build_cnt (a b : Int) : buildV Try.prog y_a2_int [(0, .int .i64 a), (1, .int .i64 b)] = some (.agg #[.int .i64 a, .int .i64 b]) := by kernel_rfl
theorem und_scnt : und Try.prog y_s_a2_int = some (.slice y_a2_int) := by kernel_rfl
theorem tin_cnt : ∃ i, tin Try.prog y_a2_int = some i ∧ i.size = 2 ∧ i.bytes = 16 := tinOf (by kernel_rfl)
theorem zer_cnt : zer Try.prog y_a2_int = some (.agg #[.int .i64 0, .int .i64 0]) := by kernel_rfl
theorem app_cnt {ro : Ro} {h : T Obj} {v : Value} {nx n1 n2 lo : Nat} {l : List (Int × Int)} {a b : Int} {K : Value × Option Obj → T Obj → Value × T Obj × Nat → Prop} (ho : OwnT h v 2 y_a2_int (cntC l) lo) (hl : l.length ≤ 1000000) (hf : Fr h nx) (hlo : lo ≤ nx) (hn1 : nx ≤ n1) (hn2 : n1 < n2)
    (hK : ∀ h' w, OwnT h' w 2 y_a2_int (cntC (l ++ [(a, b)])) lo → Kp v h h' → Fr h' (n2 + 1) → K (.slice (some (own n1 2)) 1 1, some (.cells [Value.int .i64 a, Value.int .i64 b].toArray y_a2_int)) (h.upd n1 (some (.cells [Value.int .i64 a, Value.int .i64 b].toArray y_a2_int))) (w, h', n2 + 1)) :
    bindP (sliceLitV Try.prog y_s_a2_int n1 1 [(0, .agg #[.int .i64 a, .int .i64 b])]) fun r => optP h n1 r.2 fun h' => bindP (appendV Try.prog ro h' n2 #[y_s_a2_int, y_s_a2_int] [v, r.1]) (K r h') := by
  obtain ⟨i, g1, g2, g3⟩ := tin_cnt
  have e : cntC l ++ [[Value.int .i64 a, Value.int .i64 b]] = cntC (l ++ [(a, b)]) := by simp [cntC]
  have el := cntC_len l
  refine append_lit (z := 2) (l := cntC l) (y := [.int .i64 a, .int .i64 b]) (lit_cnt _ _ _) rfl ho und_scnt g1 g2 (by omega) zer_cnt rfl rfl (by rw [el, g3]; unfold big; omega) (by rw [el]; unfold big; omega) hf hlo hn1 hn2 fun h' q1 q2 q3 => ?_
  rw [e] at q1 ⊢
  exact hK h' _ q1 q2 q3
theorem cntsL_snoc (l : List PosD) (p : PosD) : cntsL (l ++ [p]) = if 1 < p.hi then cntsL l ++ [(p.lo, p.hi)] else cntsL l := by
  unfold cntsL
  rw [List.filter_append]
  by_cases h : 1 < p.hi
  · rw [if_pos h, List.filter_cons_of_pos (by unfold ctdP; exact decide_eq_true h)]; simp
  · rw [if_neg h, List.filter_cons_of_neg (by unfold ctdP; simpa using h)]; simp
theorem numZ_cnts {g : GlD} (k : Nat) : numZ g (k : Int) = ((cntsL (g.p.take k)).length : Nat) := by
  unfold numZ cntsL
  rw [Int.toNat_natCast, List.length_map]
theorem cntsL_len (l : List PosD) : (cntsL l).length ≤ l.length := by
  unfold cntsL
  rw [List.length_map]; exact List.length_filter_le _ _
section
variable {ro : Ro} {g : GlD} {bid nid rid gid : Nat} {av bv : Value}
set_option maxRecDepth 8000 in
set_option maxHeartbeats 1000000 in
theorem Of_L3_c {kid eid yid : Nat} {e : Env} (hr : rightD g = true) {h : T Obj} {nx : Nat} {Q : KE} (hf : Fr h nx) (hP : SlR ro (del h [bid, nid]) bv 9 (RPos ro (del h [bid, nid])) g.p)
    (hb : h.get bid = some (.cells (bldL av bv (.map (some nid)) nilS (List.replicate 256 0) 0 nilS nilS (.map (some kid)) (.map (some eid)) (.map (some yid))).toArray y_auto_builder)) (hn : h.get nid = some (.map #[] 0))
    (e1 : e 1 = ptr gid) (e2 : e 2 = ptr rid) (e4 : e 4 = ptr bid) (e5 : e 5 = nilS) (e23 : e 23 = bv) (e24 : e 24 = .int .i64 g.p.length) (e25 : e 25 = .int .i64 0)
    (hQ : ∀ e' h' nx' sv cv f, nx ≤ nx' → Fr h' nx' → Keep [bid, nid] h h' → h'.get bid = some (.cells (bldL av bv (.map (some nid)) nilS (List.replicate 256 0) 0 cv nilS (.map (some kid)) (.map (some eid)) (.map (some yid))).toArray y_auto_builder) → MapG injI h' nid f → NOk g f → OwnT h' sv 4 y_api_Set (setsC (setsL g.p)) nx → OwnT h' cv 2 y_a2_int (cntC (cntsL g.p)) nx →
      e' 2 = ptr rid → e' 4 = ptr bid → e' 5 = sv → Q (.exit 0) e' h' nx') :
    loopP (auto_Of_L3 ro) e h nx Q := by
  obtain ⟨hgl, hfr, hmay⟩ := right_parts hr
  have hbl := hf.lt' hb
  have hnl := hf.lt' hn
  have hbn : bid ≠ nid := by rintro rfl; rw [hb] at hn; cases hn
  refine loopP_rule (fun j e h' nx' => ∃ (k : Nat) (cv : Value) (f : Int → Option Value), k + j = g.p.length ∧ nx ≤ nx' ∧ Fr h' nx' ∧ Keep [bid, nid] h h' ∧ h'.get bid = some (.cells (bldL av bv (.map (some nid)) nilS (List.replicate 256 0) 0 cv nilS (.map (some kid)) (.map (some eid)) (.map (some yid))).toArray y_auto_builder) ∧
    MapG injI h' nid f ∧ (∀ q, 0 ≤ q → f q = if (decide (q < k) && ctd g q) = true then some (.int .i64 (numZ g q)) else none) ∧ OwnT h' (e 5) 4 y_api_Set (setsC (setsL (g.p.take k))) nx ∧ OwnT h' cv 2 y_a2_int (cntC (cntsL (g.p.take k))) nx ∧
    e 1 = ptr gid ∧ e 2 = ptr rid ∧ e 4 = ptr bid ∧ e 23 = bv ∧ e 24 = .int .i64 g.p.length ∧ e 25 = .int .i64 k) ?_ (n := g.p.length)
    ⟨0, nilS, fun _ => none, by omega, by omega, hf, (Sub.refl h).keepL, hb, MapG.new hn, fun q hq => by rw [decide_eq_false (by omega)]; rfl, by rw [e5]; exact OwnT.nil, OwnT.nil, e1, e2, e4, e23, e24, e25⟩
  rintro j e' h' nx' ⟨k, cv, f, hj, hnx, hf', hkp, hb', hm', hfo, hsv, hcv, f1, f2, f4, f23, f24, f25⟩ Q' hq hx
  unfold auto_Of_L3
  rw [f4, f23, f24, f25]
  have hsub : Sub (del h [bid, nid]) h' := hkp.delS fun _ h => h
  refine lss_s (fun hk => ?_) (fun hk => ?_)
  · have hk : k < g.p.length := by omega
    have hP' : SlR ro h' bv 9 (RPos ro h') g.p := hP.sub hsub (RPos.sub hsub)
    obtain ⟨x, ⟨nv, rfl, y1, y2⟩, x2, x3, x4, x5⟩ := hP'.at hk
    have hat := at_nat hk
    have htk : g.p.take (k + 1) = g.p.take k ++ [g.p[k]] := List.take_succ_eq_append_getElem hk
    have hcd : ctd g (k : Int) = decide (1 < g.p[k].hi) := by unfold ctd; rw [hat]
    have hnum := numZ_cnts (g := g) k
    have hst : setsL (g.p.take (k + 1)) = setsL (g.p.take k) ++ [g.p[k].s] := by rw [htk]; unfold setsL; rw [List.map_append]; rfl
    have hct := cntsL_snoc (g.p.take k) g.p[k]
    rw [← htk] at hct
    have hsl : (setsL (g.p.take k)).length ≤ 512 := by unfold setsL; rw [List.length_map, List.length_take]; omega
    have hcl : (cntsL (g.p.take k)).length ≤ 512 := by have := cntsL_len (g.p.take k); rw [List.length_take] at this; omega
    -- the end of a round
    have hj4 : ∀ (e : Env) (h4 : T Obj) (n4 : Nat) (cv' : Value) (f' : Int → Option Value), nx' ≤ n4 → Fr h4 n4 → Keep [bid, nid] h h4 → h4.get bid = some (.cells (bldL av bv (.map (some nid)) nilS (List.replicate 256 0) 0 cv' nilS (.map (some kid)) (.map (some eid)) (.map (some yid))).toArray y_auto_builder) →
        MapG injI h4 nid f' → (∀ q, 0 ≤ q → f' q = if (decide (q < ((k + 1 : Nat) : Int)) && ctd g q) = true then some (.int .i64 (numZ g q)) else none) → OwnT h4 (e 5) 4 y_api_Set (setsC (setsL (g.p.take (k + 1)))) nx → OwnT h4 cv' 2 y_a2_int (cntC (cntsL (g.p.take (k + 1)))) nx →
        e 1 = ptr gid → e 2 = ptr rid → e 4 = ptr bid → e 23 = bv → e 24 = .int .i64 g.p.length → e 25 = .int .i64 k → auto_Of_j4 ro Q' e h4 n4 := by
      intro e h4 n4 cv' f' hn4 s1 s2 s3 s4 s5 s6 s7 f1 f2 f4 f23 f24 f25
      unfold auto_Of_j4
      rw [f25]
      (repeat (first | refine bindP_mk (by simp (disch := first | omega | exact Int.natCast_nonneg _ | assumption) only [BB, B2, ↓reduceIte, Nat.reduceLeDiff, Nat.reduceAdd, CC] <;> rfl) ?_ | refine newP_mk ?_ | refine optP_mk ?_ | with_reducible first | refine condP_t ?_ | refine condP_f ?_ | refine ifP_tt' ?_ | refine ifP_ff' ?_ | refine ifP_tf' ?_ | refine ifP_ft' ?_ | refine ifP_u' ?_ | refine optP_mk0 ?_))
      exact hq (j - 1) _ _ _ _ (by omega) ⟨k + 1, cv', f', by omega, by omega, s1.mono (by omega), s2, s3, s4, s5, s6, s7, f1, f2, f4, f23, f24, rfl⟩ (Sub.refl _)
    refine condP_t (bindP_mk (hP'.ix _ hk) (bindP_mk x3 ?_))
    refine local_mk zer_PosZ rfl (x := posL g.p[k] nv) rfl rfl (posL_ok y1.ok) hf' (show nx' ≤ nx' + 4 by omega) fun h3 hs3 hf3 g3 _ => ?_
    have hld : loadA ro h3 4 (at_ (nx' + 4) 0 0) = some (setV g.p[k].s) := by
      rw [loadA_own, g3, cellsIn_some]
      simp only [Option.bind_some, tl]
      rw [if_pos (by show 0 + 4 ≤ 9; omega)]; rfl
    (repeat (first | refine bindP_mk (by simp (disch := first | omega | exact Int.natCast_nonneg _ | assumption) only [BB, B2, ↓reduceIte, Nat.reduceLeDiff, Nat.reduceAdd, CC, hld] <;> rfl) ?_ | refine newP_mk ?_ | refine optP_mk ?_ | with_reducible first | refine condP_t ?_ | refine condP_f ?_ | refine ifP_tt' ?_ | refine ifP_ff' ?_ | refine ifP_tf' ?_ | refine ifP_ft' ?_ | refine ifP_u' ?_ | refine optP_mk0 ?_))
    refine app_Set (hsv.keepS hs3) (by omega) (hf3.mono (show nx' + 4 + 1 ≤ nx' + 10 by omega)) (by omega) (by omega) (by omega) fun h4 w q1 q2 q3 => ?_
    dsimp only
    have hsv3 := hsv.keepS hs3
    have hne : ∀ i o, h3.get i = some o → (∀ c f, o ≠ .cells c y_api_Set f) → h4.get i = some o := fun i o hi hty => q2 i o hi (hsv3.neB hi hty)
    have hb4 := hne _ _ (hs3 _ _ hb') (by intro c f e; simp only [Obj.cells.injEq] at e; exact absurd e.2.1 (by decide))
    have g4 := hne _ _ g3 (by intro c f e; simp only [Obj.cells.injEq] at e; exact absurd e.2.1 (by decide))
    have hm4 : MapG injI h4 nid f := by
      obtain ⟨es, c9, ps, a1, a2, a3⟩ := hm'
      exact ⟨es, c9, ps, hne _ _ (hs3 _ _ a1) (by intro c f e; cases e), a2, a3⟩
    have hk4 : Keep [bid, nid] h h4 := fun i o hi hn9 => by
      have := hf.lt' hi
      refine q2 i o (hs3 _ _ (hkp i o hi hn9)) fun e => ?_
      have := (hsv3.blk e).1
      omega
    have hcv4 : OwnT h4 cv 2 y_a2_int (cntC (cntsL (g.p.take k))) nx := (hcv.keepS hs3).keep q2 fun id hid => by
      obtain ⟨_, z⟩ := (hcv.keepS hs3).blk hid
      exact hsv3.neB z (by intro c f e; simp only [Obj.cells.injEq] at e; exact absurd e.2.1 (by decide))
    rw [← hst] at q1
    have p5 : (posL g.p[k] nv)[5]? = some (.int .i64 g.p[k].hi) := rfl
    have p4 : (posL g.p[k] nv)[4]? = some (.int .i64 g.p[k].lo) := rfl
    (repeat (first | refine bindP_mk (by simp (disch := first | omega | exact Int.natCast_nonneg _ | assumption) only [BB, B2, ↓reduceIte, Nat.reduceLeDiff, Nat.reduceAdd, CC, g4, p5] <;> rfl) ?_ | refine newP_mk ?_ | refine optP_mk ?_ | with_reducible first | refine condP_t ?_ | refine condP_f ?_ | refine ifP_tt' ?_ | refine ifP_ff' ?_ | refine ifP_tf' ?_ | refine ifP_ft' ?_ | refine ifP_u' ?_ | refine optP_mk0 ?_))
    refine gtr_s (fun u1 => ?_) (fun u1 => ?_)
    · rw [if_pos u1] at hct
      rw [decide_eq_true u1] at hcd
      have b2 := bldL_2 (av := av) (bv := bv) (nv := .map (some nid)) (fv := nilS) (c := List.replicate 256 0) (n := 0) (cv := cv) (sv := nilS) (kv := .map (some kid)) (ev := .map (some eid)) (yv := .map (some yid))
      have b261 := bldL_261 (av := av) (bv := bv) (nv := .map (some nid)) (fv := nilS) (c := List.replicate 256 0) (n := 0) (cv := cv) (sv := nilS) (kv := .map (some kid)) (ev := .map (some eid)) (yv := .map (some yid)) List.length_replicate
      have hcn := (hcv4.sl (ro := ro)).len
      rw [cntC_len] at hcn
      obtain ⟨es, ec, r1, r2⟩ := put_ii hm4 (k : Int) (.int .i64 (cntsL (g.p.take k)).length)
      (repeat (first | refine bindP_mk (by simp (disch := first | omega | exact Int.natCast_nonneg _ | assumption) only [BB, B2, ↓reduceIte, Nat.reduceLeDiff, Nat.reduceAdd, CC, nilCk_at, hb4, b2, b261, hcn, r1] <;> rfl) ?_ | refine newP_mk ?_ | refine optP_mk ?_ | with_reducible first | refine condP_t ?_ | refine condP_f ?_ | refine ifP_tt' ?_ | refine ifP_ff' ?_ | refine ifP_tf' ?_ | refine ifP_ft' ?_ | refine ifP_u' ?_ | refine optP_mk0 ?_))
      have hb5 : (h4.upd nid (some (.map es ec))).get bid = _ := (T.get_upd_ne _ _ hbn).trans hb4
      have hm5 := r2 (h4.upd nid (some (.map es ec))) (by rw [T.get_upd_same])
      have hnn : ∀ {v : Value} {z lo : Nat} {e : TypeId} {l : List (List Value)}, OwnT h4 v z e l lo → OwnT (h4.upd nid (some (.map es ec))) v z e l lo := fun ho => by
        rcases ho with ho | ⟨id, o1, rfl, o4, o5⟩
        · exact .inl ho
        · refine .inr ⟨id, o1, rfl, o4, ?_⟩
          rw [T.get_upd_ne _ _ (by rintro rfl; obtain ⟨_, _, q⟩ := hm4.obj; rw [q] at o5; cases o5)]; exact o5
      have hcv5 := hnn hcv4
      have hsv5 := hnn q1
      have g5 : (h4.upd nid (some (.map es ec))).get (nx' + 4) = _ := (T.get_upd_ne _ _ (by omega)).trans g4
      have hk5 : Keep [bid, nid] h (h4.upd nid (some (.map es ec))) := hk4.upd (by simp)
      have hf5 : Fr (h4.upd nid (some (.map es ec))) (nx' + 12 + 1) := q3.upd (Nat.le_refl _) (by omega)
      have hn5 : (h4.upd nid (some (.map es ec))).get nid = some (.map es ec) := T.get_upd_same _ _ _
      generalize h4.upd nid (some (.map es ec)) = h5 at hb5 hm5 hcv5 hsv5 g5 hk5 hf5 hn5
      (repeat (first | refine bindP_mk (by simp (disch := first | omega | exact Int.natCast_nonneg _ | assumption) only [BB, B2, ↓reduceIte, Nat.reduceLeDiff, Nat.reduceAdd, CC, nilCk_at, hb5, b261, g5, p4, p5] <;> rfl) ?_ | refine newP_mk ?_ | refine optP_mk ?_ | with_reducible first | refine condP_t ?_ | refine condP_f ?_ | refine ifP_tt' ?_ | refine ifP_ff' ?_ | refine ifP_tf' ?_ | refine ifP_ft' ?_ | refine ifP_u' ?_ | refine optP_mk0 ?_))
      refine bindP_mk (build_cnt _ _) ?_
      refine app_cnt hcv5 (by omega) (hf5.mono (show nx' + 12 + 1 ≤ nx' + 12 + 1 + 27 by omega)) (by omega) (by omega) (by omega) fun h6 w6 s1 s2 s3 => ?_
      dsimp only
      rw [← hct] at s1
      have hne6 : ∀ i o, h5.get i = some o → (∀ c f, o ≠ .cells c y_a2_int f) → h6.get i = some o := fun i o hi hty => s2 i o hi (hcv5.neB hi hty)
      have hb6 := hne6 _ _ hb5 (by intro c f e; simp only [Obj.cells.injEq] at e; exact absurd e.2.1 (by decide))
      have hn6 := hne6 _ _ hn5 (by intro c f e; cases e)
      have hm6 : MapG injI h6 nid fun b => if b = (k : Int) then some (.int .i64 ((cntsL (g.p.take k)).length : Nat)) else f b := hm5.keep (by rw [hn6, hn5])
      have hsv6 : OwnT h6 w 4 y_api_Set (setsC (setsL (g.p.take (k + 1)))) nx := hsv5.keep s2 fun id hid => by
        obtain ⟨_, z⟩ := hsv5.blk hid
        exact hcv5.neB z (by intro c f e; simp only [Obj.cells.injEq] at e; exact absurd e.2.1 (by decide))
      have hwok := s1.ok
      (repeat (first | refine bindP_mk (by simp (disch := first | omega | exact Int.natCast_nonneg _ | assumption) only [BB, B2, ↓reduceIte, Nat.reduceLeDiff, Nat.reduceAdd, CC, nilCk_at] <;> rfl) ?_ | refine newP_mk ?_ | refine optP_mk ?_ | with_reducible first | refine condP_t ?_ | refine condP_f ?_ | refine ifP_tt' ?_ | refine ifP_ff' ?_ | refine ifP_tf' ?_ | refine ifP_ft' ?_ | refine ifP_u' ?_ | refine optP_mk0 ?_))
      refine bindP_mk (store1_own (l := bldL av bv (.map (some nid)) nilS (List.replicate 256 0) 0 cv nilS (.map (some kid)) (.map (some eid)) (.map (some yid))) hb6 (by rw [bldL_len List.length_replicate]; omega) hwok (cells_of_ok hwok)) ?_
      rw [bldL_set261 List.length_replicate]
      refine hj4 _ _ _ w6 _ (by omega) ((s3.mono (show _ ≤ nx' + 12 + 1 + 33 + 1 by omega)).upd (Nat.le_refl _) (by omega)) ?_ (by rw [T.get_upd_same]) (hm6.keep (T.get_upd_ne _ _ hbn.symm)) ?_ ?_ ?_ f1 f2 f4 f23 f24 f25
      · refine Keep.upd (fun i o hi hn9 => ?_) (by simp)
        have := hf.lt' hi
        refine s2 i o (hk5 i o hi hn9) fun e => ?_
        have := (hcv5.blk e).1
        omega
      · intro q hq9
        show (if q = (k : Int) then _ else f q) = _
        by_cases hqk : q = (k : Int)
        · subst hqk
          rw [if_pos rfl, decide_eq_true (by omega), Bool.true_and, hcd, if_pos rfl, hnum]
        · rw [if_neg hqk, hfo q hq9]
          have : decide (q < ((k + 1 : Nat) : Int)) = decide (q < (k : Int)) := by
            rw [decide_eq_decide]; omega
          rw [this]
      · exact hsv6.updNe hb6 (by decide)
      · exact s1.updNe hb6 (by decide)
    · rw [if_neg (by omega)] at hct
      rw [decide_eq_false (by omega)] at hcd
      (repeat (first | refine bindP_mk (by simp (disch := first | omega | exact Int.natCast_nonneg _ | assumption) only [BB, B2, ↓reduceIte, Nat.reduceLeDiff, Nat.reduceAdd, CC] <;> rfl) ?_ | refine newP_mk ?_ | refine optP_mk ?_ | with_reducible first | refine condP_t ?_ | refine condP_f ?_ | refine ifP_tt' ?_ | refine ifP_ff' ?_ | refine ifP_tf' ?_ | refine ifP_ft' ?_ | refine ifP_u' ?_ | refine optP_mk0 ?_))
      refine hj4 _ _ _ cv f (by omega) (q3.mono (by omega)) hk4 hb4 hm4 ?_ q1 (by rw [hct]; exact hcv4) f1 f2 f4 f23 f24 f25
      intro q hq9
      rw [hfo q hq9]
      by_cases hqk : q = (k : Int)
      · subst hqk
        rw [hcd, Bool.and_false, Bool.and_false]
      · have : decide (q < ((k + 1 : Nat) : Int)) = decide (q < (k : Int)) := by
          rw [decide_eq_decide]; omega
        rw [this]
  · have hkl : k = g.p.length := by omega
    subst hkl
    rw [List.take_length] at hsv hcv
    refine condP_f (hx _ _ _ _ (fun e => by cases e) ?_)
    refine hQ _ _ _ _ cv f (by omega) (hf'.mono (by omega)) hkp hb' hm' (fun q hq9 => ?_) hsv hcv f2 f4 rfl
    rw [hfo q hq9]
    by_cases hqk : q < (g.p.length : Int)
    · rw [decide_eq_true hqk, Bool.true_and]
    · have : ctd g q = false := by
        unfold ctd GlD.at
        rw [List.getD_eq_getElem?_getD, List.getElem?_eq_none (by omega)]
        rfl
      rw [decide_eq_false hqk, this]; rfl
end
end V
end Go.Proofs.Ytmmdcdjkmakgpaa
set_option linter.unusedVariables false
set_option linter.unusedSimpArgs false
namespace Go.Proofs.Ytmmdcdjkmakgpaa
namespace V
open PA
attribute [local irreducible] bindP ifP condP newP optP exP beqP
def autD0 : AutoD := ⟨List.replicate 256 0, 0, [], []⟩
def ofB (g : GlD) : List Nat := firstZ (cls (setsL g.p)) (many (setsL g.p) : Int)
def ofD (g : GlD) (S : List StateD) : AutoD := ⟨cls (setsL g.p), (many (setsL g.p) : Int), cntsL g.p, S⟩
def ofZ (g : GlD) : Int × AutoD := if rightD g = true then (if (allZ g (ofB g) 256 0 [noS]).1 = 0 then (0, ofD g (allZ g (ofB g) 256 0 [noS]).2) else ((allZ g (ofB g) 256 0 [noS]).1, autD0)) else (1, autD0)
theorem Sub.delN {h h' : T Obj} {ids : List Nat} {n : Nat} (hs : Sub h h') (hf : Fr h n) (hi : ∀ i ∈ ids, n ≤ i) : Sub h (V.del h' ids) := fun k o hk => del_some (hs k o hk) fun hm => by
  have := hf.lt' hk
  have := hi k hm
  omega
theorem autD0_R {ro : Ro} {h : T Obj} : RAuto ro h autZ autD0 := ⟨nilS, nilS, rfl, List.length_replicate, fun x hx => by
  have := List.eq_of_mem_replicate hx
  omega, SlR.nil, SlR.nil, Nat.zero_le _, Nat.zero_le _⟩
theorem build_State0 : buildV Try.prog y_api_State [] = some (.agg #[nilS, nilS, nilS, nilS]) := by kernel_rfl
section
variable {av bv nv fv : Value} {c c' : List Nat} {n n' : Int} {cv sv kv ev yv : Value}
theorem bldL_drop4 : (bldL av bv nv fv c n cv sv kv ev yv).drop 4 = splitLI c n ++ [cv, sv, kv, ev, yv] := by
  show autL c n cv sv ++ [kv, ev, yv] = _
  unfold autL
  rw [List.append_assoc]; rfl
theorem bldL_over4 (hc : c.length = 256) (hc' : c'.length = 256) : over (bldL av bv nv fv c n cv sv kv ev yv) 4 (splitLI c' n') = bldL av bv nv fv c' n' cv sv kv ev yv := by
  unfold over
  rw [← List.drop_drop, bldL_drop4, splitLI_len hc', show 257 = (splitLI c n).length from (splitLI_len hc).symm, List.drop_left]
  show [av, bv, nv, fv] ++ splitLI c' n' ++ [cv, sv, kv, ev, yv] = _
  unfold bldL autL
  simp
theorem store_split {h : T Obj} {bid : Nat} {e : TypeId} {f : Nat × Nat} (hc : c.length = 256) (hc' : c'.length = 256) (hg : h.get bid = some (.cells (bldL av bv nv fv c n cv sv kv ev yv).toArray e f)) : storeN 257 h (at_ bid 4 0) (splitI c' n') = some (h.upd bid (some (.cells (bldL av bv nv fv c' n' cv sv kv ev yv).toArray e f))) := by
  rw [storeN_own, splitI_cells, hg]
  have h1 := splitLI_len (n := n') hc'
  have h2 := bldL_len (av := av) (bv := bv) (nv := nv) (fv := fv) (n := n) (cv := cv) (sv := sv) (kv := kv) (ev := ev) (yv := yv) hc
  rw [if_pos (by rw [ts]; exact h1), putIn_cells (by rw [tl, ts, h1, h2]; omega) (by rw [tl]; exact splitLI_ok _ _)]
  rw [tl, tl, bldL_over4 hc hc']; rfl
theorem load_split {ro : Ro} {h : T Obj} {bid : Nat} {e : TypeId} {f : Nat × Nat} (hc : c.length = 256) (hg : h.get bid = some (.cells (bldL av bv nv fv c n cv sv kv ev yv).toArray e f)) : loadA ro h 257 (at_ bid 4 0) = some (splitI c n) := by
  rw [loadA_own, hg, cellsIn_some]
  simp only [Option.bind_some, tl]
  rw [if_pos (by rw [bldL_len hc]; omega), bldL_drop4, List.take_append_of_le_length (by rw [splitLI_len hc]; omega), List.take_of_length_le (by rw [splitLI_len hc]; omega)]
  rfl
theorem load_auto {ro : Ro} {h : T Obj} {bid : Nat} {e : TypeId} {f : Nat × Nat} (hc : c.length = 256) (hg : h.get bid = some (.cells (bldL av bv nv fv c n cv sv kv ev yv).toArray e f)) : loadA ro h 259 (at_ bid 4 0) = some (.agg (autL c n cv sv).toArray) := by
  rw [loadA_own, hg, cellsIn_some]
  simp only [Option.bind_some, tl]
  rw [if_pos (by rw [bldL_len hc]; omega)]
  have : (bldL av bv nv fv c n cv sv kv ev yv).drop 4 = autL c n cv sv ++ [kv, ev, yv] := rfl
  rw [this, List.take_append_of_le_length (by rw [autL_len hc]; omega), List.take_of_length_le (by rw [autL_len hc]; omega)]
end
theorem cnt_R {ro : Ro} {h : T Obj} {v : Value} {l : List (Int × Int)} {lo : Nat} (ho : OwnT h v 2 y_a2_int (cntC l) lo) : SlR ro h v 2 RCount l := ⟨cntC l, ho.sl, cntC_len l, fun i x d hx hd => by
  unfold cntC at hx
  rw [List.getElem?_map, hd] at hx
  exact (Option.some.inj hx).symm⟩
theorem first_lt {c : List Nat} {n : Int} : ∀ b ∈ firstZ c n, b < 256 := by
  intro b hb
  unfold firstZ at hb
  split at hb
  · cases hb
  · obtain ⟨k, _, rfl⟩ := List.mem_map.1 hb
    unfold lb
    cases hq : (List.range' 0 (256 - 0)).find? fun b => decide (c.getD b 0 = k) with
    | none => simp
    | some q =>
      have := List.mem_of_find?_eq_some hq
      simp [List.mem_range'] at this
      simp; omega
theorem first_len {c : List Nat} {n : Int} : (firstZ c n).length ≤ 256 := by
  unfold firstZ
  split
  · simp
  · rw [List.length_map, List.length_range]; omega
theorem first_R {ro : Ro} {h : T Obj} {v : Value} {l : List Nat} {lo : Nat} (ho : OwnT h v 1 y_uint8 (bytesC l) lo) (hl : ∀ b ∈ l, b < 256) : SlR ro h v 1 RU8 l := ⟨bytesC l, ho.sl, bytesC_len l, fun i x d hx hd => by
  unfold bytesC at hx
  rw [List.getElem?_map, hd] at hx
  exact ⟨(Option.some.inj hx).symm, hl d (List.mem_of_getElem? hd)⟩⟩
theorem Own.toT {h : T Obj} {v : Value} {z : Nat} {e : TypeId} {l : List (List Value)} {lo hi : Nat} (ho : Own h v z e l lo hi) : OwnT h v z e l lo := by
  rcases ho with ho | ⟨id, h1, h2, h3, h4, h5⟩
  · exact .inl ho
  · exact .inr ⟨id, h1, h3, h4, h5⟩
set_option maxRecDepth 8000 in
set_option maxHeartbeats 2000000 in
theorem auto_Of_c {ro : Ro} {v : Value} {g : GlD} {h : T Obj} {nx : Nat} {K : KV} (hf : Fr h nx) (hg : RG ro h v g)
    (hK : ∀ h' nx' x, nx ≤ nx' → Sub h h' → Fr h' nx' → RAuto ro h' x (ofZ g).2 → K (.tuple #[.agg x.toArray, .int .i64 (ofZ g).1]) h' nx') : callP Try.prog ro i_auto_Of [v] h nx K := by
  obtain ⟨a, b, rfl, ha, hb⟩ := hg
  apply auto_Of_of
  unfold auto_Of
  refine param_mk hf (Nat.le_refl _) fun h1 hs1 hf1 g1 _ => ?_
  have g1 : h1.get nx = some (.cells [a, b].toArray y_api_Glush) := g1
  refine bindP_mk zer_Auto (obj_mk hf1 (Nat.le_refl _) fun h2 hs2 hf2 g2 _ => ?_)
  have g2 : h2.get (nx + 1) = some (.cells autZ.toArray y_api_Auto) := g2
  have g1 := hs2 _ _ g1
  have hs := hs1.trans hs2
  refine bindP_mk (loadA_all (l := [a, b]) g1 rfl) ?_
  refine glush_Right_c (hf2.mono (show nx + 1 + 1 ≤ nx + 5 by omega)) ⟨a, b, rfl, ha.sub hs, hb.sub hs (RPos.sub hs)⟩ fun n7 hn7 => ?_
  cases hr : rightD g with
  | false =>
    have hz : ofZ g = (1, autD0) := by unfold ofZ; rw [hr]; rfl
    rw [hz] at hK
    (repeat (first | refine bindP_mk (by simp (disch := first | omega | exact Int.natCast_nonneg _ | assumption) only [BB, B2, ↓reduceIte, Nat.reduceLeDiff, Nat.reduceAdd, CC] <;> rfl) ?_ | refine newP_mk ?_ | refine optP_mk ?_ | with_reducible first | refine condP_t ?_ | refine condP_f ?_ | refine ifP_tt' ?_ | refine ifP_ff' ?_ | refine ifP_tf' ?_ | refine ifP_ft' ?_ | refine ifP_u' ?_ | refine optP_mk0 ?_))
    refine bindP_mk build_Auto0 ?_
    refine bindP_mk (storeA_own (l := autZ) (vs := autZ) g2 rfl autZ_len autZ_len autZ_ok) ?_
    refine bindP_mk (loadA_all (l := autZ) (by rw [T.get_upd_same]) autZ_len) ?_
    exact ⟨h, hs.new hf (by omega), hK h _ autZ (by omega) (Sub.refl _) (hf.mono (by omega)) autD0_R⟩
  | true =>
    have hz : ofZ g = if (allZ g (ofB g) 256 0 [noS]).1 = 0 then (0, ofD g (allZ g (ofB g) 256 0 [noS]).2) else ((allZ g (ofB g) 256 0 [noS]).1, autD0) := by unfold ofZ; rw [hr]; rfl
    obtain ⟨hgl, hfr, hmay⟩ := right_parts hr
    have hgs : (setsL g.p).length ≤ 1000000 := by unfold setsL; rw [List.length_map]; omega
    (repeat (first | refine bindP_mk (by simp (disch := first | omega | exact Int.natCast_nonneg _ | assumption) only [BB, B2, ↓reduceIte, Nat.reduceLeDiff, Nat.reduceAdd, CC] <;> rfl) ?_ | refine newP_mk ?_ | refine optP_mk ?_ | with_reducible first | refine condP_t ?_ | refine condP_f ?_ | refine ifP_tt' ?_ | refine ifP_ff' ?_ | refine ifP_tf' ?_ | refine ifP_ft' ?_ | refine ifP_u' ?_ | refine optP_mk0 ?_))
    refine bindP_mk (loadA_all (l := [a, b]) g1 rfl) ?_
    refine obj_mk hf2 (show nx + 1 + 1 ≤ n7 + 2 by omega) fun h3 hs3 hf3 g3 _ => ?_
    refine obj_mk hf3 (show n7 + 2 + 1 ≤ n7 + 3 by omega) fun h4 hs4 hf4 g4 _ => ?_
    refine obj_mk hf4 (show n7 + 3 + 1 ≤ n7 + 4 by omega) fun h5 hs5 hf5 g5 _ => ?_
    refine obj_mk hf5 (show n7 + 4 + 1 ≤ n7 + 5 by omega) fun h6 hs6 hf6 g6 _ => ?_
    refine bindP_mk (build_bld _ _ _ _ _ _) ?_
    refine param_mk hf6 (show n7 + 5 + 1 ≤ n7 + 7 by omega) fun h7 hs7 hf7 g7 _ => ?_
    have g7 : h7.get (n7 + 7) = some (.cells (bldL a b (.map (some (n7 + 2))) nilS (List.replicate 256 0) 0 nilS nilS (.map (some (n7 + 3))) (.map (some (n7 + 4))) (.map (some (n7 + 5)))).toArray y_auto_builder) := g7
    have g3 := hs7 _ _ (hs6 _ _ (hs5 _ _ (hs4 _ _ g3)))
    have g4 := hs7 _ _ (hs6 _ _ (hs5 _ _ g4))
    have g5 := hs7 _ _ (hs6 _ _ g5)
    have g6 := hs7 _ _ g6
    have hs27 := (((hs3.trans hs4).trans hs5).trans hs6).trans hs7
    have g1 := hs27 _ _ g1
    have g2 := hs27 _ _ g2
    have hs := hs.trans hs27
    have hbl := (hb.sub hs (RPos.sub hs)).len
    have e1 : ([a, b] : List Value)[1]? = some b := rfl
    (repeat (first | refine bindP_mk (by simp (disch := first | omega | exact Int.natCast_nonneg _ | assumption) only [BB, B2, ↓reduceIte, Nat.reduceLeDiff, Nat.reduceAdd, CC, g1, e1, hbl] <;> rfl) ?_ | refine newP_mk ?_ | refine optP_mk ?_ | with_reducible first | refine condP_t ?_ | refine condP_f ?_ | refine ifP_tt' ?_ | refine ifP_ff' ?_ | refine ifP_tf' ?_ | refine ifP_ft' ?_ | refine ifP_u' ?_ | refine optP_mk0 ?_))
    refine Of_L3_c (gid := nx) (rid := nx + 1) (kid := n7 + 3) (eid := n7 + 4) (yid := n7 + 5) hr (hf7.mono (show n7 + 7 + 1 ≤ n7 + 14 by omega)) (hb.sub (hs.delN hf (by simp; omega)) (RPos.sub (hs.delN hf (by simp; omega)))) g7 g3 ?_ ?_ ?_ ?_ ?_ ?_ ?_ ?_
    · rfl
    · rfl
    · rfl
    · rfl
    · rfl
    · rfl
    · rfl
    intro e' h8 n8 sv cv fn hn8 hf8 hk8 g8 hm8 hno8 hsv hcv f2 f4 f5
    refine exP_e (beqP_t ?_)
    unfold auto_Of_j1
    rw [f4, f5]
    refine split_Of_c hgs (hf8.mono (show n8 ≤ n8 + 3 by omega)) hsv.sl fun n9 hn9 => ?_
    have hc := cls_length (setsL g.p)
    have hcb := cls_bound (l := setsL g.p)
    rw [splitI_nat]
    (repeat (first | refine bindP_mk (by simp (disch := first | omega | exact Int.natCast_nonneg _ | assumption) only [BB, B2, ↓reduceIte, Nat.reduceLeDiff, Nat.reduceAdd, CC, nilCk_at] <;> rfl) ?_ | refine newP_mk ?_ | refine optP_mk ?_ | with_reducible first | refine condP_t ?_ | refine condP_f ?_ | refine ifP_tt' ?_ | refine ifP_ff' ?_ | refine ifP_tf' ?_ | refine ifP_ft' ?_ | refine ifP_u' ?_ | refine optP_mk0 ?_))
    refine bindP_mk (store_split List.length_replicate hc g8) ?_
    have hf9 : Fr (h8.upd (n7 + 7) (some (.cells (bldL a b (.map (some (n7 + 2))) nilS (cls (setsL g.p)) (many (setsL g.p) : Int) cv nilS (.map (some (n7 + 3))) (.map (some (n7 + 4))) (.map (some (n7 + 5)))).toArray y_auto_builder))) n8 := hf8.upd (Nat.le_refl _) (by omega)
    have g9 : (h8.upd (n7 + 7) (some (.cells (bldL a b (.map (some (n7 + 2))) nilS (cls (setsL g.p)) (many (setsL g.p) : Int) cv nilS (.map (some (n7 + 3))) (.map (some (n7 + 4))) (.map (some (n7 + 5)))).toArray y_auto_builder))).get (n7 + 7) = _ := T.get_upd_same _ _ _
    have hk9 : Keep [n7 + 7, n7 + 2] h7 (h8.upd (n7 + 7) (some (.cells (bldL a b (.map (some (n7 + 2))) nilS (cls (setsL g.p)) (many (setsL g.p) : Int) cv nilS (.map (some (n7 + 3))) (.map (some (n7 + 4))) (.map (some (n7 + 5)))).toArray y_auto_builder))) := hk8.upd (by simp)
    have hm9 : MapG injI (h8.upd (n7 + 7) (some (.cells (bldL a b (.map (some (n7 + 2))) nilS (cls (setsL g.p)) (many (setsL g.p) : Int) cv nilS (.map (some (n7 + 3))) (.map (some (n7 + 4))) (.map (some (n7 + 5)))).toArray y_auto_builder))) (n7 + 2) fn := hm8.keep (T.get_upd_ne _ _ (by omega))
    have hcv9 : OwnT (h8.upd (n7 + 7) (some (.cells (bldL a b (.map (some (n7 + 2))) nilS (cls (setsL g.p)) (many (setsL g.p) : Int) cv nilS (.map (some (n7 + 3))) (.map (some (n7 + 4))) (.map (some (n7 + 5)))).toArray y_auto_builder))) cv 2 y_a2_int (cntC (cntsL g.p)) (n7 + 14) := hcv.updNe g8 (by decide)
    generalize h8.upd (n7 + 7) (some (.cells (bldL a b (.map (some (n7 + 2))) nilS (cls (setsL g.p)) (many (setsL g.p) : Int) cv nilS (.map (some (n7 + 3))) (.map (some (n7 + 4))) (.map (some (n7 + 5)))).toArray y_auto_builder)) = h9 at hf9 g9 hk9 hm9 hcv9
    (repeat (first | refine bindP_mk (by simp (disch := first | omega | exact Int.natCast_nonneg _ | assumption) only [BB, B2, ↓reduceIte, Nat.reduceLeDiff, Nat.reduceAdd, CC, nilCk_at] <;> rfl) ?_ | refine newP_mk ?_ | refine optP_mk ?_ | with_reducible first | refine condP_t ?_ | refine condP_f ?_ | refine ifP_tt' ?_ | refine ifP_ff' ?_ | refine ifP_tf' ?_ | refine ifP_ft' ?_ | refine ifP_u' ?_ | refine optP_mk0 ?_))
    refine bindP_mk (load_split hc g9) ?_
    refine split_First_c hc hcb (hf9.mono (show n8 ≤ n9 + 11 by omega)) fun r h10 n10 hn10 hs10 hf10 hr10 => ?_
    have hr10 := hr10.toT
    have hrok := hr10.ok
    have g10 := hs10 _ _ g9
    (repeat (first | refine bindP_mk (by simp (disch := first | omega | exact Int.natCast_nonneg _ | assumption) only [BB, B2, ↓reduceIte, Nat.reduceLeDiff, Nat.reduceAdd, CC, nilCk_at] <;> rfl) ?_ | refine newP_mk ?_ | refine optP_mk ?_ | with_reducible first | refine condP_t ?_ | refine condP_f ?_ | refine ifP_tt' ?_ | refine ifP_ff' ?_ | refine ifP_tf' ?_ | refine ifP_ft' ?_ | refine ifP_u' ?_ | refine optP_mk0 ?_))
    refine bindP_mk (store1_own (l := bldL a b (.map (some (n7 + 2))) nilS (cls (setsL g.p)) (many (setsL g.p) : Int) cv nilS (.map (some (n7 + 3))) (.map (some (n7 + 4))) (.map (some (n7 + 5)))) g10 (by rw [bldL_len hc]; omega) hrok (cells_of_ok hrok)) ?_
    rw [bldL_set3]
    refine bindP_mk build_State0 (bindP_mk (lit_State _ _ _ _ _) (optP_mk ?_))
    have hbd := hf10.lt' g10
    -- memory as the states' loop finds it
    have hf11 : Fr ((h10.upd (n7 + 7) (some (.cells (bldL a b (.map (some (n7 + 2))) r (cls (setsL g.p)) (many (setsL g.p) : Int) cv nilS (.map (some (n7 + 3))) (.map (some (n7 + 4))) (.map (some (n7 + 5)))).toArray y_auto_builder))).upd (n10 + 5) (some (.cells [nilS, nilS, nilS, nilS].toArray y_api_State))) (n10 + 6) := ((hf10.mono (show n10 ≤ n10 + 6 by omega)).upd (Nat.le_refl _) (by omega)).upd (Nat.le_refl _) (by omega)
    have g11 : ((h10.upd (n7 + 7) (some (.cells (bldL a b (.map (some (n7 + 2))) r (cls (setsL g.p)) (many (setsL g.p) : Int) cv nilS (.map (some (n7 + 3))) (.map (some (n7 + 4))) (.map (some (n7 + 5)))).toArray y_auto_builder))).upd (n10 + 5) (some (.cells [nilS, nilS, nilS, nilS].toArray y_api_State))).get (n7 + 7) = _ := (T.get_upd_ne _ _ (by omega)).trans (T.get_upd_same _ _ _)
    have gs11 : ((h10.upd (n7 + 7) (some (.cells (bldL a b (.map (some (n7 + 2))) r (cls (setsL g.p)) (many (setsL g.p) : Int) cv nilS (.map (some (n7 + 3))) (.map (some (n7 + 4))) (.map (some (n7 + 5)))).toArray y_auto_builder))).upd (n10 + 5) (some (.cells [nilS, nilS, nilS, nilS].toArray y_api_State))).get (n10 + 5) = _ := T.get_upd_same _ _ _
    have hk11 : Keep [n7 + 7, n7 + 2] h7 ((h10.upd (n7 + 7) (some (.cells (bldL a b (.map (some (n7 + 2))) r (cls (setsL g.p)) (many (setsL g.p) : Int) cv nilS (.map (some (n7 + 3))) (.map (some (n7 + 4))) (.map (some (n7 + 5)))).toArray y_auto_builder))).upd (n10 + 5) (some (.cells [nilS, nilS, nilS, nilS].toArray y_api_State))) := (((hk9.trans hs10.keepL).upd (by simp))).updN hf7 (by omega)
    have hm11 : MapG injI ((h10.upd (n7 + 7) (some (.cells (bldL a b (.map (some (n7 + 2))) r (cls (setsL g.p)) (many (setsL g.p) : Int) cv nilS (.map (some (n7 + 3))) (.map (some (n7 + 4))) (.map (some (n7 + 5)))).toArray y_auto_builder))).upd (n10 + 5) (some (.cells [nilS, nilS, nilS, nilS].toArray y_api_State))) (n7 + 2) fn := (hm9.sub hs10).keep (by rw [T.get_upd_ne _ _ (by omega), T.get_upd_ne _ _ (by omega)])
    have hcv11 : OwnT ((h10.upd (n7 + 7) (some (.cells (bldL a b (.map (some (n7 + 2))) r (cls (setsL g.p)) (many (setsL g.p) : Int) cv nilS (.map (some (n7 + 3))) (.map (some (n7 + 4))) (.map (some (n7 + 5)))).toArray y_auto_builder))).upd (n10 + 5) (some (.cells [nilS, nilS, nilS, nilS].toArray y_api_State))) cv 2 y_a2_int (cntC (cntsL g.p)) (n7 + 14) := ((hcv9.keepS hs10).updNe g10 (by decide)).keepS ((Sub.refl _).upd (by rw [T.get_upd_ne _ _ (by omega)]; exact hf10 _ (by omega)))
    have hr11 : OwnT ((h10.upd (n7 + 7) (some (.cells (bldL a b (.map (some (n7 + 2))) r (cls (setsL g.p)) (many (setsL g.p) : Int) cv nilS (.map (some (n7 + 3))) (.map (some (n7 + 4))) (.map (some (n7 + 5)))).toArray y_auto_builder))).upd (n10 + 5) (some (.cells [nilS, nilS, nilS, nilS].toArray y_api_State))) r 1 y_uint8 (bytesC (ofB g)) (n9 + 11) := (hr10.updNe g10 (by decide)).keepS ((Sub.refl _).upd (by rw [T.get_upd_ne _ _ (by omega)]; exact hf10 _ (by omega)))
    generalize (h10.upd (n7 + 7) (some (.cells (bldL a b (.map (some (n7 + 2))) r (cls (setsL g.p)) (many (setsL g.p) : Int) cv nilS (.map (some (n7 + 3))) (.map (some (n7 + 4))) (.map (some (n7 + 5)))).toArray y_auto_builder))).upd (n10 + 5) (some (.cells [nilS, nilS, nilS, nilS].toArray y_api_State)) = h11 at hf11 g11 gs11 hk11 hm11 hcv11 hr11
    (repeat (first | refine bindP_mk (by simp (disch := first | omega | exact Int.natCast_nonneg _ | assumption) only [BB, B2, ↓reduceIte, Nat.reduceLeDiff, Nat.reduceAdd, CC, nilCk_at] <;> rfl) ?_ | refine newP_mk ?_ | refine optP_mk ?_ | with_reducible first | refine condP_t ?_ | refine condP_f ?_ | refine ifP_tt' ?_ | refine ifP_ff' ?_ | refine ifP_tf' ?_ | refine ifP_ft' ?_ | refine ifP_u' ?_ | refine optP_mk0 ?_))
    refine bindP_mk (store1_own (l := bldL a b (.map (some (n7 + 2))) r (cls (setsL g.p)) (many (setsL g.p) : Int) cv nilS (.map (some (n7 + 3))) (.map (some (n7 + 4))) (.map (some (n7 + 5)))) g11 (by rw [bldL_len hc]; omega) rfl rfl) ?_
    rw [bldL_set262 hc]
    have hf12 : Fr (h11.upd (n7 + 7) (some (.cells (bldL a b (.map (some (n7 + 2))) r (cls (setsL g.p)) (many (setsL g.p) : Int) cv (.slice (some (own (n10 + 5) 4)) 1 1) (.map (some (n7 + 3))) (.map (some (n7 + 4))) (.map (some (n7 + 5)))).toArray y_auto_builder))) (n10 + 6) := hf11.upd (Nat.le_refl _) (by omega)
    have g12 : (h11.upd (n7 + 7) (some (.cells (bldL a b (.map (some (n7 + 2))) r (cls (setsL g.p)) (many (setsL g.p) : Int) cv (.slice (some (own (n10 + 5) 4)) 1 1) (.map (some (n7 + 3))) (.map (some (n7 + 4))) (.map (some (n7 + 5)))).toArray y_auto_builder))).get (n7 + 7) = _ := T.get_upd_same _ _ _
    have gs12 : (h11.upd (n7 + 7) (some (.cells (bldL a b (.map (some (n7 + 2))) r (cls (setsL g.p)) (many (setsL g.p) : Int) cv (.slice (some (own (n10 + 5) 4)) 1 1) (.map (some (n7 + 3))) (.map (some (n7 + 4))) (.map (some (n7 + 5)))).toArray y_auto_builder))).get (n10 + 5) = _ := (T.get_upd_ne _ _ (by omega)).trans gs11
    have hk12 : Keep [n7 + 7, n7 + 2] h7 (h11.upd (n7 + 7) (some (.cells (bldL a b (.map (some (n7 + 2))) r (cls (setsL g.p)) (many (setsL g.p) : Int) cv (.slice (some (own (n10 + 5) 4)) 1 1) (.map (some (n7 + 3))) (.map (some (n7 + 4))) (.map (some (n7 + 5)))).toArray y_auto_builder))) := hk11.upd (by simp)
    have hm12 : MapG injI (h11.upd (n7 + 7) (some (.cells (bldL a b (.map (some (n7 + 2))) r (cls (setsL g.p)) (many (setsL g.p) : Int) cv (.slice (some (own (n10 + 5) 4)) 1 1) (.map (some (n7 + 3))) (.map (some (n7 + 4))) (.map (some (n7 + 5)))).toArray y_auto_builder))) (n7 + 2) fn := hm11.keep (T.get_upd_ne _ _ (by omega))
    have hcv12 : OwnT (h11.upd (n7 + 7) (some (.cells (bldL a b (.map (some (n7 + 2))) r (cls (setsL g.p)) (many (setsL g.p) : Int) cv (.slice (some (own (n10 + 5) 4)) 1 1) (.map (some (n7 + 3))) (.map (some (n7 + 4))) (.map (some (n7 + 5)))).toArray y_auto_builder))) cv 2 y_a2_int (cntC (cntsL g.p)) (n7 + 14) := hcv11.updNe g11 (by decide)
    have hr12 : OwnT (h11.upd (n7 + 7) (some (.cells (bldL a b (.map (some (n7 + 2))) r (cls (setsL g.p)) (many (setsL g.p) : Int) cv (.slice (some (own (n10 + 5) 4)) 1 1) (.map (some (n7 + 3))) (.map (some (n7 + 4))) (.map (some (n7 + 5)))).toArray y_auto_builder))) r 1 y_uint8 (bytesC (ofB g)) (n9 + 11) := hr11.updNe g11 (by decide)
    generalize h11.upd (n7 + 7) (some (.cells (bldL a b (.map (some (n7 + 2))) r (cls (setsL g.p)) (many (setsL g.p) : Int) cv (.slice (some (own (n10 + 5) 4)) 1 1) (.map (some (n7 + 3))) (.map (some (n7 + 4))) (.map (some (n7 + 5)))).toArray y_auto_builder)) = h12 at hf12 g12 gs12 hk12 hm12 hcv12 hr12
    have k4 := hk12 _ _ g4 (by simp)
    have k5 := hk12 _ _ g5 (by simp)
    have k6 := hk12 _ _ g6 (by simp)
    have k2 := hk12 _ _ g2 (by simp; omega)
    have hs12 : Sub h h12 := fun i o hi => hk12 i o (hs _ _ hi) (by have := hf.lt' hi; simp; omega)
    have hB12 : Bd h12 g (n7 + 7) (n7 + 2) (n7 + 3) (n7 + 4) (n7 + 5) (n10 + 5) a b r (cls (setsL g.p)) (many (setsL g.p) : Int) cv [noS] [[nilS, nilS, nilS, nilS]] :=
      ⟨hc, g12, ⟨fn, hm12, hno8⟩, ⟨_, MapG.new k4, fun l hl _ => by
        have : isL l noS = false := decide_eq_false fun e => hl e.symm
        simp [List.findIdx?_cons, this]⟩, gs12, fun x hx => by simp at hx; rw [hx]; rfl, rfl, by simp, by simp, by omega⟩
    have hge : ∀ i ∈ [nx + 1, n7 + 7, n7 + 3, n7 + 4, n7 + 5, n10 + 5], nx ≤ i := by
      intro i hi
      simp only [List.mem_cons, List.not_mem_nil, or_false] at hi
      omega
    have hsd : Sub h (del h12 [nx + 1, n7 + 7, n7 + 3, n7 + 4, n7 + 5, n10 + 5]) := hs12.delN hf hge
    have hnot : ∀ {v : Value} {z lo : Nat} {e : TypeId} {l : List (List Value)}, e ≠ y_auto_builder → e ≠ y_api_State → e ≠ y_api_Auto → OwnT h12 v z e l lo → OwnT (del h12 [nx + 1, n7 + 7, n7 + 3, n7 + 4, n7 + 5, n10 + 5]) v z e l lo := fun he1 he2 he3 ho => ho.del fun id hid => by
      obtain ⟨_, z⟩ := ho.blk hid
      simp only [List.mem_cons, List.not_mem_nil, or_false, not_or]
      refine ⟨?_, ?_, ?_, ?_, ?_, ?_⟩ <;> rintro rfl
      · rw [z] at k2
        simp only [Option.some.injEq, Obj.cells.injEq] at k2
        exact he3 k2.2.1
      · rw [z] at g12
        simp only [Option.some.injEq, Obj.cells.injEq] at g12
        exact he1 g12.2.1
      · rw [z] at k4; cases k4
      · rw [z] at k5; cases k5
      · rw [z] at k6; cases k6
      · rw [z] at gs12
        simp only [Option.some.injEq, Obj.cells.injEq] at gs12
        exact he2 gs12.2.1
    have hcvd := hnot (by decide) (by decide) (by decide) hcv12
    refine Of_L1_c (hb := del h12 [nx + 1, n7 + 7, n7 + 3, n7 + 4, n7 + 5, n10 + 5]) (B := ofB g) (rid := nx + 1) hr first_len (by omega) (by omega) (by omega) (by omega) (by omega) (hb.sub hsd (RPos.sub hsd)) (ha.sub hsd) (first_R (hnot (by decide) (by decide) (by decide) hr12) first_lt) (hf12.mono (show n10 + 6 ≤ n10 + 11 by omega)) k2 hB12 (BMap.new k5) (BMap.new k6) (Sub.refl _) ⟨fun i x t hx ht => ?_, fun i x t hi hx ht => ?_⟩ (fun s hs => ?_) ?_ ?_ ?_ ?_ ?_
    · cases i with
      | succ i => simp at hx
      | zero =>
        simp at hx ht
        subst hx; subst ht
        exact ⟨nilS, nilS, nilS, nilS, rfl, Sl.nil, Sl.nil, Sl.nil, SlR.nil, Nat.zero_le _⟩
    · cases i with
      | succ i => simp at hx
      | zero =>
        simp at hx ht
        subst hx; subst ht
        exact ⟨⟨nilS, nilS, rfl⟩, rfl, rfl⟩
    · simp at hs; subst hs
      exact ⟨rfl, rfl, Nat.zero_le _⟩
    · exact f2
    · exact f4
    · rfl
    · intro hz9 e9 h13 n13 p1 p2 p3 p4 p5 p6
      rw [if_neg hz9] at hz
      rw [hz] at hK
      refine exP_r ?_
      rw [p5, p6]
      refine bindP_mk (loadA_all (l := autZ) p4 autZ_len) ?_
      exact ⟨h, hsd.trans p3, hK h _ autZ (by omega) (Sub.refl _) (hf.mono (by omega)) autD0_R⟩
    · intro hz9 e9 h13 n13 sid' cs' p1 p2 p3 p4 p5 p6 p7 p8 p9
      rw [if_pos hz9] at hz
      rw [hz] at hK
      refine exP_e (beqP_t ?_)
      unfold auto_Of_j2
      rw [p8, p9]
      have hb13 := p5.blk
      (repeat (first | refine bindP_mk (by simp (disch := first | omega | exact Int.natCast_nonneg _ | assumption) only [BB, B2, ↓reduceIte, Nat.reduceLeDiff, Nat.reduceAdd, CC, nilCk_at] <;> rfl) ?_ | refine newP_mk ?_ | refine optP_mk ?_ | with_reducible first | refine condP_t ?_ | refine condP_f ?_ | refine ifP_tt' ?_ | refine ifP_ff' ?_ | refine ifP_tf' ?_ | refine ifP_ft' ?_ | refine ifP_u' ?_ | refine optP_mk0 ?_))
      refine bindP_mk (load_auto hc hb13) ?_
      have hsvok : cellOk (.slice (some (own sid' 4)) cs'.length cs'.length) = true := rfl
      have hcvok := hcv12.ok
      refine bindP_mk (storeA_own (l := autZ) (vs := autL (cls (setsL g.p)) (many (setsL g.p) : Int) cv (.slice (some (own sid' 4)) cs'.length cs'.length)) p3 rfl (autL_len hc) autZ_len (autL_ok hcvok rfl)) ?_
      refine bindP_mk (loadA_all (l := autL (cls (setsL g.p)) (many (setsL g.p) : Int) cv (.slice (some (own sid' 4)) cs'.length cs'.length)) (by rw [T.get_upd_same]) (autL_len hc)) ?_
      refine ⟨_, Sub.refl _, ?_⟩
      have hfin : Sub (del h13 [nx + 1, n7 + 7, n7 + 3, n7 + 4, n7 + 5, sid']) (h13.upd (nx + 1) (some (.cells (autL (cls (setsL g.p)) (many (setsL g.p) : Int) cv (.slice (some (own sid' 4)) cs'.length cs'.length)).toArray y_api_Auto))) := fun i o hi => by
        rw [del_get] at hi
        split at hi
        · cases hi
        · rename_i hn
          rw [T.get_upd_ne _ _ (by rintro rfl; exact hn (by simp))]; exact hi
      have hrs : sid' ≠ nx + 1 := by
        rintro rfl
        have := p5.row
        rw [p3] at this
        simp only [Option.some.injEq, Obj.cells.injEq] at this
        exact absurd this.2.1 (by decide)
      refine hK _ _ _ (by omega) ((hsd.trans p4).trans hfin) ((p2.mono (show n13 ≤ n13 + 6 by omega)).upd (Nat.le_refl _) (by omega)) ⟨cv, _, rfl, hc, hcb, ?_, ⟨cs', ?_, p5.len, fun i x t hx ht => RState.sub hfin _ _ (p6 i x t hx ht)⟩, ?_, ?_⟩
      · exact cnt_R ((hcvd.keepS p4).keepS hfin)
      · refine OwnT.sl (h := h13.upd (nx + 1) _) (lo := 0) (e := y_api_State) (.inr ⟨sid', Nat.zero_le _, rfl, p5.z4, ?_⟩)
        rw [T.get_upd_ne _ _ hrs]; exact p5.row
      · have := cntsL_len g.p
        show (cntsL g.p).length ≤ maxB
        unfold maxB; omega
      · have := p5.few
        show (allZ g (ofB g) 256 0 [noS]).2.length ≤ maxB
        unfold maxB; omega
end V
end Go.Proofs.Ytmmdcdjkmakgpaa
set_option linter.unusedVariables false
set_option linter.unusedSimpArgs false
namespace Go.Proofs.Ytmmdcdjkmakgpaa
namespace V
open PA
structure Base (g : GlD) (S : List StateD) : Prop where
  ok : SOk g S
  few : S.length ≤ 256
  zero : ∃ s, S[0]? = some s ∧ s.l = []
  pos : ∀ (i : Nat) s, 0 < i → S[i]? = some s → s.l ≠ []
  dist : ∀ (i j : Nat) s t, S[i]? = some s → S[j]? = some t → s.l = t.l → i = j
def MvOk (g : GlD) (en st : Int → Bool) (b : Nat) (S : List StateD) (m : MoveD) : Prop :=
  (lZ g en st b = [] ∧ m.to = -1 ∧ m.ops = []) ∨ (lZ g en st b ≠ [] ∧ ∃ (k : Nat) (t : StateD), m.to = (k : Int) ∧ S[k]? = some t ∧ t.l = lZ g en st b ∧ m.ops = opsZ g en st (lZ g en st b))
def Ext (S S' : List StateD) : Prop := ∃ T, S' = S ++ T ∧ ∀ t ∈ T, t.rule = [] ∧ t.next = []
theorem Ext.refl (S : List StateD) : Ext S S := ⟨[], by simp, fun t ht => by cases ht⟩
theorem Ext.trans {a b c : List StateD} (h1 : Ext a b) (h2 : Ext b c) : Ext a c := by
  obtain ⟨T, rfl, h3⟩ := h1
  obtain ⟨U, rfl, h4⟩ := h2
  refine ⟨T ++ U, by rw [List.append_assoc], fun t ht => ?_⟩
  rcases List.mem_append.1 ht with ht | ht
  · exact h3 t ht
  · exact h4 t ht
def Grows (S S' : List StateD) : Prop := ∀ (i : Nat) s, S[i]? = some s → ∃ s', S'[i]? = some s' ∧ s'.l = s.l
theorem Grows.refl (S : List StateD) : Grows S S := fun i s h => ⟨s, h, rfl⟩
theorem Grows.trans {a b c : List StateD} (h1 : Grows a b) (h2 : Grows b c) : Grows a c := fun i s h => by
  obtain ⟨s1, h3, h4⟩ := h1 i s h
  obtain ⟨s2, h5, h6⟩ := h2 i s1 h3
  exact ⟨s2, h5, h6.trans h4⟩
theorem Ext.grows {S S' : List StateD} (h : Ext S S') : Grows S S' := fun i s hs => by
  obtain ⟨T, rfl, _⟩ := h
  have := (List.getElem?_eq_some_iff.1 hs).1
  exact ⟨s, by rw [List.getElem?_append_left this]; exact hs, rfl⟩
theorem MvOk.mono {g : GlD} {en st : Int → Bool} {b : Nat} {S S' : List StateD} {m : MoveD} (h : MvOk g en st b S m) (hg : Grows S S') : MvOk g en st b S' m := by
  rcases h with h | ⟨h1, k, t, h2, h3, h4, h5⟩
  · exact .inl h
  · obtain ⟨t', h6, h7⟩ := hg k t h3
    exact .inr ⟨h1, k, t', h2, h6, h7.trans h4, h5⟩
theorem goesZ_spec {g : GlD} {en st : Int → Bool} {b : Nat} {S : List StateD} (hb : Base g S) (h0 : (goesZ g en st b S).2.1 = 0) : Base g (goesZ g en st b S).2.2 ∧ Ext S (goesZ g en st b S).2.2 ∧ MvOk g en st b (goesZ g en st b S).2.2 (goesZ g en st b S).1 := by
  by_cases hl : lZ g en st b = []
  · rw [goesZ_nil hl]
    exact ⟨hb, Ext.refl _, .inl ⟨hl, rfl, rfl⟩⟩
  · have hrz := lZ_rz g en st b
    rw [goesZ_ne hl] at h0 ⊢
    dsimp only at h0 ⊢
    generalize hlz : lZ g en st b = l at hl h0 hrz
    unfold findZ at h0 ⊢
    cases hf : S.findIdx? (isL l) with
    | some k =>
      rw [hf] at h0
      obtain ⟨hk, h1, _⟩ := List.findIdx?_eq_some_iff_getElem.1 hf
      have h1 : (S[k]).l = l := of_decide_eq_true h1
      exact ⟨hb, Ext.refl _, .inr ⟨by rw [hlz]; exact hl, k, S[k], rfl, List.getElem?_eq_getElem hk, by rw [hlz]; exact h1, by rw [hlz]⟩⟩
    | none =>
      rw [hf] at h0
      dsimp only at h0 ⊢
      have hn := List.findIdx?_eq_none_iff.1 hf
      by_cases h3 : 3 < (regsZ g l).length
      · rw [if_pos h3] at h0; exact absurd h0 (by show ¬ (110 : Int) = 0; decide)
      · rw [if_neg h3] at h0 ⊢
        by_cases h4 : 256 ≤ S.length
        · rw [if_pos h4] at h0; exact absurd h0 (by show ¬ (3 : Int) = 0; decide)
        · rw [if_neg h4]
          have hne : ∀ s ∈ S, s.l ≠ l := fun s hs e => by
            have := hn s hs
            unfold isL at this
            exact absurd e (of_decide_eq_false this)
          have hget : ∀ (i : Nat) s, (S ++ [(⟨l, regsZ g l, [], []⟩ : StateD)])[i]? = some s → (S[i]? = some s) ∨ (i = S.length ∧ s = ⟨l, regsZ g l, [], []⟩) := fun i s hs => by
            rcases Nat.lt_or_ge i S.length with hi | hi
            · rw [List.getElem?_append_left hi] at hs; exact .inl hs
            · rw [List.getElem?_append_right hi] at hs
              generalize hq : i - S.length = q at hs
              cases q with
              | zero => simp at hs; exact .inr ⟨by omega, hs.symm⟩
              | succ q => simp at hs
          refine ⟨⟨fun s hs => ?_, by simp; omega, ?_, fun i s hi hs => ?_, fun i j s t hs ht he => ?_⟩, ⟨[⟨l, regsZ g l, [], []⟩], rfl, fun t ht => ?_⟩, .inr ⟨by rw [hlz]; exact hl, S.length, ⟨l, regsZ g l, [], []⟩, rfl, by simp, by rw [hlz], by rw [hlz]⟩⟩
          · rcases List.mem_append.1 hs with hs | hs
            · exact hb.ok s hs
            · simp at hs; subst hs; exact ⟨hrz, rfl, by show (regsZ g l).length ≤ 3; omega⟩
          · obtain ⟨s, h5, h6⟩ := hb.zero
            exact ⟨s, by rw [List.getElem?_append_left (List.getElem?_eq_some_iff.1 h5).1]; exact h5, h6⟩
          · rcases hget i s hs with hs | ⟨_, rfl⟩
            · exact hb.pos i s hi hs
            · exact hl
          · rcases hget i s hs with hs | ⟨hi, rfl⟩
            · rcases hget j t ht with ht | ⟨hj, rfl⟩
              · exact hb.dist i j s t hs ht he
              · exact absurd he (hne s (List.mem_of_getElem? hs))
            · rcases hget j t ht with ht | ⟨hj, rfl⟩
              · exact absurd he.symm (hne t (List.mem_of_getElem? ht))
              · omega
          · simp at ht; subst ht; exact ⟨rfl, rfl⟩
theorem rowZ_spec {g : GlD} {en st : Int → Bool} : ∀ {B : List Nat} {S : List StateD}, Base g S → (rowZ g en st B S).1 = 0 → Base g (rowZ g en st B S).2.2 ∧ Ext S (rowZ g en st B S).2.2 ∧ (rowZ g en st B S).2.1.length = B.length ∧ ∀ (j : Nat) b m, B[j]? = some b → (rowZ g en st B S).2.1[j]? = some m → MvOk g en st b (rowZ g en st B S).2.2 m
  | [], S, hb, _ => ⟨hb, Ext.refl _, rfl, fun j b m hj => by simp at hj⟩
  | b :: r, S, hb, h0 => by
    rw [rowZ_cons] at h0 ⊢
    by_cases h1 : (goesZ g en st b S).2.1 = 0
    · rw [if_pos h1] at h0 ⊢
      obtain ⟨g1, g2, g3⟩ := goesZ_spec hb h1
      obtain ⟨r1, r2, r3, r4⟩ := rowZ_spec (B := r) g1 h0
      refine ⟨r1, g2.trans r2, by simp [r3], fun j b' m hj hm => ?_⟩
      cases j with
      | zero => simp at hj hm; subst hj; subst hm; exact g3.mono r2.grows
      | succ j => exact r4 j b' m (by simpa using hj) (by simpa using hm)
    · rw [if_neg h1] at h0; exact absurd h0 h1
def doneZ (k c i : Nat) (s : StateD) : Nat := if i < k then (codesD (s.r.length : Int)).toNat else if i = k then c else 0
structure Made (g : GlD) (B : List Nat) (S : List StateD) (k c : Nat) : Prop where
  base : Base g S
  cnt : ∀ (i : Nat) s, S[i]? = some s → s.rule.length = doneZ k c i s ∧ s.next.length = doneZ k c i s
  rule : ∀ (i : Nat) s (q : Nat) ru, S[i]? = some s → s.rule[q]? = some ru → ru = ruleZ g (-1) (digs g s.l q)
  next : ∀ (i : Nat) s (q : Nat) row, S[i]? = some s → s.next[q]? = some row → row.length = B.length ∧ ∀ (j : Nat) b m, B[j]? = some b → row[j]? = some m → MvOk g (entersZ g i (digs g s.l q)) (staysZ (digs g s.l q)) b S m
theorem Base.modify {g : GlD} {S : List StateD} (hb : Base g S) (k : Nat) (rule : Int) (row : List MoveD) : Base g (S.modify k (addRow rule row)) ∧ Grows S (S.modify k (addRow rule row)) := by
  have hget : ∀ (i : Nat) s, (S.modify k (addRow rule row))[i]? = some s → ∃ t, S[i]? = some t ∧ t.l = s.l := fun i s hs => by
    by_cases hi : i = k
    · subst hi
      rw [modify_self] at hs
      cases hq : S[i]? with
      | none => rw [hq] at hs; cases hs
      | some t => rw [hq] at hs; cases hs; exact ⟨t, rfl, rfl⟩
    · rw [modify_ne hi] at hs; exact ⟨s, hs, rfl⟩
  have hgr : Grows S (S.modify k (addRow rule row)) := fun i s hs => by
    by_cases hi : i = k
    · subst hi; exact ⟨addRow rule row s, by rw [modify_self, hs]; rfl, rfl⟩
    · exact ⟨s, by rw [modify_ne hi]; exact hs, rfl⟩
  refine ⟨⟨modify_ok hb.ok _ _ _, by rw [List.length_modify]; exact hb.few, ?_, fun i s hi hs => ?_, fun i j s t hs ht he => ?_⟩, hgr⟩
  · obtain ⟨s, h1, h2⟩ := hb.zero
    obtain ⟨s', h3, h4⟩ := hgr 0 s h1
    exact ⟨s', h3, h4.trans h2⟩
  · obtain ⟨t, h1, h2⟩ := hget i s hs
    rw [← h2]; exact hb.pos i t hi h1
  · obtain ⟨s1, h1, h2⟩ := hget i s hs
    obtain ⟨t1, h3, h4⟩ := hget j t ht
    exact hb.dist i j s1 t1 h1 h3 (by rw [h2, h4, he])
theorem codeZ_spec {g : GlD} {B : List Nat} {S : List StateD} {k c : Nat} (hm : Made g B S k c) (hk : k < S.length) (h0 : (codeZ g B k (c : Int) S).1 = 0) : Made g B (codeZ g B k (c : Int) S).2 k (c + 1) ∧ Grows S (codeZ g B k (c : Int) S).2 := by
  obtain ⟨s, hs⟩ : ∃ s, S[k]? = some s := ⟨_, List.getElem?_eq_getElem hk⟩
  have hlk : lAt S k = s.l := by unfold lAt; rw [List.getD_eq_getElem?_getD, hs]; rfl
  have hcz : codeZ g B k (c : Int) S = if (rowZ g (entersZ g k (digs g s.l c)) (staysZ (digs g s.l c)) B S).1 = 0 then (0, (rowZ g (entersZ g k (digs g s.l c)) (staysZ (digs g s.l c)) B S).2.2.modify k (addRow (ruleZ g (-1) (digs g s.l c)) (rowZ g (entersZ g k (digs g s.l c)) (staysZ (digs g s.l c)) B S).2.1)) else ((rowZ g (entersZ g k (digs g s.l c)) (staysZ (digs g s.l c)) B S).1, S) := by
    unfold codeZ; rw [hlk]
  rw [hcz] at h0 ⊢
  by_cases h1 : (rowZ g (entersZ g k (digs g s.l c)) (staysZ (digs g s.l c)) B S).1 = 0
  · rw [if_pos h1]
    obtain ⟨r1, r2, r3, r4⟩ := rowZ_spec hm.base h1
    generalize rowZ g (entersZ g k (digs g s.l c)) (staysZ (digs g s.l c)) B S = Z at r1 r2 r3 r4
    dsimp only
    obtain ⟨b1, b2⟩ := r1.modify k (ruleZ g (-1) (digs g s.l c)) Z.2.1
    have hgr := r2.grows.trans b2
    obtain ⟨T, hT, hT2⟩ := r2
    have hZk : Z.2.2[k]? = some s := by rw [hT, List.getElem?_append_left hk]; exact hs
    have hget : ∀ (i : Nat) t, (Z.2.2.modify k (addRow (ruleZ g (-1) (digs g s.l c)) Z.2.1))[i]? = some t → (i = k ∧ t = addRow (ruleZ g (-1) (digs g s.l c)) Z.2.1 s) ∨ (i ≠ k ∧ i < S.length ∧ S[i]? = some t) ∨ (S.length ≤ i ∧ t.rule = [] ∧ t.next = []) := fun i t ht => by
      by_cases hi : i = k
      · subst hi
        rw [modify_self, hZk] at ht
        cases ht; exact .inl ⟨rfl, rfl⟩
      · rw [modify_ne hi, hT] at ht
        rcases Nat.lt_or_ge i S.length with hil | hil
        · rw [List.getElem?_append_left hil] at ht; exact .inr (.inl ⟨hi, hil, ht⟩)
        · rw [List.getElem?_append_right hil] at ht
          exact .inr (.inr ⟨hil, hT2 t (List.mem_of_getElem? ht)⟩)
    refine ⟨⟨b1, fun i t ht => ?_, fun i t q ru ht hq => ?_, fun i t q row ht hq => ?_⟩, hgr⟩
    · rcases hget i t ht with ⟨rfl, rfl⟩ | ⟨h2, h3, h4⟩ | ⟨h2, h3, h4⟩
      · have := hm.cnt i s hs
        unfold doneZ at this ⊢
        rw [if_neg (by omega), if_pos rfl] at this ⊢
        show (s.rule ++ [_]).length = _ ∧ (s.next ++ [_]).length = _
        simp [this.1, this.2]
      · have := hm.cnt i t h4
        unfold doneZ at this ⊢
        by_cases hik : i < k
        · rw [if_pos hik] at this ⊢; exact this
        · rw [if_neg hik, if_neg h2] at this ⊢; exact this
      · unfold doneZ
        rw [if_neg (by omega), if_neg (by omega), h3, h4]; exact ⟨rfl, rfl⟩
    · rcases hget i t ht with ⟨rfl, rfl⟩ | ⟨h2, h3, h4⟩ | ⟨h2, h3, h4⟩
      · have hq : (s.rule ++ [ruleZ g (-1) (digs g s.l c)])[q]? = some ru := hq
        have hc := hm.cnt i s hs
        unfold doneZ at hc
        rw [if_neg (by omega), if_pos rfl] at hc
        rcases Nat.lt_or_ge q s.rule.length with hql | hql
        · rw [List.getElem?_append_left hql] at hq; exact hm.rule i s q ru hs hq
        · rw [List.getElem?_append_right hql] at hq
          have hqc : q = c := by
            have := (List.getElem?_eq_some_iff.1 hq).1
            simp at this; omega
          subst hqc
          rw [hc.1, Nat.sub_self] at hq
          simp at hq; exact hq.symm
      · exact hm.rule i t q ru h4 hq
      · rw [h3] at hq; simp at hq
    · rcases hget i t ht with ⟨rfl, rfl⟩ | ⟨h2, h3, h4⟩ | ⟨h2, h3, h4⟩
      · have hq2 : (s.next ++ [Z.2.1])[q]? = some row := hq
        have hc := hm.cnt i s hs
        unfold doneZ at hc
        rw [if_neg (by omega), if_pos rfl] at hc
        rcases Nat.lt_or_ge q s.next.length with hql | hql
        · rw [List.getElem?_append_left hql] at hq2
          obtain ⟨n1, n2⟩ := hm.next i s q row hs hq2
          exact ⟨n1, fun j b m hj hm9 => (n2 j b m hj hm9).mono hgr⟩
        · rw [List.getElem?_append_right hql] at hq2
          have hqc : q = c := by
            have := (List.getElem?_eq_some_iff.1 hq2).1
            simp at this; omega
          subst hqc
          rw [hc.2, Nat.sub_self] at hq2
          simp at hq2; subst hq2
          exact ⟨r3, fun j b m hj hm9 => (r4 j b m hj hm9).mono b2⟩
      · obtain ⟨n1, n2⟩ := hm.next i t q row h4 hq
        exact ⟨n1, fun j b m hj hm9 => (n2 j b m hj hm9).mono hgr⟩
      · rw [h4] at hq; simp at hq
  · rw [if_neg h1] at h0; exact absurd h0 h1
theorem codesZ_spec {g : GlD} {B : List Nat} {k : Nat} : ∀ {n c : Nat} {S : List StateD}, Made g B S k c → k < S.length → (codesZ g B k n (c : Int) S).1 = 0 → Made g B (codesZ g B k n (c : Int) S).2 k (c + n) ∧ Grows S (codesZ g B k n (c : Int) S).2
  | 0, c, S, hm, _, _ => ⟨hm, Grows.refl _⟩
  | n + 1, c, S, hm, hk, h0 => by
    rw [codesZ_succ] at h0 ⊢
    by_cases h1 : (codeZ g B k (c : Int) S).1 = 0
    · rw [if_pos h1] at h0 ⊢
      obtain ⟨c1, c2⟩ := codeZ_spec hm hk h1
      have hk2 : k < (codeZ g B k (c : Int) S).2.length := by
        obtain ⟨s', h3, _⟩ := c2 k _ (List.getElem?_eq_getElem hk)
        exact (List.getElem?_eq_some_iff.1 h3).1
      obtain ⟨d1, d2⟩ := codesZ_spec (n := n) (c := c + 1) c1 hk2 h0
      refine ⟨?_, c2.trans d2⟩
      rw [show c + (n + 1) = c + 1 + n by omega]; exact d1
    · rw [if_neg h1] at h0; exact absurd h0 h1
theorem Grows.len {S S' : List StateD} (h : Grows S S') : S.length ≤ S'.length := by
  rcases Nat.lt_or_ge S'.length S.length with hl | hl
  · obtain ⟨s', h1, _⟩ := h S'.length _ (List.getElem?_eq_getElem hl)
    rw [List.getElem?_eq_none (Nat.le_refl _)] at h1; cases h1
  · exact hl
theorem Made.next' {g : GlD} {B : List Nat} {S : List StateD} {k : Nat} {s : StateD} (hs : S[k]? = some s) (hm : Made g B S k (codesD (s.r.length : Int)).toNat) : Made g B S (k + 1) 0 := by
  refine ⟨hm.base, fun i t ht => ?_, hm.rule, hm.next⟩
  have := hm.cnt i t ht
  unfold doneZ at this ⊢
  by_cases h1 : i < k
  · rw [if_pos h1] at this; rw [if_pos (by omega)]; exact this
  · by_cases h2 : i = k
    · subst h2
      rw [if_neg h1, if_pos rfl] at this
      rw [if_pos (by omega)]
      rw [hs] at ht; cases ht; exact this
    · rw [if_neg h1, if_neg h2] at this
      rw [if_neg (by omega)]
      by_cases h3 : i = k + 1
      · rw [if_pos h3]; exact this
      · rw [if_neg h3]; exact this
theorem allZ_spec {g : GlD} {B : List Nat} : ∀ {n k : Nat} {S : List StateD}, Made g B S k 0 → k ≤ S.length → k + n = 256 → (allZ g B n k S).1 = 0 → Made g B (allZ g B n k S).2 (allZ g B n k S).2.length 0 ∧ Grows S (allZ g B n k S).2
  | 0, k, S, hm, hk, hn, h0 => by
    have : k = S.length := by have := hm.base.few; omega
    exact ⟨by rw [this] at hm; exact hm, Grows.refl _⟩
  | n + 1, k, S, hm, hk, hn, h0 => by
    rw [allZ_succ] at h0 ⊢
    by_cases h1 : k < S.length
    · rw [if_pos h1] at h0 ⊢
      obtain ⟨s, hs⟩ : ∃ s, S[k]? = some s := ⟨_, List.getElem?_eq_getElem h1⟩
      have hgd : S.getD k noS = s := by rw [List.getD_eq_getElem?_getD, hs]; rfl
      rw [hgd] at h0 ⊢
      by_cases h2 : (codesZ g B k (codesD (s.r.length : Int)).toNat 0 S).1 = 0
      · rw [if_pos h2] at h0 ⊢
        obtain ⟨c1, c2⟩ := codesZ_spec (c := 0) hm h1 h2
        have hz : ((0 : Nat) : Int) = 0 := rfl
        rw [hz, Nat.zero_add] at c1
        rw [hz] at c2
        obtain ⟨s', h3, h4⟩ := c2 k s hs
        have hr : s'.r = s.r := by
          rw [(hm.base.ok s (List.mem_of_getElem? hs)).2.1, (c1.base.ok s' (List.mem_of_getElem? h3)).2.1, h4]
        have c3 := Made.next' h3 (by rw [hr]; exact c1)
        obtain ⟨d1, d2⟩ := allZ_spec (n := n) c3 (by have := (List.getElem?_eq_some_iff.1 h3).1; omega) (by omega) h0
        exact ⟨d1, c2.trans d2⟩
      · rw [if_neg h2] at h0; exact absurd h0 h2
    · rw [if_neg h1]
      have : k = S.length := by omega
      exact ⟨by rw [this] at hm; exact hm, Grows.refl _⟩
theorem made0 (g : GlD) (B : List Nat) : Made g B [noS] 0 0 := by
  have h1 : ∀ (i : Nat) s, [noS][i]? = some s → i = 0 ∧ s = noS := fun i s h => by
    cases i with
    | zero => simp at h; exact ⟨rfl, h.symm⟩
    | succ i => simp at h
  refine ⟨⟨fun s hs => ?_, by simp, ⟨noS, rfl, rfl⟩, fun i s hi hs => ?_, fun i j s t hs ht _ => ?_⟩, fun i s hs => ?_, fun i s q ru hs hq => ?_, fun i s q row hs hq => ?_⟩
  · simp at hs; subst hs; exact ⟨rfl, rfl, Nat.zero_le _⟩
  · have := (h1 i s hs).1; omega
  · rw [(h1 i s hs).1, (h1 j t ht).1]
  · obtain ⟨rfl, rfl⟩ := h1 i s hs; exact ⟨rfl, rfl⟩
  · obtain ⟨rfl, rfl⟩ := h1 i s hs; simp [noS] at hq
  · obtain ⟨rfl, rfl⟩ := h1 i s hs; simp [noS] at hq
theorem all_made {g : GlD} {B : List Nat} (h0 : (allZ g B 256 0 [noS]).1 = 0) : Made g B (allZ g B 256 0 [noS]).2 (allZ g B 256 0 [noS]).2.length 0 := (allZ_spec (made0 g B) (Nat.zero_le _) rfl h0).1
theorem Made.codes {g : GlD} {B : List Nat} {S : List StateD} (hm : Made g B S S.length 0) {i : Nat} {s : StateD} (hs : S[i]? = some s) : s.rule.length = (codesD (s.r.length : Int)).toNat ∧ s.next.length = (codesD (s.r.length : Int)).toNat := by
  have := hm.cnt i s hs
  unfold doneZ at this
  rw [if_pos (List.getElem?_eq_some_iff.1 hs).1] at this
  exact this
end V
end Go.Proofs.Ytmmdcdjkmakgpaa
set_option linter.unusedVariables false
set_option linter.unusedSimpArgs false
namespace Go.Proofs.Ytmmdcdjkmakgpaa
namespace V
open PA
theorem ofZ_ok {g : GlD} (h : (ofZ g).1 = 0) : rightD g = true ∧ ∃ S, (ofZ g).2 = ofD g S ∧ Made g (ofB g) S S.length 0 ∧ (allZ g (ofB g) 256 0 [noS]) = (0, S) := by
  unfold ofZ at h ⊢
  cases hr : rightD g with
  | false => rw [hr, if_neg (by decide)] at h; exact absurd h (by show ¬ (1 : Int) = 0; decide)
  | true =>
    rw [hr, if_pos rfl] at h
    rw [if_pos rfl]
    by_cases hz : (allZ g (ofB g) 256 0 [noS]).1 = 0
    · rw [if_pos hz]
      exact ⟨rfl, _, rfl, all_made hz, by rw [← hz]⟩
    · rw [if_neg hz] at h; exact absurd h hz
theorem class_byte (g : GlD) {b : Nat} (hb : b < 256) : ∃ k b', (cls (setsL g.p))[b]? = some k ∧ k < many (setsL g.p) ∧ (ofB g)[k]? = some b' ∧ b' < 256 ∧ ∀ en st, lZ g en st b' = lZ g en st b := by
  have hc := cls_length (setsL g.p)
  have hk : (cls (setsL g.p)).getD b 0 < many (setsL g.p) := cls_many hb
  obtain ⟨h1, h2, _⟩ := lb_cls hk
  refine ⟨(cls (setsL g.p)).getD b 0, lb (cls (setsL g.p)) ((cls (setsL g.p)).getD b 0) 0, ?_, hk, ?_, h1, fun en st => ?_⟩
  · rw [List.getD_eq_getElem?_getD, List.getElem?_eq_getElem (by omega)]; rfl
  · unfold ofB
    rw [firstZ_cls, List.getElem?_map, List.getElem?_range hk]; rfl
  · have hs := (cls_eq h1 hb).1 h2
    unfold lZ
    refine List.filter_congr fun q hq => ?_
    obtain ⟨q1, q2⟩ := placesZ_mem hq
    unfold takesZ
    have : (g.at q).s.testBit (lb (cls (setsL g.p)) ((cls (setsL g.p)).getD b 0) 0) = (g.at q).s.testBit b := by
      have hl : q.toNat < g.p.length := by omega
      have e1 := congrArg (fun l => l[q.toNat]?) hs
      simp only [sig, setsL, List.map_map, List.getElem?_map, List.getElem?_eq_getElem hl, Option.map_some, Function.comp, Option.some.injEq] at e1
      unfold GlD.at
      rw [List.getD_eq_getElem?_getD, List.getElem?_eq_getElem hl]
      exact e1
    rw [this]
theorem ofB_many (g : GlD) : (ofB g).length = many (setsL g.p) := by
  unfold ofB
  rw [firstZ_cls, List.length_map, List.length_range]
end V
end Go.Proofs.Ytmmdcdjkmakgpaa