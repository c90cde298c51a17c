/- What code (of auto's builder) does over the first bytes.
   No condition. -/
import Derived.Test.YtmmdcdjkmakgpaaBH
set_option linter.unusedVariables false
set_option linter.unusedSimpArgs false
namespace Go.Proofs.Ytmmdcdjkmakgpaa
namespace V
open PA
attribute [local irreducible] bindP ifP condP newP optP exP beqP
/-- All blocks of a kind stay. -/
def TyKeep (e : TypeId) (h h' : T Obj) : Prop := ∀ (k : Nat) c f, h.get k = some (.cells c e f) → h'.get k = some (.cells c e f)
theorem TyKeep.refl {e : TypeId} {h : T Obj} : TyKeep e h h := fun _ _ _ hg => hg
theorem TyKeep.trans {e : TypeId} {a b c : T Obj} (h1 : TyKeep e a b) (h2 : TyKeep e b c) : TyKeep e a c := fun k x f hg => h2 k x f (h1 k x f hg)
theorem Sub.ty {e : TypeId} {h h' : T Obj} (hs : Sub h h') : TyKeep e h h' := fun k c f hg => hs _ _ hg
theorem TyKeep.upd {e e' : TypeId} {a h : T Obj} {i : Nat} {o : Option Obj} {c : Array Value} {f : Nat × Nat} (h1 : TyKeep e a h) (hg : h.get i = some (.cells c e' f)) (he : e' ≠ e) : TyKeep e a (h.upd i o) := fun k x q hk => by
  have := h1 k x q hk
  rw [T.get_upd_ne _ _ (by
    rintro rfl
    rw [hg] at this
    simp only [Option.some.injEq, Obj.cells.injEq] at this
    exact he this.2.1)]
  exact this
theorem OwnT.ty {h h' : T Obj} {v : Value} {z : Nat} {e : TypeId} {l : List (List Value)} {lo : Nat} (ho : OwnT h v z e l lo) (hk : TyKeep e h h') : OwnT h' v z e l lo := by
  rcases ho with ho | ⟨id, h1, rfl, h4, h5⟩
  · exact .inl ho
  · exact .inr ⟨id, h1, rfl, h4, hk _ _ _ h5⟩
theorem Kp.ty {h h' : T Obj} {v : Value} {z : Nat} {e e' : TypeId} {l : List (List Value)} {lo : Nat} (hk : Kp v h h') (ho : OwnT h v z e' l lo) (he : e' ≠ e) : TyKeep e h h' := fun k c f hg => hk k _ hg (ho.neB hg (by
  intro c f h
  simp only [Obj.cells.injEq] at h
  exact he h.2.1.symm))
theorem NewSt.ty {h h' : T Obj} {lo : Nat} {x : List Value} {s : StateD} (hn : NewSt h lo x s) (hk : TyKeep y_int h h') : NewSt h' lo x s := by
  obtain ⟨lv, rv, h1, h2, h3, h4⟩ := hn
  exact ⟨lv, rv, h1, h2.ty hk, h3.ty hk, h4⟩
theorem NewSt.mono {h : T Obj} {lo lo' : Nat} {x : List Value} {s : StateD} (hn : NewSt h lo x s) (hl : lo' ≤ lo) : NewSt h lo' x s := by
  obtain ⟨lv, rv, h1, h2, h3, h4⟩ := hn
  exact ⟨lv, rv, h1, h2.mono hl, h3.mono hl, h4⟩
theorem Grow.ty {h h' : T Obj} {lo : Nat} {cs cs' : List (List Value)} {S S' : List StateD} (hn : Grow h lo cs cs' S S') (hk : TyKeep y_int h h') : Grow h' lo cs cs' S S' := by
  obtain ⟨ds, T, h1, h2, h3, h4⟩ := hn
  exact ⟨ds, T, h1, h2, h3, fun i x s hx hs => (h4 i x s hx hs).ty hk⟩
theorem Grow.trans {h : T Obj} {lo lo' : Nat} {cs cs' cs'' : List (List Value)} {S S' S'' : List StateD} (h1 : Grow h lo cs cs' S S') (h2 : Grow h lo' cs' cs'' S' S'') (hl : lo ≤ lo') : Grow h lo cs cs'' S S'' := by
  obtain ⟨ds, T, a1, a2, a3, a4⟩ := h1
  obtain ⟨ds', T', b1, b2, b3, b4⟩ := h2
  refine ⟨ds ++ ds', T ++ T', by rw [b1, a1, List.append_assoc], by rw [b2, a2, List.append_assoc], by simp [a3, b3], fun i x s hx hs => ?_⟩
  rcases Nat.lt_or_ge i ds.length with hi | hi
  · rw [List.getElem?_append_left hi] at hx
    rw [List.getElem?_append_left (by omega)] at hs
    exact a4 i x s hx hs
  · rw [List.getElem?_append_right hi] at hx
    rw [List.getElem?_append_right (by omega), ← a3] at hs
    exact (b4 _ x s hx hs).mono hl
section
variable {h h' a b : T Obj} {g : GlD} {bid nid kid eid yid sid sid' lo : Nat} {av bv fv : Value} {c : List Nat} {n : Int} {cv : Value} {S : List StateD} {cs : List (List Value)}
theorem Bd.tyk (hB : Bd h g bid nid kid eid yid sid av bv fv c n cv S cs) (hk : Keep [bid, kid, sid] h h') {e : TypeId} (he1 : e ≠ y_auto_builder) (he2 : e ≠ y_api_State) : TyKeep e h h' := fun i x f hg => hk _ _ hg (by
  have h1 := hB.blk
  have h2 := hB.row
  obtain ⟨f2, k1, k2⟩ := hB.known
  obtain ⟨es, ec, k3⟩ := k1.obj
  simp only [List.mem_cons, List.not_mem_nil, or_false]
  rintro (rfl | rfl | rfl)
  · rw [hg] at h1
    simp only [Option.some.injEq, Obj.cells.injEq] at h1
    exact he1 h1.2.1
  · rw [hg] at k3; cases k3
  · rw [hg] at h2
    simp only [Option.some.injEq, Obj.cells.injEq] at h2
    exact he2 h2.2.1)
theorem Keep.chain (hf : Fr h lo) (h1 : Keep [bid, kid, sid] h a) (h2 : Keep [bid, kid, sid'] a b) (hs : sid' = sid ∨ lo ≤ sid') : Keep [bid, kid, sid] h b := fun k o hk hn => by
  refine h2 k o (h1 k o hk hn) ?_
  have := hf.lt' hk
  simp only [List.mem_cons, List.not_mem_nil, or_false, not_or] at hn ⊢
  refine ⟨hn.1, hn.2.1, ?_⟩
  rcases hs with rfl | hs
  · exact hn.2.2
  · omega
theorem BMap.keepK {r : Nat} {E : Int → Bool} {ids : List Nat} (hm : BMap h r E) (hk : Keep ids h h') (hn : r ∉ ids) : BMap h' r E := by
  obtain ⟨f, ⟨es, c, ps, h1, h2, h3⟩, h4⟩ := hm
  exact ⟨f, ⟨es, c, ps, hk _ _ h1 hn, h2, h3⟩, h4⟩
end
/-- Moves, each of its own. -/
def RowOwn (h : T Obj) (lo : Nat) (mcs : List (List Value)) (row : List MoveD) : Prop := mcs.length = row.length ∧ ∀ (i : Nat) x m, mcs[i]? = some x → row[i]? = some m → ∃ ov, x = [.int .i64 m.to, ov] ∧ OwnT h ov 1 y_uint8 (opsC m.ops) lo
theorem RowOwn.ty {h h' : T Obj} {lo : Nat} {mcs : List (List Value)} {row : List MoveD} (hr : RowOwn h lo mcs row) (hk : TyKeep y_uint8 h h') : RowOwn h' lo mcs row := ⟨hr.1, fun i x m hx hm => by
  obtain ⟨ov, h1, h2⟩ := hr.2 i x m hx hm
  exact ⟨ov, h1, h2.ty hk⟩⟩
theorem lit_Move (aid : Nat) (a b : Value) : sliceLitV Try.prog y_s_api_Move aid 1 [(0, .agg #[a, b])] = some (.slice (some (own aid 2)) 1 1, some (.cells [a, b].toArray y_api_Move)) := by kernel_rfl
theorem und_sMove : und Try.prog y_s_api_Move = some (.slice y_api_Move) := by kernel_rfl
theorem tin_Move : ∃ i, tin Try.prog y_api_Move = some i ∧ i.size = 2 ∧ i.bytes = 32 := tinOf (by kernel_rfl)
theorem app_Move {ro : Ro} {h : T Obj} {v a b : Value} {nx n1 n2 lo : Nat} {l : List (List Value)} {K : Value × Option Obj → T Obj → Value × T Obj × Nat → Prop} (ha : cellOk a = true) (hb : cellOk b = true) (ho : OwnT h v 2 y_api_Move l lo) (hl : l.length ≤ 1000000) (hf : Fr h nx) (hlo : lo ≤ nx) (hn1 : nx ≤ n1) (hn2 : n1 < n2)
    (hK : ∀ h' w, OwnT h' w 2 y_api_Move (l ++ [[a, b]]) lo → w = .slice (some (own n2 2)) (l ++ [[a, b]]).length (l ++ [[a, b]]).length → Kp v h h' → Fr h' (n2 + 1) → K (.slice (some (own n1 2)) 1 1, some (.cells [a, b].toArray y_api_Move)) (h.upd n1 (some (.cells [a, b].toArray y_api_Move))) (w, h', n2 + 1)) :
    bindP (sliceLitV Try.prog y_s_api_Move n1 1 [(0, .agg #[a, b])]) fun r => optP h n1 r.2 fun h' => bindP (appendV Try.prog ro h' n2 #[y_s_api_Move, y_s_api_Move] [v, r.1]) (K r h') := by
  obtain ⟨i, g1, g2, g3⟩ := tin_Move
  exact append_lit (z := 2) (l := l) (y := [a, b]) (lit_Move _ _ _) rfl ho und_sMove g1 g2 (by omega) zer_Move rfl (by simp [ha, hb]) (by rw [g3]; unfold big; omega) (by unfold big; omega) hf hlo hn1 hn2 fun h' q1 q2 q3 => hK h' _ q1 rfl q2 q3
theorem rowZ_cons (g : GlD) (en st : Int → Bool) (b : Nat) (r : List Nat) (S : List StateD) : rowZ g en st (b :: r) S = if (goesZ g en st b S).2.1 = 0 then ((rowZ g en st r (goesZ g en st b S).2.2).1, (goesZ g en st b S).1 :: (rowZ g en st r (goesZ g en st b S).2.2).2.1, (rowZ g en st r (goesZ g en st b S).2.2).2.2) else ((goesZ g en st b S).2.1, [], S) := rfl
/-- What may turn while a state is worked at. -/
def XL (bid kid eid yid sid : Nat) (uv wv : Value) : List Nat := [bid, kid, eid, yid, sid] ++ ((sblk uv).toList ++ (sblk wv).toList)
set_option maxRecDepth 8000 in
set_option maxHeartbeats 2000000 in
theorem code_j2_c {ro : Ro} {g : GlD} {bid nid kid eid yid sid k : Nat} {av bv fv cv lv rv uv wv : Value} {c : List Nat} {n rule : Int} {S : List StateD} {cs : List (List Value)} {R : List Int} {ws : List Value} {B : List Nat} {en st : Int → Bool} {e : Env} (hg : g.p.length ≤ 512) (hBl : B.length ≤ 256)
    {h : T Obj} {nx : Nat} {K : KV} (hf : Fr h nx) (hB : Bd h g bid nid kid eid yid sid av bv fv c n cv S cs) (hen : BMap h eid en) (hst : BMap h yid st) (hek : eid ≠ kid) (hyk : yid ≠ kid) (hP : SlR ro (del h [bid, kid, sid]) bv 9 (RPos ro (del h [bid, kid, sid])) g.p) (hfv : SlR ro (del h [bid, kid, sid]) fv 1 RU8 B)
    (hx : cs[k]? = some [lv, rv, uv, wv]) (hu : OwnT h uv 1 y_int (intsZ R) 0) (hw : OwnT h wv 1 y_s_api_Move (onesC ws) 0) (hR : R.length ≤ 1000000) (hws : ws.length ≤ 1000000)
    (e0 : e 0 = ptr bid) (e1 : e 1 = .int .i64 (k : Int)) (e9 : e 9 = .int .i64 rule)
    (hKe : (rowZ g en st B S).1 ≠ 0 → ∀ h' nx', nx ≤ nx' → Fr h' nx' → Keep [bid, kid, sid] h h' → K (.int .i64 (rowZ g en st B S).1) h' nx')
    (hK : (rowZ g en st B S).1 = 0 → ∀ h' nx' sid' cs' uv' wv' rowv mcs, nx ≤ nx' → Fr h' nx' → Keep ([bid, kid, sid] ++ ((sblk uv).toList ++ (sblk wv).toList)) h h' → (sid' = sid ∨ nx ≤ sid') → Bd h' g bid nid kid eid yid sid' av bv fv c n cv (rowZ g en st B S).2.2 (cs'.set k [lv, rv, uv', wv']) →
      Grow (del h' (XL bid kid eid yid sid' uv' wv')) nx cs cs' S (rowZ g en st B S).2.2 → OwnT h' uv' 1 y_int (intsZ (R ++ [rule])) nx → OwnT h' wv' 1 y_s_api_Move (onesC (ws ++ [rowv])) nx → OwnT (del h' (XL bid kid eid yid sid' uv' wv')) rowv 2 y_api_Move mcs nx → RowOwn (del h' (XL bid kid eid yid sid' uv' wv')) nx mcs (rowZ g en st B S).2.1 → BMap h' eid en → BMap h' yid st → K (.int .i64 0) h' nx') :
    auto_builder_code_j2 ro K e h nx := by
  unfold auto_builder_code_j2
  rw [e0]
  have hb := hB.blk
  have b3 := bldL_3 (av := av) (bv := bv) (nv := .map (some nid)) (fv := fv) (c := c) (n := n) (cv := cv) (sv := .slice (some (own sid 4)) cs.length cs.length) (kv := .map (some kid)) (ev := .map (some eid)) (yv := .map (some yid))
  have hfl := hfv.len
  generalize hZ : rowZ g en st B S = Z at hKe hK
  have hkl : k < cs.length := (List.getElem?_eq_some_iff.1 hx).1
  obtain ⟨fe1, me1⟩ := hen.obj
  obtain ⟨ce1, me1⟩ := me1
  obtain ⟨fy1, my1⟩ := hst.obj
  obtain ⟨cy1, my1⟩ := my1
  have hel : eid < nx := hf.lt' me1
  have hyl : yid < nx := hf.lt' my1
  have heb : eid ≠ bid := by rintro rfl; rw [hb] at me1; cases me1
  have hyb : yid ≠ bid := by rintro rfl; rw [hb] at my1; cases my1
  have hes : eid ≠ sid := by rintro rfl; have := hB.row; rw [this] at me1; cases me1
  have hys : yid ≠ sid := by rintro rfl; have := hB.row; rw [this] at my1; cases my1
  (repeat (first | refine bindP_mk (by simp (disch := first | omega | exact Int.natCast_nonneg _ | assumption) only [BB, B2, ↓reduceIte, Nat.reduceLeDiff, Nat.reduceAdd, CC, nilCk_at, hb, b3, hfl] <;> rfl) ?_ | refine newP_mk ?_ | refine optP_mk ?_ | with_reducible first | refine condP_t ?_ | refine condP_f ?_ | refine ifP_tt' ?_ | refine ifP_ff' ?_ | refine ifP_tf' ?_ | refine ifP_ft' ?_ | refine ifP_u' ?_ | refine optP_mk0 ?_))
  refine loopP_rule (fun j e h' nx' => ∃ (i sid' : Nat) (cs' : List (List Value)) (S' : List StateD) (mcs : List (List Value)) (row : List MoveD), i + j = B.length ∧ nx ≤ nx' ∧ Fr h' nx' ∧ Keep [bid, kid, sid] h h' ∧ (sid' = sid ∨ nx ≤ sid') ∧ Bd h' g bid nid kid eid yid sid' av bv fv c n cv S' cs' ∧
    Grow h' nx cs cs' S S' ∧ RowOwn h' nx mcs row ∧ OwnT h' (e 19) 2 y_api_Move mcs nx ∧ row.length = i ∧ e 0 = ptr bid ∧ e 1 = .int .i64 (k : Int) ∧ e 9 = .int .i64 rule ∧ e 129 = fv ∧ e 130 = .int .i64 B.length ∧ e 131 = .int .i64 i ∧
    ((rowZ g en st (B.drop i) S').1, row ++ (rowZ g en st (B.drop i) S').2.1, (rowZ g en st (B.drop i) S').2.2) = Z) ?_ (n := B.length)
    ⟨0, sid, cs, S, [], [], by omega, by omega, hf.mono (by omega), (Sub.refl h).keepL, .inl rfl, hB, Grow.refl, ⟨rfl, fun i x m hx => by simp at hx⟩, OwnT.nil, rfl, e0, e1, e9, rfl, rfl, rfl, by rw [← hZ]; rfl⟩
  rintro j e' h' nx' ⟨i, sid', cs', S', mcs, row, hj, hnx, hf', hkp, hsd, hB', hgr, hro, hrv, hrl, f0, f1, f9, f129, f130, f131, hrow⟩ Q' hq hxx
  have hsubD : Sub (del h [bid, kid, sid]) h' := fun q o hq9 => by
    rw [del_get] at hq9
    split at hq9
    · cases hq9
    · rename_i hn; exact hkp q o hq9 hn
  have hfv' := hfv.sub hsubD fun _ _ h => h
  have hP' := hP.sub hsubD (RPos.sub hsubD)
  have hen' : BMap h' eid en := hen.keepK hkp (by simp [heb, hek, hes])
  have hst' : BMap h' yid st := hst.keepK hkp (by simp [hyb, hyk, hys])
  unfold auto_builder_code_L1
  rw [f0, f129, f130, f131]
  refine lss_s (fun hi => ?_) (fun hi => ?_)
  · have hi : i < B.length := by omega
    rw [drop_cons hi, rowZ_cons] at hrow
    obtain ⟨w, ⟨w1, w2⟩, w3⟩ := hfv'.at1 hi
    have w1 : w = .int .u8 (B[i] : Int) := by simpa using w1
    subst w1
    generalize B[i] = b at hrow w2 w3
    refine condP_t (bindP_mk (hfv'.ix _ hi) (bindP_mk w3 ?_))
    refine auto_goes_c hg w2 (hf'.mono (show nx' ≤ nx' + 7 by omega)) hB' hen' hst' hP' fun h3 n3 sid3 cs3 ov r1 r2 r3 r4 r5 r6 r7 => ?_
    generalize goesZ g en st b S' = G at hrow r5 r6 r7
    have hkp3 : Keep [bid, kid, sid] h h3 := Keep.chain hf hkp r3 hsd
    have t1 : TyKeep y_int h' h3 := hB'.tyk r3 (by decide) (by decide)
    have t2 : TyKeep y_uint8 h' h3 := hB'.tyk r3 (by decide) (by decide)
    have t3 : TyKeep y_api_Move h' h3 := hB'.tyk r3 (by decide) (by decide)
    have hgr3 := (hgr.ty t1).trans r6 (show nx ≤ nx' + 7 by omega)
    have hovk := r7.ok
    (repeat (first | refine bindP_mk (by simp (disch := first | omega | exact Int.natCast_nonneg _ | assumption) only [BB, B2, ↓reduceIte, Nat.reduceLeDiff, Nat.reduceAdd, CC, nth0, nth1] <;> rfl) ?_ | refine newP_mk ?_ | refine optP_mk ?_ | with_reducible first | refine condP_t ?_ | refine condP_f ?_ | refine ifP_tt' ?_ | refine ifP_ff' ?_ | refine ifP_tf' ?_ | refine ifP_ft' ?_ | refine ifP_u' ?_ | refine optP_mk0 ?_))
    refine local_mk zer_Move rfl (x := [.int .i64 G.1.to, ov]) rfl rfl (by simp only [List.all_cons, List.all_nil, hovk]; rfl) r2 (show n3 ≤ n3 + 3 by omega) fun h4 hs4 hf4 g4 _ => ?_
    refine neq_s (fun u1 => ?_) (fun u1 => ?_)
    · (repeat (first | refine bindP_mk (by simp (disch := first | omega | exact Int.natCast_nonneg _ | assumption) only [BB, B2, ↓reduceIte, Nat.reduceLeDiff, Nat.reduceAdd, CC] <;> rfl) ?_ | refine newP_mk ?_ | refine optP_mk ?_ | with_reducible first | refine condP_t ?_ | refine condP_f ?_ | refine ifP_tt' ?_ | refine ifP_ff' ?_ | refine ifP_tf' ?_ | refine ifP_ft' ?_ | refine ifP_u' ?_ | refine optP_mk0 ?_))
      refine hxx _ _ _ _ (fun e => by cases e) (exP_r ?_)
      rw [if_neg u1] at hrow
      have hz1 : Z.1 = G.2.1 := by rw [← hrow]
      refine ⟨h4, Sub.refl _, ?_⟩
      show K (.int .i64 G.2.1) h4 _
      rw [← hz1]
      exact hKe (by rw [hz1]; exact u1) _ _ (by omega) (hf4.mono (by omega)) (hkp3.trans hs4.keepL)
    · rw [if_pos u1] at hrow
      refine condP_f (bindP_mk (loadA_all (l := [.int .i64 G.1.to, ov]) g4 rfl) ?_)
      have hrv4 := (hrv.ty t3).keepS hs4
      refine app_Move rfl hovk hrv4 (by rw [hro.1]; omega) (hf4.mono (show n3 + 3 + 1 ≤ n3 + 10 by omega)) (by omega) (by omega) (by omega) fun h5 w5 s1 s2 s3 s4 => ?_
      dsimp only
      refine bindP_mk (intB_add _ _ _) ?_
      rw [wr_i64 (by omega) (by omega)]
      have t4 : TyKeep y_int h3 h5 := (hs4.ty).trans (s3.ty hrv4 (by decide))
      have t5 : TyKeep y_uint8 h3 h5 := (hs4.ty).trans (s3.ty hrv4 (by decide))
      have hkp5 : Keep [bid, kid, sid] h h5 := fun q o hq9 hn => by
        have hql := hf.lt' hq9
        refine s3 q o (hs4 _ _ (hkp3 q o hq9 hn)) fun e => ?_
        have := (hrv4.blk e).1
        omega
      have hB5 : Bd h5 g bid nid kid eid yid sid3 av bv fv c n cv G.2.2 cs3 := (r5.sub hs4).keepN fun q o hq9 hd => s3 q o hq9 fun e => by
        obtain ⟨z1, z2⟩ := hrv4.blk e
        have hB4 := r5.sub hs4
        obtain ⟨a1, a2, a3⟩ := hB4.num
        obtain ⟨_, _, a4⟩ := a2.obj
        obtain ⟨d1, d2, d3⟩ := hB4.known
        obtain ⟨_, _, d4⟩ := d2.obj
        rcases hd with rfl | rfl | rfl | rfl
        · have := hB4.blk
          rw [z2] at this
          simp only [Option.some.injEq, Obj.cells.injEq] at this
          exact absurd this.2.1 (by decide)
        · rw [z2] at a4; cases a4
        · rw [z2] at d4; cases d4
        · have := hB4.row
          rw [z2] at this
          simp only [Option.some.injEq, Obj.cells.injEq] at this
          exact absurd this.2.1 (by decide)
      refine hq (j - 1) _ _ _ _ (by omega) ⟨i + 1, sid3, cs3, G.2.2, mcs ++ [[.int .i64 G.1.to, ov]], row ++ [G.1], by omega, by omega, s4.mono (by omega), hkp5, ?_, hB5, hgr3.ty t4, ?_, ?_, by simp [hrl], f0, f1, f9, f129, f130, rfl, ?_⟩ (Sub.refl _)
      · rcases r4 with r4 | r4
        · rw [r4]; exact hsd
        · exact .inr (by omega)
      · have ho1 := hro.ty (t2.trans t5)
        refine ⟨by simp [hro.1], fun q x m hx9 hm9 => ?_⟩
        rcases Nat.lt_or_ge q mcs.length with hql | hql
        · rw [List.getElem?_append_left hql] at hx9
          rw [List.getElem?_append_left (by have := hro.1; omega)] at hm9
          exact ho1.2 q x m hx9 hm9
        · rw [List.getElem?_append_right hql] at hx9
          rw [List.getElem?_append_right (by have := hro.1; omega), ← hro.1] at hm9
          generalize q - mcs.length = q' at hx9 hm9
          cases q' with
          | succ q' => simp at hx9
          | zero =>
            simp at hx9 hm9
            subst hx9; subst hm9
            exact ⟨ov, rfl, (r7.ty t5).mono (by omega)⟩
      · exact s1
      · rw [← hrow]; simp
  · refine condP_f ?_
    refine hxx _ _ _ _ (fun e => by cases e) (exP_e (beqP_t ?_))
    rw [drop_all (l := B) (by omega)] at hrow
    have hrow : ((0 : Int), row, S') = Z := by simpa [rowZ] using hrow
    subst hrow
    have hgr' := hgr
    obtain ⟨ds, T, a1, a2, a3, a4⟩ := hgr'
    have hx' : cs'[k]? = some [lv, rv, uv, wv] := by rw [a1, List.getElem?_append_left hkl]; exact hx
    have ti : TyKeep y_int h h' := hB.tyk hkp (by decide) (by decide)
    have tw : TyKeep y_s_api_Move h h' := hB.tyk hkp (by decide) (by decide)
    have hu' := hu.ty ti
    have hw' := hw.ty tw
    have hrvk := hrv.ok
    have hul : ∀ id, id ∈ (sblk uv).toList ++ (sblk wv).toList → id < nx := by
      intro id hid
      rcases List.mem_append.1 hid with hid | hid
      · have := (hu.blk (by simpa using hid)).2
        exact hf.lt' this
      · have := (hw.blk (by simpa using hid)).2
        exact hf.lt' this
    refine code_j3_c (hf'.mono (show nx' ≤ nx' + 1 by omega)) hB' hx' hu' hw' hR hws hrvk f0 f1 f9 rfl fun h2 n2 uv' wv' p1 p2 p3 p4 p5 p6 => ?_
    have hrow' := hB'.row
    -- what is new stays
    obtain ⟨b1, b2, b3, b4⟩ := hB.lt hf
    have hold : ∀ {v : Value} {z : Nat} {e : TypeId} {l : List (List Value)}, e ≠ y_api_State → OwnT h' v z e l nx → OwnT (del h2 (XL bid kid eid yid sid' uv' wv')) v z e l nx := fun he ho => by
      have hns : ∀ id, sblk _ = some id → id ≠ sid' := fun id hid => by
        obtain ⟨z1, z2⟩ := ho.blk hid
        rintro rfl
        rw [hrow'] at z2
        simp only [Option.some.injEq, Obj.cells.injEq] at z2
        exact he z2.2.1.symm
      refine (ho.keepK p3 fun id hid => ?_).del fun id hid => ?_
      · obtain ⟨z1, z2⟩ := ho.blk hid
        simp only [List.mem_cons, not_or]
        refine ⟨hns id hid, fun hm => ?_⟩
        have := hul _ hm; omega
      · obtain ⟨z1, z2⟩ := ho.blk hid
        have z3 := hf'.lt' z2
        have z4 := hns id hid
        unfold XL
        simp only [List.mem_append, List.mem_cons, List.not_mem_nil, or_false, not_or, Option.mem_toList]
        refine ⟨⟨by omega, by omega, by omega, by omega, z4⟩, fun h9 => ?_, fun h9 => ?_⟩
        · have := (p5.blk h9).1; omega
        · have := (p6.blk h9).1; omega
    refine hK rfl h2 n2 sid' cs' uv' wv' _ mcs (by omega) p2 ?_ hsd p4 ?_ (p5.mono (by omega)) (p6.mono (by omega)) (hold (by decide) hrv) ?_ ?_ ?_
    · intro q o hq9 hn
      have hql := hf.lt' hq9
      simp only [List.mem_append, List.mem_cons, List.not_mem_nil, or_false, not_or] at hn
      refine p3 q o (hkp q o hq9 (by simp; exact hn.1)) ?_
      simp only [List.mem_cons, List.mem_append, not_or]
      refine ⟨?_, hn.2⟩
      rcases hsd with rfl | hs
      · exact hn.1.2.2
      · omega
    · refine ⟨ds, T, a1, a2, a3, fun q x s hx9 hs9 => ?_⟩
      obtain ⟨l1, l2, l3, l4, l5, l6⟩ := a4 q x s hx9 hs9
      exact ⟨l1, l2, l3, hold (by decide) l4, hold (by decide) l5, l6⟩
    · refine ⟨hro.1, fun q x m hx9 hm9 => ?_⟩
      obtain ⟨ov, o1, o2⟩ := hro.2 q x m hx9 hm9
      exact ⟨ov, o1, hold (by decide) o2⟩
    · refine hen'.keepK p3 ?_
      simp only [List.mem_cons, not_or]
      refine ⟨?_, ?_⟩
      · rcases hsd with rfl | hs
        · exact hes
        · omega
      · intro hm
        rcases List.mem_append.1 hm with hm | hm
        · obtain ⟨_, z⟩ := hu.blk (id := eid) (by simpa using hm)
          rw [me1] at z; cases z
        · obtain ⟨_, z⟩ := hw.blk (id := eid) (by simpa using hm)
          rw [me1] at z; cases z
    · refine hst'.keepK p3 ?_
      simp only [List.mem_cons, not_or]
      refine ⟨?_, ?_⟩
      · rcases hsd with rfl | hs
        · exact hys
        · omega
      · intro hm
        rcases List.mem_append.1 hm with hm | hm
        · obtain ⟨_, z⟩ := hu.blk (id := yid) (by simpa using hm)
          rw [my1] at z; cases z
        · obtain ⟨_, z⟩ := hw.blk (id := yid) (by simpa using hm)
          rw [my1] at z; cases z
end V
end Go.Proofs.Ytmmdcdjkmakgpaa
