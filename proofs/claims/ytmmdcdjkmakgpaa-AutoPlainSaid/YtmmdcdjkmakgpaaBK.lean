/- What code (of auto's builder) hands back, from its beginning.
   No condition. -/
import Derived.Test.YtmmdcdjkmakgpaaBJ
set_option linter.unusedVariables false
set_option linter.unusedSimpArgs false
namespace Go.Proofs.Ytmmdcdjkmakgpaa
namespace V
open PA
attribute [local irreducible] bindP ifP condP newP optP exP beqP
theorem Grow.mono {h : T Obj} {lo lo' : Nat} {cs cs' : List (List Value)} {S S' : List StateD} (hg : Grow h lo cs cs' S S') (hl : lo' ≤ lo) : Grow h lo' cs cs' S S' := by
  obtain ⟨ds, T, h1, h2, h3, h4⟩ := hg
  exact ⟨ds, T, h1, h2, h3, fun i x s hx hs => (h4 i x s hx hs).mono hl⟩
theorem RowOwn.mono {h : T Obj} {lo lo' : Nat} {mcs : List (List Value)} {row : List MoveD} (hr : RowOwn h lo mcs row) (hl : lo' ≤ lo) : RowOwn h lo' mcs row := ⟨hr.1, fun i x m hx hm => by
  obtain ⟨ov, h1, h2⟩ := hr.2 i x m hx hm
  exact ⟨ov, h1, h2.mono hl⟩⟩
theorem digs_len (g : GlD) (l : List Int) (c : Int) : (digs g l c).length = l.length := by
  have := congrArg List.length (digs_fst g l c)
  simpa using this
section
variable {ro : Ro} {g : GlD} {bid nid kid eid yid sid k : Nat} {av bv fv cv lv rv uv wv : Value} {c : List Nat} {n : Int} {S : List StateD} {cs : List (List Value)}
set_option maxRecDepth 8000 in
set_option maxHeartbeats 2000000 in
theorem auto_code_c {s : StateD} {ws : List Value} {B : List Nat} {code : Int} {en0 st0 : Int → Bool} (hr : rightD g = true) (hBl : B.length ≤ 256) (hc0 : 0 ≤ code) (hc1 : code ≤ 255) (hey : eid ≠ yid) (hen : eid ≠ nid) (hek : eid ≠ kid) (hyn : yid ≠ nid) (hyk : yid ≠ kid)
    {h : T Obj} {nx : Nat} {K : KV} (hf : Fr h nx) (hB : Bd h g bid nid kid eid yid sid av bv fv c n cv S cs) (hE : BMap h eid en0) (hY : BMap h yid st0)
    (hP : SlR ro (del h (XL bid kid eid yid sid uv wv)) bv 9 (RPos ro (del h (XL bid kid eid yid sid uv wv))) g.p) (ha : ZI ro (del h (XL bid kid eid yid sid uv wv)) av g.first) (hfv : SlR ro (del h (XL bid kid eid yid sid uv wv)) fv 1 RU8 B)
    (hx : cs[k]? = some [lv, rv, uv, wv]) (hs : S[k]? = some s) (hlv : ZI ro (del h (XL bid kid eid yid sid uv wv)) lv s.l) (hrv : ZI ro (del h (XL bid kid eid yid sid uv wv)) rv s.r) (hz : rz (-1) g.p.length s.l = true) (hu : OwnT h uv 1 y_int (intsZ s.rule) 0) (hw : OwnT h wv 1 y_s_api_Move (onesC ws) 0) (hR : s.rule.length ≤ 1000000) (hws : ws.length ≤ 1000000)
    (hKe : (rowZ g (entersZ g k (digs g s.l code)) (staysZ (digs g s.l code)) B S).1 ≠ 0 → ∀ h' nx', nx ≤ nx' → Fr h' nx' → Keep [bid, kid, eid, yid, sid] h h' → K (.int .i64 (rowZ g (entersZ g k (digs g s.l code)) (staysZ (digs g s.l code)) B S).1) h' nx')
    (hK : (rowZ g (entersZ g k (digs g s.l code)) (staysZ (digs g s.l code)) B S).1 = 0 → ∀ h' nx' sid' cs' uv' wv' rowv mcs en st, nx ≤ nx' → Fr h' nx' → Keep (XL bid kid eid yid sid uv wv) h h' → (sid' = sid ∨ nx ≤ sid') → Bd h' g bid nid kid eid yid sid' av bv fv c n cv (rowZ g (entersZ g k (digs g s.l code)) (staysZ (digs g s.l code)) B S).2.2 (cs'.set k [lv, rv, uv', wv']) →
      Grow (del h' (XL bid kid eid yid sid' uv' wv')) nx cs cs' S (rowZ g (entersZ g k (digs g s.l code)) (staysZ (digs g s.l code)) B S).2.2 → OwnT h' uv' 1 y_int (intsZ (s.rule ++ [ruleZ g (-1) (digs g s.l code)])) nx → OwnT h' wv' 1 y_s_api_Move (onesC (ws ++ [rowv])) nx → OwnT (del h' (XL bid kid eid yid sid' uv' wv')) rowv 2 y_api_Move mcs nx →
      RowOwn (del h' (XL bid kid eid yid sid' uv' wv')) nx mcs (rowZ g (entersZ g k (digs g s.l code)) (staysZ (digs g s.l code)) B S).2.1 → BMap h' eid en → BMap h' yid st → K (.int .i64 0) h' nx') :
    callP Try.prog ro i_auto_builder_code [ptr bid, .int .i64 (k : Int), .int .i64 code] h nx K := by
  apply auto_builder_code_of
  unfold auto_builder_code
  obtain ⟨hgl, hfr, hmay⟩ := right_parts hr
  have hbk := hB.blk
  have hkl : k < cs.length := (List.getElem?_eq_some_iff.1 hx).1
  have b262 := bldL_262 (av := av) (bv := bv) (nv := .map (some nid)) (fv := fv) (n := n) (cv := cv) (sv := .slice (some (own sid 4)) cs.length cs.length) (kv := .map (some kid)) (ev := .map (some eid)) (yv := .map (some yid)) hB.hc
  have b264 := bldL_264 (av := av) (bv := bv) (nv := .map (some nid)) (fv := fv) (n := n) (cv := cv) (sv := .slice (some (own sid 4)) cs.length cs.length) (kv := .map (some kid)) (ev := .map (some eid)) (yv := .map (some yid)) hB.hc
  have b265 := bldL_265 (av := av) (bv := bv) (nv := .map (some nid)) (fv := fv) (n := n) (cv := cv) (sv := .slice (some (own sid 4)) cs.length cs.length) (kv := .map (some kid)) (ev := .map (some eid)) (yv := .map (some yid)) hB.hc
  have b0 := bldL_0 (av := av) (bv := bv) (nv := .map (some nid)) (fv := fv) (c := c) (n := n) (cv := cv) (sv := .slice (some (own sid 4)) cs.length cs.length) (kv := .map (some kid)) (ev := .map (some eid)) (yv := .map (some yid))
  have hix := ixSl_own' (id := sid) (z := 4) (cap := cs.length) hkl
  have hlda : loadA ro h 4 (at_ sid (k * 4) 0) = some (.agg #[lv, rv, uv, wv]) := by
    have := (hB.own.sl (ro := ro)).loadA hx
    rwa [elPtr_own] at this
  have hul := hu.ok
  have hwl := hw.ok
  have hXs : Sub (del h (XL bid kid eid yid sid uv wv)) h := del_sub _ _
  have hlvk := (hlv.sub hXs).ok
  have hrvk := (hrv.sub hXs).ok
  have hll : s.l.length ≤ 512 := by have := rz_lenN hz (by omega); omega
  obtain ⟨fe1, ce1, me1⟩ := hE.obj
  obtain ⟨fy1, cy1, my1⟩ := hY.obj
  have hel := hf.lt' me1
  have hyl := hf.lt' my1
  have hbid : eid ≠ bid ∧ yid ≠ bid ∧ eid ≠ sid ∧ yid ≠ sid := by
    have h1 := hB.blk
    have h2 := hB.row
    refine ⟨?_, ?_, ?_, ?_⟩ <;> rintro rfl
    · rw [me1] at h1; cases h1
    · rw [my1] at h1; cases h1
    · rw [me1] at h2; cases h2
    · rw [my1] at h2; cases h2
  have hXe : ∀ q, q ∈ [eid, yid] → q ∈ XL bid kid eid yid sid uv wv := by
    intro q hq
    unfold XL
    simp only [List.mem_cons, List.not_mem_nil, or_false] at hq
    simp only [List.mem_append, List.mem_cons, List.not_mem_nil, or_false]
    omega
  have hXb : ∀ q, q ∈ [bid, kid, sid] → q ∈ XL bid kid eid yid sid uv wv := by
    intro q hq
    unfold XL
    simp only [List.mem_cons, List.not_mem_nil, or_false] at hq
    simp only [List.mem_append, List.mem_cons, List.not_mem_nil, or_false]
    omega
  (repeat (first | refine bindP_mk (by simp (disch := first | omega | exact Int.natCast_nonneg _ | assumption) only [BB, B2, ↓reduceIte, Nat.reduceLeDiff, Nat.reduceAdd, CC, nilCk_at, hbk, b262, hix, hlda] <;> rfl) ?_ | refine newP_mk ?_ | refine optP_mk ?_ | with_reducible first | refine condP_t ?_ | refine condP_f ?_ | refine ifP_tt' ?_ | refine ifP_ff' ?_ | refine ifP_tf' ?_ | refine ifP_ft' ?_ | refine ifP_u' ?_ | refine optP_mk0 ?_))
  refine local_mk zer_State rfl (x := [lv, rv, uv, wv]) rfl rfl (by simp only [List.all_cons, List.all_nil, hul, hwl, hlvk, hrvk]; rfl) hf (show nx ≤ nx + 9 by omega) fun h9 hs9 hf9 g9 _ => ?_
  refine bindP_mk (loadA_all (l := [lv, rv, uv, wv]) g9 rfl) ?_
  obtain ⟨fn, hm1, hm2⟩ := hB.num
  refine auto_digits_c (g := g) (many := g.p.length) (by omega) hz hll hc0 hc1 (hf9.mono (show _ ≤ nx + 15 by omega)) (hs9 _ _ hbk) (hm1.sub hs9) hm2 ((hlv.sub hXs).sub hs9) fun h12 n13 did fd hn13 hs12 hf12 hd1 hd2 hmd hdo => ?_
  have hs := hs9.trans hs12
  have hb12 := hs _ _ hbk
  have hD1 := digs_fst g s.l code
  have hD2 := digs_snd g s.l code hc0
  have hD3 := digs_len g s.l code
  have hZd : ∀ q, entersZ g k (digs g s.l code) q = ((decide (k = 0) && g.first.contains q) || enD g (digs g s.l code) q) := fun q => rfl
  generalize digs g s.l code = D at hKe hK hdo hD1 hD2 hD3 hZd
  have hE12 : BMap h12 eid en0 := by obtain ⟨f, q1, q2⟩ := hE; exact ⟨f, q1.sub hs, q2⟩
  have hY12 : BMap h12 yid st0 := by obtain ⟨f, q1, q2⟩ := hY; exact ⟨f, q1.sub hs, q2⟩
  have hndid : did ≠ eid ∧ did ≠ yid := by omega
  obtain ⟨c1, p1⟩ := hE12.clear
  (repeat (first | refine bindP_mk (by simp (disch := first | omega | exact Int.natCast_nonneg _ | assumption) only [BB, B2, ↓reduceIte, Nat.reduceLeDiff, Nat.reduceAdd, CC, nilCk_at, hb12, b264, und_mib, p1] <;> rfl) ?_ | refine newP_mk ?_ | refine optP_mk ?_ | with_reducible first | refine condP_t ?_ | refine condP_f ?_ | refine ifP_tt' ?_ | refine ifP_ff' ?_ | refine ifP_tf' ?_ | refine ifP_ft' ?_ | refine ifP_u' ?_ | refine optP_mk0 ?_))
  have hb17 : (h12.upd eid (some (.map #[] c1))).get bid = _ := (T.get_upd_ne _ _ hbid.1.symm).trans hb12
  have hY17 : BMap (h12.upd eid (some (.map #[] c1))) yid st0 := hY12.keep (T.get_upd_ne _ _ hey.symm)
  obtain ⟨c2, p2⟩ := hY17.clear
  (repeat (first | refine bindP_mk (by simp (disch := first | omega | exact Int.natCast_nonneg _ | assumption) only [BB, B2, ↓reduceIte, Nat.reduceLeDiff, Nat.reduceAdd, CC, nilCk_at, hb17, b265, und_mib, p2] <;> rfl) ?_ | refine newP_mk ?_ | refine optP_mk ?_ | with_reducible first | refine condP_t ?_ | refine condP_f ?_ | refine ifP_tt' ?_ | refine ifP_ff' ?_ | refine ifP_tf' ?_ | refine ifP_ft' ?_ | refine ifP_u' ?_ | refine optP_mk0 ?_))
  have hk21 : Keep [eid, yid] h12 ((h12.upd eid (some (.map #[] c1))).upd yid (some (.map #[] c2))) := (((Sub.refl h12).keepL).upd (by simp)).upd (by simp)
  have hf21 : Fr ((h12.upd eid (some (.map #[] c1))).upd yid (some (.map #[] c2))) n13 := (hf12.upd (Nat.le_refl _) (by omega)).upd (Nat.le_refl _) (by omega)
  have hE21 : BMap ((h12.upd eid (some (.map #[] c1))).upd yid (some (.map #[] c2))) eid fun _ => false := BMap.new (c := c1) (by rw [T.get_upd_ne _ _ hey, T.get_upd_same])
  have hY21 : BMap ((h12.upd eid (some (.map #[] c1))).upd yid (some (.map #[] c2))) yid fun _ => false := BMap.new (c := c2) (by rw [T.get_upd_same])
  generalize (h12.upd eid (some (.map #[] c1))).upd yid (some (.map #[] c2)) = h21 at hk21 hf21 hE21 hY21
  have hBk : ∀ h4, Keep [eid, yid] h12 h4 → Bd h4 g bid nid kid eid yid sid av bv fv c n cv S cs := fun h4 hk4 => (hB.sub hs).keepN fun q o hq9 hd9 => hk4 q o hq9 (by
    simp only [List.mem_cons, List.not_mem_nil, or_false, not_or]
    rcases hd9 with rfl | rfl | rfl | rfl
    · exact ⟨hbid.1.symm, hbid.2.1.symm⟩
    · exact ⟨hen.symm, hyn.symm⟩
    · exact ⟨hek.symm, hyk.symm⟩
    · exact ⟨hbid.2.2.1.symm, hbid.2.2.2.symm⟩)
  -- behind the first places
  have hj1 : ∀ (e : Env) (h4 : T Obj) (n4 : Nat) (en1 : Int → Bool), n13 ≤ n4 → Fr h4 n4 → Keep [eid, yid] h12 h4 → BMap h4 eid en1 → BMap h4 yid (fun _ => false) → (∀ q, en1 q = (decide (k = 0) && g.first.contains q)) →
      e 0 = ptr bid → e 1 = .int .i64 (k : Int) → e 7 = ptr (nx + 9) → e 8 = .map (some did) → e 9 = .int .i64 (-1) → auto_builder_code_j1 ro K e h4 n4 := by
    intro e h4 n4 en1 hn4 hf4 hk4 hE4 hY4 hen1 f0 f1 f7 f8 f9
    have hkh4 : Keep [eid, yid] h h4 := (hs.keepL).trans hk4
    unfold auto_builder_code_j1
    rw [f7]
    have g4 : h4.get (nx + 9) = some (.cells [lv, rv, uv, wv].toArray y_api_State) := hk4 _ _ (hs12 _ _ g9) (by simp; omega)
    have hsD : Sub (del h (XL bid kid eid yid sid uv wv)) (del h4 [eid, yid]) := hkh4.del hXe fun q hq => .inl (hXe q hq)
    have hl4 : ZI ro (del h4 [eid, yid]) lv (D.map (·.1)) := by rw [hD1]; exact hlv.sub hsD
    have hlen4 := (hl4.sub (del_sub _ _)).len
    rw [List.length_map] at hlen4
    (repeat (first | refine bindP_mk (by simp (disch := first | omega | exact Int.natCast_nonneg _ | assumption) only [BB, B2, ↓reduceIte, Nat.reduceLeDiff, Nat.reduceAdd, CC, g4, hlen4] <;> rfl) ?_ | refine newP_mk ?_ | refine optP_mk ?_ | with_reducible first | refine condP_t ?_ | refine condP_f ?_ | refine ifP_tt' ?_ | refine ifP_ff' ?_ | refine ifP_tf' ?_ | refine ifP_ft' ?_ | refine ifP_u' ?_ | refine optP_mk0 ?_))
    have hmd4 : MapG injI h4 did fd := by
      obtain ⟨es, c9, ps, a1, a2, a3⟩ := hmd
      exact ⟨es, c9, ps, hk4 _ _ a1 (by simp [hndid.1, hndid.2]), a2, a3⟩
    refine code_L2_c (K := K) (k := k) hr (by rw [hD1]; exact hz) hD2 hey hen hek hyn hyk (hf4.mono (show n4 ≤ n4 + 4 by omega)) (hBk h4 hk4) hE4 hY4 hmd4 hdo hndid.1 hndid.2 (hP.sub hsD (RPos.sub hsD)) hl4 ?_ ?_ ?_ ?_ ?_ ?_ ?_ ?_
    · exact f0
    · exact f1
    · exact f8
    · exact f9
    · rfl
    · rfl
    · rfl
    intro e' h5 n5 en st hn5 hf5 hk5 hE5 hY5 hen5 hst5 f0 f1 f9
    refine exP_e (beqP_t ?_)
    have hkh5 : Keep [eid, yid] h h5 := hkh4.trans hk5
    have hsB : Sub (del h (XL bid kid eid yid sid uv wv)) (del h5 [bid, kid, sid]) := hkh5.del hXe fun q hq => .inl (hXb q hq)
    have hE5' : BMap h5 eid (entersZ g k D) := hE5.ext fun q => by rw [hen5, hen1, hZd]
    have hY5' : BMap h5 yid (staysZ D) := hY5.ext hst5
    have hu5 : OwnT h5 uv 1 y_int (intsZ s.rule) 0 := hu.keepK hkh5 fun id hid => by
      obtain ⟨_, z⟩ := hu.blk hid
      simp only [List.mem_cons, List.not_mem_nil, or_false, not_or]
      refine ⟨?_, ?_⟩ <;> rintro rfl
      · rw [me1] at z; cases z
      · rw [my1] at z; cases z
    have hw5 : OwnT h5 wv 1 y_s_api_Move (onesC ws) 0 := hw.keepK hkh5 fun id hid => by
      obtain ⟨_, z⟩ := hw.blk hid
      simp only [List.mem_cons, List.not_mem_nil, or_false, not_or]
      refine ⟨?_, ?_⟩ <;> rintro rfl
      · rw [me1] at z; cases z
      · rw [my1] at z; cases z
    refine code_j2_c hgl hBl hf5 (hBk h5 (hk4.trans hk5)) hE5' hY5' hek hyk (hP.sub hsB (RPos.sub hsB)) (hfv.sub hsB fun _ _ h => h) hx hu5 hw5 hR hws f0 f1 f9 (fun hz9 h' nx' q1 q2 q3 => ?_) fun hz9 h' nx' sid' cs' uv' wv' rowv mcs q1 q2 q3 q4 q5 q6 q7 q8 q9 q10 q11 q12 => ?_
    · refine hKe hz9 h' nx' (by omega) q2 ?_
      refine (hkh5.mono ?_).trans (q3.mono ?_)
      · intro q hq; simp only [List.mem_cons, List.not_mem_nil, or_false] at hq ⊢; omega
      · intro q hq; simp only [List.mem_cons, List.not_mem_nil, or_false] at hq ⊢; omega
    · refine hK hz9 h' nx' sid' cs' uv' wv' rowv mcs _ _ (by omega) q2 ?_ (by omega) q5 (q6.mono (by omega)) (q7.mono (by omega)) (q8.mono (by omega)) (q9.mono (by omega)) (q10.mono (by omega)) q11 q12
      refine (hkh5.mono hXe).trans (q3.mono ?_)
      intro q hq
      rcases List.mem_append.1 hq with hq | hq
      · exact hXb q hq
      · unfold XL; exact List.mem_append.2 (.inr hq)
  refine eql_s (fun hk0 => ?_) (fun hk0 => ?_)
  · have hk0 : k = 0 := by omega
    have hb21 := (hBk h21 hk21).blk
    have hsD21 : Sub (del h (XL bid kid eid yid sid uv wv)) h21 := ((hs.keepL).trans hk21).delS hXe
    have ha21 := ha.sub hsD21
    have hal := ha21.len
    have hfl : g.first.length ≤ 512 := by have := rz_lenN hfr (by omega); omega
    (repeat (first | refine bindP_mk (by simp (disch := first | omega | exact Int.natCast_nonneg _ | assumption) only [BB, B2, ↓reduceIte, Nat.reduceLeDiff, Nat.reduceAdd, CC, nilCk_at, hb21, b0, hal] <;> rfl) ?_ | refine newP_mk ?_ | refine optP_mk ?_ | with_reducible first | refine condP_t ?_ | refine condP_f ?_ | refine ifP_tt' ?_ | refine ifP_ff' ?_ | refine ifP_tf' ?_ | refine ifP_ft' ?_ | refine ifP_u' ?_ | refine optP_mk0 ?_))
    refine loopP_rule (fun j e h' nx' => ∃ (i : Nat) (en1 : Int → Bool), i + j = g.first.length ∧ n13 ≤ nx' ∧ Fr h' nx' ∧ Keep [eid, yid] h12 h' ∧ BMap h' eid en1 ∧ BMap h' yid (fun _ => false) ∧ (∀ q, en1 q = (g.first.take i).contains q) ∧
      e 0 = ptr bid ∧ e 1 = .int .i64 (k : Int) ∧ e 7 = ptr (nx + 9) ∧ e 8 = .map (some did) ∧ e 9 = .int .i64 (-1) ∧ e 50 = av ∧ e 51 = .int .i64 g.first.length ∧ e 52 = .int .i64 i) ?_ (n := g.first.length)
      ⟨0, _, by omega, by omega, hf21.mono (by omega), hk21, hE21, hY21, fun q => by simp, rfl, rfl, rfl, rfl, rfl, rfl, rfl, rfl⟩
    rintro j e h' nx' ⟨i, en1, hj, hnx, hf', hk', hE', hY', hen1, f0, f1, f7, f8, f9, f50, f51, f52⟩ Q' hq hx9
    have hb' := (hBk h' hk').blk
    have ha' := ha.sub (((hs.keepL).trans hk').delS hXe)
    unfold auto_builder_code_L4
    rw [f0, f50, f51, f52]
    have hel' : eid < nx' := by obtain ⟨_, _, q⟩ := hE'.obj; exact hf'.lt' q
    refine lss_s (fun hi => ?_) (fun hi => ?_)
    · have hi : i < g.first.length := by omega
      have hld := ha'.load hi
      have hct := contains_take hi
      generalize g.first[i] = q0 at hld hct
      refine condP_t (bindP_mk (ha'.ix _ hi) (bindP_mk hld ?_))
      obtain ⟨es, ec, r1, r2⟩ := hE'.put q0 true
      (repeat (first | refine bindP_mk (by simp (disch := first | omega | exact Int.natCast_nonneg _ | assumption) only [BB, B2, ↓reduceIte, Nat.reduceLeDiff, Nat.reduceAdd, CC, nilCk_at, hb', b264, r1] <;> rfl) ?_ | refine newP_mk ?_ | refine optP_mk ?_ | with_reducible first | refine condP_t ?_ | refine condP_f ?_ | refine ifP_tt' ?_ | refine ifP_ff' ?_ | refine ifP_tf' ?_ | refine ifP_ft' ?_ | refine ifP_u' ?_ | refine optP_mk0 ?_))
      refine hq (j - 1) _ _ _ _ (by omega) ⟨i + 1, _, by omega, by omega, (hf'.mono (show nx' ≤ nx' + 12 by omega)).upd (Nat.le_refl _) (by omega), hk'.upd (by simp), r2 _ (by rw [T.get_upd_same]), hY'.keep (by rw [T.get_upd_ne _ _ hey.symm]), fun q => ?_, f0, f1, f7, f8, f9, f50, f51, rfl⟩ (Sub.refl _)
      show (if q = q0 then true else en1 q) = _
      rw [hct, hen1]
      by_cases hqq : q = q0
      · rw [if_pos hqq, decide_eq_true hqq]; simp
      · rw [if_neg hqq, decide_eq_false hqq, Bool.or_false]
    · refine condP_f ?_
      refine hx9 _ _ _ _ (fun e => by cases e) (exP_e (beqP_t ?_))
      rw [List.take_of_length_le (by omega)] at hen1
      exact hj1 _ _ _ en1 (by omega) (hf'.mono (by omega)) hk' hE' hY' (fun q => by rw [hen1, decide_eq_true hk0, Bool.true_and]) f0 f1 f7 f8 f9
  · have hk0 : ¬ k = 0 := by omega
    (repeat (first | refine bindP_mk (by simp (disch := first | omega | exact Int.natCast_nonneg _ | assumption) only [BB, B2, ↓reduceIte, Nat.reduceLeDiff, Nat.reduceAdd, CC] <;> rfl) ?_ | refine newP_mk ?_ | refine optP_mk ?_ | with_reducible first | refine condP_t ?_ | refine condP_f ?_ | refine ifP_tt' ?_ | refine ifP_ff' ?_ | refine ifP_tf' ?_ | refine ifP_ft' ?_ | refine ifP_u' ?_ | refine optP_mk0 ?_))
    exact hj1 _ _ _ _ (by omega) (hf21.mono (by omega)) hk21 hE21 hY21 (fun q => by rw [decide_eq_false hk0, Bool.false_and]) rfl rfl rfl rfl rfl
end
end V
end Go.Proofs.Ytmmdcdjkmakgpaa
