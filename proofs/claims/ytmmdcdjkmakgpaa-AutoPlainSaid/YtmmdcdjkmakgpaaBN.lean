/- The loops of auto's Of.
   No condition. -/
import Derived.Test.YtmmdcdjkmakgpaaBL
set_option linter.unusedVariables false
set_option linter.unusedSimpArgs false
namespace Go.Proofs.Ytmmdcdjkmakgpaa
namespace V
open PA
attribute [local irreducible] bindP ifP condP newP optP exP beqP
def autZ : List Value := autL (List.replicate 256 0) 0 nilS nilS
theorem zer_Auto : zer Try.prog y_api_Auto = some (.agg autZ.toArray) := by kernel_rfl
theorem build_Auto0 : buildV Try.prog y_api_Auto [] = some (.agg autZ.toArray) := by kernel_rfl
theorem autZ_len : autZ.length = 259 := autL_len List.length_replicate
theorem autZ_ok : autZ.all cellOk = true := autL_ok rfl rfl
theorem codesZ_succ (g : GlD) (B : List Nat) (k m : Nat) (c : Int) (S : List StateD) : codesZ g B k (m + 1) c S = if (codeZ g B k c S).1 = 0 then codesZ g B k m (c + 1) (codeZ g B k c S).2 else ((codeZ g B k c S).1, S) := rfl
theorem allZ_succ (g : GlD) (B : List Nat) (m k : Nat) (S : List StateD) : allZ g B (m + 1) k S = if k < S.length then (if (codesZ g B k (codesD (S.getD k noS).r.length).toNat 0 S).1 = 0 then allZ g B m (k + 1) (codesZ g B k (codesD (S.getD k noS).r.length).toNat 0 S).2 else ((codesZ g B k (codesD (S.getD k noS).r.length).toNat 0 S).1, S)) else (0, S) := rfl
/-- States, all of which are laid. -/
structure Fz (ro : Ro) (h : T Obj) (X : List Nat) (k : Nat) (S : List StateD) (cs : List (List Value)) : Prop where
  all : ∀ (i : Nat) x t, cs[i]? = some x → S[i]? = some t → RState ro (del h X) x t
  tail : ∀ (i : Nat) x t, k ≤ i → cs[i]? = some x → S[i]? = some t → (∃ lv rv, x = [lv, rv, nilS, nilS]) ∧ t.rule = [] ∧ t.next = []
section
variable {ro : Ro} {g : GlD} {bid nid kid eid yid k rid : Nat} {av bv fv cv : Value} {c : List Nat} {n : Int} {B : List Nat} {hb : T Obj}
set_option maxRecDepth 8000 in
set_option maxHeartbeats 1000000 in
theorem Of_L2_c {sid : Nat} {uv wv lv rv : Value} {S : List StateD} {cs : List (List Value)} {s : StateD} {ws : List Value} {en0 st0 : Int → Bool} {e : Env} {N : Nat} (hr : rightD g = true) (hBl : B.length ≤ 256) (hN : N ≤ 27) (hey : eid ≠ yid) (hen : eid ≠ nid) (hek : eid ≠ kid) (hyn : yid ≠ nid) (hyk : yid ≠ kid)
    (hP : SlR ro hb bv 9 (RPos ro hb) g.p) (ha : ZI ro hb av g.first) (hfv : SlR ro hb fv 1 RU8 B) 
    {h : T Obj} {nx : Nat} {Q : KE} (hf : Fr h nx) (hrid : h.get rid = some (.cells autZ.toArray y_api_Auto)) (hB : Bd h g bid nid kid eid yid sid av bv fv c n cv S cs) (hE : BMap h eid en0) (hY : BMap h yid st0) (hbs : Sub hb (del h (rid :: XL bid kid eid yid sid uv wv)))
    (hSR : StR ro h (rid :: XL bid kid eid yid sid uv wv) k uv wv lv rv S cs s ws) (hOk : SOk g S) (hrl : s.rule.length ≤ 1000) (hwl : ws.length ≤ 1000)
    (e2 : e 2 = ptr rid) (e4 : e 4 = ptr bid) (e8 : e 8 = .int .i64 (k : Int)) (e107 : e 107 = .int .i64 (N : Int)) (e108 : e 108 = .int .i64 0)
    (hQe : (codesZ g B k N 0 S).1 ≠ 0 → ∀ e' h' nx', nx ≤ nx' → Fr h' nx' → Sub hb h' → h'.get rid = some (.cells autZ.toArray y_api_Auto) → e' 2 = ptr rid → e' 3 = .int .i64 (codesZ g B k N 0 S).1 → Q .ret e' h' nx')
    (hQ : (codesZ g B k N 0 S).1 = 0 → ∀ e' h' nx' sid' cs' uv' wv' ws' s' en st, nx ≤ nx' → Fr h' nx' → h'.get rid = some (.cells autZ.toArray y_api_Auto) → Sub hb (del h' (rid :: XL bid kid eid yid sid' uv' wv')) → Bd h' g bid nid kid eid yid sid' av bv fv c n cv (codesZ g B k N 0 S).2 cs' → StR ro h' (rid :: XL bid kid eid yid sid' uv' wv') k uv' wv' lv rv (codesZ g B k N 0 S).2 cs' s' ws' → SOk g (codesZ g B k N 0 S).2 →
      BMap h' eid en → BMap h' yid st → e' 2 = ptr rid → e' 4 = ptr bid → e' 8 = .int .i64 (k : Int) → Q (.exit 4) e' h' nx') :
    loopP (auto_Of_L2 ro) e h nx Q := by
  generalize hZ : codesZ g B k N 0 S = Z at hQe hQ
  refine loopP_rule (fun j e h' nx' => ∃ (i sid' : Nat) (S' : List StateD) (cs' : List (List Value)) (uv' wv' : Value) (ws' : List Value) (s' : StateD) (en st : Int → Bool), i + j = N ∧ nx ≤ nx' ∧ Fr h' nx' ∧ h'.get rid = some (.cells autZ.toArray y_api_Auto) ∧ Sub hb (del h' (rid :: XL bid kid eid yid sid' uv' wv')) ∧ Bd h' g bid nid kid eid yid sid' av bv fv c n cv S' cs' ∧
    StR ro h' (rid :: XL bid kid eid yid sid' uv' wv') k uv' wv' lv rv S' cs' s' ws' ∧ SOk g S' ∧ s'.rule.length ≤ 1000 + i ∧ ws'.length ≤ 1000 + i ∧ BMap h' eid en ∧ BMap h' yid st ∧ e 2 = ptr rid ∧ e 4 = ptr bid ∧ e 8 = .int .i64 (k : Int) ∧ e 107 = .int .i64 (N : Int) ∧ e 108 = .int .i64 i ∧ codesZ g B k j i S' = Z) ?_ (n := N)
    ⟨0, sid, S, cs, uv, wv, ws, s, en0, st0, by omega, by omega, hf, hrid, hbs, hB, hSR, hOk, by omega, by omega, hE, hY, e2, e4, e8, e107, e108, hZ⟩
  rintro j e' h' nx' ⟨i, sid', S', cs', uv', wv', ws', s', en, st, hj, hnx, hf', hri', hbs', hB', hSR', hOk', hrl', hwl', hE', hY', f2, f4, f8, f107, f108, hrz⟩ Q' hq hx
  unfold auto_Of_L2
  rw [f4, f8, f107, f108]
  refine lss_s (fun hi => ?_) (fun hi => ?_)
  · obtain ⟨j, rfl⟩ : ∃ j', j = j' + 1 := ⟨j - 1, by omega⟩
    rw [codesZ_succ] at hrz
    refine condP_t ?_
    refine code_SR hr hBl (by omega) (by omega) hey hen hek hyn hyk (hf'.mono (show nx' ≤ nx' + 7 by omega)) hB' hE' hY' hri' hbs' hP ha hfv hSR' hOk' (by omega) (by omega) (fun hz h3 n3 q1 q2 q3 hg3 => ?_) fun hz h3 n3 sid3 cs3 uv3 wv3 ws3 s3 en3 st3 q1 q2 qri q3 q4 q5 q6 q7 q8 q9 q10 => ?_
    · rw [if_neg hz] at hrz
      have hz1 : Z.1 = (codeZ g B k i S').1 := by rw [← hrz]
      refine neq_t hz (condP_t (bindP_mk build_Auto0 ?_))
      show bindP (storeN 259 h3 (e' 2) _) _
      rw [f2]
      refine bindP_mk (storeA_own (l := autZ) (vs := autZ) hg3 rfl autZ_len autZ_len autZ_ok) ?_
      refine hx _ _ _ _ (fun e => by cases e) ?_
      refine hQe (by rw [hz1]; exact hz) _ _ _ (by omega) ((q2.mono (show n3 ≤ n3 + 7 by omega)).upd (Nat.le_refl _) (by have := q2.lt' hg3; omega)) (fun i o hi => ?_) (by rw [T.get_upd_same]) f2 (by rw [hz1]; rfl)
      have hi3 := q3 _ _ hi
      by_cases hir : i = rid
      · subst hir
        rw [T.get_upd_same, ← hg3, hi3]
      · rw [T.get_upd_ne _ _ hir]; exact hi3
    · rw [if_pos hz] at hrz
      have hok3 := codeZ_ok (B := B) (k := k) (c := (i : Int)) hOk'
      generalize (codeZ g B k (i : Int) S').2 = S3 at hrz q4 q5 hok3
      refine neq_f rfl (condP_f (bindP_mk (intB_add _ _ _) ?_))
      rw [wr_i64 (by omega) (by omega)]
      exact hq j _ _ _ _ (by omega) ⟨i + 1, sid3, S3, cs3, uv3, wv3, ws3, s3, en3, st3, by omega, by omega, q2.mono (by omega), qri, q3, q4, q5, hok3, by omega, by omega, q9, q10, f2, f4, f8, f107, rfl, hrz⟩ (Sub.refl _)
  · obtain rfl : j = 0 := by omega
    have hrz : ((0 : Int), S') = Z := hrz
    subst hrz
    refine condP_f (hx _ _ _ _ (fun e => by cases e) ?_)
    exact hQ rfl _ _ _ sid' cs' uv' wv' ws' s' en st (by omega) (hf'.mono (by omega)) hri' hbs' hB' hSR' hOk' hE' hY' f2 f4 f8
theorem StR.fz {h : T Obj} {sid : Nat} {uv wv lv rv : Value} {S : List StateD} {cs : List (List Value)} {s : StateD} {ws : List Value} {en st : Int → Bool} (hri : h.get rid = some (.cells autZ.toArray y_api_Auto)) (hSR : StR ro h (rid :: XL bid kid eid yid sid uv wv) k uv wv lv rv S cs s ws) (hB : Bd h g bid nid kid eid yid sid av bv fv c n cv S cs) (hE : BMap h eid en) (hY : BMap h yid st) (hOk : SOk g S) : Fz ro h [rid, bid, kid, eid, yid, sid] (k + 1) S cs := by
  have hsub : Sub (del h (rid :: XL bid kid eid yid sid uv wv)) (del h [rid, bid, kid, eid, yid, sid]) := del_mono fun q hq => by
    rcases List.mem_cons.1 hq with hq | hq
    · exact List.mem_cons.2 (.inl hq)
    · unfold XL; exact List.mem_cons_of_mem _ (List.mem_append.2 (.inl hq))
  have hnot : ∀ {v : Value} {z lo : Nat} {e : TypeId} {l : List (List Value)}, e ≠ y_auto_builder → e ≠ y_api_State → e ≠ y_api_Auto → OwnT h v z e l lo → OwnT (del h [rid, bid, kid, eid, yid, sid]) v z e l lo := fun he1 he2 he3 ho => ho.del fun id hid => by
    obtain ⟨_, z⟩ := ho.blk hid
    obtain ⟨_, _, m1⟩ := hE.obj
    obtain ⟨_, _, m2⟩ := hY.obj
    obtain ⟨f2, k1, k2⟩ := hB.known
    obtain ⟨_, _, m3⟩ := k1.obj
    have m4 := hB.blk
    have m5 := hB.row
    simp only [List.mem_cons, List.not_mem_nil, or_false, not_or]
    refine ⟨?_, ?_, ?_, ?_, ?_, ?_⟩ <;> rintro rfl
    · rw [z] at hri
      simp only [Option.some.injEq, Obj.cells.injEq] at hri
      exact he3 hri.2.1
    · rw [z] at m4
      simp only [Option.some.injEq, Obj.cells.injEq] at m4
      exact he1 m4.2.1
    · rw [z] at m3; cases m3
    · rw [z] at m1; cases m1
    · rw [z] at m2; cases m2
    · rw [z] at m5
      simp only [Option.some.injEq, Obj.cells.injEq] at m5
      exact he2 m5.2.1
  refine ⟨fun i x t hx ht => ?_, fun i x t hi hx ht => hSR.tail i x t (by omega) hx ht⟩
  by_cases hik : i = k
  · subst hik
    rw [hSR.hx] at hx
    rw [hSR.hs] at ht
    cases hx; cases ht
    refine ⟨lv, rv, uv, wv, rfl, hSR.l.sub hsub, hSR.r.sub hsub, (hnot (by decide) (by decide) (by decide) hSR.u).sl, ⟨onesC ws, (hnot (by decide) (by decide) (by decide) hSR.w).sl, by rw [onesC_len]; exact hSR.rl, fun i x d hx hd => ?_⟩, ?_⟩
    · unfold onesC at hx
      rw [List.getElem?_map] at hx
      cases hq : ws[i]? with
      | none => rw [hq] at hx; cases hx
      | some v =>
        rw [hq] at hx
        cases hx
        exact RRow.sub hsub _ _ (hSR.rows i v d hq hd)
    · have := (hOk _ (List.mem_of_getElem? hSR.hs)).2.2
      unfold maxB; omega
  · exact RState.sub hsub _ _ (hSR.other i x t hik hx ht)
set_option maxRecDepth 8000 in
set_option maxHeartbeats 1000000 in
theorem Of_L1_c {sid : Nat} {S : List StateD} {cs : List (List Value)} {en0 st0 : Int → Bool} {e : Env} (hr : rightD g = true) (hBl : B.length ≤ 256) (hey : eid ≠ yid) (hen : eid ≠ nid) (hek : eid ≠ kid) (hyn : yid ≠ nid) (hyk : yid ≠ kid)
    (hP : SlR ro hb bv 9 (RPos ro hb) g.p) (ha : ZI ro hb av g.first) (hfv : SlR ro hb fv 1 RU8 B) 
    {h : T Obj} {nx : Nat} {Q : KE} (hf : Fr h nx) (hrid : h.get rid = some (.cells autZ.toArray y_api_Auto)) (hB : Bd h g bid nid kid eid yid sid av bv fv c n cv S cs) (hE : BMap h eid en0) (hY : BMap h yid st0) (hbs : Sub hb (del h [rid, bid, kid, eid, yid, sid]))
    (hFz : Fz ro h [rid, bid, kid, eid, yid, sid] 0 S cs) (hOk : SOk g S) (e2 : e 2 = ptr rid) (e4 : e 4 = ptr bid) (e8 : e 8 = .int .i64 0)
    (hQe : (allZ g B 256 0 S).1 ≠ 0 → ∀ e' h' nx', nx ≤ nx' → Fr h' nx' → Sub hb h' → h'.get rid = some (.cells autZ.toArray y_api_Auto) → e' 2 = ptr rid → e' 3 = .int .i64 (allZ g B 256 0 S).1 → Q .ret e' h' nx')
    (hQ : (allZ g B 256 0 S).1 = 0 → ∀ e' h' nx' sid' cs', nx ≤ nx' → Fr h' nx' → h'.get rid = some (.cells autZ.toArray y_api_Auto) → Sub hb (del h' [rid, bid, kid, eid, yid, sid']) → Bd h' g bid nid kid eid yid sid' av bv fv c n cv (allZ g B 256 0 S).2 cs' → (∀ (i : Nat) x t, cs'[i]? = some x → (allZ g B 256 0 S).2[i]? = some t → RState ro (del h' [rid, bid, kid, eid, yid, sid']) x t) → SOk g (allZ g B 256 0 S).2 → e' 2 = ptr rid → e' 4 = ptr bid → Q (.exit 2) e' h' nx') :
    loopP (auto_Of_L1 ro) e h nx Q := by
  generalize hZ : allZ g B 256 0 S = Z at hQe hQ
  refine loopP_rule (fun j e h' nx' => ∃ (k sid' : Nat) (S' : List StateD) (cs' : List (List Value)) (en st : Int → Bool), k + j = 256 ∧ nx ≤ nx' ∧ Fr h' nx' ∧ h'.get rid = some (.cells autZ.toArray y_api_Auto) ∧ Sub hb (del h' [rid, bid, kid, eid, yid, sid']) ∧ Bd h' g bid nid kid eid yid sid' av bv fv c n cv S' cs' ∧
    Fz ro h' [rid, bid, kid, eid, yid, sid'] k S' cs' ∧ SOk g S' ∧ BMap h' eid en ∧ BMap h' yid st ∧ e 2 = ptr rid ∧ e 4 = ptr bid ∧ e 8 = .int .i64 (k : Int) ∧ allZ g B j k S' = Z) ?_ (n := 256)
    ⟨0, sid, S, cs, en0, st0, by omega, by omega, hf, hrid, hbs, hB, hFz, hOk, hE, hY, e2, e4, e8, hZ⟩
  rintro j e' h' nx' ⟨k, sid', S', cs', en, st, hj, hnx, hf', hri', hbs', hB', hFz', hOk', hE', hY', f2, f4, f8, hrz⟩ Q' hq hx
  unfold auto_Of_L1
  rw [f4, f8]
  have hbk := hB'.blk
  have b262 := bldL_262 (av := av) (bv := bv) (nv := .map (some nid)) (fv := fv) (n := n) (cv := cv) (sv := .slice (some (own sid' 4)) cs'.length cs'.length) (kv := .map (some kid)) (ev := .map (some eid)) (yv := .map (some yid)) hB'.hc
  have hlen := hB'.len
  have hfew := hB'.few
  (repeat (first | refine bindP_mk (by simp (disch := first | omega | exact Int.natCast_nonneg _ | assumption) only [BB, B2, ↓reduceIte, Nat.reduceLeDiff, Nat.reduceAdd, CC, nilCk_at, hbk, b262] <;> rfl) ?_ | refine newP_mk ?_ | refine optP_mk ?_ | with_reducible first | refine condP_t ?_ | refine condP_f ?_ | refine ifP_tt' ?_ | refine ifP_ff' ?_ | refine ifP_tf' ?_ | refine ifP_ft' ?_ | refine ifP_u' ?_ | refine optP_mk0 ?_))
  refine lss_s (fun hi => ?_) (fun hi => ?_)
  · obtain ⟨j, rfl⟩ : ∃ j', j = j' + 1 := ⟨j - 1, by omega⟩
    have hkl : k < cs'.length := by omega
    rw [allZ_succ, if_pos (by omega)] at hrz
    obtain ⟨x, hxk⟩ : ∃ x, cs'[k]? = some x := ⟨_, List.getElem?_eq_getElem hkl⟩
    obtain ⟨s, hsk⟩ : ∃ s, S'[k]? = some s := ⟨_, List.getElem?_eq_getElem (by omega)⟩
    obtain ⟨⟨lv, rv, rfl⟩, ht1, ht2⟩ := hFz'.tail k x s (Nat.le_refl _) hxk hsk
    obtain ⟨lv2, rv2, uv2, nv2, hx1, hx2, hx3, hx4, hx5, hx6⟩ := hFz'.all k _ s hxk hsk
    simp only [List.cons.injEq, and_true] at hx1
    obtain ⟨rfl, rfl, rfl, rfl⟩ := hx1
    have hix := ixSl_own' (id := sid') (z := 4) (cap := cs'.length) hkl
    have hrow := hB'.row
    have q1 := flat4_get (j := 1) hB'.z4 hxk (by omega)
    have q1 : cs'.flatten[k * 4 + 1]? = some rv := q1
    have hrn := (hx3.sub (del_sub _ _)).len
    have hSR : StR ro h' (rid :: XL bid kid eid yid sid' nilS nilS) k nilS nilS lv rv S' cs' s [] := ⟨fun i x t _ hx ht => by rw [XL5]; exact hFz'.all i x t hx ht, fun i x t hi hx ht => hFz'.tail i x t (by omega) hx ht, hxk, hsk, by rw [XL5]; exact hx2, by rw [XL5]; exact hx3, by rw [ht1]; exact OwnT.nil, OwnT.nil, by rw [ht2]; rfl, fun i v row hv => by simp at hv⟩
    have hgd : S'.getD k noS = s := by rw [List.getD_eq_getElem?_getD, hsk]; rfl
    rw [hgd] at hrz
    have hcl := codes_le s.r.length
    (repeat (first | refine bindP_mk (by simp (disch := first | omega | exact Int.natCast_nonneg _ | assumption) only [BB, B2, ↓reduceIte, Nat.reduceLeDiff, Nat.reduceAdd, CC, nilCk_at, hbk, b262, hix, hrow, q1, hrn] <;> rfl) ?_ | refine newP_mk ?_ | refine optP_mk ?_ | with_reducible first | refine condP_t ?_ | refine condP_f ?_ | refine ifP_tt' ?_ | refine ifP_ff' ?_ | refine ifP_tf' ?_ | refine ifP_ft' ?_ | refine ifP_u' ?_ | refine optP_mk0 ?_))
    refine auto_Codes_c fun n5 hn5 => ?_
    have hcn : codesD (s.r.length : Int) = (((codesD (s.r.length : Int)).toNat : Nat) : Int) := by omega
    refine Of_L2_c (N := (codesD (s.r.length : Int)).toNat) (k := k) hr hBl (by omega) hey hen hek hyn hyk hP ha hfv (hf'.mono (show nx' ≤ n5 + 1 by omega)) hri' hB' hE' hY' (by rw [XL5]; exact hbs') hSR hOk' (by rw [ht1]; exact Nat.zero_le _) (Nat.zero_le _) ?_ ?_ ?_ ?_ ?_ ?_ ?_
    · exact f2
    · exact f4
    · exact f8
    · show Value.int _ _ = _
      rw [← hcn]
    · rfl
    · intro hz e3 h3 n3 p1 p2 p3 pri p4 p5
      rw [if_neg hz] at hrz
      have hz1 : Z.1 = (codesZ g B k (codesD (s.r.length : Int)).toNat 0 S').1 := by rw [← hrz]
      refine exP_r (hx _ _ _ _ (fun e => by cases e) ?_)
      exact hQe (by rw [hz1]; exact hz) _ _ _ (by omega) p2 p3 pri p4 (by rw [hz1]; exact p5)
    · intro hz e3 h3 n3 sid3 cs3 uv3 wv3 ws3 s3 en3 st3 p1 p2 pri p3 p4 p5 p6 p7 p8 p9 p10 p11
      rw [if_pos hz] at hrz
      refine exP_e (beqP_t ?_)
      unfold auto_Of_j3
      rw [p11]
      (repeat (first | refine bindP_mk (by simp (disch := first | omega | exact Int.natCast_nonneg _ | assumption) only [BB, B2, ↓reduceIte, Nat.reduceLeDiff, Nat.reduceAdd, CC] <;> rfl) ?_ | refine newP_mk ?_ | refine optP_mk ?_ | with_reducible first | refine condP_t ?_ | refine condP_f ?_ | refine ifP_tt' ?_ | refine ifP_ff' ?_ | refine ifP_tf' ?_ | refine ifP_ft' ?_ | refine ifP_u' ?_ | refine optP_mk0 ?_))
      refine hq j _ _ _ _ (by omega) ⟨k + 1, sid3, _, cs3, en3, st3, by omega, by omega, p2.mono (by omega), pri, p3.trans (del_mono fun q hq => ?_), p4, p5.fz pri p4 p7 p8 p6, p6, p7, p8, p9, p10, rfl, hrz⟩ (Sub.refl _)
      rcases List.mem_cons.1 hq with hq | hq
      · exact List.mem_cons.2 (.inl hq)
      · unfold XL; exact List.mem_cons_of_mem _ (List.mem_append.2 (.inl hq))
  · have hrz : ((0 : Int), S') = Z := by
      cases j with
      | zero => exact hrz
      | succ j => rw [allZ_succ, if_neg (by omega)] at hrz; exact hrz
    subst hrz
    refine condP_f (hx _ _ _ _ (fun e => by cases e) ?_)
    exact hQ rfl _ _ _ sid' cs' (by omega) (hf'.mono (by omega)) hri' hbs' hB' hFz'.all hOk' f2 f4
end
end V
end Go.Proofs.Ytmmdcdjkmakgpaa
