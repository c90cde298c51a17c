/- What code (of auto's builder) hands back.
   No condition. -/
import Derived.Test.YtmmdcdjkmakgpaaBI
set_option linter.unusedVariables false
set_option linter.unusedSimpArgs false
namespace Go.Proofs.Ytmmdcdjkmakgpaa
namespace V
open PA
attribute [local irreducible] bindP ifP condP newP optP exP beqP
theorem del_mono {h : T Obj} {l l' : List Nat} (hl : ∀ k, k ∈ l → k ∈ l') : Sub (del h l') (del h l) := fun k o hk => by
  rw [del_get] at hk
  split at hk
  · cases hk
  · rename_i hn
    exact del_some hk fun h => hn (hl k h)
theorem Keep.delS {ids l : List Nat} {h h' : T Obj} (hk : Keep ids h h') (hl : ∀ k, k ∈ ids → k ∈ l) : Sub (V.del h l) h' := fun k o hg => by
  rw [del_get] at hg
  split at hg
  · cases hg
  · rename_i hn; exact hk k o hg fun h => hn (hl k h)
theorem digs_fst (g : GlD) : ∀ (l : List Int) (c : Int), (digs g l c).map (·.1) = l
  | [], c => rfl
  | p :: r, c => by
    rw [digs_cons]
    split <;> simp [digs_fst g r]
theorem digs_snd (g : GlD) : ∀ (l : List Int) (c : Int), 0 ≤ c → ∀ d ∈ digs g l c, d.2 = -1 ∨ d.2 = 0 ∨ d.2 = 1 ∨ d.2 = 2
  | [], c, _, d, hd => by cases hd
  | p :: r, c, hc, d, hd => by
    rw [digs_cons] at hd
    split at hd
    · rcases List.mem_cons.1 hd with rfl | hd
      · show c % 3 = _ ∨ c % 3 = _ ∨ c % 3 = _ ∨ c % 3 = _
        omega
      · exact digs_snd g r (c / 3) (by omega) d hd
    · rcases List.mem_cons.1 hd with rfl | hd
      · exact .inl rfl
      · exact digs_snd g r c hc d hd
theorem ruleZ_cons (g : GlD) (best : Int) (d : Int × Int) (r : List (Int × Int)) : ruleZ g best (d :: r) = ruleZ g (if decide (d.2 ≠ 0) && ((g.at d.1).last && (decide (best < 0) || decide ((g.at d.1).rule < best))) then (g.at d.1).rule else best) r := rfl
/-- Entered, by the first ones of a row. -/
def enD (g : GlD) (D : List (Int × Int)) (q : Int) : Bool := D.any fun d => decide (d.2 ≠ 0) && (g.at d.1).next.contains q
theorem enD_snoc (g : GlD) (D : List (Int × Int)) (d : Int × Int) (q : Int) : enD g (D ++ [d]) q = (enD g D q || (decide (d.2 ≠ 0) && (g.at d.1).next.contains q)) := by simp [enD]
theorem staysZ_snoc (D : List (Int × Int)) (d : Int × Int) (q : Int) : staysZ (D ++ [d]) q = (staysZ D q || (decide (d.1 = q) && (decide (d.2 = 0) || decide (d.2 = 2)))) := by simp [staysZ]
theorem staysZ_no {D : List (Int × Int)} {q : Int} (h : ∀ d ∈ D, d.1 ≠ q) : staysZ D q = false := by
  unfold staysZ
  rw [List.any_eq_false]
  intro d hd
  simp [h d hd]
theorem right_parts {g : GlD} (h : rightD g = true) : g.p.length ≤ 512 ∧ rz (-1) g.p.length g.first = true ∧ ∀ p ∈ g.p, mayD g.p.length p = true := by
  unfold rightD at h
  simp only [Bool.and_eq_true, decide_eq_true_eq, List.all_eq_true] at h
  exact ⟨h.1, h.2.1, h.2.2⟩
theorem may_parts {m : Int} {p : PosD} (h : mayD m p = true) : 1 ≤ p.lo ∧ p.lo ≤ p.hi ∧ p.hi ≤ 4096 ∧ 0 ≤ p.rule ∧ p.rule < 512 ∧ rz (-1) m p.next = true := by
  unfold mayD at h
  simp only [Bool.and_eq_true, decide_eq_true_eq] at h
  exact ⟨h.2.1, h.2.2.1, h.2.2.2.1, h.2.2.2.2.1, h.2.2.2.2.2.1, h.2.2.2.2.2.2⟩
theorem rz_lenN : ∀ {l : List Int} {a m : Int}, rz a m l = true → a < m → (l.length : Int) + a + 1 ≤ m
  | [], a, m, h, ha => by simp; omega
  | x :: r, a, m, h, ha => by
    simp only [rz, Bool.and_eq_true, decide_eq_true_eq] at h
    have := rz_lenN h.2.2 h.2.1
    rw [List.length_cons]; omega
theorem rz_pairs : ∀ {l : List Int} {a m : Int}, rz a m l = true → l.Pairwise (· < ·)
  | [], _, _, _ => List.Pairwise.nil
  | x :: r, a, m, h => by
    simp only [rz, Bool.and_eq_true, decide_eq_true_eq] at h
    exact List.Pairwise.cons (fun y hy => (rz_mem h.2.2 y hy).1) (rz_pairs h.2.2)
theorem contains_take {l : List Int} {k : Nat} (hk : k < l.length) (q : Int) : (l.take (k + 1)).contains q = ((l.take k).contains q || decide (q = l[k])) := by
  rw [List.take_succ_eq_append_getElem hk]
  simp only [List.contains_eq_mem, List.mem_append, List.mem_singleton, Bool.decide_or]
section
variable {ro : Ro} {g : GlD} {bid nid kid eid yid sid k did sl : Nat} {av bv fv cv lv rv uv wv : Value} {c : List Nat} {n : Int} {S : List StateD} {cs : List (List Value)} {D : List (Int × Int)}
set_option maxRecDepth 8000 in
set_option maxHeartbeats 2000000 in
/-- The places of a state, one behind the other. -/
theorem code_L2_c (hr : rightD g = true) (hz : rz (-1) g.p.length (D.map (·.1)) = true) (hd : ∀ d ∈ D, d.2 = -1 ∨ d.2 = 0 ∨ d.2 = 1 ∨ d.2 = 2) (hey : eid ≠ yid) (hen : eid ≠ nid) (hek : eid ≠ kid) (hyn : yid ≠ nid) (hyk : yid ≠ kid) {e : Env} {en0 : Int → Bool} {f : Int → Option Value}
    {h : T Obj} {nx : Nat} {K : KV} (hf : Fr h nx) (hB : Bd h g bid nid kid eid yid sid av bv fv c n cv S cs) (hE : BMap h eid en0) (hY : BMap h yid fun _ => false) (hD : MapG injI h did f) (hDo : DOk f D) (hde : did ≠ eid) (hdy : did ≠ yid)
    (hP : SlR ro (del h [eid, yid]) bv 9 (RPos ro (del h [eid, yid])) g.p) (hl : ZI ro (del h [eid, yid]) lv (D.map (·.1)))
    (e0 : e 0 = ptr bid) (e1 : e 1 = .int .i64 (k : Int)) (e8 : e 8 = .map (some did)) (e9 : e 9 = .int .i64 (-1)) (e63 : e 63 = lv) (e64 : e 64 = .int .i64 D.length) (e65 : e 65 = .int .i64 0) {Q : KE}
    (hQ : ∀ e' h' nx' en st, nx ≤ nx' → Fr h' nx' → Keep [eid, yid] h h' → BMap h' eid en → BMap h' yid st → (∀ q, en q = (en0 q || enD g D q)) → (∀ q, st q = staysZ D q) → e' 0 = ptr bid → e' 1 = .int .i64 (k : Int) → e' 9 = .int .i64 (ruleZ g (-1) D) → Q (.exit 2) e' h' nx') :
    loopP (auto_builder_code_L2 ro) e h nx Q := by
  obtain ⟨hgl, hfr, hmay⟩ := right_parts hr
  have hDl : D.length ≤ 512 := by
    have := rz_lenN hz (by omega)
    simp at this; omega
  generalize hrf : ruleZ g (-1) D = rf at hQ
  have hbid : eid ≠ bid ∧ yid ≠ bid ∧ eid ≠ sid ∧ yid ≠ sid := by
    obtain ⟨es1, c1, o1⟩ := hE.obj
    obtain ⟨es2, c2, o2⟩ := hY.obj
    have h1 := hB.blk
    have h2 := hB.row
    refine ⟨?_, ?_, ?_, ?_⟩ <;> rintro rfl
    · rw [o1] at h1; cases h1
    · rw [o2] at h1; cases h1
    · rw [o1] at h2; cases h2
    · rw [o2] at h2; cases h2
  refine loopP_rule (fun j e h' nx' => ∃ (i : Nat) (en st : Int → Bool) (ru : Int), i + j = D.length ∧ nx ≤ nx' ∧ Fr h' nx' ∧ Keep [eid, yid] h h' ∧ BMap h' eid en ∧ BMap h' yid st ∧ (∀ q, en q = (en0 q || enD g (D.take i) q)) ∧ (∀ q, st q = staysZ (D.take i) q) ∧
    e 0 = ptr bid ∧ e 1 = .int .i64 (k : Int) ∧ e 8 = .map (some did) ∧ e 9 = .int .i64 ru ∧ e 63 = lv ∧ e 64 = .int .i64 D.length ∧ e 65 = .int .i64 i ∧ ruleZ g ru (D.drop i) = rf) ?_ (n := D.length)
    ⟨0, en0, fun _ => false, -1, by omega, by omega, hf, (Sub.refl h).keepL, hE, hY, fun q => by simp [enD], fun q => by simp [staysZ], e0, e1, e8, e9, e63, e64, e65, hrf⟩
  rintro j e h' nx' ⟨i, en, st, ru, hj, hnx, hf', hkp, hE', hY', hen', hst', f0, f1, f8, f9, f63, f64, f65, hru⟩ Q' hq hx
  have hsd : Sub (del h [eid, yid]) h' := hkp.delS fun _ h => h
  have hB' : Bd h' g bid nid kid eid yid sid av bv fv c n cv S cs := hB.keepN fun q o hq9 hd9 => hkp q o hq9 (by
    simp only [List.mem_cons, List.not_mem_nil, or_false, not_or]
    rcases hd9 with rfl | rfl | rfl | rfl
    · exact ⟨hbid.1.symm, hbid.2.1.symm⟩
    · exact ⟨hen.symm, hyn.symm⟩
    · exact ⟨hek.symm, hyk.symm⟩
    · exact ⟨hbid.2.2.1.symm, hbid.2.2.2.symm⟩)
  have hD' : MapG injI h' did f := by
    obtain ⟨es, c9, ps, a1, a2, a3⟩ := hD
    exact ⟨es, c9, ps, hkp _ _ a1 (by simp [hde, hdy]), a2, a3⟩
  have hl' := hl.sub hsd
  have hP' := hP.sub hsd (RPos.sub hsd)
  have hbk := hB'.blk
  have b1 := bldL_1 (av := av) (bv := bv) (nv := .map (some nid)) (fv := fv) (c := c) (n := n) (cv := cv) (sv := .slice (some (own sid 4)) cs.length cs.length) (kv := .map (some kid)) (ev := .map (some eid)) (yv := .map (some yid))
  have b264 := bldL_264 (av := av) (bv := bv) (nv := .map (some nid)) (fv := fv) (n := n) (cv := cv) (sv := .slice (some (own sid 4)) cs.length cs.length) (kv := .map (some kid)) (ev := .map (some eid)) (yv := .map (some yid)) hB.hc
  have b265 := bldL_265 (av := av) (bv := bv) (nv := .map (some nid)) (fv := fv) (n := n) (cv := cv) (sv := .slice (some (own sid 4)) cs.length cs.length) (kv := .map (some kid)) (ev := .map (some eid)) (yv := .map (some yid)) hB.hc
  unfold auto_builder_code_L2
  rw [f0, f8, f63, f64, f65]
  refine lss_s (fun hi => ?_) (fun hi => ?_)
  · have hi : i < D.length := by omega
    have hil : i < (D.map (·.1)).length := by simpa using hi
    have hld := hl'.load hil
    have hxm := rz_mem hz _ (List.getElem_mem hil)
    have hdi := hd _ (List.getElem_mem hi)
    have hfo := hDo _ (List.getElem_mem hi)
    have hgm : (D.map (·.1))[i] = (D[i]).1 := by simp
    rw [hgm] at hld hxm
    rw [drop_cons hi, ruleZ_cons] at hru
    have hex : ∀ d ∈ D.take i, d.1 ≠ (D[i]).1 := by
      intro d hd9 he
      obtain ⟨m, hm⟩ := List.mem_iff_getElem?.1 hd9
      rw [List.getElem?_take] at hm
      split at hm
      · rename_i hmi
        have hml := (List.getElem?_eq_some_iff.1 hm).1
        have hpw := List.pairwise_iff_getElem.1 (rz_pairs hz) m i (by simpa using hml) hil hmi
        simp only [List.getElem_map] at hpw
        have : D[m] = d := by
          rw [List.getElem?_eq_getElem hml] at hm
          exact Option.some.inj hm
        rw [this, he] at hpw
        omega
      · cases hm
    have hst0 : staysZ (D.take i) (D[i]).1 = false := staysZ_no hex
    have hen1 : ∀ q, enD g (D.take (i + 1)) q = (enD g (D.take i) q || (decide ((D[i]).2 ≠ 0) && (g.at (D[i]).1).next.contains q)) := fun q => by rw [List.take_succ_eq_append_getElem hi, enD_snoc]
    have hst1 : ∀ q, staysZ (D.take (i + 1)) q = (staysZ (D.take i) q || (decide ((D[i]).1 = q) && (decide ((D[i]).2 = 0) || decide ((D[i]).2 = 2)))) := fun q => by rw [List.take_succ_eq_append_getElem hi, staysZ_snoc]
    generalize D[i] = dd at hld hxm hdi hfo hru hst0 hen1 hst1
    obtain ⟨x, d⟩ := dd
    dsimp only at hld hxm hdi hfo hru hst0 hen1 hst1
    have hxl : x.toNat < g.p.length := by omega
    have hpx : g.at x = g.p[x.toNat] := by
      unfold GlD.at
      rw [List.getD_eq_getElem?_getD, List.getElem?_eq_getElem hxl]; rfl
    obtain ⟨y, ⟨nv, rfl, y1, y2⟩, x2, x3, x4, x5⟩ := hP'.at hxl
    rw [← hpx] at x2 x3 x5 y1 y2
    have hmx := may_parts (hmay _ (List.getElem_mem hxl))
    rw [← hpx] at hmx
    have hlk := look_iu hD' x
    rw [hfo] at hlk
    refine condP_t (bindP_mk (hl'.ix _ hil) (bindP_mk hld ?_))
    (repeat (first | refine bindP_mk (by simp (disch := first | omega | exact Int.natCast_nonneg _ | assumption) only [BB, B2, ↓reduceIte, Nat.reduceLeDiff, Nat.reduceAdd, CC, nilCk_at, hbk, b1] <;> rfl) ?_ | refine newP_mk ?_ | refine optP_mk ?_ | with_reducible first | refine condP_t ?_ | refine condP_f ?_ | refine ifP_tt' ?_ | refine ifP_ff' ?_ | refine ifP_tf' ?_ | refine ifP_ft' ?_ | refine ifP_u' ?_ | refine optP_mk0 ?_))
    refine bindP_mk (hP'.ixI _ (by omega) (by omega)) (bindP_mk x3 ?_)
    refine local_mk zer_PosZ rfl (x := posL (g.at x) nv) rfl rfl (posL_ok y1.ok) hf' (show nx' ≤ nx' + 12 by omega) fun h3 hs3 hf3 g3 _ => ?_
    have hlk3 := look_iu (hD'.sub hs3) x
    rw [hfo] at hlk3
    have hb3 := hs3 _ _ hbk
    have hn3 := y1.sub hs3
    have hnl := hn3.len
    have hE3 : BMap h3 eid en := by obtain ⟨f, q1, q2⟩ := hE'; exact ⟨f, q1.sub hs3, q2⟩
    have hY3 : BMap h3 yid st := by obtain ⟨f, q1, q2⟩ := hY'; exact ⟨f, q1.sub hs3, q2⟩
    have hk3 := hkp.trans hs3.keepL
    have hel := (hE3.obj)
    obtain ⟨_, _, hel⟩ := hel
    have hel := hf3.lt' hel
    obtain ⟨_, _, hyl⟩ := hY3.obj
    have hyl := hf3.lt' hyl
    have hel' : eid < nx' := by obtain ⟨_, _, q⟩ := hE'.obj; exact hf'.lt' q
    have hyl' : yid < nx' := by obtain ⟨_, _, q⟩ := hY'.obj; exact hf'.lt' q
    -- the end of a round
    have hj4 : ∀ (e : Env) (h4 : T Obj) (n4 : Nat) (en' st' : Int → Bool) (ru' : Int), nx' ≤ n4 → Fr h4 n4 → Keep [eid, yid] h h4 → BMap h4 eid en' → BMap h4 yid st' → (∀ q, en' q = (en0 q || enD g (D.take (i + 1)) q)) → (∀ q, st' q = staysZ (D.take (i + 1)) q) →
        e 0 = ptr bid → e 1 = .int .i64 (k : Int) → e 8 = .map (some did) → e 9 = .int .i64 ru' → e 63 = lv → e 64 = .int .i64 D.length → e 65 = .int .i64 i → ruleZ g ru' (D.drop (i + 1)) = rf → auto_builder_code_j4 ro Q' e h4 n4 := by
      intro e h4 n4 en' st' ru' hn4 s1 s2 s3 s4 s5 s6 f0 f1 f8 f9 f63 f64 f65 s7
      unfold auto_builder_code_j4
      rw [f65]
      (repeat (first | refine bindP_mk (by simp (disch := first | omega | exact Int.natCast_nonneg _ | assumption) only [BB, B2, ↓reduceIte, Nat.reduceLeDiff, Nat.reduceAdd, CC] <;> rfl) ?_ | refine newP_mk ?_ | refine optP_mk ?_ | with_reducible first | refine condP_t ?_ | refine condP_f ?_ | refine ifP_tt' ?_ | refine ifP_ff' ?_ | refine ifP_tf' ?_ | refine ifP_ft' ?_ | refine ifP_u' ?_ | refine optP_mk0 ?_))
      exact hq (j - 1) _ _ _ _ (by omega) ⟨i + 1, en', st', ru', by omega, by omega, s1.mono (by omega), s2, s3, s4, s5, s6, f0, f1, f8, f9, f63, f64, rfl, s7⟩ (Sub.refl _)
    -- the places behind, and the rule
    have hL3 : ∀ (e : Env) (h4 : T Obj) (n4 : Nat) (st' : Int → Bool), nx' + 13 ≤ n4 → Fr h4 n4 → Keep [eid, yid] h h4 → Keep [eid, yid] h3 h4 → BMap h4 eid en → BMap h4 yid st' → (∀ q, st' q = staysZ (D.take (i + 1)) q) → d ≠ 0 →
        e 0 = ptr bid → e 1 = .int .i64 (k : Int) → e 8 = .map (some did) → e 9 = .int .i64 ru → e 14 = ptr (nx' + 12) → e 63 = lv → e 64 = .int .i64 D.length → e 65 = .int .i64 i → e 99 = nv → e 100 = .int .i64 (g.at x).next.length → e 101 = .int .i64 0 →
        loopP (auto_builder_code_L3 ro) e h4 n4 fun x183 e180 h181 n182 => exP x183 (auto_builder_code_j5 ro Q' e180 h181 n182) (fun i184 => beqP (Nat.beq i184 4) (auto_builder_code_j5 ro Q' e180 h181 n182) (beqP (Nat.beq i184 3) (auto_builder_code_j4 ro Q' e180 h181 n182) (Q' (.exit i184) e180 h181 n182))) (Q' .ret e180 h181 n182) := by
      intro e h4 n4 st' hn4 s1 s2 s2' s3 s4 s5 hd0 f0 f1 f8 f9 f14 f63 f64 f65 f99 f100 f101
      have hnxt : (g.at x).next.length ≤ 512 := by have := rz_lenN hmx.2.2.2.2.2 (by omega); omega
      refine loopP_rule (fun j2 e h5 n5 => ∃ (m : Nat) (en' : Int → Bool), m + j2 = (g.at x).next.length ∧ n4 ≤ n5 ∧ Fr h5 n5 ∧ Keep [eid, yid] h4 h5 ∧ BMap h5 eid en' ∧ BMap h5 yid st' ∧ (∀ q, en' q = (en q || ((g.at x).next.take m).contains q)) ∧
        e 0 = ptr bid ∧ e 1 = .int .i64 (k : Int) ∧ e 8 = .map (some did) ∧ e 9 = .int .i64 ru ∧ e 14 = ptr (nx' + 12) ∧ e 63 = lv ∧ e 64 = .int .i64 D.length ∧ e 65 = .int .i64 i ∧ e 99 = nv ∧ e 100 = .int .i64 (g.at x).next.length ∧ e 101 = .int .i64 m) ?_ (n := (g.at x).next.length)
        ⟨0, en, by omega, by omega, s1, (Sub.refl h4).keepL, s3, s4, fun q => by simp, f0, f1, f8, f9, f14, f63, f64, f65, f99, f100, f101⟩
      rintro j2 e h5 n5 ⟨m, en', hj2, hn5, hf5, hk5, hE5, hY5, hen5, f0, f1, f8, f9, f14, f63, f64, f65, f99, f100, f101⟩ Q2 hq2 hx2
      have hk35 : Keep [eid, yid] h3 h5 := s2'.trans hk5
      have hn5' : ZI ro h5 nv (g.at x).next := by
        have hsub9 : Sub (del h [eid, yid]) h5 := (s2.trans hk5).delS fun _ h => h
        obtain ⟨y', ⟨nv', q1, q2, q3⟩, q4, q5, q6, q7⟩ := (hP.sub hsub9 (RPos.sub hsub9)).at hxl
        rw [← hpx] at q1 q2 q3
        have : nv' = nv := by
          obtain ⟨y7, z4, z5, z6, z7⟩ := hP.at hxl
          have a1 := loadA_sub hsd z6
          have a2 := loadA_sub hsub9 z6
          rw [x3] at a1
          rw [q5, q1] at a2
          have a3 := Option.some.inj (a2.trans (Eq.symm a1))
          simp only [Value.agg.injEq] at a3
          have a4 := congrArg Array.toList a3
          simp [posL, setL] at a4
          exact a4
        rw [← this]; exact q2
      have hb5 : h5.get bid = _ := hk35 _ _ hb3 (by simp [hbid.1.symm, hbid.2.1.symm])
      unfold auto_builder_code_L3
      rw [f0, f99, f100, f101]
      refine lss_s (fun hm => ?_) (fun hm => ?_)
      · have hm : m < (g.at x).next.length := by omega
        have hld5 := hn5'.load hm
        have hct := contains_take hm
        generalize (g.at x).next[m] = q0 at hld5 hct
        refine condP_t (bindP_mk (hn5'.ix _ hm) (bindP_mk hld5 ?_))
        obtain ⟨es, ec, p1, p2⟩ := hE5.put q0 true
        (repeat (first | refine bindP_mk (by simp (disch := first | omega | exact Int.natCast_nonneg _ | assumption) only [BB, B2, ↓reduceIte, Nat.reduceLeDiff, Nat.reduceAdd, CC, nilCk_at, hb5, b264, p1] <;> rfl) ?_ | refine newP_mk ?_ | refine optP_mk ?_ | with_reducible first | refine condP_t ?_ | refine condP_f ?_ | refine ifP_tt' ?_ | refine ifP_ff' ?_ | refine ifP_tf' ?_ | refine ifP_ft' ?_ | refine ifP_u' ?_ | refine optP_mk0 ?_))
        refine hq2 (j2 - 1) _ _ _ _ (by omega) ⟨m + 1, _, by omega, by omega, (hf5.mono (show n5 ≤ n5 + 12 by omega)).upd (Nat.le_refl _) (by omega), hk5.upd (by simp), p2 _ (by rw [T.get_upd_same]), hY5.keep (by rw [T.get_upd_ne _ _ hey.symm]), fun q => ?_, f0, f1, f8, f9, f14, f63, f64, f65, f99, f100, rfl⟩ (Sub.refl _)
        show (if q = q0 then true else en' q) = _
        rw [hct, hen5]
        by_cases hqq : q = q0
        · rw [if_pos hqq, decide_eq_true hqq]; simp
        · rw [if_neg hqq, decide_eq_false hqq, Bool.or_false]
      · refine condP_f ?_
        refine hx2 _ _ _ _ (fun e => by cases e) (exP_e (beqP_t ?_))
        rw [List.take_of_length_le (by omega)] at hen5
        have hen6 : ∀ q, en' q = (en0 q || enD g (D.take (i + 1)) q) := fun q => by
          rw [hen5, hen', hen1, decide_eq_true hd0, Bool.true_and, Bool.or_assoc]
        have hk6 : Keep [eid, yid] h h5 := s2.trans hk5
        have g5 : h5.get (nx' + 12) = some (.cells (posL (g.at x) nv).toArray y_api_Pos) := hk35 _ _ g3 (by simp; omega)
        have pl7 : (posL (g.at x) nv)[7]? = some (.bool (g.at x).last) := rfl
        have pl6 : (posL (g.at x) nv)[6]? = some (.int .i64 (g.at x).rule) := rfl
        have fin : ∀ (e : Env) n6, n5 ≤ n6 → e 0 = ptr bid → e 1 = .int .i64 (k : Int) → e 8 = .map (some did) → e 9 = .int .i64 ru → e 14 = ptr (nx' + 12) → e 63 = lv → e 64 = .int .i64 D.length → e 65 = .int .i64 i → auto_builder_code_j5 ro Q' e h5 n6 := by
          intro e n6 hn6 f0 f1 f8 f9 f14 f63 f64 f65
          unfold auto_builder_code_j5
          rw [f9, f14]
          (repeat (first | refine bindP_mk (by simp (disch := first | omega | exact Int.natCast_nonneg _ | assumption) only [BB, B2, ↓reduceIte, Nat.reduceLeDiff, Nat.reduceAdd, CC, g5, pl7] <;> rfl) ?_ | refine newP_mk ?_ | refine optP_mk ?_ | with_reducible first | refine condP_t ?_ | refine condP_f ?_ | refine ifP_tt' ?_ | refine ifP_ff' ?_ | refine ifP_tf' ?_ | refine ifP_ft' ?_ | refine ifP_u' ?_ | refine optP_mk0 ?_))
          rw [decide_eq_true hd0, Bool.true_and] at hru
          cases hla : (g.at x).last with
          | false =>
            rw [hla, Bool.false_and, if_neg (by decide)] at hru
            (repeat (first | refine bindP_mk (by simp (disch := first | omega | exact Int.natCast_nonneg _ | assumption) only [BB, B2, ↓reduceIte, Nat.reduceLeDiff, Nat.reduceAdd, CC] <;> rfl) ?_ | refine newP_mk ?_ | refine optP_mk ?_ | with_reducible first | refine condP_t ?_ | refine condP_f ?_ | refine ifP_tt' ?_ | refine ifP_ff' ?_ | refine ifP_tf' ?_ | refine ifP_ft' ?_ | refine ifP_u' ?_ | refine optP_mk0 ?_))
            exact hj4 _ _ _ en' st' ru (by omega) (hf5.mono (by omega)) hk6 hE5 hY5 hen6 s5 f0 f1 f8 f9 f63 f64 f65 hru
          | true =>
            rw [hla, Bool.true_and] at hru
            (repeat (first | refine bindP_mk (by simp (disch := first | omega | exact Int.natCast_nonneg _ | assumption) only [BB, B2, ↓reduceIte, Nat.reduceLeDiff, Nat.reduceAdd, CC] <;> rfl) ?_ | refine newP_mk ?_ | refine optP_mk ?_ | with_reducible first | refine condP_t ?_ | refine condP_f ?_ | refine ifP_tt' ?_ | refine ifP_ff' ?_ | refine ifP_tf' ?_ | refine ifP_ft' ?_ | refine ifP_u' ?_ | refine optP_mk0 ?_))
            refine lss_s (fun v1 => ?_) (fun v1 => ?_)
            · rw [decide_eq_true v1, Bool.true_or, if_pos rfl] at hru
              (repeat (first | refine bindP_mk (by simp (disch := first | omega | exact Int.natCast_nonneg _ | assumption) only [BB, B2, ↓reduceIte, Nat.reduceLeDiff, Nat.reduceAdd, CC, g5, pl6] <;> rfl) ?_ | refine newP_mk ?_ | refine optP_mk ?_ | with_reducible first | refine condP_t ?_ | refine condP_f ?_ | refine ifP_tt' ?_ | refine ifP_ff' ?_ | refine ifP_tf' ?_ | refine ifP_ft' ?_ | refine ifP_u' ?_ | refine optP_mk0 ?_))
              exact hj4 _ _ _ en' st' (g.at x).rule (by omega) (hf5.mono (by omega)) hk6 hE5 hY5 hen6 s5 f0 f1 f8 rfl f63 f64 f65 hru
            · rw [decide_eq_false (by omega), Bool.false_or] at hru
              (repeat (first | refine bindP_mk (by simp (disch := first | omega | exact Int.natCast_nonneg _ | assumption) only [BB, B2, ↓reduceIte, Nat.reduceLeDiff, Nat.reduceAdd, CC, g5, pl6] <;> rfl) ?_ | refine newP_mk ?_ | refine optP_mk ?_ | with_reducible first | refine condP_t ?_ | refine condP_f ?_ | refine ifP_tt' ?_ | refine ifP_ff' ?_ | refine ifP_tf' ?_ | refine ifP_ft' ?_ | refine ifP_u' ?_ | refine optP_mk0 ?_))
              refine lss_s (fun v2 => ?_) (fun v2 => ?_)
              · rw [decide_eq_true v2, if_pos rfl] at hru
                (repeat (first | refine bindP_mk (by simp (disch := first | omega | exact Int.natCast_nonneg _ | assumption) only [BB, B2, ↓reduceIte, Nat.reduceLeDiff, Nat.reduceAdd, CC, g5, pl6] <;> rfl) ?_ | refine newP_mk ?_ | refine optP_mk ?_ | with_reducible first | refine condP_t ?_ | refine condP_f ?_ | refine ifP_tt' ?_ | refine ifP_ff' ?_ | refine ifP_tf' ?_ | refine ifP_ft' ?_ | refine ifP_u' ?_ | refine optP_mk0 ?_))
                exact hj4 _ _ _ en' st' (g.at x).rule (by omega) (hf5.mono (by omega)) hk6 hE5 hY5 hen6 s5 f0 f1 f8 rfl f63 f64 f65 hru
              · rw [decide_eq_false (by omega), if_neg (by decide)] at hru
                (repeat (first | refine bindP_mk (by simp (disch := first | omega | exact Int.natCast_nonneg _ | assumption) only [BB, B2, ↓reduceIte, Nat.reduceLeDiff, Nat.reduceAdd, CC, g5, pl6] <;> rfl) ?_ | refine newP_mk ?_ | refine optP_mk ?_ | with_reducible first | refine condP_t ?_ | refine condP_f ?_ | refine ifP_tt' ?_ | refine ifP_ff' ?_ | refine ifP_tf' ?_ | refine ifP_ft' ?_ | refine ifP_u' ?_ | refine optP_mk0 ?_))
                exact hj4 _ _ _ en' st' ru (by omega) (hf5.mono (by omega)) hk6 hE5 hY5 hen6 s5 f0 f1 f8 f9 f63 f64 f65 hru
        exact fin _ _ (by omega) f0 f1 f8 f9 f14 f63 f64 f65
    have hnpl : (posL (g.at x) nv)[8]? = some nv := rfl
    (repeat (first | refine bindP_mk (by simp (disch := first | omega | exact Int.natCast_nonneg _ | assumption) only [BB, B2, ↓reduceIte, Nat.reduceLeDiff, Nat.reduceAdd, CC, hlk3, nth0, nth1, nilCk_at, hb3, b265] <;> rfl) ?_ | refine newP_mk ?_ | refine optP_mk ?_ | with_reducible first | refine condP_t ?_ | refine condP_f ?_ | refine ifP_tt' ?_ | refine ifP_ff' ?_ | refine ifP_tf' ?_ | refine ifP_ft' ?_ | refine ifP_u' ?_ | refine optP_mk0 ?_))
    -- what stays
    have hst2 : ∀ (b : Bool), b = (decide (d = 0) || decide (d = 2)) → ∀ q, (if q = x then b else st q) = staysZ (D.take (i + 1)) q := fun b hb q => by
      rw [hst1, ← hst']
      by_cases hq9 : q = x
      · subst hq9; rw [if_pos rfl, hst', hst0, Bool.false_or, decide_eq_true rfl, Bool.true_and, hb]
      · rw [if_neg hq9, decide_eq_false (fun e => hq9 e.symm), Bool.false_and, Bool.or_false]
    rcases hdi with rfl | rfl | rfl | rfl
    · simp only [if_true, Option.isSome_none, Option.getD_none]
      obtain ⟨es, ec, p1, p2⟩ := hY3.put x false
      (repeat (first | refine bindP_mk (by simp (disch := first | omega | exact Int.natCast_nonneg _ | assumption) only [BB, B2, ↓reduceIte, Nat.reduceLeDiff, Nat.reduceAdd, CC, p1] <;> rfl) ?_ | refine newP_mk ?_ | refine optP_mk ?_ | with_reducible first | refine condP_t ?_ | refine condP_f ?_ | refine ifP_tt' ?_ | refine ifP_ff' ?_ | refine ifP_tf' ?_ | refine ifP_ft' ?_ | refine ifP_u' ?_ | refine optP_mk0 ?_))
      have g4 : (h3.upd yid (some (.map es ec))).get (nx' + 12) = _ := (T.get_upd_ne _ _ (by omega)).trans g3
      (repeat (first | refine bindP_mk (by simp (disch := first | omega | exact Int.natCast_nonneg _ | assumption) only [BB, B2, ↓reduceIte, Nat.reduceLeDiff, Nat.reduceAdd, CC, g4, hnpl, hnl] <;> rfl) ?_ | refine newP_mk ?_ | refine optP_mk ?_ | with_reducible first | refine condP_t ?_ | refine condP_f ?_ | refine ifP_tt' ?_ | refine ifP_ff' ?_ | refine ifP_tf' ?_ | refine ifP_ft' ?_ | refine ifP_u' ?_ | refine optP_mk0 ?_))
      exact hL3 _ _ _ _ (by omega) ((hf3.mono (by omega)).upd (Nat.le_refl _) (by omega)) (hk3.upd (by simp)) (((Sub.refl h3).keepL).upd (by simp)) (hE3.keep (by rw [T.get_upd_ne _ _ hey])) (p2 _ (by rw [T.get_upd_same])) (hst2 false rfl) (by decide) f0 f1 f8 f9 rfl f63 f64 f65 rfl rfl rfl
    · have e01 : ¬ ((0 : Int) = -1) := by decide
      simp only [if_neg e01, Option.isSome_some, Option.getD_some]
      obtain ⟨es, ec, p1, p2⟩ := hY3.put x true
      (repeat (first | refine bindP_mk (by simp (disch := first | omega | exact Int.natCast_nonneg _ | assumption) only [BB, B2, ↓reduceIte, Nat.reduceLeDiff, Nat.reduceAdd, CC, p1] <;> rfl) ?_ | refine newP_mk ?_ | refine optP_mk ?_ | with_reducible first | refine condP_t ?_ | refine condP_f ?_ | refine ifP_tt' ?_ | refine ifP_ff' ?_ | refine ifP_tf' ?_ | refine ifP_ft' ?_ | refine ifP_u' ?_ | refine optP_mk0 ?_))
      refine hj4 _ _ _ en _ ru (by omega) ((hf3.mono (by omega)).upd (Nat.le_refl _) (by omega)) (hk3.upd (by simp)) (hE3.keep (by rw [T.get_upd_ne _ _ hey])) (p2 _ (by rw [T.get_upd_same])) (fun q => ?_) (hst2 true rfl) f0 f1 f8 f9 f63 f64 f65 ?_
      · rw [hen', hen1]; simp
      · simpa using hru
    · have e01 : ¬ ((1 : Int) = -1) := by decide
      simp only [if_neg e01, Option.isSome_some, Option.getD_some]
      obtain ⟨es, ec, p1, p2⟩ := hY3.put x false
      (repeat (first | refine bindP_mk (by simp (disch := first | omega | exact Int.natCast_nonneg _ | assumption) only [BB, B2, ↓reduceIte, Nat.reduceLeDiff, Nat.reduceAdd, CC, p1] <;> rfl) ?_ | refine newP_mk ?_ | refine optP_mk ?_ | with_reducible first | refine condP_t ?_ | refine condP_f ?_ | refine ifP_tt' ?_ | refine ifP_ff' ?_ | refine ifP_tf' ?_ | refine ifP_ft' ?_ | refine ifP_u' ?_ | refine optP_mk0 ?_))
      have g4 : (h3.upd yid (some (.map es ec))).get (nx' + 12) = _ := (T.get_upd_ne _ _ (by omega)).trans g3
      (repeat (first | refine bindP_mk (by simp (disch := first | omega | exact Int.natCast_nonneg _ | assumption) only [BB, B2, ↓reduceIte, Nat.reduceLeDiff, Nat.reduceAdd, CC, g4, hnpl, hnl] <;> rfl) ?_ | refine newP_mk ?_ | refine optP_mk ?_ | with_reducible first | refine condP_t ?_ | refine condP_f ?_ | refine ifP_tt' ?_ | refine ifP_ff' ?_ | refine ifP_tf' ?_ | refine ifP_ft' ?_ | refine ifP_u' ?_ | refine optP_mk0 ?_))
      exact hL3 _ _ _ _ (by omega) ((hf3.mono (by omega)).upd (Nat.le_refl _) (by omega)) (hk3.upd (by simp)) (((Sub.refl h3).keepL).upd (by simp)) (hE3.keep (by rw [T.get_upd_ne _ _ hey])) (p2 _ (by rw [T.get_upd_same])) (hst2 false rfl) (by decide) f0 f1 f8 f9 rfl f63 f64 f65 rfl rfl rfl
    · have e01 : ¬ ((2 : Int) = -1) := by decide
      simp only [if_neg e01, Option.isSome_some, Option.getD_some]
      obtain ⟨es, ec, p1, p2⟩ := hY3.put x true
      (repeat (first | refine bindP_mk (by simp (disch := first | omega | exact Int.natCast_nonneg _ | assumption) only [BB, B2, ↓reduceIte, Nat.reduceLeDiff, Nat.reduceAdd, CC, p1] <;> rfl) ?_ | refine newP_mk ?_ | refine optP_mk ?_ | with_reducible first | refine condP_t ?_ | refine condP_f ?_ | refine ifP_tt' ?_ | refine ifP_ff' ?_ | refine ifP_tf' ?_ | refine ifP_ft' ?_ | refine ifP_u' ?_ | refine optP_mk0 ?_))
      have g4 : (h3.upd yid (some (.map es ec))).get (nx' + 12) = _ := (T.get_upd_ne _ _ (by omega)).trans g3
      (repeat (first | refine bindP_mk (by simp (disch := first | omega | exact Int.natCast_nonneg _ | assumption) only [BB, B2, ↓reduceIte, Nat.reduceLeDiff, Nat.reduceAdd, CC, g4, hnpl, hnl] <;> rfl) ?_ | refine newP_mk ?_ | refine optP_mk ?_ | with_reducible first | refine condP_t ?_ | refine condP_f ?_ | refine ifP_tt' ?_ | refine ifP_ff' ?_ | refine ifP_tf' ?_ | refine ifP_ft' ?_ | refine ifP_u' ?_ | refine optP_mk0 ?_))
      exact hL3 _ _ _ _ (by omega) ((hf3.mono (by omega)).upd (Nat.le_refl _) (by omega)) (hk3.upd (by simp)) (((Sub.refl h3).keepL).upd (by simp)) (hE3.keep (by rw [T.get_upd_ne _ _ hey])) (p2 _ (by rw [T.get_upd_same])) (hst2 true rfl) (by decide) f0 f1 f8 f9 rfl f63 f64 f65 rfl rfl rfl
  · refine condP_f ?_
    rw [drop_all (by omega)] at hru
    rw [List.take_of_length_le (by omega)] at hen' hst'
    have hru : ru = rf := hru
    subst hru
    exact hx _ _ _ _ (fun e => by cases e) (hQ _ _ _ en st (by omega) (hf'.mono (by omega)) hkp hE' hY' hen' hst' f0 f1 f9)
end
end V
end Go.Proofs.Ytmmdcdjkmakgpaa
