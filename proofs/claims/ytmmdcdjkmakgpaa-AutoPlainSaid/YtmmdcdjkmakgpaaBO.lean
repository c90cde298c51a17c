/- What auto's Of hands back: its first loop.
   No condition. -/
import Derived.Test.YtmmdcdjkmakgpaaBN
import Derived.Test.YtmmdcdjkmakgpaaDP
set_option linter.unusedVariables false
set_option linter.unusedSimpArgs false
namespace Go.Proofs.Ytmmdcdjkmakgpaa
namespace V
open PA
attribute [local irreducible] bindP ifP condP newP optP exP beqP
theorem build_bld (a b : Value) (i1 i4 i5 i6 : Nat) : buildV Try.prog y_auto_builder [(0, .agg #[a, b]), (1, .map (some i1)), (4, .map (some i4)), (5, .map (some i5)), (6, .map (some i6))] = some (.agg (bldL a b (.map (some i1)) nilS (List.replicate 256 0) 0 nilS nilS (.map (some i4)) (.map (some i5)) (.map (some i6))).toArray) := by kernel_rfl
theorem lit_Set (aid x : Nat) : sliceLitV Try.prog y_s_api_Set aid 1 [(0, setV x)] = some (.slice (some (own aid 4)) 1 1, some (.cells (setL x).toArray y_api_Set)) := by kernel_rfl
theorem und_sSet : und Try.prog y_s_api_Set = some (.slice y_api_Set) := by kernel_rfl
theorem tin_Set : ∃ i, tin Try.prog y_api_Set = some i ∧ i.size = 4 ∧ i.bytes = 32 := tinOf (by kernel_rfl)
theorem app_Set {ro : Ro} {h : T Obj} {v : Value} {nx n1 n2 lo : Nat} {l : List Nat} {m : Nat} {K : Value × Option Obj → T Obj → Value × T Obj × Nat → Prop} (ho : OwnT h v 4 y_api_Set (setsC l) lo) (hl : l.length ≤ 1000000) (hf : Fr h nx) (hlo : lo ≤ nx) (hn1 : nx ≤ n1) (hn2 : n1 < n2)
    (hK : ∀ h' w, OwnT h' w 4 y_api_Set (setsC (l ++ [m])) lo → Kp v h h' → Fr h' (n2 + 1) → K (.slice (some (own n1 4)) 1 1, some (.cells (setL m).toArray y_api_Set)) (h.upd n1 (some (.cells (setL m).toArray y_api_Set))) (w, h', n2 + 1)) :
    bindP (sliceLitV Try.prog y_s_api_Set n1 1 [(0, setV m)]) fun r => optP h n1 r.2 fun h' => bindP (appendV Try.prog ro h' n2 #[y_s_api_Set, y_s_api_Set] [v, r.1]) (K r h') := by
  obtain ⟨i, g1, g2, g3⟩ := tin_Set
  have e : setsC l ++ [setL m] = setsC (l ++ [m]) := by simp [setsC]
  have el := setsC_len l
  refine append_lit (z := 4) (l := setsC l) (y := setL m) (lit_Set _ _) rfl ho und_sSet g1 g2 (by omega) zer_Set rfl rfl (by rw [el, g3]; unfold big; omega) (by rw [el]; unfold big; omega) hf hlo hn1 hn2 fun h' q1 q2 q3 => ?_
  rw [e] at q1 ⊢
  exact hK h' _ q1 q2 q3
def cntC (l : List (Int × Int)) : List (List Value) := l.map fun p => [Value.int .i64 p.1, Value.int .i64 p.2]
theorem cntC_len (l : List (Int × Int)) : (cntC l).length = l.length := by simp [cntC]
theorem lit_cnt (aid : Nat) (a b : Value) : sliceLitV Try.prog y_s_a2_int aid 1 [(0, .agg #[a, b])] = some (.slice (some (own aid 2)) 1 1, some (.cells [a, b].toArray y_a2_int)) := by kernel_rfl
theorem build_cnt (a b : Int) : buildV Try.prog y_a2_int [(0, .int .i64 a), (1, .int .i64 b)] = some (.agg #[.int .i64 a, .int .i64 b]) := by kernel_rfl
theorem und_scnt : und Try.prog y_s_a2_int = some (.slice y_a2_int) := by kernel_rfl
theorem tin_cnt : ∃ i, tin Try.prog y_a2_int = some i ∧ i.size = 2 ∧ i.bytes = 16 := tinOf (by kernel_rfl)
theorem zer_cnt : zer Try.prog y_a2_int = some (.agg #[.int .i64 0, .int .i64 0]) := by kernel_rfl
theorem app_cnt {ro : Ro} {h : T Obj} {v : Value} {nx n1 n2 lo : Nat} {l : List (Int × Int)} {a b : Int} {K : Value × Option Obj → T Obj → Value × T Obj × Nat → Prop} (ho : OwnT h v 2 y_a2_int (cntC l) lo) (hl : l.length ≤ 1000000) (hf : Fr h nx) (hlo : lo ≤ nx) (hn1 : nx ≤ n1) (hn2 : n1 < n2)
    (hK : ∀ h' w, OwnT h' w 2 y_a2_int (cntC (l ++ [(a, b)])) lo → Kp v h h' → Fr h' (n2 + 1) → K (.slice (some (own n1 2)) 1 1, some (.cells [Value.int .i64 a, Value.int .i64 b].toArray y_a2_int)) (h.upd n1 (some (.cells [Value.int .i64 a, Value.int .i64 b].toArray y_a2_int))) (w, h', n2 + 1)) :
    bindP (sliceLitV Try.prog y_s_a2_int n1 1 [(0, .agg #[.int .i64 a, .int .i64 b])]) fun r => optP h n1 r.2 fun h' => bindP (appendV Try.prog ro h' n2 #[y_s_a2_int, y_s_a2_int] [v, r.1]) (K r h') := by
  obtain ⟨i, g1, g2, g3⟩ := tin_cnt
  have e : cntC l ++ [[Value.int .i64 a, Value.int .i64 b]] = cntC (l ++ [(a, b)]) := by simp [cntC]
  have el := cntC_len l
  refine append_lit (z := 2) (l := cntC l) (y := [.int .i64 a, .int .i64 b]) (lit_cnt _ _ _) rfl ho und_scnt g1 g2 (by omega) zer_cnt rfl rfl (by rw [el, g3]; unfold big; omega) (by rw [el]; unfold big; omega) hf hlo hn1 hn2 fun h' q1 q2 q3 => ?_
  rw [e] at q1 ⊢
  exact hK h' _ q1 q2 q3
theorem cntsL_snoc (l : List PosD) (p : PosD) : cntsL (l ++ [p]) = if 1 < p.hi then cntsL l ++ [(p.lo, p.hi)] else cntsL l := by
  unfold cntsL
  rw [List.filter_append]
  by_cases h : 1 < p.hi
  · rw [if_pos h, List.filter_cons_of_pos (by unfold ctdP; exact decide_eq_true h)]; simp
  · rw [if_neg h, List.filter_cons_of_neg (by unfold ctdP; simpa using h)]; simp
theorem numZ_cnts {g : GlD} (k : Nat) : numZ g (k : Int) = ((cntsL (g.p.take k)).length : Nat) := by
  unfold numZ cntsL
  rw [Int.toNat_natCast, List.length_map]
theorem cntsL_len (l : List PosD) : (cntsL l).length ≤ l.length := by
  unfold cntsL
  rw [List.length_map]; exact List.length_filter_le _ _
section
variable {ro : Ro} {g : GlD} {bid nid rid gid : Nat} {av bv : Value}
set_option maxRecDepth 8000 in
set_option maxHeartbeats 1000000 in
theorem Of_L3_c {kid eid yid : Nat} {e : Env} (hr : rightD g = true) {h : T Obj} {nx : Nat} {Q : KE} (hf : Fr h nx) (hP : SlR ro (del h [bid, nid]) bv 9 (RPos ro (del h [bid, nid])) g.p)
    (hb : h.get bid = some (.cells (bldL av bv (.map (some nid)) nilS (List.replicate 256 0) 0 nilS nilS (.map (some kid)) (.map (some eid)) (.map (some yid))).toArray y_auto_builder)) (hn : h.get nid = some (.map #[] 0))
    (e1 : e 1 = ptr gid) (e2 : e 2 = ptr rid) (e4 : e 4 = ptr bid) (e5 : e 5 = nilS) (e23 : e 23 = bv) (e24 : e 24 = .int .i64 g.p.length) (e25 : e 25 = .int .i64 0)
    (hQ : ∀ e' h' nx' sv cv f, nx ≤ nx' → Fr h' nx' → Keep [bid, nid] h h' → h'.get bid = some (.cells (bldL av bv (.map (some nid)) nilS (List.replicate 256 0) 0 cv nilS (.map (some kid)) (.map (some eid)) (.map (some yid))).toArray y_auto_builder) → MapG injI h' nid f → NOk g f → OwnT h' sv 4 y_api_Set (setsC (setsL g.p)) nx → OwnT h' cv 2 y_a2_int (cntC (cntsL g.p)) nx →
      e' 2 = ptr rid → e' 4 = ptr bid → e' 5 = sv → Q (.exit 0) e' h' nx') :
    loopP (auto_Of_L3 ro) e h nx Q := by
  obtain ⟨hgl, hfr, hmay⟩ := right_parts hr
  have hbl := hf.lt' hb
  have hnl := hf.lt' hn
  have hbn : bid ≠ nid := by rintro rfl; rw [hb] at hn; cases hn
  refine loopP_rule (fun j e h' nx' => ∃ (k : Nat) (cv : Value) (f : Int → Option Value), k + j = g.p.length ∧ nx ≤ nx' ∧ Fr h' nx' ∧ Keep [bid, nid] h h' ∧ h'.get bid = some (.cells (bldL av bv (.map (some nid)) nilS (List.replicate 256 0) 0 cv nilS (.map (some kid)) (.map (some eid)) (.map (some yid))).toArray y_auto_builder) ∧
    MapG injI h' nid f ∧ (∀ q, 0 ≤ q → f q = if (decide (q < k) && ctd g q) = true then some (.int .i64 (numZ g q)) else none) ∧ OwnT h' (e 5) 4 y_api_Set (setsC (setsL (g.p.take k))) nx ∧ OwnT h' cv 2 y_a2_int (cntC (cntsL (g.p.take k))) nx ∧
    e 1 = ptr gid ∧ e 2 = ptr rid ∧ e 4 = ptr bid ∧ e 23 = bv ∧ e 24 = .int .i64 g.p.length ∧ e 25 = .int .i64 k) ?_ (n := g.p.length)
    ⟨0, nilS, fun _ => none, by omega, by omega, hf, (Sub.refl h).keepL, hb, MapG.new hn, fun q hq => by rw [decide_eq_false (by omega)]; rfl, by rw [e5]; exact OwnT.nil, OwnT.nil, e1, e2, e4, e23, e24, e25⟩
  rintro j e' h' nx' ⟨k, cv, f, hj, hnx, hf', hkp, hb', hm', hfo, hsv, hcv, f1, f2, f4, f23, f24, f25⟩ Q' hq hx
  unfold auto_Of_L3
  rw [f4, f23, f24, f25]
  have hsub : Sub (del h [bid, nid]) h' := hkp.delS fun _ h => h
  refine lss_s (fun hk => ?_) (fun hk => ?_)
  · have hk : k < g.p.length := by omega
    have hP' : SlR ro h' bv 9 (RPos ro h') g.p := hP.sub hsub (RPos.sub hsub)
    obtain ⟨x, ⟨nv, rfl, y1, y2⟩, x2, x3, x4, x5⟩ := hP'.at hk
    have hat := at_nat hk
    have htk : g.p.take (k + 1) = g.p.take k ++ [g.p[k]] := List.take_succ_eq_append_getElem hk
    have hcd : ctd g (k : Int) = decide (1 < g.p[k].hi) := by unfold ctd; rw [hat]
    have hnum := numZ_cnts (g := g) k
    have hst : setsL (g.p.take (k + 1)) = setsL (g.p.take k) ++ [g.p[k].s] := by rw [htk]; unfold setsL; rw [List.map_append]; rfl
    have hct := cntsL_snoc (g.p.take k) g.p[k]
    rw [← htk] at hct
    have hsl : (setsL (g.p.take k)).length ≤ 512 := by unfold setsL; rw [List.length_map, List.length_take]; omega
    have hcl : (cntsL (g.p.take k)).length ≤ 512 := by have := cntsL_len (g.p.take k); rw [List.length_take] at this; omega
    -- the end of a round
    have hj4 : ∀ (e : Env) (h4 : T Obj) (n4 : Nat) (cv' : Value) (f' : Int → Option Value), nx' ≤ n4 → Fr h4 n4 → Keep [bid, nid] h h4 → h4.get bid = some (.cells (bldL av bv (.map (some nid)) nilS (List.replicate 256 0) 0 cv' nilS (.map (some kid)) (.map (some eid)) (.map (some yid))).toArray y_auto_builder) →
        MapG injI h4 nid f' → (∀ q, 0 ≤ q → f' q = if (decide (q < ((k + 1 : Nat) : Int)) && ctd g q) = true then some (.int .i64 (numZ g q)) else none) → OwnT h4 (e 5) 4 y_api_Set (setsC (setsL (g.p.take (k + 1)))) nx → OwnT h4 cv' 2 y_a2_int (cntC (cntsL (g.p.take (k + 1)))) nx →
        e 1 = ptr gid → e 2 = ptr rid → e 4 = ptr bid → e 23 = bv → e 24 = .int .i64 g.p.length → e 25 = .int .i64 k → auto_Of_j4 ro Q' e h4 n4 := by
      intro e h4 n4 cv' f' hn4 s1 s2 s3 s4 s5 s6 s7 f1 f2 f4 f23 f24 f25
      unfold auto_Of_j4
      rw [f25]
      (repeat (first | refine bindP_mk (by simp (disch := first | omega | exact Int.natCast_nonneg _ | assumption) only [BB, B2, ↓reduceIte, Nat.reduceLeDiff, Nat.reduceAdd, CC] <;> rfl) ?_ | refine newP_mk ?_ | refine optP_mk ?_ | with_reducible first | refine condP_t ?_ | refine condP_f ?_ | refine ifP_tt' ?_ | refine ifP_ff' ?_ | refine ifP_tf' ?_ | refine ifP_ft' ?_ | refine ifP_u' ?_ | refine optP_mk0 ?_))
      exact hq (j - 1) _ _ _ _ (by omega) ⟨k + 1, cv', f', by omega, by omega, s1.mono (by omega), s2, s3, s4, s5, s6, s7, f1, f2, f4, f23, f24, rfl⟩ (Sub.refl _)
    refine condP_t (bindP_mk (hP'.ix _ hk) (bindP_mk x3 ?_))
    refine local_mk zer_PosZ rfl (x := posL g.p[k] nv) rfl rfl (posL_ok y1.ok) hf' (show nx' ≤ nx' + 4 by omega) fun h3 hs3 hf3 g3 _ => ?_
    have hld : loadA ro h3 4 (at_ (nx' + 4) 0 0) = some (setV g.p[k].s) := by
      rw [loadA_own, g3, cellsIn_some]
      simp only [Option.bind_some, tl]
      rw [if_pos (by show 0 + 4 ≤ 9; omega)]; rfl
    (repeat (first | refine bindP_mk (by simp (disch := first | omega | exact Int.natCast_nonneg _ | assumption) only [BB, B2, ↓reduceIte, Nat.reduceLeDiff, Nat.reduceAdd, CC, hld] <;> rfl) ?_ | refine newP_mk ?_ | refine optP_mk ?_ | with_reducible first | refine condP_t ?_ | refine condP_f ?_ | refine ifP_tt' ?_ | refine ifP_ff' ?_ | refine ifP_tf' ?_ | refine ifP_ft' ?_ | refine ifP_u' ?_ | refine optP_mk0 ?_))
    refine app_Set (hsv.keepS hs3) (by omega) (hf3.mono (show nx' + 4 + 1 ≤ nx' + 10 by omega)) (by omega) (by omega) (by omega) fun h4 w q1 q2 q3 => ?_
    dsimp only
    have hsv3 := hsv.keepS hs3
    have hne : ∀ i o, h3.get i = some o → (∀ c f, o ≠ .cells c y_api_Set f) → h4.get i = some o := fun i o hi hty => q2 i o hi (hsv3.neB hi hty)
    have hb4 := hne _ _ (hs3 _ _ hb') (by intro c f e; simp only [Obj.cells.injEq] at e; exact absurd e.2.1 (by decide))
    have g4 := hne _ _ g3 (by intro c f e; simp only [Obj.cells.injEq] at e; exact absurd e.2.1 (by decide))
    have hm4 : MapG injI h4 nid f := by
      obtain ⟨es, c9, ps, a1, a2, a3⟩ := hm'
      exact ⟨es, c9, ps, hne _ _ (hs3 _ _ a1) (by intro c f e; cases e), a2, a3⟩
    have hk4 : Keep [bid, nid] h h4 := fun i o hi hn9 => by
      have := hf.lt' hi
      refine q2 i o (hs3 _ _ (hkp i o hi hn9)) fun e => ?_
      have := (hsv3.blk e).1
      omega
    have hcv4 : OwnT h4 cv 2 y_a2_int (cntC (cntsL (g.p.take k))) nx := (hcv.keepS hs3).keep q2 fun id hid => by
      obtain ⟨_, z⟩ := (hcv.keepS hs3).blk hid
      exact hsv3.neB z (by intro c f e; simp only [Obj.cells.injEq] at e; exact absurd e.2.1 (by decide))
    rw [← hst] at q1
    have p5 : (posL g.p[k] nv)[5]? = some (.int .i64 g.p[k].hi) := rfl
    have p4 : (posL g.p[k] nv)[4]? = some (.int .i64 g.p[k].lo) := rfl
    (repeat (first | refine bindP_mk (by simp (disch := first | omega | exact Int.natCast_nonneg _ | assumption) only [BB, B2, ↓reduceIte, Nat.reduceLeDiff, Nat.reduceAdd, CC, g4, p5] <;> rfl) ?_ | refine newP_mk ?_ | refine optP_mk ?_ | with_reducible first | refine condP_t ?_ | refine condP_f ?_ | refine ifP_tt' ?_ | refine ifP_ff' ?_ | refine ifP_tf' ?_ | refine ifP_ft' ?_ | refine ifP_u' ?_ | refine optP_mk0 ?_))
    refine gtr_s (fun u1 => ?_) (fun u1 => ?_)
    · rw [if_pos u1] at hct
      rw [decide_eq_true u1] at hcd
      have b2 := bldL_2 (av := av) (bv := bv) (nv := .map (some nid)) (fv := nilS) (c := List.replicate 256 0) (n := 0) (cv := cv) (sv := nilS) (kv := .map (some kid)) (ev := .map (some eid)) (yv := .map (some yid))
      have b261 := bldL_261 (av := av) (bv := bv) (nv := .map (some nid)) (fv := nilS) (c := List.replicate 256 0) (n := 0) (cv := cv) (sv := nilS) (kv := .map (some kid)) (ev := .map (some eid)) (yv := .map (some yid)) List.length_replicate
      have hcn := (hcv4.sl (ro := ro)).len
      rw [cntC_len] at hcn
      obtain ⟨es, ec, r1, r2⟩ := put_ii hm4 (k : Int) (.int .i64 (cntsL (g.p.take k)).length)
      (repeat (first | refine bindP_mk (by simp (disch := first | omega | exact Int.natCast_nonneg _ | assumption) only [BB, B2, ↓reduceIte, Nat.reduceLeDiff, Nat.reduceAdd, CC, nilCk_at, hb4, b2, b261, hcn, r1] <;> rfl) ?_ | refine newP_mk ?_ | refine optP_mk ?_ | with_reducible first | refine condP_t ?_ | refine condP_f ?_ | refine ifP_tt' ?_ | refine ifP_ff' ?_ | refine ifP_tf' ?_ | refine ifP_ft' ?_ | refine ifP_u' ?_ | refine optP_mk0 ?_))
      have hb5 : (h4.upd nid (some (.map es ec))).get bid = _ := (T.get_upd_ne _ _ hbn).trans hb4
      have hm5 := r2 (h4.upd nid (some (.map es ec))) (by rw [T.get_upd_same])
      have hnn : ∀ {v : Value} {z lo : Nat} {e : TypeId} {l : List (List Value)}, OwnT h4 v z e l lo → OwnT (h4.upd nid (some (.map es ec))) v z e l lo := fun ho => by
        rcases ho with ho | ⟨id, o1, rfl, o4, o5⟩
        · exact .inl ho
        · refine .inr ⟨id, o1, rfl, o4, ?_⟩
          rw [T.get_upd_ne _ _ (by rintro rfl; obtain ⟨_, _, q⟩ := hm4.obj; rw [q] at o5; cases o5)]; exact o5
      have hcv5 := hnn hcv4
      have hsv5 := hnn q1
      have g5 : (h4.upd nid (some (.map es ec))).get (nx' + 4) = _ := (T.get_upd_ne _ _ (by omega)).trans g4
      have hk5 : Keep [bid, nid] h (h4.upd nid (some (.map es ec))) := hk4.upd (by simp)
      have hf5 : Fr (h4.upd nid (some (.map es ec))) (nx' + 12 + 1) := q3.upd (Nat.le_refl _) (by omega)
      have hn5 : (h4.upd nid (some (.map es ec))).get nid = some (.map es ec) := T.get_upd_same _ _ _
      generalize h4.upd nid (some (.map es ec)) = h5 at hb5 hm5 hcv5 hsv5 g5 hk5 hf5 hn5
      (repeat (first | refine bindP_mk (by simp (disch := first | omega | exact Int.natCast_nonneg _ | assumption) only [BB, B2, ↓reduceIte, Nat.reduceLeDiff, Nat.reduceAdd, CC, nilCk_at, hb5, b261, g5, p4, p5] <;> rfl) ?_ | refine newP_mk ?_ | refine optP_mk ?_ | with_reducible first | refine condP_t ?_ | refine condP_f ?_ | refine ifP_tt' ?_ | refine ifP_ff' ?_ | refine ifP_tf' ?_ | refine ifP_ft' ?_ | refine ifP_u' ?_ | refine optP_mk0 ?_))
      refine bindP_mk (build_cnt _ _) ?_
      refine app_cnt hcv5 (by omega) (hf5.mono (show nx' + 12 + 1 ≤ nx' + 12 + 1 + 27 by omega)) (by omega) (by omega) (by omega) fun h6 w6 s1 s2 s3 => ?_
      dsimp only
      rw [← hct] at s1
      have hne6 : ∀ i o, h5.get i = some o → (∀ c f, o ≠ .cells c y_a2_int f) → h6.get i = some o := fun i o hi hty => s2 i o hi (hcv5.neB hi hty)
      have hb6 := hne6 _ _ hb5 (by intro c f e; simp only [Obj.cells.injEq] at e; exact absurd e.2.1 (by decide))
      have hn6 := hne6 _ _ hn5 (by intro c f e; cases e)
      have hm6 : MapG injI h6 nid fun b => if b = (k : Int) then some (.int .i64 ((cntsL (g.p.take k)).length : Nat)) else f b := hm5.keep (by rw [hn6, hn5])
      have hsv6 : OwnT h6 w 4 y_api_Set (setsC (setsL (g.p.take (k + 1)))) nx := hsv5.keep s2 fun id hid => by
        obtain ⟨_, z⟩ := hsv5.blk hid
        exact hcv5.neB z (by intro c f e; simp only [Obj.cells.injEq] at e; exact absurd e.2.1 (by decide))
      have hwok := s1.ok
      (repeat (first | refine bindP_mk (by simp (disch := first | omega | exact Int.natCast_nonneg _ | assumption) only [BB, B2, ↓reduceIte, Nat.reduceLeDiff, Nat.reduceAdd, CC, nilCk_at] <;> rfl) ?_ | refine newP_mk ?_ | refine optP_mk ?_ | with_reducible first | refine condP_t ?_ | refine condP_f ?_ | refine ifP_tt' ?_ | refine ifP_ff' ?_ | refine ifP_tf' ?_ | refine ifP_ft' ?_ | refine ifP_u' ?_ | refine optP_mk0 ?_))
      refine bindP_mk (store1_own (l := bldL av bv (.map (some nid)) nilS (List.replicate 256 0) 0 cv nilS (.map (some kid)) (.map (some eid)) (.map (some yid))) hb6 (by rw [bldL_len List.length_replicate]; omega) hwok (cells_of_ok hwok)) ?_
      rw [bldL_set261 List.length_replicate]
      refine hj4 _ _ _ w6 _ (by omega) ((s3.mono (show _ ≤ nx' + 12 + 1 + 33 + 1 by omega)).upd (Nat.le_refl _) (by omega)) ?_ (by rw [T.get_upd_same]) (hm6.keep (T.get_upd_ne _ _ hbn.symm)) ?_ ?_ ?_ f1 f2 f4 f23 f24 f25
      · refine Keep.upd (fun i o hi hn9 => ?_) (by simp)
        have := hf.lt' hi
        refine s2 i o (hk5 i o hi hn9) fun e => ?_
        have := (hcv5.blk e).1
        omega
      · intro q hq9
        show (if q = (k : Int) then _ else f q) = _
        by_cases hqk : q = (k : Int)
        · subst hqk
          rw [if_pos rfl, decide_eq_true (by omega), Bool.true_and, hcd, if_pos rfl, hnum]
        · rw [if_neg hqk, hfo q hq9]
          have : decide (q < ((k + 1 : Nat) : Int)) = decide (q < (k : Int)) := by
            rw [decide_eq_decide]; omega
          rw [this]
      · exact hsv6.updNe hb6 (by decide)
      · exact s1.updNe hb6 (by decide)
    · rw [if_neg (by omega)] at hct
      rw [decide_eq_false (by omega)] at hcd
      (repeat (first | refine bindP_mk (by simp (disch := first | omega | exact Int.natCast_nonneg _ | assumption) only [BB, B2, ↓reduceIte, Nat.reduceLeDiff, Nat.reduceAdd, CC] <;> rfl) ?_ | refine newP_mk ?_ | refine optP_mk ?_ | with_reducible first | refine condP_t ?_ | refine condP_f ?_ | refine ifP_tt' ?_ | refine ifP_ff' ?_ | refine ifP_tf' ?_ | refine ifP_ft' ?_ | refine ifP_u' ?_ | refine optP_mk0 ?_))
      refine hj4 _ _ _ cv f (by omega) (q3.mono (by omega)) hk4 hb4 hm4 ?_ q1 (by rw [hct]; exact hcv4) f1 f2 f4 f23 f24 f25
      intro q hq9
      rw [hfo q hq9]
      by_cases hqk : q = (k : Int)
      · subst hqk
        rw [hcd, Bool.and_false, Bool.and_false]
      · have : decide (q < ((k + 1 : Nat) : Int)) = decide (q < (k : Int)) := by
          rw [decide_eq_decide]; omega
        rw [this]
  · have hkl : k = g.p.length := by omega
    subst hkl
    rw [List.take_length] at hsv hcv
    refine condP_f (hx _ _ _ _ (fun e => by cases e) ?_)
    refine hQ _ _ _ _ cv f (by omega) (hf'.mono (by omega)) hkp hb' hm' (fun q hq9 => ?_) hsv hcv f2 f4 rfl
    rw [hfo q hq9]
    by_cases hqk : q < (g.p.length : Int)
    · rw [decide_eq_true hqk, Bool.true_and]
    · have : ctd g q = false := by
        unfold ctd GlD.at
        rw [List.getD_eq_getElem?_getD, List.getElem?_eq_none (by omega)]
        rfl
      rw [decide_eq_false hqk, this]; rfl
end
end V
end Go.Proofs.Ytmmdcdjkmakgpaa
