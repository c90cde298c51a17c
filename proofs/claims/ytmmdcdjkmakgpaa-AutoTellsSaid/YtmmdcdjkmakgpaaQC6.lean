/- Texts laid one behind the other: BO, BP, ES, EF, GR, AB, AG, EI, FA, GT, FB, FC, FD, FE, FF, FG, FH, FI.
   No condition. -/
import Derived.KernelRfl
import Derived.Test.YtmmdcdjkmakgpaaQC5
set_option linter.unusedVariables false
set_option linter.unusedSimpArgs false
set_option linter.unusedVariables false
set_option linter.unusedSimpArgs false
namespace Go.Proofs.Ytmmdcdjkmakgpaa
namespace V
open PA
attribute [local irreducible] bindP ifP condP newP optP exP beqP
theorem build_bld (a b : Value) (i1 i4 i5 i6 : Nat) : buildV Try.prog y_auto_builder [(0, .agg #[a, b]), (1, .map (some i1)), (4, .map (some i4)), (5, .map (some i5)), (6, .map (some i6))] = some (.agg (bldL a b (.map (some i1)) nilS (List.replicate 256 0) 0 nilS nilS (.map (some i4)) (.map (some i5)) (.map (some i6))).toArray) := by kernel_rfl
theorem lit_Set (aid x : Nat) : sliceLitV Try.prog y_s_api_Set aid 1 [(0, setV x)] = some (.slice (some (own aid 4)) 1 1, some (.cells (setL x).toArray y_api_Set)) := by kernel_rfl
theorem und_sSet : und Try.prog y_s_api_Set = some (.slice y_api_Set) := by kernel_rfl
theorem tin_Set : ∃ i, tin Try.prog y_api_Set = some i ∧ i.size = 4 ∧ i.bytes = 32 := tinOf (by kernel_rfl)
theorem app_Set {ro : Ro} {h : T Obj} {v : Value} {nx n1 n2 lo : Nat} {l : List Nat} {m : Nat} {K : Value × Option Obj → T Obj → Value × T Obj × Nat → Prop} (ho : OwnT h v 4 y_api_Set (setsC l) lo) (hl : l.length ≤ 1000000) (hf : Fr h nx) (hlo : lo ≤ nx) (hn1 : nx ≤ n1) (hn2 : n1 < n2)
    (hK : ∀ h' w, OwnT h' w 4 y_api_Set (setsC (l ++ [m])) lo → Kp v h h' → Fr h' (n2 + 1) → K (.slice (some (own n1 4)) 1 1, some (.cells (setL m).toArray y_api_Set)) (h.upd n1 (some (.cells (setL m).toArray y_api_Set))) (w, h', n2 + 1)) :
    bindP (sliceLitV Try.prog y_s_api_Set n1 1 [(0, setV m)]) fun r => optP h n1 r.2 fun h' => bindP (appendV Try.prog ro h' n2 #[y_s_api_Set, y_s_api_Set] [v, r.1]) (K r h') := by
  obtain ⟨i, g1, g2, g3⟩ := tin_Set
  have e : setsC l ++ [setL m] = setsC (l ++ [m]) := by simp [setsC]
  have el := setsC_len l
  refine append_lit (z := 4) (l := setsC l) (y := setL m) (lit_Set _ _) rfl ho und_sSet g1 g2 (by omega) zer_Set rfl rfl (by rw [el, g3]; unfold big; omega) (by rw [el]; unfold big; omega) hf hlo hn1 hn2 fun h' q1 q2 q3 => ?_
  rw [e] at q1 ⊢
  exact hK h' _ q1 q2 q3
def cntC (l : List (Int × Int)) : List (List Value) := l.map fun p => [Value.int .i64 p.1, Value.int .i64 p.2]
theorem cntC_len (l : List (Int × Int)) : (cntC l).length = l.length := by simp [cntC]
theorem lit_cnt (aid : Nat) (a b : Value) : sliceLitV Try.prog y_s_a2_int aid 1 [(0, .agg #[a, b])] = some (.slice (some (own aid 2)) 1 1, some (.cells [a, b].toArray y_a2_int)) := by kernel_rfl
theorem build_cnt (a b : Int) : buildV Try.prog y_a2_int [(0, .int .i64 a), (1, .int .i64 b)] = some (.agg #[.int .i64 a, .int .i64 b]) := by kernel_rfl
theorem und_scnt : und Try.prog y_s_a2_int = some (.slice y_a2_int) := by kernel_rfl
theorem tin_cnt : ∃ i, tin Try.prog y_a2_int = some i ∧ i.size = 2 ∧ i.bytes = 16 := tinOf (by kernel_rfl)
theorem zer_cnt : zer Try.prog y_a2_int = some (.agg #[.int .i64 0, .int .i64 0]) := by kernel_rfl
theorem app_cnt {ro : Ro} {h : T Obj} {v : Value} {nx n1 n2 lo : Nat} {l : List (Int × Int)} {a b : Int} {K : Value × Option Obj → T Obj → Value × T Obj × Nat → Prop} (ho : OwnT h v 2 y_a2_int (cntC l) lo) (hl : l.length ≤ 1000000) (hf : Fr h nx) (hlo : lo ≤ nx) (hn1 : nx ≤ n1) (hn2 : n1 < n2)
    (hK : ∀ h' w, OwnT h' w 2 y_a2_int (cntC (l ++ [(a, b)])) lo → Kp v h h' → Fr h' (n2 + 1) → K (.slice (some (own n1 2)) 1 1, some (.cells [Value.int .i64 a, Value.int .i64 b].toArray y_a2_int)) (h.upd n1 (some (.cells [Value.int .i64 a, Value.int .i64 b].toArray y_a2_int))) (w, h', n2 + 1)) :
    bindP (sliceLitV Try.prog y_s_a2_int n1 1 [(0, .agg #[.int .i64 a, .int .i64 b])]) fun r => optP h n1 r.2 fun h' => bindP (appendV Try.prog ro h' n2 #[y_s_a2_int, y_s_a2_int] [v, r.1]) (K r h') := by
  obtain ⟨i, g1, g2, g3⟩ := tin_cnt
  have e : cntC l ++ [[Value.int .i64 a, Value.int .i64 b]] = cntC (l ++ [(a, b)]) := by simp [cntC]
  have el := cntC_len l
  refine append_lit (z := 2) (l := cntC l) (y := [.int .i64 a, .int .i64 b]) (lit_cnt _ _ _) rfl ho und_scnt g1 g2 (by omega) zer_cnt rfl rfl (by rw [el, g3]; unfold big; omega) (by rw [el]; unfold big; omega) hf hlo hn1 hn2 fun h' q1 q2 q3 => ?_
  rw [e] at q1 ⊢
  exact hK h' _ q1 q2 q3
theorem cntsL_snoc (l : List PosD) (p : PosD) : cntsL (l ++ [p]) = if 1 < p.hi then cntsL l ++ [(p.lo, p.hi)] else cntsL l := by
  unfold cntsL
  rw [List.filter_append]
  by_cases h : 1 < p.hi
  · rw [if_pos h, List.filter_cons_of_pos (by unfold ctdP; exact decide_eq_true h)]; simp
  · rw [if_neg h, List.filter_cons_of_neg (by unfold ctdP; simpa using h)]; simp
theorem numZ_cnts {g : GlD} (k : Nat) : numZ g (k : Int) = ((cntsL (g.p.take k)).length : Nat) := by
  unfold numZ cntsL
  rw [Int.toNat_natCast, List.length_map]
theorem cntsL_len (l : List PosD) : (cntsL l).length ≤ l.length := by
  unfold cntsL
  rw [List.length_map]; exact List.length_filter_le _ _
section
variable {ro : Ro} {g : GlD} {bid nid rid gid : Nat} {av bv : Value}
set_option maxRecDepth 8000 in
set_option maxHeartbeats 1000000 in
theorem Of_L3_c {kid eid yid : Nat} {e : Env} (hr : rightD g = true) {h : T Obj} {nx : Nat} {Q : KE} (hf : Fr h nx) (hP : SlR ro (del h [bid, nid]) bv 9 (RPos ro (del h [bid, nid])) g.p)
    (hb : h.get bid = some (.cells (bldL av bv (.map (some nid)) nilS (List.replicate 256 0) 0 nilS nilS (.map (some kid)) (.map (some eid)) (.map (some yid))).toArray y_auto_builder)) (hn : h.get nid = some (.map #[] 0))
    (e1 : e 1 = ptr gid) (e2 : e 2 = ptr rid) (e4 : e 4 = ptr bid) (e5 : e 5 = nilS) (e23 : e 23 = bv) (e24 : e 24 = .int .i64 g.p.length) (e25 : e 25 = .int .i64 0)
    (hQ : ∀ e' h' nx' sv cv f, nx ≤ nx' → Fr h' nx' → Keep [bid, nid] h h' → h'.get bid = some (.cells (bldL av bv (.map (some nid)) nilS (List.replicate 256 0) 0 cv nilS (.map (some kid)) (.map (some eid)) (.map (some yid))).toArray y_auto_builder) → MapG injI h' nid f → NOk g f → OwnT h' sv 4 y_api_Set (setsC (setsL g.p)) nx → OwnT h' cv 2 y_a2_int (cntC (cntsL g.p)) nx →
      e' 2 = ptr rid → e' 4 = ptr bid → e' 5 = sv → Q (.exit 0) e' h' nx') :
    loopP (auto_Of_L3 ro) e h nx Q := by
  obtain ⟨hgl, hfr, hmay⟩ := right_parts hr
  have hbl := hf.lt' hb
  have hnl := hf.lt' hn
  have hbn : bid ≠ nid := by rintro rfl; rw [hb] at hn; cases hn
  refine loopP_rule (fun j e h' nx' => ∃ (k : Nat) (cv : Value) (f : Int → Option Value), k + j = g.p.length ∧ nx ≤ nx' ∧ Fr h' nx' ∧ Keep [bid, nid] h h' ∧ h'.get bid = some (.cells (bldL av bv (.map (some nid)) nilS (List.replicate 256 0) 0 cv nilS (.map (some kid)) (.map (some eid)) (.map (some yid))).toArray y_auto_builder) ∧
    MapG injI h' nid f ∧ (∀ q, 0 ≤ q → f q = if (decide (q < k) && ctd g q) = true then some (.int .i64 (numZ g q)) else none) ∧ OwnT h' (e 5) 4 y_api_Set (setsC (setsL (g.p.take k))) nx ∧ OwnT h' cv 2 y_a2_int (cntC (cntsL (g.p.take k))) nx ∧
    e 1 = ptr gid ∧ e 2 = ptr rid ∧ e 4 = ptr bid ∧ e 23 = bv ∧ e 24 = .int .i64 g.p.length ∧ e 25 = .int .i64 k) ?_ (n := g.p.length)
    ⟨0, nilS, fun _ => none, by omega, by omega, hf, (Sub.refl h).keepL, hb, MapG.new hn, fun q hq => by rw [decide_eq_false (by omega)]; rfl, by rw [e5]; exact OwnT.nil, OwnT.nil, e1, e2, e4, e23, e24, e25⟩
  rintro j e' h' nx' ⟨k, cv, f, hj, hnx, hf', hkp, hb', hm', hfo, hsv, hcv, f1, f2, f4, f23, f24, f25⟩ Q' hq hx
  unfold auto_Of_L3
  rw [f4, f23, f24, f25]
  have hsub : Sub (del h [bid, nid]) h' := hkp.delS fun _ h => h
  refine lss_s (fun hk => ?_) (fun hk => ?_)
  · have hk : k < g.p.length := by omega
    have hP' : SlR ro h' bv 9 (RPos ro h') g.p := hP.sub hsub (RPos.sub hsub)
    obtain ⟨x, ⟨nv, rfl, y1, y2⟩, x2, x3, x4, x5⟩ := hP'.at hk
    have hat := at_nat hk
    have htk : g.p.take (k + 1) = g.p.take k ++ [g.p[k]] := List.take_succ_eq_append_getElem hk
    have hcd : ctd g (k : Int) = decide (1 < g.p[k].hi) := by unfold ctd; rw [hat]
    have hnum := numZ_cnts (g := g) k
    have hst : setsL (g.p.take (k + 1)) = setsL (g.p.take k) ++ [g.p[k].s] := by rw [htk]; unfold setsL; rw [List.map_append]; rfl
    have hct := cntsL_snoc (g.p.take k) g.p[k]
    rw [← htk] at hct
    have hsl : (setsL (g.p.take k)).length ≤ 512 := by unfold setsL; rw [List.length_map, List.length_take]; omega
    have hcl : (cntsL (g.p.take k)).length ≤ 512 := by have := cntsL_len (g.p.take k); rw [List.length_take] at this; omega
    -- the end of a round
    have hj4 : ∀ (e : Env) (h4 : T Obj) (n4 : Nat) (cv' : Value) (f' : Int → Option Value), nx' ≤ n4 → Fr h4 n4 → Keep [bid, nid] h h4 → h4.get bid = some (.cells (bldL av bv (.map (some nid)) nilS (List.replicate 256 0) 0 cv' nilS (.map (some kid)) (.map (some eid)) (.map (some yid))).toArray y_auto_builder) →
        MapG injI h4 nid f' → (∀ q, 0 ≤ q → f' q = if (decide (q < ((k + 1 : Nat) : Int)) && ctd g q) = true then some (.int .i64 (numZ g q)) else none) → OwnT h4 (e 5) 4 y_api_Set (setsC (setsL (g.p.take (k + 1)))) nx → OwnT h4 cv' 2 y_a2_int (cntC (cntsL (g.p.take (k + 1)))) nx →
        e 1 = ptr gid → e 2 = ptr rid → e 4 = ptr bid → e 23 = bv → e 24 = .int .i64 g.p.length → e 25 = .int .i64 k → auto_Of_j4 ro Q' e h4 n4 := by
      intro e h4 n4 cv' f' hn4 s1 s2 s3 s4 s5 s6 s7 f1 f2 f4 f23 f24 f25
      unfold auto_Of_j4
      rw [f25]
      (repeat (first | refine bindP_mk (by simp (disch := first | omega | exact Int.natCast_nonneg _ | assumption) only [BB, B2, ↓reduceIte, Nat.reduceLeDiff, Nat.reduceAdd, CC] <;> rfl) ?_ | refine newP_mk ?_ | refine optP_mk ?_ | with_reducible first | refine condP_t ?_ | refine condP_f ?_ | refine ifP_tt' ?_ | refine ifP_ff' ?_ | refine ifP_tf' ?_ | refine ifP_ft' ?_ | refine ifP_u' ?_ | refine optP_mk0 ?_))
      exact hq (j - 1) _ _ _ _ (by omega) ⟨k + 1, cv', f', by omega, by omega, s1.mono (by omega), s2, s3, s4, s5, s6, s7, f1, f2, f4, f23, f24, rfl⟩ (Sub.refl _)
    refine condP_t (bindP_mk (hP'.ix _ hk) (bindP_mk x3 ?_))
    refine local_mk zer_PosZ rfl (x := posL g.p[k] nv) rfl rfl (posL_ok y1.ok) hf' (show nx' ≤ nx' + 4 by omega) fun h3 hs3 hf3 g3 _ => ?_
    have hld : loadA ro h3 4 (at_ (nx' + 4) 0 0) = some (setV g.p[k].s) := by
      rw [loadA_own, g3, cellsIn_some]
      simp only [Option.bind_some, tl]
      rw [if_pos (by show 0 + 4 ≤ 9; omega)]; rfl
    (repeat (first | refine bindP_mk (by simp (disch := first | omega | exact Int.natCast_nonneg _ | assumption) only [BB, B2, ↓reduceIte, Nat.reduceLeDiff, Nat.reduceAdd, CC, hld] <;> rfl) ?_ | refine newP_mk ?_ | refine optP_mk ?_ | with_reducible first | refine condP_t ?_ | refine condP_f ?_ | refine ifP_tt' ?_ | refine ifP_ff' ?_ | refine ifP_tf' ?_ | refine ifP_ft' ?_ | refine ifP_u' ?_ | refine optP_mk0 ?_))
    refine app_Set (hsv.keepS hs3) (by omega) (hf3.mono (show nx' + 4 + 1 ≤ nx' + 10 by omega)) (by omega) (by omega) (by omega) fun h4 w q1 q2 q3 => ?_
    dsimp only
    have hsv3 := hsv.keepS hs3
    have hne : ∀ i o, h3.get i = some o → (∀ c f, o ≠ .cells c y_api_Set f) → h4.get i = some o := fun i o hi hty => q2 i o hi (hsv3.neB hi hty)
    have hb4 := hne _ _ (hs3 _ _ hb') (by intro c f e; simp only [Obj.cells.injEq] at e; exact absurd e.2.1 (by decide))
    have g4 := hne _ _ g3 (by intro c f e; simp only [Obj.cells.injEq] at e; exact absurd e.2.1 (by decide))
    have hm4 : MapG injI h4 nid f := by
      obtain ⟨es, c9, ps, a1, a2, a3⟩ := hm'
      exact ⟨es, c9, ps, hne _ _ (hs3 _ _ a1) (by intro c f e; cases e), a2, a3⟩
    have hk4 : Keep [bid, nid] h h4 := fun i o hi hn9 => by
      have := hf.lt' hi
      refine q2 i o (hs3 _ _ (hkp i o hi hn9)) fun e => ?_
      have := (hsv3.blk e).1
      omega
    have hcv4 : OwnT h4 cv 2 y_a2_int (cntC (cntsL (g.p.take k))) nx := (hcv.keepS hs3).keep q2 fun id hid => by
      obtain ⟨_, z⟩ := (hcv.keepS hs3).blk hid
      exact hsv3.neB z (by intro c f e; simp only [Obj.cells.injEq] at e; exact absurd e.2.1 (by decide))
    rw [← hst] at q1
    have p5 : (posL g.p[k] nv)[5]? = some (.int .i64 g.p[k].hi) := rfl
    have p4 : (posL g.p[k] nv)[4]? = some (.int .i64 g.p[k].lo) := rfl
    (repeat (first | refine bindP_mk (by simp (disch := first | omega | exact Int.natCast_nonneg _ | assumption) only [BB, B2, ↓reduceIte, Nat.reduceLeDiff, Nat.reduceAdd, CC, g4, p5] <;> rfl) ?_ | refine newP_mk ?_ | refine optP_mk ?_ | with_reducible first | refine condP_t ?_ | refine condP_f ?_ | refine ifP_tt' ?_ | refine ifP_ff' ?_ | refine ifP_tf' ?_ | refine ifP_ft' ?_ | refine ifP_u' ?_ | refine optP_mk0 ?_))
    refine gtr_s (fun u1 => ?_) (fun u1 => ?_)
    · rw [if_pos u1] at hct
      rw [decide_eq_true u1] at hcd
      have b2 := bldL_2 (av := av) (bv := bv) (nv := .map (some nid)) (fv := nilS) (c := List.replicate 256 0) (n := 0) (cv := cv) (sv := nilS) (kv := .map (some kid)) (ev := .map (some eid)) (yv := .map (some yid))
      have b261 := bldL_261 (av := av) (bv := bv) (nv := .map (some nid)) (fv := nilS) (c := List.replicate 256 0) (n := 0) (cv := cv) (sv := nilS) (kv := .map (some kid)) (ev := .map (some eid)) (yv := .map (some yid)) List.length_replicate
      have hcn := (hcv4.sl (ro := ro)).len
      rw [cntC_len] at hcn
      obtain ⟨es, ec, r1, r2⟩ := put_ii hm4 (k : Int) (.int .i64 (cntsL (g.p.take k)).length)
      (repeat (first | refine bindP_mk (by simp (disch := first | omega | exact Int.natCast_nonneg _ | assumption) only [BB, B2, ↓reduceIte, Nat.reduceLeDiff, Nat.reduceAdd, CC, nilCk_at, hb4, b2, b261, hcn, r1] <;> rfl) ?_ | refine newP_mk ?_ | refine optP_mk ?_ | with_reducible first | refine condP_t ?_ | refine condP_f ?_ | refine ifP_tt' ?_ | refine ifP_ff' ?_ | refine ifP_tf' ?_ | refine ifP_ft' ?_ | refine ifP_u' ?_ | refine optP_mk0 ?_))
      have hb5 : (h4.upd nid (some (.map es ec))).get bid = _ := (T.get_upd_ne _ _ hbn).trans hb4
      have hm5 := r2 (h4.upd nid (some (.map es ec))) (by rw [T.get_upd_same])
      have hnn : ∀ {v : Value} {z lo : Nat} {e : TypeId} {l : List (List Value)}, OwnT h4 v z e l lo → OwnT (h4.upd nid (some (.map es ec))) v z e l lo := fun ho => by
        rcases ho with ho | ⟨id, o1, rfl, o4, o5⟩
        · exact .inl ho
        · refine .inr ⟨id, o1, rfl, o4, ?_⟩
          rw [T.get_upd_ne _ _ (by rintro rfl; obtain ⟨_, _, q⟩ := hm4.obj; rw [q] at o5; cases o5)]; exact o5
      have hcv5 := hnn hcv4
      have hsv5 := hnn q1
      have g5 : (h4.upd nid (some (.map es ec))).get (nx' + 4) = _ := (T.get_upd_ne _ _ (by omega)).trans g4
      have hk5 : Keep [bid, nid] h (h4.upd nid (some (.map es ec))) := hk4.upd (by simp)
      have hf5 : Fr (h4.upd nid (some (.map es ec))) (nx' + 12 + 1) := q3.upd (Nat.le_refl _) (by omega)
      have hn5 : (h4.upd nid (some (.map es ec))).get nid = some (.map es ec) := T.get_upd_same _ _ _
      generalize h4.upd nid (some (.map es ec)) = h5 at hb5 hm5 hcv5 hsv5 g5 hk5 hf5 hn5
      (repeat (first | refine bindP_mk (by simp (disch := first | omega | exact Int.natCast_nonneg _ | assumption) only [BB, B2, ↓reduceIte, Nat.reduceLeDiff, Nat.reduceAdd, CC, nilCk_at, hb5, b261, g5, p4, p5] <;> rfl) ?_ | refine newP_mk ?_ | refine optP_mk ?_ | with_reducible first | refine condP_t ?_ | refine condP_f ?_ | refine ifP_tt' ?_ | refine ifP_ff' ?_ | refine ifP_tf' ?_ | refine ifP_ft' ?_ | refine ifP_u' ?_ | refine optP_mk0 ?_))
      refine bindP_mk (build_cnt _ _) ?_
      refine app_cnt hcv5 (by omega) (hf5.mono (show nx' + 12 + 1 ≤ nx' + 12 + 1 + 27 by omega)) (by omega) (by omega) (by omega) fun h6 w6 s1 s2 s3 => ?_
      dsimp only
      rw [← hct] at s1
      have hne6 : ∀ i o, h5.get i = some o → (∀ c f, o ≠ .cells c y_a2_int f) → h6.get i = some o := fun i o hi hty => s2 i o hi (hcv5.neB hi hty)
      have hb6 := hne6 _ _ hb5 (by intro c f e; simp only [Obj.cells.injEq] at e; exact absurd e.2.1 (by decide))
      have hn6 := hne6 _ _ hn5 (by intro c f e; cases e)
      have hm6 : MapG injI h6 nid fun b => if b = (k : Int) then some (.int .i64 ((cntsL (g.p.take k)).length : Nat)) else f b := hm5.keep (by rw [hn6, hn5])
      have hsv6 : OwnT h6 w 4 y_api_Set (setsC (setsL (g.p.take (k + 1)))) nx := hsv5.keep s2 fun id hid => by
        obtain ⟨_, z⟩ := hsv5.blk hid
        exact hcv5.neB z (by intro c f e; simp only [Obj.cells.injEq] at e; exact absurd e.2.1 (by decide))
      have hwok := s1.ok
      (repeat (first | refine bindP_mk (by simp (disch := first | omega | exact Int.natCast_nonneg _ | assumption) only [BB, B2, ↓reduceIte, Nat.reduceLeDiff, Nat.reduceAdd, CC, nilCk_at] <;> rfl) ?_ | refine newP_mk ?_ | refine optP_mk ?_ | with_reducible first | refine condP_t ?_ | refine condP_f ?_ | refine ifP_tt' ?_ | refine ifP_ff' ?_ | refine ifP_tf' ?_ | refine ifP_ft' ?_ | refine ifP_u' ?_ | refine optP_mk0 ?_))
      refine bindP_mk (store1_own (l := bldL av bv (.map (some nid)) nilS (List.replicate 256 0) 0 cv nilS (.map (some kid)) (.map (some eid)) (.map (some yid))) hb6 (by rw [bldL_len List.length_replicate]; omega) hwok (cells_of_ok hwok)) ?_
      rw [bldL_set261 List.length_replicate]
      refine hj4 _ _ _ w6 _ (by omega) ((s3.mono (show _ ≤ nx' + 12 + 1 + 33 + 1 by omega)).upd (Nat.le_refl _) (by omega)) ?_ (by rw [T.get_upd_same]) (hm6.keep (T.get_upd_ne _ _ hbn.symm)) ?_ ?_ ?_ f1 f2 f4 f23 f24 f25
      · refine Keep.upd (fun i o hi hn9 => ?_) (by simp)
        have := hf.lt' hi
        refine s2 i o (hk5 i o hi hn9) fun e => ?_
        have := (hcv5.blk e).1
        omega
      · intro q hq9
        show (if q = (k : Int) then _ else f q) = _
        by_cases hqk : q = (k : Int)
        · subst hqk
          rw [if_pos rfl, decide_eq_true (by omega), Bool.true_and, hcd, if_pos rfl, hnum]
        · rw [if_neg hqk, hfo q hq9]
          have : decide (q < ((k + 1 : Nat) : Int)) = decide (q < (k : Int)) := by
            rw [decide_eq_decide]; omega
          rw [this]
      · exact hsv6.updNe hb6 (by decide)
      · exact s1.updNe hb6 (by decide)
    · rw [if_neg (by omega)] at hct
      rw [decide_eq_false (by omega)] at hcd
      (repeat (first | refine bindP_mk (by simp (disch := first | omega | exact Int.natCast_nonneg _ | assumption) only [BB, B2, ↓reduceIte, Nat.reduceLeDiff, Nat.reduceAdd, CC] <;> rfl) ?_ | refine newP_mk ?_ | refine optP_mk ?_ | with_reducible first | refine condP_t ?_ | refine condP_f ?_ | refine ifP_tt' ?_ | refine ifP_ff' ?_ | refine ifP_tf' ?_ | refine ifP_ft' ?_ | refine ifP_u' ?_ | refine optP_mk0 ?_))
      refine hj4 _ _ _ cv f (by omega) (q3.mono (by omega)) hk4 hb4 hm4 ?_ q1 (by rw [hct]; exact hcv4) f1 f2 f4 f23 f24 f25
      intro q hq9
      rw [hfo q hq9]
      by_cases hqk : q = (k : Int)
      · subst hqk
        rw [hcd, Bool.and_false, Bool.and_false]
      · have : decide (q < ((k + 1 : Nat) : Int)) = decide (q < (k : Int)) := by
          rw [decide_eq_decide]; omega
        rw [this]
  · have hkl : k = g.p.length := by omega
    subst hkl
    rw [List.take_length] at hsv hcv
    refine condP_f (hx _ _ _ _ (fun e => by cases e) ?_)
    refine hQ _ _ _ _ cv f (by omega) (hf'.mono (by omega)) hkp hb' hm' (fun q hq9 => ?_) hsv hcv f2 f4 rfl
    rw [hfo q hq9]
    by_cases hqk : q < (g.p.length : Int)
    · rw [decide_eq_true hqk, Bool.true_and]
    · have : ctd g q = false := by
        unfold ctd GlD.at
        rw [List.getD_eq_getElem?_getD, List.getElem?_eq_none (by omega)]
        rfl
      rw [decide_eq_false hqk, this]; rfl
end
end V
end Go.Proofs.Ytmmdcdjkmakgpaa
set_option linter.unusedVariables false
set_option linter.unusedSimpArgs false
namespace Go.Proofs.Ytmmdcdjkmakgpaa
namespace V
open PA
attribute [local irreducible] bindP ifP condP newP optP exP beqP
def autD0 : AutoD := ⟨List.replicate 256 0, 0, [], []⟩
def ofB (g : GlD) : List Nat := firstZ (cls (setsL g.p)) (many (setsL g.p) : Int)
def ofD (g : GlD) (S : List StateD) : AutoD := ⟨cls (setsL g.p), (many (setsL g.p) : Int), cntsL g.p, S⟩
def ofZ (g : GlD) : Int × AutoD := if rightD g = true then (if (allZ g (ofB g) 256 0 [noS]).1 = 0 then (0, ofD g (allZ g (ofB g) 256 0 [noS]).2) else ((allZ g (ofB g) 256 0 [noS]).1, autD0)) else (1, autD0)
theorem Sub.delN {h h' : T Obj} {ids : List Nat} {n : Nat} (hs : Sub h h') (hf : Fr h n) (hi : ∀ i ∈ ids, n ≤ i) : Sub h (V.del h' ids) := fun k o hk => del_some (hs k o hk) fun hm => by
  have := hf.lt' hk
  have := hi k hm
  omega
theorem autD0_R {ro : Ro} {h : T Obj} : RAuto ro h autZ autD0 := ⟨nilS, nilS, rfl, List.length_replicate, fun x hx => by
  have := List.eq_of_mem_replicate hx
  omega, SlR.nil, SlR.nil, Nat.zero_le _, Nat.zero_le _⟩
theorem build_State0 : buildV Try.prog y_api_State [] = some (.agg #[nilS, nilS, nilS, nilS]) := by kernel_rfl
section
variable {av bv nv fv : Value} {c c' : List Nat} {n n' : Int} {cv sv kv ev yv : Value}
theorem bldL_drop4 : (bldL av bv nv fv c n cv sv kv ev yv).drop 4 = splitLI c n ++ [cv, sv, kv, ev, yv] := by
  show autL c n cv sv ++ [kv, ev, yv] = _
  unfold autL
  rw [List.append_assoc]; rfl
theorem bldL_over4 (hc : c.length = 256) (hc' : c'.length = 256) : over (bldL av bv nv fv c n cv sv kv ev yv) 4 (splitLI c' n') = bldL av bv nv fv c' n' cv sv kv ev yv := by
  unfold over
  rw [← List.drop_drop, bldL_drop4, splitLI_len hc', show 257 = (splitLI c n).length from (splitLI_len hc).symm, List.drop_left]
  show [av, bv, nv, fv] ++ splitLI c' n' ++ [cv, sv, kv, ev, yv] = _
  unfold bldL autL
  simp
theorem store_split {h : T Obj} {bid : Nat} {e : TypeId} {f : Nat × Nat} (hc : c.length = 256) (hc' : c'.length = 256) (hg : h.get bid = some (.cells (bldL av bv nv fv c n cv sv kv ev yv).toArray e f)) : storeN 257 h (at_ bid 4 0) (splitI c' n') = some (h.upd bid (some (.cells (bldL av bv nv fv c' n' cv sv kv ev yv).toArray e f))) := by
  rw [storeN_own, splitI_cells, hg]
  have h1 := splitLI_len (n := n') hc'
  have h2 := bldL_len (av := av) (bv := bv) (nv := nv) (fv := fv) (n := n) (cv := cv) (sv := sv) (kv := kv) (ev := ev) (yv := yv) hc
  rw [if_pos (by rw [ts]; exact h1), putIn_cells (by rw [tl, ts, h1, h2]; omega) (by rw [tl]; exact splitLI_ok _ _)]
  rw [tl, tl, bldL_over4 hc hc']; rfl
theorem load_split {ro : Ro} {h : T Obj} {bid : Nat} {e : TypeId} {f : Nat × Nat} (hc : c.length = 256) (hg : h.get bid = some (.cells (bldL av bv nv fv c n cv sv kv ev yv).toArray e f)) : loadA ro h 257 (at_ bid 4 0) = some (splitI c n) := by
  rw [loadA_own, hg, cellsIn_some]
  simp only [Option.bind_some, tl]
  rw [if_pos (by rw [bldL_len hc]; omega), bldL_drop4, List.take_append_of_le_length (by rw [splitLI_len hc]; omega), List.take_of_length_le (by rw [splitLI_len hc]; omega)]
  rfl
theorem load_auto {ro : Ro} {h : T Obj} {bid : Nat} {e : TypeId} {f : Nat × Nat} (hc : c.length = 256) (hg : h.get bid = some (.cells (bldL av bv nv fv c n cv sv kv ev yv).toArray e f)) : loadA ro h 259 (at_ bid 4 0) = some (.agg (autL c n cv sv).toArray) := by
  rw [loadA_own, hg, cellsIn_some]
  simp only [Option.bind_some, tl]
  rw [if_pos (by rw [bldL_len hc]; omega)]
  have : (bldL av bv nv fv c n cv sv kv ev yv).drop 4 = autL c n cv sv ++ [kv, ev, yv] := rfl
  rw [this, List.take_append_of_le_length (by rw [autL_len hc]; omega), List.take_of_length_le (by rw [autL_len hc]; omega)]
end
theorem cnt_R {ro : Ro} {h : T Obj} {v : Value} {l : List (Int × Int)} {lo : Nat} (ho : OwnT h v 2 y_a2_int (cntC l) lo) : SlR ro h v 2 RCount l := ⟨cntC l, ho.sl, cntC_len l, fun i x d hx hd => by
  unfold cntC at hx
  rw [List.getElem?_map, hd] at hx
  exact (Option.some.inj hx).symm⟩
theorem first_lt {c : List Nat} {n : Int} : ∀ b ∈ firstZ c n, b < 256 := by
  intro b hb
  unfold firstZ at hb
  split at hb
  · cases hb
  · obtain ⟨k, _, rfl⟩ := List.mem_map.1 hb
    unfold lb
    cases hq : (List.range' 0 (256 - 0)).find? fun b => decide (c.getD b 0 = k) with
    | none => simp
    | some q =>
      have := List.mem_of_find?_eq_some hq
      simp [List.mem_range'] at this
      simp; omega
theorem first_len {c : List Nat} {n : Int} : (firstZ c n).length ≤ 256 := by
  unfold firstZ
  split
  · simp
  · rw [List.length_map, List.length_range]; omega
theorem first_R {ro : Ro} {h : T Obj} {v : Value} {l : List Nat} {lo : Nat} (ho : OwnT h v 1 y_uint8 (bytesC l) lo) (hl : ∀ b ∈ l, b < 256) : SlR ro h v 1 RU8 l := ⟨bytesC l, ho.sl, bytesC_len l, fun i x d hx hd => by
  unfold bytesC at hx
  rw [List.getElem?_map, hd] at hx
  exact ⟨(Option.some.inj hx).symm, hl d (List.mem_of_getElem? hd)⟩⟩
theorem Own.toT {h : T Obj} {v : Value} {z : Nat} {e : TypeId} {l : List (List Value)} {lo hi : Nat} (ho : Own h v z e l lo hi) : OwnT h v z e l lo := by
  rcases ho with ho | ⟨id, h1, h2, h3, h4, h5⟩
  · exact .inl ho
  · exact .inr ⟨id, h1, h3, h4, h5⟩
set_option maxRecDepth 8000 in
set_option maxHeartbeats 2000000 in
theorem auto_Of_c {ro : Ro} {v : Value} {g : GlD} {h : T Obj} {nx : Nat} {K : KV} (hf : Fr h nx) (hg : RG ro h v g)
    (hK : ∀ h' nx' x, nx ≤ nx' → Sub h h' → Fr h' nx' → RAuto ro h' x (ofZ g).2 → K (.tuple #[.agg x.toArray, .int .i64 (ofZ g).1]) h' nx') : callP Try.prog ro i_auto_Of [v] h nx K := by
  obtain ⟨a, b, rfl, ha, hb⟩ := hg
  apply auto_Of_of
  unfold auto_Of
  refine param_mk hf (Nat.le_refl _) fun h1 hs1 hf1 g1 _ => ?_
  have g1 : h1.get nx = some (.cells [a, b].toArray y_api_Glush) := g1
  refine bindP_mk zer_Auto (obj_mk hf1 (Nat.le_refl _) fun h2 hs2 hf2 g2 _ => ?_)
  have g2 : h2.get (nx + 1) = some (.cells autZ.toArray y_api_Auto) := g2
  have g1 := hs2 _ _ g1
  have hs := hs1.trans hs2
  refine bindP_mk (loadA_all (l := [a, b]) g1 rfl) ?_
  refine glush_Right_c (hf2.mono (show nx + 1 + 1 ≤ nx + 5 by omega)) ⟨a, b, rfl, ha.sub hs, hb.sub hs (RPos.sub hs)⟩ fun n7 hn7 => ?_
  cases hr : rightD g with
  | false =>
    have hz : ofZ g = (1, autD0) := by unfold ofZ; rw [hr]; rfl
    rw [hz] at hK
    (repeat (first | refine bindP_mk (by simp (disch := first | omega | exact Int.natCast_nonneg _ | assumption) only [BB, B2, ↓reduceIte, Nat.reduceLeDiff, Nat.reduceAdd, CC] <;> rfl) ?_ | refine newP_mk ?_ | refine optP_mk ?_ | with_reducible first | refine condP_t ?_ | refine condP_f ?_ | refine ifP_tt' ?_ | refine ifP_ff' ?_ | refine ifP_tf' ?_ | refine ifP_ft' ?_ | refine ifP_u' ?_ | refine optP_mk0 ?_))
    refine bindP_mk build_Auto0 ?_
    refine bindP_mk (storeA_own (l := autZ) (vs := autZ) g2 rfl autZ_len autZ_len autZ_ok) ?_
    refine bindP_mk (loadA_all (l := autZ) (by rw [T.get_upd_same]) autZ_len) ?_
    exact ⟨h, hs.new hf (by omega), hK h _ autZ (by omega) (Sub.refl _) (hf.mono (by omega)) autD0_R⟩
  | true =>
    have hz : ofZ g = if (allZ g (ofB g) 256 0 [noS]).1 = 0 then (0, ofD g (allZ g (ofB g) 256 0 [noS]).2) else ((allZ g (ofB g) 256 0 [noS]).1, autD0) := by unfold ofZ; rw [hr]; rfl
    obtain ⟨hgl, hfr, hmay⟩ := right_parts hr
    have hgs : (setsL g.p).length ≤ 1000000 := by unfold setsL; rw [List.length_map]; omega
    (repeat (first | refine bindP_mk (by simp (disch := first | omega | exact Int.natCast_nonneg _ | assumption) only [BB, B2, ↓reduceIte, Nat.reduceLeDiff, Nat.reduceAdd, CC] <;> rfl) ?_ | refine newP_mk ?_ | refine optP_mk ?_ | with_reducible first | refine condP_t ?_ | refine condP_f ?_ | refine ifP_tt' ?_ | refine ifP_ff' ?_ | refine ifP_tf' ?_ | refine ifP_ft' ?_ | refine ifP_u' ?_ | refine optP_mk0 ?_))
    refine bindP_mk (loadA_all (l := [a, b]) g1 rfl) ?_
    refine obj_mk hf2 (show nx + 1 + 1 ≤ n7 + 2 by omega) fun h3 hs3 hf3 g3 _ => ?_
    refine obj_mk hf3 (show n7 + 2 + 1 ≤ n7 + 3 by omega) fun h4 hs4 hf4 g4 _ => ?_
    refine obj_mk hf4 (show n7 + 3 + 1 ≤ n7 + 4 by omega) fun h5 hs5 hf5 g5 _ => ?_
    refine obj_mk hf5 (show n7 + 4 + 1 ≤ n7 + 5 by omega) fun h6 hs6 hf6 g6 _ => ?_
    refine bindP_mk (build_bld _ _ _ _ _ _) ?_
    refine param_mk hf6 (show n7 + 5 + 1 ≤ n7 + 7 by omega) fun h7 hs7 hf7 g7 _ => ?_
    have g7 : h7.get (n7 + 7) = some (.cells (bldL a b (.map (some (n7 + 2))) nilS (List.replicate 256 0) 0 nilS nilS (.map (some (n7 + 3))) (.map (some (n7 + 4))) (.map (some (n7 + 5)))).toArray y_auto_builder) := g7
    have g3 := hs7 _ _ (hs6 _ _ (hs5 _ _ (hs4 _ _ g3)))
    have g4 := hs7 _ _ (hs6 _ _ (hs5 _ _ g4))
    have g5 := hs7 _ _ (hs6 _ _ g5)
    have g6 := hs7 _ _ g6
    have hs27 := (((hs3.trans hs4).trans hs5).trans hs6).trans hs7
    have g1 := hs27 _ _ g1
    have g2 := hs27 _ _ g2
    have hs := hs.trans hs27
    have hbl := (hb.sub hs (RPos.sub hs)).len
    have e1 : ([a, b] : List Value)[1]? = some b := rfl
    (repeat (first | refine bindP_mk (by simp (disch := first | omega | exact Int.natCast_nonneg _ | assumption) only [BB, B2, ↓reduceIte, Nat.reduceLeDiff, Nat.reduceAdd, CC, g1, e1, hbl] <;> rfl) ?_ | refine newP_mk ?_ | refine optP_mk ?_ | with_reducible first | refine condP_t ?_ | refine condP_f ?_ | refine ifP_tt' ?_ | refine ifP_ff' ?_ | refine ifP_tf' ?_ | refine ifP_ft' ?_ | refine ifP_u' ?_ | refine optP_mk0 ?_))
    refine Of_L3_c (gid := nx) (rid := nx + 1) (kid := n7 + 3) (eid := n7 + 4) (yid := n7 + 5) hr (hf7.mono (show n7 + 7 + 1 ≤ n7 + 14 by omega)) (hb.sub (hs.delN hf (by simp; omega)) (RPos.sub (hs.delN hf (by simp; omega)))) g7 g3 ?_ ?_ ?_ ?_ ?_ ?_ ?_ ?_
    · rfl
    · rfl
    · rfl
    · rfl
    · rfl
    · rfl
    · rfl
    intro e' h8 n8 sv cv fn hn8 hf8 hk8 g8 hm8 hno8 hsv hcv f2 f4 f5
    refine exP_e (beqP_t ?_)
    unfold auto_Of_j1
    rw [f4, f5]
    refine split_Of_c hgs (hf8.mono (show n8 ≤ n8 + 3 by omega)) hsv.sl fun n9 hn9 => ?_
    have hc := cls_length (setsL g.p)
    have hcb := cls_bound (l := setsL g.p)
    rw [splitI_nat]
    (repeat (first | refine bindP_mk (by simp (disch := first | omega | exact Int.natCast_nonneg _ | assumption) only [BB, B2, ↓reduceIte, Nat.reduceLeDiff, Nat.reduceAdd, CC, nilCk_at] <;> rfl) ?_ | refine newP_mk ?_ | refine optP_mk ?_ | with_reducible first | refine condP_t ?_ | refine condP_f ?_ | refine ifP_tt' ?_ | refine ifP_ff' ?_ | refine ifP_tf' ?_ | refine ifP_ft' ?_ | refine ifP_u' ?_ | refine optP_mk0 ?_))
    refine bindP_mk (store_split List.length_replicate hc g8) ?_
    have hf9 : Fr (h8.upd (n7 + 7) (some (.cells (bldL a b (.map (some (n7 + 2))) nilS (cls (setsL g.p)) (many (setsL g.p) : Int) cv nilS (.map (some (n7 + 3))) (.map (some (n7 + 4))) (.map (some (n7 + 5)))).toArray y_auto_builder))) n8 := hf8.upd (Nat.le_refl _) (by omega)
    have g9 : (h8.upd (n7 + 7) (some (.cells (bldL a b (.map (some (n7 + 2))) nilS (cls (setsL g.p)) (many (setsL g.p) : Int) cv nilS (.map (some (n7 + 3))) (.map (some (n7 + 4))) (.map (some (n7 + 5)))).toArray y_auto_builder))).get (n7 + 7) = _ := T.get_upd_same _ _ _
    have hk9 : Keep [n7 + 7, n7 + 2] h7 (h8.upd (n7 + 7) (some (.cells (bldL a b (.map (some (n7 + 2))) nilS (cls (setsL g.p)) (many (setsL g.p) : Int) cv nilS (.map (some (n7 + 3))) (.map (some (n7 + 4))) (.map (some (n7 + 5)))).toArray y_auto_builder))) := hk8.upd (by simp)
    have hm9 : MapG injI (h8.upd (n7 + 7) (some (.cells (bldL a b (.map (some (n7 + 2))) nilS (cls (setsL g.p)) (many (setsL g.p) : Int) cv nilS (.map (some (n7 + 3))) (.map (some (n7 + 4))) (.map (some (n7 + 5)))).toArray y_auto_builder))) (n7 + 2) fn := hm8.keep (T.get_upd_ne _ _ (by omega))
    have hcv9 : OwnT (h8.upd (n7 + 7) (some (.cells (bldL a b (.map (some (n7 + 2))) nilS (cls (setsL g.p)) (many (setsL g.p) : Int) cv nilS (.map (some (n7 + 3))) (.map (some (n7 + 4))) (.map (some (n7 + 5)))).toArray y_auto_builder))) cv 2 y_a2_int (cntC (cntsL g.p)) (n7 + 14) := hcv.updNe g8 (by decide)
    generalize h8.upd (n7 + 7) (some (.cells (bldL a b (.map (some (n7 + 2))) nilS (cls (setsL g.p)) (many (setsL g.p) : Int) cv nilS (.map (some (n7 + 3))) (.map (some (n7 + 4))) (.map (some (n7 + 5)))).toArray y_auto_builder)) = h9 at hf9 g9 hk9 hm9 hcv9
    (repeat (first | refine bindP_mk (by simp (disch := first | omega | exact Int.natCast_nonneg _ | assumption) only [BB, B2, ↓reduceIte, Nat.reduceLeDiff, Nat.reduceAdd, CC, nilCk_at] <;> rfl) ?_ | refine newP_mk ?_ | refine optP_mk ?_ | with_reducible first | refine condP_t ?_ | refine condP_f ?_ | refine ifP_tt' ?_ | refine ifP_ff' ?_ | refine ifP_tf' ?_ | refine ifP_ft' ?_ | refine ifP_u' ?_ | refine optP_mk0 ?_))
    refine bindP_mk (load_split hc g9) ?_
    refine split_First_c hc hcb (hf9.mono (show n8 ≤ n9 + 11 by omega)) fun r h10 n10 hn10 hs10 hf10 hr10 => ?_
    have hr10 := hr10.toT
    have hrok := hr10.ok
    have g10 := hs10 _ _ g9
    (repeat (first | refine bindP_mk (by simp (disch := first | omega | exact Int.natCast_nonneg _ | assumption) only [BB, B2, ↓reduceIte, Nat.reduceLeDiff, Nat.reduceAdd, CC, nilCk_at] <;> rfl) ?_ | refine newP_mk ?_ | refine optP_mk ?_ | with_reducible first | refine condP_t ?_ | refine condP_f ?_ | refine ifP_tt' ?_ | refine ifP_ff' ?_ | refine ifP_tf' ?_ | refine ifP_ft' ?_ | refine ifP_u' ?_ | refine optP_mk0 ?_))
    refine bindP_mk (store1_own (l := bldL a b (.map (some (n7 + 2))) nilS (cls (setsL g.p)) (many (setsL g.p) : Int) cv nilS (.map (some (n7 + 3))) (.map (some (n7 + 4))) (.map (some (n7 + 5)))) g10 (by rw [bldL_len hc]; omega) hrok (cells_of_ok hrok)) ?_
    rw [bldL_set3]
    refine bindP_mk build_State0 (bindP_mk (lit_State _ _ _ _ _) (optP_mk ?_))
    have hbd := hf10.lt' g10
    -- memory as the states' loop finds it
    have hf11 : Fr ((h10.upd (n7 + 7) (some (.cells (bldL a b (.map (some (n7 + 2))) r (cls (setsL g.p)) (many (setsL g.p) : Int) cv nilS (.map (some (n7 + 3))) (.map (some (n7 + 4))) (.map (some (n7 + 5)))).toArray y_auto_builder))).upd (n10 + 5) (some (.cells [nilS, nilS, nilS, nilS].toArray y_api_State))) (n10 + 6) := ((hf10.mono (show n10 ≤ n10 + 6 by omega)).upd (Nat.le_refl _) (by omega)).upd (Nat.le_refl _) (by omega)
    have g11 : ((h10.upd (n7 + 7) (some (.cells (bldL a b (.map (some (n7 + 2))) r (cls (setsL g.p)) (many (setsL g.p) : Int) cv nilS (.map (some (n7 + 3))) (.map (some (n7 + 4))) (.map (some (n7 + 5)))).toArray y_auto_builder))).upd (n10 + 5) (some (.cells [nilS, nilS, nilS, nilS].toArray y_api_State))).get (n7 + 7) = _ := (T.get_upd_ne _ _ (by omega)).trans (T.get_upd_same _ _ _)
    have gs11 : ((h10.upd (n7 + 7) (some (.cells (bldL a b (.map (some (n7 + 2))) r (cls (setsL g.p)) (many (setsL g.p) : Int) cv nilS (.map (some (n7 + 3))) (.map (some (n7 + 4))) (.map (some (n7 + 5)))).toArray y_auto_builder))).upd (n10 + 5) (some (.cells [nilS, nilS, nilS, nilS].toArray y_api_State))).get (n10 + 5) = _ := T.get_upd_same _ _ _
    have hk11 : Keep [n7 + 7, n7 + 2] h7 ((h10.upd (n7 + 7) (some (.cells (bldL a b (.map (some (n7 + 2))) r (cls (setsL g.p)) (many (setsL g.p) : Int) cv nilS (.map (some (n7 + 3))) (.map (some (n7 + 4))) (.map (some (n7 + 5)))).toArray y_auto_builder))).upd (n10 + 5) (some (.cells [nilS, nilS, nilS, nilS].toArray y_api_State))) := (((hk9.trans hs10.keepL).upd (by simp))).updN hf7 (by omega)
    have hm11 : MapG injI ((h10.upd (n7 + 7) (some (.cells (bldL a b (.map (some (n7 + 2))) r (cls (setsL g.p)) (many (setsL g.p) : Int) cv nilS (.map (some (n7 + 3))) (.map (some (n7 + 4))) (.map (some (n7 + 5)))).toArray y_auto_builder))).upd (n10 + 5) (some (.cells [nilS, nilS, nilS, nilS].toArray y_api_State))) (n7 + 2) fn := (hm9.sub hs10).keep (by rw [T.get_upd_ne _ _ (by omega), T.get_upd_ne _ _ (by omega)])
    have hcv11 : OwnT ((h10.upd (n7 + 7) (some (.cells (bldL a b (.map (some (n7 + 2))) r (cls (setsL g.p)) (many (setsL g.p) : Int) cv nilS (.map (some (n7 + 3))) (.map (some (n7 + 4))) (.map (some (n7 + 5)))).toArray y_auto_builder))).upd (n10 + 5) (some (.cells [nilS, nilS, nilS, nilS].toArray y_api_State))) cv 2 y_a2_int (cntC (cntsL g.p)) (n7 + 14) := ((hcv9.keepS hs10).updNe g10 (by decide)).keepS ((Sub.refl _).upd (by rw [T.get_upd_ne _ _ (by omega)]; exact hf10 _ (by omega)))
    have hr11 : OwnT ((h10.upd (n7 + 7) (some (.cells (bldL a b (.map (some (n7 + 2))) r (cls (setsL g.p)) (many (setsL g.p) : Int) cv nilS (.map (some (n7 + 3))) (.map (some (n7 + 4))) (.map (some (n7 + 5)))).toArray y_auto_builder))).upd (n10 + 5) (some (.cells [nilS, nilS, nilS, nilS].toArray y_api_State))) r 1 y_uint8 (bytesC (ofB g)) (n9 + 11) := (hr10.updNe g10 (by decide)).keepS ((Sub.refl _).upd (by rw [T.get_upd_ne _ _ (by omega)]; exact hf10 _ (by omega)))
    generalize (h10.upd (n7 + 7) (some (.cells (bldL a b (.map (some (n7 + 2))) r (cls (setsL g.p)) (many (setsL g.p) : Int) cv nilS (.map (some (n7 + 3))) (.map (some (n7 + 4))) (.map (some (n7 + 5)))).toArray y_auto_builder))).upd (n10 + 5) (some (.cells [nilS, nilS, nilS, nilS].toArray y_api_State)) = h11 at hf11 g11 gs11 hk11 hm11 hcv11 hr11
    (repeat (first | refine bindP_mk (by simp (disch := first | omega | exact Int.natCast_nonneg _ | assumption) only [BB, B2, ↓reduceIte, Nat.reduceLeDiff, Nat.reduceAdd, CC, nilCk_at] <;> rfl) ?_ | refine newP_mk ?_ | refine optP_mk ?_ | with_reducible first | refine condP_t ?_ | refine condP_f ?_ | refine ifP_tt' ?_ | refine ifP_ff' ?_ | refine ifP_tf' ?_ | refine ifP_ft' ?_ | refine ifP_u' ?_ | refine optP_mk0 ?_))
    refine bindP_mk (store1_own (l := bldL a b (.map (some (n7 + 2))) r (cls (setsL g.p)) (many (setsL g.p) : Int) cv nilS (.map (some (n7 + 3))) (.map (some (n7 + 4))) (.map (some (n7 + 5)))) g11 (by rw [bldL_len hc]; omega) rfl rfl) ?_
    rw [bldL_set262 hc]
    have hf12 : Fr (h11.upd (n7 + 7) (some (.cells (bldL a b (.map (some (n7 + 2))) r (cls (setsL g.p)) (many (setsL g.p) : Int) cv (.slice (some (own (n10 + 5) 4)) 1 1) (.map (some (n7 + 3))) (.map (some (n7 + 4))) (.map (some (n7 + 5)))).toArray y_auto_builder))) (n10 + 6) := hf11.upd (Nat.le_refl _) (by omega)
    have g12 : (h11.upd (n7 + 7) (some (.cells (bldL a b (.map (some (n7 + 2))) r (cls (setsL g.p)) (many (setsL g.p) : Int) cv (.slice (some (own (n10 + 5) 4)) 1 1) (.map (some (n7 + 3))) (.map (some (n7 + 4))) (.map (some (n7 + 5)))).toArray y_auto_builder))).get (n7 + 7) = _ := T.get_upd_same _ _ _
    have gs12 : (h11.upd (n7 + 7) (some (.cells (bldL a b (.map (some (n7 + 2))) r (cls (setsL g.p)) (many (setsL g.p) : Int) cv (.slice (some (own (n10 + 5) 4)) 1 1) (.map (some (n7 + 3))) (.map (some (n7 + 4))) (.map (some (n7 + 5)))).toArray y_auto_builder))).get (n10 + 5) = _ := (T.get_upd_ne _ _ (by omega)).trans gs11
    have hk12 : Keep [n7 + 7, n7 + 2] h7 (h11.upd (n7 + 7) (some (.cells (bldL a b (.map (some (n7 + 2))) r (cls (setsL g.p)) (many (setsL g.p) : Int) cv (.slice (some (own (n10 + 5) 4)) 1 1) (.map (some (n7 + 3))) (.map (some (n7 + 4))) (.map (some (n7 + 5)))).toArray y_auto_builder))) := hk11.upd (by simp)
    have hm12 : MapG injI (h11.upd (n7 + 7) (some (.cells (bldL a b (.map (some (n7 + 2))) r (cls (setsL g.p)) (many (setsL g.p) : Int) cv (.slice (some (own (n10 + 5) 4)) 1 1) (.map (some (n7 + 3))) (.map (some (n7 + 4))) (.map (some (n7 + 5)))).toArray y_auto_builder))) (n7 + 2) fn := hm11.keep (T.get_upd_ne _ _ (by omega))
    have hcv12 : OwnT (h11.upd (n7 + 7) (some (.cells (bldL a b (.map (some (n7 + 2))) r (cls (setsL g.p)) (many (setsL g.p) : Int) cv (.slice (some (own (n10 + 5) 4)) 1 1) (.map (some (n7 + 3))) (.map (some (n7 + 4))) (.map (some (n7 + 5)))).toArray y_auto_builder))) cv 2 y_a2_int (cntC (cntsL g.p)) (n7 + 14) := hcv11.updNe g11 (by decide)
    have hr12 : OwnT (h11.upd (n7 + 7) (some (.cells (bldL a b (.map (some (n7 + 2))) r (cls (setsL g.p)) (many (setsL g.p) : Int) cv (.slice (some (own (n10 + 5) 4)) 1 1) (.map (some (n7 + 3))) (.map (some (n7 + 4))) (.map (some (n7 + 5)))).toArray y_auto_builder))) r 1 y_uint8 (bytesC (ofB g)) (n9 + 11) := hr11.updNe g11 (by decide)
    generalize h11.upd (n7 + 7) (some (.cells (bldL a b (.map (some (n7 + 2))) r (cls (setsL g.p)) (many (setsL g.p) : Int) cv (.slice (some (own (n10 + 5) 4)) 1 1) (.map (some (n7 + 3))) (.map (some (n7 + 4))) (.map (some (n7 + 5)))).toArray y_auto_builder)) = h12 at hf12 g12 gs12 hk12 hm12 hcv12 hr12
    have k4 := hk12 _ _ g4 (by simp)
    have k5 := hk12 _ _ g5 (by simp)
    have k6 := hk12 _ _ g6 (by simp)
    have k2 := hk12 _ _ g2 (by simp; omega)
    have hs12 : Sub h h12 := fun i o hi => hk12 i o (hs _ _ hi) (by have := hf.lt' hi; simp; omega)
    have hB12 : Bd h12 g (n7 + 7) (n7 + 2) (n7 + 3) (n7 + 4) (n7 + 5) (n10 + 5) a b r (cls (setsL g.p)) (many (setsL g.p) : Int) cv [noS] [[nilS, nilS, nilS, nilS]] :=
      ⟨hc, g12, ⟨fn, hm12, hno8⟩, ⟨_, MapG.new k4, fun l hl _ => by
        have : isL l noS = false := decide_eq_false fun e => hl e.symm
        simp [List.findIdx?_cons, this]⟩, gs12, fun x hx => by simp at hx; rw [hx]; rfl, rfl, by simp, by simp, by omega⟩
    have hge : ∀ i ∈ [nx + 1, n7 + 7, n7 + 3, n7 + 4, n7 + 5, n10 + 5], nx ≤ i := by
      intro i hi
      simp only [List.mem_cons, List.not_mem_nil, or_false] at hi
      omega
    have hsd : Sub h (del h12 [nx + 1, n7 + 7, n7 + 3, n7 + 4, n7 + 5, n10 + 5]) := hs12.delN hf hge
    have hnot : ∀ {v : Value} {z lo : Nat} {e : TypeId} {l : List (List Value)}, e ≠ y_auto_builder → e ≠ y_api_State → e ≠ y_api_Auto → OwnT h12 v z e l lo → OwnT (del h12 [nx + 1, n7 + 7, n7 + 3, n7 + 4, n7 + 5, n10 + 5]) v z e l lo := fun he1 he2 he3 ho => ho.del fun id hid => by
      obtain ⟨_, z⟩ := ho.blk hid
      simp only [List.mem_cons, List.not_mem_nil, or_false, not_or]
      refine ⟨?_, ?_, ?_, ?_, ?_, ?_⟩ <;> rintro rfl
      · rw [z] at k2
        simp only [Option.some.injEq, Obj.cells.injEq] at k2
        exact he3 k2.2.1
      · rw [z] at g12
        simp only [Option.some.injEq, Obj.cells.injEq] at g12
        exact he1 g12.2.1
      · rw [z] at k4; cases k4
      · rw [z] at k5; cases k5
      · rw [z] at k6; cases k6
      · rw [z] at gs12
        simp only [Option.some.injEq, Obj.cells.injEq] at gs12
        exact he2 gs12.2.1
    have hcvd := hnot (by decide) (by decide) (by decide) hcv12
    refine Of_L1_c (hb := del h12 [nx + 1, n7 + 7, n7 + 3, n7 + 4, n7 + 5, n10 + 5]) (B := ofB g) (rid := nx + 1) hr first_len (by omega) (by omega) (by omega) (by omega) (by omega) (hb.sub hsd (RPos.sub hsd)) (ha.sub hsd) (first_R (hnot (by decide) (by decide) (by decide) hr12) first_lt) (hf12.mono (show n10 + 6 ≤ n10 + 11 by omega)) k2 hB12 (BMap.new k5) (BMap.new k6) (Sub.refl _) ⟨fun i x t hx ht => ?_, fun i x t hi hx ht => ?_⟩ (fun s hs => ?_) ?_ ?_ ?_ ?_ ?_
    · cases i with
      | succ i => simp at hx
      | zero =>
        simp at hx ht
        subst hx; subst ht
        exact ⟨nilS, nilS, nilS, nilS, rfl, Sl.nil, Sl.nil, Sl.nil, SlR.nil, Nat.zero_le _⟩
    · cases i with
      | succ i => simp at hx
      | zero =>
        simp at hx ht
        subst hx; subst ht
        exact ⟨⟨nilS, nilS, rfl⟩, rfl, rfl⟩
    · simp at hs; subst hs
      exact ⟨rfl, rfl, Nat.zero_le _⟩
    · exact f2
    · exact f4
    · rfl
    · intro hz9 e9 h13 n13 p1 p2 p3 p4 p5 p6
      rw [if_neg hz9] at hz
      rw [hz] at hK
      refine exP_r ?_
      rw [p5, p6]
      refine bindP_mk (loadA_all (l := autZ) p4 autZ_len) ?_
      exact ⟨h, hsd.trans p3, hK h _ autZ (by omega) (Sub.refl _) (hf.mono (by omega)) autD0_R⟩
    · intro hz9 e9 h13 n13 sid' cs' p1 p2 p3 p4 p5 p6 p7 p8 p9
      rw [if_pos hz9] at hz
      rw [hz] at hK
      refine exP_e (beqP_t ?_)
      unfold auto_Of_j2
      rw [p8, p9]
      have hb13 := p5.blk
      (repeat (first | refine bindP_mk (by simp (disch := first | omega | exact Int.natCast_nonneg _ | assumption) only [BB, B2, ↓reduceIte, Nat.reduceLeDiff, Nat.reduceAdd, CC, nilCk_at] <;> rfl) ?_ | refine newP_mk ?_ | refine optP_mk ?_ | with_reducible first | refine condP_t ?_ | refine condP_f ?_ | refine ifP_tt' ?_ | refine ifP_ff' ?_ | refine ifP_tf' ?_ | refine ifP_ft' ?_ | refine ifP_u' ?_ | refine optP_mk0 ?_))
      refine bindP_mk (load_auto hc hb13) ?_
      have hsvok : cellOk (.slice (some (own sid' 4)) cs'.length cs'.length) = true := rfl
      have hcvok := hcv12.ok
      refine bindP_mk (storeA_own (l := autZ) (vs := autL (cls (setsL g.p)) (many (setsL g.p) : Int) cv (.slice (some (own sid' 4)) cs'.length cs'.length)) p3 rfl (autL_len hc) autZ_len (autL_ok hcvok rfl)) ?_
      refine bindP_mk (loadA_all (l := autL (cls (setsL g.p)) (many (setsL g.p) : Int) cv (.slice (some (own sid' 4)) cs'.length cs'.length)) (by rw [T.get_upd_same]) (autL_len hc)) ?_
      refine ⟨_, Sub.refl _, ?_⟩
      have hfin : Sub (del h13 [nx + 1, n7 + 7, n7 + 3, n7 + 4, n7 + 5, sid']) (h13.upd (nx + 1) (some (.cells (autL (cls (setsL g.p)) (many (setsL g.p) : Int) cv (.slice (some (own sid' 4)) cs'.length cs'.length)).toArray y_api_Auto))) := fun i o hi => by
        rw [del_get] at hi
        split at hi
        · cases hi
        · rename_i hn
          rw [T.get_upd_ne _ _ (by rintro rfl; exact hn (by simp))]; exact hi
      have hrs : sid' ≠ nx + 1 := by
        rintro rfl
        have := p5.row
        rw [p3] at this
        simp only [Option.some.injEq, Obj.cells.injEq] at this
        exact absurd this.2.1 (by decide)
      refine hK _ _ _ (by omega) ((hsd.trans p4).trans hfin) ((p2.mono (show n13 ≤ n13 + 6 by omega)).upd (Nat.le_refl _) (by omega)) ⟨cv, _, rfl, hc, hcb, ?_, ⟨cs', ?_, p5.len, fun i x t hx ht => RState.sub hfin _ _ (p6 i x t hx ht)⟩, ?_, ?_⟩
      · exact cnt_R ((hcvd.keepS p4).keepS hfin)
      · refine OwnT.sl (h := h13.upd (nx + 1) _) (lo := 0) (e := y_api_State) (.inr ⟨sid', Nat.zero_le _, rfl, p5.z4, ?_⟩)
        rw [T.get_upd_ne _ _ hrs]; exact p5.row
      · have := cntsL_len g.p
        show (cntsL g.p).length ≤ maxB
        unfold maxB; omega
      · have := p5.few
        show (allZ g (ofB g) 256 0 [noS]).2.length ≤ maxB
        unfold maxB; omega
end V
end Go.Proofs.Ytmmdcdjkmakgpaa
set_option linter.unusedVariables false
set_option linter.unusedSimpArgs false
namespace Go.Proofs.Ytmmdcdjkmakgpaa
namespace V
open PA
structure Base (g : GlD) (S : List StateD) : Prop where
  ok : SOk g S
  few : S.length ≤ 256
  zero : ∃ s, S[0]? = some s ∧ s.l = []
  pos : ∀ (i : Nat) s, 0 < i → S[i]? = some s → s.l ≠ []
  dist : ∀ (i j : Nat) s t, S[i]? = some s → S[j]? = some t → s.l = t.l → i = j
def MvOk (g : GlD) (en st : Int → Bool) (b : Nat) (S : List StateD) (m : MoveD) : Prop :=
  (lZ g en st b = [] ∧ m.to = -1 ∧ m.ops = []) ∨ (lZ g en st b ≠ [] ∧ ∃ (k : Nat) (t : StateD), m.to = (k : Int) ∧ S[k]? = some t ∧ t.l = lZ g en st b ∧ m.ops = opsZ g en st (lZ g en st b))
def Ext (S S' : List StateD) : Prop := ∃ T, S' = S ++ T ∧ ∀ t ∈ T, t.rule = [] ∧ t.next = []
theorem Ext.refl (S : List StateD) : Ext S S := ⟨[], by simp, fun t ht => by cases ht⟩
theorem Ext.trans {a b c : List StateD} (h1 : Ext a b) (h2 : Ext b c) : Ext a c := by
  obtain ⟨T, rfl, h3⟩ := h1
  obtain ⟨U, rfl, h4⟩ := h2
  refine ⟨T ++ U, by rw [List.append_assoc], fun t ht => ?_⟩
  rcases List.mem_append.1 ht with ht | ht
  · exact h3 t ht
  · exact h4 t ht
def Grows (S S' : List StateD) : Prop := ∀ (i : Nat) s, S[i]? = some s → ∃ s', S'[i]? = some s' ∧ s'.l = s.l
theorem Grows.refl (S : List StateD) : Grows S S := fun i s h => ⟨s, h, rfl⟩
theorem Grows.trans {a b c : List StateD} (h1 : Grows a b) (h2 : Grows b c) : Grows a c := fun i s h => by
  obtain ⟨s1, h3, h4⟩ := h1 i s h
  obtain ⟨s2, h5, h6⟩ := h2 i s1 h3
  exact ⟨s2, h5, h6.trans h4⟩
theorem Ext.grows {S S' : List StateD} (h : Ext S S') : Grows S S' := fun i s hs => by
  obtain ⟨T, rfl, _⟩ := h
  have := (List.getElem?_eq_some_iff.1 hs).1
  exact ⟨s, by rw [List.getElem?_append_left this]; exact hs, rfl⟩
theorem MvOk.mono {g : GlD} {en st : Int → Bool} {b : Nat} {S S' : List StateD} {m : MoveD} (h : MvOk g en st b S m) (hg : Grows S S') : MvOk g en st b S' m := by
  rcases h with h | ⟨h1, k, t, h2, h3, h4, h5⟩
  · exact .inl h
  · obtain ⟨t', h6, h7⟩ := hg k t h3
    exact .inr ⟨h1, k, t', h2, h6, h7.trans h4, h5⟩
theorem goesZ_spec {g : GlD} {en st : Int → Bool} {b : Nat} {S : List StateD} (hb : Base g S) (h0 : (goesZ g en st b S).2.1 = 0) : Base g (goesZ g en st b S).2.2 ∧ Ext S (goesZ g en st b S).2.2 ∧ MvOk g en st b (goesZ g en st b S).2.2 (goesZ g en st b S).1 := by
  by_cases hl : lZ g en st b = []
  · rw [goesZ_nil hl]
    exact ⟨hb, Ext.refl _, .inl ⟨hl, rfl, rfl⟩⟩
  · have hrz := lZ_rz g en st b
    rw [goesZ_ne hl] at h0 ⊢
    dsimp only at h0 ⊢
    generalize hlz : lZ g en st b = l at hl h0 hrz
    unfold findZ at h0 ⊢
    cases hf : S.findIdx? (isL l) with
    | some k =>
      rw [hf] at h0
      obtain ⟨hk, h1, _⟩ := List.findIdx?_eq_some_iff_getElem.1 hf
      have h1 : (S[k]).l = l := of_decide_eq_true h1
      exact ⟨hb, Ext.refl _, .inr ⟨by rw [hlz]; exact hl, k, S[k], rfl, List.getElem?_eq_getElem hk, by rw [hlz]; exact h1, by rw [hlz]⟩⟩
    | none =>
      rw [hf] at h0
      dsimp only at h0 ⊢
      have hn := List.findIdx?_eq_none_iff.1 hf
      by_cases h3 : 3 < (regsZ g l).length
      · rw [if_pos h3] at h0; exact absurd h0 (by show ¬ (110 : Int) = 0; decide)
      · rw [if_neg h3] at h0 ⊢
        by_cases h4 : 256 ≤ S.length
        · rw [if_pos h4] at h0; exact absurd h0 (by show ¬ (3 : Int) = 0; decide)
        · rw [if_neg h4]
          have hne : ∀ s ∈ S, s.l ≠ l := fun s hs e => by
            have := hn s hs
            unfold isL at this
            exact absurd e (of_decide_eq_false this)
          have hget : ∀ (i : Nat) s, (S ++ [(⟨l, regsZ g l, [], []⟩ : StateD)])[i]? = some s → (S[i]? = some s) ∨ (i = S.length ∧ s = ⟨l, regsZ g l, [], []⟩) := fun i s hs => by
            rcases Nat.lt_or_ge i S.length with hi | hi
            · rw [List.getElem?_append_left hi] at hs; exact .inl hs
            · rw [List.getElem?_append_right hi] at hs
              generalize hq : i - S.length = q at hs
              cases q with
              | zero => simp at hs; exact .inr ⟨by omega, hs.symm⟩
              | succ q => simp at hs
          refine ⟨⟨fun s hs => ?_, by simp; omega, ?_, fun i s hi hs => ?_, fun i j s t hs ht he => ?_⟩, ⟨[⟨l, regsZ g l, [], []⟩], rfl, fun t ht => ?_⟩, .inr ⟨by rw [hlz]; exact hl, S.length, ⟨l, regsZ g l, [], []⟩, rfl, by simp, by rw [hlz], by rw [hlz]⟩⟩
          · rcases List.mem_append.1 hs with hs | hs
            · exact hb.ok s hs
            · simp at hs; subst hs; exact ⟨hrz, rfl, by show (regsZ g l).length ≤ 3; omega⟩
          · obtain ⟨s, h5, h6⟩ := hb.zero
            exact ⟨s, by rw [List.getElem?_append_left (List.getElem?_eq_some_iff.1 h5).1]; exact h5, h6⟩
          · rcases hget i s hs with hs | ⟨_, rfl⟩
            · exact hb.pos i s hi hs
            · exact hl
          · rcases hget i s hs with hs | ⟨hi, rfl⟩
            · rcases hget j t ht with ht | ⟨hj, rfl⟩
              · exact hb.dist i j s t hs ht he
              · exact absurd he (hne s (List.mem_of_getElem? hs))
            · rcases hget j t ht with ht | ⟨hj, rfl⟩
              · exact absurd he.symm (hne t (List.mem_of_getElem? ht))
              · omega
          · simp at ht; subst ht; exact ⟨rfl, rfl⟩
theorem rowZ_spec {g : GlD} {en st : Int → Bool} : ∀ {B : List Nat} {S : List StateD}, Base g S → (rowZ g en st B S).1 = 0 → Base g (rowZ g en st B S).2.2 ∧ Ext S (rowZ g en st B S).2.2 ∧ (rowZ g en st B S).2.1.length = B.length ∧ ∀ (j : Nat) b m, B[j]? = some b → (rowZ g en st B S).2.1[j]? = some m → MvOk g en st b (rowZ g en st B S).2.2 m
  | [], S, hb, _ => ⟨hb, Ext.refl _, rfl, fun j b m hj => by simp at hj⟩
  | b :: r, S, hb, h0 => by
    rw [rowZ_cons] at h0 ⊢
    by_cases h1 : (goesZ g en st b S).2.1 = 0
    · rw [if_pos h1] at h0 ⊢
      obtain ⟨g1, g2, g3⟩ := goesZ_spec hb h1
      obtain ⟨r1, r2, r3, r4⟩ := rowZ_spec (B := r) g1 h0
      refine ⟨r1, g2.trans r2, by simp [r3], fun j b' m hj hm => ?_⟩
      cases j with
      | zero => simp at hj hm; subst hj; subst hm; exact g3.mono r2.grows
      | succ j => exact r4 j b' m (by simpa using hj) (by simpa using hm)
    · rw [if_neg h1] at h0; exact absurd h0 h1
def doneZ (k c i : Nat) (s : StateD) : Nat := if i < k then (codesD (s.r.length : Int)).toNat else if i = k then c else 0
structure Made (g : GlD) (B : List Nat) (S : List StateD) (k c : Nat) : Prop where
  base : Base g S
  cnt : ∀ (i : Nat) s, S[i]? = some s → s.rule.length = doneZ k c i s ∧ s.next.length = doneZ k c i s
  rule : ∀ (i : Nat) s (q : Nat) ru, S[i]? = some s → s.rule[q]? = some ru → ru = ruleZ g (-1) (digs g s.l q)
  next : ∀ (i : Nat) s (q : Nat) row, S[i]? = some s → s.next[q]? = some row → row.length = B.length ∧ ∀ (j : Nat) b m, B[j]? = some b → row[j]? = some m → MvOk g (entersZ g i (digs g s.l q)) (staysZ (digs g s.l q)) b S m
theorem Base.modify {g : GlD} {S : List StateD} (hb : Base g S) (k : Nat) (rule : Int) (row : List MoveD) : Base g (S.modify k (addRow rule row)) ∧ Grows S (S.modify k (addRow rule row)) := by
  have hget : ∀ (i : Nat) s, (S.modify k (addRow rule row))[i]? = some s → ∃ t, S[i]? = some t ∧ t.l = s.l := fun i s hs => by
    by_cases hi : i = k
    · subst hi
      rw [modify_self] at hs
      cases hq : S[i]? with
      | none => rw [hq] at hs; cases hs
      | some t => rw [hq] at hs; cases hs; exact ⟨t, rfl, rfl⟩
    · rw [modify_ne hi] at hs; exact ⟨s, hs, rfl⟩
  have hgr : Grows S (S.modify k (addRow rule row)) := fun i s hs => by
    by_cases hi : i = k
    · subst hi; exact ⟨addRow rule row s, by rw [modify_self, hs]; rfl, rfl⟩
    · exact ⟨s, by rw [modify_ne hi]; exact hs, rfl⟩
  refine ⟨⟨modify_ok hb.ok _ _ _, by rw [List.length_modify]; exact hb.few, ?_, fun i s hi hs => ?_, fun i j s t hs ht he => ?_⟩, hgr⟩
  · obtain ⟨s, h1, h2⟩ := hb.zero
    obtain ⟨s', h3, h4⟩ := hgr 0 s h1
    exact ⟨s', h3, h4.trans h2⟩
  · obtain ⟨t, h1, h2⟩ := hget i s hs
    rw [← h2]; exact hb.pos i t hi h1
  · obtain ⟨s1, h1, h2⟩ := hget i s hs
    obtain ⟨t1, h3, h4⟩ := hget j t ht
    exact hb.dist i j s1 t1 h1 h3 (by rw [h2, h4, he])
theorem codeZ_spec {g : GlD} {B : List Nat} {S : List StateD} {k c : Nat} (hm : Made g B S k c) (hk : k < S.length) (h0 : (codeZ g B k (c : Int) S).1 = 0) : Made g B (codeZ g B k (c : Int) S).2 k (c + 1) ∧ Grows S (codeZ g B k (c : Int) S).2 := by
  obtain ⟨s, hs⟩ : ∃ s, S[k]? = some s := ⟨_, List.getElem?_eq_getElem hk⟩
  have hlk : lAt S k = s.l := by unfold lAt; rw [List.getD_eq_getElem?_getD, hs]; rfl
  have hcz : codeZ g B k (c : Int) S = if (rowZ g (entersZ g k (digs g s.l c)) (staysZ (digs g s.l c)) B S).1 = 0 then (0, (rowZ g (entersZ g k (digs g s.l c)) (staysZ (digs g s.l c)) B S).2.2.modify k (addRow (ruleZ g (-1) (digs g s.l c)) (rowZ g (entersZ g k (digs g s.l c)) (staysZ (digs g s.l c)) B S).2.1)) else ((rowZ g (entersZ g k (digs g s.l c)) (staysZ (digs g s.l c)) B S).1, S) := by
    unfold codeZ; rw [hlk]
  rw [hcz] at h0 ⊢
  by_cases h1 : (rowZ g (entersZ g k (digs g s.l c)) (staysZ (digs g s.l c)) B S).1 = 0
  · rw [if_pos h1]
    obtain ⟨r1, r2, r3, r4⟩ := rowZ_spec hm.base h1
    generalize rowZ g (entersZ g k (digs g s.l c)) (staysZ (digs g s.l c)) B S = Z at r1 r2 r3 r4
    dsimp only
    obtain ⟨b1, b2⟩ := r1.modify k (ruleZ g (-1) (digs g s.l c)) Z.2.1
    have hgr := r2.grows.trans b2
    obtain ⟨T, hT, hT2⟩ := r2
    have hZk : Z.2.2[k]? = some s := by rw [hT, List.getElem?_append_left hk]; exact hs
    have hget : ∀ (i : Nat) t, (Z.2.2.modify k (addRow (ruleZ g (-1) (digs g s.l c)) Z.2.1))[i]? = some t → (i = k ∧ t = addRow (ruleZ g (-1) (digs g s.l c)) Z.2.1 s) ∨ (i ≠ k ∧ i < S.length ∧ S[i]? = some t) ∨ (S.length ≤ i ∧ t.rule = [] ∧ t.next = []) := fun i t ht => by
      by_cases hi : i = k
      · subst hi
        rw [modify_self, hZk] at ht
        cases ht; exact .inl ⟨rfl, rfl⟩
      · rw [modify_ne hi, hT] at ht
        rcases Nat.lt_or_ge i S.length with hil | hil
        · rw [List.getElem?_append_left hil] at ht; exact .inr (.inl ⟨hi, hil, ht⟩)
        · rw [List.getElem?_append_right hil] at ht
          exact .inr (.inr ⟨hil, hT2 t (List.mem_of_getElem? ht)⟩)
    refine ⟨⟨b1, fun i t ht => ?_, fun i t q ru ht hq => ?_, fun i t q row ht hq => ?_⟩, hgr⟩
    · rcases hget i t ht with ⟨rfl, rfl⟩ | ⟨h2, h3, h4⟩ | ⟨h2, h3, h4⟩
      · have := hm.cnt i s hs
        unfold doneZ at this ⊢
        rw [if_neg (by omega), if_pos rfl] at this ⊢
        show (s.rule ++ [_]).length = _ ∧ (s.next ++ [_]).length = _
        simp [this.1, this.2]
      · have := hm.cnt i t h4
        unfold doneZ at this ⊢
        by_cases hik : i < k
        · rw [if_pos hik] at this ⊢; exact this
        · rw [if_neg hik, if_neg h2] at this ⊢; exact this
      · unfold doneZ
        rw [if_neg (by omega), if_neg (by omega), h3, h4]; exact ⟨rfl, rfl⟩
    · rcases hget i t ht with ⟨rfl, rfl⟩ | ⟨h2, h3, h4⟩ | ⟨h2, h3, h4⟩
      · have hq : (s.rule ++ [ruleZ g (-1) (digs g s.l c)])[q]? = some ru := hq
        have hc := hm.cnt i s hs
        unfold doneZ at hc
        rw [if_neg (by omega), if_pos rfl] at hc
        rcases Nat.lt_or_ge q s.rule.length with hql | hql
        · rw [List.getElem?_append_left hql] at hq; exact hm.rule i s q ru hs hq
        · rw [List.getElem?_append_right hql] at hq
          have hqc : q = c := by
            have := (List.getElem?_eq_some_iff.1 hq).1
            simp at this; omega
          subst hqc
          rw [hc.1, Nat.sub_self] at hq
          simp at hq; exact hq.symm
      · exact hm.rule i t q ru h4 hq
      · rw [h3] at hq; simp at hq
    · rcases hget i t ht with ⟨rfl, rfl⟩ | ⟨h2, h3, h4⟩ | ⟨h2, h3, h4⟩
      · have hq2 : (s.next ++ [Z.2.1])[q]? = some row := hq
        have hc := hm.cnt i s hs
        unfold doneZ at hc
        rw [if_neg (by omega), if_pos rfl] at hc
        rcases Nat.lt_or_ge q s.next.length with hql | hql
        · rw [List.getElem?_append_left hql] at hq2
          obtain ⟨n1, n2⟩ := hm.next i s q row hs hq2
          exact ⟨n1, fun j b m hj hm9 => (n2 j b m hj hm9).mono hgr⟩
        · rw [List.getElem?_append_right hql] at hq2
          have hqc : q = c := by
            have := (List.getElem?_eq_some_iff.1 hq2).1
            simp at this; omega
          subst hqc
          rw [hc.2, Nat.sub_self] at hq2
          simp at hq2; subst hq2
          exact ⟨r3, fun j b m hj hm9 => (r4 j b m hj hm9).mono b2⟩
      · obtain ⟨n1, n2⟩ := hm.next i t q row h4 hq
        exact ⟨n1, fun j b m hj hm9 => (n2 j b m hj hm9).mono hgr⟩
      · rw [h4] at hq; simp at hq
  · rw [if_neg h1] at h0; exact absurd h0 h1
theorem codesZ_spec {g : GlD} {B : List Nat} {k : Nat} : ∀ {n c : Nat} {S : List StateD}, Made g B S k c → k < S.length → (codesZ g B k n (c : Int) S).1 = 0 → Made g B (codesZ g B k n (c : Int) S).2 k (c + n) ∧ Grows S (codesZ g B k n (c : Int) S).2
  | 0, c, S, hm, _, _ => ⟨hm, Grows.refl _⟩
  | n + 1, c, S, hm, hk, h0 => by
    rw [codesZ_succ] at h0 ⊢
    by_cases h1 : (codeZ g B k (c : Int) S).1 = 0
    · rw [if_pos h1] at h0 ⊢
      obtain ⟨c1, c2⟩ := codeZ_spec hm hk h1
      have hk2 : k < (codeZ g B k (c : Int) S).2.length := by
        obtain ⟨s', h3, _⟩ := c2 k _ (List.getElem?_eq_getElem hk)
        exact (List.getElem?_eq_some_iff.1 h3).1
      obtain ⟨d1, d2⟩ := codesZ_spec (n := n) (c := c + 1) c1 hk2 h0
      refine ⟨?_, c2.trans d2⟩
      rw [show c + (n + 1) = c + 1 + n by omega]; exact d1
    · rw [if_neg h1] at h0; exact absurd h0 h1
theorem Grows.len {S S' : List StateD} (h : Grows S S') : S.length ≤ S'.length := by
  rcases Nat.lt_or_ge S'.length S.length with hl | hl
  · obtain ⟨s', h1, _⟩ := h S'.length _ (List.getElem?_eq_getElem hl)
    rw [List.getElem?_eq_none (Nat.le_refl _)] at h1; cases h1
  · exact hl
theorem Made.next' {g : GlD} {B : List Nat} {S : List StateD} {k : Nat} {s : StateD} (hs : S[k]? = some s) (hm : Made g B S k (codesD (s.r.length : Int)).toNat) : Made g B S (k + 1) 0 := by
  refine ⟨hm.base, fun i t ht => ?_, hm.rule, hm.next⟩
  have := hm.cnt i t ht
  unfold doneZ at this ⊢
  by_cases h1 : i < k
  · rw [if_pos h1] at this; rw [if_pos (by omega)]; exact this
  · by_cases h2 : i = k
    · subst h2
      rw [if_neg h1, if_pos rfl] at this
      rw [if_pos (by omega)]
      rw [hs] at ht; cases ht; exact this
    · rw [if_neg h1, if_neg h2] at this
      rw [if_neg (by omega)]
      by_cases h3 : i = k + 1
      · rw [if_pos h3]; exact this
      · rw [if_neg h3]; exact this
theorem allZ_spec {g : GlD} {B : List Nat} : ∀ {n k : Nat} {S : List StateD}, Made g B S k 0 → k ≤ S.length → k + n = 256 → (allZ g B n k S).1 = 0 → Made g B (allZ g B n k S).2 (allZ g B n k S).2.length 0 ∧ Grows S (allZ g B n k S).2
  | 0, k, S, hm, hk, hn, h0 => by
    have : k = S.length := by have := hm.base.few; omega
    exact ⟨by rw [this] at hm; exact hm, Grows.refl _⟩
  | n + 1, k, S, hm, hk, hn, h0 => by
    rw [allZ_succ] at h0 ⊢
    by_cases h1 : k < S.length
    · rw [if_pos h1] at h0 ⊢
      obtain ⟨s, hs⟩ : ∃ s, S[k]? = some s := ⟨_, List.getElem?_eq_getElem h1⟩
      have hgd : S.getD k noS = s := by rw [List.getD_eq_getElem?_getD, hs]; rfl
      rw [hgd] at h0 ⊢
      by_cases h2 : (codesZ g B k (codesD (s.r.length : Int)).toNat 0 S).1 = 0
      · rw [if_pos h2] at h0 ⊢
        obtain ⟨c1, c2⟩ := codesZ_spec (c := 0) hm h1 h2
        have hz : ((0 : Nat) : Int) = 0 := rfl
        rw [hz, Nat.zero_add] at c1
        rw [hz] at c2
        obtain ⟨s', h3, h4⟩ := c2 k s hs
        have hr : s'.r = s.r := by
          rw [(hm.base.ok s (List.mem_of_getElem? hs)).2.1, (c1.base.ok s' (List.mem_of_getElem? h3)).2.1, h4]
        have c3 := Made.next' h3 (by rw [hr]; exact c1)
        obtain ⟨d1, d2⟩ := allZ_spec (n := n) c3 (by have := (List.getElem?_eq_some_iff.1 h3).1; omega) (by omega) h0
        exact ⟨d1, c2.trans d2⟩
      · rw [if_neg h2] at h0; exact absurd h0 h2
    · rw [if_neg h1]
      have : k = S.length := by omega
      exact ⟨by rw [this] at hm; exact hm, Grows.refl _⟩
theorem made0 (g : GlD) (B : List Nat) : Made g B [noS] 0 0 := by
  have h1 : ∀ (i : Nat) s, [noS][i]? = some s → i = 0 ∧ s = noS := fun i s h => by
    cases i with
    | zero => simp at h; exact ⟨rfl, h.symm⟩
    | succ i => simp at h
  refine ⟨⟨fun s hs => ?_, by simp, ⟨noS, rfl, rfl⟩, fun i s hi hs => ?_, fun i j s t hs ht _ => ?_⟩, fun i s hs => ?_, fun i s q ru hs hq => ?_, fun i s q row hs hq => ?_⟩
  · simp at hs; subst hs; exact ⟨rfl, rfl, Nat.zero_le _⟩
  · have := (h1 i s hs).1; omega
  · rw [(h1 i s hs).1, (h1 j t ht).1]
  · obtain ⟨rfl, rfl⟩ := h1 i s hs; exact ⟨rfl, rfl⟩
  · obtain ⟨rfl, rfl⟩ := h1 i s hs; simp [noS] at hq
  · obtain ⟨rfl, rfl⟩ := h1 i s hs; simp [noS] at hq
theorem all_made {g : GlD} {B : List Nat} (h0 : (allZ g B 256 0 [noS]).1 = 0) : Made g B (allZ g B 256 0 [noS]).2 (allZ g B 256 0 [noS]).2.length 0 := (allZ_spec (made0 g B) (Nat.zero_le _) rfl h0).1
theorem Made.codes {g : GlD} {B : List Nat} {S : List StateD} (hm : Made g B S S.length 0) {i : Nat} {s : StateD} (hs : S[i]? = some s) : s.rule.length = (codesD (s.r.length : Int)).toNat ∧ s.next.length = (codesD (s.r.length : Int)).toNat := by
  have := hm.cnt i s hs
  unfold doneZ at this
  rw [if_pos (List.getElem?_eq_some_iff.1 hs).1] at this
  exact this
end V
end Go.Proofs.Ytmmdcdjkmakgpaa
set_option linter.unusedVariables false
set_option linter.unusedSimpArgs false
namespace Go.Proofs.Ytmmdcdjkmakgpaa
namespace V
open PA
theorem ofB_many (g : GlD) : (ofB g).length = many (setsL g.p) := by
  unfold ofB
  rw [firstZ_cls, List.length_map, List.length_range]
end V
end Go.Proofs.Ytmmdcdjkmakgpaa
set_option linter.unusedVariables false
set_option linter.unusedSimpArgs false
namespace Go.Proofs.Ytmmdcdjkmakgpaa
namespace V
attribute [local irreducible] callPre callP bindP
@[irreducible] def ref09_Right_j1 (ro : Ro) (K : KV) : Env → T Obj → Nat → Prop := fun e h nx => ∃ h45, Sub h45 h ∧ K (Value.bool true) h45 (nx + 1)
@[irreducible] def ref09_Right_L1 (ro : Ro) : PT := fun e h nx Q => bindP (fwdP 1 (e 1)) fun t19_46 => bindP (load1 ro h t19_46) fun t20_47 => bindP (lenSl t20_47) fun t21_48 => bindP (intB .lss (e 3) t21_48) fun t22_49 => condP t22_49 (bindP (fwdP 1 (e 1)) fun t25_50 => bindP (load1 ro h t25_50) fun t26_51 => bindP (ixSl 9 t26_51 (e 3)) fun t28_52 => bindP (loadA ro h 9 t28_52) fun t29_53 => bindP (zer Try.prog y_api_Pos) fun z54 => newP h (nx + 10) (.cells z54.cells y_api_Pos) fun h55 => bindP (storeN 9 h55 (ptr (nx + 10)) t29_53) fun h56 => bindP (fwdP 0 (ptr (nx + 10))) fun t30_57 => bindP (loadA ro h56 4 t30_57) fun t31_58 => bindP (buildV Try.prog y_api_Set []) fun t32_59 => bindP (plainTy Try.prog 20 y_api_Set) fun ks60 => bindP (aggB ks60 .eql t31_58 t32_59) fun t33_61 => ifP t33_61 false h56 (nx + 17) (fun k62 => bindP (fwdP 4 (ptr (nx + 10))) fun t35_66 => k62 t35_66 h56 (nx + 18)) fun t35_63 h64 n65 => ifP t33_61 false h64 n65 (fun k67 => bindP (load1 ro h64 t35_63) fun t36_71 => k67 t36_71 h64 (n65 + 1)) fun t36_68 h69 n70 => ifP t33_61 false h69 n70 (fun k72 => bindP (intB .lss t36_68 (Value.int IntKind.i64 1)) fun t37_76 => k72 t37_76 h69 (n70 + 1)) fun t37_73 h74 n75 => bindP (pickV t33_61 (Value.bool true) t37_73) fun t38_77 => ifP t38_77 false h74 (n75 + 2) (fun k78 => bindP (fwdP 4 (ptr (nx + 10))) fun t40_82 => k78 t40_82 h74 (n75 + 3)) fun t40_79 h80 n81 => ifP t38_77 false h80 n81 (fun k83 => bindP (load1 ro h80 t40_79) fun t41_87 => k83 t41_87 h80 (n81 + 1)) fun t41_84 h85 n86 => ifP t38_77 false h85 n86 (fun k88 => bindP (fwdP 5 (ptr (nx + 10))) fun t42_92 => k88 t42_92 h85 (n86 + 1)) fun t42_89 h90 n91 => ifP t38_77 false h90 n91 (fun k93 => bindP (load1 ro h90 t42_89) fun t43_97 => k93 t43_97 h90 (n91 + 1)) fun t43_94 h95 n96 => ifP t38_77 false h95 n96 (fun k98 => bindP (intB .gtr t41_84 t43_94) fun t44_102 => k98 t44_102 h95 (n96 + 1)) fun t44_99 h100 n101 => bindP (pickV t38_77 (Value.bool true) t44_99) fun t45_103 => ifP t45_103 false h100 (n101 + 2) (fun k104 => bindP (fwdP 5 (ptr (nx + 10))) fun t47_108 => k104 t47_108 h100 (n101 + 3)) fun t47_105 h106 n107 => ifP t45_103 false h106 n107 (fun k109 => bindP (load1 ro h106 t47_105) fun t48_113 => k109 t48_113 h106 (n107 + 1)) fun t48_110 h111 n112 => ifP t45_103 false h111 n112 (fun k114 => bindP (intB .gtr t48_110 (Value.int IntKind.i64 4096)) fun t49_118 => k114 t49_118 h111 (n112 + 1)) fun t49_115 h116 n117 => bindP (pickV t45_103 (Value.bool true) t49_115) fun t50_119 => ifP t50_119 false h116 (n117 + 2) (fun k120 => bindP (fwdP 6 (ptr (nx + 10))) fun t52_124 => k120 t52_124 h116 (n117 + 3)) fun t52_121 h122 n123 => ifP t50_119 false h122 n123 (fun k125 => bindP (load1 ro h122 t52_121) fun t53_129 => k125 t53_129 h122 (n123 + 1)) fun t53_126 h127 n128 => ifP t50_119 false h127 n128 (fun k130 => bindP (intB .lss t53_126 (Value.int IntKind.i64 0)) fun t54_134 => k130 t54_134 h127 (n128 + 1)) fun t54_131 h132 n133 => bindP (pickV t50_119 (Value.bool true) t54_131) fun t55_135 => ifP t55_135 false h132 (n133 + 2) (fun k136 => bindP (fwdP 6 (ptr (nx + 10))) fun t57_140 => k136 t57_140 h132 (n133 + 3)) fun t57_137 h138 n139 => ifP t55_135 false h138 n139 (fun k141 => bindP (load1 ro h138 t57_137) fun t58_145 => k141 t58_145 h138 (n139 + 1)) fun t58_142 h143 n144 => ifP t55_135 false h143 n144 (fun k146 => bindP (intB .geq t58_142 (Value.int IntKind.i64 512)) fun t59_150 => k146 t59_150 h143 (n144 + 1)) fun t59_147 h148 n149 => bindP (pickV t55_135 (Value.bool true) t59_147) fun t60_151 => ifP t60_151 false h148 (n149 + 2) (fun k152 => bindP (fwdP 8 (ptr (nx + 10))) fun t62_156 => k152 t62_156 h148 (n149 + 3)) fun t62_153 h154 n155 => ifP t60_151 false h154 n155 (fun k157 => bindP (load1 ro h154 t62_153) fun t63_161 => k157 t63_161 h154 (n155 + 1)) fun t63_158 h159 n160 => ifP t60_151 false h159 n160 (fun k162 => bindP (fwdP 1 (e 1)) fun t64_166 => k162 t64_166 h159 (n160 + 1)) fun t64_163 h164 n165 => ifP t60_151 false h164 n165 (fun k167 => bindP (load1 ro h164 t64_163) fun t65_171 => k167 t65_171 h164 (n165 + 1)) fun t65_168 h169 n170 => ifP t60_151 false h169 n170 (fun k172 => bindP (lenSl t65_168) fun t66_176 => k172 t66_176 h169 (n170 + 1)) fun t66_173 h174 n175 => ifP t60_151 false h174 n175 (fun k177 => callP Try.prog ro i_ref09_rises [t63_158, t66_173] h174 (n175 + 1) fun t67_181 h182 n183 => k177 t67_181 h182 n183) fun t67_178 h179 n180 => ifP t60_151 false h179 n180 (fun k184 => bindP (unV .not t67_178) fun t68_188 => k184 t68_188 h179 (n180 + 1)) fun t68_185 h186 n187 => bindP (pickV t60_151 (Value.bool true) t68_185) fun t69_189 => condP t69_189 (Q .ret (puts e [(18, (e 3)), (19, t19_46), (20, t20_47), (21, t21_48), (22, t22_49), (25, t25_50), (26, t26_51), (27, (e 3)), (28, t28_52), (29, t29_53), (4, (ptr (nx + 10))), (30, t30_57), (31, t31_58), (32, t32_59), (33, t33_61), (34, t33_61), (35, t35_63), (36, t36_68), (37, t37_73), (38, t38_77), (39, t38_77), (40, t40_79), (41, t41_84), (42, t42_89), (43, t43_94), (44, t44_99), (45, t45_103), (46, t45_103), (47, t47_105), (48, t48_110), (49, t49_115), (50, t50_119), (51, t50_119), (52, t52_121), (53, t53_126), (54, t54_131), (55, t55_135), (56, t55_135), (57, t57_137), (58, t58_142), (59, t59_147), (60, t60_151), (61, t60_151), (62, t62_153), (63, t63_158), (64, t64_163), (65, t65_168), (66, t66_173), (67, t67_178), (68, t68_185), (69, t69_189), (2, (Value.bool false))]) h186 (n187 + 2)) (bindP (intB .add (e 3) (Value.int IntKind.i64 1)) fun t24_190 => Q .normal (puts e [(18, (e 3)), (19, t19_46), (20, t20_47), (21, t21_48), (22, t22_49), (25, t25_50), (26, t26_51), (27, (e 3)), (28, t28_52), (29, t29_53), (4, (ptr (nx + 10))), (30, t30_57), (31, t31_58), (32, t32_59), (33, t33_61), (34, t33_61), (35, t35_63), (36, t36_68), (37, t37_73), (38, t38_77), (39, t38_77), (40, t40_79), (41, t41_84), (42, t42_89), (43, t43_94), (44, t44_99), (45, t45_103), (46, t45_103), (47, t47_105), (48, t48_110), (49, t49_115), (50, t50_119), (51, t50_119), (52, t52_121), (53, t53_126), (54, t54_131), (55, t55_135), (56, t55_135), (57, t57_137), (58, t58_142), (59, t59_147), (60, t60_151), (61, t60_151), (62, t62_153), (63, t63_158), (64, t64_163), (65, t65_168), (66, t66_173), (67, t67_178), (68, t68_185), (69, t69_189), (23, (e 3)), (24, t24_190), (3, t24_190)]) h186 (n187 + 4))) (Q (.exit 0) (puts e [(18, (e 3)), (19, t19_46), (20, t20_47), (21, t21_48), (22, t22_49)]) h (nx + 5))
@[irreducible] def ref09_Right (ro : Ro) (v0 : Value) (h : T Obj) (nx : Nat) (K : KV) : Prop := newP h nx (.cells (Value.cells v0) y_api_Glush) fun h1 => bindP (fwdP 1 (ptr nx)) fun t5_2 => bindP (load1 ro h1 t5_2) fun t6_3 => bindP (lenSl t6_3) fun t7_4 => bindP (intB .gtr t7_4 (Value.int IntKind.i64 512)) fun t8_5 => ifP t8_5 false h1 (nx + 7) (fun k6 => bindP (fwdP 0 (ptr nx)) fun t10_10 => k6 t10_10 h1 (nx + 8)) fun t10_7 h8 n9 => ifP t8_5 false h8 n9 (fun k11 => bindP (load1 ro h8 t10_7) fun t11_15 => k11 t11_15 h8 (n9 + 1)) fun t11_12 h13 n14 => ifP t8_5 false h13 n14 (fun k16 => bindP (fwdP 1 (ptr nx)) fun t12_20 => k16 t12_20 h13 (n14 + 1)) fun t12_17 h18 n19 => ifP t8_5 false h18 n19 (fun k21 => bindP (load1 ro h18 t12_17) fun t13_25 => k21 t13_25 h18 (n19 + 1)) fun t13_22 h23 n24 => ifP t8_5 false h23 n24 (fun k26 => bindP (lenSl t13_22) fun t14_30 => k26 t14_30 h23 (n24 + 1)) fun t14_27 h28 n29 => ifP t8_5 false h28 n29 (fun k31 => callP Try.prog ro i_ref09_rises [t11_12, t14_27] h28 (n29 + 1) fun t15_35 h36 n37 => k31 t15_35 h36 n37) fun t15_32 h33 n34 => ifP t8_5 false h33 n34 (fun k38 => bindP (unV .not t15_32) fun t16_42 => k38 t16_42 h33 (n34 + 1)) fun t16_39 h40 n41 => bindP (pickV t8_5 (Value.bool true) t16_39) fun t17_43 => condP t17_43 (∃ h44, Sub h44 h40 ∧ K (Value.bool false) h44 (n41 + 2)) (loopP (ref09_Right_L1 ro) (puts (entE [v0]) [(1, (ptr nx)), (2, (Value.bool false)), (5, t5_2), (6, t6_3), (7, t7_4), (8, t8_5), (9, t8_5), (10, t10_7), (11, t11_12), (12, t12_17), (13, t13_22), (14, t14_27), (15, t15_32), (16, t16_39), (17, t17_43), (3, (Value.int IntKind.i64 0))]) h40 (n41 + 2) fun x194 e191 h192 n193 => exP x194 (ref09_Right_j1 ro K e191 h192 n193) (fun i195 => beqP (Nat.beq i195 0) (ref09_Right_j1 ro K e191 h192 n193) (False)) (∃ h196, Sub h196 h192 ∧ K (e191 2) h196 n193))
theorem ref09_Right_eq (ro : Ro) (v0 : Value) (h : T Obj) (nx : Nat) (K : KV) : callPre Try.prog ro (callP Try.prog ro) Try.f23 [v0] h nx K = ref09_Right ro v0 h nx K := by kernel_rfl
theorem ref09_Right_of {ro : Ro} {v0 : Value} {h : T Obj} {nx : Nat} {K : KV} (hw : ref09_Right ro v0 h nx K) : callP Try.prog ro i_ref09_Right [v0] h nx K := callP_by (P := Try.prog) (fn := Try.f23) (by kernel_rfl) (by kernel_rfl) (by kernel_rfl) (Eq.mpr (ref09_Right_eq ro v0 h nx K) hw)
@[irreducible] def ref09_rises_j1 (ro : Ro) (K : KV) : Env → T Obj → Nat → Prop := fun e h nx => ∃ h1, Sub h1 h ∧ K (Value.bool true) h1 (nx + 1)
@[irreducible] def ref09_rises_L1 (ro : Ro) : PT := fun e h nx Q => bindP (lenSl (e 0)) fun t8_2 => bindP (intB .lss (e 5) t8_2) fun t9_3 => condP t9_3 (bindP (ixSl 1 (e 0) (e 5)) fun t14_4 => bindP (load1 ro h t14_4) fun t15_5 => bindP (intB .lss t15_5 (Value.int IntKind.i64 0)) fun t16_6 => ifP t16_6 false h (nx + 33) (fun k7 => k7 (e 0) h (nx + 33)) fun t18_8 h9 n10 => ifP t16_6 false h9 n10 (fun k11 => k11 (e 5) h9 n10) fun t19_12 h13 n14 => ifP t16_6 false h13 n14 (fun k15 => bindP (ixSl 1 t18_8 t19_12) fun t20_19 => k15 t20_19 h13 n14) fun t20_16 h17 n18 => ifP t16_6 false h17 n18 (fun k20 => bindP (load1 ro h17 t20_16) fun t21_24 => k20 t21_24 h17 n18) fun t21_21 h22 n23 => ifP t16_6 false h22 n23 (fun k25 => k25 (e 1) h22 n23) fun t22_26 h27 n28 => ifP t16_6 false h27 n28 (fun k29 => bindP (intB .geq t21_21 t22_26) fun t23_33 => k29 t23_33 h27 n28) fun t23_30 h31 n32 => bindP (pickV t16_6 (Value.bool true) t23_30) fun t24_34 => ifP t24_34 false h31 n32 (fun k35 => k35 (e 5) h31 n32) fun t26_36 h37 n38 => ifP t24_34 false h37 n38 (fun k39 => bindP (intB .gtr t26_36 (Value.int IntKind.i64 0)) fun t27_43 => k39 t27_43 h37 n38) fun t27_40 h41 n42 => ifP t24_34 false h41 n42 (fun k44 => k44 t27_40 h41 n42) fun t28_45 h46 n47 => ifP t28_45 true h46 n47 (fun k48 => k48 (e 0) h46 n47) fun t29_49 h50 n51 => ifP t28_45 true h50 n51 (fun k52 => k52 (e 5) h50 n51) fun t30_53 h54 n55 => ifP t28_45 true h54 n55 (fun k56 => bindP (intB .sub t30_53 (Value.int IntKind.i64 1)) fun t31_60 => k56 t31_60 h54 n55) fun t31_57 h58 n59 => ifP t28_45 true h58 n59 (fun k61 => bindP (ixSl 1 t29_49 t31_57) fun t32_65 => k61 t32_65 h58 n59) fun t32_62 h63 n64 => ifP t28_45 true h63 n64 (fun k66 => bindP (load1 ro h63 t32_62) fun t33_70 => k66 t33_70 h63 n64) fun t33_67 h68 n69 => ifP t28_45 true h68 n69 (fun k71 => k71 (e 0) h68 n69) fun t34_72 h73 n74 => ifP t28_45 true h73 n74 (fun k75 => k75 (e 5) h73 n74) fun t35_76 h77 n78 => ifP t28_45 true h77 n78 (fun k79 => bindP (ixSl 1 t34_72 t35_76) fun t36_83 => k79 t36_83 h77 n78) fun t36_80 h81 n82 => ifP t28_45 true h81 n82 (fun k84 => bindP (load1 ro h81 t36_80) fun t37_88 => k84 t37_88 h81 n82) fun t37_85 h86 n87 => ifP t28_45 true h86 n87 (fun k89 => bindP (intB .geq t33_67 t37_85) fun t38_93 => k89 t38_93 h86 n87) fun t38_90 h91 n92 => ifP t24_34 false h91 n92 (fun k94 => bindP (pickV t28_45 t38_90 (Value.bool false)) fun t39_98 => k94 t39_98 h91 n92) fun t39_95 h96 n97 => bindP (pickV t24_34 (Value.bool true) t39_95) fun t40_99 => condP t40_99 (Q .ret (puts e [(6, (e 5)), (7, (e 0)), (8, t8_2), (9, t9_3), (12, (e 0)), (13, (e 5)), (14, t14_4), (15, t15_5), (16, t16_6), (17, t16_6), (18, t18_8), (19, t19_12), (20, t20_16), (21, t21_21), (22, t22_26), (23, t23_30), (24, t24_34), (25, t24_34), (26, t26_36), (27, t27_40), (28, t28_45), (29, t29_49), (30, t30_53), (31, t31_57), (32, t32_62), (33, t33_67), (34, t34_72), (35, t35_76), (36, t36_80), (37, t37_85), (38, t38_90), (39, t39_95), (40, t40_99), (4, (Value.bool false))]) h96 (n97 + 1)) (bindP (intB .add (e 5) (Value.int IntKind.i64 1)) fun t11_100 => Q .normal (puts e [(6, (e 5)), (7, (e 0)), (8, t8_2), (9, t9_3), (12, (e 0)), (13, (e 5)), (14, t14_4), (15, t15_5), (16, t16_6), (17, t16_6), (18, t18_8), (19, t19_12), (20, t20_16), (21, t21_21), (22, t22_26), (23, t23_30), (24, t24_34), (25, t24_34), (26, t26_36), (27, t27_40), (28, t28_45), (29, t29_49), (30, t30_53), (31, t31_57), (32, t32_62), (33, t33_67), (34, t34_72), (35, t35_76), (36, t36_80), (37, t37_85), (38, t38_90), (39, t39_95), (40, t40_99), (10, (e 5)), (11, t11_100), (5, t11_100)]) h96 (n97 + 3))) (Q (.exit 0) (puts e [(6, (e 5)), (7, (e 0)), (8, t8_2), (9, t9_3)]) h (nx + 4))
@[irreducible] def ref09_rises (ro : Ro) (v0 v1 : Value) (h : T Obj) (nx : Nat) (K : KV) : Prop := loopP (ref09_rises_L1 ro) (puts (entE [v0, v1]) [(4, (Value.bool false)), (5, (Value.int IntKind.i64 0))]) h (nx + 2) fun x104 e101 h102 n103 => exP x104 (ref09_rises_j1 ro K e101 h102 n103) (fun i105 => beqP (Nat.beq i105 0) (ref09_rises_j1 ro K e101 h102 n103) (False)) (∃ h106, Sub h106 h102 ∧ K (e101 4) h106 n103)
theorem ref09_rises_eq (ro : Ro) (v0 v1 : Value) (h : T Obj) (nx : Nat) (K : KV) : callPre Try.prog ro (callP Try.prog ro) Try.f45 [v0, v1] h nx K = ref09_rises ro v0 v1 h nx K := by kernel_rfl
theorem ref09_rises_of {ro : Ro} {v0 v1 : Value} {h : T Obj} {nx : Nat} {K : KV} (hw : ref09_rises ro v0 v1 h nx K) : callP Try.prog ro i_ref09_rises [v0, v1] h nx K := callP_by (P := Try.prog) (fn := Try.f45) (by kernel_rfl) (by kernel_rfl) (by kernel_rfl) (Eq.mpr (ref09_rises_eq ro v0 v1 h nx K) hw)
@[irreducible] def ref11_in_j1 (ro : Ro) (K : KV) : Env → T Obj → Nat → Prop := fun e h nx => ∃ h1, Sub h1 h ∧ K (Value.bool false) h1 (nx + 1)
@[irreducible] def ref11_in_L1 (ro : Ro) : PT := fun e h nx Q => bindP (lenSl (e 0)) fun t8_2 => bindP (intB .lss (e 5) t8_2) fun t9_3 => condP t9_3 (bindP (ixSl 1 (e 0) (e 5)) fun t14_4 => bindP (load1 ro h t14_4) fun t15_5 => bindP (intB .eql t15_5 (e 1)) fun t17_6 => condP t17_6 (Q .ret (puts e [(6, (e 5)), (7, (e 0)), (8, t8_2), (9, t9_3), (12, (e 0)), (13, (e 5)), (14, t14_4), (15, t15_5), (16, (e 1)), (17, t17_6), (4, (Value.bool true))]) h (nx + 11)) (bindP (intB .add (e 5) (Value.int IntKind.i64 1)) fun t11_7 => Q .normal (puts e [(6, (e 5)), (7, (e 0)), (8, t8_2), (9, t9_3), (12, (e 0)), (13, (e 5)), (14, t14_4), (15, t15_5), (16, (e 1)), (17, t17_6), (10, (e 5)), (11, t11_7), (5, t11_7)]) h (nx + 13))) (Q (.exit 0) (puts e [(6, (e 5)), (7, (e 0)), (8, t8_2), (9, t9_3)]) h (nx + 4))
@[irreducible] def ref11_in (ro : Ro) (v0 v1 : Value) (h : T Obj) (nx : Nat) (K : KV) : Prop := loopP (ref11_in_L1 ro) (puts (entE [v0, v1]) [(4, (Value.bool false)), (5, (Value.int IntKind.i64 0))]) h (nx + 2) fun x11 e8 h9 n10 => exP x11 (ref11_in_j1 ro K e8 h9 n10) (fun i12 => beqP (Nat.beq i12 0) (ref11_in_j1 ro K e8 h9 n10) (False)) (∃ h13, Sub h13 h9 ∧ K (e8 4) h13 n10)
theorem ref11_in_eq (ro : Ro) (v0 v1 : Value) (h : T Obj) (nx : Nat) (K : KV) : callPre Try.prog ro (callP Try.prog ro) Try.f87 [v0, v1] h nx K = ref11_in ro v0 v1 h nx K := by kernel_rfl
theorem ref11_in_of {ro : Ro} {v0 v1 : Value} {h : T Obj} {nx : Nat} {K : KV} (hw : ref11_in ro v0 v1 h nx K) : callP Try.prog ro i_ref11_in [v0, v1] h nx K := callP_by (P := Try.prog) (fn := Try.f87) (by kernel_rfl) (by kernel_rfl) (by kernel_rfl) (Eq.mpr (ref11_in_eq ro v0 v1 h nx K) hw)
end V
end Go.Proofs.Ytmmdcdjkmakgpaa
set_option linter.unusedVariables false
set_option linter.unusedSimpArgs false
namespace Go.Proofs.Ytmmdcdjkmakgpaa
namespace V
attribute [local irreducible] bindP ifP condP newP optP exP beqP
theorem ref11_in_c {ro : Ro} {v : Value} {l : List Int} {p : Int} (hlen : l.length ≤ 1000000) {h : T Obj} {nx : Nat} {K : KV} (hv : ZI ro h v l) (hK : ∀ nx', nx ≤ nx' → K (.bool (l.contains p)) h nx') : callP Try.prog ro i_ref11_in [v, .int .i64 p] h nx K := by
  apply ref11_in_of
  unfold ref11_in
  generalize hR : l.contains p = R at hK
  refine loopP_rule (fun j e h' nx' => ∃ (k : Nat), k + j = l.length ∧ nx ≤ nx' ∧ h' = h ∧ e 0 = v ∧ e 1 = .int .i64 p ∧ e 5 = .int .i64 k ∧ (l.drop k).contains p = R) ?_ (n := l.length) ⟨0, by omega, by omega, rfl, rfl, rfl, rfl, hR⟩
  rintro j e h' nx' ⟨k, hj, hnx, rfl, e0, e1, e5, hr⟩ Q' hq hx
  unfold ref11_in_L1
  rw [e0, e1, e5]
  refine bindP_mk hv.len ?_
  refine lss_s (fun hk => ?_) (fun hk => ?_)
  · have hk : k < l.length := by omega
    rw [drop_cons hk] at hr
    (repeat (first | refine bindP_mk (by simp (disch := first | omega | exact Int.natCast_nonneg _ | assumption) only [BB, B2, ↓reduceIte, Nat.reduceLeDiff, Nat.reduceAdd, CC] <;> rfl) ?_ | refine newP_mk ?_ | refine optP_mk ?_ | with_reducible first | refine condP_t ?_ | refine condP_f ?_ | refine ifP_tt' ?_ | refine ifP_ff' ?_ | refine ifP_tf' ?_ | refine ifP_ft' ?_ | refine ifP_u' ?_ | refine optP_mk0 ?_))
    refine bindP_mk (hv.ix _ hk) (bindP_mk (hv.load hk) ?_)
    generalize l[k] = x at hr
    refine eql_s (fun he => ?_) (fun he => ?_)
    · (repeat (first | refine bindP_mk (by simp (disch := first | omega | exact Int.natCast_nonneg _ | assumption) only [BB, B2, ↓reduceIte, Nat.reduceLeDiff, Nat.reduceAdd, CC] <;> rfl) ?_ | refine newP_mk ?_ | refine optP_mk ?_ | with_reducible first | refine condP_t ?_ | refine condP_f ?_ | refine ifP_tt' ?_ | refine ifP_ff' ?_ | refine ifP_tf' ?_ | refine ifP_ft' ?_ | refine ifP_u' ?_ | refine optP_mk0 ?_))
      refine hx _ _ _ _ (fun e => by cases e) (exP_r ?_)
      exact ⟨_, Sub.refl _, kb hK (by rw [← hr, he]; simp) (by omega)⟩
    · (repeat (first | refine bindP_mk (by simp (disch := first | omega | exact Int.natCast_nonneg _ | assumption) only [BB, B2, ↓reduceIte, Nat.reduceLeDiff, Nat.reduceAdd, CC] <;> rfl) ?_ | refine newP_mk ?_ | refine optP_mk ?_ | with_reducible first | refine condP_t ?_ | refine condP_f ?_ | refine ifP_tt' ?_ | refine ifP_ff' ?_ | refine ifP_tf' ?_ | refine ifP_ft' ?_ | refine ifP_u' ?_ | refine optP_mk0 ?_))
      refine hq (j - 1) _ _ _ _ (by omega) ⟨k + 1, by omega, by omega, rfl, e0, e1, rfl, ?_⟩ (Sub.refl _)
      rw [← hr, List.contains_cons, beq_eq_false_iff_ne.2 (Ne.symm he), Bool.false_or]
  · (repeat (first | refine bindP_mk (by simp (disch := first | omega | exact Int.natCast_nonneg _ | assumption) only [BB, B2, ↓reduceIte, Nat.reduceLeDiff, Nat.reduceAdd, CC] <;> rfl) ?_ | refine newP_mk ?_ | refine optP_mk ?_ | with_reducible first | refine condP_t ?_ | refine condP_f ?_ | refine ifP_tt' ?_ | refine ifP_ff' ?_ | refine ifP_tf' ?_ | refine ifP_ft' ?_ | refine ifP_u' ?_ | refine optP_mk0 ?_))
    refine hx _ _ _ _ (fun e => by cases e) (exP_e (beqP_t ?_))
    unfold ref11_in_j1
    rw [drop_all (by omega)] at hr
    exact ⟨_, Sub.refl _, kb hK hr.symm (by omega)⟩
end V
end Go.Proofs.Ytmmdcdjkmakgpaa
set_option linter.unusedVariables false
set_option linter.unusedSimpArgs false
namespace Go.Proofs.Ytmmdcdjkmakgpaa
namespace V
open PA
attribute [local irreducible] bindP ifP condP newP optP exP beqP
theorem SlR.okC {D : Type} {ro : Ro} {h : T Obj} {v : Value} {z : Nat} {R : List Value → D → Prop} {l : List D} (hl : SlR ro h v z R l) : cellOk v = true := by obtain ⟨cs, h9, _⟩ := hl; exact h9.ok
theorem rz_many : ∀ {l : List Int} {a m : Int}, rz a m l = true → (l.length : Int) ≤ max 0 (m - a - 1)
  | [], a, m, _ => by simp only [List.length_nil]; omega
  | x :: r, a, m, h => by
    rw [rz_cons] at h
    simp only [Bool.and_eq_true, decide_eq_true_eq] at h
    have := rz_many h.2.2
    rw [List.length_cons]
    omega
end V
end Go.Proofs.Ytmmdcdjkmakgpaa
set_option linter.unusedVariables false
set_option linter.unusedSimpArgs false
namespace Go.Proofs.Ytmmdcdjkmakgpaa
namespace V
open PA
theorem at_mem {g : GlD} {q : Int} (h0 : 0 ≤ q) (h1 : q < g.p.length) : g.at q ∈ g.p ∧ g.p[q.toNat]? = some (g.at q) := by
  have hl : q.toNat < g.p.length := by omega
  have : g.at q = g.p[q.toNat] := by
    unfold GlD.at
    rw [List.getD_eq_getElem?_getD, List.getElem?_eq_getElem hl]; rfl
  rw [this]
  exact ⟨List.getElem_mem hl, List.getElem?_eq_getElem hl⟩
theorem num_lt {g : GlD} {p q : Int} (hp : 0 ≤ p) (hpq : p < q) (hc : ctd g p = true) (hq : q ≤ g.p.length) : numZ g p < numZ g q := by
  unfold numZ
  have hl : p.toNat < g.p.length := by omega
  have hat := (at_mem (g := g) (q := p) hp (by omega)).2
  have h1 : g.p.take (p.toNat + 1) = g.p.take p.toNat ++ [g.at p] := by
    rw [List.take_succ_eq_append_getElem hl]
    have := List.getElem?_eq_getElem hl
    rw [hat] at this
    rw [Option.some.inj this]
  have h2 : ((g.p.take (p.toNat + 1)).filter ctdP).length = ((g.p.take p.toNat).filter ctdP).length + 1 := by
    rw [h1, List.filter_append, List.length_append, List.filter_cons_of_pos (show ctdP (g.at p) = true from hc)]; rfl
  have h3 : ((g.p.take (p.toNat + 1)).filter ctdP).length ≤ ((g.p.take q.toNat).filter ctdP).length := by
    have e : g.p.take (p.toNat + 1) = (g.p.take q.toNat).take (p.toNat + 1) := by rw [List.take_take, Nat.min_eq_left (by omega)]
    rw [e]
    exact ((List.take_sublist _ _).filter _).length_le
  omega
theorem codes_pos {m : Nat} (h : m ≤ 3) : codesD (m : Int) ≠ 0 ∧ 0 ≤ codesD (m : Int) := by
  have : m = 0 ∨ m = 1 ∨ m = 2 ∨ m = 3 := by omega
  rcases this with rfl | rfl | rfl | rfl <;> exact ⟨by decide, by decide⟩
end V
end Go.Proofs.Ytmmdcdjkmakgpaa
set_option linter.unusedVariables false
set_option linter.unusedSimpArgs false
namespace Go.Proofs.Ytmmdcdjkmakgpaa
namespace V
open PA
def numOf (g : GlD) (q : Int) : Int := if ctd g q then numZ g q else -1
def numL (g : GlD) : List Int := (placesZ g.p.length).map (numOf g)
theorem numL_len (g : GlD) : (numL g).length = g.p.length := by unfold numL; rw [List.length_map, placesZ_len]
theorem numL_get {g : GlD} {k : Nat} (hk : k < g.p.length) : (numL g)[k]? = some (numOf g (k : Int)) := by
  unfold numL placesZ
  rw [List.getElem?_map, List.getElem?_map, List.getElem?_range hk]; rfl
def digR : List Int → Int → Int → Int
  | [], _, _ => -1
  | r :: R, c, n => if r = n then c % 3 else digR R (c / 3) n
theorem digR_cons (r : Int) (R : List Int) (c n : Int) : digR (r :: R) c n = if r = n then c % 3 else digR R (c / 3) n := rfl
theorem digR_none : ∀ {R : List Int} {c n : Int}, (∀ r ∈ R, r ≠ n) → digR R c n = -1
  | [], _, _, _ => rfl
  | r :: R, c, n, h => by
    rw [digR_cons, if_neg (h r (by simp))]
    exact digR_none fun x hx => h x (by simp [hx])
def digOf (g : GlD) (l : List Int) (c p : Int) : Int := digR (regsZ g l) c (numOf g p)
theorem num_pos (g : GlD) (q : Int) : 0 ≤ numZ g q := by unfold numZ; omega
theorem regs_pos {g : GlD} {l : List Int} : ∀ r ∈ regsZ g l, 0 ≤ r := by
  intro r hr
  unfold regsZ at hr
  obtain ⟨q, _, rfl⟩ := List.mem_map.1 hr
  exact num_pos g q
theorem regsZ_cons (g : GlD) (p : Int) (r : List Int) : regsZ g (p :: r) = if ctd g p then numZ g p :: regsZ g r else regsZ g r := by
  unfold regsZ
  cases h : ctd g p with
  | true => rw [List.filter_cons_of_pos h]; rfl
  | false => rw [List.filter_cons_of_neg (by simp [h])]; rfl
theorem digs_map {g : GlD} : ∀ {l : List Int} {a c : Int}, rz a g.p.length l = true → -1 ≤ a → digs g l c = l.map fun p => (p, digOf g l c p)
  | [], _, _, _, _ => rfl
  | p :: r, a, c, h, ha => by
    simp only [rz, Bool.and_eq_true, decide_eq_true_eq] at h
    rw [digs_cons, List.map_cons]
    cases hc : ctd g p with
    | true =>
      rw [if_pos rfl, digs_map (a := p) (c := c / 3) h.2.2 (by omega)]
      have e1 : digOf g (p :: r) c p = c % 3 := by
        unfold digOf numOf
        rw [regsZ_cons, if_pos hc, if_pos hc, digR_cons, if_pos rfl]
      have e2 : r.map (fun q => (q, digOf g r (c / 3) q)) = r.map fun q => (q, digOf g (p :: r) c q) := by
        refine List.map_congr_left fun q hq => ?_
        have hq2 := rz_mem h.2.2 q hq
        unfold digOf
        rw [regsZ_cons, if_pos hc, digR_cons, if_neg]
        unfold numOf
        split
        · have := num_lt (g := g) (p := p) (q := q) (by omega) hq2.1 hc (by omega)
          omega
        · have := num_pos g p
          omega
      rw [e1, e2]
    | false =>
      rw [if_neg (by decide), digs_map (a := p) (c := c) h.2.2 (by omega)]
      have e1 : digOf g (p :: r) c p = -1 := by
        unfold digOf numOf
        rw [hc, if_neg (by decide)]
        exact digR_none fun x hx => by have := regs_pos x hx; omega
      have e2 : r.map (fun q => (q, digOf g r c q)) = r.map fun q => (q, digOf g (p :: r) c q) := by
        refine List.map_congr_left fun q hq => ?_
        unfold digOf
        rw [regsZ_cons, hc, if_neg (by decide)]
      rw [e1, e2]
theorem rz1 {g : GlD} {l : List Int} {c : Int} (h : rz (-1) g.p.length l = true) : digs g l c = l.map fun p => (p, digOf g l c p) := digs_map h (Int.le_refl _)
def entR (g : GlD) (l m : List Int) (c q : Int) : Bool := m.any fun p => decide (digOf g l c p ≠ 0) && (g.at p).next.contains q
def stayR (g : GlD) (l : List Int) (c q : Int) : Bool := l.contains q && (decide (digOf g l c q = 0) || decide (digOf g l c q = 2))
def ruleR (g : GlD) (l : List Int) (c : Int) : Int → List Int → Int
  | best, [] => best
  | best, p :: r => ruleR g l c (if decide (digOf g l c p ≠ 0) && ((g.at p).last && (decide (best < 0) || decide ((g.at p).rule < best))) then (g.at p).rule else best) r
theorem ruleR_eq {g : GlD} {l : List Int} {c : Int} : ∀ {m : List Int} {b : Int}, ruleZ g b (m.map fun p => (p, digOf g l c p)) = ruleR g l c b m
  | [], _ => rfl
  | p :: r, b => by
    rw [List.map_cons, ruleZ_cons]
    exact ruleR_eq
theorem ent_eq {g : GlD} {l : List Int} {c q : Int} {at_ : Nat} (h : rz (-1) g.p.length l = true) (h0 : at_ ≠ 0) : entersZ g at_ (digs g l c) q = entR g l l c q := by
  unfold entersZ entR
  rw [rz1 h, List.any_map, decide_eq_false h0, Bool.false_and, Bool.false_or]; rfl
theorem ent_eq0 {g : GlD} {c q : Int} : entersZ g 0 (digs g [] c) q = g.first.contains q := by
  unfold entersZ digs
  simp
theorem stay_eq {g : GlD} {l : List Int} {c q : Int} (h : rz (-1) g.p.length l = true) : staysZ (digs g l c) q = stayR g l c q := by
  unfold staysZ stayR
  rw [rz1 h, List.any_map]
  rw [Bool.eq_iff_iff]
  simp only [List.any_eq_true, Function.comp, Bool.and_eq_true, Bool.or_eq_true, decide_eq_true_eq, List.contains_eq_mem]
  constructor
  · rintro ⟨p, hp, rfl, hd⟩
    exact ⟨hp, hd⟩
  · rintro ⟨hp, hd⟩
    exact ⟨q, hp, rfl, hd⟩
theorem rule_eq {g : GlD} {l : List Int} {c : Int} (h : rz (-1) g.p.length l = true) : ruleZ g (-1) (digs g l c) = ruleR g l c (-1) l := by
  rw [rz1 h, ruleR_eq]
end V
end Go.Proofs.Ytmmdcdjkmakgpaa
set_option linter.unusedVariables false
set_option linter.unusedSimpArgs false
namespace Go.Proofs.Ytmmdcdjkmakgpaa
namespace V
attribute [local irreducible] callPre callP bindP
abbrev i_ref11_builder_rule : FuncId := 29
abbrev i_ref11_builder_goes : FuncId := 30
abbrev i_ref11_builder_ripe : FuncId := 54
abbrev i_ref11_builder_enters : FuncId := 57
abbrev i_ref11_builder_stays : FuncId := 58
abbrev i_ref11_builder_find : FuncId := 59
abbrev i_ref11_builder_digit : FuncId := 84
@[irreducible] def ref11_Of_j2 (ro : Ro) (K : KV) : Env → T Obj → Nat → Prop := fun e h nx => bindP (nilCk (e 4)) fun t195_30 => bindP (fwdP 3 t195_30) fun t196_31 => bindP (loadA ro h 259 t196_31) fun t197_32 => bindP (storeN 259 h (e 2) t197_32) fun h33 => bindP (loadA ro h33 259 (e 2)) fun r34 => ∃ h35, Sub h35 h33 ∧ K (.tuple #[r34, (Value.int IntKind.i64 0)]) h35 (nx + 6)
@[irreducible] def ref11_Of_j3 (ro : Ro) (Q : KE) : Env → T Obj → Nat → Prop := fun e h nx => bindP (intB .add (e 7) (Value.int IntKind.i64 1)) fun t113_42 => Q .normal (puts e [(112, (e 7)), (113, t113_42), (7, t113_42)]) h (nx + 3)
@[irreducible] def ref11_Of_j4 (ro : Ro) (Q : KE) : Env → T Obj → Nat → Prop := fun e h nx => bindP (nilCk (e 4)) fun t177_54 => bindP (fwdP 3 t177_54) fun t178_55 => bindP (fwdP 258 t178_55) fun t179_56 => bindP (load1 ro h t179_56) fun t180_57 => bindP (ixSl 4 t180_57 (e 7)) fun t183_58 => bindP (fwdP 2 t183_58) fun t184_59 => bindP (storeN 1 h t184_59 (e 9)) fun h60 => bindP (nilCk (e 4)) fun t186_61 => bindP (fwdP 3 t186_61) fun t187_62 => bindP (fwdP 258 t187_62) fun t188_63 => bindP (load1 ro h60 t188_63) fun t189_64 => bindP (ixSl 4 t189_64 (e 7)) fun t192_65 => bindP (fwdP 3 t192_65) fun t193_66 => bindP (storeN 1 h60 t193_66 (e 10)) fun h67 => ref11_Of_j3 ro Q (puts e [(176, (e 4)), (177, t177_54), (178, t178_55), (179, t179_56), (180, t180_57), (181, (e 7)), (182, (e 9)), (183, t183_58), (184, t184_59), (185, (e 4)), (186, t186_61), (187, t187_62), (188, t188_63), (189, t189_64), (190, (e 7)), (191, (e 10)), (192, t192_65), (193, t193_66)]) h67 (nx + 20)
@[irreducible] def ref11_Of_j5 (ro : Ro) (Q : KE) : Env → T Obj → Nat → Prop := fun e h nx => bindP (intB .add (e 11) (Value.int IntKind.i64 1)) fun t129_69 => Q .normal (puts e [(128, (e 11)), (129, t129_69), (11, t129_69)]) h (nx + 3)
@[irreducible] def ref11_Of_j6 (ro : Ro) (Q : KE) : Env → T Obj → Nat → Prop := fun e h nx => bindP (sliceLitV Try.prog y_s_s_api_Move (nx + 2) 1 [(0, (e 12))]) fun r82 => optP h (nx + 2) r82.2 fun h83 => bindP (appendV Try.prog ro h83 (nx + 4) #[y_s_s_api_Move, y_s_s_api_Move] [(e 10), r82.1]) fun r84 => ref11_Of_j5 ro Q (puts e [(172, (e 10)), (173, (e 12)), (174, r82.1), (175, r84.1), (10, r84.1)]) r84.2.1 (r84.2.2 + 1)
@[irreducible] def ref11_Of_L3 (ro : Ro) : PT := fun e h nx Q => bindP (nilCk (e 4)) fun t146_85 => bindP (fwdP 3 t146_85) fun t147_86 => bindP (fwdP 0 t147_86) fun t148_87 => bindP (fwdP 256 t148_87) fun t149_88 => bindP (load1 ro h t149_88) fun t150_89 => bindP (intB .lss (e 13) t150_89) fun t151_90 => condP t151_90 (callP Try.prog ro i_ref11_builder_goes [(e 4), (e 7), (e 11), (e 13)] h (nx + 14) fun t159_91 h92 n93 => bindP (sliceLitV Try.prog y_s_api_Move n93 1 [(0, t159_91)]) fun r94 => optP h92 n93 r94.2 fun h95 => bindP (appendV Try.prog ro h95 (n93 + 2) #[y_s_api_Move, y_s_api_Move] [(e 12), r94.1]) fun r96 => bindP (nilCk (e 4)) fun t163_97 => bindP (fwdP 262 t163_97) fun t164_98 => bindP (load1 ro r96.2.1 t164_98) fun t165_99 => bindP (intB .neq t165_99 (Value.int IntKind.i64 0)) fun t166_100 => condP t166_100 (bindP (buildV Try.prog y_api_Auto []) fun t167_101 => bindP (nilCk (e 4)) fun t169_102 => bindP (fwdP 262 t169_102) fun t170_103 => bindP (load1 ro r96.2.1 t170_103) fun t171_104 => bindP (storeN 259 r96.2.1 (e 2) t167_101) fun h105 => (sameV t170_103 r96.2.1 h105) ∧ (Q .ret (puts e [(144, (e 13)), (145, (e 4)), (146, t146_85), (147, t147_86), (148, t148_87), (149, t149_88), (150, t150_89), (151, t151_90), (154, (e 12)), (155, (e 4)), (156, (e 7)), (157, (e 11)), (158, (e 13)), (159, t159_91), (160, r94.1), (161, r96.1), (12, r96.1), (162, (e 4)), (163, t163_97), (164, t164_98), (165, t165_99), (166, t166_100), (167, t167_101), (168, (e 4)), (169, t169_102), (170, t170_103), (171, t171_104), (3, t171_104)]) h105 (r96.2.2 + 13))) (bindP (intB .add (e 13) (Value.int IntKind.i64 1)) fun t153_106 => Q .normal (puts e [(144, (e 13)), (145, (e 4)), (146, t146_85), (147, t147_86), (148, t148_87), (149, t149_88), (150, t150_89), (151, t151_90), (154, (e 12)), (155, (e 4)), (156, (e 7)), (157, (e 11)), (158, (e 13)), (159, t159_91), (160, r94.1), (161, r96.1), (12, r96.1), (162, (e 4)), (163, t163_97), (164, t164_98), (165, t165_99), (166, t166_100), (152, (e 13)), (153, t153_106), (13, t153_106)]) r96.2.1 (r96.2.2 + 9))) (Q (.exit 6) (puts e [(144, (e 13)), (145, (e 4)), (146, t146_85), (147, t147_86), (148, t148_87), (149, t149_88), (150, t150_89), (151, t151_90)]) h (nx + 8))
@[irreducible] def ref11_Of_L2 (ro : Ro) : PT := fun e h nx Q => bindP (intB .lss (e 11) (e 8)) fun t127_68 => condP t127_68 (bindP (nilCk (e 4)) fun t133_70 => bindP (fwdP 3 t133_70) fun t134_71 => bindP (fwdP 258 t134_71) fun t135_72 => bindP (load1 ro h t135_72) fun t136_73 => bindP (ixSl 4 t136_73 (e 7)) fun t138_74 => bindP (loadA ro h 4 t138_74) fun t139_75 => callP Try.prog ro i_ref11_builder_rule [(e 4), t139_75, (e 11)] h (nx + 15) fun t141_76 h77 n78 => bindP (sliceLitV Try.prog y_s_int n78 1 [(0, t141_76)]) fun r79 => optP h77 n78 r79.2 fun h80 => bindP (appendV Try.prog ro h80 (n78 + 2) #[y_s_int, y_s_int] [(e 9), r79.1]) fun r81 => loopP (ref11_Of_L3 ro) (puts e [(125, (e 11)), (126, (e 8)), (127, t127_68), (130, (e 9)), (131, (e 4)), (132, (e 4)), (133, t133_70), (134, t134_71), (135, t135_72), (136, t136_73), (137, (e 7)), (138, t138_74), (139, t139_75), (140, (e 11)), (141, t141_76), (142, r79.1), (143, r81.1), (9, r81.1), (12, (Value.slice none 0 0)), (13, (Value.int IntKind.i64 0))]) r81.2.1 (r81.2.2 + 3) fun x110 e107 h108 n109 => exP x110 (ref11_Of_j6 ro Q e107 h108 n109) (fun i111 => beqP (Nat.beq i111 6) (ref11_Of_j6 ro Q e107 h108 n109) (beqP (Nat.beq i111 5) (ref11_Of_j5 ro Q e107 h108 n109) (Q (.exit i111) e107 h108 n109))) (Q .ret e107 h108 n109)) (Q (.exit 4) (puts e [(125, (e 11)), (126, (e 8)), (127, t127_68)]) h (nx + 3))
@[irreducible] def ref11_Of_L1 (ro : Ro) : PT := fun e h nx Q => bindP (nilCk (e 4)) fun t106_36 => bindP (fwdP 3 t106_36) fun t107_37 => bindP (fwdP 258 t107_37) fun t108_38 => bindP (load1 ro h t108_38) fun t109_39 => bindP (lenSl t109_39) fun t110_40 => bindP (intB .lss (e 7) t110_40) fun t111_41 => condP t111_41 (bindP (nilCk (e 4)) fun t115_43 => bindP (fwdP 3 t115_43) fun t116_44 => bindP (fwdP 258 t116_44) fun t117_45 => bindP (load1 ro h t117_45) fun t118_46 => bindP (ixSl 4 t118_46 (e 7)) fun t120_47 => bindP (fwdP 1 t120_47) fun t121_48 => bindP (load1 ro h t121_48) fun t122_49 => bindP (lenSl t122_49) fun t123_50 => callP Try.prog ro i_ref11_Codes [t123_50] h (nx + 19) fun t124_51 h52 n53 => loopP (ref11_Of_L2 ro) (puts e [(104, (e 7)), (105, (e 4)), (106, t106_36), (107, t107_37), (108, t108_38), (109, t109_39), (110, t110_40), (111, t111_41), (114, (e 4)), (115, t115_43), (116, t116_44), (117, t117_45), (118, t118_46), (119, (e 7)), (120, t120_47), (121, t121_48), (122, t122_49), (123, t123_50), (124, t124_51), (8, t124_51), (9, (Value.slice none 0 0)), (10, (Value.slice none 0 0)), (11, (Value.int IntKind.i64 0))]) h52 (n53 + 4) fun x115 e112 h113 n114 => exP x115 (ref11_Of_j4 ro Q e112 h113 n114) (fun i116 => beqP (Nat.beq i116 4) (ref11_Of_j4 ro Q e112 h113 n114) (beqP (Nat.beq i116 3) (ref11_Of_j3 ro Q e112 h113 n114) (Q (.exit i116) e112 h113 n114))) (Q .ret e112 h113 n114)) (Q (.exit 2) (puts e [(104, (e 7)), (105, (e 4)), (106, t106_36), (107, t107_37), (108, t108_38), (109, t109_39), (110, t110_40), (111, t111_41)]) h (nx + 8))
@[irreducible] def ref11_Of_j1 (ro : Ro) (K : KV) : Env → T Obj → Nat → Prop := fun e h nx => callP Try.prog ro i_ref02_Of [(e 5)] h (nx + 3) fun t94_16 h17 n18 => bindP (nilCk (e 4)) fun t95_19 => bindP (fwdP 3 t95_19) fun t96_20 => bindP (fwdP 0 t96_20) fun t97_21 => bindP (storeN 257 h17 t97_21 t94_16) fun h22 => bindP (buildV Try.prog y_api_State []) fun t99_23 => bindP (sliceLitV Try.prog y_s_api_State (n18 + 6) 1 [(0, t99_23)]) fun r24 => optP h22 (n18 + 6) r24.2 fun h25 => bindP (nilCk (e 4)) fun t101_26 => bindP (fwdP 3 t101_26) fun t102_27 => bindP (fwdP 258 t102_27) fun t103_28 => bindP (storeN 1 h25 t103_28 r24.1) fun h29 => loopP (ref11_Of_L1 ro) (puts e [(92, (e 4)), (93, (e 5)), (94, t94_16), (95, t95_19), (96, t96_20), (97, t97_21), (98, (e 4)), (99, t99_23), (100, r24.1), (101, t101_26), (102, t102_27), (103, t103_28), (7, (Value.int IntKind.i64 0))]) h29 (n18 + 12) fun x120 e117 h118 n119 => exP x120 (ref11_Of_j2 ro K e117 h118 n119) (fun i121 => beqP (Nat.beq i121 2) (ref11_Of_j2 ro K e117 h118 n119) (False)) (bindP (loadA ro h118 259 (e117 2)) fun r122 => ∃ h123, Sub h123 h118 ∧ K (.tuple #[r122, (e117 3)]) h123 n119)
@[irreducible] def ref11_Of_j7 (ro : Ro) (Q : KE) : Env → T Obj → Nat → Prop := fun e h nx => bindP (intB .add (e 6) (Value.int IntKind.i64 1)) fun t27_128 => Q .normal (puts e [(26, (e 6)), (27, t27_128), (6, t27_128)]) h (nx + 3)
@[irreducible] def ref11_Of_L4 (ro : Ro) : PT := fun e h nx Q => bindP (fwdP 1 (e 1)) fun t22_124 => bindP (load1 ro h t22_124) fun t23_125 => bindP (lenSl t23_125) fun t24_126 => bindP (intB .lss (e 6) t24_126) fun t25_127 => condP t25_127 (bindP (fwdP 1 (e 1)) fun t29_129 => bindP (load1 ro h t29_129) fun t30_130 => bindP (ixSl 9 t30_130 (e 6)) fun t32_131 => bindP (fwdP 0 t32_131) fun t33_132 => bindP (loadA ro h 4 t33_132) fun t34_133 => bindP (sliceLitV Try.prog y_s_api_Set (nx + 12) 1 [(0, t34_133)]) fun r134 => optP h (nx + 12) r134.2 fun h135 => bindP (appendV Try.prog ro h135 (nx + 14) #[y_s_api_Set, y_s_api_Set] [(e 5), r134.1]) fun r136 => bindP (fwdP 1 (e 1)) fun t37_137 => bindP (load1 ro r136.2.1 t37_137) fun t38_138 => bindP (ixSl 9 t38_138 (e 6)) fun t40_139 => bindP (fwdP 5 t40_139) fun t41_140 => bindP (load1 ro r136.2.1 t41_140) fun t42_141 => bindP (intB .gtr t42_141 (Value.int IntKind.i64 1)) fun t43_142 => condP t43_142 (bindP (nilCk (e 4)) fun t46_143 => bindP (fwdP 2 t46_143) fun t47_144 => bindP (load1 ro r136.2.1 t47_144) fun t48_145 => bindP (nilCk (e 4)) fun t50_146 => bindP (fwdP 3 t50_146) fun t51_147 => bindP (fwdP 257 t51_147) fun t52_148 => bindP (load1 ro r136.2.1 t52_148) fun t53_149 => bindP (lenSl t53_149) fun t54_150 => bindP (sliceLitV Try.prog y_s_int (r136.2.2 + 19) 1 [(0, t54_150)]) fun r151 => optP r136.2.1 (r136.2.2 + 19) r151.2 fun h152 => bindP (appendV Try.prog ro h152 (r136.2.2 + 24) #[y_s_int, y_s_int] [t48_145, r151.1]) fun r153 => bindP (nilCk (e 4)) fun t57_154 => bindP (fwdP 2 t57_154) fun t58_155 => bindP (storeN 1 r153.2.1 t58_155 r153.1) fun h156 => bindP (nilCk (e 4)) fun t61_157 => bindP (fwdP 3 t61_157) fun t62_158 => bindP (fwdP 257 t62_158) fun t63_159 => bindP (load1 ro h156 t63_159) fun t64_160 => bindP (fwdP 1 (e 1)) fun t65_161 => bindP (load1 ro h156 t65_161) fun t66_162 => bindP (ixSl 9 t66_162 (e 6)) fun t68_163 => bindP (fwdP 4 t68_163) fun t69_164 => bindP (load1 ro h156 t69_164) fun t70_165 => bindP (fwdP 1 (e 1)) fun t71_166 => bindP (load1 ro h156 t71_166) fun t72_167 => bindP (ixSl 9 t72_167 (e 6)) fun t74_168 => bindP (fwdP 5 t74_168) fun t75_169 => bindP (load1 ro h156 t75_169) fun t76_170 => bindP (buildV Try.prog y_a2_int [(0, t70_165), (1, t76_170)]) fun t77_171 => bindP (sliceLitV Try.prog y_s_a2_int (r153.2.2 + 19) 1 [(0, t77_171)]) fun r172 => optP h156 (r153.2.2 + 19) r172.2 fun h173 => bindP (appendV Try.prog ro h173 (r153.2.2 + 25) #[y_s_a2_int, y_s_a2_int] [t64_160, r172.1]) fun r174 => bindP (nilCk (e 4)) fun t80_175 => bindP (fwdP 3 t80_175) fun t81_176 => bindP (fwdP 257 t81_176) fun t82_177 => bindP (storeN 1 r174.2.1 t82_177 r174.1) fun h178 => ref11_Of_j7 ro Q (puts e [(21, (e 6)), (22, t22_124), (23, t23_125), (24, t24_126), (25, t25_127), (28, (e 5)), (29, t29_129), (30, t30_130), (31, (e 6)), (32, t32_131), (33, t33_132), (34, t34_133), (35, r134.1), (36, r136.1), (5, r136.1), (37, t37_137), (38, t38_138), (39, (e 6)), (40, t40_139), (41, t41_140), (42, t42_141), (43, t43_142), (44, (e 4)), (45, (e 4)), (46, t46_143), (47, t47_144), (48, t48_145), (49, (e 4)), (50, t50_146), (51, t51_147), (52, t52_148), (53, t53_149), (54, t54_150), (55, r151.1), (56, r153.1), (57, t57_154), (58, t58_155), (59, (e 4)), (60, (e 4)), (61, t61_157), (62, t62_158), (63, t63_159), (64, t64_160), (65, t65_161), (66, t66_162), (67, (e 6)), (68, t68_163), (69, t69_164), (70, t70_165), (71, t71_166), (72, t72_167), (73, (e 6)), (74, t74_168), (75, t75_169), (76, t76_170), (77, t77_171), (78, r172.1), (79, r174.1), (80, t80_175), (81, t81_176), (82, t82_177)]) h178 r174.2.2) (bindP (nilCk (e 4)) fun t85_179 => bindP (fwdP 2 t85_179) fun t86_180 => bindP (load1 ro r136.2.1 t86_180) fun t87_181 => bindP (sliceLitV Try.prog y_s_int (r136.2.2 + 13) 1 [(0, (Value.int IntKind.i64 (-1)))]) fun r182 => optP r136.2.1 (r136.2.2 + 13) r182.2 fun h183 => bindP (appendV Try.prog ro h183 (r136.2.2 + 15) #[y_s_int, y_s_int] [t87_181, r182.1]) fun r184 => bindP (nilCk (e 4)) fun t90_185 => bindP (fwdP 2 t90_185) fun t91_186 => bindP (storeN 1 r184.2.1 t91_186 r184.1) fun h187 => ref11_Of_j7 ro Q (puts e [(21, (e 6)), (22, t22_124), (23, t23_125), (24, t24_126), (25, t25_127), (28, (e 5)), (29, t29_129), (30, t30_130), (31, (e 6)), (32, t32_131), (33, t33_132), (34, t34_133), (35, r134.1), (36, r136.1), (5, r136.1), (37, t37_137), (38, t38_138), (39, (e 6)), (40, t40_139), (41, t41_140), (42, t42_141), (43, t43_142), (83, (e 4)), (84, (e 4)), (85, t85_179), (86, t86_180), (87, t87_181), (88, r182.1), (89, r184.1), (90, t90_185), (91, t91_186)]) h187 (r184.2.2 + 3))) (Q (.exit 0) (puts e [(21, (e 6)), (22, t22_124), (23, t23_125), (24, t24_126), (25, t25_127)]) h (nx + 5))
@[irreducible] def ref11_Of (ro : Ro) (v0 : Value) (h : T Obj) (nx : Nat) (K : KV) : Prop := newP h nx (.cells (Value.cells v0) y_api_Glush) fun h1 => bindP (zer Try.prog y_api_Auto) fun z2 => newP h1 (nx + 1) (.cells z2.cells y_api_Auto) fun h3 => bindP (loadA ro h3 2 (ptr nx)) fun t14_4 => callP Try.prog ro i_ref09_Right [t14_4] h3 (nx + 5) fun t15_5 h6 n7 => bindP (unV .not t15_5) fun t16_8 => condP t16_8 (bindP (buildV Try.prog y_api_Auto []) fun t17_9 => bindP (storeN 259 h6 (ptr (nx + 1)) t17_9) fun h10 => bindP (loadA ro h10 259 (ptr (nx + 1))) fun r11 => ∃ h12, Sub h12 h10 ∧ K (.tuple #[r11, (Value.int IntKind.i64 1)]) h12 (n7 + 4)) (bindP (loadA ro h6 2 (ptr nx)) fun t18_13 => bindP (buildV Try.prog y_raddleref11_builder [(0, t18_13)]) fun t19_14 => newP h6 (n7 + 3) (.cells (Value.cells t19_14) y_raddleref11_builder) fun h15 => loopP (ref11_Of_L4 ro) (puts (entE [v0]) [(1, (ptr nx)), (2, (ptr (nx + 1))), (3, (Value.int IntKind.i64 0)), (14, t14_4), (15, t15_5), (16, t16_8), (18, t18_13), (19, t19_14), (20, (ptr (n7 + 3))), (4, (ptr (n7 + 3))), (5, (Value.slice none 0 0)), (6, (Value.int IntKind.i64 0))]) h15 (n7 + 7) fun x191 e188 h189 n190 => exP x191 (ref11_Of_j1 ro K e188 h189 n190) (fun i192 => beqP (Nat.beq i192 0) (ref11_Of_j1 ro K e188 h189 n190) (False)) (bindP (loadA ro h189 259 (e188 2)) fun r193 => ∃ h194, Sub h194 h189 ∧ K (.tuple #[r193, (e188 3)]) h194 n190))
theorem ref11_Of_eq (ro : Ro) (v0 : Value) (h : T Obj) (nx : Nat) (K : KV) : callPre Try.prog ro (callP Try.prog ro) Try.f12 [v0] h nx K = ref11_Of ro v0 h nx K := by kernel_rfl
theorem ref11_Of_of {ro : Ro} {v0 : Value} {h : T Obj} {nx : Nat} {K : KV} (hw : ref11_Of ro v0 h nx K) : callP Try.prog ro i_ref11_Of [v0] h nx K := callP_by (P := Try.prog) (fn := Try.f12) (by kernel_rfl) (by kernel_rfl) (by kernel_rfl) (Eq.mpr (ref11_Of_eq ro v0 h nx K) hw)
@[irreducible] def ref11_builder_rule_j1 (ro : Ro) (K : KV) : Env → T Obj → Nat → Prop := fun e h nx => ∃ h2, Sub h2 h ∧ K (e 7) h2 (nx + 2)
@[irreducible] def ref11_builder_rule_j2 (ro : Ro) (Q : KE) : Env → T Obj → Nat → Prop := fun e h nx => bindP (intB .add (e 8) (Value.int IntKind.i64 1)) fun t16_7 => Q .normal (puts e [(15, (e 8)), (16, t16_7), (8, t16_7)]) h (nx + 3)
@[irreducible] def ref11_builder_rule_L1 (ro : Ro) : PT := fun e h nx Q => bindP (fwdP 0 (e 4)) fun t11_3 => bindP (load1 ro h t11_3) fun t12_4 => bindP (lenSl t12_4) fun t13_5 => bindP (intB .lss (e 8) t13_5) fun t14_6 => condP t14_6 (bindP (nilCk (e 0)) fun t18_8 => bindP (fwdP 0 t18_8) fun t19_9 => bindP (fwdP 1 t19_9) fun t20_10 => bindP (load1 ro h t20_10) fun t21_11 => bindP (fwdP 0 (e 4)) fun t22_12 => bindP (load1 ro h t22_12) fun t23_13 => bindP (ixSl 1 t23_13 (e 8)) fun t25_14 => bindP (load1 ro h t25_14) fun t26_15 => bindP (ixSl 9 t21_11 t26_15) fun t27_16 => bindP (loadA ro h 9 t27_16) fun t28_17 => bindP (zer Try.prog y_api_Pos) fun z18 => newP h (nx + 17) (.cells z18.cells y_api_Pos) fun h19 => bindP (storeN 9 h19 (ptr (nx + 17)) t28_17) fun h20 => bindP (fwdP 7 (ptr (nx + 17))) fun t29_21 => bindP (load1 ro h20 t29_21) fun t30_22 => ifP t30_22 true h20 (nx + 42) (fun k23 => k23 (e 0) h20 (nx + 42)) fun t32_24 h25 n26 => ifP t30_22 true h25 n26 (fun k27 => bindP (loadA ro h25 4 (e 4)) fun t33_31 => k27 t33_31 h25 n26) fun t33_28 h29 n30 => ifP t30_22 true h29 n30 (fun k32 => k32 (e 2) h29 n30) fun t34_33 h34 n35 => ifP t30_22 true h34 n35 (fun k36 => bindP (fwdP 0 (e 4)) fun t35_40 => k36 t35_40 h34 n35) fun t35_37 h38 n39 => ifP t30_22 true h38 n39 (fun k41 => bindP (load1 ro h38 t35_37) fun t36_45 => k41 t36_45 h38 n39) fun t36_42 h43 n44 => ifP t30_22 true h43 n44 (fun k46 => k46 (e 8) h43 n44) fun t37_47 h48 n49 => ifP t30_22 true h48 n49 (fun k50 => bindP (ixSl 1 t36_42 t37_47) fun t38_54 => k50 t38_54 h48 n49) fun t38_51 h52 n53 => ifP t30_22 true h52 n53 (fun k55 => bindP (load1 ro h52 t38_51) fun t39_59 => k55 t39_59 h52 n53) fun t39_56 h57 n58 => ifP t30_22 true h57 n58 (fun k60 => callP Try.prog ro i_ref11_builder_ripe [t32_24, t33_28, t34_33, t39_56] h57 n58 fun t40_64 h65 n66 => k60 t40_64 h65 n66) fun t40_61 h62 n63 => bindP (pickV t30_22 t40_61 (Value.bool false)) fun t41_67 => ifP t41_67 true h62 n63 (fun k68 => k68 (e 7) h62 n63) fun t43_69 h70 n71 => ifP t41_67 true h70 n71 (fun k72 => bindP (intB .lss t43_69 (Value.int IntKind.i64 0)) fun t44_76 => k72 t44_76 h70 n71) fun t44_73 h74 n75 => ifP t41_67 true h74 n75 (fun k77 => k77 t44_73 h74 n75) fun t45_78 h79 n80 => ifP t45_78 false h79 n80 (fun k81 => bindP (fwdP 6 (ptr (nx + 17))) fun t46_85 => k81 t46_85 h79 n80) fun t46_82 h83 n84 => ifP t45_78 false h83 n84 (fun k86 => bindP (load1 ro h83 t46_82) fun t47_90 => k86 t47_90 h83 n84) fun t47_87 h88 n89 => ifP t45_78 false h88 n89 (fun k91 => k91 (e 7) h88 n89) fun t48_92 h93 n94 => ifP t45_78 false h93 n94 (fun k95 => bindP (intB .lss t47_87 t48_92) fun t49_99 => k95 t49_99 h93 n94) fun t49_96 h97 n98 => ifP t41_67 true h97 n98 (fun k100 => bindP (pickV t45_78 (Value.bool true) t49_96) fun t50_104 => k100 t50_104 h97 n98) fun t50_101 h102 n103 => bindP (pickV t41_67 t50_101 (Value.bool false)) fun t51_105 => condP t51_105 (bindP (fwdP 6 (ptr (nx + 17))) fun t52_106 => bindP (load1 ro h102 t52_106) fun t53_107 => ref11_builder_rule_j2 ro Q (puts e [(10, (e 8)), (11, t11_3), (12, t12_4), (13, t13_5), (14, t14_6), (17, (e 0)), (18, t18_8), (19, t19_9), (20, t20_10), (21, t21_11), (22, t22_12), (23, t23_13), (24, (e 8)), (25, t25_14), (26, t26_15), (27, t27_16), (28, t28_17), (9, (ptr (nx + 17))), (29, t29_21), (30, t30_22), (31, t30_22), (32, t32_24), (33, t33_28), (34, t34_33), (35, t35_37), (36, t36_42), (37, t37_47), (38, t38_51), (39, t39_56), (40, t40_61), (41, t41_67), (42, t41_67), (43, t43_69), (44, t44_73), (45, t45_78), (46, t46_82), (47, t47_87), (48, t48_92), (49, t49_96), (50, t50_101), (51, t51_105), (52, t52_106), (53, t53_107), (7, t53_107)]) h102 (n103 + 3)) (ref11_builder_rule_j2 ro Q (puts e [(10, (e 8)), (11, t11_3), (12, t12_4), (13, t13_5), (14, t14_6), (17, (e 0)), (18, t18_8), (19, t19_9), (20, t20_10), (21, t21_11), (22, t22_12), (23, t23_13), (24, (e 8)), (25, t25_14), (26, t26_15), (27, t27_16), (28, t28_17), (9, (ptr (nx + 17))), (29, t29_21), (30, t30_22), (31, t30_22), (32, t32_24), (33, t33_28), (34, t34_33), (35, t35_37), (36, t36_42), (37, t37_47), (38, t38_51), (39, t39_56), (40, t40_61), (41, t41_67), (42, t41_67), (43, t43_69), (44, t44_73), (45, t45_78), (46, t46_82), (47, t47_87), (48, t48_92), (49, t49_96), (50, t50_101), (51, t51_105)]) h102 n103)) (Q (.exit 0) (puts e [(10, (e 8)), (11, t11_3), (12, t12_4), (13, t13_5), (14, t14_6)]) h (nx + 5))
@[irreducible] def ref11_builder_rule (ro : Ro) (v0 v1 v2 : Value) (h : T Obj) (nx : Nat) (K : KV) : Prop := newP h nx (.cells (Value.cells v1) y_api_State) fun h1 => loopP (ref11_builder_rule_L1 ro) (puts (entE [v0, v1, v2]) [(4, (ptr nx)), (6, (Value.int IntKind.i64 0)), (7, (Value.int IntKind.i64 (-1))), (8, (Value.int IntKind.i64 0))]) h1 (nx + 4) fun x111 e108 h109 n110 => exP x111 (ref11_builder_rule_j1 ro K e108 h109 n110) (fun i112 => beqP (Nat.beq i112 0) (ref11_builder_rule_j1 ro K e108 h109 n110) (False)) (∃ h113, Sub h113 h109 ∧ K (e108 6) h113 n110)
theorem ref11_builder_rule_eq (ro : Ro) (v0 v1 v2 : Value) (h : T Obj) (nx : Nat) (K : KV) : callPre Try.prog ro (callP Try.prog ro) Try.f29 [v0, v1, v2] h nx K = ref11_builder_rule ro v0 v1 v2 h nx K := by kernel_rfl
theorem ref11_builder_rule_of {ro : Ro} {v0 v1 v2 : Value} {h : T Obj} {nx : Nat} {K : KV} (hw : ref11_builder_rule ro v0 v1 v2 h nx K) : callP Try.prog ro i_ref11_builder_rule [v0, v1, v2] h nx K := callP_by (P := Try.prog) (fn := Try.f29) (by kernel_rfl) (by kernel_rfl) (by kernel_rfl) (Eq.mpr (ref11_builder_rule_eq ro v0 v1 v2 h nx K) hw)
@[irreducible] def ref11_builder_goes_j1 (ro : Ro) (K : KV) : Env → T Obj → Nat → Prop := fun e h nx => bindP (lenSl (e 11)) fun t101_21 => bindP (intB .eql t101_21 (Value.int IntKind.i64 0)) fun t102_22 => condP t102_22 (bindP (buildV Try.prog y_api_Move [(0, (Value.int IntKind.i64 (-1)))]) fun t103_23 => bindP (storeN 2 h (e 8) t103_23) fun h24 => bindP (loadA ro h24 2 (e 8)) fun r25 => ∃ h26, Sub h26 h24 ∧ K r25 h26 (nx + 5)) (callP Try.prog ro i_ref11_builder_find [(e 0), (e 11)] h (nx + 6) fun t106_27 h28 n29 => bindP (buildV Try.prog y_api_Move [(0, t106_27), (1, (e 12))]) fun t108_30 => bindP (storeN 2 h28 (e 8) t108_30) fun h31 => bindP (loadA ro h31 2 (e 8)) fun r32 => ∃ h33, Sub h33 h31 ∧ K r32 h33 (n29 + 3))
@[irreducible] def ref11_builder_goes_j2 (ro : Ro) (Q : KE) : Env → T Obj → Nat → Prop := fun e h nx => bindP (intB .add (e 13) (Value.int IntKind.i64 1)) fun t42_40 => Q .normal (puts e [(41, (e 13)), (42, t42_40), (13, t42_40)]) h (nx + 3)
@[irreducible] def ref11_builder_goes_L1 (ro : Ro) : PT := fun e h nx Q => bindP (nilCk (e 0)) fun t35_34 => bindP (fwdP 0 t35_34) fun t36_35 => bindP (fwdP 1 t36_35) fun t37_36 => bindP (load1 ro h t37_36) fun t38_37 => bindP (lenSl t38_37) fun t39_38 => bindP (intB .lss (e 13) t39_38) fun t40_39 => condP t40_39 (bindP (nilCk (e 0)) fun t44_41 => bindP (fwdP 0 t44_41) fun t45_42 => bindP (fwdP 1 t45_42) fun t46_43 => bindP (load1 ro h t46_43) fun t47_44 => bindP (ixSl 9 t47_44 (e 13)) fun t49_45 => bindP (fwdP 0 t49_45) fun t50_46 => bindP (loadA ro h 4 t50_46) fun t51_47 => callP Try.prog ro i_ref01_Has [t51_47, (e 10)] h (nx + 19) fun t53_48 h49 n50 => bindP (unV .not t53_48) fun t54_51 => condP t54_51 (ref11_builder_goes_j2 ro Q (puts e [(33, (e 13)), (34, (e 0)), (35, t35_34), (36, t36_35), (37, t37_36), (38, t38_37), (39, t39_38), (40, t40_39), (43, (e 0)), (44, t44_41), (45, t45_42), (46, t46_43), (47, t47_44), (48, (e 13)), (49, t49_45), (50, t50_46), (51, t51_47), (52, (e 10)), (53, t53_48), (54, t54_51)]) h49 (n50 + 1)) (bindP (loadA ro h49 4 (e 9)) fun t57_52 => callP Try.prog ro i_ref11_builder_enters [(e 0), (e 1), t57_52, (e 2), (e 13)] h49 (n50 + 7) fun t60_53 h54 n55 => bindP (loadA ro h54 4 (e 9)) fun t62_56 => callP Try.prog ro i_ref11_builder_stays [(e 0), t62_56, (e 2), (e 13)] h54 (n55 + 6) fun t65_57 h58 n59 => bindP (unV .not t60_53) fun t67_60 => ifP t67_60 true h58 (n59 + 4) (fun k61 => k61 t65_57 h58 (n59 + 5)) fun t69_62 h63 n64 => ifP t67_60 true h63 n64 (fun k65 => bindP (unV .not t69_62) fun t70_69 => k65 t70_69 h63 (n64 + 1)) fun t70_66 h67 n68 => bindP (pickV t67_60 t70_66 (Value.bool false)) fun t71_70 => condP t71_70 (ref11_builder_goes_j2 ro Q (puts e [(33, (e 13)), (34, (e 0)), (35, t35_34), (36, t36_35), (37, t37_36), (38, t38_37), (39, t39_38), (40, t40_39), (43, (e 0)), (44, t44_41), (45, t45_42), (46, t46_43), (47, t47_44), (48, (e 13)), (49, t49_45), (50, t50_46), (51, t51_47), (52, (e 10)), (53, t53_48), (54, t54_51), (55, (e 0)), (56, (e 1)), (57, t57_52), (58, (e 2)), (59, (e 13)), (60, t60_53), (14, t60_53), (61, (e 0)), (62, t62_56), (63, (e 2)), (64, (e 13)), (65, t65_57), (15, t65_57), (66, t60_53), (67, t67_60), (68, t67_60), (69, t69_62), (70, t70_66), (71, t71_70)]) h67 (n68 + 1)) (bindP (sliceLitV Try.prog y_s_int (n68 + 3) 1 [(0, (e 13))]) fun r71 => optP h67 (n68 + 3) r71.2 fun h72 => bindP (appendV Try.prog ro h72 (n68 + 5) #[y_s_int, y_s_int] [(e 11), r71.1]) fun r73 => bindP (nilCk (e 0)) fun t77_74 => bindP (fwdP 2 t77_74) fun t78_75 => bindP (load1 ro r73.2.1 t78_75) fun t79_76 => bindP (ixSl 1 t79_76 (e 13)) fun t81_77 => bindP (load1 ro r73.2.1 t81_77) fun t82_78 => bindP (intB .lss t82_78 (Value.int IntKind.i64 0)) fun t83_79 => condP t83_79 (ref11_builder_goes_j2 ro Q (puts e [(33, (e 13)), (34, (e 0)), (35, t35_34), (36, t36_35), (37, t37_36), (38, t38_37), (39, t39_38), (40, t40_39), (43, (e 0)), (44, t44_41), (45, t45_42), (46, t46_43), (47, t47_44), (48, (e 13)), (49, t49_45), (50, t50_46), (51, t51_47), (52, (e 10)), (53, t53_48), (54, t54_51), (55, (e 0)), (56, (e 1)), (57, t57_52), (58, (e 2)), (59, (e 13)), (60, t60_53), (14, t60_53), (61, (e 0)), (62, t62_56), (63, (e 2)), (64, (e 13)), (65, t65_57), (15, t65_57), (66, t60_53), (67, t67_60), (68, t67_60), (69, t69_62), (70, t70_66), (71, t71_70), (72, (e 11)), (73, (e 13)), (74, r71.1), (75, r73.1), (11, r73.1), (76, (e 0)), (77, t77_74), (78, t78_75), (79, t79_76), (80, (e 13)), (81, t81_77), (82, t82_78), (83, t83_79)]) r73.2.1 (r73.2.2 + 9)) (ifP t60_53 true r73.2.1 (r73.2.2 + 11) (fun k80 => k80 t65_57 r73.2.1 (r73.2.2 + 12)) fun t90_81 h82 n83 => bindP (pickV t60_53 t90_81 (Value.bool false)) fun t91_84 => condP t91_84 (bindP (sliceLitV Try.prog y_s_uint8 (n83 + 3) 1 [(0, (Value.int IntKind.u8 2))]) fun r85 => optP h82 (n83 + 3) r85.2 fun h86 => bindP (appendV Try.prog ro h86 (n83 + 5) #[y_s_uint8, y_s_uint8] [(e 12), r85.1]) fun r87 => ref11_builder_goes_j2 ro Q (puts e [(33, (e 13)), (34, (e 0)), (35, t35_34), (36, t36_35), (37, t37_36), (38, t38_37), (39, t39_38), (40, t40_39), (43, (e 0)), (44, t44_41), (45, t45_42), (46, t46_43), (47, t47_44), (48, (e 13)), (49, t49_45), (50, t50_46), (51, t51_47), (52, (e 10)), (53, t53_48), (54, t54_51), (55, (e 0)), (56, (e 1)), (57, t57_52), (58, (e 2)), (59, (e 13)), (60, t60_53), (14, t60_53), (61, (e 0)), (62, t62_56), (63, (e 2)), (64, (e 13)), (65, t65_57), (15, t65_57), (66, t60_53), (67, t67_60), (68, t67_60), (69, t69_62), (70, t70_66), (71, t71_70), (72, (e 11)), (73, (e 13)), (74, r71.1), (75, r73.1), (11, r73.1), (76, (e 0)), (77, t77_74), (78, t78_75), (79, t79_76), (80, (e 13)), (81, t81_77), (82, t82_78), (83, t83_79), (88, t60_53), (89, t60_53), (90, t90_81), (91, t91_84), (87, t91_84), (92, (e 12)), (93, r85.1), (94, r87.1), (12, r87.1)]) r87.2.1 (r87.2.2 + 1)) (condP t65_57 (bindP (sliceLitV Try.prog y_s_uint8 (n83 + 5) 1 [(0, (Value.int IntKind.u8 1))]) fun r88 => optP h82 (n83 + 5) r88.2 fun h89 => bindP (appendV Try.prog ro h89 (n83 + 7) #[y_s_uint8, y_s_uint8] [(e 12), r88.1]) fun r90 => ref11_builder_goes_j2 ro Q (puts e [(33, (e 13)), (34, (e 0)), (35, t35_34), (36, t36_35), (37, t37_36), (38, t38_37), (39, t39_38), (40, t40_39), (43, (e 0)), (44, t44_41), (45, t45_42), (46, t46_43), (47, t47_44), (48, (e 13)), (49, t49_45), (50, t50_46), (51, t51_47), (52, (e 10)), (53, t53_48), (54, t54_51), (55, (e 0)), (56, (e 1)), (57, t57_52), (58, (e 2)), (59, (e 13)), (60, t60_53), (14, t60_53), (61, (e 0)), (62, t62_56), (63, (e 2)), (64, (e 13)), (65, t65_57), (15, t65_57), (66, t60_53), (67, t67_60), (68, t67_60), (69, t69_62), (70, t70_66), (71, t71_70), (72, (e 11)), (73, (e 13)), (74, r71.1), (75, r73.1), (11, r73.1), (76, (e 0)), (77, t77_74), (78, t78_75), (79, t79_76), (80, (e 13)), (81, t81_77), (82, t82_78), (83, t83_79), (88, t60_53), (89, t60_53), (90, t90_81), (91, t91_84), (87, t91_84), (96, t65_57), (95, t65_57), (97, (e 12)), (98, r88.1), (99, r90.1), (12, r90.1)]) r90.2.1 (r90.2.2 + 1)) (bindP (sliceLitV Try.prog y_s_uint8 (n83 + 5) 1 [(0, (Value.int IntKind.u8 3))]) fun r91 => optP h82 (n83 + 5) r91.2 fun h92 => bindP (appendV Try.prog ro h92 (n83 + 7) #[y_s_uint8, y_s_uint8] [(e 12), r91.1]) fun r93 => ref11_builder_goes_j2 ro Q (puts e [(33, (e 13)), (34, (e 0)), (35, t35_34), (36, t36_35), (37, t37_36), (38, t38_37), (39, t39_38), (40, t40_39), (43, (e 0)), (44, t44_41), (45, t45_42), (46, t46_43), (47, t47_44), (48, (e 13)), (49, t49_45), (50, t50_46), (51, t51_47), (52, (e 10)), (53, t53_48), (54, t54_51), (55, (e 0)), (56, (e 1)), (57, t57_52), (58, (e 2)), (59, (e 13)), (60, t60_53), (14, t60_53), (61, (e 0)), (62, t62_56), (63, (e 2)), (64, (e 13)), (65, t65_57), (15, t65_57), (66, t60_53), (67, t67_60), (68, t67_60), (69, t69_62), (70, t70_66), (71, t71_70), (72, (e 11)), (73, (e 13)), (74, r71.1), (75, r73.1), (11, r73.1), (76, (e 0)), (77, t77_74), (78, t78_75), (79, t79_76), (80, (e 13)), (81, t81_77), (82, t82_78), (83, t83_79), (88, t60_53), (89, t60_53), (90, t90_81), (91, t91_84), (87, t91_84), (96, t65_57), (95, t65_57), (84, (e 12)), (85, r91.1), (86, r93.1), (12, r93.1)]) r93.2.1 (r93.2.2 + 1))))))) (Q (.exit 0) (puts e [(33, (e 13)), (34, (e 0)), (35, t35_34), (36, t36_35), (37, t37_36), (38, t38_37), (39, t39_38), (40, t40_39)]) h (nx + 8))
@[irreducible] def ref11_builder_goes (ro : Ro) (v0 v1 v2 v3 : Value) (h : T Obj) (nx : Nat) (K : KV) : Prop := bindP (zer Try.prog y_api_Move) fun z1 => newP h nx (.cells z1.cells y_api_Move) fun h2 => bindP (nilCk v0) fun t17_3 => bindP (fwdP 3 t17_3) fun t18_4 => bindP (fwdP 258 t18_4) fun t19_5 => bindP (load1 ro h2 t19_5) fun t20_6 => bindP (ixSl 4 t20_6 v1) fun t22_7 => bindP (loadA ro h2 4 t22_7) fun t23_8 => bindP (zer Try.prog y_api_State) fun z9 => newP h2 (nx + 9) (.cells z9.cells y_api_State) fun h10 => bindP (storeN 4 h10 (ptr (nx + 9)) t23_8) fun h11 => bindP (nilCk v0) fun t25_12 => bindP (fwdP 3 t25_12) fun t26_13 => bindP (fwdP 0 t26_13) fun t27_14 => bindP (loadA ro h11 257 t27_14) fun t28_15 => callP Try.prog ro i_ref02_First [t28_15] h11 (nx + 17) fun t29_16 h17 n18 => bindP (ixSl 1 t29_16 v3) fun t31_19 => bindP (load1 ro h17 t31_19) fun t32_20 => loopP (ref11_builder_goes_L1 ro) (puts (entE [v0, v1, v2, v3]) [(8, (ptr nx)), (16, v0), (17, t17_3), (18, t18_4), (19, t19_5), (20, t20_6), (21, v1), (22, t22_7), (23, t23_8), (9, (ptr (nx + 9))), (24, v0), (25, t25_12), (26, t26_13), (27, t27_14), (28, t28_15), (29, t29_16), (30, v3), (31, t31_19), (32, t32_20), (10, t32_20), (11, (Value.slice none 0 0)), (12, (Value.slice none 0 0)), (13, (Value.int IntKind.i64 0))]) h17 (n18 + 7) fun x97 e94 h95 n96 => exP x97 (ref11_builder_goes_j1 ro K e94 h95 n96) (fun i98 => beqP (Nat.beq i98 0) (ref11_builder_goes_j1 ro K e94 h95 n96) (False)) (bindP (loadA ro h95 2 (e94 8)) fun r99 => ∃ h100, Sub h100 h95 ∧ K r99 h100 n96)
theorem ref11_builder_goes_eq (ro : Ro) (v0 v1 v2 v3 : Value) (h : T Obj) (nx : Nat) (K : KV) : callPre Try.prog ro (callP Try.prog ro) Try.f30 [v0, v1, v2, v3] h nx K = ref11_builder_goes ro v0 v1 v2 v3 h nx K := by kernel_rfl
theorem ref11_builder_goes_of {ro : Ro} {v0 v1 v2 v3 : Value} {h : T Obj} {nx : Nat} {K : KV} (hw : ref11_builder_goes ro v0 v1 v2 v3 h nx K) : callP Try.prog ro i_ref11_builder_goes [v0, v1, v2, v3] h nx K := callP_by (P := Try.prog) (fn := Try.f30) (by kernel_rfl) (by kernel_rfl) (by kernel_rfl) (Eq.mpr (ref11_builder_goes_eq ro v0 v1 v2 v3 h nx K) hw)
@[irreducible] def ref11_builder_ripe (ro : Ro) (v0 v1 v2 v3 : Value) (h : T Obj) (nx : Nat) (K : KV) : Prop := newP h nx (.cells (Value.cells v1) y_api_State) fun h1 => bindP (loadA ro h1 4 (ptr nx)) fun t10_2 => callP Try.prog ro i_ref11_builder_digit [v0, t10_2, v2, v3] h1 (nx + 7) fun t13_3 h4 n5 => bindP (intB .neq t13_3 (Value.int IntKind.i64 0)) fun t14_6 => ∃ h7, Sub h7 h4 ∧ K t14_6 h7 (n5 + 2)
theorem ref11_builder_ripe_eq (ro : Ro) (v0 v1 v2 v3 : Value) (h : T Obj) (nx : Nat) (K : KV) : callPre Try.prog ro (callP Try.prog ro) Try.f54 [v0, v1, v2, v3] h nx K = ref11_builder_ripe ro v0 v1 v2 v3 h nx K := by kernel_rfl
theorem ref11_builder_ripe_of {ro : Ro} {v0 v1 v2 v3 : Value} {h : T Obj} {nx : Nat} {K : KV} (hw : ref11_builder_ripe ro v0 v1 v2 v3 h nx K) : callP Try.prog ro i_ref11_builder_ripe [v0, v1, v2, v3] h nx K := callP_by (P := Try.prog) (fn := Try.f54) (by kernel_rfl) (by kernel_rfl) (by kernel_rfl) (Eq.mpr (ref11_builder_ripe_eq ro v0 v1 v2 v3 h nx K) hw)
@[irreducible] def ref11_builder_enters_j1 (ro : Ro) (K : KV) : Env → T Obj → Nat → Prop := fun e h nx => ∃ h11, Sub h11 h ∧ K (Value.bool false) h11 (nx + 1)
@[irreducible] def ref11_builder_enters_L1 (ro : Ro) : PT := fun e h nx Q => bindP (fwdP 0 (e 7)) fun t22_12 => bindP (load1 ro h t22_12) fun t23_13 => bindP (lenSl t23_13) fun t24_14 => bindP (intB .lss (e 11) t24_14) fun t25_15 => condP t25_15 (bindP (loadA ro h 4 (e 7)) fun t29_16 => bindP (fwdP 0 (e 7)) fun t31_17 => bindP (load1 ro h t31_17) fun t32_18 => bindP (ixSl 1 t32_18 (e 11)) fun t34_19 => bindP (load1 ro h t34_19) fun t35_20 => callP Try.prog ro i_ref11_builder_ripe [(e 0), t29_16, (e 3), t35_20] h (nx + 31) fun t36_21 h22 n23 => ifP t36_21 true h22 n23 (fun k24 => k24 (e 0) h22 n23) fun t38_25 h26 n27 => ifP t36_21 true h26 n27 (fun k28 => bindP (nilCk t38_25) fun t39_32 => k28 t39_32 h26 n27) fun t39_29 h30 n31 => ifP t36_21 true h30 n31 (fun k33 => bindP (fwdP 0 t39_29) fun t40_37 => k33 t40_37 h30 n31) fun t40_34 h35 n36 => ifP t36_21 true h35 n36 (fun k38 => bindP (fwdP 1 t40_34) fun t41_42 => k38 t41_42 h35 n36) fun t41_39 h40 n41 => ifP t36_21 true h40 n41 (fun k43 => bindP (load1 ro h40 t41_39) fun t42_47 => k43 t42_47 h40 n41) fun t42_44 h45 n46 => ifP t36_21 true h45 n46 (fun k48 => bindP (fwdP 0 (e 7)) fun t43_52 => k48 t43_52 h45 n46) fun t43_49 h50 n51 => ifP t36_21 true h50 n51 (fun k53 => bindP (load1 ro h50 t43_49) fun t44_57 => k53 t44_57 h50 n51) fun t44_54 h55 n56 => ifP t36_21 true h55 n56 (fun k58 => k58 (e 11) h55 n56) fun t45_59 h60 n61 => ifP t36_21 true h60 n61 (fun k62 => bindP (ixSl 1 t44_54 t45_59) fun t46_66 => k62 t46_66 h60 n61) fun t46_63 h64 n65 => ifP t36_21 true h64 n65 (fun k67 => bindP (load1 ro h64 t46_63) fun t47_71 => k67 t47_71 h64 n65) fun t47_68 h69 n70 => ifP t36_21 true h69 n70 (fun k72 => bindP (ixSl 9 t42_44 t47_68) fun t48_76 => k72 t48_76 h69 n70) fun t48_73 h74 n75 => ifP t36_21 true h74 n75 (fun k77 => bindP (fwdP 8 t48_73) fun t49_81 => k77 t49_81 h74 n75) fun t49_78 h79 n80 => ifP t36_21 true h79 n80 (fun k82 => bindP (load1 ro h79 t49_78) fun t50_86 => k82 t50_86 h79 n80) fun t50_83 h84 n85 => ifP t36_21 true h84 n85 (fun k87 => k87 (e 4) h84 n85) fun t51_88 h89 n90 => ifP t36_21 true h89 n90 (fun k91 => callP Try.prog ro i_ref11_in [t50_83, t51_88] h89 n90 fun t52_95 h96 n97 => k91 t52_95 h96 n97) fun t52_92 h93 n94 => bindP (pickV t36_21 t52_92 (Value.bool false)) fun t53_98 => condP t53_98 (Q .ret (puts e [(21, (e 11)), (22, t22_12), (23, t23_13), (24, t24_14), (25, t25_15), (28, (e 0)), (29, t29_16), (30, (e 3)), (31, t31_17), (32, t32_18), (33, (e 11)), (34, t34_19), (35, t35_20), (36, t36_21), (37, t36_21), (38, t38_25), (39, t39_29), (40, t40_34), (41, t41_39), (42, t42_44), (43, t43_49), (44, t44_54), (45, t45_59), (46, t46_63), (47, t47_68), (48, t48_73), (49, t49_78), (50, t50_83), (51, t51_88), (52, t52_92), (53, t53_98), (10, (Value.bool true))]) h93 (n94 + 1)) (bindP (intB .add (e 11) (Value.int IntKind.i64 1)) fun t27_99 => Q .normal (puts e [(21, (e 11)), (22, t22_12), (23, t23_13), (24, t24_14), (25, t25_15), (28, (e 0)), (29, t29_16), (30, (e 3)), (31, t31_17), (32, t32_18), (33, (e 11)), (34, t34_19), (35, t35_20), (36, t36_21), (37, t36_21), (38, t38_25), (39, t39_29), (40, t40_34), (41, t41_39), (42, t42_44), (43, t43_49), (44, t44_54), (45, t45_59), (46, t46_63), (47, t47_68), (48, t48_73), (49, t49_78), (50, t50_83), (51, t51_88), (52, t52_92), (53, t53_98), (26, (e 11)), (27, t27_99), (11, t27_99)]) h93 (n94 + 3))) (Q (.exit 0) (puts e [(21, (e 11)), (22, t22_12), (23, t23_13), (24, t24_14), (25, t25_15)]) h (nx + 5))
@[irreducible] def ref11_builder_enters (ro : Ro) (v0 v1 v2 v3 v4 : Value) (h : T Obj) (nx : Nat) (K : KV) : Prop := newP h nx (.cells (Value.cells v2) y_api_State) fun h1 => bindP (intB .eql v1 (Value.int IntKind.i64 0)) fun t13_2 => condP t13_2 (bindP (nilCk v0) fun t15_3 => bindP (fwdP 0 t15_3) fun t16_4 => bindP (fwdP 0 t16_4) fun t17_5 => bindP (load1 ro h1 t17_5) fun t18_6 => callP Try.prog ro i_ref11_in [t18_6, v4] h1 (nx + 11) fun t20_7 h8 n9 => ∃ h10, Sub h10 h8 ∧ K t20_7 h10 (n9 + 1)) (loopP (ref11_builder_enters_L1 ro) (puts (entE [v0, v1, v2, v3, v4]) [(7, (ptr nx)), (10, (Value.bool false)), (12, v1), (13, t13_2), (11, (Value.int IntKind.i64 0))]) h1 (nx + 5) fun x103 e100 h101 n102 => exP x103 (ref11_builder_enters_j1 ro K e100 h101 n102) (fun i104 => beqP (Nat.beq i104 0) (ref11_builder_enters_j1 ro K e100 h101 n102) (False)) (∃ h105, Sub h105 h101 ∧ K (e100 10) h105 n102))
theorem ref11_builder_enters_eq (ro : Ro) (v0 v1 v2 v3 v4 : Value) (h : T Obj) (nx : Nat) (K : KV) : callPre Try.prog ro (callP Try.prog ro) Try.f57 [v0, v1, v2, v3, v4] h nx K = ref11_builder_enters ro v0 v1 v2 v3 v4 h nx K := by kernel_rfl
theorem ref11_builder_enters_of {ro : Ro} {v0 v1 v2 v3 v4 : Value} {h : T Obj} {nx : Nat} {K : KV} (hw : ref11_builder_enters ro v0 v1 v2 v3 v4 h nx K) : callP Try.prog ro i_ref11_builder_enters [v0, v1, v2, v3, v4] h nx K := callP_by (P := Try.prog) (fn := Try.f57) (by kernel_rfl) (by kernel_rfl) (by kernel_rfl) (Eq.mpr (ref11_builder_enters_eq ro v0 v1 v2 v3 v4 h nx K) hw)
@[irreducible] def ref11_builder_stays (ro : Ro) (v0 v1 v2 v3 : Value) (h : T Obj) (nx : Nat) (K : KV) : Prop := newP h nx (.cells (Value.cells v1) y_api_State) fun h1 => bindP (loadA ro h1 4 (ptr nx)) fun t11_2 => callP Try.prog ro i_ref11_builder_digit [v0, t11_2, v2, v3] h1 (nx + 7) fun t14_3 h4 n5 => bindP (fwdP 0 (ptr nx)) fun t15_6 => bindP (load1 ro h4 t15_6) fun t16_7 => callP Try.prog ro i_ref11_in [t16_7, v3] h4 (n5 + 5) fun t18_8 h9 n10 => ifP t18_8 true h9 (n10 + 1) (fun k11 => k11 t14_3 h9 (n10 + 2)) fun t20_12 h13 n14 => ifP t18_8 true h13 n14 (fun k15 => bindP (intB .eql t20_12 (Value.int IntKind.i64 0)) fun t21_19 => k15 t21_19 h13 (n14 + 1)) fun t21_16 h17 n18 => ifP t18_8 true h17 n18 (fun k20 => k20 t21_16 h17 (n18 + 1)) fun t22_21 h22 n23 => ifP t22_21 false h22 n23 (fun k24 => k24 t14_3 h22 (n23 + 1)) fun t23_25 h26 n27 => ifP t22_21 false h26 n27 (fun k28 => bindP (intB .eql t23_25 (Value.int IntKind.i64 2)) fun t24_32 => k28 t24_32 h26 (n27 + 1)) fun t24_29 h30 n31 => ifP t18_8 true h30 n31 (fun k33 => bindP (pickV t22_21 (Value.bool true) t24_29) fun t25_37 => k33 t25_37 h30 (n31 + 1)) fun t25_34 h35 n36 => bindP (pickV t18_8 t25_34 (Value.bool false)) fun t26_38 => ∃ h39, Sub h39 h35 ∧ K t26_38 h39 (n36 + 2)
theorem ref11_builder_stays_eq (ro : Ro) (v0 v1 v2 v3 : Value) (h : T Obj) (nx : Nat) (K : KV) : callPre Try.prog ro (callP Try.prog ro) Try.f58 [v0, v1, v2, v3] h nx K = ref11_builder_stays ro v0 v1 v2 v3 h nx K := by kernel_rfl
theorem ref11_builder_stays_of {ro : Ro} {v0 v1 v2 v3 : Value} {h : T Obj} {nx : Nat} {K : KV} (hw : ref11_builder_stays ro v0 v1 v2 v3 h nx K) : callP Try.prog ro i_ref11_builder_stays [v0, v1, v2, v3] h nx K := callP_by (P := Try.prog) (fn := Try.f58) (by kernel_rfl) (by kernel_rfl) (by kernel_rfl) (Eq.mpr (ref11_builder_stays_eq ro v0 v1 v2 v3 h nx K) hw)
@[irreducible] def ref11_builder_find_j2 (ro : Ro) (K : KV) : Env → T Obj → Nat → Prop := fun e h nx => bindP (lenSl (e 9)) fun t86_1 => bindP (intB .gtr t86_1 (Value.int IntKind.i64 3)) fun t87_2 => condP t87_2 (bindP (nilCk (e 0)) fun t89_3 => bindP (fwdP 262 t89_3) fun t90_4 => bindP (storeN 1 h t90_4 (Value.int IntKind.i64 110)) fun h5 => ∃ h6, Sub h6 h5 ∧ K (Value.int IntKind.i64 0) h6 (nx + 8)) (bindP (nilCk (e 0)) fun t92_7 => bindP (fwdP 3 t92_7) fun t93_8 => bindP (fwdP 258 t93_8) fun t94_9 => bindP (load1 ro h t94_9) fun t95_10 => bindP (lenSl t95_10) fun t96_11 => bindP (intB .geq t96_11 (Value.int IntKind.i64 256)) fun t97_12 => condP t97_12 (bindP (nilCk (e 0)) fun t99_13 => bindP (fwdP 262 t99_13) fun t100_14 => bindP (storeN 1 h t100_14 (Value.int IntKind.i64 3)) fun h15 => ∃ h16, Sub h16 h15 ∧ K (Value.int IntKind.i64 0) h16 (nx + 15)) (bindP (nilCk (e 0)) fun t103_17 => bindP (fwdP 3 t103_17) fun t104_18 => bindP (fwdP 258 t104_18) fun t105_19 => bindP (load1 ro h t105_19) fun t106_20 => bindP (buildV Try.prog y_api_State [(0, (e 1)), (1, (e 9))]) fun t109_21 => bindP (sliceLitV Try.prog y_s_api_State (nx + 19) 1 [(0, t109_21)]) fun r22 => optP h (nx + 19) r22.2 fun h23 => bindP (appendV Try.prog ro h23 (nx + 21) #[y_s_api_State, y_s_api_State] [t106_20, r22.1]) fun r24 => bindP (nilCk (e 0)) fun t112_25 => bindP (fwdP 3 t112_25) fun t113_26 => bindP (fwdP 258 t113_26) fun t114_27 => bindP (storeN 1 r24.2.1 t114_27 r24.1) fun h28 => bindP (nilCk (e 0)) fun t116_29 => bindP (fwdP 3 t116_29) fun t117_30 => bindP (fwdP 258 t117_30) fun t118_31 => bindP (load1 ro h28 t118_31) fun t119_32 => bindP (lenSl t119_32) fun t120_33 => bindP (intB .sub t120_33 (Value.int IntKind.i64 1)) fun t121_34 => ∃ h35, Sub h35 h28 ∧ K t121_34 h35 (r24.2.2 + 12)))
@[irreducible] def ref11_builder_find_j3 (ro : Ro) (Q : KE) : Env → T Obj → Nat → Prop := fun e h nx => bindP (intB .add (e 10) (Value.int IntKind.i64 1)) fun t60_38 => Q .normal (puts e [(59, (e 10)), (60, t60_38), (10, t60_38)]) h (nx + 3)
@[irreducible] def ref11_builder_find_L1 (ro : Ro) : PT := fun e h nx Q => bindP (lenSl (e 1)) fun t57_36 => bindP (intB .lss (e 10) t57_36) fun t58_37 => condP t58_37 (bindP (nilCk (e 0)) fun t62_39 => bindP (fwdP 2 t62_39) fun t63_40 => bindP (load1 ro h t63_40) fun t64_41 => bindP (ixSl 1 (e 1) (e 10)) fun t67_42 => bindP (load1 ro h t67_42) fun t68_43 => bindP (ixSl 1 t64_41 t68_43) fun t69_44 => bindP (load1 ro h t69_44) fun t70_45 => bindP (intB .geq t70_45 (Value.int IntKind.i64 0)) fun t71_46 => condP t71_46 (bindP (nilCk (e 0)) fun t74_47 => bindP (fwdP 2 t74_47) fun t75_48 => bindP (load1 ro h t75_48) fun t76_49 => bindP (ixSl 1 (e 1) (e 10)) fun t79_50 => bindP (load1 ro h t79_50) fun t80_51 => bindP (ixSl 1 t76_49 t80_51) fun t81_52 => bindP (load1 ro h t81_52) fun t82_53 => bindP (sliceLitV Try.prog y_s_int (nx + 26) 1 [(0, t82_53)]) fun r54 => optP h (nx + 26) r54.2 fun h55 => bindP (appendV Try.prog ro h55 (nx + 29) #[y_s_int, y_s_int] [(e 9), r54.1]) fun r56 => ref11_builder_find_j3 ro Q (puts e [(55, (e 10)), (56, (e 1)), (57, t57_36), (58, t58_37), (61, (e 0)), (62, t62_39), (63, t63_40), (64, t64_41), (65, (e 1)), (66, (e 10)), (67, t67_42), (68, t68_43), (69, t69_44), (70, t70_45), (71, t71_46), (72, (e 9)), (73, (e 0)), (74, t74_47), (75, t75_48), (76, t76_49), (77, (e 1)), (78, (e 10)), (79, t79_50), (80, t80_51), (81, t81_52), (82, t82_53), (83, r54.1), (84, r56.1), (9, r56.1)]) r56.2.1 r56.2.2) (ref11_builder_find_j3 ro Q (puts e [(55, (e 10)), (56, (e 1)), (57, t57_36), (58, t58_37), (61, (e 0)), (62, t62_39), (63, t63_40), (64, t64_41), (65, (e 1)), (66, (e 10)), (67, t67_42), (68, t68_43), (69, t69_44), (70, t70_45), (71, t71_46)]) h (nx + 15))) (Q (.exit 4) (puts e [(55, (e 10)), (56, (e 1)), (57, t57_36), (58, t58_37)]) h (nx + 4))
@[irreducible] def ref11_builder_find_j1 (ro : Ro) (K : KV) : Env → T Obj → Nat → Prop := fun e h nx => loopP (ref11_builder_find_L1 ro) (puts e [(9, (Value.slice none 0 0)), (10, (Value.int IntKind.i64 0))]) h (nx + 2) fun x60 e57 h58 n59 => exP x60 (ref11_builder_find_j2 ro K e57 h58 n59) (fun i61 => beqP (Nat.beq i61 4) (ref11_builder_find_j2 ro K e57 h58 n59) (False)) (∃ h62, Sub h62 h58 ∧ K (e57 4) h62 n59)
@[irreducible] def ref11_builder_find_j4 (ro : Ro) (Q : KE) : Env → T Obj → Nat → Prop := fun e h nx => bindP (intB .add (e 5) (Value.int IntKind.i64 1)) fun t20_69 => Q .normal (puts e [(19, (e 5)), (20, t20_69), (5, t20_69)]) h (nx + 3)
@[irreducible] def ref11_builder_find_j5 (ro : Ro) (Q : KE) : Env → T Obj → Nat → Prop := fun e h nx => condP (e 7) (Q .ret (puts e [(53, (e 7)), (54, (e 5)), (4, (e 5))]) h (nx + 3)) (ref11_builder_find_j4 ro Q (puts e [(53, (e 7))]) h (nx + 1))
@[irreducible] def ref11_builder_find_L3 (ro : Ro) : PT := fun e h nx Q => bindP (lenSl (e 1)) fun t37_80 => bindP (intB .lss (e 8) t37_80) fun t38_81 => condP t38_81 (ifP (e 7) true h (nx + 17) (fun k82 => k82 (e 6) h (nx + 17)) fun t43_83 h84 n85 => ifP (e 7) true h84 n85 (fun k86 => k86 (e 8) h84 n85) fun t44_87 h88 n89 => ifP (e 7) true h88 n89 (fun k90 => bindP (ixSl 1 t43_83 t44_87) fun t45_94 => k90 t45_94 h88 n89) fun t45_91 h92 n93 => ifP (e 7) true h92 n93 (fun k95 => bindP (load1 ro h92 t45_91) fun t46_99 => k95 t46_99 h92 n93) fun t46_96 h97 n98 => ifP (e 7) true h97 n98 (fun k100 => k100 (e 1) h97 n98) fun t47_101 h102 n103 => ifP (e 7) true h102 n103 (fun k104 => k104 (e 8) h102 n103) fun t48_105 h106 n107 => ifP (e 7) true h106 n107 (fun k108 => bindP (ixSl 1 t47_101 t48_105) fun t49_112 => k108 t49_112 h106 n107) fun t49_109 h110 n111 => ifP (e 7) true h110 n111 (fun k113 => bindP (load1 ro h110 t49_109) fun t50_117 => k113 t50_117 h110 n111) fun t50_114 h115 n116 => ifP (e 7) true h115 n116 (fun k118 => bindP (intB .eql t46_96 t50_114) fun t51_122 => k118 t51_122 h115 n116) fun t51_119 h120 n121 => bindP (pickV (e 7) t51_119 (Value.bool false)) fun t52_123 => bindP (intB .add (e 8) (Value.int IntKind.i64 1)) fun t40_124 => Q .normal (puts e [(35, (e 8)), (36, (e 1)), (37, t37_80), (38, t38_81), (41, (e 7)), (42, (e 7)), (43, t43_83), (44, t44_87), (45, t45_91), (46, t46_96), (47, t47_101), (48, t48_105), (49, t49_109), (50, t50_114), (51, t51_119), (52, t52_123), (7, t52_123), (39, (e 8)), (40, t40_124), (8, t40_124)]) h120 (n121 + 3)) (Q (.exit 2) (puts e [(35, (e 8)), (36, (e 1)), (37, t37_80), (38, t38_81)]) h (nx + 4))
@[irreducible] def ref11_builder_find_L2 (ro : Ro) : PT := fun e h nx Q => bindP (nilCk (e 0)) fun t13_63 => bindP (fwdP 3 t13_63) fun t14_64 => bindP (fwdP 258 t14_64) fun t15_65 => bindP (load1 ro h t15_65) fun t16_66 => bindP (lenSl t16_66) fun t17_67 => bindP (intB .lss (e 5) t17_67) fun t18_68 => condP t18_68 (bindP (nilCk (e 0)) fun t22_70 => bindP (fwdP 3 t22_70) fun t23_71 => bindP (fwdP 258 t23_71) fun t24_72 => bindP (load1 ro h t24_72) fun t25_73 => bindP (ixSl 4 t25_73 (e 5)) fun t27_74 => bindP (fwdP 0 t27_74) fun t28_75 => bindP (load1 ro h t28_75) fun t29_76 => bindP (lenSl t29_76) fun t31_77 => bindP (lenSl (e 1)) fun t33_78 => bindP (intB .eql t31_77 t33_78) fun t34_79 => condP t34_79 (loopP (ref11_builder_find_L3 ro) (puts e [(11, (e 5)), (12, (e 0)), (13, t13_63), (14, t14_64), (15, t15_65), (16, t16_66), (17, t17_67), (18, t18_68), (21, (e 0)), (22, t22_70), (23, t23_71), (24, t24_72), (25, t25_73), (26, (e 5)), (27, t27_74), (28, t28_75), (29, t29_76), (6, t29_76), (30, t29_76), (31, t31_77), (32, (e 1)), (33, t33_78), (34, t34_79), (7, (Value.bool true)), (8, (Value.int IntKind.i64 0))]) h (nx + 25) fun x128 e125 h126 n127 => exP x128 (ref11_builder_find_j5 ro Q e125 h126 n127) (fun i129 => beqP (Nat.beq i129 2) (ref11_builder_find_j5 ro Q e125 h126 n127) (beqP (Nat.beq i129 1) (ref11_builder_find_j4 ro Q e125 h126 n127) (Q (.exit i129) e125 h126 n127))) (Q .ret e125 h126 n127)) (ref11_builder_find_j4 ro Q (puts e [(11, (e 5)), (12, (e 0)), (13, t13_63), (14, t14_64), (15, t15_65), (16, t16_66), (17, t17_67), (18, t18_68), (21, (e 0)), (22, t22_70), (23, t23_71), (24, t24_72), (25, t25_73), (26, (e 5)), (27, t27_74), (28, t28_75), (29, t29_76), (6, t29_76), (30, t29_76), (31, t31_77), (32, (e 1)), (33, t33_78), (34, t34_79)]) h (nx + 23))) (Q (.exit 0) (puts e [(11, (e 5)), (12, (e 0)), (13, t13_63), (14, t14_64), (15, t15_65), (16, t16_66), (17, t17_67), (18, t18_68)]) h (nx + 8))
@[irreducible] def ref11_builder_find (ro : Ro) (v0 v1 : Value) (h : T Obj) (nx : Nat) (K : KV) : Prop := loopP (ref11_builder_find_L2 ro) (puts (entE [v0, v1]) [(4, (Value.int IntKind.i64 0)), (5, (Value.int IntKind.i64 1))]) h (nx + 2) fun x133 e130 h131 n132 => exP x133 (ref11_builder_find_j1 ro K e130 h131 n132) (fun i134 => beqP (Nat.beq i134 0) (ref11_builder_find_j1 ro K e130 h131 n132) (False)) (∃ h135, Sub h135 h131 ∧ K (e130 4) h135 n132)
theorem ref11_builder_find_eq (ro : Ro) (v0 v1 : Value) (h : T Obj) (nx : Nat) (K : KV) : callPre Try.prog ro (callP Try.prog ro) Try.f59 [v0, v1] h nx K = ref11_builder_find ro v0 v1 h nx K := by kernel_rfl
theorem ref11_builder_find_of {ro : Ro} {v0 v1 : Value} {h : T Obj} {nx : Nat} {K : KV} (hw : ref11_builder_find ro v0 v1 h nx K) : callP Try.prog ro i_ref11_builder_find [v0, v1] h nx K := callP_by (P := Try.prog) (fn := Try.f59) (by kernel_rfl) (by kernel_rfl) (by kernel_rfl) (Eq.mpr (ref11_builder_find_eq ro v0 v1 h nx K) hw)
@[irreducible] def ref11_builder_digit_j1 (ro : Ro) (K : KV) : Env → T Obj → Nat → Prop := fun e h nx => ∃ h2, Sub h2 h ∧ K (Value.int IntKind.i64 (-1)) h2 (nx + 1)
@[irreducible] def ref11_builder_digit_L1 (ro : Ro) : PT := fun e h nx Q => bindP (fwdP 1 (e 5)) fun t11_3 => bindP (load1 ro h t11_3) fun t12_4 => bindP (lenSl t12_4) fun t13_5 => bindP (intB .lss (e 9) t13_5) fun t14_6 => condP t14_6 (bindP (fwdP 1 (e 5)) fun t17_7 => bindP (load1 ro h t17_7) fun t18_8 => bindP (ixSl 1 t18_8 (e 9)) fun t20_9 => bindP (load1 ro h t20_9) fun t21_10 => bindP (nilCk (e 0)) fun t23_11 => bindP (fwdP 2 t23_11) fun t24_12 => bindP (load1 ro h t24_12) fun t25_13 => bindP (ixSl 1 t25_13 (e 3)) fun t27_14 => bindP (load1 ro h t27_14) fun t28_15 => bindP (intB .eql t21_10 t28_15) fun t29_16 => condP t29_16 (bindP (intB .rem (e 2) (Value.int IntKind.i64 3)) fun t31_17 => Q .ret (puts e [(10, (e 9)), (11, t11_3), (12, t12_4), (13, t13_5), (14, t14_6), (17, t17_7), (18, t18_8), (19, (e 9)), (20, t20_9), (21, t21_10), (22, (e 0)), (23, t23_11), (24, t24_12), (25, t25_13), (26, (e 3)), (27, t27_14), (28, t28_15), (29, t29_16), (30, (e 2)), (31, t31_17), (8, t31_17)]) h (nx + 21)) (bindP (intB .quo (e 2) (Value.int IntKind.i64 3)) fun t33_18 => bindP (intB .add (e 9) (Value.int IntKind.i64 1)) fun t16_19 => Q .normal (puts e [(10, (e 9)), (11, t11_3), (12, t12_4), (13, t13_5), (14, t14_6), (17, t17_7), (18, t18_8), (19, (e 9)), (20, t20_9), (21, t21_10), (22, (e 0)), (23, t23_11), (24, t24_12), (25, t25_13), (26, (e 3)), (27, t27_14), (28, t28_15), (29, t29_16), (32, (e 2)), (33, t33_18), (2, t33_18), (15, (e 9)), (16, t16_19), (9, t16_19)]) h (nx + 24))) (Q (.exit 0) (puts e [(10, (e 9)), (11, t11_3), (12, t12_4), (13, t13_5), (14, t14_6)]) h (nx + 5))
@[irreducible] def ref11_builder_digit (ro : Ro) (v0 v1 v2 v3 : Value) (h : T Obj) (nx : Nat) (K : KV) : Prop := newP h nx (.cells (Value.cells v1) y_api_State) fun h1 => loopP (ref11_builder_digit_L1 ro) (puts (entE [v0, v1, v2, v3]) [(5, (ptr nx)), (8, (Value.int IntKind.i64 0)), (9, (Value.int IntKind.i64 0))]) h1 (nx + 3) fun x23 e20 h21 n22 => exP x23 (ref11_builder_digit_j1 ro K e20 h21 n22) (fun i24 => beqP (Nat.beq i24 0) (ref11_builder_digit_j1 ro K e20 h21 n22) (False)) (∃ h25, Sub h25 h21 ∧ K (e20 8) h25 n22)
theorem ref11_builder_digit_eq (ro : Ro) (v0 v1 v2 v3 : Value) (h : T Obj) (nx : Nat) (K : KV) : callPre Try.prog ro (callP Try.prog ro) Try.f84 [v0, v1, v2, v3] h nx K = ref11_builder_digit ro v0 v1 v2 v3 h nx K := by kernel_rfl
theorem ref11_builder_digit_of {ro : Ro} {v0 v1 v2 v3 : Value} {h : T Obj} {nx : Nat} {K : KV} (hw : ref11_builder_digit ro v0 v1 v2 v3 h nx K) : callP Try.prog ro i_ref11_builder_digit [v0, v1, v2, v3] h nx K := callP_by (P := Try.prog) (fn := Try.f84) (by kernel_rfl) (by kernel_rfl) (by kernel_rfl) (Eq.mpr (ref11_builder_digit_eq ro v0 v1 v2 v3 h nx K) hw)
end V
end Go.Proofs.Ytmmdcdjkmakgpaa
set_option linter.unusedVariables false
set_option linter.unusedSimpArgs false
namespace Go.Proofs.Ytmmdcdjkmakgpaa
namespace V
open PA
attribute [local irreducible] bindP ifP condP newP optP exP beqP
def rbL (av bv nv : Value) (c : List Nat) (n : Int) (cv sv ev : Value) : List Value := av :: bv :: nv :: (autL c n cv sv ++ [ev])
section
variable {av bv nv : Value} {c : List Nat} {n : Int} {cv sv ev : Value}
theorem rbL_len (hc : c.length = 256) : (rbL av bv nv c n cv sv ev).length = 263 := by simp [rbL, autL_len hc]
theorem rbL_0 : (rbL av bv nv c n cv sv ev)[0]? = some av := rfl
theorem rbL_1 : (rbL av bv nv c n cv sv ev)[1]? = some bv := rfl
theorem rbL_2 : (rbL av bv nv c n cv sv ev)[2]? = some nv := rfl
theorem rbL_mid {i : Nat} (hc : c.length = 256) (hi : i < 259) : (rbL av bv nv c n cv sv ev)[i + 3]? = (autL c n cv sv)[i]? := by
  show (autL c n cv sv ++ [ev])[i]? = _
  rw [List.getElem?_append_left (by rw [autL_len hc]; exact hi)]
theorem rbL_259 (hc : c.length = 256) : (rbL av bv nv c n cv sv ev)[259]? = some (.int .i64 n) := by rw [show 259 = 256 + 3 from rfl, rbL_mid hc (by omega), autL_many hc]
theorem rbL_260 (hc : c.length = 256) : (rbL av bv nv c n cv sv ev)[260]? = some cv := by rw [show 260 = 257 + 3 from rfl, rbL_mid hc (by omega), autL_counts hc]
theorem rbL_261 (hc : c.length = 256) : (rbL av bv nv c n cv sv ev)[261]? = some sv := by rw [show 261 = 258 + 3 from rfl, rbL_mid hc (by omega), autL_states hc]
theorem rbL_262 (hc : c.length = 256) : (rbL av bv nv c n cv sv ev)[262]? = some ev := by
  show (autL c n cv sv ++ [ev])[259]? = _
  rw [List.getElem?_append_right (by rw [autL_len hc]; omega), autL_len hc]; rfl
theorem rbL_set2 (v : Value) : (rbL av bv nv c n cv sv ev).set 2 v = rbL av bv v c n cv sv ev := rfl
theorem rbL_set260 (hc : c.length = 256) (v : Value) : (rbL av bv nv c n cv sv ev).set 260 v = rbL av bv nv c n v sv ev := by
  show av :: bv :: nv :: ((autL c n cv sv ++ [ev]).set 257 v) = _
  rw [List.set_append_left _ _ (by rw [autL_len hc]; omega), autL_set257 hc]; rfl
theorem rbL_set261 (hc : c.length = 256) (v : Value) : (rbL av bv nv c n cv sv ev).set 261 v = rbL av bv nv c n cv v ev := by
  show av :: bv :: nv :: ((autL c n cv sv ++ [ev]).set 258 v) = _
  rw [List.set_append_left _ _ (by rw [autL_len hc]; omega), autL_set hc]; rfl
theorem rbL_set262 (hc : c.length = 256) (v : Value) : (rbL av bv nv c n cv sv ev).set 262 v = rbL av bv nv c n cv sv v := by
  show av :: bv :: nv :: ((autL c n cv sv ++ [ev]).set 259 v) = _
  rw [List.set_append_right _ _ (by rw [autL_len hc]; omega), autL_len hc]; rfl
end
theorem ixR {ro : Ro} {g : GlD} {h : T Obj} {nv : Value} {q : Int} (hn : ZI ro h nv (numL g)) (h0 : 0 ≤ q) (h1 : q < g.p.length) : ixSl 1 nv (.int .i64 q) = some (elPtr 1 nv q.toNat) ∧ load1 ro h (elPtr 1 nv q.toNat) = some (.int .i64 (numOf g q)) := by
  refine ⟨hn.ixI .i64 h0 (by rw [numL_len]; exact h1), hn.load' ?_⟩
  have := numL_get (g := g) (k := q.toNat) (by omega)
  rwa [Int.toNat_of_nonneg h0] at this
section
variable {ro : Ro} {g : GlD} {bid : Nat} {av bv nv cv sv ev lv rv uv wv : Value} {c : List Nat} {n : Int} {e0 : TypeId} {l : List Int} {code q : Int}
set_option maxRecDepth 4000 in
set_option maxHeartbeats 1000000 in
theorem ref11_digit_c (hl : (regsZ g l).length ≤ 1000000) (hc0 : 0 ≤ code) (hc1 : code ≤ 1000000) (hq0 : 0 ≤ q) (hq1 : q < g.p.length)
    {h : T Obj} {nx : Nat} {K : KV} (hf : Fr h nx) (hb : h.get bid = some (.cells (rbL av bv nv c n cv sv ev).toArray e0)) (hn : ZI ro h nv (numL g)) (hrv : ZI ro h rv (regsZ g l))
    (hK : ∀ nx', nx ≤ nx' → K (.int .i64 (digOf g l code q)) h nx') : callP Try.prog ro i_ref11_builder_digit [ptr bid, .agg #[lv, rv, uv, wv], .int .i64 code, .int .i64 q] h nx K := by
  apply ref11_builder_digit_of
  unfold ref11_builder_digit
  refine param_mk hf (Nat.le_refl _) fun h1 hs1 hf1 g1 _ => ?_
  have g1 : h1.get nx = some (.cells [lv, rv, uv, wv].toArray y_api_State) := g1
  have hb1 := hs1 _ _ hb
  have hrv1 := hrv.sub hs1
  have c1 : ([lv, rv, uv, wv] : List Value)[1]? = some rv := rfl
  have hrl := hrv1.len
  have b2 := rbL_2 (av := av) (bv := bv) (nv := nv) (c := c) (n := n) (cv := cv) (sv := sv) (ev := ev)
  obtain ⟨ixn, ldn⟩ := ixR (hn.sub hs1) hq0 hq1
  generalize hD : digOf g l code q = D at hK
  unfold digOf at hD
  generalize regsZ g l = R at hl hrv hrv1 hrl hD
  refine loopP_rule (fun j e h' nx' => ∃ (k : Nat) (c' : Int), k + j = R.length ∧ nx + 1 ≤ nx' ∧ h' = h1 ∧ 0 ≤ c' ∧ c' ≤ 1000000 ∧ digR (R.drop k) c' (numOf g q) = D ∧ e 0 = ptr bid ∧ e 2 = .int .i64 c' ∧ e 3 = .int .i64 q ∧ e 5 = ptr nx ∧ e 9 = .int .i64 k) ?_ (n := R.length)
    ⟨0, code, by omega, by omega, rfl, hc0, hc1, hD, rfl, rfl, rfl, rfl, rfl⟩
  rintro j e h' nx' ⟨k, c', hj, hnx, rfl, q0, q1, hr, e0', e2, e3, e5, e9⟩ Q' hq hx
  unfold ref11_builder_digit_L1
  rw [e0', e2, e3, e5, e9]
  (repeat (first | refine bindP_mk (by simp (disch := first | omega | exact Int.natCast_nonneg _ | assumption) only [BB, B2, ↓reduceIte, Nat.reduceLeDiff, Nat.reduceAdd, CC, g1, c1, hrl] <;> rfl) ?_ | refine newP_mk ?_ | refine optP_mk ?_ | with_reducible first | refine condP_t ?_ | refine condP_f ?_ | refine ifP_tt' ?_ | refine ifP_ff' ?_ | refine ifP_tf' ?_ | refine ifP_ft' ?_ | refine ifP_u' ?_ | refine optP_mk0 ?_))
  refine lss_s (fun hk => ?_) (fun hk => ?_)
  · have hk : k < R.length := by omega
    have ixr := hrv1.ix .i64 hk
    have ldr := hrv1.load hk
    rw [drop_cons hk, digR_cons] at hr
    generalize R[k] = x at ldr hr
    (repeat (first | refine bindP_mk (by simp (disch := first | omega | exact Int.natCast_nonneg _ | assumption) only [BB, B2, ↓reduceIte, Nat.reduceLeDiff, Nat.reduceAdd, CC, g1, c1, ixr, ldr, nilCk_at, hb1, b2, ixn, ldn] <;> rfl) ?_ | refine newP_mk ?_ | refine optP_mk ?_ | with_reducible first | refine condP_t ?_ | refine condP_f ?_ | refine ifP_tt' ?_ | refine ifP_ff' ?_ | refine ifP_tf' ?_ | refine ifP_ft' ?_ | refine ifP_u' ?_ | refine optP_mk0 ?_))
    refine eql_s (fun u => ?_) (fun u => ?_)
    · rw [if_pos u] at hr
      (repeat (first | refine bindP_mk (by simp (disch := first | omega | exact Int.natCast_nonneg _ | assumption) only [BB, B2, ↓reduceIte, Nat.reduceLeDiff, Nat.reduceAdd, CC] <;> rfl) ?_ | refine newP_mk ?_ | refine optP_mk ?_ | with_reducible first | refine condP_t ?_ | refine condP_f ?_ | refine ifP_tt' ?_ | refine ifP_ff' ?_ | refine ifP_tf' ?_ | refine ifP_ft' ?_ | refine ifP_u' ?_ | refine optP_mk0 ?_))
      refine hx _ _ _ _ (fun e => by cases e) (exP_r ?_)
      subst hr
      exact ⟨h, hs1, hK _ (by omega)⟩
    · rw [if_neg u] at hr
      (repeat (first | refine bindP_mk (by simp (disch := first | omega | exact Int.natCast_nonneg _ | assumption) only [BB, B2, ↓reduceIte, Nat.reduceLeDiff, Nat.reduceAdd, CC] <;> rfl) ?_ | refine newP_mk ?_ | refine optP_mk ?_ | with_reducible first | refine condP_t ?_ | refine condP_f ?_ | refine ifP_tt' ?_ | refine ifP_ff' ?_ | refine ifP_tf' ?_ | refine ifP_ft' ?_ | refine ifP_u' ?_ | refine optP_mk0 ?_))
      exact hq (j - 1) _ h' _ _ (by omega) ⟨k + 1, c' / 3, by omega, by omega, rfl, by omega, by omega, hr, e0', rfl, e3, e5, rfl⟩ (Sub.refl _)
  · rw [List.drop_eq_nil_of_le (by omega)] at hr
    have hr : (-1 : Int) = D := hr
    subst hr
    (repeat (first | refine bindP_mk (by simp (disch := first | omega | exact Int.natCast_nonneg _ | assumption) only [BB, B2, ↓reduceIte, Nat.reduceLeDiff, Nat.reduceAdd, CC] <;> rfl) ?_ | refine newP_mk ?_ | refine optP_mk ?_ | with_reducible first | refine condP_t ?_ | refine condP_f ?_ | refine ifP_tt' ?_ | refine ifP_ff' ?_ | refine ifP_tf' ?_ | refine ifP_ft' ?_ | refine ifP_u' ?_ | refine optP_mk0 ?_))
    refine hx _ _ _ _ (fun e => by cases e) (exP_e (beqP_t ?_))
    unfold ref11_builder_digit_j1
    exact ⟨h, hs1, hK _ (by omega)⟩
set_option maxRecDepth 4000 in
theorem ref11_ripe_c (hl : (regsZ g l).length ≤ 1000000) (hc0 : 0 ≤ code) (hc1 : code ≤ 1000000) (hq0 : 0 ≤ q) (hq1 : q < g.p.length)
    {h : T Obj} {nx : Nat} {K : KV} (hf : Fr h nx) (hb : h.get bid = some (.cells (rbL av bv nv c n cv sv ev).toArray e0)) (hn : ZI ro h nv (numL g)) (hrv : ZI ro h rv (regsZ g l))
    (hK : ∀ nx', nx ≤ nx' → K (.bool (decide (digOf g l code q ≠ 0))) h nx') : callP Try.prog ro i_ref11_builder_ripe [ptr bid, .agg #[lv, rv, uv, wv], .int .i64 code, .int .i64 q] h nx K := by
  apply ref11_builder_ripe_of
  unfold ref11_builder_ripe
  refine param_mk hf (Nat.le_refl _) fun h1 hs1 hf1 g1 _ => ?_
  have g1 : h1.get nx = some (.cells [lv, rv, uv, wv].toArray y_api_State) := g1
  refine bindP_mk (loadA_all (l := [lv, rv, uv, wv]) g1 rfl) ?_
  refine ref11_digit_c hl hc0 hc1 hq0 hq1 (hf1.mono (show nx + 1 ≤ nx + 7 by omega)) (hs1 _ _ hb) (hn.sub hs1) (hrv.sub hs1) fun n2 hn2 => ?_
  refine bindP_mk (intB_neq _ _ _) ?_
  have e : (!decide (digOf g l code q = 0)) = decide (digOf g l code q ≠ 0) := by
    by_cases u : digOf g l code q = 0 <;> simp [u]
  rw [e]
  exact ⟨h, hs1, hK _ (by omega)⟩
set_option maxRecDepth 4000 in
theorem ref11_stays_c (hll : l.length ≤ 1000000) (hl : (regsZ g l).length ≤ 1000000) (hc0 : 0 ≤ code) (hc1 : code ≤ 1000000) (hq0 : 0 ≤ q) (hq1 : q < g.p.length)
    {h : T Obj} {nx : Nat} {K : KV} (hf : Fr h nx) (hb : h.get bid = some (.cells (rbL av bv nv c n cv sv ev).toArray e0)) (hn : ZI ro h nv (numL g)) (hlv : ZI ro h lv l) (hrv : ZI ro h rv (regsZ g l))
    (hK : ∀ nx', nx ≤ nx' → K (.bool (stayR g l code q)) h nx') : callP Try.prog ro i_ref11_builder_stays [ptr bid, .agg #[lv, rv, uv, wv], .int .i64 code, .int .i64 q] h nx K := by
  apply ref11_builder_stays_of
  unfold ref11_builder_stays
  refine param_mk hf (Nat.le_refl _) fun h1 hs1 hf1 g1 _ => ?_
  have g1 : h1.get nx = some (.cells [lv, rv, uv, wv].toArray y_api_State) := g1
  refine bindP_mk (loadA_all (l := [lv, rv, uv, wv]) g1 rfl) ?_
  refine ref11_digit_c hl hc0 hc1 hq0 hq1 (hf1.mono (show nx + 1 ≤ nx + 7 by omega)) (hs1 _ _ hb) (hn.sub hs1) (hrv.sub hs1) fun n2 hn2 => ?_
  have c0 : ([lv, rv, uv, wv] : List Value)[0]? = some lv := rfl
  (repeat (first | refine bindP_mk (by simp (disch := first | omega | exact Int.natCast_nonneg _ | assumption) only [BB, B2, ↓reduceIte, Nat.reduceLeDiff, Nat.reduceAdd, CC, g1, c0] <;> rfl) ?_ | refine newP_mk ?_ | refine optP_mk ?_ | with_reducible first | refine condP_t ?_ | refine condP_f ?_ | refine ifP_tt' ?_ | refine ifP_ff' ?_ | refine ifP_tf' ?_ | refine ifP_ft' ?_ | refine ifP_u' ?_ | refine optP_mk0 ?_))
  refine ref11_in_c hll (hlv.sub hs1) fun n3 hn3 => ?_
  have hk : ∀ n9, nx ≤ n9 → K (.bool (stayR g l code q)) h n9 := hK
  unfold stayR at hk
  generalize l.contains q = B at hk ⊢
  cases B with
  | false =>
    (repeat (first | refine bindP_mk (by simp (disch := first | omega | exact Int.natCast_nonneg _ | assumption) only [BB, B2, ↓reduceIte, Nat.reduceLeDiff, Nat.reduceAdd, CC] <;> rfl) ?_ | refine newP_mk ?_ | refine optP_mk ?_ | with_reducible first | refine condP_t ?_ | refine condP_f ?_ | refine ifP_tt' ?_ | refine ifP_ff' ?_ | refine ifP_tf' ?_ | refine ifP_ft' ?_ | refine ifP_u' ?_ | refine optP_mk0 ?_))
    exact ⟨h, hs1, hk _ (by omega)⟩
  | true =>
    (repeat (first | refine bindP_mk (by simp (disch := first | omega | exact Int.natCast_nonneg _ | assumption) only [BB, B2, ↓reduceIte, Nat.reduceLeDiff, Nat.reduceAdd, CC] <;> rfl) ?_ | refine newP_mk ?_ | refine optP_mk ?_ | with_reducible first | refine condP_t ?_ | refine condP_f ?_ | refine ifP_tt' ?_ | refine ifP_ff' ?_ | refine ifP_tf' ?_ | refine ifP_ft' ?_ | refine ifP_u' ?_ | refine optP_mk0 ?_))
    refine eql_s (fun u => ?_) (fun u => ?_)
    · rw [u] at hk
      (repeat (first | refine bindP_mk (by simp (disch := first | omega | exact Int.natCast_nonneg _ | assumption) only [BB, B2, ↓reduceIte, Nat.reduceLeDiff, Nat.reduceAdd, CC] <;> rfl) ?_ | refine newP_mk ?_ | refine optP_mk ?_ | with_reducible first | refine condP_t ?_ | refine condP_f ?_ | refine ifP_tt' ?_ | refine ifP_ff' ?_ | refine ifP_tf' ?_ | refine ifP_ft' ?_ | refine ifP_u' ?_ | refine optP_mk0 ?_))
      exact ⟨h, hs1, hk _ (by omega)⟩
    · rw [decide_eq_false u] at hk
      (repeat (first | refine bindP_mk (by simp (disch := first | omega | exact Int.natCast_nonneg _ | assumption) only [BB, B2, ↓reduceIte, Nat.reduceLeDiff, Nat.reduceAdd, CC] <;> rfl) ?_ | refine newP_mk ?_ | refine optP_mk ?_ | with_reducible first | refine condP_t ?_ | refine condP_f ?_ | refine ifP_tt' ?_ | refine ifP_ff' ?_ | refine ifP_tf' ?_ | refine ifP_ft' ?_ | refine ifP_u' ?_ | refine optP_mk0 ?_))
      refine bindP_mk (intB_eql _ _ _) ?_
      (repeat (first | refine bindP_mk (by simp (disch := first | omega | exact Int.natCast_nonneg _ | assumption) only [BB, B2, ↓reduceIte, Nat.reduceLeDiff, Nat.reduceAdd, CC] <;> rfl) ?_ | refine newP_mk ?_ | refine optP_mk ?_ | with_reducible first | refine condP_t ?_ | refine condP_f ?_ | refine ifP_tt' ?_ | refine ifP_ff' ?_ | refine ifP_tf' ?_ | refine ifP_ft' ?_ | refine ifP_u' ?_ | refine optP_mk0 ?_))
      exact ⟨h, hs1, hk _ (by omega)⟩
set_option maxRecDepth 4000 in
set_option maxHeartbeats 1000000 in
theorem ref11_enters_c {at_ : Nat} (h00 : at_ = 0 → l = []) (hz : rz (-1) g.p.length l = true) (hg : rightD g = true) (hll : l.length ≤ 1000000) (hl : (regsZ g l).length ≤ 1000000) (hc0 : 0 ≤ code) (hc1 : code ≤ 1000000)
    {h : T Obj} {nx : Nat} {K : KV} (hf : Fr h nx) (hb : h.get bid = some (.cells (rbL av bv nv c n cv sv ev).toArray e0)) (hn : ZI ro h nv (numL g)) (ha : ZI ro h av g.first) (hP : SlR ro h bv 9 (RPos ro h) g.p) (hlv : ZI ro h lv l) (hrv : ZI ro h rv (regsZ g l)) (hvo : [lv, rv, uv, wv].all cellOk = true)
    (hK : ∀ nx', nx ≤ nx' → K (.bool (entersZ g at_ (digs g l code) q)) h nx') : callP Try.prog ro i_ref11_builder_enters [ptr bid, .int .i64 (at_ : Int), .agg #[lv, rv, uv, wv], .int .i64 code, .int .i64 q] h nx K := by
  obtain ⟨hgl, hfr, hmay⟩ := right_parts hg
  apply ref11_builder_enters_of
  unfold ref11_builder_enters
  refine param_mk hf (Nat.le_refl _) fun h1 hs1 hf1 g1 _ => ?_
  have g1 : h1.get nx = some (.cells [lv, rv, uv, wv].toArray y_api_State) := g1
  have hb1 := hs1 _ _ hb
  have b0 := rbL_0 (av := av) (bv := bv) (nv := nv) (c := c) (n := n) (cv := cv) (sv := sv) (ev := ev)
  have b1 := rbL_1 (av := av) (bv := bv) (nv := nv) (c := c) (n := n) (cv := cv) (sv := sv) (ev := ev)
  refine eql_s (fun u => ?_) (fun u => ?_)
  · obtain rfl : at_ = 0 := by omega
    obtain rfl := h00 rfl
    rw [ent_eq0] at hK
    (repeat (first | refine bindP_mk (by simp (disch := first | omega | exact Int.natCast_nonneg _ | assumption) only [BB, B2, ↓reduceIte, Nat.reduceLeDiff, Nat.reduceAdd, CC, nilCk_at, hb1, b0] <;> rfl) ?_ | refine newP_mk ?_ | refine optP_mk ?_ | with_reducible first | refine condP_t ?_ | refine condP_f ?_ | refine ifP_tt' ?_ | refine ifP_ff' ?_ | refine ifP_tf' ?_ | refine ifP_ft' ?_ | refine ifP_u' ?_ | refine optP_mk0 ?_))
    refine ref11_in_c (by have := rz_many hfr; omega) (ha.sub hs1) fun n3 hn3 => ?_
    exact ⟨h, hs1, hK _ (by omega)⟩
  · rw [ent_eq hz (by omega)] at hK
    refine condP_f ?_
    unfold entR at hK
    have hlv1 := hlv.sub hs1
    have c0 : ([lv, rv, uv, wv] : List Value)[0]? = some lv := rfl
    have hln := hlv1.len
    have hP1 := hP.sub hs1 (RPos.sub hs1)
    generalize hD : (l.any fun p => decide (digOf g l code p ≠ 0) && (g.at p).next.contains q) = D at hK
    refine loopP_rule (fun j e h' nx' => ∃ (k : Nat), k + j = l.length ∧ nx + 1 ≤ nx' ∧ h' = h1 ∧ ((l.drop k).any fun p => decide (digOf g l code p ≠ 0) && (g.at p).next.contains q) = D ∧ e 0 = ptr bid ∧ e 3 = .int .i64 code ∧ e 4 = .int .i64 q ∧ e 7 = ptr nx ∧ e 11 = .int .i64 k) ?_ (n := l.length)
      ⟨0, by omega, by omega, rfl, hD, rfl, rfl, rfl, rfl, rfl⟩
    rintro j e h' nx' ⟨k, hj, hnx, rfl, hr, e0', e3, e4, e7, e11⟩ Q' hq hx
    unfold ref11_builder_enters_L1
    rw [e0', e3, e4, e7, e11]
    (repeat (first | refine bindP_mk (by simp (disch := first | omega | exact Int.natCast_nonneg _ | assumption) only [BB, B2, ↓reduceIte, Nat.reduceLeDiff, Nat.reduceAdd, CC, g1, c0, hln] <;> rfl) ?_ | refine newP_mk ?_ | refine optP_mk ?_ | with_reducible first | refine condP_t ?_ | refine condP_f ?_ | refine ifP_tt' ?_ | refine ifP_ff' ?_ | refine ifP_tf' ?_ | refine ifP_ft' ?_ | refine ifP_u' ?_ | refine optP_mk0 ?_))
    refine lss_s (fun hk => ?_) (fun hk => ?_)
    · have hk : k < l.length := by omega
      have ixl := hlv1.ix .i64 hk
      have ldl := hlv1.load hk
      have hrng := rz_mem hz _ (List.getElem_mem hk)
      rw [drop_cons hk, List.any_cons] at hr
      generalize l[k] = p at ldl hr hrng
      refine condP_t (bindP_mk (loadA_all (l := [lv, rv, uv, wv]) g1 rfl) ?_)
      (repeat (first | refine bindP_mk (by simp (disch := first | omega | exact Int.natCast_nonneg _ | assumption) only [BB, B2, ↓reduceIte, Nat.reduceLeDiff, Nat.reduceAdd, CC, g1, c0, ixl, ldl] <;> rfl) ?_ | refine newP_mk ?_ | refine optP_mk ?_ | with_reducible first | refine condP_t ?_ | refine condP_f ?_ | refine ifP_tt' ?_ | refine ifP_ff' ?_ | refine ifP_tf' ?_ | refine ifP_ft' ?_ | refine ifP_u' ?_ | refine optP_mk0 ?_))
      refine ref11_ripe_c hl hc0 hc1 (by omega) hrng.2 (hf1.mono (show nx + 1 ≤ _ by omega)) hb1 (hn.sub hs1) (hrv.sub hs1) fun n2 hn2 => ?_
      have hno : ∀ (e' : Env) n', e' 0 = ptr bid → e' 3 = .int .i64 code → e' 4 = .int .i64 q → e' 7 = ptr nx → e' 11 = .int .i64 ((k : Int) + 1) → nx + 1 ≤ n' → (decide (digOf g l code p ≠ 0) && (g.at p).next.contains q) = false → Q' .normal e' h' n' := fun e' n' f0 f3 f4 f7 f11 hn' hf9 => by
        rw [hf9, Bool.false_or] at hr
        exact hq (j - 1) _ h' _ _ (by omega) ⟨k + 1, by omega, hn', rfl, hr, f0, f3, f4, f7, f11⟩ (Sub.refl _)
      cases hrp : decide (digOf g l code p ≠ 0) with
      | false =>
        (repeat (first | refine bindP_mk (by simp (disch := first | omega | exact Int.natCast_nonneg _ | assumption) only [BB, B2, ↓reduceIte, Nat.reduceLeDiff, Nat.reduceAdd, CC] <;> rfl) ?_ | refine newP_mk ?_ | refine optP_mk ?_ | with_reducible first | refine condP_t ?_ | refine condP_f ?_ | refine ifP_tt' ?_ | refine ifP_ff' ?_ | refine ifP_tf' ?_ | refine ifP_ft' ?_ | refine ifP_u' ?_ | refine optP_mk0 ?_))
        exact hno _ _ e0' e3 e4 e7 rfl (by omega) (by rw [hrp]; rfl)
      | true =>
        obtain ⟨hat, hat2⟩ := at_mem (g := g) (q := p) (by omega) hrng.2
        have hpl : p.toNat < g.p.length := by omega
        obtain ⟨y, ⟨nv', rfl, y1, y2⟩, z2, z3, z4, z5⟩ := hP1.at hpl
        have hge : g.p[p.toNat] = g.at p := by
          have := List.getElem?_eq_getElem hpl
          rw [hat2] at this
          exact (Option.some.inj this).symm
        rw [hge] at y1 y2
        have ixp := hP1.ixI .i64 (by omega) hrng.2
        have f8 := z4 8
        have l8 := z5 8 nv' rfl
        have hmn := (may_parts (hmay _ hat)).2.2.2.2.2
        (repeat (first | refine bindP_mk (by simp (disch := first | omega | exact Int.natCast_nonneg _ | assumption) only [BB, B2, ↓reduceIte, Nat.reduceLeDiff, Nat.reduceAdd, CC, nilCk_at, hb1, b1, g1, c0, ixl, ldl, ixp, f8, l8] <;> rfl) ?_ | refine newP_mk ?_ | refine optP_mk ?_ | with_reducible first | refine condP_t ?_ | refine condP_f ?_ | refine ifP_tt' ?_ | refine ifP_ff' ?_ | refine ifP_tf' ?_ | refine ifP_ft' ?_ | refine ifP_u' ?_ | refine optP_mk0 ?_))
        refine ref11_in_c (by have := rz_many hmn; omega) y1 fun n3 hn3 => ?_
        cases hin : (g.at p).next.contains q with
        | false =>
          (repeat (first | refine bindP_mk (by simp (disch := first | omega | exact Int.natCast_nonneg _ | assumption) only [BB, B2, ↓reduceIte, Nat.reduceLeDiff, Nat.reduceAdd, CC] <;> rfl) ?_ | refine newP_mk ?_ | refine optP_mk ?_ | with_reducible first | refine condP_t ?_ | refine condP_f ?_ | refine ifP_tt' ?_ | refine ifP_ff' ?_ | refine ifP_tf' ?_ | refine ifP_ft' ?_ | refine ifP_u' ?_ | refine optP_mk0 ?_))
          exact hno _ _ e0' e3 e4 e7 rfl (by omega) (by rw [hin, Bool.and_false])
        | true =>
          rw [hrp, hin] at hr
          have hr : true = D := hr
          subst hr
          (repeat (first | refine bindP_mk (by simp (disch := first | omega | exact Int.natCast_nonneg _ | assumption) only [BB, B2, ↓reduceIte, Nat.reduceLeDiff, Nat.reduceAdd, CC] <;> rfl) ?_ | refine newP_mk ?_ | refine optP_mk ?_ | with_reducible first | refine condP_t ?_ | refine condP_f ?_ | refine ifP_tt' ?_ | refine ifP_ff' ?_ | refine ifP_tf' ?_ | refine ifP_ft' ?_ | refine ifP_u' ?_ | refine optP_mk0 ?_))
          refine hx _ _ _ _ (fun e => by cases e) (exP_r ?_)
          exact ⟨h, hs1, hK _ (by omega)⟩
    · rw [List.drop_eq_nil_of_le (by omega)] at hr
      have hr : false = D := hr
      subst hr
      (repeat (first | refine bindP_mk (by simp (disch := first | omega | exact Int.natCast_nonneg _ | assumption) only [BB, B2, ↓reduceIte, Nat.reduceLeDiff, Nat.reduceAdd, CC] <;> rfl) ?_ | refine newP_mk ?_ | refine optP_mk ?_ | with_reducible first | refine condP_t ?_ | refine condP_f ?_ | refine ifP_tt' ?_ | refine ifP_ff' ?_ | refine ifP_tf' ?_ | refine ifP_ft' ?_ | refine ifP_u' ?_ | refine optP_mk0 ?_))
      refine hx _ _ _ _ (fun e => by cases e) (exP_e (beqP_t ?_))
      unfold ref11_builder_enters_j1
      exact ⟨h, hs1, hK _ (by omega)⟩
end
end V
end Go.Proofs.Ytmmdcdjkmakgpaa
set_option linter.unusedVariables false
set_option linter.unusedSimpArgs false
namespace Go.Proofs.Ytmmdcdjkmakgpaa
namespace V
open PA
attribute [local irreducible] bindP ifP condP newP optP exP beqP
section
variable {ro : Ro} {g : GlD} {bid : Nat} {av bv nv cv sv ev lv rv uv wv : Value} {c : List Nat} {n : Int} {e0 : TypeId} {l : List Int} {code q : Int}
theorem ruleR_cons (b p : Int) (r : List Int) : ruleR g l code b (p :: r) = ruleR g l code (if decide (digOf g l code p ≠ 0) && ((g.at p).last && (decide (b < 0) || decide ((g.at p).rule < b))) then (g.at p).rule else b) r := rfl
set_option maxRecDepth 4000 in
set_option maxHeartbeats 1000000 in
theorem ref11_rule_c (hz : rz (-1) g.p.length l = true) (hg : rightD g = true) (hll : l.length ≤ 1000000) (hl : (regsZ g l).length ≤ 1000000) (hc0 : 0 ≤ code) (hc1 : code ≤ 1000000)
    {h : T Obj} {nx : Nat} {K : KV} (hf : Fr h nx) (hb : h.get bid = some (.cells (rbL av bv nv c n cv sv ev).toArray e0)) (hn : ZI ro h nv (numL g)) (hP : SlR ro h bv 9 (RPos ro h) g.p) (hlv : ZI ro h lv l) (hrv : ZI ro h rv (regsZ g l))
    (hK : ∀ nx', nx ≤ nx' → K (.int .i64 (ruleZ g (-1) (digs g l code))) h nx') : callP Try.prog ro i_ref11_builder_rule [ptr bid, .agg #[lv, rv, uv, wv], .int .i64 code] h nx K := by
  obtain ⟨hgl, hfr, hmay⟩ := right_parts hg
  rw [rule_eq hz] at hK
  apply ref11_builder_rule_of
  unfold ref11_builder_rule
  refine param_mk hf (Nat.le_refl _) fun h1 hs1 hf1 g1 _ => ?_
  have g1 : h1.get nx = some (.cells [lv, rv, uv, wv].toArray y_api_State) := g1
  have hb1 := hs1 _ _ hb
  have b1 := rbL_1 (av := av) (bv := bv) (nv := nv) (c := c) (n := n) (cv := cv) (sv := sv) (ev := ev)
  have hlv1 := hlv.sub hs1
  have c0 : ([lv, rv, uv, wv] : List Value)[0]? = some lv := rfl
  have hln := hlv1.len
  have hP1 := hP.sub hs1 (RPos.sub hs1)
  generalize hD : ruleR g l code (-1) l = D at hK
  refine loopP_rule (fun j e h' nx' => ∃ (k : Nat) (b : Int), k + j = l.length ∧ nx + 1 ≤ nx' ∧ h' = h1 ∧ ruleR g l code b (l.drop k) = D ∧ e 0 = ptr bid ∧ e 2 = .int .i64 code ∧ e 4 = ptr nx ∧ e 7 = .int .i64 b ∧ e 8 = .int .i64 k) ?_ (n := l.length)
    ⟨0, -1, by omega, by omega, rfl, hD, rfl, rfl, rfl, rfl, rfl⟩
  rintro j e h' nx' ⟨k, b, hj, hnx, rfl, hr, e0', e2, e4, e7, e8⟩ Q' hq hx
  unfold ref11_builder_rule_L1
  rw [e0', e2, e4, e7, e8]
  (repeat (first | refine bindP_mk (by simp (disch := first | omega | exact Int.natCast_nonneg _ | assumption) only [BB, B2, ↓reduceIte, Nat.reduceLeDiff, Nat.reduceAdd, CC, g1, c0, hln] <;> rfl) ?_ | refine newP_mk ?_ | refine optP_mk ?_ | with_reducible first | refine condP_t ?_ | refine condP_f ?_ | refine ifP_tt' ?_ | refine ifP_ff' ?_ | refine ifP_tf' ?_ | refine ifP_ft' ?_ | refine ifP_u' ?_ | refine optP_mk0 ?_))
  refine lss_s (fun hk => ?_) (fun hk => ?_)
  · have hk : k < l.length := by omega
    have ixl := hlv1.ix .i64 hk
    have ldl := hlv1.load hk
    have hrng := rz_mem hz _ (List.getElem_mem hk)
    rw [drop_cons hk, ruleR_cons] at hr
    generalize l[k] = p at ldl hr hrng
    obtain ⟨hat, hat2⟩ := at_mem (g := g) (q := p) (by omega) hrng.2
    have hpl : p.toNat < g.p.length := by omega
    obtain ⟨y, ⟨nv', rfl, y1, y2⟩, z2, z3, z4, z5⟩ := hP1.at hpl
    have hge : g.p[p.toNat] = g.at p := by
      have := List.getElem?_eq_getElem hpl
      rw [hat2] at this
      exact (Option.some.inj this).symm
    rw [hge] at y1 y2 z3
    have ixp := hP1.ixI .i64 (by omega) hrng.2
    generalize g.at p = P at hr y1 y2 z3
    (repeat (first | refine bindP_mk (by simp (disch := first | omega | exact Int.natCast_nonneg _ | assumption) only [BB, B2, ↓reduceIte, Nat.reduceLeDiff, Nat.reduceAdd, CC, g1, c0, ixl, ldl, nilCk_at, hb1, b1, ixp, z3] <;> rfl) ?_ | refine newP_mk ?_ | refine optP_mk ?_ | with_reducible first | refine condP_t ?_ | refine condP_f ?_ | refine ifP_tt' ?_ | refine ifP_ff' ?_ | refine ifP_tf' ?_ | refine ifP_ft' ?_ | refine ifP_u' ?_ | refine optP_mk0 ?_))
    refine local_mk zer_PosZ rfl (x := posL P nv') rfl rfl (posL_ok y1.ok) hf1 (show nx + 1 ≤ nx' + 17 by omega) fun h3 hs3 hf3 g3 hne3 => ?_
    have g13 := hs3 _ _ g1
    have d7 : (posL P nv')[7]? = some (.bool P.last) := rfl
    have d6 : (posL P nv')[6]? = some (.int .i64 P.rule) := rfl
    have ldl3 := (hlv1.sub hs3).load' (x := p) (i := k) (by
      have := hlv1.load hk
      rw [ldl] at this
      have : l[k] = p := by simpa using this.symm
      rw [List.getElem?_eq_getElem hk, this])
    have hj2 : ∀ (e' : Env) n' (b' : Int), e' 0 = ptr bid → e' 2 = .int .i64 code → e' 4 = ptr nx → e' 7 = .int .i64 b' → e' 8 = .int .i64 k → nx + 1 ≤ n' → ruleR g l code b' (l.drop (k + 1)) = D → ref11_builder_rule_j2 ro Q' e' h3 n' := fun e' n' b' f0 f2 f4 f7 f8 hn' hD' => by
      unfold ref11_builder_rule_j2
      rw [f8]
      (repeat (first | refine bindP_mk (by simp (disch := first | omega | exact Int.natCast_nonneg _ | assumption) only [BB, B2, ↓reduceIte, Nat.reduceLeDiff, Nat.reduceAdd, CC] <;> rfl) ?_ | refine newP_mk ?_ | refine optP_mk ?_ | with_reducible first | refine condP_t ?_ | refine condP_f ?_ | refine ifP_tt' ?_ | refine ifP_ff' ?_ | refine ifP_tf' ?_ | refine ifP_ft' ?_ | refine ifP_u' ?_ | refine optP_mk0 ?_))
      exact hq (j - 1) _ h' _ _ (by omega) ⟨k + 1, b', by omega, by omega, rfl, hD', f0, f2, f4, f7, rfl⟩ hs3
    (repeat (first | refine bindP_mk (by simp (disch := first | omega | exact Int.natCast_nonneg _ | assumption) only [BB, B2, ↓reduceIte, Nat.reduceLeDiff, Nat.reduceAdd, CC, g3, d7] <;> rfl) ?_ | refine newP_mk ?_ | refine optP_mk ?_ | with_reducible first | refine condP_t ?_ | refine condP_f ?_ | refine ifP_tt' ?_ | refine ifP_ff' ?_ | refine ifP_tf' ?_ | refine ifP_ft' ?_ | refine ifP_u' ?_ | refine optP_mk0 ?_))
    cases hla : P.last with
    | false =>
      rw [hla] at hr
      simp only [Bool.false_and, Bool.and_false, Bool.false_eq_true, if_false] at hr
      (repeat (first | refine bindP_mk (by simp (disch := first | omega | exact Int.natCast_nonneg _ | assumption) only [BB, B2, ↓reduceIte, Nat.reduceLeDiff, Nat.reduceAdd, CC] <;> rfl) ?_ | refine newP_mk ?_ | refine optP_mk ?_ | with_reducible first | refine condP_t ?_ | refine condP_f ?_ | refine ifP_tt' ?_ | refine ifP_ff' ?_ | refine ifP_tf' ?_ | refine ifP_ft' ?_ | refine ifP_u' ?_ | refine optP_mk0 ?_))
      exact hj2 _ _ b e0' e2 e4 e7 e8 (by omega) hr
    | true =>
      rw [hla] at hr
      simp only [Bool.true_and] at hr
      refine ifP_tt' ?_
      (repeat (first | refine bindP_mk (by simp (disch := first | omega | exact Int.natCast_nonneg _ | assumption) only [BB, B2, ↓reduceIte, Nat.reduceLeDiff, Nat.reduceAdd, CC] <;> rfl) ?_ | refine newP_mk ?_ | refine optP_mk ?_ | with_reducible first | refine condP_t ?_ | refine condP_f ?_ | refine ifP_tt' ?_ | refine ifP_ff' ?_ | refine ifP_tf' ?_ | refine ifP_ft' ?_ | refine ifP_u' ?_ | refine optP_mk0 ?_))
      refine bindP_mk (loadA_all (l := [lv, rv, uv, wv]) g13 rfl) ?_
      (repeat (first | refine bindP_mk (by simp (disch := first | omega | exact Int.natCast_nonneg _ | assumption) only [BB, B2, ↓reduceIte, Nat.reduceLeDiff, Nat.reduceAdd, CC, g13, c0, ixl, ldl3] <;> rfl) ?_ | refine newP_mk ?_ | refine optP_mk ?_ | with_reducible first | refine condP_t ?_ | refine condP_f ?_ | refine ifP_tt' ?_ | refine ifP_ff' ?_ | refine ifP_tf' ?_ | refine ifP_ft' ?_ | refine ifP_u' ?_ | refine optP_mk0 ?_))
      refine ref11_ripe_c hl hc0 hc1 (by omega) hrng.2 (hf3.mono (show nx' + 17 + 1 ≤ _ by omega)) (hs3 _ _ hb1) ((hn.sub hs1).sub hs3) ((hrv.sub hs1).sub hs3) fun n2 hn2 => ?_
      cases hrp : decide (digOf g l code p ≠ 0) with
      | false =>
        rw [hrp] at hr
        simp only [Bool.false_and, Bool.false_eq_true, if_false] at hr
        (repeat (first | refine bindP_mk (by simp (disch := first | omega | exact Int.natCast_nonneg _ | assumption) only [BB, B2, ↓reduceIte, Nat.reduceLeDiff, Nat.reduceAdd, CC] <;> rfl) ?_ | refine newP_mk ?_ | refine optP_mk ?_ | with_reducible first | refine condP_t ?_ | refine condP_f ?_ | refine ifP_tt' ?_ | refine ifP_ff' ?_ | refine ifP_tf' ?_ | refine ifP_ft' ?_ | refine ifP_u' ?_ | refine optP_mk0 ?_))
        exact hj2 _ _ b e0' e2 e4 e7 e8 (by omega) hr
      | true =>
        rw [hrp] at hr
        simp only [Bool.true_and] at hr
        (repeat (first | refine bindP_mk (by simp (disch := first | omega | exact Int.natCast_nonneg _ | assumption) only [BB, B2, ↓reduceIte, Nat.reduceLeDiff, Nat.reduceAdd, CC] <;> rfl) ?_ | refine newP_mk ?_ | refine optP_mk ?_ | with_reducible first | refine condP_t ?_ | refine condP_f ?_ | refine ifP_tt' ?_ | refine ifP_ff' ?_ | refine ifP_tf' ?_ | refine ifP_ft' ?_ | refine ifP_u' ?_ | refine optP_mk0 ?_))
        refine lss_s (fun u => ?_) (fun u => ?_)
        · rw [decide_eq_true u] at hr
          simp only [Bool.true_or, if_true] at hr
          (repeat (first | refine bindP_mk (by simp (disch := first | omega | exact Int.natCast_nonneg _ | assumption) only [BB, B2, ↓reduceIte, Nat.reduceLeDiff, Nat.reduceAdd, CC, g3, d6] <;> rfl) ?_ | refine newP_mk ?_ | refine optP_mk ?_ | with_reducible first | refine condP_t ?_ | refine condP_f ?_ | refine ifP_tt' ?_ | refine ifP_ff' ?_ | refine ifP_tf' ?_ | refine ifP_ft' ?_ | refine ifP_u' ?_ | refine optP_mk0 ?_))
          exact hj2 _ _ P.rule e0' e2 e4 rfl e8 (by omega) hr
        · rw [decide_eq_false (by omega)] at hr
          simp only [Bool.false_or] at hr
          (repeat (first | refine bindP_mk (by simp (disch := first | omega | exact Int.natCast_nonneg _ | assumption) only [BB, B2, ↓reduceIte, Nat.reduceLeDiff, Nat.reduceAdd, CC, g3, d6] <;> rfl) ?_ | refine newP_mk ?_ | refine optP_mk ?_ | with_reducible first | refine condP_t ?_ | refine condP_f ?_ | refine ifP_tt' ?_ | refine ifP_ff' ?_ | refine ifP_tf' ?_ | refine ifP_ft' ?_ | refine ifP_u' ?_ | refine optP_mk0 ?_))
          refine lss_s (fun w => ?_) (fun w => ?_)
          · rw [decide_eq_true w] at hr
            simp only [if_true] at hr
            (repeat (first | refine bindP_mk (by simp (disch := first | omega | exact Int.natCast_nonneg _ | assumption) only [BB, B2, ↓reduceIte, Nat.reduceLeDiff, Nat.reduceAdd, CC, g3, d6] <;> rfl) ?_ | refine newP_mk ?_ | refine optP_mk ?_ | with_reducible first | refine condP_t ?_ | refine condP_f ?_ | refine ifP_tt' ?_ | refine ifP_ff' ?_ | refine ifP_tf' ?_ | refine ifP_ft' ?_ | refine ifP_u' ?_ | refine optP_mk0 ?_))
            exact hj2 _ _ P.rule e0' e2 e4 rfl e8 (by omega) hr
          · rw [decide_eq_false (by omega)] at hr
            simp only [Bool.false_eq_true, if_false] at hr
            (repeat (first | refine bindP_mk (by simp (disch := first | omega | exact Int.natCast_nonneg _ | assumption) only [BB, B2, ↓reduceIte, Nat.reduceLeDiff, Nat.reduceAdd, CC, g3, d6] <;> rfl) ?_ | refine newP_mk ?_ | refine optP_mk ?_ | with_reducible first | refine condP_t ?_ | refine condP_f ?_ | refine ifP_tt' ?_ | refine ifP_ff' ?_ | refine ifP_tf' ?_ | refine ifP_ft' ?_ | refine ifP_u' ?_ | refine optP_mk0 ?_))
            exact hj2 _ _ b e0' e2 e4 e7 e8 (by omega) hr
  · rw [List.drop_eq_nil_of_le (by omega)] at hr
    have hr : b = D := hr
    subst hr
    (repeat (first | refine bindP_mk (by simp (disch := first | omega | exact Int.natCast_nonneg _ | assumption) only [BB, B2, ↓reduceIte, Nat.reduceLeDiff, Nat.reduceAdd, CC] <;> rfl) ?_ | refine newP_mk ?_ | refine optP_mk ?_ | with_reducible first | refine condP_t ?_ | refine condP_f ?_ | refine ifP_tt' ?_ | refine ifP_ff' ?_ | refine ifP_tf' ?_ | refine ifP_ft' ?_ | refine ifP_u' ?_ | refine optP_mk0 ?_))
    refine hx _ _ _ _ (fun e => by cases e) (exP_e (beqP_t ?_))
    unfold ref11_builder_rule_j1
    have e7' : ∀ e9 : Env, e9 7 = .int .i64 b → ∃ h2, Sub h2 h' ∧ K (e9 7) h2 (nx' + 5 + 2) := fun e9 h9 => by
      rw [h9]
      exact ⟨h, hs1, hK _ (by omega)⟩
    exact e7' _ e7
end
end V
end Go.Proofs.Ytmmdcdjkmakgpaa
set_option linter.unusedVariables false
set_option linter.unusedSimpArgs false
namespace Go.Proofs.Ytmmdcdjkmakgpaa
namespace V
open PA
attribute [local irreducible] bindP ifP condP newP optP exP beqP
structure Rb (h : T Obj) (bid sid : Nat) (av bv nv : Value) (c : List Nat) (n : Int) (cv : Value) (S : List StateD) (cs : List (List Value)) : Prop where
  hc : c.length = 256
  blk : h.get bid = some (.cells (rbL av bv nv c n cv (.slice (some (own sid 4)) cs.length cs.length) (.int .i64 0)).toArray y_raddleref11_builder)
  row : h.get sid = some (.cells cs.flatten.toArray y_api_State)
  z4 : ∀ x ∈ cs, x.length = 4
  len : cs.length = S.length
  few : S.length ≤ 256
  pos : 0 < S.length
def RSt (ro : Ro) (h : T Obj) (cs : List (List Value)) (S : List StateD) : Prop := ∀ (i : Nat) x t, cs[i]? = some x → S[i]? = some t → RState ro h x t
theorem RSt.sub {ro : Ro} {h h' : T Obj} {cs : List (List Value)} {S : List StateD} (hs : RSt ro h cs S) (hh : Sub h h') : RSt ro h' cs S := fun i x t h1 h2 => RState.sub hh _ _ (hs i x t h1 h2)
def KpF (e' e : Env) : Prop := e' 0 = e 0 ∧ e' 1 = e 1 ∧ e' 5 = e 5
section
variable {ro : Ro} {g : GlD} {bid sid : Nat} {av bv nv cv lw : Value} {c : List Nat} {n : Int} {S : List StateD} {cs : List (List Value)} {l : List Int}
theorem Rb.own {h : T Obj} (hB : Rb h bid sid av bv nv c n cv S cs) : OwnT h (.slice (some (own sid 4)) cs.length cs.length) 4 y_api_State cs 0 := .inr ⟨sid, Nat.zero_le _, rfl, hB.z4, hB.row⟩
theorem Rb.ne {h : T Obj} (hB : Rb h bid sid av bv nv c n cv S cs) : bid ≠ sid := by
  rintro rfl
  have h1 := hB.blk
  rw [hB.row] at h1
  simp only [Option.some.injEq, Obj.cells.injEq] at h1
  exact absurd h1.2.1 (by decide)
theorem Rb.sub {h h' : T Obj} (hB : Rb h bid sid av bv nv c n cv S cs) (hs : Sub h h') : Rb h' bid sid av bv nv c n cv S cs := ⟨hB.hc, hs _ _ hB.blk, hs _ _ hB.row, hB.z4, hB.len, hB.few, hB.pos⟩
theorem Rb.slr {h h' : T Obj} (hB : Rb h bid sid av bv nv c n cv S cs) (hs : RSt ro h' cs S) (hh : Sub h' h) : SlR ro h (.slice (some (V.own sid 4)) cs.length cs.length) 4 (RState ro h) S := ⟨cs, hB.own.sl, hB.len, fun i x t h1 h2 => RState.sub hh _ _ (hs i x t h1 h2)⟩
set_option maxRecDepth 4000 in
set_option maxHeartbeats 1000000 in
theorem find_L3_c {e0 : Env} {x : List Int} {lx : Value} {h : T Obj} {nx : Nat} {Q : KE} (hx : ZI ro h lx x) (hl : ZI ro h lw l) (hlen : x.length = l.length) (hb : l.length ≤ 1000000)
    (e1 : e0 1 = lw) (e6 : e0 6 = lx) (e7 : e0 7 = .bool true) (e8 : e0 8 = .int .i64 0) (hQ : ∀ e' n', nx ≤ n' → e' 7 = .bool (decide (x = l)) → KpF e' e0 → Q (.exit 2) e' h n') : loopP (ref11_builder_find_L3 ro) e0 h nx Q := by
  have hln := hl.len
  refine loopP_rule (fun j e h' nx' => ∃ (k : Nat) (B : Bool), k + j = l.length ∧ nx ≤ nx' ∧ h' = h ∧ (B = true ↔ x.take k = l.take k) ∧ e 1 = lw ∧ e 6 = lx ∧ e 7 = .bool B ∧ e 8 = .int .i64 k ∧ KpF e e0) ?_ (n := l.length)
    ⟨0, true, by omega, by omega, rfl, by simp, e1, e6, e7, e8, rfl, rfl, rfl⟩
  rintro j e h' nx' ⟨k, B, hj, hnx, rfl, hB, e1, e6, e7, e8, hk⟩ Q' hq hx'
  unfold ref11_builder_find_L3
  rw [e1, e6, e7, e8]
  (repeat (first | refine bindP_mk (by simp (disch := first | omega | exact Int.natCast_nonneg _ | assumption) only [BB, B2, ↓reduceIte, Nat.reduceLeDiff, Nat.reduceAdd, CC, hln] <;> rfl) ?_ | refine newP_mk ?_ | refine optP_mk ?_ | with_reducible first | refine condP_t ?_ | refine condP_f ?_ | refine ifP_tt' ?_ | refine ifP_ff' ?_ | refine ifP_tf' ?_ | refine ifP_ft' ?_ | refine ifP_u' ?_ | refine optP_mk0 ?_))
  refine lss_s (fun hkl => ?_) (fun hkl => ?_)
  · have k1 : k < x.length := by omega
    have k2 : k < l.length := by omega
    have x1 := hx.ix .i64 k1
    have x2 := hl.ix .i64 k2
    have x3 := hx.load k1
    have x4 := hl.load k2
    have htk : (x.take (k + 1) = l.take (k + 1)) ↔ (x.take k = l.take k ∧ x[k] = l[k]) := by
      rw [List.take_succ_eq_append_getElem k1, List.take_succ_eq_append_getElem k2]
      constructor
      · intro h9
        have := List.append_inj h9 (by simp; omega)
        exact ⟨this.1, by simpa using this.2⟩
      · rintro ⟨h1, h2⟩
        rw [h1, h2]
    cases B with
    | false =>
      have hne : ¬ x.take k = l.take k := fun h9 => by have := hB.2 h9; cases this
      (repeat (first | refine bindP_mk (by simp (disch := first | omega | exact Int.natCast_nonneg _ | assumption) only [BB, B2, ↓reduceIte, Nat.reduceLeDiff, Nat.reduceAdd, CC] <;> rfl) ?_ | refine newP_mk ?_ | refine optP_mk ?_ | with_reducible first | refine condP_t ?_ | refine condP_f ?_ | refine ifP_tt' ?_ | refine ifP_ff' ?_ | refine ifP_tf' ?_ | refine ifP_ft' ?_ | refine ifP_u' ?_ | refine optP_mk0 ?_))
      exact hq (j - 1) _ h' _ _ (by omega) ⟨k + 1, false, by omega, by omega, rfl, ⟨fun hd => by (cases hd), fun hd => absurd (htk.1 hd).1 hne⟩, e1, e6, rfl, rfl, hk⟩ (Sub.refl _)
    | true =>
      have hyes := hB.1 rfl
      (repeat (first | refine bindP_mk (by simp (disch := first | omega | exact Int.natCast_nonneg _ | assumption) only [BB, B2, ↓reduceIte, Nat.reduceLeDiff, Nat.reduceAdd, CC, x1, x2, x3, x4] <;> rfl) ?_ | refine newP_mk ?_ | refine optP_mk ?_ | with_reducible first | refine condP_t ?_ | refine condP_f ?_ | refine ifP_tt' ?_ | refine ifP_ff' ?_ | refine ifP_tf' ?_ | refine ifP_ft' ?_ | refine ifP_u' ?_ | refine optP_mk0 ?_))
      refine bindP_mk (intB_eql _ _ _) ?_
      (repeat (first | refine bindP_mk (by simp (disch := first | omega | exact Int.natCast_nonneg _ | assumption) only [BB, B2, ↓reduceIte, Nat.reduceLeDiff, Nat.reduceAdd, CC] <;> rfl) ?_ | refine newP_mk ?_ | refine optP_mk ?_ | with_reducible first | refine condP_t ?_ | refine condP_f ?_ | refine ifP_tt' ?_ | refine ifP_ff' ?_ | refine ifP_tf' ?_ | refine ifP_ft' ?_ | refine ifP_u' ?_ | refine optP_mk0 ?_))
      refine hq (j - 1) _ h' _ _ (by omega) ⟨k + 1, decide (x[k] = l[k]), by omega, by omega, rfl, ⟨fun hd => htk.2 ⟨hyes, of_decide_eq_true hd⟩, fun hd => decide_eq_true (htk.1 hd).2⟩, e1, e6, rfl, rfl, hk⟩ (Sub.refl _)
  · rw [List.take_of_length_le (by omega), List.take_of_length_le (by omega)] at hB
    have hBd : B = decide (x = l) := by
      cases B with
      | true => exact (decide_eq_true (hB.1 rfl)).symm
      | false => exact (decide_eq_false fun h9 => by have := hB.2 h9; cases this).symm
    rw [hBd] at e7
    exact condP_f (hx' _ _ _ _ (fun e => by cases e) (hQ _ _ (by omega) e7 hk))
set_option maxRecDepth 4000 in
set_option maxHeartbeats 1000000 in
theorem find_L2_c {e0 : Env} {h h0 : T Obj} {nx : Nat} {Q : KE} (hB : Rb h bid sid av bv nv c n cv S cs) (hS : RSt ro h0 cs S) (hh : Sub h0 h) (hl : ZI ro h lw l) (hb : l.length ≤ 1000000) (hne : l ≠ []) (hz : ∃ s, S[0]? = some s ∧ s.l = [])
    (e0' : e0 0 = ptr bid) (e1 : e0 1 = lw) (e5 : e0 5 = .int .i64 1)
    (hQ1 : ∀ e' n' k, nx ≤ n' → S.findIdx? (isL l) = some k → e' 4 = .int .i64 (k : Int) → Q .ret e' h n') (hQ2 : ∀ e' n', nx ≤ n' → S.findIdx? (isL l) = none → e' 0 = ptr bid → e' 1 = lw → Q (.exit 0) e' h n') : loopP (ref11_builder_find_L2 ro) e0 h nx Q := by
  have hfew := hB.few
  have hpos := hB.pos
  have hsl := hB.slr hS hh
  have hsn := hsl.len
  have hln := hl.len
  have hb1 := hB.blk
  have b261 := rbL_261 (av := av) (bv := bv) (nv := nv) (n := n) (cv := cv) (sv := .slice (some (own sid 4)) cs.length cs.length) (ev := .int .i64 0) hB.hc
  obtain ⟨s0, z1, z2⟩ := hz
  refine loopP_rule (fun j e h' nx' => ∃ (k : Nat), k + j = S.length ∧ 1 ≤ k ∧ nx ≤ nx' ∧ h' = h ∧ (∀ (i : Nat) s, i < k → S[i]? = some s → s.l ≠ l) ∧ e 0 = ptr bid ∧ e 1 = lw ∧ e 5 = .int .i64 k) ?_ (n := S.length - 1)
    ⟨1, by omega, by omega, by omega, rfl, fun i s hi hs => by
      obtain rfl : i = 0 := by omega
      rw [z1] at hs; cases hs
      rw [z2]; exact Ne.symm hne, e0', e1, e5⟩
  rintro j e h' nx' ⟨k, hj, hk1, hnx, rfl, hno, e0', e1, e5⟩ Q' hq hx
  unfold ref11_builder_find_L2
  rw [e0', e1, e5]
  generalize Value.slice (some (own sid 4)) cs.length cs.length = sv at *
  (repeat (first | refine bindP_mk (by simp (disch := first | omega | exact Int.natCast_nonneg _ | assumption) only [BB, B2, ↓reduceIte, Nat.reduceLeDiff, Nat.reduceAdd, CC, nilCk_at, hb1, b261, hsn] <;> rfl) ?_ | refine newP_mk ?_ | refine optP_mk ?_ | with_reducible first | refine condP_t ?_ | refine condP_f ?_ | refine ifP_tt' ?_ | refine ifP_ff' ?_ | refine ifP_tf' ?_ | refine ifP_ft' ?_ | refine ifP_u' ?_ | refine optP_mk0 ?_))
  refine lss_s (fun hkl => ?_) (fun hkl => ?_)
  · have hkl : k < S.length := by omega
    obtain ⟨y, ⟨lx, rv, uv, wv, rfl, y1, y2, y3, y4, y5⟩, w2, w3, w4, w5⟩ := hsl.at hkl
    have hget := List.getElem?_eq_getElem hkl
    have six := hsl.ix .i64 hkl
    have f0 := w4 0
    have l0 := w5 0 lx rfl
    have lx1 := y1.len
    have hj4 : ∀ (e' : Env) n', nx ≤ n' → e' 0 = ptr bid → e' 1 = lw → e' 5 = .int .i64 k → S[k].l ≠ l → ref11_builder_find_j4 ro Q' e' h' n' := fun e' n' hn' f0 f1 f5 hd => by
      unfold ref11_builder_find_j4
      rw [f5]
      (repeat (first | refine bindP_mk (by simp (disch := first | omega | exact Int.natCast_nonneg _ | assumption) only [BB, B2, ↓reduceIte, Nat.reduceLeDiff, Nat.reduceAdd, CC] <;> rfl) ?_ | refine newP_mk ?_ | refine optP_mk ?_ | with_reducible first | refine condP_t ?_ | refine condP_f ?_ | refine ifP_tt' ?_ | refine ifP_ff' ?_ | refine ifP_tf' ?_ | refine ifP_ft' ?_ | refine ifP_u' ?_ | refine optP_mk0 ?_))
      refine hq (j - 1) _ h' _ _ (by omega) ⟨k + 1, by omega, by omega, by omega, rfl, fun i s hi hs => ?_, f0, f1, rfl⟩ (Sub.refl _)
      rcases Nat.lt_or_ge i k with hik | hik
      · exact hno i s hik hs
      · obtain rfl : i = k := by omega
        rw [hget] at hs; cases hs
        exact hd
    (repeat (first | refine bindP_mk (by simp (disch := first | omega | exact Int.natCast_nonneg _ | assumption) only [BB, B2, ↓reduceIte, Nat.reduceLeDiff, Nat.reduceAdd, CC, nilCk_at, hb1, b261, six, f0, l0, lx1, hln] <;> rfl) ?_ | refine newP_mk ?_ | refine optP_mk ?_ | with_reducible first | refine condP_t ?_ | refine condP_f ?_ | refine ifP_tt' ?_ | refine ifP_ff' ?_ | refine ifP_tf' ?_ | refine ifP_ft' ?_ | refine ifP_u' ?_ | refine optP_mk0 ?_))
    refine eql_s (fun u => ?_) (fun u => ?_)
    · refine condP_t ?_
      refine find_L3_c y1 hl (by omega) hb ?_ ?_ ?_ ?_ fun e' n' hn' g7 hz => ?_
      · exact e1
      · rfl
      · rfl
      · rfl
      obtain ⟨k0, k1, k5⟩ := hz
      have k0 : e' 0 = ptr bid := k0.trans e0'
      have k1 : e' 1 = lw := k1.trans e1
      have k5 : e' 5 = .int .i64 k := k5.trans e5
      refine exP_e (beqP_t ?_)
      unfold ref11_builder_find_j5
      rw [g7]
      by_cases hd : S[k].l = l
      · rw [decide_eq_true hd]
        refine condP_t (hx _ _ _ _ (fun e => by cases e) ?_)
        refine hQ1 _ _ k (by omega) ?_ k5
        refine List.findIdx?_eq_some_iff_getElem.2 ⟨hkl, decide_eq_true hd, fun i hi => ?_⟩
        have := hno i _ hi (List.getElem?_eq_getElem (by omega))
        unfold isL
        rw [decide_eq_false this]
        decide
      · rw [decide_eq_false hd]
        exact condP_f (hj4 _ _ (by omega) k0 k1 k5 hd)
    · refine condP_f ?_
      exact hj4 _ _ (by omega) e0' e1 e5 fun hd => u (by rw [hd])
  · refine condP_f (hx _ _ _ _ (fun e => by cases e) (hQ2 _ _ (by omega) ?_ e0' e1))
    refine List.findIdx?_eq_none_iff.2 fun s hs => ?_
    obtain ⟨i, hi⟩ := List.mem_iff_getElem?.1 hs
    have hil := (List.getElem?_eq_some_iff.1 hi).1
    exact decide_eq_false (hno i s (by omega) hi)
end
end V
end Go.Proofs.Ytmmdcdjkmakgpaa
set_option linter.unusedVariables false
set_option linter.unusedSimpArgs false
namespace Go.Proofs.Ytmmdcdjkmakgpaa
namespace V
open PA
attribute [local irreducible] bindP ifP condP newP optP exP beqP
theorem numOf_t {g : GlD} {q : Int} (h : ctd g q = true) : numOf g q = numZ g q ∧ 0 ≤ numOf g q := by
  have : numOf g q = numZ g q := by unfold numOf; rw [if_pos h]
  exact ⟨this, by rw [this]; exact num_pos g q⟩
theorem numOf_f {g : GlD} {q : Int} (h : ctd g q = false) : numOf g q = -1 := by unfold numOf; rw [h]; rfl
section
variable {ro : Ro} {g : GlD} {bid sid : Nat} {av bv nv cv lw : Value} {c : List Nat} {n : Int} {S : List StateD} {cs : List (List Value)} {l : List Int} {lo : Nat}
set_option maxRecDepth 8000 in
set_option maxHeartbeats 2000000 in
theorem ref11_find_c (hg : g.p.length ≤ 512) (hz : rz (-1) g.p.length l = true) (hne : l ≠ []) (hz0 : ∃ s, S[0]? = some s ∧ s.l = [])
    {h h0 : T Obj} {nx : Nat} {K : KV} (hf : Fr h nx) (hB : Rb h bid sid av bv nv c n cv S cs) (hS : RSt ro h0 cs S) (hh : Sub h0 h) (hn : ZI ro h nv (numL g)) (hl : OwnT h lw 1 y_int (intsZ l) lo) (hlo : lo ≤ nx) (hlb : bid < lo)
    (hKe : (findZ g S l).2.1 ≠ 0 → ∀ h' nx', nx ≤ nx' → Fr h' nx' → Keep [bid] h h' → h'.get bid = some (.cells (rbL av bv nv c n cv (.slice (some (own sid 4)) cs.length cs.length) (.int .i64 (findZ g S l).2.1)).toArray y_raddleref11_builder) → K (.int .i64 0) h' nx')
    (hK : (findZ g S l).2.1 = 0 → ∀ h' nx' sid' cs', nx ≤ nx' → Fr h' nx' → Keep [bid, sid] h h' → (sid' = sid ∨ nx ≤ sid') → Rb h' bid sid' av bv nv c n cv (findZ g S l).2.2 cs' → Grow h' lo cs cs' S (findZ g S l).2.2 → K (.int .i64 (findZ g S l).1) h' nx') :
    callP Try.prog ro i_ref11_builder_find [ptr bid, lw] h nx K := by
  apply ref11_builder_find_of
  unfold ref11_builder_find
  have hll : l.length ≤ 512 := by have := rz_many hz; omega
  have hrange : ∀ x ∈ l, 0 ≤ x ∧ x < g.p.length := fun x hx => by have := rz_mem hz x hx; omega
  have hzl : ZI ro h lw l := hl.sl
  have hfew := hB.few
  have hlen := hzl.len
  refine find_L2_c (l := l) (lw := lw) hB hS hh hzl (by omega) hne hz0 ?_ ?_ ?_ (fun e' n' k hn' hfi e4 => ?_) fun e' n' hn' hfi e0 e1 => ?_
  · rfl
  · rfl
  · rfl
  · have hfz : findZ g S l = ((k : Int), 0, S) := by unfold findZ; rw [hfi]
    rw [hfz] at hK
    refine exP_r ?_
    rw [e4]
    exact ⟨h, Sub.refl _, hK rfl h _ sid cs (by omega) (hf.mono (by omega)) (Sub.refl h).keepL (.inl rfl) hB Grow.refl⟩
  · have hfz : findZ g S l = if 3 < (regsZ g l).length then ((0 : Int), (110 : Int), S) else if 256 ≤ S.length then ((0 : Int), (3 : Int), S) else (((S.length : Nat) : Int), (0 : Int), S ++ [⟨l, regsZ g l, [], []⟩]) := by unfold findZ; rw [hfi]
    rw [hfz] at hK hKe
    refine exP_e (beqP_t ?_)
    unfold ref11_builder_find_j1
    refine loopP_rule (fun j e h' nx' => ∃ (k : Nat), k + j = l.length ∧ nx ≤ nx' ∧ Sub h h' ∧ Fr h' nx' ∧ e 0 = ptr bid ∧ e 1 = lw ∧ e 10 = .int .i64 k ∧ OwnT h' (e 9) 1 y_int (intsZ (regsZ g (l.take k))) nx) ?_ (n := l.length) ⟨0, by omega, by omega, Sub.refl h, hf.mono (by omega), e0, e1, rfl, OwnT.nil⟩
    rintro j e h' nx' ⟨k, hj, hnx, hs, hf', e0, e1, e10, ho⟩ Q' hq hx
    have hB' := hB.sub hs
    have hb' := hB'.blk
    have hn' := hn.sub hs
    have b2 := rbL_2 (av := av) (bv := bv) (nv := nv) (c := c) (n := n) (cv := cv) (sv := .slice (some (own sid 4)) cs.length cs.length) (ev := .int .i64 0)
    unfold ref11_builder_find_L1
    rw [e0, e1, e10]
    (repeat (first | refine bindP_mk (by simp (disch := first | omega | exact Int.natCast_nonneg _ | assumption) only [BB, B2, ↓reduceIte, Nat.reduceLeDiff, Nat.reduceAdd, CC, hlen] <;> rfl) ?_ | refine newP_mk ?_ | refine optP_mk ?_ | with_reducible first | refine condP_t ?_ | refine condP_f ?_ | refine ifP_tt' ?_ | refine ifP_ff' ?_ | refine ifP_tf' ?_ | refine ifP_ft' ?_ | refine ifP_u' ?_ | refine optP_mk0 ?_))
    refine lss_s (fun hk => ?_) (fun hk => ?_)
    · have hk : k < l.length := by omega
      have hld := (hzl.sub hs).load hk
      have hix := hzl.ix .i64 hk
      have hxr := hrange _ (List.getElem_mem hk)
      have hrs : regsZ g (l.take (k + 1)) = if ctd g l[k] then regsZ g (l.take k) ++ [numZ g l[k]] else regsZ g (l.take k) := by rw [List.take_succ_eq_append_getElem hk, regsZ_snoc]
      generalize l[k] = x at hld hxr hrs
      obtain ⟨ixn, ldn⟩ := ixR hn' hxr.1 hxr.2
      have hrl : (regsZ g (l.take k)).length ≤ 1000000 := by
        unfold regsZ
        rw [List.length_map]
        have := List.length_filter_le (ctd g) (l.take k)
        rw [List.length_take] at this
        omega
      have hj3 : ∀ (e : Env) (h3 : T Obj) (n3 : Nat), nx' ≤ n3 → Sub h h3 → Fr h3 n3 → e 0 = ptr bid → e 1 = lw → e 10 = .int .i64 k → OwnT h3 (e 9) 1 y_int (intsZ (regsZ g (l.take (k + 1)))) nx → ref11_builder_find_j3 ro Q' e h3 n3 := by
        intro e h3 n3 hn3 s1 s2 e0 e1 e10 o3
        unfold ref11_builder_find_j3
        rw [e10]
        (repeat (first | refine bindP_mk (by simp (disch := first | omega | exact Int.natCast_nonneg _ | assumption) only [BB, B2, ↓reduceIte, Nat.reduceLeDiff, Nat.reduceAdd, CC] <;> rfl) ?_ | refine newP_mk ?_ | refine optP_mk ?_ | with_reducible first | refine condP_t ?_ | refine condP_f ?_ | refine ifP_tt' ?_ | refine ifP_ff' ?_ | refine ifP_tf' ?_ | refine ifP_ft' ?_ | refine ifP_u' ?_ | refine optP_mk0 ?_))
        exact hq (j - 1) _ _ _ _ (by omega) ⟨k + 1, by omega, by omega, s1, s2.mono (by omega), e0, e1, rfl, o3⟩ (Sub.refl _)
      (repeat (first | refine bindP_mk (by simp (disch := first | omega | exact Int.natCast_nonneg _ | assumption) only [BB, B2, ↓reduceIte, Nat.reduceLeDiff, Nat.reduceAdd, CC, nilCk_at, hb', b2, hix, hld, ixn, ldn] <;> rfl) ?_ | refine newP_mk ?_ | refine optP_mk ?_ | with_reducible first | refine condP_t ?_ | refine condP_f ?_ | refine ifP_tt' ?_ | refine ifP_ff' ?_ | refine ifP_tf' ?_ | refine ifP_ft' ?_ | refine ifP_u' ?_ | refine optP_mk0 ?_))
      cases hct : ctd g x with
      | true =>
        rw [hct, if_pos rfl] at hrs
        obtain ⟨m1, m2⟩ := numOf_t hct
        refine geq_s (fun _ => ?_) (fun u => absurd u (by omega))
        rw [m1] at ldn
        (repeat (first | refine bindP_mk (by simp (disch := first | omega | exact Int.natCast_nonneg _ | assumption) only [BB, B2, ↓reduceIte, Nat.reduceLeDiff, Nat.reduceAdd, CC, nilCk_at, hb', b2, hix, hld, ixn, ldn] <;> rfl) ?_ | refine newP_mk ?_ | refine optP_mk ?_ | with_reducible first | refine condP_t ?_ | refine condP_f ?_ | refine ifP_tt' ?_ | refine ifP_ff' ?_ | refine ifP_tf' ?_ | refine ifP_ft' ?_ | refine ifP_u' ?_ | refine optP_mk0 ?_))
        refine app_int ho hrl hf' (by omega) (by omega) (by omega) fun h3 w q1 q2 q3 q4 => ?_
        dsimp only
        refine hj3 _ _ _ (by omega) (ho.sub q3 hf (Nat.le_refl _) hs) (q4.mono (by omega)) e0 e1 e10 ?_
        rw [hrs]; exact q1
      | false =>
        rw [hct, if_neg (by decide)] at hrs
        refine geq_s (fun u => absurd u (by rw [numOf_f hct]; omega)) (fun _ => ?_)
        (repeat (first | refine bindP_mk (by simp (disch := first | omega | exact Int.natCast_nonneg _ | assumption) only [BB, B2, ↓reduceIte, Nat.reduceLeDiff, Nat.reduceAdd, CC] <;> rfl) ?_ | refine newP_mk ?_ | refine optP_mk ?_ | with_reducible first | refine condP_t ?_ | refine condP_f ?_ | refine ifP_tt' ?_ | refine ifP_ff' ?_ | refine ifP_tf' ?_ | refine ifP_ft' ?_ | refine ifP_u' ?_ | refine optP_mk0 ?_))
        refine hj3 _ _ _ (by omega) hs (hf'.mono (by omega)) e0 e1 e10 ?_
        rw [hrs]; exact ho
    · (repeat (first | refine bindP_mk (by simp (disch := first | omega | exact Int.natCast_nonneg _ | assumption) only [BB, B2, ↓reduceIte, Nat.reduceLeDiff, Nat.reduceAdd, CC] <;> rfl) ?_ | refine newP_mk ?_ | refine optP_mk ?_ | with_reducible first | refine condP_t ?_ | refine condP_f ?_ | refine ifP_tt' ?_ | refine ifP_ff' ?_ | refine ifP_tf' ?_ | refine ifP_ft' ?_ | refine ifP_u' ?_ | refine optP_mk0 ?_))
      refine hx _ _ _ _ (fun e => by cases e) (exP_e (beqP_t ?_))
      rw [List.take_of_length_le (by omega)] at ho
      have hrl : (regsZ g l).length ≤ 512 := by
        unfold regsZ
        rw [List.length_map]
        have := List.length_filter_le (ctd g) l
        omega
      have fin : ∀ (e' : Env) n', e' 0 = ptr bid → e' 1 = lw → OwnT h' (e' 9) 1 y_int (intsZ (regsZ g l)) nx → nx' ≤ n' → ref11_builder_find_j2 ro K e' h' n' := by
        intro e' n' f0 f1 ho hn'
        unfold ref11_builder_find_j2
        rw [f0, f1]
        generalize e' 9 = rv at ho
        have hrn := (ho.sl (ro := ro)).len
        rw [intsZ_len] at hrn
        have b261 := rbL_261 (av := av) (bv := bv) (nv := nv) (n := n) (cv := cv) (sv := .slice (some (own sid 4)) cs.length cs.length) (ev := .int .i64 0) hB.hc
        have hbl := rbL_len (av := av) (bv := bv) (nv := nv) (n := n) (cv := cv) (sv := .slice (some (own sid 4)) cs.length cs.length) (ev := .int .i64 0) hB.hc
        have hbf : bid < nx := hf.lt' hB.blk
        refine bindP_mk hrn ?_
        refine gtr_s (fun u1 => ?_) (fun u1 => ?_)
        · rw [if_pos (by omega)] at hKe
          (repeat (first | refine bindP_mk (by simp (disch := first | omega | exact Int.natCast_nonneg _ | assumption) only [BB, B2, ↓reduceIte, Nat.reduceLeDiff, Nat.reduceAdd, CC, nilCk_at] <;> rfl) ?_ | refine newP_mk ?_ | refine optP_mk ?_ | with_reducible first | refine condP_t ?_ | refine condP_f ?_ | refine ifP_tt' ?_ | refine ifP_ff' ?_ | refine ifP_tf' ?_ | refine ifP_ft' ?_ | refine ifP_u' ?_ | refine optP_mk0 ?_))
          refine bindP_mk (store1_own hb' (by rw [hbl]; omega) rfl rfl) ?_
          rw [rbL_set262 hB.hc]
          exact ⟨_, Sub.refl _, hKe (show (110 : Int) ≠ 0 by decide) _ _ (by omega) ((hf'.mono (by omega)).upd (Nat.le_refl _) (by omega)) (hs.keepL.upd (by simp)) (by rw [T.get_upd_same])⟩
        · rw [if_neg (by omega)] at hK hKe
          (repeat (first | refine bindP_mk (by simp (disch := first | omega | exact Int.natCast_nonneg _ | assumption) only [BB, B2, ↓reduceIte, Nat.reduceLeDiff, Nat.reduceAdd, CC, nilCk_at, hb', b261] <;> rfl) ?_ | refine newP_mk ?_ | refine optP_mk ?_ | with_reducible first | refine condP_t ?_ | refine condP_f ?_ | refine ifP_tt' ?_ | refine ifP_ff' ?_ | refine ifP_tf' ?_ | refine ifP_ft' ?_ | refine ifP_u' ?_ | refine optP_mk0 ?_))
          refine geq_s (fun u2 => ?_) (fun u2 => ?_)
          · rw [if_pos (by have := hB.len; omega)] at hKe
            (repeat (first | refine bindP_mk (by simp (disch := first | omega | exact Int.natCast_nonneg _ | assumption) only [BB, B2, ↓reduceIte, Nat.reduceLeDiff, Nat.reduceAdd, CC, nilCk_at] <;> rfl) ?_ | refine newP_mk ?_ | refine optP_mk ?_ | with_reducible first | refine condP_t ?_ | refine condP_f ?_ | refine ifP_tt' ?_ | refine ifP_ff' ?_ | refine ifP_tf' ?_ | refine ifP_ft' ?_ | refine ifP_u' ?_ | refine optP_mk0 ?_))
            refine bindP_mk (store1_own hb' (by rw [hbl]; omega) rfl rfl) ?_
            rw [rbL_set262 hB.hc]
            exact ⟨_, Sub.refl _, hKe (show (3 : Int) ≠ 0 by decide) _ _ (by omega) ((hf'.mono (by omega)).upd (Nat.le_refl _) (by omega)) (hs.keepL.upd (by simp)) (by rw [T.get_upd_same])⟩
          · rw [if_neg (by have := hB.len; omega)] at hK
            have hK := hK rfl
            have i1 := hB.ne
            have hsf : sid < nx := hf.lt' hB.row
            have hlvok := hl.ok
            have hrvok := ho.ok
            have ho2 := hB'.own
            (repeat (first | refine bindP_mk (by simp (disch := first | omega | exact Int.natCast_nonneg _ | assumption) only [BB, B2, ↓reduceIte, Nat.reduceLeDiff, Nat.reduceAdd, CC, nilCk_at, hb', b261] <;> rfl) ?_ | refine newP_mk ?_ | refine optP_mk ?_ | with_reducible first | refine condP_t ?_ | refine condP_f ?_ | refine ifP_tt' ?_ | refine ifP_ff' ?_ | refine ifP_tf' ?_ | refine ifP_ft' ?_ | refine ifP_u' ?_ | refine optP_mk0 ?_))
            refine bindP_mk (build_State _ _ (cells_of_ok hlvok) (cells_of_ok hrvok)) ?_
            refine app_State hlvok hrvok rfl rfl ho2 (by have := hB.len; have := hB.few; omega) hf' (Nat.zero_le _) (by omega) (by omega) fun h4 w q1 q2 q3 q4 => ?_
            dsimp only
            have hb4 : h4.get bid = _ := q3 bid _ hb' (by intro e; exact i1 (Option.some.inj e).symm)
            have hwk : cellOk w = true := by rw [q2]; rfl
            (repeat (first | refine bindP_mk (by simp (disch := first | omega | exact Int.natCast_nonneg _ | assumption) only [BB, B2, ↓reduceIte, Nat.reduceLeDiff, Nat.reduceAdd, CC, nilCk_at] <;> rfl) ?_ | refine newP_mk ?_ | refine optP_mk ?_ | with_reducible first | refine condP_t ?_ | refine condP_f ?_ | refine ifP_tt' ?_ | refine ifP_ff' ?_ | refine ifP_tf' ?_ | refine ifP_ft' ?_ | refine ifP_u' ?_ | refine optP_mk0 ?_))
            refine bindP_mk (store1_own hb4 (by rw [hbl]; omega) hwk (cells_of_ok hwk)) ?_
            rw [rbL_set261 hB.hc]
            have g5 : (h4.upd bid (some (.cells (rbL av bv nv c n cv w (.int .i64 0)).toArray y_raddleref11_builder))).get bid = _ := T.get_upd_same _ _ _
            have hne5 : ∀ k, k ≠ bid → (h4.upd bid (some (.cells (rbL av bv nv c n cv w (.int .i64 0)).toArray y_raddleref11_builder))).get k = h4.get k := fun k hk => T.get_upd_ne _ _ hk
            have hf5 := q4.upd (o := some (.cells (rbL av bv nv c n cv w (.int .i64 0)).toArray y_raddleref11_builder)) (Nat.le_refl _) (show bid < _ by omega)
            have hkp : Keep [bid, sid] h (h4.upd bid (some (.cells (rbL av bv nv c n cv w (.int .i64 0)).toArray y_raddleref11_builder))) := ((hs.keepL).trans (q3.keepL fun id hid => by have : sid = id := Option.some.inj hid; subst this; simp)).upd (by simp)
            generalize h4.upd bid (some (.cells (rbL av bv nv c n cv w (.int .i64 0)).toArray y_raddleref11_builder)) = h5 at g5 hne5 hf5 hkp
            have b261' := rbL_261 (av := av) (bv := bv) (nv := nv) (n := n) (cv := cv) (sv := w) (ev := .int .i64 0) hB.hc
            have hwl : lenSl w = some (.int .i64 ((S.length : Int) + 1)) := by rw [q2, ← hB.len]; simp [lenSl]
            (repeat (first | refine bindP_mk (by simp (disch := first | omega | exact Int.natCast_nonneg _ | assumption) only [BB, B2, ↓reduceIte, Nat.reduceLeDiff, Nat.reduceAdd, CC, nilCk_at, g5, b261', hwl] <;> rfl) ?_ | refine newP_mk ?_ | refine optP_mk ?_ | with_reducible first | refine condP_t ?_ | refine condP_f ?_ | refine ifP_tt' ?_ | refine ifP_ff' ?_ | refine ifP_tf' ?_ | refine ifP_ft' ?_ | refine ifP_u' ?_ | refine optP_mk0 ?_))
            have hsub1 : ((S.length : Nat) : Int) + 1 - 1 = (S.length : Nat) := by omega
            rw [hsub1]
            subst q2
            have ht : ∀ k o, h'.get k = some o → k ≠ sid → k ≠ bid → h5.get k = some o := fun k o h1 h2 h3 => by
              rw [hne5 k h3]
              exact q3 k o h1 fun e => h2 (Option.some.inj e).symm
            refine ⟨_, Sub.refl _, hK h5 _ _ (cs ++ [[lw, rv, nilS, nilS]]) (by omega) (hf5.mono (by omega)) hkp (.inr (by omega)) ⟨hB.hc, g5, ?_, ?_, ?_, ?_, ?_⟩ ?_⟩
            · rcases q1 with ⟨h9, _⟩ | ⟨id, r1, r2, r3, r4⟩
              · cases h9
              · simp only [Value.slice.injEq, Option.some.injEq, own, Addr.mk.injEq] at r2
                rw [hne5 _ (by omega), r2.1.1]; exact r4
            · intro x hx
              rcases List.mem_append.1 hx with hx | hx
              · exact hB.z4 x hx
              · simp at hx; rw [hx]; rfl
            · simp [hB.len]
            · have := hB.len; simp; omega
            · simp
            · refine ⟨[[lw, rv, nilS, nilS]], [⟨l, regsZ g l, [], []⟩], rfl, rfl, rfl, ?_⟩
              intro i x s hx hs9
              cases i with
              | succ i => simp at hx
              | zero =>
                simp at hx hs9
                subst hx; subst hs9
                refine ⟨lw, rv, rfl, ?_, ?_, rfl, rfl⟩
                · refine hl.keepK hkp fun id hid => ?_
                  obtain ⟨p1, p2⟩ := hl.blk hid
                  have hn1 : id ≠ bid := by omega
                  have hn3 : id ≠ sid := by
                    rintro rfl
                    have := hB.row
                    rw [this] at p2
                    simp only [Option.some.injEq, Obj.cells.injEq] at p2
                    exact absurd p2.2.1 (by decide)
                  simp; exact ⟨hn1, hn3⟩
                · rcases ho with hor | ⟨id, o1, rfl, o4, o5⟩
                  · exact .inl hor
                  · exact .inr ⟨id, by omega, rfl, o4, ht _ _ o5 (by omega) (by omega)⟩
      exact fin _ _ e0 e1 ho (by omega)
end
end V
end Go.Proofs.Ytmmdcdjkmakgpaa
set_option linter.unusedVariables false
set_option linter.unusedSimpArgs false
namespace Go.Proofs.Ytmmdcdjkmakgpaa
namespace V
open PA
attribute [local irreducible] bindP ifP condP newP optP exP beqP
theorem st_okR {ro : Ro} {h : T Obj} {lv rv uv wv : Value} {s : StateD} (y1 : ZI ro h lv s.l) (y2 : ZI ro h rv s.r) (y3 : ZI ro h uv s.rule) (y4 : SlR ro h wv 1 (RRow ro h) s.next) : [lv, rv, uv, wv].all cellOk = true := by
  simp only [List.all_cons, List.all_nil, y1.ok, y2.ok, y3.ok, y4.okC]; rfl
theorem rb_split {ro : Ro} {h : T Obj} {bid : Nat} {av bv nv cv sv ev : Value} {c : List Nat} {n : Int} {e : TypeId} {f : Nat × Nat} (hc : c.length = 256) (hg : h.get bid = some (.cells (rbL av bv nv c n cv sv ev).toArray e f)) : loadA ro h 257 (at_ bid 3 0) = some (splitI c n) := by
  rw [loadA_own, hg, cellsIn_some]
  simp only [Option.bind_some, tl]
  have : (rbL av bv nv c n cv sv ev).drop 3 = autL c n cv sv ++ [ev] := rfl
  rw [if_pos (by rw [rbL_len hc]; omega), this, List.take_append_of_le_length (by rw [autL_len hc]; omega)]
  unfold autL
  rw [List.take_append_of_le_length (by rw [splitLI_len hc]; omega), List.take_of_length_le (by rw [splitLI_len hc]; omega)]
  rfl
theorem Rb.updN {h : T Obj} {bid sid i : Nat} {av bv nv cv : Value} {c : List Nat} {n : Int} {S : List StateD} {cs : List (List Value)} {o : Option Obj} (hB : Rb h bid sid av bv nv c n cv S cs) (h1 : i ≠ bid) (h2 : i ≠ sid) : Rb (h.upd i o) bid sid av bv nv c n cv S cs := ⟨hB.hc, by rw [T.get_upd_ne _ _ (Ne.symm h1)]; exact hB.blk, by rw [T.get_upd_ne _ _ (Ne.symm h2)]; exact hB.row, hB.z4, hB.len, hB.few, hB.pos⟩
theorem bld_Move2 {b : Int} {w : Value} (hw : w.cells = #[w]) : buildV Try.prog y_api_Move [(0, .int .i64 b), (1, w)] = some (.agg #[.int .i64 b, w]) := by
  have hz := zer_Move
  have hp : (match und Try.prog y_api_Move with | some (.struct fs) => placesV Try.prog fs.toList | _ => none) = some [(0, 1), (1, 1)] := by kernel_rfl
  unfold buildV
  rw [hz]
  simp only [Option.bind]
  cases hu : und Try.prog y_api_Move with
  | none => rw [hu] at hp; cases hp
  | some d =>
    rw [hu] at hp
    cases d <;> try (cases hp; done)
    rename_i fs
    simp only at hp ⊢
    rw [hp]
    simp only [fillV, hw]
    rfl
section
variable {ro : Ro} {g : GlD} {bid sid : Nat} {av bv nv cv lw : Value} {c : List Nat} {n : Int} {S : List StateD} {cs : List (List Value)}
set_option maxRecDepth 8000 in
set_option maxHeartbeats 4000000 in
theorem ref11_goes_c {at_ cl b : Nat} {code : Int} {s : StateD} (hr : rightD g = true) (hcl : ∀ x ∈ c, x < 256) (hs : S[at_]? = some s) (hok : SOk g S) (h00 : at_ = 0 → s.l = []) (hz0 : ∃ s, S[0]? = some s ∧ s.l = []) (hby : (firstZ c n)[cl]? = some b) (hb : b < 256) (hc0 : 0 ≤ code) (hc1 : code ≤ 1000000)
    {h h0 : T Obj} {nx : Nat} {K : KV} (hf : Fr h nx) (hB : Rb h bid sid av bv nv c n cv S cs) (hS : RSt ro h0 cs S) (hh : Sub h0 h) (hn : ZI ro h0 nv (numL g)) (ha : ZI ro h0 av g.first) (hP : SlR ro h0 bv 9 (RPos ro h0) g.p)
    (hKe : (goesZ g (entersZ g at_ (digs g s.l code)) (staysZ (digs g s.l code)) b S).2.1 ≠ 0 → ∀ h' nx' ov, nx ≤ nx' → Fr h' nx' → Keep [bid] h h' → h'.get bid = some (.cells (rbL av bv nv c n cv (.slice (some (own sid 4)) cs.length cs.length) (.int .i64 (goesZ g (entersZ g at_ (digs g s.l code)) (staysZ (digs g s.l code)) b S).2.1)).toArray y_raddleref11_builder) → cellOk ov = true → K (.agg #[.int .i64 0, ov]) h' nx')
    (hK : (goesZ g (entersZ g at_ (digs g s.l code)) (staysZ (digs g s.l code)) b S).2.1 = 0 → ∀ h' nx' sid' cs' ov, nx ≤ nx' → Fr h' nx' → Keep [bid, sid] h h' → (sid' = sid ∨ nx ≤ sid') → Rb h' bid sid' av bv nv c n cv (goesZ g (entersZ g at_ (digs g s.l code)) (staysZ (digs g s.l code)) b S).2.2 cs' → Grow h' nx cs cs' S (goesZ g (entersZ g at_ (digs g s.l code)) (staysZ (digs g s.l code)) b S).2.2 →
      OwnT h' ov 1 y_uint8 (opsC (goesZ g (entersZ g at_ (digs g s.l code)) (staysZ (digs g s.l code)) b S).1.ops) nx → K (.agg #[.int .i64 (goesZ g (entersZ g at_ (digs g s.l code)) (staysZ (digs g s.l code)) b S).1.to, ov]) h' nx') :
    callP Try.prog ro i_ref11_builder_goes [ptr bid, .int .i64 (at_ : Int), .int .i64 code, .int .i64 (cl : Int)] h nx K := by
  obtain ⟨hgl, hfr, hmay⟩ := right_parts hr
  obtain ⟨o1, o2, o3⟩ := hok s (List.mem_of_getElem? hs)
  have hll : s.l.length ≤ 1000000 := by have := rz_many o1; omega
  have hrl : (regsZ g s.l).length ≤ 1000000 := by rw [← o2]; omega
  generalize hen : entersZ g at_ (digs g s.l code) = en at hK hKe
  generalize hst : staysZ (digs g s.l code) = st at hK hKe
  have hstq : ∀ q, stayR g s.l code q = st q := fun q => by rw [← stay_eq o1, hst]
  apply ref11_builder_goes_of
  unfold ref11_builder_goes
  have hbk0 := hB.blk
  have hsl0 := hB.slr hS hh
  have hfew := hB.few
  have hatl := (List.getElem?_eq_some_iff.1 hs).1
  have hate := (List.getElem?_eq_some_iff.1 hs).2
  have hbn : bid < nx := hf.lt' hB.blk
  have hsn : sid < nx := hf.lt' hB.row
  have b1 := rbL_1 (av := av) (bv := bv) (nv := nv) (c := c) (n := n) (cv := cv) (sv := .slice (some (own sid 4)) cs.length cs.length) (ev := .int .i64 0)
  have b2 := rbL_2 (av := av) (bv := bv) (nv := nv) (c := c) (n := n) (cv := cv) (sv := .slice (some (own sid 4)) cs.length cs.length) (ev := .int .i64 0)
  have b261 := rbL_261 (av := av) (bv := bv) (nv := nv) (n := n) (cv := cv) (sv := .slice (some (own sid 4)) cs.length cs.length) (ev := .int .i64 0) hB.hc
  refine bindP_mk zer_Move (obj_mk hf (Nat.le_refl _) fun h1 hs1 hf1 g1 _ => ?_)
  have g1 : h1.get nx = some (.cells [Value.int .i64 0, nilS].toArray y_api_Move) := g1
  have hb1 := hs1 _ _ hbk0
  obtain ⟨y, ⟨lv, rv, uv, wv, rfl, y1, y2, y3, y4, y5⟩, w2, w3, w4, w5⟩ := hsl0.at hatl
  rw [hate] at y1 y2 y3 y4
  rw [o2] at y2
  have w3 := loadA_sub hs1 w3
  have six := hsl0.ix .i64 hatl
  have hvo := st_okR y1 (by rw [o2]; exact y2) y3 y4
  (repeat (first | refine bindP_mk (by simp (disch := first | omega | exact Int.natCast_nonneg _ | assumption) only [BB, B2, ↓reduceIte, Nat.reduceLeDiff, Nat.reduceAdd, CC, nilCk_at, hb1, b261, six, w3] <;> rfl) ?_ | refine newP_mk ?_ | refine optP_mk ?_ | with_reducible first | refine condP_t ?_ | refine condP_f ?_ | refine ifP_tt' ?_ | refine ifP_ff' ?_ | refine ifP_tf' ?_ | refine ifP_ft' ?_ | refine ifP_u' ?_ | refine optP_mk0 ?_))
  refine local_mk zer_State rfl (x := [lv, rv, uv, wv]) rfl rfl hvo hf1 (show nx + 1 ≤ nx + 9 by omega) fun h2 hs2 hf2 g2 _ => ?_
  have hs12 := hs1.trans hs2
  have hb2 := hs12 _ _ hbk0
  have g12 := hs2 _ _ g1
  have lsp := rb_split (ro := ro) hB.hc hb2
  (repeat (first | refine bindP_mk (by simp (disch := first | omega | exact Int.natCast_nonneg _ | assumption) only [BB, B2, ↓reduceIte, Nat.reduceLeDiff, Nat.reduceAdd, CC, nilCk_at, lsp] <;> rfl) ?_ | refine newP_mk ?_ | refine optP_mk ?_ | with_reducible first | refine condP_t ?_ | refine condP_f ?_ | refine ifP_tt' ?_ | refine ifP_ff' ?_ | refine ifP_tf' ?_ | refine ifP_ft' ?_ | refine ifP_u' ?_ | refine optP_mk0 ?_))
  refine ref02_First_c hB.hc hcl (hf2.mono (show nx + 9 + 1 ≤ nx + 17 by omega)) fun r h3 n3 hn3 hs3 hf3 hr3 => ?_
  have hrsl : Sl ro h3 r 1 (bytesC (firstZ c n)) := hr3.sl
  obtain ⟨hcll, hcle⟩ := List.getElem?_eq_some_iff.1 hby
  have hrix := hrsl.ix .i64 (i := cl) (by rw [bytesC_len]; exact hcll)
  have hrld := hrsl.load1 (i := cl) (x := .int .u8 (b : Int)) (by rw [bytesC_get hcll, hcle])
  (repeat (first | refine bindP_mk (by simp (disch := first | omega | exact Int.natCast_nonneg _ | assumption) only [BB, B2, ↓reduceIte, Nat.reduceLeDiff, Nat.reduceAdd, CC, hrix, hrld] <;> rfl) ?_ | refine newP_mk ?_ | refine optP_mk ?_ | with_reducible first | refine condP_t ?_ | refine condP_f ?_ | refine ifP_tt' ?_ | refine ifP_ff' ?_ | refine ifP_tf' ?_ | refine ifP_ft' ?_ | refine ifP_u' ?_ | refine optP_mk0 ?_))
  have hs03 := hs12.trans hs3
  have g13 := hs3 _ _ g12
  have g23 := hs3 _ _ g2
  refine loopP_rule (fun j e h' nx' => ∃ (k : Nat), k + j = g.p.length ∧ nx + 17 ≤ nx' ∧ Sub h h' ∧ Fr h' nx' ∧ e 0 = ptr bid ∧ e 1 = .int .i64 (at_ : Int) ∧ e 2 = .int .i64 code ∧ e 8 = ptr nx ∧ e 9 = ptr (nx + 9) ∧ e 10 = .int .u8 (b : Int) ∧ e 13 = .int .i64 k ∧
    OwnT h' (e 11) 1 y_int (intsZ ((placesZ k).filter (takesZ g en st b))) nx ∧ OwnT h' (e 12) 1 y_uint8 (opsC (opsZ g en st ((placesZ k).filter (takesZ g en st b)))) nx ∧ h'.get nx = some (.cells [Value.int .i64 0, nilS].toArray y_api_Move) ∧ h'.get (nx + 9) = some (.cells [lv, rv, uv, wv].toArray y_api_State)) ?_ (n := g.p.length)
    ⟨0, by omega, by omega, hs03, hf3.mono (by omega), rfl, rfl, rfl, rfl, rfl, rfl, rfl, OwnT.nil, OwnT.nil, g13, g23⟩
  rintro j e h' nx' ⟨k, hj, hnx, hs', hf', e0, e1, e2, e8, e9, e10, e13, ho, hov, g1, g9⟩ Q' hq hx
  have hB' := hB.sub hs'
  have hbk := hB'.blk
  have hh' := hh.trans hs'
  have hP' := hP.sub hh' (RPos.sub hh')
  have hn' := hn.sub hh'
  have ha' := ha.sub hh'
  have hpl := hP'.len
  unfold ref11_builder_goes_L1
  rw [e0, e1, e2, e9, e10, e13]
  (repeat (first | refine bindP_mk (by simp (disch := first | omega | exact Int.natCast_nonneg _ | assumption) only [BB, B2, ↓reduceIte, Nat.reduceLeDiff, Nat.reduceAdd, CC, nilCk_at, hbk, b1, hpl] <;> rfl) ?_ | refine newP_mk ?_ | refine optP_mk ?_ | with_reducible first | refine condP_t ?_ | refine condP_f ?_ | refine ifP_tt' ?_ | refine ifP_ff' ?_ | refine ifP_tf' ?_ | refine ifP_ft' ?_ | refine ifP_u' ?_ | refine optP_mk0 ?_))
  refine lss_s (fun hk => ?_) (fun hk => ?_)
  · have hk : k < g.p.length := by omega
    have hls : (placesZ (k + 1)).filter (takesZ g en st b) = if takesZ g en st b (k : Int) then (placesZ k).filter (takesZ g en st b) ++ [(k : Int)] else (placesZ k).filter (takesZ g en st b) := by
      rw [placesZ_succ, List.filter_append]
      cases hq : takesZ g en st b (k : Int) <;> simp [hq]
    have hLl : ((placesZ k).filter (takesZ g en st b)).length ≤ 512 := by
      have := List.length_filter_le (takesZ g en st b) (placesZ k)
      rw [placesZ_len] at this; omega
    have hol := opsZ_len g en st ((placesZ k).filter (takesZ g en st b))
    obtain ⟨x, ⟨pv, rfl, q1, q2⟩, x2⟩ := hP'.loadAK hk
    obtain ⟨x', _, _, x3, x4, x5⟩ := hP'.at hk
    have hat := at_nat hk
    have hix := hP'.ix .i64 hk
    have f0 := x4 0
    have hsp : (((posL g.p[k] pv).drop 0).take 4).toArray = (setL g.p[k].s).toArray := rfl
    have ldS := x2 0 4 (by show 0 + 4 ≤ 9; omega)
    have ldS : loadA ro h' 4 (elPtrK 9 bv k 0) = some (setV g.p[k].s) := ldS
    obtain ⟨ixn, ldn⟩ := ixR (q := (k : Int)) hn' (by omega) (by omega)
    rw [Int.toNat_natCast] at ixn ldn
    have hj2 : ∀ (e : Env) (h3 : T Obj) (n3 : Nat), nx' ≤ n3 → Sub h h3 → Fr h3 n3 → e 0 = ptr bid → e 1 = .int .i64 (at_ : Int) → e 2 = .int .i64 code → e 8 = ptr nx → e 9 = ptr (nx + 9) → e 10 = .int .u8 (b : Int) → e 13 = .int .i64 k →
        OwnT h3 (e 11) 1 y_int (intsZ ((placesZ (k + 1)).filter (takesZ g en st b))) nx → OwnT h3 (e 12) 1 y_uint8 (opsC (opsZ g en st ((placesZ (k + 1)).filter (takesZ g en st b)))) nx → h3.get nx = some (.cells [Value.int .i64 0, nilS].toArray y_api_Move) → h3.get (nx + 9) = some (.cells [lv, rv, uv, wv].toArray y_api_State) → ref11_builder_goes_j2 ro Q' e h3 n3 := by
      intro e h3 n3 hn3 s1 s2 e0 e1 e2 e8 e9 e10 e13 o3 o4 g3 g4
      unfold ref11_builder_goes_j2
      rw [e13]
      (repeat (first | refine bindP_mk (by simp (disch := first | omega | exact Int.natCast_nonneg _ | assumption) only [BB, B2, ↓reduceIte, Nat.reduceLeDiff, Nat.reduceAdd, CC] <;> rfl) ?_ | refine newP_mk ?_ | refine optP_mk ?_ | with_reducible first | refine condP_t ?_ | refine condP_f ?_ | refine ifP_tt' ?_ | refine ifP_ff' ?_ | refine ifP_tf' ?_ | refine ifP_ft' ?_ | refine ifP_u' ?_ | refine optP_mk0 ?_))
      exact hq (j - 1) _ _ _ _ (by omega) ⟨k + 1, by omega, by omega, s1, s2.mono (by omega), e0, e1, e2, e8, e9, e10, rfl, o3, o4, g3, g4⟩ (Sub.refl _)
    generalize (placesZ k).filter (takesZ g en st b) = L at hls hLl hol ho hov
    generalize (placesZ (k + 1)).filter (takesZ g en st b) = L' at hls hj2
    have htk : takesZ g en st b (k : Int) = (g.p[k].s.testBit b && (en k || st k)) := by unfold takesZ; rw [hat]
    (repeat (first | refine bindP_mk (by simp (disch := first | omega | exact Int.natCast_nonneg _ | assumption) only [BB, B2, ↓reduceIte, Nat.reduceLeDiff, Nat.reduceAdd, CC, nilCk_at, hbk, b1, hix, f0, ldS] <;> rfl) ?_ | refine newP_mk ?_ | refine optP_mk ?_ | with_reducible first | refine condP_t ?_ | refine condP_f ?_ | refine ifP_tt' ?_ | refine ifP_ff' ?_ | refine ifP_tf' ?_ | refine ifP_ft' ?_ | refine ifP_u' ?_ | refine optP_mk0 ?_))
    refine ref01_Has_c hb (hf'.mono (show nx' ≤ nx' + 19 by omega)) fun n4 hn4 => ?_
    cases hhas : (g.p[k]).s.testBit b with
    | false =>
      rw [hhas, Bool.false_and] at htk
      rw [htk, if_neg (by decide)] at hls
      (repeat (first | refine bindP_mk (by simp (disch := first | omega | exact Int.natCast_nonneg _ | assumption) only [BB, B2, ↓reduceIte, Nat.reduceLeDiff, Nat.reduceAdd, CC] <;> rfl) ?_ | refine newP_mk ?_ | refine optP_mk ?_ | with_reducible first | refine condP_t ?_ | refine condP_f ?_ | refine ifP_tt' ?_ | refine ifP_ff' ?_ | refine ifP_tf' ?_ | refine ifP_ft' ?_ | refine ifP_u' ?_ | refine optP_mk0 ?_))
      refine hj2 _ _ _ (by omega) hs' (hf'.mono (by omega)) e0 e1 e2 e8 e9 e10 e13 ?_ ?_ g1 g9
      · rw [hls]; exact ho
      · rw [hls]; exact hov
    | true =>
      rw [hhas, Bool.true_and] at htk
      have y1' := y1.sub hs'
      have y2' := y2.sub hs'
      (repeat (first | refine bindP_mk (by simp (disch := first | omega | exact Int.natCast_nonneg _ | assumption) only [BB, B2, ↓reduceIte, Nat.reduceLeDiff, Nat.reduceAdd, CC] <;> rfl) ?_ | refine newP_mk ?_ | refine optP_mk ?_ | with_reducible first | refine condP_t ?_ | refine condP_f ?_ | refine ifP_tt' ?_ | refine ifP_ff' ?_ | refine ifP_tf' ?_ | refine ifP_ft' ?_ | refine ifP_u' ?_ | refine optP_mk0 ?_))
      refine bindP_mk (loadA_all (l := [lv, rv, uv, wv]) g9 rfl) ?_
      refine ref11_enters_c (uv := uv) (wv := wv) h00 o1 hr hll hrl hc0 hc1 (hf'.mono (show nx' ≤ n4 + 7 by omega)) hbk hn' ha' hP' y1' y2' hvo fun n5 hn5 => ?_
      rw [hen]
      refine bindP_mk (loadA_all (l := [lv, rv, uv, wv]) g9 rfl) ?_
      refine ref11_stays_c (uv := uv) (wv := wv) hll hrl hc0 hc1 (by omega) (by omega) (hf'.mono (show nx' ≤ n5 + 6 by omega)) hbk hn' y1' y2' fun n6 hn6 => ?_
      rw [hstq]
      cases hek : en k with
      | false =>
        rw [hek, Bool.false_or] at htk
        cases hsk : st k with
        | false =>
          rw [hsk] at htk
          rw [htk, if_neg (by decide)] at hls
          (repeat (first | refine bindP_mk (by simp (disch := first | omega | exact Int.natCast_nonneg _ | assumption) only [BB, B2, ↓reduceIte, Nat.reduceLeDiff, Nat.reduceAdd, CC] <;> rfl) ?_ | refine newP_mk ?_ | refine optP_mk ?_ | with_reducible first | refine condP_t ?_ | refine condP_f ?_ | refine ifP_tt' ?_ | refine ifP_ff' ?_ | refine ifP_tf' ?_ | refine ifP_ft' ?_ | refine ifP_u' ?_ | refine optP_mk0 ?_))
          refine hj2 _ _ _ (by omega) hs' (hf'.mono (by omega)) e0 e1 e2 e8 e9 e10 e13 ?_ ?_ g1 g9
          · rw [hls]; exact ho
          · rw [hls]; exact hov
        | true =>
          rw [hsk] at htk
          rw [htk, if_pos rfl] at hls
          (repeat (first | refine bindP_mk (by simp (disch := first | omega | exact Int.natCast_nonneg _ | assumption) only [BB, B2, ↓reduceIte, Nat.reduceLeDiff, Nat.reduceAdd, CC] <;> rfl) ?_ | refine newP_mk ?_ | refine optP_mk ?_ | with_reducible first | refine condP_t ?_ | refine condP_f ?_ | refine ifP_tt' ?_ | refine ifP_ff' ?_ | refine ifP_tf' ?_ | refine ifP_ft' ?_ | refine ifP_u' ?_ | refine optP_mk0 ?_))
          refine app_int ho (by omega) (hf'.mono (show nx' ≤ n6 by omega)) (by omega) (by omega) (by omega) fun h6 w q1 q2 q3 q4 => ?_
          dsimp only
          rw [← hls] at q1
          have hkp : ∀ i o, h'.get i = some o → (∀ c f, o ≠ .cells c y_int f) → h6.get i = some o := fun i o hi hty => q3 i o hi fun e => by
            obtain ⟨_, z1⟩ := ho.blk e
            rw [hi] at z1
            exact hty _ _ (Option.some.inj z1)
          have hb6 := hkp _ _ hbk (by intro c f e; simp only [Obj.cells.injEq] at e; exact absurd e.2.1 (by decide))
          have g16 := hkp _ _ g1 (by intro c f e; simp only [Obj.cells.injEq] at e; exact absurd e.2.1 (by decide))
          have g96 := hkp _ _ g9 (by intro c f e; simp only [Obj.cells.injEq] at e; exact absurd e.2.1 (by decide))
          have hov6 : OwnT h6 (e 12) 1 y_uint8 (opsC (opsZ g en st L)) nx := hov.keep q3 fun id hid => by
            obtain ⟨_, z1⟩ := hov.blk hid
            exact ho.ne z1 (by decide)
          have hss : Sub h h6 := ho.sub q3 hf (Nat.le_refl _) hs'
          have ldn6 : load1 ro h6 (elPtr 1 nv k) = some (.int .i64 (numOf g k)) := by
            have := (ixR (q := (k : Int)) (hn.sub (hh.trans hss)) (by omega) (by omega)).2
            rwa [Int.toNat_natCast] at this
          (repeat (first | refine bindP_mk (by simp (disch := first | omega | exact Int.natCast_nonneg _ | assumption) only [BB, B2, ↓reduceIte, Nat.reduceLeDiff, Nat.reduceAdd, CC, nilCk_at, hb6, b2, ixn, ldn6] <;> rfl) ?_ | refine newP_mk ?_ | refine optP_mk ?_ | with_reducible first | refine condP_t ?_ | refine condP_f ?_ | refine ifP_tt' ?_ | refine ifP_ff' ?_ | refine ifP_tf' ?_ | refine ifP_ft' ?_ | refine ifP_u' ?_ | refine optP_mk0 ?_))
          cases hct : ctd g (k : Int) with
          | false =>
            refine lss_s (fun _ => ?_) (fun u => absurd u (by rw [numOf_f hct]; omega))
            (repeat (first | refine bindP_mk (by simp (disch := first | omega | exact Int.natCast_nonneg _ | assumption) only [BB, B2, ↓reduceIte, Nat.reduceLeDiff, Nat.reduceAdd, CC] <;> rfl) ?_ | refine newP_mk ?_ | refine optP_mk ?_ | with_reducible first | refine condP_t ?_ | refine condP_f ?_ | refine ifP_tt' ?_ | refine ifP_ff' ?_ | refine ifP_tf' ?_ | refine ifP_ft' ?_ | refine ifP_u' ?_ | refine optP_mk0 ?_))
            refine hj2 _ _ _ (by omega) hss (q4.mono (by omega)) e0 e1 e2 e8 e9 e10 e13 q1 ?_ g16 g96
            rw [hls, opsZ_snoc, if_neg (by rw [hct]; decide)]; exact hov6
          | true =>
            refine lss_s (fun u => absurd u (by have := (numOf_t hct).2; omega)) (fun _ => ?_)
            (repeat (first | refine bindP_mk (by simp (disch := first | omega | exact Int.natCast_nonneg _ | assumption) only [BB, B2, ↓reduceIte, Nat.reduceLeDiff, Nat.reduceAdd, CC] <;> rfl) ?_ | refine newP_mk ?_ | refine optP_mk ?_ | with_reducible first | refine condP_t ?_ | refine condP_f ?_ | refine ifP_tt' ?_ | refine ifP_ff' ?_ | refine ifP_tf' ?_ | refine ifP_ft' ?_ | refine ifP_u' ?_ | refine optP_mk0 ?_))
            refine app_u8 (b := 1) rfl hov6 (by omega) (q4.mono (show _ ≤ _ from Nat.le_refl _)) (by omega) (by omega) (by omega) fun h8 w8 r1 r2 r3 r4 => ?_
            dsimp only
            have r6 := r3 _ _ g16 (hov6.ne g16 (by decide))
            have r9 := r3 _ _ g96 (hov6.ne g96 (by decide))
            have hxl : OwnT h8 w 1 y_int (intsZ L') nx := q1.keep r3 fun id hid => by
              obtain ⟨_, z1⟩ := q1.blk hid
              exact hov6.ne z1 (by decide)
            have hss8 : Sub h h8 := hov6.sub r3 hf (Nat.le_refl _) hss
            refine hj2 _ _ _ (by omega) hss8 (r4.mono (by omega)) e0 e1 e2 e8 e9 e10 e13 hxl ?_ r6 r9
            rw [hls, opsZ_snoc, if_pos hct, show opZ en st (k : Int) = 1 by unfold opZ; rw [hsk]; rw [hek]; rfl]
            exact r1
      | true =>
        rw [hek, Bool.true_or] at htk
        rw [htk, if_pos rfl] at hls
        cases hsk : st k with
        | false =>
          (repeat (first | refine bindP_mk (by simp (disch := first | omega | exact Int.natCast_nonneg _ | assumption) only [BB, B2, ↓reduceIte, Nat.reduceLeDiff, Nat.reduceAdd, CC] <;> rfl) ?_ | refine newP_mk ?_ | refine optP_mk ?_ | with_reducible first | refine condP_t ?_ | refine condP_f ?_ | refine ifP_tt' ?_ | refine ifP_ff' ?_ | refine ifP_tf' ?_ | refine ifP_ft' ?_ | refine ifP_u' ?_ | refine optP_mk0 ?_))
          refine app_int ho (by omega) (hf'.mono (show nx' ≤ n6 by omega)) (by omega) (by omega) (by omega) fun h6 w q1 q2 q3 q4 => ?_
          dsimp only
          rw [← hls] at q1
          have hkp : ∀ i o, h'.get i = some o → (∀ c f, o ≠ .cells c y_int f) → h6.get i = some o := fun i o hi hty => q3 i o hi fun e => by
            obtain ⟨_, z1⟩ := ho.blk e
            rw [hi] at z1
            exact hty _ _ (Option.some.inj z1)
          have hb6 := hkp _ _ hbk (by intro c f e; simp only [Obj.cells.injEq] at e; exact absurd e.2.1 (by decide))
          have g16 := hkp _ _ g1 (by intro c f e; simp only [Obj.cells.injEq] at e; exact absurd e.2.1 (by decide))
          have g96 := hkp _ _ g9 (by intro c f e; simp only [Obj.cells.injEq] at e; exact absurd e.2.1 (by decide))
          have hov6 : OwnT h6 (e 12) 1 y_uint8 (opsC (opsZ g en st L)) nx := hov.keep q3 fun id hid => by
            obtain ⟨_, z1⟩ := hov.blk hid
            exact ho.ne z1 (by decide)
          have hss : Sub h h6 := ho.sub q3 hf (Nat.le_refl _) hs'
          have ldn6 : load1 ro h6 (elPtr 1 nv k) = some (.int .i64 (numOf g k)) := by
            have := (ixR (q := (k : Int)) (hn.sub (hh.trans hss)) (by omega) (by omega)).2
            rwa [Int.toNat_natCast] at this
          (repeat (first | refine bindP_mk (by simp (disch := first | omega | exact Int.natCast_nonneg _ | assumption) only [BB, B2, ↓reduceIte, Nat.reduceLeDiff, Nat.reduceAdd, CC, nilCk_at, hb6, b2, ixn, ldn6] <;> rfl) ?_ | refine newP_mk ?_ | refine optP_mk ?_ | with_reducible first | refine condP_t ?_ | refine condP_f ?_ | refine ifP_tt' ?_ | refine ifP_ff' ?_ | refine ifP_tf' ?_ | refine ifP_ft' ?_ | refine ifP_u' ?_ | refine optP_mk0 ?_))
          cases hct : ctd g (k : Int) with
          | false =>
            refine lss_s (fun _ => ?_) (fun u => absurd u (by rw [numOf_f hct]; omega))
            (repeat (first | refine bindP_mk (by simp (disch := first | omega | exact Int.natCast_nonneg _ | assumption) only [BB, B2, ↓reduceIte, Nat.reduceLeDiff, Nat.reduceAdd, CC] <;> rfl) ?_ | refine newP_mk ?_ | refine optP_mk ?_ | with_reducible first | refine condP_t ?_ | refine condP_f ?_ | refine ifP_tt' ?_ | refine ifP_ff' ?_ | refine ifP_tf' ?_ | refine ifP_ft' ?_ | refine ifP_u' ?_ | refine optP_mk0 ?_))
            refine hj2 _ _ _ (by omega) hss (q4.mono (by omega)) e0 e1 e2 e8 e9 e10 e13 q1 ?_ g16 g96
            rw [hls, opsZ_snoc, if_neg (by rw [hct]; decide)]; exact hov6
          | true =>
            refine lss_s (fun u => absurd u (by have := (numOf_t hct).2; omega)) (fun _ => ?_)
            (repeat (first | refine bindP_mk (by simp (disch := first | omega | exact Int.natCast_nonneg _ | assumption) only [BB, B2, ↓reduceIte, Nat.reduceLeDiff, Nat.reduceAdd, CC] <;> rfl) ?_ | refine newP_mk ?_ | refine optP_mk ?_ | with_reducible first | refine condP_t ?_ | refine condP_f ?_ | refine ifP_tt' ?_ | refine ifP_ff' ?_ | refine ifP_tf' ?_ | refine ifP_ft' ?_ | refine ifP_u' ?_ | refine optP_mk0 ?_))
            refine app_u8 (b := 3) rfl hov6 (by omega) (q4.mono (show _ ≤ _ from Nat.le_refl _)) (by omega) (by omega) (by omega) fun h8 w8 r1 r2 r3 r4 => ?_
            dsimp only
            have r6 := r3 _ _ g16 (hov6.ne g16 (by decide))
            have r9 := r3 _ _ g96 (hov6.ne g96 (by decide))
            have hxl : OwnT h8 w 1 y_int (intsZ L') nx := q1.keep r3 fun id hid => by
              obtain ⟨_, z1⟩ := q1.blk hid
              exact hov6.ne z1 (by decide)
            have hss8 : Sub h h8 := hov6.sub r3 hf (Nat.le_refl _) hss
            refine hj2 _ _ _ (by omega) hss8 (r4.mono (by omega)) e0 e1 e2 e8 e9 e10 e13 hxl ?_ r6 r9
            rw [hls, opsZ_snoc, if_pos hct, show opZ en st (k : Int) = 3 by unfold opZ; rw [hsk]; rfl]
            exact r1
        | true =>
          (repeat (first | refine bindP_mk (by simp (disch := first | omega | exact Int.natCast_nonneg _ | assumption) only [BB, B2, ↓reduceIte, Nat.reduceLeDiff, Nat.reduceAdd, CC] <;> rfl) ?_ | refine newP_mk ?_ | refine optP_mk ?_ | with_reducible first | refine condP_t ?_ | refine condP_f ?_ | refine ifP_tt' ?_ | refine ifP_ff' ?_ | refine ifP_tf' ?_ | refine ifP_ft' ?_ | refine ifP_u' ?_ | refine optP_mk0 ?_))
          refine app_int ho (by omega) (hf'.mono (show nx' ≤ n6 by omega)) (by omega) (by omega) (by omega) fun h6 w q1 q2 q3 q4 => ?_
          dsimp only
          rw [← hls] at q1
          have hkp : ∀ i o, h'.get i = some o → (∀ c f, o ≠ .cells c y_int f) → h6.get i = some o := fun i o hi hty => q3 i o hi fun e => by
            obtain ⟨_, z1⟩ := ho.blk e
            rw [hi] at z1
            exact hty _ _ (Option.some.inj z1)
          have hb6 := hkp _ _ hbk (by intro c f e; simp only [Obj.cells.injEq] at e; exact absurd e.2.1 (by decide))
          have g16 := hkp _ _ g1 (by intro c f e; simp only [Obj.cells.injEq] at e; exact absurd e.2.1 (by decide))
          have g96 := hkp _ _ g9 (by intro c f e; simp only [Obj.cells.injEq] at e; exact absurd e.2.1 (by decide))
          have hov6 : OwnT h6 (e 12) 1 y_uint8 (opsC (opsZ g en st L)) nx := hov.keep q3 fun id hid => by
            obtain ⟨_, z1⟩ := hov.blk hid
            exact ho.ne z1 (by decide)
          have hss : Sub h h6 := ho.sub q3 hf (Nat.le_refl _) hs'
          have ldn6 : load1 ro h6 (elPtr 1 nv k) = some (.int .i64 (numOf g k)) := by
            have := (ixR (q := (k : Int)) (hn.sub (hh.trans hss)) (by omega) (by omega)).2
            rwa [Int.toNat_natCast] at this
          (repeat (first | refine bindP_mk (by simp (disch := first | omega | exact Int.natCast_nonneg _ | assumption) only [BB, B2, ↓reduceIte, Nat.reduceLeDiff, Nat.reduceAdd, CC, nilCk_at, hb6, b2, ixn, ldn6] <;> rfl) ?_ | refine newP_mk ?_ | refine optP_mk ?_ | with_reducible first | refine condP_t ?_ | refine condP_f ?_ | refine ifP_tt' ?_ | refine ifP_ff' ?_ | refine ifP_tf' ?_ | refine ifP_ft' ?_ | refine ifP_u' ?_ | refine optP_mk0 ?_))
          cases hct : ctd g (k : Int) with
          | false =>
            refine lss_s (fun _ => ?_) (fun u => absurd u (by rw [numOf_f hct]; omega))
            (repeat (first | refine bindP_mk (by simp (disch := first | omega | exact Int.natCast_nonneg _ | assumption) only [BB, B2, ↓reduceIte, Nat.reduceLeDiff, Nat.reduceAdd, CC] <;> rfl) ?_ | refine newP_mk ?_ | refine optP_mk ?_ | with_reducible first | refine condP_t ?_ | refine condP_f ?_ | refine ifP_tt' ?_ | refine ifP_ff' ?_ | refine ifP_tf' ?_ | refine ifP_ft' ?_ | refine ifP_u' ?_ | refine optP_mk0 ?_))
            refine hj2 _ _ _ (by omega) hss (q4.mono (by omega)) e0 e1 e2 e8 e9 e10 e13 q1 ?_ g16 g96
            rw [hls, opsZ_snoc, if_neg (by rw [hct]; decide)]; exact hov6
          | true =>
            refine lss_s (fun u => absurd u (by have := (numOf_t hct).2; omega)) (fun _ => ?_)
            (repeat (first | refine bindP_mk (by simp (disch := first | omega | exact Int.natCast_nonneg _ | assumption) only [BB, B2, ↓reduceIte, Nat.reduceLeDiff, Nat.reduceAdd, CC] <;> rfl) ?_ | refine newP_mk ?_ | refine optP_mk ?_ | with_reducible first | refine condP_t ?_ | refine condP_f ?_ | refine ifP_tt' ?_ | refine ifP_ff' ?_ | refine ifP_tf' ?_ | refine ifP_ft' ?_ | refine ifP_u' ?_ | refine optP_mk0 ?_))
            refine app_u8 (b := 2) rfl hov6 (by omega) (q4.mono (show _ ≤ _ from Nat.le_refl _)) (by omega) (by omega) (by omega) fun h8 w8 r1 r2 r3 r4 => ?_
            dsimp only
            have r6 := r3 _ _ g16 (hov6.ne g16 (by decide))
            have r9 := r3 _ _ g96 (hov6.ne g96 (by decide))
            have hxl : OwnT h8 w 1 y_int (intsZ L') nx := q1.keep r3 fun id hid => by
              obtain ⟨_, z1⟩ := q1.blk hid
              exact hov6.ne z1 (by decide)
            have hss8 : Sub h h8 := hov6.sub r3 hf (Nat.le_refl _) hss
            refine hj2 _ _ _ (by omega) hss8 (r4.mono (by omega)) e0 e1 e2 e8 e9 e10 e13 hxl ?_ r6 r9
            rw [hls, opsZ_snoc, if_pos hct, show opZ en st (k : Int) = 2 by unfold opZ; rw [hsk]; rw [hek]; rfl]
            exact r1
  · (repeat (first | refine bindP_mk (by simp (disch := first | omega | exact Int.natCast_nonneg _ | assumption) only [BB, B2, ↓reduceIte, Nat.reduceLeDiff, Nat.reduceAdd, CC] <;> rfl) ?_ | refine newP_mk ?_ | refine optP_mk ?_ | with_reducible first | refine condP_t ?_ | refine condP_f ?_ | refine ifP_tt' ?_ | refine ifP_ff' ?_ | refine ifP_tf' ?_ | refine ifP_ft' ?_ | refine ifP_u' ?_ | refine optP_mk0 ?_))
    refine hx _ _ _ _ (fun e => by cases e) (exP_e (beqP_t ?_))
    have hkk : k = g.p.length := by omega
    rw [hkk] at ho hov
    have hlz : (placesZ g.p.length).filter (takesZ g en st b) = lZ g en st b := rfl
    rw [hlz] at ho hov
    have hlr := lZ_rz g en st b
    have hlln := lZ_len g en st b
    have hgn := @goesZ_nil g en st b S
    have hge := @goesZ_ne g en st b S
    generalize lZ g en st b = L at ho hov hlr hlln hgn hge
    have fin : ∀ (e' : Env) n' lw ov, e' 0 = ptr bid → e' 8 = ptr nx → e' 11 = lw → e' 12 = ov → OwnT h' lw 1 y_int (intsZ L) nx → OwnT h' ov 1 y_uint8 (opsC (opsZ g en st L)) nx → nx' ≤ n' → ref11_builder_goes_j1 ro K e' h' n' := by
      intro e' n' lw ov f0 f8 f11 f12 ho hov hn9
      have hln := (ho.sl (ro := ro)).len
      rw [intsZ_len] at hln
      unfold ref11_builder_goes_j1
      rw [f0, f8, f11, f12]
      (repeat (first | refine bindP_mk (by simp (disch := first | omega | exact Int.natCast_nonneg _ | assumption) only [BB, B2, ↓reduceIte, Nat.reduceLeDiff, Nat.reduceAdd, CC, hln] <;> rfl) ?_ | refine newP_mk ?_ | refine optP_mk ?_ | with_reducible first | refine condP_t ?_ | refine condP_f ?_ | refine ifP_tt' ?_ | refine ifP_ff' ?_ | refine ifP_tf' ?_ | refine ifP_ft' ?_ | refine ifP_u' ?_ | refine optP_mk0 ?_))
      refine eql_s (fun u => ?_) (fun u => ?_)
      · have hL : L = [] := List.eq_nil_iff_length_eq_zero.2 (by omega)
        have hgo := hgn hL
        rw [hgo] at hK
        refine condP_t (bindP_mk build_Move1 ?_)
        refine bindP_mk (storeA_own (l := [Value.int .i64 0, nilS]) (vs := [.int .i64 (-1), nilS]) g1 rfl rfl rfl rfl) ?_
        refine bindP_mk (loadA_all (l := [.int .i64 (-1), nilS]) (by rw [T.get_upd_same]) rfl) ?_
        exact ⟨_, Sub.refl _, hK rfl _ _ sid cs nilS (by omega) ((hf'.mono (by omega)).upd (Nat.le_refl _) (by omega)) (hs'.keepL.updN hf (Nat.le_refl _)) (.inl rfl) (hB'.updN (by omega) (by omega)) Grow.refl OwnT.nil⟩
      · have hL : L ≠ [] := fun hL => u (by rw [hL]; rfl)
        have hgo := hge hL
        rw [hgo] at hK hKe
        dsimp only at hK hKe
        refine condP_f ?_
        have hovk := hov.ok
        refine ref11_find_c hgl hlr hL hz0 (hf'.mono (show nx' ≤ n' + 6 by omega)) hB' hS hh' hn' ho (by omega) (by omega) (fun hz h9 n9 p1 p2 p3 p4 => ?_) fun hz h9 n9 sid' cs' p1 p2 p3 p4 p5 p6 => ?_
        · have g19 := p3 _ _ g1 (by simp; omega)
          refine bindP_mk (bld_Move2 (cells_of_ok hovk)) ?_
          refine bindP_mk (storeA_own (l := [Value.int .i64 0, nilS]) (vs := [.int .i64 0, ov]) g19 rfl rfl rfl (by simp only [List.all_cons, List.all_nil, hovk]; rfl)) ?_
          refine bindP_mk (loadA_all (l := [.int .i64 0, ov]) (by rw [T.get_upd_same]) rfl) ?_
          refine ⟨_, Sub.refl _, hKe hz _ _ ov (by omega) ((p2.mono (by omega)).upd (Nat.le_refl _) (by omega)) ((hs'.keepL.trans p3).updN hf (Nat.le_refl _)) ?_ hovk⟩
          rw [T.get_upd_ne _ _ (by omega)]; exact p4
        · have g19 := p3 _ _ g1 (by simp; omega)
          have hov9 : OwnT h9 ov 1 y_uint8 (opsC (opsZ g en st L)) nx := hov.keepK p3 fun id hid => by
            have := (hov.blk hid).1
            simp; omega
          refine bindP_mk (bld_Move2 (cells_of_ok hovk)) ?_
          refine bindP_mk (storeA_own (l := [Value.int .i64 0, nilS]) (vs := [.int .i64 (findZ g S L).1, ov]) g19 rfl rfl rfl (by simp only [List.all_cons, List.all_nil, hovk]; rfl)) ?_
          refine bindP_mk (loadA_all (l := [.int .i64 (findZ g S L).1, ov]) (by rw [T.get_upd_same]) rfl) ?_
          exact ⟨_, Sub.refl _, hK hz _ _ sid' cs' ov (by omega) ((p2.mono (by omega)).upd (Nat.le_refl _) (by omega)) ((hs'.keepL.trans p3).updN hf (Nat.le_refl _)) (by omega) (p5.updN (by omega) (by omega)) (p6.updNe g19 (by decide)) (hov9.updNe g19 (by decide))⟩
    exact fin _ _ _ _ e0 e8 rfl rfl ho hov (by omega)
end
end V
end Go.Proofs.Ytmmdcdjkmakgpaa
set_option linter.unusedVariables false
set_option linter.unusedSimpArgs false
namespace Go.Proofs.Ytmmdcdjkmakgpaa
namespace V
open PA
attribute [local irreducible] bindP ifP condP newP optP exP beqP
section
variable {h h' a b' : T Obj} {bid sid sid' lo aid : Nat} {av bv nv cv : Value} {c : List Nat} {n : Int} {S S' : List StateD} {cs cs' : List (List Value)}
theorem Keep.chain2 (hf : Fr h lo) (h1 : Keep [bid, sid] h a) (h2 : Keep [bid, sid'] a b') (hs : sid' = sid ∨ lo ≤ sid') : Keep [bid, sid] h b' := fun k o hk hn => by
  refine h2 k o (h1 k o hk hn) ?_
  have := hf.lt' hk
  simp only [List.mem_cons, List.not_mem_nil, or_false, not_or] at hn ⊢
  refine ⟨hn.1, ?_⟩
  rcases hs with rfl | hs
  · exact hn.2
  · omega
theorem Keep.del2 (hf : Fr h lo) (h1 : Keep [bid, sid] h a) (hs : sid' = sid ∨ lo ≤ sid') : Sub (V.del h [bid, sid, aid]) (V.del a [bid, sid', aid]) := h1.del (fun k h => by
  simp only [List.mem_cons, List.not_mem_nil, or_false] at h ⊢
  exact h.elim .inl fun h => .inr (.inl h)) fun k hk => by
  simp only [List.mem_cons, List.not_mem_nil, or_false] at hk ⊢
  rcases hk with hk | hk | hk
  · exact .inl (.inl hk)
  · rcases hs with hs | hs
    · exact .inl (.inr (.inl (hk.trans hs)))
    · exact .inr (hf k (by omega))
  · exact .inl (.inr (.inr hk))
theorem Rb.tyk (hB : Rb h bid sid av bv nv c n cv S cs) (hk : Keep [bid, sid] h h') {e : TypeId} (he1 : e ≠ y_raddleref11_builder) (he2 : e ≠ y_api_State) : TyKeep e h h' := fun i x f hg => hk _ _ hg (by
  have h1 := hB.blk
  have h2 := hB.row
  simp only [List.mem_cons, List.not_mem_nil, or_false, not_or]
  refine ⟨?_, ?_⟩ <;> rintro rfl
  · rw [hg] at h1
    simp only [Option.some.injEq, Obj.cells.injEq] at h1
    exact he1 h1.2.1
  · rw [hg] at h2
    simp only [Option.some.injEq, Obj.cells.injEq] at h2
    exact he2 h2.2.1)
theorem Rb.delN (hB : Rb h bid sid av bv nv c n cv S cs) (hA : h.get aid = some (.cells autZ.toArray y_api_Auto)) {v : Value} {z : Nat} {e : TypeId} {l : List (List Value)} (ho : OwnT h v z e l lo) (he1 : e ≠ y_raddleref11_builder) (he2 : e ≠ y_api_State) (he3 : e ≠ y_api_Auto) : OwnT (V.del h [bid, sid, aid]) v z e l lo := ho.del fun id hid => by
  have hg := (ho.blk hid).2
  have h1 := hB.blk
  have h2 := hB.row
  simp only [List.mem_cons, List.not_mem_nil, or_false, not_or]
  refine ⟨?_, ?_, ?_⟩ <;> rintro rfl
  · rw [hg] at h1
    simp only [Option.some.injEq, Obj.cells.injEq] at h1
    exact he1 h1.2.1
  · rw [hg] at h2
    simp only [Option.some.injEq, Obj.cells.injEq] at h2
    exact he2 h2.2.1
  · rw [hg] at hA
    simp only [Option.some.injEq, Obj.cells.injEq] at hA
    exact he3 hA.2.1
theorem Rb.keepN (hB : Rb h bid sid av bv nv c n cv S cs) (h1 : ∀ o, h.get bid = some o → h'.get bid = some o) (h2 : ∀ o, h.get sid = some o → h'.get sid = some o) : Rb h' bid sid av bv nv c n cv S cs := ⟨hB.hc, h1 _ hB.blk, h2 _ hB.row, hB.z4, hB.len, hB.few, hB.pos⟩
theorem RSt.grow {ro : Ro} (hA : h'.get aid = some (.cells autZ.toArray y_api_Auto)) (hS : RSt ro (del h [bid, sid, aid]) cs S) (hf : Fr h lo) (hk : Keep [bid, sid] h h') (hs : sid' = sid ∨ lo ≤ sid') (hB : Rb h' bid sid' av bv nv c n cv S' cs') (hg : Grow h' lo cs cs' S S') (hl : cs.length = S.length) (h3 : ∀ t ∈ S', t.r.length ≤ 3) : RSt ro (del h' [bid, sid', aid]) cs' S' := by
  obtain ⟨ds, T, rfl, rfl, a3, a4⟩ := hg
  intro i x t hx ht
  have htm := List.mem_of_getElem? ht
  rcases Nat.lt_or_ge i cs.length with hil | hil
  · rw [List.getElem?_append_left hil] at hx
    rw [List.getElem?_append_left (by omega)] at ht
    exact RState.sub (hk.del2 hf hs) _ _ (hS i x t hx ht)
  · rw [List.getElem?_append_right hil] at hx
    rw [List.getElem?_append_right (by omega), ← hl] at ht
    obtain ⟨lv, rv, e1, e2, e3, e4, e5⟩ := a4 _ x t hx ht
    exact new_R (lo := lo) ⟨lv, rv, e1, hB.delN hA e2 (by decide) (by decide) (by decide), hB.delN hA e3 (by decide) (by decide) (by decide), e4, e5⟩ (h3 t htm)
end
def KpG (e' e : Env) : Prop := e' 2 = e 2 ∧ e' 4 = e 4 ∧ e' 7 = e 7 ∧ e' 8 = e 8 ∧ e' 9 = e 9 ∧ e' 10 = e 10 ∧ e' 11 = e 11
section
variable {ro : Ro} {g : GlD} {bid sid aid : Nat} {av bv nv cv : Value} {c : List Nat} {n : Int} {S : List StateD} {cs : List (List Value)}
set_option maxRecDepth 8000 in
set_option maxHeartbeats 2000000 in
theorem of_L3_c {at_ : Nat} {code : Int} {s : StateD} {B : List Nat} (hr : rightD g = true) (hcl : ∀ x ∈ c, x < 256) (hBf : firstZ c n = B) (hBn : n = (B.length : Int)) (hBl : B.length ≤ 256) (hb : ∀ b ∈ B, b < 256) (hs : S[at_]? = some s) (hok : SOk g S) (h00 : at_ = 0 → s.l = []) (hz0 : ∃ s, S[0]? = some s ∧ s.l = []) (hc0 : 0 ≤ code) (hc1 : code ≤ 1000000)
    {h : T Obj} {nx : Nat} {Q : KE} {e0 : Env} (hf : Fr h nx) (hB : Rb h bid sid av bv nv c n cv S cs) (hS : RSt ro (del h [bid, sid, aid]) cs S) (hn : ZI ro (del h [bid, sid, aid]) nv (numL g)) (ha : ZI ro (del h [bid, sid, aid]) av g.first) (hP : SlR ro (del h [bid, sid, aid]) bv 9 (RPos ro (del h [bid, sid, aid])) g.p) (hA : h.get aid = some (.cells autZ.toArray y_api_Auto))
    (e2 : e0 2 = ptr aid) (e4 : e0 4 = ptr bid) (e7 : e0 7 = .int .i64 (at_ : Int)) (e11 : e0 11 = .int .i64 code) (e12 : e0 12 = nilS) (e13 : e0 13 = .int .i64 0)
    (hQe : (rowZ g (entersZ g at_ (digs g s.l code)) (staysZ (digs g s.l code)) B S).1 ≠ 0 → ∀ e' h' nx', nx ≤ nx' → Fr h' nx' → Keep [bid, sid] h h' → h'.get aid = some (.cells autZ.toArray y_api_Auto) → e' 2 = ptr aid → e' 3 = .int .i64 (rowZ g (entersZ g at_ (digs g s.l code)) (staysZ (digs g s.l code)) B S).1 → Q .ret e' h' nx')
    (hQ : (rowZ g (entersZ g at_ (digs g s.l code)) (staysZ (digs g s.l code)) B S).1 = 0 → ∀ e' h' nx' sid' cs' mcs, nx ≤ nx' → Fr h' nx' → Keep [bid, sid] h h' → (sid' = sid ∨ nx ≤ sid') → Rb h' bid sid' av bv nv c n cv (rowZ g (entersZ g at_ (digs g s.l code)) (staysZ (digs g s.l code)) B S).2.2 cs' → Grow h' nx cs cs' S (rowZ g (entersZ g at_ (digs g s.l code)) (staysZ (digs g s.l code)) B S).2.2 →
      OwnT h' (e' 12) 2 y_api_Move mcs nx → RowOwn h' nx mcs (rowZ g (entersZ g at_ (digs g s.l code)) (staysZ (digs g s.l code)) B S).2.1 → KpG e' e0 → Q (.exit 6) e' h' nx') :
    loopP (ref11_Of_L3 ro) e0 h nx Q := by
  generalize hen : entersZ g at_ (digs g s.l code) = en at hQ hQe
  generalize hst : staysZ (digs g s.l code) = st at hQ hQe
  generalize hZ : rowZ g en st B S = Z at hQ hQe
  have hatl := (List.getElem?_eq_some_iff.1 hs).1
  refine loopP_rule (fun j e h' nx' => ∃ (i sid' : Nat) (cs' : List (List Value)) (S' : List StateD) (mcs : List (List Value)) (row : List MoveD), i + j = B.length ∧ nx ≤ nx' ∧ Fr h' nx' ∧ Keep [bid, sid] h h' ∧ (sid' = sid ∨ nx ≤ sid') ∧ Rb h' bid sid' av bv nv c n cv S' cs' ∧ SOk g S' ∧
    Grow h' nx cs cs' S S' ∧ RowOwn h' nx mcs row ∧ OwnT h' (e 12) 2 y_api_Move mcs nx ∧ row.length = i ∧ e 13 = .int .i64 i ∧ KpG e e0 ∧
    ((rowZ g en st (B.drop i) S').1, row ++ (rowZ g en st (B.drop i) S').2.1, (rowZ g en st (B.drop i) S').2.2) = Z) ?_ (n := B.length)
    ⟨0, sid, cs, S, [], [], by omega, by omega, hf, (Sub.refl h).keepL, .inl rfl, hB, hok, Grow.refl, ⟨rfl, fun i x m hx => by simp at hx⟩, by rw [e12]; exact OwnT.nil, rfl, e13, ⟨rfl, rfl, rfl, rfl, rfl, rfl, rfl⟩, by rw [← hZ]; rfl⟩
  rintro j e h' nx' ⟨i, sid', cs', S', mcs, row, hj, hnx, hf', hkp, hsd, hB', hok', hgr, hro, hrv, hrl, e13, hkg, hrow⟩ Q' hq hx
  obtain ⟨k2, k4, k7, k8, k9, k10, k11⟩ := hkg
  have e4' : e 4 = ptr bid := k4.trans e4
  have e7' : e 7 = .int .i64 (at_ : Int) := k7.trans e7
  have e11' : e 11 = .int .i64 code := k11.trans e11
  have e2' : e 2 = ptr aid := k2.trans e2
  have hA' : h'.get aid = some (.cells autZ.toArray y_api_Auto) := hB.tyk hkp (by decide) (by decide) _ _ _ hA
  have hsubD := hkp.del2 (aid := aid) hf hsd
  have hdS := del_sub h' [bid, sid', aid]
  have hS' := hS.grow hA' hf hkp hsd hB' hgr hB.len fun t ht => (hok' t ht).2.2
  have hgr0 := hgr
  obtain ⟨ds, TT, a1, a2, a3, a4⟩ := hgr0
  have hs' : S'[at_]? = some s := by rw [a2, List.getElem?_append_left hatl]; exact hs
  have hz0' : ∃ s, S'[0]? = some s ∧ s.l = [] := by
    obtain ⟨z, z1, z2⟩ := hz0
    exact ⟨z, by rw [a2, List.getElem?_append_left (List.getElem?_eq_some_iff.1 z1).1]; exact z1, z2⟩
  have hbk := hB'.blk
  have b259 := rbL_259 (av := av) (bv := bv) (nv := nv) (n := n) (cv := cv) (sv := .slice (some (own sid' 4)) cs'.length cs'.length) (ev := .int .i64 0) hB.hc
  unfold ref11_Of_L3
  rw [e4', e7', e11', e13, e2']
  rw [hBn] at b259
  have hbk2 := hbk
  rw [hBn] at hbk2
  (repeat (first | refine bindP_mk (by simp (disch := first | omega | exact Int.natCast_nonneg _ | assumption) only [BB, B2, ↓reduceIte, Nat.reduceLeDiff, Nat.reduceAdd, CC, nilCk_at, hbk2, b259] <;> rfl) ?_ | refine newP_mk ?_ | refine optP_mk ?_ | with_reducible first | refine condP_t ?_ | refine condP_f ?_ | refine ifP_tt' ?_ | refine ifP_ff' ?_ | refine ifP_tf' ?_ | refine ifP_ft' ?_ | refine ifP_u' ?_ | refine optP_mk0 ?_))
  refine lss_s (fun hi => ?_) (fun hi => ?_)
  · have hi : i < B.length := by omega
    have hby : (firstZ c n)[i]? = some B[i] := by rw [hBf]; exact List.getElem?_eq_getElem hi
    have hbb := hb _ (List.getElem_mem hi)
    rw [drop_cons hi, rowZ_cons] at hrow
    generalize B[i] = b at hrow hby hbb
    refine condP_t ?_
    refine ref11_goes_c hr hcl hs' hok' h00 hz0' hby hbb hc0 hc1 (hf'.mono (show nx' ≤ nx' + 14 by omega)) hB' hS' hdS (hn.sub hsubD) (ha.sub hsubD) (hP.sub hsubD (RPos.sub hsubD)) (fun hz h3 n3 ov r1 r2 r3 r4 r5 => ?_) fun hz h3 n3 sid3 cs3 ov r1 r2 r3 r4 r5 r6 r7 => ?_
    · rw [hen, hst] at hz r4
      rw [if_neg hz] at hrow
      have hz1 : Z.1 = (goesZ g en st b S').2.1 := by rw [← hrow]
      have t3 : TyKeep y_api_Move h' h3 := hB'.tyk (r3.mono (by simp)) (by decide) (by decide)
      have tA : TyKeep y_api_Auto h' h3 := hB'.tyk (r3.mono (by simp)) (by decide) (by decide)
      have hrv3 := hrv.ty t3
      refine app_Move rfl r5 hrv3 (by rw [hro.1]; omega) r2 (by omega) (Nat.le_refl _) (by omega) fun h5 w5 s1 s2 s3 s4 => ?_
      dsimp only
      have g5 := s3 _ _ r4 (hrv3.neB r4 (by intro c f e; simp only [Obj.cells.injEq] at e; exact absurd e.2.1 (by decide)))
      have b262 := rbL_262 (av := av) (bv := bv) (nv := nv) (n := n) (cv := cv) (sv := .slice (some (own sid' 4)) cs'.length cs'.length) (ev := .int .i64 (goesZ g en st b S').2.1) hB.hc
      have hA5 := s3.ty hrv3 (by decide) _ _ _ (tA _ _ _ hA')
      (repeat (first | refine bindP_mk (by simp (disch := first | omega | exact Int.natCast_nonneg _ | assumption) only [BB, B2, ↓reduceIte, Nat.reduceLeDiff, Nat.reduceAdd, CC, nilCk_at, g5, b262] <;> rfl) ?_ | refine newP_mk ?_ | refine optP_mk ?_ | with_reducible first | refine condP_t ?_ | refine condP_f ?_ | refine ifP_tt' ?_ | refine ifP_ff' ?_ | refine ifP_tf' ?_ | refine ifP_ft' ?_ | refine ifP_u' ?_ | refine optP_mk0 ?_))
      refine bindP_mk build_Auto0 ?_
      (repeat (first | refine bindP_mk (by simp (disch := first | omega | exact Int.natCast_nonneg _ | assumption) only [BB, B2, ↓reduceIte, Nat.reduceLeDiff, Nat.reduceAdd, CC, nilCk_at, g5, b262] <;> rfl) ?_ | refine newP_mk ?_ | refine optP_mk ?_ | with_reducible first | refine condP_t ?_ | refine condP_f ?_ | refine ifP_tt' ?_ | refine ifP_ff' ?_ | refine ifP_tf' ?_ | refine ifP_ft' ?_ | refine ifP_u' ?_ | refine optP_mk0 ?_))
      refine bindP_mk (storeA_own (l := autZ) (vs := autZ) hA5 rfl autZ_len autZ_len autZ_ok) ?_
      have hab : aid ≠ bid := by
        rintro rfl
        rw [hA5] at g5
        simp only [Option.some.injEq, Obj.cells.injEq] at g5
        exact absurd g5.2.1 (by decide)
      have hal := hf.lt' hA
      refine ⟨sameV_own g5 ((T.get_upd_ne _ _ (Ne.symm hab)).trans g5), ?_⟩
      refine hx _ _ _ _ (fun e => by cases e) ?_
      have hkp5 : Keep [bid, sid] h h5 := fun q o hq9 hn => by
        have hql := hf.lt' hq9
        refine s3 q o (r3 q o (hkp q o hq9 hn) (by simp only [List.mem_cons, List.not_mem_nil, or_false, not_or] at hn ⊢; exact hn.1)) fun e => ?_
        have := (hrv3.blk e).1
        omega
      refine hQe (by rw [hz1]; exact hz) _ _ _ (by omega) ((s4.mono (by omega)).upd (Nat.le_refl _) (by omega)) (fun q o hq9 hn => ?_) (T.get_upd_same _ _ _) e2' ?_
      · by_cases hqa : q = aid
        · subst hqa
          rw [T.get_upd_same, ← hA]; exact hq9
        · rw [T.get_upd_ne _ _ hqa]; exact hkp5 q o hq9 hn
      · rw [hz1]; rfl
    · rw [hen, hst] at hz r5 r6 r7 ⊢
      have hok3 := goesZ_ok (en := en) (st := st) (b := b) hok'
      rw [if_pos hz] at hrow
      generalize goesZ g en st b S' = G at hrow r5 r6 r7 hz hok3
      have hkp3 : Keep [bid, sid] h h3 := Keep.chain2 hf hkp r3 hsd
      have t1 : TyKeep y_int h' h3 := hB'.tyk r3 (by decide) (by decide)
      have t2 : TyKeep y_uint8 h' h3 := hB'.tyk r3 (by decide) (by decide)
      have t3 : TyKeep y_api_Move h' h3 := hB'.tyk r3 (by decide) (by decide)
      have hgr3 := (hgr.ty t1).trans r6 (show nx ≤ nx' + 14 by omega)
      have hovk := r7.ok
      have hrv3 := hrv.ty t3
      refine app_Move rfl hovk hrv3 (by rw [hro.1]; omega) r2 (by omega) (Nat.le_refl _) (by omega) fun h5 w5 s1 s2 s3 s4 => ?_
      dsimp only
      have g5 := s3 _ _ r5.blk (hrv3.neB r5.blk (by intro c f e; simp only [Obj.cells.injEq] at e; exact absurd e.2.1 (by decide)))
      have gs5 := s3 _ _ r5.row (hrv3.neB r5.row (by intro c f e; simp only [Obj.cells.injEq] at e; exact absurd e.2.1 (by decide)))
      have b262 := rbL_262 (av := av) (bv := bv) (nv := nv) (n := n) (cv := cv) (sv := .slice (some (own sid3 4)) cs3.length cs3.length) (ev := .int .i64 0) hB.hc
      (repeat (first | refine bindP_mk (by simp (disch := first | omega | exact Int.natCast_nonneg _ | assumption) only [BB, B2, ↓reduceIte, Nat.reduceLeDiff, Nat.reduceAdd, CC, nilCk_at, g5, b262] <;> rfl) ?_ | refine newP_mk ?_ | refine optP_mk ?_ | with_reducible first | refine condP_t ?_ | refine condP_f ?_ | refine ifP_tt' ?_ | refine ifP_ff' ?_ | refine ifP_tf' ?_ | refine ifP_ft' ?_ | refine ifP_u' ?_ | refine optP_mk0 ?_))
      have t4 : TyKeep y_int h3 h5 := s3.ty hrv3 (by decide)
      have t5 : TyKeep y_uint8 h3 h5 := s3.ty hrv3 (by decide)
      have hkp5 : Keep [bid, sid] h h5 := fun q o hq9 hn => by
        have hql := hf.lt' hq9
        refine s3 q o (hkp3 q o hq9 hn) fun e => ?_
        have := (hrv3.blk e).1
        omega
      refine hq (j - 1) _ _ _ _ (by omega) ⟨i + 1, sid3, cs3, G.2.2, mcs ++ [[.int .i64 G.1.to, ov]], row ++ [G.1], by omega, by omega, s4.mono (by omega), hkp5, ?_, r5.keepN (fun o ho => by rw [r5.blk] at ho; cases ho; exact g5) (fun o ho => by rw [r5.row] at ho; cases ho; exact gs5), hok3, hgr3.ty t4, ?_, ?_, by simp [hrl], rfl, ⟨k2, k4, k7, k8, k9, k10, k11⟩, ?_⟩ (Sub.refl _)
      · rcases r4 with r4 | r4
        · rw [r4]; exact hsd
        · exact .inr (by omega)
      · have ho1 := hro.ty (t2.trans t5)
        refine ⟨by simp [hro.1], fun q x m hx9 hm9 => ?_⟩
        rcases Nat.lt_or_ge q mcs.length with hql | hql
        · rw [List.getElem?_append_left hql] at hx9
          rw [List.getElem?_append_left (by have := hro.1; omega)] at hm9
          exact ho1.2 q x m hx9 hm9
        · rw [List.getElem?_append_right hql] at hx9
          rw [List.getElem?_append_right (by have := hro.1; omega), ← hro.1] at hm9
          generalize q - mcs.length = q' at hx9 hm9
          cases q' with
          | succ q' => simp at hx9
          | zero =>
            simp at hx9 hm9
            subst hx9; subst hm9
            exact ⟨ov, rfl, (r7.ty t5).mono (by omega)⟩
      · exact s1
      · rw [← hrow]; simp
  · refine condP_f (hx _ _ _ _ (fun e => by cases e) ?_)
    rw [drop_all (l := B) (by omega)] at hrow
    have hrow : ((0 : Int), row, S') = Z := by simpa [rowZ] using hrow
    subst hrow
    exact hQ rfl _ _ _ sid' cs' mcs (by omega) (hf'.mono (by omega)) hkp hsd hB' hgr hrv hro ⟨k2, k4, k7, k8, k9, k10, k11⟩
end
end V
end Go.Proofs.Ytmmdcdjkmakgpaa
set_option linter.unusedVariables false
set_option linter.unusedSimpArgs false
namespace Go.Proofs.Ytmmdcdjkmakgpaa
namespace V
open PA
attribute [local irreducible] bindP ifP condP newP optP exP beqP
def setRN (R : List Int) (N : List (List MoveD)) (s : StateD) : StateD := ⟨s.l, s.r, R, N⟩
theorem modify_app {S T : List StateD} {k : Nat} {f : StateD → StateD} (hk : k < S.length) : (S ++ T).modify k f = S.modify k f ++ T := by
  apply List.ext_getElem?
  intro i
  by_cases hi : i = k
  · subst hi
    rw [modify_self, List.getElem?_append_left hk, List.getElem?_append_left (by rw [List.length_modify]; exact hk), modify_self]
  · rw [modify_ne hi]
    rcases Nat.lt_or_ge i S.length with h | h
    · rw [List.getElem?_append_left h, List.getElem?_append_left (by rw [List.length_modify]; exact h), modify_ne hi]
    · rw [List.getElem?_append_right h, List.getElem?_append_right (by rw [List.length_modify]; exact h), List.length_modify]
section
variable {g : GlD} {S : List StateD} {k : Nat} {R : List Int} {N : List (List MoveD)}
theorem findZ_mod {l : List Int} (hk : k < S.length) : findZ g (S.modify k (setRN R N)) l = ((findZ g S l).1, (findZ g S l).2.1, (findZ g S l).2.2.modify k (setRN R N)) := by
  unfold findZ
  rw [findIdx_modify k (setRN R N) l (fun _ => rfl), List.length_modify]
  cases S.findIdx? (isL l) with
  | some i => rfl
  | none =>
    dsimp only
    split
    · rfl
    · split
      · rfl
      · rw [modify_app hk]
theorem goesZ_mod {en st : Int → Bool} {b : Nat} (hk : k < S.length) : goesZ g en st b (S.modify k (setRN R N)) = ((goesZ g en st b S).1, (goesZ g en st b S).2.1, (goesZ g en st b S).2.2.modify k (setRN R N)) := by
  by_cases h : lZ g en st b = []
  · rw [goesZ_nil h, goesZ_nil h]
  · rw [goesZ_ne h, goesZ_ne h, findZ_mod hk]
theorem findZ_len {l : List Int} : S.length ≤ (findZ g S l).2.2.length := by
  unfold findZ
  split
  · exact Nat.le_refl _
  · split
    · exact Nat.le_refl _
    · split
      · exact Nat.le_refl _
      · simp
theorem goesZ_len {en st : Int → Bool} {b : Nat} : S.length ≤ (goesZ g en st b S).2.2.length := by
  by_cases h : lZ g en st b = []
  · rw [goesZ_nil h]; exact Nat.le_refl _
  · rw [goesZ_ne h]; exact findZ_len
theorem rowZ_mod {en st : Int → Bool} : ∀ {B : List Nat} {S : List StateD}, k < S.length → rowZ g en st B (S.modify k (setRN R N)) = ((rowZ g en st B S).1, (rowZ g en st B S).2.1, (rowZ g en st B S).2.2.modify k (setRN R N))
  | [], S, hk => rfl
  | b :: r, S, hk => by
    rw [rowZ_cons, rowZ_cons, goesZ_mod hk]
    dsimp only
    have hl := goesZ_len (g := g) (en := en) (st := st) (b := b) (S := S)
    by_cases h0 : (goesZ g en st b S).2.1 = 0
    · rw [if_pos h0, if_pos h0, rowZ_mod (by omega)]
    · rw [if_neg h0, if_neg h0]
theorem set_add {rule : Int} {row : List MoveD} : (S.modify k (setRN R N)).modify k (addRow rule row) = S.modify k (setRN (R ++ [rule]) (N ++ [row])) := by
  apply List.ext_getElem?
  intro i
  by_cases hi : i = k
  · subst hi
    rw [modify_self, modify_self, modify_self]
    cases S[i]? <;> rfl
  · rw [modify_ne hi, modify_ne hi, modify_ne hi]
theorem set_nil {s : StateD} (hs : S[k]? = some s) (h1 : s.rule = []) (h2 : s.next = []) : S.modify k (setRN [] []) = S := by
  apply List.ext_getElem?
  intro i
  by_cases hi : i = k
  · subst hi
    rw [modify_self, hs]
    show some (setRN [] [] s) = some s
    unfold setRN
    cases s
    simp at h1 h2
    rw [h1, h2]
  · rw [modify_ne hi]
theorem codeZ_mod {B : List Nat} {c : Int} {s : StateD} (hs : S[k]? = some s) : codeZ g B k c (S.modify k (setRN R N)) = if (rowZ g (entersZ g k (digs g s.l c)) (staysZ (digs g s.l c)) B S).1 = 0 then (0, (rowZ g (entersZ g k (digs g s.l c)) (staysZ (digs g s.l c)) B S).2.2.modify k (setRN (R ++ [ruleZ g (-1) (digs g s.l c)]) (N ++ [(rowZ g (entersZ g k (digs g s.l c)) (staysZ (digs g s.l c)) B S).2.1]))) else ((rowZ g (entersZ g k (digs g s.l c)) (staysZ (digs g s.l c)) B S).1, S.modify k (setRN R N)) := by
  have hk := (List.getElem?_eq_some_iff.1 hs).1
  have hl : lAt (S.modify k (setRN R N)) k = s.l := by
    unfold lAt
    rw [List.getD_eq_getElem?_getD, modify_self, hs]; rfl
  unfold codeZ
  rw [hl]
  dsimp only
  rw [rowZ_mod hk]
  dsimp only
  split
  · rw [set_add]
  · rfl
end
def RowsOwn (h : T Obj) (lo : Nat) (ws : List Value) (N : List (List MoveD)) : Prop := ws.length = N.length ∧ ∀ (i : Nat) w row, ws[i]? = some w → N[i]? = some row → ∃ mcs, OwnT h w 2 y_api_Move mcs lo ∧ RowOwn h lo mcs row ∧ (∀ m ∈ row, (∀ o ∈ m.ops, o < 256) ∧ m.ops.length ≤ 512) ∧ row.length ≤ 256
theorem RowsOwn.ty {h h' : T Obj} {lo : Nat} {ws : List Value} {N : List (List MoveD)} (hr : RowsOwn h lo ws N) (h1 : TyKeep y_uint8 h h') (h2 : TyKeep y_api_Move h h') : RowsOwn h' lo ws N := ⟨hr.1, fun i w row hw hrow => by
  obtain ⟨mcs, a1, a2, a3⟩ := hr.2 i w row hw hrow
  exact ⟨mcs, a1.ty h2, a2.ty h1, a3⟩⟩
theorem TyKeep.del {e : TypeId} {h h' : T Obj} {X : List Nat} (ht : TyKeep e h h') : TyKeep e (V.del h X) (V.del h' X) := fun k c f hg => by
  rw [del_get] at hg ⊢
  split
  · rename_i hm; rw [if_pos hm] at hg; cases hg
  · rename_i hm; rw [if_neg hm] at hg; exact ht _ _ _ hg
theorem Kp.delTy {e : TypeId} {h h' : T Obj} {v w : Value} {n : Nat} (hk : Kp v h h') (hf : Fr h n) (hw : ∀ id, sblk w = some id → n ≤ id) : TyKeep e (V.del h (sblk v).toList) (V.del h' (sblk w).toList) := fun k c f hg => by
  rw [del_get] at hg
  split at hg
  · cases hg
  · rename_i hm
    refine del_some (hk k _ hg fun e9 => hm (by rw [e9]; simp)) fun hm2 => ?_
    have := hw k (Option.mem_toList.1 hm2)
    have := hf.lt' hg
    omega
theorem Grow.delN {h : T Obj} {lo : Nat} {cs cs' : List (List Value)} {S S' : List StateD} {X : List Nat} (hg : Grow h lo cs cs' S S') (hX : ∀ x ∈ X, x < lo) : Grow (V.del h X) lo cs cs' S S' := by
  obtain ⟨ds, T, a1, a2, a3, a4⟩ := hg
  refine ⟨ds, T, a1, a2, a3, fun i x t hx9 ht9 => ?_⟩
  obtain ⟨lv, rv, e1, e2, e3, e4, e5⟩ := a4 i x t hx9 ht9
  refine ⟨lv, rv, e1, e2.del fun id hid hm => ?_, e3.del fun id hid hm => ?_, e4, e5⟩
  · have := (e2.blk hid).1
    have := hX id hm
    omega
  · have := (e3.blk hid).1
    have := hX id hm
    omega
def KpH (e' e : Env) : Prop := e' 2 = e 2 ∧ e' 4 = e 4 ∧ e' 7 = e 7
section
variable {ro : Ro} {g : GlD} {bid sid aid : Nat} {av bv nv cv : Value} {c : List Nat} {n : Int} {S : List StateD} {cs : List (List Value)}
set_option maxRecDepth 8000 in
set_option maxHeartbeats 2000000 in
theorem of_L2_c {k M : Nat} {s : StateD} {B : List Nat} (hr : rightD g = true) (hcl : ∀ x ∈ c, x < 256) (hBf : firstZ c n = B) (hBn : n = (B.length : Int)) (hBl : B.length ≤ 256) (hb : ∀ b ∈ B, b < 256) (hM : M ≤ 27) (hs : S[k]? = some s) (hok : SOk g S) (h00 : k = 0 → s.l = []) (hz0 : ∃ s, S[0]? = some s ∧ s.l = [])
    {h : T Obj} {nx : Nat} {Q : KE} {e0 : Env} (hf : Fr h nx) (hB : Rb h bid sid av bv nv c n cv S cs) (hS : RSt ro (del h [bid, sid, aid]) cs S) (hn : ZI ro (del h [bid, sid, aid]) nv (numL g)) (ha : ZI ro (del h [bid, sid, aid]) av g.first) (hP : SlR ro (del h [bid, sid, aid]) bv 9 (RPos ro (del h [bid, sid, aid])) g.p) (hA : h.get aid = some (.cells autZ.toArray y_api_Auto))
    (e2 : e0 2 = ptr aid) (e4 : e0 4 = ptr bid) (e7 : e0 7 = .int .i64 (k : Int)) (e8 : e0 8 = .int .i64 (M : Int)) (e9 : e0 9 = nilS) (e10 : e0 10 = nilS) (e11 : e0 11 = .int .i64 0)
    (hQe : (codesZ g B k M 0 (S.modify k (setRN [] []))).1 ≠ 0 → ∀ e' h' nx', nx ≤ nx' → Fr h' nx' → Keep [bid, sid] h h' → h'.get aid = some (.cells autZ.toArray y_api_Auto) → e' 2 = ptr aid → e' 3 = .int .i64 (codesZ g B k M 0 (S.modify k (setRN [] []))).1 → Q .ret e' h' nx')
    (hQ : (codesZ g B k M 0 (S.modify k (setRN [] []))).1 = 0 → ∀ e' h' nx' sid' cs' S' R N ws, nx ≤ nx' → Fr h' nx' → Keep [bid, sid] h h' → (sid' = sid ∨ nx ≤ sid') → Rb h' bid sid' av bv nv c n cv S' cs' → Grow (del h' (sblk (e' 9)).toList) nx cs cs' S S' → SOk g S' → OwnT h' (e' 9) 1 y_int (intsZ R) nx → OwnT h' (e' 10) 1 y_s_api_Move (onesC ws) nx → RowsOwn h' nx ws N → R.length ≤ 27 →
      (codesZ g B k M 0 (S.modify k (setRN [] []))).2 = S'.modify k (setRN R N) → KpH e' e0 → Q (.exit 4) e' h' nx') :
    loopP (ref11_Of_L2 ro) e0 h nx Q := by
  generalize hZ : codesZ g B k M 0 (S.modify k (setRN [] [])) = Z at hQ hQe
  have hkl := (List.getElem?_eq_some_iff.1 hs).1
  refine loopP_rule (fun j e h' nx' => ∃ (i sid' : Nat) (cs' : List (List Value)) (S' : List StateD) (R : List Int) (N : List (List MoveD)) (ws : List Value), i + j = M ∧ nx ≤ nx' ∧ Fr h' nx' ∧ Keep [bid, sid] h h' ∧ (sid' = sid ∨ nx ≤ sid') ∧ Rb h' bid sid' av bv nv c n cv S' cs' ∧ SOk g S' ∧
    Grow (del h' (sblk (e 9)).toList) nx cs cs' S S' ∧ OwnT h' (e 9) 1 y_int (intsZ R) nx ∧ OwnT h' (e 10) 1 y_s_api_Move (onesC ws) nx ∧ RowsOwn h' nx ws N ∧ R.length = i ∧ N.length = i ∧ e 8 = .int .i64 (M : Int) ∧ e 11 = .int .i64 i ∧ KpH e e0 ∧
    codesZ g B k j i (S'.modify k (setRN R N)) = Z) ?_ (n := M)
    ⟨0, sid, cs, S, [], [], [], by omega, by omega, hf, (Sub.refl h).keepL, .inl rfl, hB, hok, Grow.refl, by rw [e9]; exact OwnT.nil, by rw [e10]; exact OwnT.nil, ⟨rfl, fun i w row hw => by simp at hw⟩, rfl, rfl, e8, e11, ⟨rfl, rfl, rfl⟩, hZ⟩
  rintro j e h' nx' ⟨i, sid', cs', S', R, N, ws, hj, hnx, hf', hkp, hsd, hB', hok', hgr, hR, hW, hro, hRl, hNl, e8, e11, hkg, hrz⟩ Q' hq hx
  obtain ⟨k2, k4, k7⟩ := hkg
  have e4' : e 4 = ptr bid := k4.trans e4
  have e7' : e 7 = .int .i64 (k : Int) := k7.trans e7
  have e2' : e 2 = ptr aid := k2.trans e2
  have hwl := hro.1
  unfold ref11_Of_L2
  rw [e4', e7', e8, e11]
  refine lss_s (fun hi => ?_) (fun hi => ?_)
  · obtain ⟨j, rfl⟩ : ∃ j', j = j' + 1 := ⟨j - 1, by omega⟩
    have hA' : h'.get aid = some (.cells autZ.toArray y_api_Auto) := hB.tyk hkp (by decide) (by decide) _ _ _ hA
    have hsubD := hkp.del2 (aid := aid) hf hsd
    have hdS := del_sub h' [bid, sid', aid]
    have hgrH := hgr.ty (del_sub _ _).ty
    have hS' := hS.grow hA' hf hkp hsd hB' hgrH hB.len fun t ht => (hok' t ht).2.2
    have hgr0 := hgr
    obtain ⟨ds, TT, a1, a2, a3, a4⟩ := hgr0
    have hs' : S'[k]? = some s := by rw [a2, List.getElem?_append_left hkl]; exact hs
    have hz0' : ∃ s, S'[0]? = some s ∧ s.l = [] := by
      obtain ⟨z, z1, z2⟩ := hz0
      exact ⟨z, by rw [a2, List.getElem?_append_left (List.getElem?_eq_some_iff.1 z1).1]; exact z1, z2⟩
    obtain ⟨o1, o2, o3⟩ := hok' s (List.mem_of_getElem? hs')
    rw [codesZ_succ, codeZ_mod hs'] at hrz
    have hbk := hB'.blk
    have b261 := rbL_261 (av := av) (bv := bv) (nv := nv) (n := n) (cv := cv) (sv := .slice (some (own sid' 4)) cs'.length cs'.length) (ev := .int .i64 0) hB.hc
    have hsl := hB'.slr hS' hdS
    have hkl' := (List.getElem?_eq_some_iff.1 hs').1
    have hke := (List.getElem?_eq_some_iff.1 hs').2
    obtain ⟨y, ⟨lv, rv, uv, wv, rfl, y1, y2, y3, y4, y5⟩, w2, w3, w4, w5⟩ := hsl.at hkl'
    rw [hke] at y1 y2
    rw [o2] at y2
    have six := hsl.ix .i64 hkl'
    refine condP_t ?_
    (repeat (first | refine bindP_mk (by simp (disch := first | omega | exact Int.natCast_nonneg _ | assumption) only [BB, B2, ↓reduceIte, Nat.reduceLeDiff, Nat.reduceAdd, CC, nilCk_at, hbk, b261, six, w3] <;> rfl) ?_ | refine newP_mk ?_ | refine optP_mk ?_ | with_reducible first | refine condP_t ?_ | refine condP_f ?_ | refine ifP_tt' ?_ | refine ifP_ff' ?_ | refine ifP_tf' ?_ | refine ifP_ft' ?_ | refine ifP_u' ?_ | refine optP_mk0 ?_))
    refine ref11_rule_c (uv := uv) (wv := wv) o1 hr (by have := rz_many o1; have := (right_parts hr).1; omega) (by rw [← o2]; omega) (by omega) (by omega) (hf'.mono (show nx' ≤ nx' + 15 by omega)) hbk ((hn.sub hsubD).sub hdS) ((hP.sub hsubD (RPos.sub hsubD)).sub hdS (RPos.sub hdS)) y1 y2 fun n2 hn2 => ?_
    refine app_int hR (by omega) (hf'.mono (show nx' ≤ n2 by omega)) (by omega) (Nat.le_refl _) (by omega) fun h3 w q1 q2 q3 q4 => ?_
    dsimp only
    have t1 : TyKeep y_uint8 h' h3 := q3.ty hR (by decide)
    have t2 : TyKeep y_api_Move h' h3 := q3.ty hR (by decide)
    have t3 : TyKeep y_s_api_Move h' h3 := q3.ty hR (by decide)
    have t4 : TyKeep y_api_Auto h' h3 := q3.ty hR (by decide)
    have t5 : TyKeep y_raddleref11_builder h' h3 := q3.ty hR (by decide)
    have t6 : TyKeep y_api_State h' h3 := q3.ty hR (by decide)
    have hW3 := hW.ty t3
    have hro3 := hro.ty t1 t2
    have hA3 := t4 _ _ _ hA'
    have hB3 : Rb h3 bid sid' av bv nv c n cv S' cs' := ⟨hB'.hc, t5 _ _ _ hB'.blk, t6 _ _ _ hB'.row, hB'.z4, hB'.len, hB'.few, hB'.pos⟩
    have hkp3 : Keep [bid, sid] h h3 := fun q o hq9 hn9 => q3 q o (hkp q o hq9 hn9) fun e9 => by
      have := (hR.blk e9).1
      have := hf.lt' hq9
      omega
    have hsub3 : Sub (del h [bid, sid, aid]) (del h3 [bid, sid', aid]) := hkp3.del2 hf hsd
    have hwid : ∀ id, sblk w = some id → n2 ≤ id := fun id hid => by
      rw [q2] at hid
      have : n2 + 2 = id := Option.some.inj hid
      omega
    have hgr3 : Grow (del h3 (sblk w).toList) nx cs cs' S S' := hgr.ty (q3.delTy hf' fun id hid => by have := hwid id hid; omega)
    have hgr3H := hgr3.ty (del_sub _ _).ty
    have hS3 := hS.grow hA3 hf hkp3 hsd hB3 hgr3H hB.len fun t ht => (hok' t ht).2.2
    have hop := rowZ_ops (right_parts hr).1 (en := entersZ g k (digs g s.l i)) (st := staysZ (digs g s.l i)) (B := B) (S := S')
    have hlen3 := hB'.len
    refine of_L3_c (s := s) (aid := aid) hr hcl hBf hBn hBl hb hs' hok' h00 hz0' (show (0 : Int) ≤ (i : Int) by omega) (by omega) (q4.mono (show _ ≤ _ by omega)) hB3 hS3 (hn.sub hsub3) (ha.sub hsub3) (hP.sub hsub3 (RPos.sub hsub3)) hA3 ?_ ?_ ?_ ?_ ?_ ?_ (fun hz e9 h4 n4 p1 p2 p3 p4 p5 p6 => ?_) fun hz e9 h4 n4 sid4 cs4 mcs p1 p2 p3 p4 p5 p6 p7 p8 p9 => ?_
    · exact e2'
    · exact e4'
    · exact e7'
    · exact e11
    · rfl
    · rfl
    · rw [if_neg hz, if_neg hz] at hrz
      have hz1 : Z.1 = (rowZ g (entersZ g k (digs g s.l i)) (staysZ (digs g s.l i)) B S').1 := by rw [← hrz]
      refine exP_r (hx _ _ _ _ (fun e => by cases e) ?_)
      exact hQe (by rw [hz1]; exact hz) _ _ _ (by omega) p2 (hkp3.chain2 hf p3 hsd) p4 p5 (by rw [hz1]; exact p6)
    · rw [if_pos hz, if_pos rfl] at hrz
      generalize hG : rowZ g (entersZ g k (digs g s.l i)) (staysZ (digs g s.l i)) B S' = G at hrz hz p5 p6 p8 hop
      generalize ruleZ g (-1) (digs g s.l i) = ru at hrz q1
      obtain ⟨r2, r4, r7, r8, r9, r10, r11⟩ := p9
      have r9 : e9 9 = w := r9
      have r10 : e9 10 = e 10 := r10
      have r11 : e9 11 = .int .i64 i := r11.trans e11
      have r8 : e9 8 = .int .i64 (M : Int) := r8.trans e8
      refine exP_e (beqP_t ?_)
      unfold ref11_Of_j6
      rw [r10]
      have u1 : TyKeep y_uint8 h3 h4 := hB3.tyk p3 (by decide) (by decide)
      have u2 : TyKeep y_api_Move h3 h4 := hB3.tyk p3 (by decide) (by decide)
      have u3 : TyKeep y_s_api_Move h3 h4 := hB3.tyk p3 (by decide) (by decide)
      have u4 : TyKeep y_int h3 h4 := hB3.tyk p3 (by decide) (by decide)
      have hW4 := hW3.ty u3
      have hro4 := hro3.ty u1 u2
      have q14 := q1.ty u4
      have hgr4 : Grow (del h4 (sblk w).toList) nx cs cs4 S G.2.2 := (hgr3.ty u4.del).trans (p6.delN fun x hx9 => by
        rw [q2] at hx9
        have : n2 + 2 = x := Option.some.inj (Option.mem_toList.1 hx9)
        omega) (by omega)
      have hkp4 := hkp3.chain2 hf p3 hsd
      have hwok : cellOk (e9 12) = true := p7.ok
      refine app_row hwok hW4 (by omega) p2 (by omega) (by omega) (by omega) fun h5 w5 s1 s2 s3 s4 => ?_
      dsimp only
      unfold ref11_Of_j5
      have hadd : intB .add (e9 11) (.int .i64 1) = some (.int .i64 ((i : Int) + 1)) := by rw [r11, intB_add, wr_i64 (by omega) (by omega)]
      refine bindP_mk hadd ?_
      have v1 : TyKeep y_uint8 h4 h5 := s3.ty hW4 (by decide)
      have v2 : TyKeep y_api_Move h4 h5 := s3.ty hW4 (by decide)
      have v3 : TyKeep y_int h4 h5 := s3.ty hW4 (by decide)
      have v4 : TyKeep y_raddleref11_builder h4 h5 := s3.ty hW4 (by decide)
      have v5 : TyKeep y_api_State h4 h5 := s3.ty hW4 (by decide)
      refine hq j _ h5 _ _ (by omega) ⟨i + 1, sid4, cs4, G.2.2, R ++ [ru], N ++ [G.2.1], ws ++ [e9 12], by omega, by omega, s4.mono (by omega), fun q o hq9 hn9 => ?_, ?_, ⟨p5.hc, v4 _ _ _ p5.blk, v5 _ _ _ p5.row, p5.z4, p5.len, p5.few, p5.pos⟩, ?_, ?_, ?_, ?_, ?_, by simp [hRl], by simp [hNl], r8, rfl, ⟨r2.trans k2, r4.trans k4, r7.trans k7⟩, hrz⟩ (Sub.refl _)
      · refine s3 q o (hkp4 q o hq9 hn9) fun e9 => ?_
        have := (hW4.blk e9).1
        have := hf.lt' hq9
        omega
      · rcases p4 with p4 | p4
        · rw [p4]; exact hsd
        · exact .inr (by omega)
      · have := rowZ_ok (en := entersZ g k (digs g s.l i)) (st := staysZ (digs g s.l i)) (B := B) hok'
        rw [hG] at this; exact this
      · show Grow (del h5 (sblk (e9 9)).toList) nx cs cs4 S G.2.2
        rw [r9]
        exact hgr4.ty v3.del
      · show OwnT h5 (e9 9) _ _ _ _
        rw [r9]
        exact q14.ty v3
      · exact s1
      · have ho1 := hro4.ty v1 v2
        refine ⟨by simp [hro.1], fun q x m hx9 hm9 => ?_⟩
        rcases Nat.lt_or_ge q ws.length with hql | hql
        · rw [List.getElem?_append_left hql] at hx9
          rw [List.getElem?_append_left (by have := hro.1; omega)] at hm9
          exact ho1.2 q x m hx9 hm9
        · rw [List.getElem?_append_right hql] at hx9
          rw [List.getElem?_append_right (by have := hro.1; omega), ← hro.1] at hm9
          generalize q - ws.length = q' at hx9 hm9
          cases q' with
          | succ q' => simp at hx9
          | zero =>
            simp at hx9 hm9
            subst hx9; subst hm9
            exact ⟨mcs, (p7.ty v2).mono (by omega), (p8.ty v1).mono (by omega), hop.1, by have := hop.2; omega⟩
  · obtain rfl : j = 0 := by omega
    have hrz : ((0 : Int), S'.modify k (setRN R N)) = Z := hrz
    subst hrz
    exact condP_f (hx _ _ _ _ (fun e => by cases e) (hQ rfl _ _ _ sid' cs' S' R N ws (by omega) (hf'.mono (by omega)) hkp hsd hB' hgr hok' hR hW hro (by omega) rfl ⟨k2, k4, k7⟩))
end
end V
end Go.Proofs.Ytmmdcdjkmakgpaa
set_option linter.unusedVariables false
set_option linter.unusedSimpArgs false
namespace Go.Proofs.Ytmmdcdjkmakgpaa
namespace V
open PA
attribute [local irreducible] bindP ifP condP newP optP exP beqP
theorem rows_R {ro : Ro} {h : T Obj} {v : Value} {lo lo' : Nat} {ws : List Value} {N : List (List MoveD)} (ho : OwnT h v 1 y_s_api_Move (onesC ws) lo) (hr : RowsOwn h lo' ws N) : SlR ro h v 1 (RRow ro h) N := ⟨onesC ws, ho.sl, by rw [onesC_len]; exact hr.1, fun i x row hx hrow => by
  unfold onesC at hx
  rw [List.getElem?_map] at hx
  cases hw : ws[i]? with
  | none => rw [hw] at hx; cases hx
  | some w =>
    rw [hw] at hx
    obtain ⟨mcs, a1, a2, a3, a4⟩ := hr.2 i w row hw hrow
    have hx : [w] = x := Option.some.inj hx
    rw [← hx]
    exact row_R a1 a2 a3 (by omega)⟩
theorem codes_27 {m : Nat} (h : m ≤ 3) : codesD (m : Int) ≤ 27 := by
  have : m = 0 ∨ m = 1 ∨ m = 2 ∨ m = 3 := by omega
  rcases this with rfl | rfl | rfl | rfl <;> decide
section
variable {ro : Ro} {g : GlD} {bid sid aid : Nat} {av bv nv cv : Value} {c : List Nat} {n : Int} {S : List StateD} {cs : List (List Value)}
set_option maxRecDepth 8000 in
set_option maxHeartbeats 2000000 in
theorem of_j4_c {k : Nat} {s : StateD} {R : List Int} {N : List (List MoveD)} {ws : List Value} {lv rv : Value} {e : Env} {h : T Obj} {nx lo : Nat} {Q : KE} (hf : Fr h nx) (hB : Rb h bid sid av bv nv c n cv S cs) (hA : h.get aid = some (.cells autZ.toArray y_api_Auto)) (hS : RSt ro (del h [bid, sid, aid]) cs S) (hs : S[k]? = some s) (hok : SOk g S) (hx : cs[k]? = some [lv, rv, nilS, nilS]) (hR : OwnT h (e 9) 1 y_int (intsZ R) lo) (hW : OwnT h (e 10) 1 y_s_api_Move (onesC ws) lo) (hro : RowsOwn h lo ws N)
    (e4 : e 4 = ptr bid) (e7 : e 7 = .int .i64 (k : Int))
    (hQ : ∀ e' h' nx', nx ≤ nx' → Fr h' nx' → Keep [bid, sid] h h' → Rb h' bid sid av bv nv c n cv (S.modify k (setRN R N)) (cs.set k [lv, rv, e 9, e 10]) → RSt ro (del h' [bid, sid, aid]) (cs.set k [lv, rv, e 9, e 10]) (S.modify k (setRN R N)) → e' 2 = e 2 → e' 4 = ptr bid → e' 7 = .int .i64 ((k : Int) + 1) → Q .normal e' h' nx') :
    ref11_Of_j4 ro Q e h nx := by
  unfold ref11_Of_j4
  rw [e4, e7]
  generalize e 9 = w9 at hR hQ ⊢
  generalize e 10 = w10 at hW hQ ⊢
  have hb := hB.blk
  have b261 := rbL_261 (av := av) (bv := bv) (nv := nv) (n := n) (cv := cv) (sv := .slice (some (own sid 4)) cs.length cs.length) (ev := .int .i64 0) hB.hc
  have hkl : k < cs.length := (List.getElem?_eq_some_iff.1 hx).1
  have hix := ixSl_own' (id := sid) (z := 4) (cap := cs.length) hkl
  have hrg := hB.row
  have hfew := hB.few
  have hlen := hB.len
  have i1 := hB.ne
  have hfl := flat4_len hB.z4
  have hrok := hR.ok
  have hwok := hW.ok
  (repeat (first | refine bindP_mk (by simp (disch := first | omega | exact Int.natCast_nonneg _ | assumption) only [BB, B2, ↓reduceIte, Nat.reduceLeDiff, Nat.reduceAdd, CC, nilCk_at, hb, b261, hix] <;> rfl) ?_ | refine newP_mk ?_ | refine optP_mk ?_ | with_reducible first | refine condP_t ?_ | refine condP_f ?_ | refine ifP_tt' ?_ | refine ifP_ff' ?_ | refine ifP_tf' ?_ | refine ifP_ft' ?_ | refine ifP_u' ?_ | refine optP_mk0 ?_))
  refine bindP_mk (store1_own (l := cs.flatten) hrg (by omega) hrok (cells_of_ok hrok)) ?_
  rw [flat4_set w9 hB.z4 hx (by omega)]
  have hcs1 : cs.set k ([lv, rv, nilS, nilS].set 2 w9) = cs.set k [lv, rv, w9, nilS] := rfl
  rw [hcs1]
  have hz1 : ∀ x ∈ cs.set k [lv, rv, w9, nilS], x.length = 4 := set_z4 hB.z4 rfl
  have hx1 : (cs.set k [lv, rv, w9, nilS])[k]? = some [lv, rv, w9, nilS] := by rw [List.getElem?_set_self hkl]
  have hb2 : (h.upd sid (some (.cells (cs.set k [lv, rv, w9, nilS]).flatten.toArray y_api_State))).get bid = _ := (T.get_upd_ne _ _ i1).trans hb
  have hr2 : (h.upd sid (some (.cells (cs.set k [lv, rv, w9, nilS]).flatten.toArray y_api_State))).get sid = _ := T.get_upd_same _ _ _
  have hfl1 := flat4_len hz1
  have hl1 : (cs.set k [lv, rv, w9, nilS]).length = cs.length := by simp
  (repeat (first | refine bindP_mk (by simp (disch := first | omega | exact Int.natCast_nonneg _ | assumption) only [BB, B2, ↓reduceIte, Nat.reduceLeDiff, Nat.reduceAdd, CC, nilCk_at, hb2, b261, hix] <;> rfl) ?_ | refine newP_mk ?_ | refine optP_mk ?_ | with_reducible first | refine condP_t ?_ | refine condP_f ?_ | refine ifP_tt' ?_ | refine ifP_ff' ?_ | refine ifP_tf' ?_ | refine ifP_ft' ?_ | refine ifP_u' ?_ | refine optP_mk0 ?_))
  refine bindP_mk (store1_own (l := (cs.set k [lv, rv, w9, nilS]).flatten) hr2 (by omega) hwok (cells_of_ok hwok)) ?_
  rw [flat4_set w10 hz1 hx1 (by omega)]
  have hcs2 : (cs.set k [lv, rv, w9, nilS]).set k ([lv, rv, w9, nilS].set 3 w10) = cs.set k [lv, rv, w9, w10] := by
    show (cs.set k [lv, rv, w9, nilS]).set k [lv, rv, w9, w10] = _
    rw [List.set_set]
  rw [hcs2]
  have hk6 : Keep [bid, sid] h ((h.upd sid (some (.cells (cs.set k [lv, rv, w9, nilS]).flatten.toArray y_api_State))).upd sid (some (.cells (cs.set k [lv, rv, w9, w10]).flatten.toArray y_api_State))) := ((Sub.refl h).keepL.upd (by simp)).upd (by simp)
  have hf6 : Fr ((h.upd sid (some (.cells (cs.set k [lv, rv, w9, nilS]).flatten.toArray y_api_State))).upd sid (some (.cells (cs.set k [lv, rv, w9, w10]).flatten.toArray y_api_State))) nx := (hf.upd (Nat.le_refl _) (hf.lt' hrg)).upd (Nat.le_refl _) (hf.lt' hrg)
  have hb6 : ((h.upd sid (some (.cells (cs.set k [lv, rv, w9, nilS]).flatten.toArray y_api_State))).upd sid (some (.cells (cs.set k [lv, rv, w9, w10]).flatten.toArray y_api_State))).get bid = _ := (T.get_upd_ne _ _ i1).trans hb2
  have hr6 : ((h.upd sid (some (.cells (cs.set k [lv, rv, w9, nilS]).flatten.toArray y_api_State))).upd sid (some (.cells (cs.set k [lv, rv, w9, w10]).flatten.toArray y_api_State))).get sid = _ := T.get_upd_same _ _ _
  generalize (h.upd sid (some (.cells (cs.set k [lv, rv, w9, nilS]).flatten.toArray y_api_State))).upd sid (some (.cells (cs.set k [lv, rv, w9, w10]).flatten.toArray y_api_State)) = h6 at hk6 hf6 hb6 hr6
  have hl2 : (cs.set k [lv, rv, w9, w10]).length = cs.length := by simp
  have hB6 : Rb h6 bid sid av bv nv c n cv (S.modify k (setRN R N)) (cs.set k [lv, rv, w9, w10]) := ⟨hB.hc, by rw [hl2]; exact hb6, hr6, set_z4 hB.z4 rfl, by rw [hl2, List.length_modify]; exact hlen, by rw [List.length_modify]; exact hfew, by rw [List.length_modify]; exact hB.pos⟩
  have hA6 := hB.tyk hk6 (by decide) (by decide) _ _ _ hA
  have hd6 : Sub (del h [bid, sid, aid]) (del h6 [bid, sid, aid]) := hk6.del2 hf (.inl rfl)
  unfold ref11_Of_j3
  have hadd : intB .add (e 7) (.int .i64 1) = some (.int .i64 ((k : Int) + 1)) := by rw [e7, intB_add, wr_i64 (by omega) (by omega)]
  refine bindP_mk hadd ?_
  refine hQ _ h6 _ (by omega) (hf6.mono (by omega)) hk6 hB6 (fun i x t hx9 ht9 => ?_) rfl e4 rfl
  by_cases hik : i = k
  · subst hik
    rw [List.getElem?_set_self hkl] at hx9
    rw [modify_self, hs] at ht9
    have hx9 := Option.some.inj hx9
    have ht9 : setRN R N s = t := Option.some.inj ht9
    subst hx9; subst ht9
    obtain ⟨lv', rv', uv', nv', q1, q2, q3, q4, q5, q6⟩ := hS i _ _ hx hs
    simp only [List.cons.injEq, and_true] at q1
    obtain ⟨rfl, rfl, rfl, rfl⟩ := q1
    have t1 : TyKeep y_int h h6 := hB.tyk hk6 (by decide) (by decide)
    have t2 : TyKeep y_s_api_Move h h6 := hB.tyk hk6 (by decide) (by decide)
    have t3 : TyKeep y_api_Move h h6 := hB.tyk hk6 (by decide) (by decide)
    have t4 : TyKeep y_uint8 h h6 := hB.tyk hk6 (by decide) (by decide)
    have hro6 := hro.ty t4 t3
    refine ⟨lv, rv, w9, w10, rfl, q2.sub hd6, q3.sub hd6, (hB6.delN hA6 (hR.ty t1) (by decide) (by decide) (by decide)).sl, rows_R (lo' := lo) (hB6.delN hA6 (hW.ty t2) (by decide) (by decide) (by decide)) ⟨hro6.1, fun i w row hw hrow => ?_⟩, q6⟩
    obtain ⟨mcs, a1, a2, a3⟩ := hro6.2 i w row hw hrow
    refine ⟨mcs, hB6.delN hA6 a1 (by decide) (by decide) (by decide), ⟨a2.1, fun i x m hx hm => ?_⟩, a3⟩
    obtain ⟨ov, b1, b2⟩ := a2.2 i x m hx hm
    exact ⟨ov, b1, hB6.delN hA6 b2 (by decide) (by decide) (by decide)⟩
  · rw [List.getElem?_set_ne (Ne.symm hik)] at hx9
    rw [modify_ne hik] at ht9
    exact RState.sub hd6 _ _ (hS i x t hx9 ht9)
end
end V
end Go.Proofs.Ytmmdcdjkmakgpaa