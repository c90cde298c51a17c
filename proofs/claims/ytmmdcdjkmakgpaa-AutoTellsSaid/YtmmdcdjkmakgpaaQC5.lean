/- Texts laid one behind the other: BG, BH, BI, BJ, BK, BL, BN, DB, DE, DG, DL, DO, DP.
   No condition. -/
import Derived.Test.YtmmdcdjkmakgpaaQC4
set_option linter.unusedVariables false
set_option linter.unusedSimpArgs false
set_option linter.unusedVariables false
set_option linter.unusedSimpArgs false
namespace Go.Proofs.Ytmmdcdjkmakgpaa
namespace V
open PA
attribute [local irreducible] bindP ifP condP newP optP exP beqP
def opsC (l : List Nat) : List (List Value) := l.map fun b : Nat => [Value.int .u8 (b : Int)]
theorem opsC_len (l : List Nat) : (opsC l).length = l.length := by simp [opsC]
theorem lit_u81 (aid : Nat) (b : Int) : sliceLitV Try.prog y_s_uint8 aid 1 [(0, .int .u8 b)] = some (.slice (some (own aid 1)) 1 1, some (.cells [Value.int .u8 b].toArray y_uint8)) := by kernel_rfl
theorem app_u8 {ro : Ro} {h : T Obj} {v : Value} {nx n1 n2 lo : Nat} {l : List Nat} {b : Nat} {b' : Int} {K : Value × Option Obj → T Obj → Value × T Obj × Nat → Prop} (hb' : b' = (b : Int)) (ho : OwnT h v 1 y_uint8 (opsC l) lo) (hl : l.length ≤ 1000000) (hf : Fr h nx) (hlo : lo ≤ nx) (hn1 : nx ≤ n1) (hn2 : n1 < n2)
    (hK : ∀ h' w, OwnT h' w 1 y_uint8 (opsC (l ++ [b])) lo → w = .slice (some (own n2 1)) (l.length + 1) (l.length + 1) → Kp v h h' → Fr h' (n2 + 1) → K (.slice (some (own n1 1)) 1 1, some (.cells [Value.int .u8 (b : Int)].toArray y_uint8)) (h.upd n1 (some (.cells [Value.int .u8 (b : Int)].toArray y_uint8))) (w, h', n2 + 1)) :
    bindP (sliceLitV Try.prog y_s_uint8 n1 1 [(0, .int .u8 b')]) fun r => optP h n1 r.2 fun h' => bindP (appendV Try.prog ro h' n2 #[y_s_uint8, y_s_uint8] [v, r.1]) (K r h') := by
  subst hb'
  obtain ⟨i, g1, g2, g3⟩ := tin_u8'
  have e : opsC l ++ [[Value.int .u8 (b : Int)]] = opsC (l ++ [b]) := by simp [opsC]
  have el := opsC_len l
  refine append_lit (z := 1) (l := opsC l) (y := [.int .u8 (b : Int)]) (lit_u81 _ _) rfl ho und_u8s' g1 g2 (by omega) zerU rfl rfl (by rw [el, g3]; unfold big; omega) (by rw [el]; unfold big; omega) hf hlo hn1 hn2 fun h' q1 q2 q3 => ?_
  rw [e] at q1 ⊢
  refine hK h' _ q1 ?_ q2 q3
  rw [opsC_len, List.length_append]; rfl
theorem OwnT.updNe {h : T Obj} {v : Value} {z : Nat} {e e' : TypeId} {l : List (List Value)} {lo i : Nat} {c : Array Value} {f : Nat × Nat} {o : Option Obj} (ho : OwnT h v z e l lo) (hg : h.get i = some (.cells c e' f)) (he : e' ≠ e) : OwnT (h.upd i o) v z e l lo := by
  rcases ho with ho | ⟨id, h1, rfl, h4, h5⟩
  · exact .inl ho
  · refine .inr ⟨id, h1, rfl, h4, ?_⟩
    rw [T.get_upd_ne _ _ (by
      rintro rfl
      rw [hg] at h5
      simp only [Option.some.injEq, Obj.cells.injEq] at h5
      exact he h5.2.1)]
    exact h5
theorem NewSt.updNe {h : T Obj} {lo i : Nat} {x : List Value} {s : StateD} {c : Array Value} {e' : TypeId} {f : Nat × Nat} {o : Option Obj} (hn : NewSt h lo x s) (hg : h.get i = some (.cells c e' f)) (he : e' ≠ y_int) : NewSt (h.upd i o) lo x s := by
  obtain ⟨lv, rv, h1, h2, h3, h4⟩ := hn
  exact ⟨lv, rv, h1, h2.updNe hg he, h3.updNe hg he, h4⟩
theorem Grow.updNe {h : T Obj} {lo i : Nat} {cs cs' : List (List Value)} {S S' : List StateD} {c : Array Value} {e' : TypeId} {f : Nat × Nat} {o : Option Obj} (hn : Grow h lo cs cs' S S') (hg : h.get i = some (.cells c e' f)) (he : e' ≠ y_int) : Grow (h.upd i o) lo cs cs' S S' := by
  obtain ⟨ds, T, h1, h2, h3, h4⟩ := hn
  exact ⟨ds, T, h1, h2, h3, fun i x s hx hs => (h4 i x s hx hs).updNe hg he⟩
theorem Bd.keepN {h h' : T Obj} {g : GlD} {bid nid kid eid yid sid : Nat} {av bv fv : Value} {c : List Nat} {n : Int} {cv : Value} {S : List StateD} {cs : List (List Value)} (hB : Bd h g bid nid kid eid yid sid av bv fv c n cv S cs) (hk : ∀ k o, h.get k = some o → k = bid ∨ k = nid ∨ k = kid ∨ k = sid → h'.get k = some o) : Bd h' g bid nid kid eid yid sid av bv fv c n cv S cs := by
  obtain ⟨f1, ⟨es1, c1, ps1, n1, n2, n3⟩, n4⟩ := hB.num
  obtain ⟨f2, ⟨es2, c2, ps2, k1, k2, k3⟩, k4⟩ := hB.known
  exact ⟨hB.hc, hk _ _ hB.blk (.inl rfl), ⟨f1, ⟨es1, c1, ps1, hk _ _ n1 (.inr (.inl rfl)), n2, n3⟩, n4⟩, ⟨f2, ⟨es2, c2, ps2, hk _ _ k1 (.inr (.inr (.inl rfl))), k2, k3⟩, k4⟩, hk _ _ hB.row (.inr (.inr (.inr rfl))), hB.z4, hB.len, hB.few, hB.pos, hB.nk⟩
theorem Bd.lt {h : T Obj} {g : GlD} {bid nid kid eid yid sid nx : Nat} {av bv fv : Value} {c : List Nat} {n : Int} {cv : Value} {S : List StateD} {cs : List (List Value)} (hB : Bd h g bid nid kid eid yid sid av bv fv c n cv S cs) (hf : Fr h nx) : bid < nx ∧ nid < nx ∧ kid < nx ∧ sid < nx := by
  obtain ⟨f1, n1, n4⟩ := hB.num
  obtain ⟨f2, k1, k4⟩ := hB.known
  obtain ⟨_, _, a⟩ := n1.obj
  obtain ⟨_, _, b⟩ := k1.obj
  exact ⟨hf.lt' hB.blk, hf.lt' a, hf.lt' b, hf.lt' hB.row⟩
theorem placesZ_succ (k : Nat) : placesZ (k + 1) = placesZ k ++ [(k : Int)] := by simp [placesZ, List.range_succ]
theorem placesZ_mem {k : Nat} {x : Int} (h : x ∈ placesZ k) : 0 ≤ x ∧ x < k := by
  simp only [placesZ, List.mem_map, List.mem_range] at h
  obtain ⟨i, h1, rfl⟩ := h
  omega
theorem placesZ_len (k : Nat) : (placesZ k).length = k := by simp [placesZ]
theorem rz_snoc {m : Int} {x : Int} (hx : x < m) : ∀ {l : List Int} {a : Int}, a < x → rz a m l = true → (∀ y ∈ l, y < x) → rz a m (l ++ [x]) = true
  | [], a, ha, _, _ => by simp [rz, ha, hx]
  | y :: r, a, ha, h, hl => by
    simp only [rz, Bool.and_eq_true, decide_eq_true_eq] at h
    have := rz_snoc hx (hl y (by simp)) h.2.2 fun z hz => hl z (by simp [hz])
    simp only [List.cons_append, rz, Bool.and_eq_true, decide_eq_true_eq]
    exact ⟨h.1, h.2.1, this⟩
theorem rz_filter {m : Nat} (q : Int → Bool) : ∀ k, k ≤ m → rz (-1) m ((placesZ k).filter q) = true
  | 0, _ => rfl
  | k + 1, hk => by
    have ih := rz_filter (m := m) q k (by omega)
    rw [placesZ_succ, List.filter_append]
    cases hq : q (k : Int) with
    | false => rw [List.filter_cons_of_neg (by simp [hq])]; simpa using ih
    | true =>
      rw [List.filter_cons_of_pos (by simp [hq])]
      refine rz_snoc (by omega) (by omega) ih fun y hy => ?_
      have := placesZ_mem ((List.mem_filter.1 hy).1)
      omega
theorem lZ_rz (g : GlD) (en st : Int → Bool) (b : Nat) : rz (-1) g.p.length (lZ g en st b) = true := rz_filter _ _ (Nat.le_refl _)
theorem lZ_len (g : GlD) (en st : Int → Bool) (b : Nat) : (lZ g en st b).length ≤ g.p.length := by
  have := List.length_filter_le (takesZ g en st b) (placesZ g.p.length)
  rw [placesZ_len] at this; exact this
theorem opsZ_snoc (g : GlD) (en st : Int → Bool) (l : List Int) (x : Int) : opsZ g en st (l ++ [x]) = if ctd g x then opsZ g en st l ++ [opZ en st x] else opsZ g en st l := by
  unfold opsZ
  rw [List.filter_append]
  cases h : ctd g x <;> simp [h]
theorem opsZ_len (g : GlD) (en st : Int → Bool) (l : List Int) : (opsZ g en st l).length ≤ l.length := by
  unfold opsZ
  rw [List.length_map]
  exact List.length_filter_le _ _
theorem zer_Move : zer Try.prog y_api_Move = some (.agg #[.int .i64 0, nilS]) := by kernel_rfl
theorem build_Move1 : buildV Try.prog y_api_Move [(0, .int .i64 (-1))] = some (.agg #[.int .i64 (-1), nilS]) := by kernel_rfl
theorem zer_PosZ : zer Try.prog y_api_Pos = some (.agg (posL dummy (.slice none 0 0)).toArray) := by kernel_rfl
theorem goesZ_nil {g : GlD} {en st : Int → Bool} {b : Nat} {S : List StateD} (h : lZ g en st b = []) : goesZ g en st b S = (⟨-1, []⟩, 0, S) := by unfold goesZ; rw [h]
theorem goesZ_ne {g : GlD} {en st : Int → Bool} {b : Nat} {S : List StateD} (h : lZ g en st b ≠ []) : goesZ g en st b S = (⟨(findZ g S (lZ g en st b)).1, opsZ g en st (lZ g en st b)⟩, (findZ g S (lZ g en st b)).2.1, (findZ g S (lZ g en st b)).2.2) := by
  unfold goesZ
  generalize lZ g en st b = l at h
  cases l with
  | nil => exact absurd rfl h
  | cons x r => rfl
theorem at_nat {g : GlD} {k : Nat} (hk : k < g.p.length) : g.at (k : Int) = g.p[k] := by
  unfold GlD.at
  rw [Int.toNat_natCast, List.getD_eq_getElem?_getD, List.getElem?_eq_getElem hk]; rfl
set_option maxRecDepth 8000 in
set_option maxHeartbeats 2000000 in
theorem auto_goes_c {ro : Ro} {g : GlD} {bid nid kid eid yid sid : Nat} {av bv fv cv : Value} {c : List Nat} {n : Int} {S : List StateD} {cs : List (List Value)} {en st : Int → Bool} {b : Nat} (hg : g.p.length ≤ 512) (hb : b < 256)
    {h : T Obj} {nx : Nat} {K : KV} (hf : Fr h nx) (hB : Bd h g bid nid kid eid yid sid av bv fv c n cv S cs) (hen : BMap h eid en) (hst : BMap h yid st) (hP : SlR ro h bv 9 (RPos ro h) g.p)
    (hK : ∀ h' nx' sid' cs' ov, nx ≤ nx' → Fr h' nx' → Keep [bid, kid, sid] h h' → (sid' = sid ∨ nx ≤ sid') → Bd h' g bid nid kid eid yid sid' av bv fv c n cv (goesZ g en st b S).2.2 cs' → Grow h' nx cs cs' S (goesZ g en st b S).2.2 → OwnT h' ov 1 y_uint8 (opsC (goesZ g en st b S).1.ops) nx →
      K (.tuple #[.agg #[.int .i64 (goesZ g en st b S).1.to, ov], .int .i64 (goesZ g en st b S).2.1]) h' nx') :
    callP Try.prog ro i_auto_builder_goes [ptr bid, .int .u8 (b : Int)] h nx K := by
  apply auto_builder_goes_of
  unfold auto_builder_goes
  obtain ⟨l1, l2, l3, l4⟩ := hB.lt hf
  refine bindP_mk zer_Move (obj_mk hf (Nat.le_refl _) fun h1 hs1 hf1 g1 _ => bindP_mk build_Move1 ?_)
  refine local_mk zer_Move rfl (x := [.int .i64 (-1), nilS]) rfl rfl rfl hf1 (show nx + 1 ≤ nx + 4 by omega) fun h2 hs2 hf2 g2 _ => ?_
  have hs := hs1.trans hs2
  have g1 : h2.get nx = some (.cells #[.int .i64 0, nilS] y_api_Move) := hs2 _ _ g1
  have hbk := hs _ _ hB.blk
  have b1 := bldL_1 (av := av) (bv := bv) (nv := .map (some nid)) (fv := fv) (c := c) (n := n) (cv := cv) (sv := .slice (some (own sid 4)) cs.length cs.length) (kv := .map (some kid)) (ev := .map (some eid)) (yv := .map (some yid))
  have b2 := bldL_2 (av := av) (bv := bv) (nv := .map (some nid)) (fv := fv) (c := c) (n := n) (cv := cv) (sv := .slice (some (own sid 4)) cs.length cs.length) (kv := .map (some kid)) (ev := .map (some eid)) (yv := .map (some yid))
  have b264 := bldL_264 (av := av) (bv := bv) (nv := .map (some nid)) (fv := fv) (n := n) (cv := cv) (sv := .slice (some (own sid 4)) cs.length cs.length) (kv := .map (some kid)) (ev := .map (some eid)) (yv := .map (some yid)) hB.hc
  have b265 := bldL_265 (av := av) (bv := bv) (nv := .map (some nid)) (fv := fv) (n := n) (cv := cv) (sv := .slice (some (own sid 4)) cs.length cs.length) (kv := .map (some kid)) (ev := .map (some eid)) (yv := .map (some yid)) hB.hc
  have hlen := hP.len
  (repeat (first | refine bindP_mk (by simp (disch := first | omega | exact Int.natCast_nonneg _ | assumption) only [BB, B2, ↓reduceIte, Nat.reduceLeDiff, Nat.reduceAdd, CC, nilCk_at, hbk, b1, hlen] <;> rfl) ?_ | refine newP_mk ?_ | refine optP_mk ?_ | with_reducible first | refine condP_t ?_ | refine condP_f ?_ | refine ifP_tt' ?_ | refine ifP_ff' ?_ | refine ifP_tf' ?_ | refine ifP_ft' ?_ | refine ifP_u' ?_ | refine optP_mk0 ?_))
  refine loopP_rule (fun j e h' nx' => ∃ (k : Nat) (ov : Value), k + j = g.p.length ∧ nx + 5 ≤ nx' ∧ Sub h h' ∧ Fr h' nx' ∧ e 0 = ptr bid ∧ e 1 = .int .u8 (b : Int) ∧ e 4 = ptr nx ∧ e 7 = ptr (nx + 4) ∧ e 19 = bv ∧ e 20 = .int .i64 g.p.length ∧ e 21 = .int .i64 k ∧
    OwnT h' (e 6) 1 y_int (intsZ ((placesZ k).filter (takesZ g en st b))) nx ∧ h'.get nx = some (.cells #[.int .i64 0, nilS] y_api_Move) ∧ h'.get (nx + 4) = some (.cells #[.int .i64 (-1), ov] y_api_Move) ∧ OwnT h' ov 1 y_uint8 (opsC (opsZ g en st ((placesZ k).filter (takesZ g en st b)))) nx) ?_ (n := g.p.length)
    ⟨0, nilS, by omega, by omega, hs, hf2.mono (by omega), rfl, rfl, rfl, rfl, rfl, rfl, rfl, OwnT.nil, g1, g2, OwnT.nil⟩
  rintro j e h' nx' ⟨k, ov, hj, hnx, hs', hf', e0, e1, e4, e7, e19, e20, e21, ho, g1, g2, hov⟩ Q' hq hx
  have hB' := hB.sub hs'
  obtain ⟨fn, hm1, hm2⟩ := hB'.num
  have hbk := hB'.blk
  have hP' := hP.sub hs' (RPos.sub hs')
  have hen' : BMap h' eid en := by obtain ⟨f, q1, q2⟩ := hen; exact ⟨f, q1.sub hs', q2⟩
  have hst' : BMap h' yid st := by obtain ⟨f, q1, q2⟩ := hst; exact ⟨f, q1.sub hs', q2⟩
  unfold auto_builder_goes_L1
  rw [e0, e1, e19, e20, e21]
  refine lss_s (fun hk => ?_) (fun hk => ?_)
  · have hk : k < g.p.length := by omega
    have hls : (placesZ (k + 1)).filter (takesZ g en st b) = if takesZ g en st b (k : Int) then (placesZ k).filter (takesZ g en st b) ++ [(k : Int)] else (placesZ k).filter (takesZ g en st b) := by
      rw [placesZ_succ, List.filter_append]
      cases hq : takesZ g en st b (k : Int) <;> simp [hq]
    have hll : ((placesZ k).filter (takesZ g en st b)).length ≤ 512 := by
      have := List.length_filter_le (takesZ g en st b) (placesZ k)
      rw [placesZ_len] at this; omega
    have hol := opsZ_len g en st ((placesZ k).filter (takesZ g en st b))
    obtain ⟨x, ⟨nv, rfl, y1, y2⟩, x2, x3, x4, x5⟩ := hP'.at hk
    have hat := at_nat hk
    have hlk := look_ii hm1 (k : Int)
    rw [hm2 _ (by omega)] at hlk
    have hle := hen'.look (k : Int)
    have hly := hst'.look (k : Int)
    have hj2 : ∀ (e : Env) (h3 : T Obj) (n3 : Nat) (ov' : Value), nx' ≤ n3 → Sub h h3 → Fr h3 n3 → e 0 = ptr bid → e 1 = .int .u8 (b : Int) → e 4 = ptr nx → e 7 = ptr (nx + 4) → e 19 = bv → e 20 = .int .i64 g.p.length → e 21 = .int .i64 k →
        OwnT h3 (e 6) 1 y_int (intsZ ((placesZ (k + 1)).filter (takesZ g en st b))) nx → h3.get nx = some (.cells #[.int .i64 0, nilS] y_api_Move) → h3.get (nx + 4) = some (.cells #[.int .i64 (-1), ov'] y_api_Move) → OwnT h3 ov' 1 y_uint8 (opsC (opsZ g en st ((placesZ (k + 1)).filter (takesZ g en st b)))) nx → auto_builder_goes_j2 ro Q' e h3 n3 := by
      intro e h3 n3 ov' hn3 s1 s2 e0 e1 e4 e7 e19 e20 e21 o3 g3 g4 o4
      unfold auto_builder_goes_j2
      rw [e21]
      (repeat (first | refine bindP_mk (by simp (disch := first | omega | exact Int.natCast_nonneg _ | assumption) only [BB, B2, ↓reduceIte, Nat.reduceLeDiff, Nat.reduceAdd, CC] <;> rfl) ?_ | refine newP_mk ?_ | refine optP_mk ?_ | with_reducible first | refine condP_t ?_ | refine condP_f ?_ | refine ifP_tt' ?_ | refine ifP_ff' ?_ | refine ifP_tf' ?_ | refine ifP_ft' ?_ | refine ifP_u' ?_ | refine optP_mk0 ?_))
      exact hq (j - 1) _ _ _ _ (by omega) ⟨k + 1, ov', by omega, by omega, s1, s2.mono (by omega), e0, e1, e4, e7, e19, e20, rfl, o3, g3, g4, o4⟩ (Sub.refl _)
    generalize (placesZ k).filter (takesZ g en st b) = L at hls hll hol ho hov
    generalize (placesZ (k + 1)).filter (takesZ g en st b) = L' at hls hj2
    have htk : takesZ g en st b (k : Int) = (g.p[k].s.testBit b && (en k || st k)) := by unfold takesZ; rw [hat]
    refine condP_t (bindP_mk (hP'.ix _ hk) (bindP_mk x3 ?_))
    refine local_mk zer_PosZ rfl (x := posL g.p[k] nv) rfl rfl (posL_ok y1.ok) hf' (show nx' ≤ nx' + 4 by omega) fun h3 hs3 hf3 g3 hne3 => ?_
    have hsp : ((posL g.p[k] nv).drop 0).take 4 = setL g.p[k].s := rfl
    have e4s : (4 : Nat) ≤ (posL g.p[k] nv).length := by show 4 ≤ 9; omega
    have hld : loadA ro h3 4 (at_ (nx' + 4) 0 0) = some (setV g.p[k].s) := by
      rw [loadA_own, g3, cellsIn_some]
      simp only [Option.bind_some, tl]
      rw [if_pos (by show 0 + 4 ≤ 9; omega), hsp]; rfl
    (repeat (first | refine bindP_mk (by simp (disch := first | omega | exact Int.natCast_nonneg _ | assumption) only [BB, B2, ↓reduceIte, Nat.reduceLeDiff, Nat.reduceAdd, CC, hld] <;> rfl) ?_ | refine newP_mk ?_ | refine optP_mk ?_ | with_reducible first | refine condP_t ?_ | refine condP_f ?_ | refine ifP_tt' ?_ | refine ifP_ff' ?_ | refine ifP_tf' ?_ | refine ifP_ft' ?_ | refine ifP_u' ?_ | refine optP_mk0 ?_))
    refine bset_Has_c hb (hf3.mono (by omega)) fun n4 hn4 => ?_
    have hb3 := hs3 _ _ hbk
    have hle3 : lookV Try.prog h3 y_map_int_bool (.map (some eid)) (.int .i64 (k : Int)) false = some (.bool (en k)) := BMap.look (by obtain ⟨f, q1, q2⟩ := hen'; exact ⟨f, q1.sub hs3, q2⟩) _
    have hly3 : lookV Try.prog h3 y_map_int_bool (.map (some yid)) (.int .i64 (k : Int)) false = some (.bool (st k)) := BMap.look (by obtain ⟨f, q1, q2⟩ := hst'; exact ⟨f, q1.sub hs3, q2⟩) _
    have ho3 := ho.keepS hs3
    have hov3 := hov.keepS hs3
    have g13 := hs3 _ _ g1
    have g23 := hs3 _ _ g2
    have hm3 := hm1.sub hs3
    have hs03 := hs'.trans hs3
    have hB3 := hB'.sub hs3
    cases hhas : (g.p[k]).s.testBit b with
    | false =>
      rw [hhas, Bool.false_and] at htk
      rw [htk, if_neg (by decide)] at hls
      (repeat (first | refine bindP_mk (by simp (disch := first | omega | exact Int.natCast_nonneg _ | assumption) only [BB, B2, ↓reduceIte, Nat.reduceLeDiff, Nat.reduceAdd, CC] <;> rfl) ?_ | refine newP_mk ?_ | refine optP_mk ?_ | with_reducible first | refine condP_t ?_ | refine condP_f ?_ | refine ifP_tt' ?_ | refine ifP_ff' ?_ | refine ifP_tf' ?_ | refine ifP_ft' ?_ | refine ifP_u' ?_ | refine optP_mk0 ?_))
      refine hj2 _ _ _ ov (by omega) hs03 (hf3.mono (by omega)) e0 e1 e4 e7 e19 e20 e21 ?_ g13 g23 ?_
      · rw [hls]; exact ho3
      · rw [hls]; exact hov3
    | true =>
      rw [hhas, Bool.true_and] at htk
      -- places that are taken
      have main : ∀ (e' : Env) n5 (h6 : T Obj) (lv : Value) (op : Nat), nx' + 5 ≤ n5 → (en k || st k) = true → e' 0 = ptr bid → e' 1 = .int .u8 (b : Int) → e' 4 = ptr nx → e' 7 = ptr (nx + 4) → e' 8 = .int .i64 k → e' 19 = bv → e' 20 = .int .i64 g.p.length → e' 21 = .int .i64 k → OwnT h6 lv 1 y_int (intsZ L') nx → e' 6 = lv → Sub h h6 → Fr h6 n5 → h6.get nx = some (.cells #[.int .i64 0, nilS] y_api_Move) → h6.get (nx + 4) = some (.cells #[.int .i64 (-1), ov] y_api_Move) → OwnT h6 ov 1 y_uint8 (opsC (opsZ g en st L)) nx →
          op = opZ en st k → e' 12 = .int .u8 (op : Int) → ctd g k = true → L' = L ++ [(k : Int)] → auto_builder_goes_j4 ro Q' e' h6 n5 := by
        intro e' n5 h6 lv op hn5 hes f0 f1 f4 f7 f8 f19 f20 f21 q1 q2 q3 q4 q5 q6 q7 hop f12 hct hL
        unfold auto_builder_goes_j4
        rw [f7, f12]
        (repeat (first | refine bindP_mk (by simp (disch := first | omega | exact Int.natCast_nonneg _ | assumption) only [BB, B2, ↓reduceIte, Nat.reduceLeDiff, Nat.reduceAdd, CC, q6] <;> rfl) ?_ | refine newP_mk ?_ | refine optP_mk ?_ | with_reducible first | refine condP_t ?_ | refine condP_f ?_ | refine ifP_tt' ?_ | refine ifP_ff' ?_ | refine ifP_tf' ?_ | refine ifP_ft' ?_ | refine ifP_u' ?_ | refine optP_mk0 ?_))
        refine app_u8 (b := op) rfl q7 (by omega) q4 (by omega) (by omega) (by omega) fun h8 w r1 r2 r3 r4 => ?_
        dsimp only
        have hne4 : sblk ov ≠ some (nx + 4) := q7.ne q6 (by decide)
        have hnx4 : sblk ov ≠ some nx := q7.ne q5 (by decide)
        have r6 := r3 _ _ q6 hne4
        have r5 := r3 _ _ q5 hnx4
        have hr2 : w.cells = #[w] := by rw [r2]; rfl
        have hr2' : cellOk w = true := by rw [r2]; rfl
        (repeat (first | refine bindP_mk (by simp (disch := first | omega | exact Int.natCast_nonneg _ | assumption) only [BB, B2, ↓reduceIte, Nat.reduceLeDiff, Nat.reduceAdd, CC] <;> rfl) ?_ | refine newP_mk ?_ | refine optP_mk ?_ | with_reducible first | refine condP_t ?_ | refine condP_f ?_ | refine ifP_tt' ?_ | refine ifP_ff' ?_ | refine ifP_tf' ?_ | refine ifP_ft' ?_ | refine ifP_u' ?_ | refine optP_mk0 ?_))
        refine bindP_mk (store1_own (l := [.int .i64 (-1), ov]) r6 (by show 1 < 2; omega) hr2' hr2) ?_
        have hxl : OwnT h8 lv 1 y_int (intsZ L') nx := q1.keep r3 fun id hid => by
          obtain ⟨_, z1⟩ := q1.blk hid
          exact q7.ne z1 (by decide)
        have hss : Sub h h8 := q7.sub r3 hf (Nat.le_refl _) q3
        refine hj2 _ _ _ w (by omega) (hss.new hf (by omega)) ((r4.mono (by omega)).upd (Nat.le_refl _) (by omega)) f0 f1 f4 f7 f19 f20 f21 ?_ ?_ ?_ ?_
        · show OwnT _ (e' 6) _ _ _ _
          rw [q2]
          exact hxl.updNe r6 (by decide)
        · rw [T.get_upd_ne _ _ (by omega)]; exact r5
        · rw [T.get_upd_same]; rfl
        · rw [hL, opsZ_snoc, if_pos hct, ← hop]
          exact r1.updNe r6 (by decide)
      have fin3 : ∀ (e' : Env) n5 (h6 : T Obj) (lv : Value), nx' + 5 ≤ n5 → (en k || st k) = true → e' 0 = ptr bid → e' 1 = .int .u8 (b : Int) → e' 4 = ptr nx → e' 7 = ptr (nx + 4) → e' 8 = .int .i64 k → e' 19 = bv → e' 20 = .int .i64 g.p.length → e' 21 = .int .i64 k → OwnT h6 lv 1 y_int (intsZ L') nx → e' 6 = lv → Sub h h6 → Fr h6 n5 → h6.get nx = some (.cells #[.int .i64 0, nilS] y_api_Move) → h6.get (nx + 4) = some (.cells #[.int .i64 (-1), ov] y_api_Move) → OwnT h6 ov 1 y_uint8 (opsC (opsZ g en st L)) nx →
          e' 12 = .int .u8 (if st k then (1 : Int) else 3) → ctd g k = true → L' = L ++ [(k : Int)] → auto_builder_goes_j3 ro Q' e' h6 n5 := by
        intro e' n5 h6 lv hn5 hes f0 f1 f4 f7 f8 f19 f20 f21 q1 q2 q3 q4 q5 q6 q7 f12 hct hL
        have hly6 : lookV Try.prog h6 y_map_int_bool (.map (some yid)) (.int .i64 (k : Int)) false = some (.bool (st k)) := BMap.look (by obtain ⟨f, q1, q2⟩ := hst; exact ⟨f, q1.sub q3, q2⟩) _
        have hle6 : lookV Try.prog h6 y_map_int_bool (.map (some eid)) (.int .i64 (k : Int)) false = some (.bool (en k)) := BMap.look (by obtain ⟨f, q1, q2⟩ := hen; exact ⟨f, q1.sub q3, q2⟩) _
        have hb6 := (hB.sub q3).blk
        unfold auto_builder_goes_j3
        rw [f0, f8]
        (repeat (first | refine bindP_mk (by simp (disch := first | omega | exact Int.natCast_nonneg _ | assumption) only [BB, B2, ↓reduceIte, Nat.reduceLeDiff, Nat.reduceAdd, CC, nilCk_at, hb6, b265, hly6] <;> rfl) ?_ | refine newP_mk ?_ | refine optP_mk ?_ | with_reducible first | refine condP_t ?_ | refine condP_f ?_ | refine ifP_tt' ?_ | refine ifP_ff' ?_ | refine ifP_tf' ?_ | refine ifP_ft' ?_ | refine ifP_u' ?_ | refine optP_mk0 ?_))
        cases hsk : st k with
        | false =>
          rw [hsk] at f12
          (repeat (first | refine bindP_mk (by simp (disch := first | omega | exact Int.natCast_nonneg _ | assumption) only [BB, B2, ↓reduceIte, Nat.reduceLeDiff, Nat.reduceAdd, CC] <;> rfl) ?_ | refine newP_mk ?_ | refine optP_mk ?_ | with_reducible first | refine condP_t ?_ | refine condP_f ?_ | refine ifP_tt' ?_ | refine ifP_ff' ?_ | refine ifP_tf' ?_ | refine ifP_ft' ?_ | refine ifP_u' ?_ | refine optP_mk0 ?_))
          exact main _ _ h6 lv 3 (by omega) hes f0 f1 f4 f7 f8 f19 f20 f21 q1 q2 q3 (q4.mono (by omega)) q5 q6 q7 (by unfold opZ; rw [hsk]; rfl) f12 hct hL
        | true =>
          rw [hsk] at f12
          (repeat (first | refine bindP_mk (by simp (disch := first | omega | exact Int.natCast_nonneg _ | assumption) only [BB, B2, ↓reduceIte, Nat.reduceLeDiff, Nat.reduceAdd, CC, nilCk_at, hb6, b264, hle6] <;> rfl) ?_ | refine newP_mk ?_ | refine optP_mk ?_ | with_reducible first | refine condP_t ?_ | refine condP_f ?_ | refine ifP_tt' ?_ | refine ifP_ff' ?_ | refine ifP_tf' ?_ | refine ifP_ft' ?_ | refine ifP_u' ?_ | refine optP_mk0 ?_))
          cases hek : en k with
          | false =>
            (repeat (first | refine bindP_mk (by simp (disch := first | omega | exact Int.natCast_nonneg _ | assumption) only [BB, B2, ↓reduceIte, Nat.reduceLeDiff, Nat.reduceAdd, CC] <;> rfl) ?_ | refine newP_mk ?_ | refine optP_mk ?_ | with_reducible first | refine condP_t ?_ | refine condP_f ?_ | refine ifP_tt' ?_ | refine ifP_ff' ?_ | refine ifP_tf' ?_ | refine ifP_ft' ?_ | refine ifP_u' ?_ | refine optP_mk0 ?_))
            exact main _ _ h6 lv 1 (by omega) hes f0 f1 f4 f7 f8 f19 f20 f21 q1 q2 q3 (q4.mono (by omega)) q5 q6 q7 (by unfold opZ; rw [hsk, hek]; rfl) f12 hct hL
          | true =>
            (repeat (first | refine bindP_mk (by simp (disch := first | omega | exact Int.natCast_nonneg _ | assumption) only [BB, B2, ↓reduceIte, Nat.reduceLeDiff, Nat.reduceAdd, CC] <;> rfl) ?_ | refine newP_mk ?_ | refine optP_mk ?_ | with_reducible first | refine condP_t ?_ | refine condP_f ?_ | refine ifP_tt' ?_ | refine ifP_ff' ?_ | refine ifP_tf' ?_ | refine ifP_ft' ?_ | refine ifP_u' ?_ | refine optP_mk0 ?_))
            exact main _ _ h6 lv 2 (by omega) hes f0 f1 f4 f7 f8 f19 f20 f21 q1 q2 q3 (q4.mono (by omega)) q5 q6 q7 (by unfold opZ; rw [hsk, hek]; rfl) rfl hct hL
      cases hek : en k with
      | true =>
        rw [hek] at htk hle3
        rw [htk, Bool.true_or, if_pos rfl] at hls
        (repeat (first | refine bindP_mk (by simp (disch := first | omega | exact Int.natCast_nonneg _ | assumption) only [BB, B2, ↓reduceIte, Nat.reduceLeDiff, Nat.reduceAdd, CC, nilCk_at, hb3, b264, hle3] <;> rfl) ?_ | refine newP_mk ?_ | refine optP_mk ?_ | with_reducible first | refine condP_t ?_ | refine condP_f ?_ | refine ifP_tt' ?_ | refine ifP_ff' ?_ | refine ifP_tf' ?_ | refine ifP_ft' ?_ | refine ifP_u' ?_ | refine optP_mk0 ?_))
        refine app_int ho3 (by omega) (hf3.mono (show nx' + 4 + 1 ≤ n4 by omega)) (by omega) (by omega) (by omega) fun h6 w q1 q2 q3 q4 => ?_
        dsimp only
        rw [← hls] at q1
        have hkp : ∀ i o, h3.get i = some o → (∀ c f, o ≠ .cells c y_int f) → h6.get i = some o := fun i o hi hty => q3 i o hi fun e => by
          obtain ⟨_, z1⟩ := ho3.blk e
          rw [hi] at z1
          exact hty _ _ (Option.some.inj z1)
        have hb6 := hkp _ _ hb3 (by intro c f e; simp only [Obj.cells.injEq] at e; exact absurd e.2.1 (by decide))
        have hg16 := hkp _ _ g13 (by intro c f e; simp only [Obj.cells.injEq] at e; exact absurd e.2.1 (by decide))
        have hg26 := hkp _ _ g23 (by intro c f e; simp only [Obj.cells.injEq] at e; exact absurd e.2.1 (by decide))
        have hov6 : OwnT h6 ov 1 y_uint8 (opsC (opsZ g en st L)) nx := hov3.keep q3 fun id hid => by
          obtain ⟨_, z1⟩ := hov3.blk hid
          exact ho3.ne z1 (by decide)
        have hss : Sub h h6 := ho3.sub q3 hf (Nat.le_refl _) hs03
        have hB6 := hB.sub hss
        obtain ⟨fn6, m61, m62⟩ := hB6.num
        have hlk6 := look_ii m61 (k : Int)
        rw [m62 _ (by omega)] at hlk6
        have hly6 : lookV Try.prog h6 y_map_int_bool (.map (some yid)) (.int .i64 (k : Int)) false = some (.bool (st k)) := BMap.look (by obtain ⟨f, q1, q2⟩ := hst; exact ⟨f, q1.sub hss, q2⟩) _
        (repeat (first | refine bindP_mk (by simp (disch := first | omega | exact Int.natCast_nonneg _ | assumption) only [BB, B2, ↓reduceIte, Nat.reduceLeDiff, Nat.reduceAdd, CC, nilCk_at, hb6, b2, hlk6, nth0, nth1] <;> rfl) ?_ | refine newP_mk ?_ | refine optP_mk ?_ | with_reducible first | refine condP_t ?_ | refine condP_f ?_ | refine ifP_tt' ?_ | refine ifP_ff' ?_ | refine ifP_tf' ?_ | refine ifP_ft' ?_ | refine ifP_u' ?_ | refine optP_mk0 ?_))
        cases hct : ctd g (k : Int) with
        | false =>
          simp only [Bool.false_eq_true, if_false, Option.isSome_none, Bool.not_false]
          (repeat (first | refine bindP_mk (by simp (disch := first | omega | exact Int.natCast_nonneg _ | assumption) only [BB, B2, ↓reduceIte, Nat.reduceLeDiff, Nat.reduceAdd, CC] <;> rfl) ?_ | refine newP_mk ?_ | refine optP_mk ?_ | with_reducible first | refine condP_t ?_ | refine condP_f ?_ | refine ifP_tt' ?_ | refine ifP_ff' ?_ | refine ifP_tf' ?_ | refine ifP_ft' ?_ | refine ifP_u' ?_ | refine optP_mk0 ?_))
          refine hj2 _ _ _ ov (by omega) hss (q4.mono (by omega)) e0 e1 e4 e7 e19 e20 e21 q1 hg16 hg26 ?_
          rw [hls, opsZ_snoc, if_neg (by rw [hct]; decide)]; exact hov6
        | true =>
          simp only [if_true, Option.isSome_some, Bool.not_true]
          (repeat (first | refine bindP_mk (by simp (disch := first | omega | exact Int.natCast_nonneg _ | assumption) only [BB, B2, ↓reduceIte, Nat.reduceLeDiff, Nat.reduceAdd, CC, nilCk_at, hb6, b265, hly6] <;> rfl) ?_ | refine newP_mk ?_ | refine optP_mk ?_ | with_reducible first | refine condP_t ?_ | refine condP_f ?_ | refine ifP_tt' ?_ | refine ifP_ff' ?_ | refine ifP_tf' ?_ | refine ifP_ft' ?_ | refine ifP_u' ?_ | refine optP_mk0 ?_))
          cases hsk : st k with
          | true =>
            rw [hsk] at hly6
            (repeat (first | refine bindP_mk (by simp (disch := first | omega | exact Int.natCast_nonneg _ | assumption) only [BB, B2, ↓reduceIte, Nat.reduceLeDiff, Nat.reduceAdd, CC] <;> rfl) ?_ | refine newP_mk ?_ | refine optP_mk ?_ | with_reducible first | refine condP_t ?_ | refine condP_f ?_ | refine ifP_tt' ?_ | refine ifP_ff' ?_ | refine ifP_tf' ?_ | refine ifP_ft' ?_ | refine ifP_u' ?_ | refine optP_mk0 ?_))
            exact fin3 _ _ h6 w (by omega) (by rw [hek]; rfl) e0 e1 e4 e7 rfl e19 e20 e21 q1 rfl hss (q4.mono (by omega)) hg16 hg26 hov6 (by rw [hsk]; rfl) hct hls
          | false =>
            rw [hsk] at hly6
            (repeat (first | refine bindP_mk (by simp (disch := first | omega | exact Int.natCast_nonneg _ | assumption) only [BB, B2, ↓reduceIte, Nat.reduceLeDiff, Nat.reduceAdd, CC] <;> rfl) ?_ | refine newP_mk ?_ | refine optP_mk ?_ | with_reducible first | refine condP_t ?_ | refine condP_f ?_ | refine ifP_tt' ?_ | refine ifP_ff' ?_ | refine ifP_tf' ?_ | refine ifP_ft' ?_ | refine ifP_u' ?_ | refine optP_mk0 ?_))
            exact fin3 _ _ h6 w (by omega) (by rw [hek]; rfl) e0 e1 e4 e7 rfl e19 e20 e21 q1 rfl hss (q4.mono (by omega)) hg16 hg26 hov6 (by rw [hsk]; rfl) hct hls
      | false =>
        rw [hek] at htk hle3
        rw [Bool.false_or] at htk
        cases hsk : st k with
        | false =>
          rw [hsk] at htk hly3
          rw [htk, if_neg (by decide)] at hls
          (repeat (first | refine bindP_mk (by simp (disch := first | omega | exact Int.natCast_nonneg _ | assumption) only [BB, B2, ↓reduceIte, Nat.reduceLeDiff, Nat.reduceAdd, CC, nilCk_at, hb3, b264, b265, hle3, hly3] <;> rfl) ?_ | refine newP_mk ?_ | refine optP_mk ?_ | with_reducible first | refine condP_t ?_ | refine condP_f ?_ | refine ifP_tt' ?_ | refine ifP_ff' ?_ | refine ifP_tf' ?_ | refine ifP_ft' ?_ | refine ifP_u' ?_ | refine optP_mk0 ?_))
          refine hj2 _ _ _ ov (by omega) hs03 (hf3.mono (by omega)) e0 e1 e4 e7 e19 e20 e21 ?_ g13 g23 ?_
          · rw [hls]; exact ho3
          · rw [hls]; exact hov3
        | true =>
          rw [hsk] at htk hly3
          rw [htk, if_pos rfl] at hls
          (repeat (first | refine bindP_mk (by simp (disch := first | omega | exact Int.natCast_nonneg _ | assumption) only [BB, B2, ↓reduceIte, Nat.reduceLeDiff, Nat.reduceAdd, CC, nilCk_at, hb3, b264, b265, hle3, hly3] <;> rfl) ?_ | refine newP_mk ?_ | refine optP_mk ?_ | with_reducible first | refine condP_t ?_ | refine condP_f ?_ | refine ifP_tt' ?_ | refine ifP_ff' ?_ | refine ifP_tf' ?_ | refine ifP_ft' ?_ | refine ifP_u' ?_ | refine optP_mk0 ?_))
          refine app_int ho3 (by omega) (hf3.mono (show nx' + 4 + 1 ≤ n4 by omega)) (by omega) (by omega) (by omega) fun h6 w q1 q2 q3 q4 => ?_
          dsimp only
          rw [← hls] at q1
          have hkp : ∀ i o, h3.get i = some o → (∀ c f, o ≠ .cells c y_int f) → h6.get i = some o := fun i o hi hty => q3 i o hi fun e => by
            obtain ⟨_, z1⟩ := ho3.blk e
            rw [hi] at z1
            exact hty _ _ (Option.some.inj z1)
          have hb6 := hkp _ _ hb3 (by intro c f e; simp only [Obj.cells.injEq] at e; exact absurd e.2.1 (by decide))
          have hg16 := hkp _ _ g13 (by intro c f e; simp only [Obj.cells.injEq] at e; exact absurd e.2.1 (by decide))
          have hg26 := hkp _ _ g23 (by intro c f e; simp only [Obj.cells.injEq] at e; exact absurd e.2.1 (by decide))
          have hov6 : OwnT h6 ov 1 y_uint8 (opsC (opsZ g en st L)) nx := hov3.keep q3 fun id hid => by
            obtain ⟨_, z1⟩ := hov3.blk hid
            exact ho3.ne z1 (by decide)
          have hss : Sub h h6 := ho3.sub q3 hf (Nat.le_refl _) hs03
          have hB6 := hB.sub hss
          obtain ⟨fn6, m61, m62⟩ := hB6.num
          have hlk6 := look_ii m61 (k : Int)
          rw [m62 _ (by omega)] at hlk6
          have hly6 : lookV Try.prog h6 y_map_int_bool (.map (some yid)) (.int .i64 (k : Int)) false = some (.bool (st k)) := BMap.look (by obtain ⟨f, q1, q2⟩ := hst; exact ⟨f, q1.sub hss, q2⟩) _
          rw [hsk] at hly6
          (repeat (first | refine bindP_mk (by simp (disch := first | omega | exact Int.natCast_nonneg _ | assumption) only [BB, B2, ↓reduceIte, Nat.reduceLeDiff, Nat.reduceAdd, CC, nilCk_at, hb6, b2, hlk6, nth0, nth1] <;> rfl) ?_ | refine newP_mk ?_ | refine optP_mk ?_ | with_reducible first | refine condP_t ?_ | refine condP_f ?_ | refine ifP_tt' ?_ | refine ifP_ff' ?_ | refine ifP_tf' ?_ | refine ifP_ft' ?_ | refine ifP_u' ?_ | refine optP_mk0 ?_))
          cases hct : ctd g (k : Int) with
          | false =>
            simp only [Bool.false_eq_true, if_false, Option.isSome_none, Bool.not_false]
            (repeat (first | refine bindP_mk (by simp (disch := first | omega | exact Int.natCast_nonneg _ | assumption) only [BB, B2, ↓reduceIte, Nat.reduceLeDiff, Nat.reduceAdd, CC] <;> rfl) ?_ | refine newP_mk ?_ | refine optP_mk ?_ | with_reducible first | refine condP_t ?_ | refine condP_f ?_ | refine ifP_tt' ?_ | refine ifP_ff' ?_ | refine ifP_tf' ?_ | refine ifP_ft' ?_ | refine ifP_u' ?_ | refine optP_mk0 ?_))
            refine hj2 _ _ _ ov (by omega) hss (q4.mono (by omega)) e0 e1 e4 e7 e19 e20 e21 q1 hg16 hg26 ?_
            rw [hls, opsZ_snoc, if_neg (by rw [hct]; decide)]; exact hov6
          | true =>
            simp only [if_true, Option.isSome_some, Bool.not_true]
            (repeat (first | refine bindP_mk (by simp (disch := first | omega | exact Int.natCast_nonneg _ | assumption) only [BB, B2, ↓reduceIte, Nat.reduceLeDiff, Nat.reduceAdd, CC, nilCk_at, hb6, b265, hly6] <;> rfl) ?_ | refine newP_mk ?_ | refine optP_mk ?_ | with_reducible first | refine condP_t ?_ | refine condP_f ?_ | refine ifP_tt' ?_ | refine ifP_ff' ?_ | refine ifP_tf' ?_ | refine ifP_ft' ?_ | refine ifP_u' ?_ | refine optP_mk0 ?_))
            exact fin3 _ _ h6 w (by omega) (by rw [hek, hsk]; rfl) e0 e1 e4 e7 rfl e19 e20 e21 q1 rfl hss (q4.mono (by omega)) hg16 hg26 hov6 (by rw [hsk]; rfl) hct hls
  · (repeat (first | refine bindP_mk (by simp (disch := first | omega | exact Int.natCast_nonneg _ | assumption) only [BB, B2, ↓reduceIte, Nat.reduceLeDiff, Nat.reduceAdd, CC] <;> rfl) ?_ | refine newP_mk ?_ | refine optP_mk ?_ | with_reducible first | refine condP_t ?_ | refine condP_f ?_ | refine ifP_tt' ?_ | refine ifP_ff' ?_ | refine ifP_tf' ?_ | refine ifP_ft' ?_ | refine ifP_u' ?_ | refine optP_mk0 ?_))
    refine hx _ _ _ _ (fun e => by cases e) (exP_e (beqP_t ?_))
    have hkl : k = g.p.length := by omega
    subst hkl
    have hlz : (placesZ g.p.length).filter (takesZ g en st b) = lZ g en st b := rfl
    rw [hlz] at ho hov
    have hlr := lZ_rz g en st b
    have hll := lZ_len g en st b
    have fin : ∀ (e' : Env) n', e' 0 = ptr bid → e' 4 = ptr nx → e' 7 = ptr (nx + 4) → OwnT h' (e' 6) 1 y_int (intsZ (lZ g en st b)) nx → nx' ≤ n' → auto_builder_goes_j1 ro K e' h' n' := by
      intro e' n' f0 f4 f7 ho hn'
      unfold auto_builder_goes_j1
      rw [f0, f4, f7]
      generalize e' 6 = lv at ho
      have hln := (ho.sl (ro := ro)).len
      rw [intsZ_len] at hln
      refine bindP_mk hln ?_
      refine eql_s (fun u1 => ?_) (fun u1 => ?_)
      · have hnil : lZ g en st b = [] := eq_len u1
        rw [goesZ_nil hnil] at hK
        rw [hnil] at hov
        have hovk := hov.ok
        refine condP_t (bindP_mk (loadA_all (l := [.int .i64 (-1), ov]) g2 rfl) ?_)
        refine bindP_mk (storeA_own (l := [.int .i64 0, nilS]) (vs := [.int .i64 (-1), ov]) g1 rfl rfl rfl (by simp only [List.all_cons, List.all_nil, hovk]; rfl)) ?_
        refine bindP_mk (loadA_all (l := [.int .i64 (-1), ov]) (by rw [T.get_upd_same]) rfl) ?_
        refine ⟨_, Sub.refl _, ?_⟩
        have hss : Sub h (h'.upd nx (some (.cells [Value.int .i64 (-1), ov].toArray y_api_Move))) := hs'.new hf (Nat.le_refl _)
        exact hK _ _ sid cs ov (by omega) ((hf'.mono (show nx' ≤ n' + 6 by omega)).upd (Nat.le_refl _) (by omega)) hss.keepL (.inl rfl) (hB.sub hss) Grow.refl (hov.updNe g1 (by decide))
      · have hnn : lZ g en st b ≠ [] := fun e => u1 (by rw [e]; rfl)
        rw [goesZ_ne hnn] at hK
        refine condP_f ?_
        refine auto_find_c hg hlr (by omega) hnn (hf'.mono (show nx' ≤ n' + 7 by omega)) hB' ho (show nx ≤ n' + 7 by omega) l1 fun h3 n3 sid' cs' r1 r2 r3 r4 r5 r6 => ?_
        have k1 := r3 _ _ g1 (by simp; omega)
        have k2 := r3 _ _ g2 (by simp; omega)
        have hovk := hov.ok
        have hov3 : OwnT h3 ov 1 y_uint8 (opsC (opsZ g en st (lZ g en st b))) nx := hov.keepK r3 fun id hid => by
          have := (hov.blk hid).1
          simp; omega
        (repeat (first | refine bindP_mk (by simp (disch := first | omega | exact Int.natCast_nonneg _ | assumption) only [BB, B2, ↓reduceIte, Nat.reduceLeDiff, Nat.reduceAdd, CC, nth0, nth1] <;> rfl) ?_ | refine newP_mk ?_ | refine optP_mk ?_ | with_reducible first | refine condP_t ?_ | refine condP_f ?_ | refine ifP_tt' ?_ | refine ifP_ff' ?_ | refine ifP_tf' ?_ | refine ifP_ft' ?_ | refine ifP_u' ?_ | refine optP_mk0 ?_))
        refine bindP_mk (store1_own (l := [.int .i64 (-1), ov]) k2 (by show 0 < 2; omega) rfl rfl) ?_
        refine bindP_mk (loadA_all (l := [.int .i64 (findZ g S (lZ g en st b)).1, ov]) (by rw [T.get_upd_same]; rfl) rfl) ?_
        refine bindP_mk (storeA_own (l := [.int .i64 0, nilS]) (vs := [.int .i64 (findZ g S (lZ g en st b)).1, ov]) (by rw [T.get_upd_ne _ _ (by omega)]; exact k1) rfl rfl rfl (by simp only [List.all_cons, List.all_nil, hovk]; rfl)) ?_
        refine bindP_mk (loadA_all (l := [.int .i64 (findZ g S (lZ g en st b)).1, ov]) (by rw [T.get_upd_same]) rfl) ?_
        refine ⟨_, Sub.refl _, ?_⟩
        have k1' : (h3.upd (nx + 4) (some (.cells (([Value.int .i64 (-1), ov].set 0 (.int .i64 (findZ g S (lZ g en st b)).1)).toArray) y_api_Move))).get nx = _ := (T.get_upd_ne _ _ (by omega)).trans k1
        refine hK _ _ sid' cs' ov (by omega) (((r2.mono (show n3 ≤ n3 + 10 by omega)).upd (Nat.le_refl _) (by omega)).upd (Nat.le_refl _) (by omega)) ?_ (by omega) ?_ ?_ ?_
        · refine Keep.updN (Keep.updN ?_ hf (by omega)) hf (Nat.le_refl _)
          exact fun i o hi hn => r3 i o (hs' _ _ hi) hn
        · refine r5.keepN fun i o hi hd => ?_
          obtain ⟨z1, z2, z3, z4⟩ := r5.lt r2
          have : i ≠ nx ∧ i ≠ nx + 4 := by
            have hii := r5.ids
            rcases hd with rfl | rfl | rfl | rfl
            · omega
            · omega
            · omega
            · refine ⟨?_, ?_⟩ <;> intro e <;> subst e
              · rw [k1] at hi
                have := r5.row
                rw [k1] at this
                simp only [Option.some.injEq, Obj.cells.injEq] at this
                exact absurd this.2.1 (by decide)
              · have := r5.row
                rw [k2] at this
                simp only [Option.some.injEq, Obj.cells.injEq] at this
                exact absurd this.2.1 (by decide)
          rw [T.get_upd_ne _ _ this.1, T.get_upd_ne _ _ this.2]; exact hi
        · exact (r6.updNe k2 (by decide)).updNe k1' (by decide)
        · exact (hov3.updNe k2 (by decide)).updNe k1' (by decide)
    exact fin _ _ e0 e4 e7 ho (by omega)
end V
end Go.Proofs.Ytmmdcdjkmakgpaa
set_option linter.unusedVariables false
set_option linter.unusedSimpArgs false
namespace Go.Proofs.Ytmmdcdjkmakgpaa
namespace V
open PA
attribute [local irreducible] bindP ifP condP newP optP exP beqP
theorem flat4_get : ∀ {cs : List (List Value)} {k j : Nat} {x : List Value}, (∀ x ∈ cs, x.length = 4) → cs[k]? = some x → j < 4 → cs.flatten[k * 4 + j]? = x[j]?
  | [], k, j, x, _, hx, _ => by simp at hx
  | y :: r, 0, j, x, hz, hx, hj => by
    simp at hx; subst hx
    have hy := hz y (by simp)
    rw [Nat.zero_mul, Nat.zero_add, List.flatten_cons, List.getElem?_append_left (by omega)]
  | y :: r, k + 1, j, x, hz, hx, hj => by
    have hy := hz y (by simp)
    have ih := flat4_get (cs := r) (k := k) (j := j) (x := x) (fun z hz' => hz z (by simp [hz'])) (by simpa using hx) hj
    rw [List.flatten_cons, List.getElem?_append_right (by omega), show (k + 1) * 4 + j - y.length = k * 4 + j by omega]
    exact ih
theorem flat4_set : ∀ {cs : List (List Value)} {k j : Nat} {x : List Value} (w : Value), (∀ x ∈ cs, x.length = 4) → cs[k]? = some x → j < 4 → cs.flatten.set (k * 4 + j) w = (cs.set k (x.set j w)).flatten
  | [], k, j, x, w, _, hx, _ => by simp at hx
  | y :: r, 0, j, x, w, hz, hx, hj => by
    simp at hx; subst hx
    have hy := hz y (by simp)
    rw [Nat.zero_mul, Nat.zero_add, List.flatten_cons, List.set_append_left _ _ (by omega)]; rfl
  | y :: r, k + 1, j, x, w, hz, hx, hj => by
    have hy := hz y (by simp)
    have ih := flat4_set (cs := r) (k := k) (j := j) (x := x) w (fun z hz' => hz z (by simp [hz'])) (by simpa using hx) hj
    rw [List.flatten_cons, List.set_append_right _ _ (by omega), show (k + 1) * 4 + j - y.length = k * 4 + j by omega, ih]; rfl
theorem flat4_len {cs : List (List Value)} (hz : ∀ x ∈ cs, x.length = 4) : cs.flatten.length = cs.length * 4 := (flatten_part hz).1
theorem set_z4 {cs : List (List Value)} {k : Nat} {y : List Value} (hz : ∀ x ∈ cs, x.length = 4) (hy : y.length = 4) : ∀ x ∈ cs.set k y, x.length = 4 := fun x hx => by
  rcases List.mem_or_eq_of_mem_set hx with h | h
  · exact hz x h
  · rw [h]; exact hy
theorem lit_row (aid : Nat) (a : Value) (ha : a.cells = #[a]) : sliceLitV Try.prog y_s_s_api_Move aid 1 [(0, a)] = some (.slice (some (own aid 1)) 1 1, some (.cells [a].toArray y_s_api_Move)) := by
  have hu : und Try.prog y_s_s_api_Move = some (.slice y_s_api_Move) := by kernel_rfl
  have hs : siz Try.prog y_s_api_Move = some 1 := by kernel_rfl
  have hz : zrow Try.prog y_s_api_Move 1 = some [nilS] := by kernel_rfl
  unfold sliceLitV
  simp only [hu, hs, hz, Option.bind_some]
  have hb : Nat.ble (1 * 1) 16777216 = true := by decide
  simp only [hb, fillV, ha]
  rfl
theorem und_rows : und Try.prog y_s_s_api_Move = some (.slice y_s_api_Move) := by kernel_rfl
theorem tin_row1 : ∃ i, tin Try.prog y_s_api_Move = some i ∧ i.size = 1 ∧ i.bytes = 24 := tinOf (by kernel_rfl)
theorem zer_row1 : zer Try.prog y_s_api_Move = some nilS := by kernel_rfl
def onesC (l : List Value) : List (List Value) := l.map fun v => [v]
theorem onesC_len (l : List Value) : (onesC l).length = l.length := by simp [onesC]
theorem app_row {ro : Ro} {h : T Obj} {v a : Value} {nx n1 n2 lo : Nat} {l : List Value} {K : Value × Option Obj → T Obj → Value × T Obj × Nat → Prop} (ha : cellOk a = true) (ho : OwnT h v 1 y_s_api_Move (onesC l) lo) (hl : l.length ≤ 1000000) (hf : Fr h nx) (hlo : lo ≤ nx) (hn1 : nx ≤ n1) (hn2 : n1 < n2)
    (hK : ∀ h' w, OwnT h' w 1 y_s_api_Move (onesC (l ++ [a])) lo → w = .slice (some (own n2 1)) (l.length + 1) (l.length + 1) → Kp v h h' → Fr h' (n2 + 1) → K (.slice (some (own n1 1)) 1 1, some (.cells [a].toArray y_s_api_Move)) (h.upd n1 (some (.cells [a].toArray y_s_api_Move))) (w, h', n2 + 1)) :
    bindP (sliceLitV Try.prog y_s_s_api_Move n1 1 [(0, a)]) fun r => optP h n1 r.2 fun h' => bindP (appendV Try.prog ro h' n2 #[y_s_s_api_Move, y_s_s_api_Move] [v, r.1]) (K r h') := by
  obtain ⟨i, g1, g2, g3⟩ := tin_row1
  have e : onesC l ++ [[a]] = onesC (l ++ [a]) := by simp [onesC]
  have el := onesC_len l
  refine append_lit (z := 1) (l := onesC l) (y := [a]) (lit_row _ _ (cells_of_ok ha)) rfl ho und_rows g1 g2 (by omega) zer_row1 rfl (by simp [ha]) (by rw [el, g3]; unfold big; omega) (by rw [el]; unfold big; omega) hf hlo hn1 hn2 fun h' q1 q2 q3 => ?_
  rw [e] at q1 ⊢
  refine hK h' _ q1 ?_ q2 q3
  rw [onesC_len, List.length_append]; rfl
theorem OwnT.lo {h : T Obj} {v : Value} {z lo lo' id len : Nat} {e : TypeId} {l : List (List Value)} (ho : OwnT h v z e l lo) (hv : v = .slice (some (own id z)) len len) (hid : lo' ≤ id) : OwnT h v z e l lo' := by
  rcases ho with ⟨rfl, _⟩ | ⟨i, h1, rfl, h4, h5⟩
  · cases hv
  · refine .inr ⟨i, ?_, rfl, h4, h5⟩
    have : i = id := by
      simp only [Value.slice.injEq, Option.some.injEq, own, Addr.mk.injEq] at hv
      exact hv.1.1
    omega
theorem OwnT.neB {h : T Obj} {v : Value} {z : Nat} {e : TypeId} {l : List (List Value)} {lo k : Nat} {o : Obj} (ho : OwnT h v z e l lo) (hk : h.get k = some o) (he : ∀ c f, o ≠ .cells c e f) : sblk v ≠ some k := fun hb => by
  obtain ⟨_, h5⟩ := ho.blk hb
  rw [hk] at h5
  exact he _ _ (Option.some.inj h5)
theorem elPtr_own (id len cap k : Nat) : elPtr 4 (.slice (some (own id 4)) len cap) k = at_ id (k * 4) 0 := by simp [elPtr, elt, own]
theorem ixSl_own' {id z len cap k : Nat} (hk : k < len) : ixSl z (.slice (some (own id z)) len cap) (.int .i64 (k : Int)) = some (at_ id (k * z) 0) := by
  have hn : natV (.int .i64 (k : Int)) = some k := by simp [natV]
  have hb : Nat.blt k len = true := by simp [Nat.blt]; omega
  unfold ixSl
  rw [hn]
  simp only [Option.bind_some, hb, own, Nat.beq_refl]
  simp [elt]
set_option maxRecDepth 8000 in
set_option maxHeartbeats 2000000 in
theorem code_j3_c {ro : Ro} {g : GlD} {bid nid kid eid yid sid k : Nat} {av bv fv cv lv rv uv wv rowv : Value} {c : List Nat} {n rule : Int} {S : List StateD} {cs : List (List Value)} {R : List Int} {ws : List Value} {e : Env}
    {h : T Obj} {nx : Nat} {K : KV} (hf : Fr h nx) (hB : Bd h g bid nid kid eid yid sid av bv fv c n cv S cs) (hx : cs[k]? = some [lv, rv, uv, wv]) (hu : OwnT h uv 1 y_int (intsZ R) 0) (hw : OwnT h wv 1 y_s_api_Move (onesC ws) 0) (hR : R.length ≤ 1000000) (hws : ws.length ≤ 1000000) (hrow : cellOk rowv = true)
    (e0 : e 0 = ptr bid) (e1 : e 1 = .int .i64 (k : Int)) (e9 : e 9 = .int .i64 rule) (e19 : e 19 = rowv)
    (hK : ∀ h' nx' uv' wv', nx ≤ nx' → Fr h' nx' → Keep (sid :: ((sblk uv).toList ++ (sblk wv).toList)) h h' → Bd h' g bid nid kid eid yid sid av bv fv c n cv S (cs.set k [lv, rv, uv', wv']) → OwnT h' uv' 1 y_int (intsZ (R ++ [rule])) nx → OwnT h' wv' 1 y_s_api_Move (onesC (ws ++ [rowv])) nx → K (.int .i64 0) h' nx') :
    auto_builder_code_j3 ro K e h nx := by
  unfold auto_builder_code_j3
  rw [e0, e1, e9, e19]
  have hb := hB.blk
  have b262 := bldL_262 (av := av) (bv := bv) (nv := .map (some nid)) (fv := fv) (n := n) (cv := cv) (sv := .slice (some (own sid 4)) cs.length cs.length) (kv := .map (some kid)) (ev := .map (some eid)) (yv := .map (some yid)) hB.hc
  have hkl : k < cs.length := (List.getElem?_eq_some_iff.1 hx).1
  have hix := ixSl_own' (id := sid) (z := 4) (cap := cs.length) hkl
  have hrg := hB.row
  have q2 := flat4_get (j := 2) hB.z4 hx (by omega)
  have q3 := flat4_get (j := 3) hB.z4 hx (by omega)
  have q2 : cs.flatten[k * 4 + 2]? = some uv := q2
  have q3 : cs.flatten[k * 4 + 3]? = some wv := q3
  obtain ⟨i1, i2, i3, i4, i5⟩ := hB.ids
  obtain ⟨l1, l2, l3, l4⟩ := hB.lt hf
  obtain ⟨f1, m1, m2⟩ := hB.num
  obtain ⟨es1, c1, ps1, m3, m4, m5⟩ := m1
  obtain ⟨f2, k1, k2⟩ := hB.known
  obtain ⟨es2, c2, ps2, k3, k4, k5⟩ := k1
  have hfl := flat4_len hB.z4
  (repeat (first | refine bindP_mk (by simp (disch := first | omega | exact Int.natCast_nonneg _ | assumption) only [BB, B2, ↓reduceIte, Nat.reduceLeDiff, Nat.reduceAdd, CC, nilCk_at, hb, b262, hix, hrg, q2] <;> rfl) ?_ | refine newP_mk ?_ | refine optP_mk ?_ | with_reducible first | refine condP_t ?_ | refine condP_f ?_ | refine ifP_tt' ?_ | refine ifP_ff' ?_ | refine ifP_tf' ?_ | refine ifP_ft' ?_ | refine ifP_u' ?_ | refine optP_mk0 ?_))
  refine app_int hu hR hf (Nat.zero_le _) (by omega) (by omega) fun h1 w1 r1 r2 r3 r4 => ?_
  dsimp only
  have ub := hu.neB hb (by intro c f e; simp only [Obj.cells.injEq] at e; exact absurd e.2.1 (by decide))
  have ur := hu.neB hrg (by intro c f e; simp only [Obj.cells.injEq] at e; exact absurd e.2.1 (by decide))
  have un := hu.neB m3 (by intro c f e; cases e)
  have uk := hu.neB k3 (by intro c f e; cases e)
  have wb := hw.neB hb (by intro c f e; simp only [Obj.cells.injEq] at e; exact absurd e.2.1 (by decide))
  have wr := hw.neB hrg (by intro c f e; simp only [Obj.cells.injEq] at e; exact absurd e.2.1 (by decide))
  have wn := hw.neB m3 (by intro c f e; cases e)
  have wk := hw.neB k3 (by intro c f e; cases e)
  have hb1 := r3 _ _ hb ub
  have hr1 := r3 _ _ hrg ur
  have hn1 := r3 _ _ m3 un
  have hk1 := r3 _ _ k3 uk
  have hw1 : OwnT h1 wv 1 y_s_api_Move (onesC ws) 0 := hw.keep r3 fun id hid => by
    obtain ⟨_, z1⟩ := hw.blk hid
    exact hu.neB z1 (by intro c f e; simp only [Obj.cells.injEq] at e; exact absurd e.2.1 (by decide))
  have r1 := r1.lo (lo' := nx) r2 (by omega)
  refine ⟨sameV_own (o := .cells (bldL av bv (.map (some nid)) fv c n cv (.slice (some (own sid 4)) cs.length cs.length) (.map (some kid)) (.map (some eid)) (.map (some yid))).toArray y_auto_builder) (by rw [T.get_upd_ne _ _ (by omega)]; exact hb) hb1, ?_⟩
  have hw1ok : cellOk w1 = true := r1.ok
  (repeat (first | refine bindP_mk (by simp (disch := first | omega | exact Int.natCast_nonneg _ | assumption) only [BB, B2, ↓reduceIte, Nat.reduceLeDiff, Nat.reduceAdd, CC, hix] <;> rfl) ?_ | refine newP_mk ?_ | refine optP_mk ?_ | with_reducible first | refine condP_t ?_ | refine condP_f ?_ | refine ifP_tt' ?_ | refine ifP_ff' ?_ | refine ifP_tf' ?_ | refine ifP_ft' ?_ | refine ifP_u' ?_ | refine optP_mk0 ?_))
  refine bindP_mk (store1_own (l := cs.flatten) hr1 (by omega) hw1ok (cells_of_ok hw1ok)) ?_
  rw [flat4_set w1 hB.z4 hx (by omega)]
  have hcs1 : cs.set k ([lv, rv, uv, wv].set 2 w1) = cs.set k [lv, rv, w1, wv] := rfl
  rw [hcs1]
  have hz1 : ∀ x ∈ cs.set k [lv, rv, w1, wv], x.length = 4 := set_z4 hB.z4 rfl
  have hx1 : (cs.set k [lv, rv, w1, wv])[k]? = some [lv, rv, w1, wv] := by rw [List.getElem?_set_self hkl]
  have q31 := flat4_get (j := 3) hz1 hx1 (by omega)
  have q31 : (cs.set k [lv, rv, w1, wv]).flatten[k * 4 + 3]? = some wv := q31
  have hsub : ∀ i o, h1.get i = some o → i ≠ sid → (h1.upd sid (some (.cells (cs.set k [lv, rv, w1, wv]).flatten.toArray y_api_State))).get i = some o := fun i o hi hne => by rw [T.get_upd_ne _ _ hne]; exact hi
  have hb2 := hsub _ _ hb1 i1
  have hn2 := hsub _ _ hn1 i5.symm
  have hk2 := hsub _ _ hk1 i4.symm
  have hr2 : (h1.upd sid (some (.cells (cs.set k [lv, rv, w1, wv]).flatten.toArray y_api_State))).get sid = some (.cells (cs.set k [lv, rv, w1, wv]).flatten.toArray y_api_State) := T.get_upd_same _ _ _
  have hw2 : OwnT (h1.upd sid (some (.cells (cs.set k [lv, rv, w1, wv]).flatten.toArray y_api_State))) wv 1 y_s_api_Move (onesC ws) 0 := hw1.updNe hr1 (by decide)
  have hu2 : OwnT (h1.upd sid (some (.cells (cs.set k [lv, rv, w1, wv]).flatten.toArray y_api_State))) w1 1 y_int (intsZ (R ++ [rule])) nx := r1.updNe hr1 (by decide)
  have hkp2 : Keep (sid :: ((sblk uv).toList ++ (sblk wv).toList)) h (h1.upd sid (some (.cells (cs.set k [lv, rv, w1, wv]).flatten.toArray y_api_State))) := (r3.keepL fun id hid => by simp [hid]).upd (by simp)
  have hf2 : Fr (h1.upd sid (some (.cells (cs.set k [lv, rv, w1, wv]).flatten.toArray y_api_State))) (nx + 21 + 1) := r4.upd (Nat.le_refl _) (by omega)
  generalize h1.upd sid (some (.cells (cs.set k [lv, rv, w1, wv]).flatten.toArray y_api_State)) = h2 at hsub hb2 hn2 hk2 hr2 hw2 hu2 hkp2 hf2
  (repeat (first | refine bindP_mk (by simp (disch := first | omega | exact Int.natCast_nonneg _ | assumption) only [BB, B2, ↓reduceIte, Nat.reduceLeDiff, Nat.reduceAdd, CC, nilCk_at, hb2, b262, hix, hr2, q31] <;> rfl) ?_ | refine newP_mk ?_ | refine optP_mk ?_ | with_reducible first | refine condP_t ?_ | refine condP_f ?_ | refine ifP_tt' ?_ | refine ifP_ff' ?_ | refine ifP_tf' ?_ | refine ifP_ft' ?_ | refine ifP_u' ?_ | refine optP_mk0 ?_))
  refine app_row hrow hw2 hws hf2 (Nat.zero_le _) (by omega) (by omega) fun h3 w3 s1 s2 s3 s4 => ?_
  dsimp only
  have hwb2 : ∀ i o, h2.get i = some o → (∀ c f, o ≠ .cells c y_s_api_Move f) → h3.get i = some o := fun i o hi hty => s3 i o hi (hw2.neB hi hty)
  have hb3 := hwb2 _ _ hb2 (by intro c f e; simp only [Obj.cells.injEq] at e; exact absurd e.2.1 (by decide))
  have hr3 := hwb2 _ _ hr2 (by intro c f e; simp only [Obj.cells.injEq] at e; exact absurd e.2.1 (by decide))
  have hn3 := hwb2 _ _ hn2 (by intro c f e; cases e)
  have hk3 := hwb2 _ _ hk2 (by intro c f e; cases e)
  have hu3 : OwnT h3 w1 1 y_int (intsZ (R ++ [rule])) nx := hu2.keep s3 fun id hid => by
    obtain ⟨_, z1⟩ := hu2.blk hid
    exact hw2.neB z1 (by intro c f e; simp only [Obj.cells.injEq] at e; exact absurd e.2.1 (by decide))
  have s1 := s1.lo (lo' := nx) s2 (by omega)
  refine ⟨sameV_own (o := .cells (bldL av bv (.map (some nid)) fv c n cv (.slice (some (own sid 4)) cs.length cs.length) (.map (some kid)) (.map (some eid)) (.map (some yid))).toArray y_auto_builder) (by rw [T.get_upd_ne _ _ (by omega)]; exact hb2) hb3, ?_⟩
  have hw3ok : cellOk w3 = true := s1.ok
  (repeat (first | refine bindP_mk (by simp (disch := first | omega | exact Int.natCast_nonneg _ | assumption) only [BB, B2, ↓reduceIte, Nat.reduceLeDiff, Nat.reduceAdd, CC, hix] <;> rfl) ?_ | refine newP_mk ?_ | refine optP_mk ?_ | with_reducible first | refine condP_t ?_ | refine condP_f ?_ | refine ifP_tt' ?_ | refine ifP_ff' ?_ | refine ifP_tf' ?_ | refine ifP_ft' ?_ | refine ifP_u' ?_ | refine optP_mk0 ?_))
  have hl1 : (cs.set k [lv, rv, w1, wv]).flatten.length = cs.length * 4 := by rw [flat4_len hz1, List.length_set]
  refine bindP_mk (store1_own (l := (cs.set k [lv, rv, w1, wv]).flatten) hr3 (by omega) hw3ok (cells_of_ok hw3ok)) ?_
  rw [flat4_set w3 hz1 hx1 (by omega)]
  have hcs2 : (cs.set k [lv, rv, w1, wv]).set k ([lv, rv, w1, wv].set 3 w3) = cs.set k [lv, rv, w1, w3] := by rw [List.set_set]; rfl
  rw [hcs2]
  refine ⟨_, Sub.refl _, hK _ _ w1 w3 (by omega) ((s4.mono (show _ ≤ nx + 21 + 1 + 21 + 1 + 1 by omega)).upd (Nat.le_refl _) (by omega)) ?_ ⟨hB.hc, ?_, ⟨f1, ⟨es1, c1, ps1, ?_, m4, m5⟩, m2⟩, ⟨f2, ⟨es2, c2, ps2, ?_, k4, k5⟩, k2⟩, ?_, set_z4 hB.z4 rfl, ?_, hB.few, hB.pos, hB.nk⟩ ?_ ?_⟩
  · refine Keep.upd (hkp2.trans ?_) (by simp)
    exact s3.keepL fun id hid => by simp [hid]
  · rw [T.get_upd_ne _ _ i1, List.length_set]; exact hb3
  · rw [T.get_upd_ne _ _ i5.symm]; exact hn3
  · rw [T.get_upd_ne _ _ i4.symm]; exact hk3
  · rw [T.get_upd_same]
  · rw [List.length_set]; exact hB.len
  · exact hu3.updNe hr3 (by decide)
  · exact s1.updNe hr3 (by decide)
end V
end Go.Proofs.Ytmmdcdjkmakgpaa
set_option linter.unusedVariables false
set_option linter.unusedSimpArgs false
namespace Go.Proofs.Ytmmdcdjkmakgpaa
namespace V
open PA
attribute [local irreducible] bindP ifP condP newP optP exP beqP
def TyKeep (e : TypeId) (h h' : T Obj) : Prop := ∀ (k : Nat) c f, h.get k = some (.cells c e f) → h'.get k = some (.cells c e f)
theorem TyKeep.refl {e : TypeId} {h : T Obj} : TyKeep e h h := fun _ _ _ hg => hg
theorem TyKeep.trans {e : TypeId} {a b c : T Obj} (h1 : TyKeep e a b) (h2 : TyKeep e b c) : TyKeep e a c := fun k x f hg => h2 k x f (h1 k x f hg)
theorem Sub.ty {e : TypeId} {h h' : T Obj} (hs : Sub h h') : TyKeep e h h' := fun k c f hg => hs _ _ hg
theorem TyKeep.upd {e e' : TypeId} {a h : T Obj} {i : Nat} {o : Option Obj} {c : Array Value} {f : Nat × Nat} (h1 : TyKeep e a h) (hg : h.get i = some (.cells c e' f)) (he : e' ≠ e) : TyKeep e a (h.upd i o) := fun k x q hk => by
  have := h1 k x q hk
  rw [T.get_upd_ne _ _ (by
    rintro rfl
    rw [hg] at this
    simp only [Option.some.injEq, Obj.cells.injEq] at this
    exact he this.2.1)]
  exact this
theorem OwnT.ty {h h' : T Obj} {v : Value} {z : Nat} {e : TypeId} {l : List (List Value)} {lo : Nat} (ho : OwnT h v z e l lo) (hk : TyKeep e h h') : OwnT h' v z e l lo := by
  rcases ho with ho | ⟨id, h1, rfl, h4, h5⟩
  · exact .inl ho
  · exact .inr ⟨id, h1, rfl, h4, hk _ _ _ h5⟩
theorem Kp.ty {h h' : T Obj} {v : Value} {z : Nat} {e e' : TypeId} {l : List (List Value)} {lo : Nat} (hk : Kp v h h') (ho : OwnT h v z e' l lo) (he : e' ≠ e) : TyKeep e h h' := fun k c f hg => hk k _ hg (ho.neB hg (by
  intro c f h
  simp only [Obj.cells.injEq] at h
  exact he h.2.1.symm))
theorem NewSt.ty {h h' : T Obj} {lo : Nat} {x : List Value} {s : StateD} (hn : NewSt h lo x s) (hk : TyKeep y_int h h') : NewSt h' lo x s := by
  obtain ⟨lv, rv, h1, h2, h3, h4⟩ := hn
  exact ⟨lv, rv, h1, h2.ty hk, h3.ty hk, h4⟩
theorem NewSt.mono {h : T Obj} {lo lo' : Nat} {x : List Value} {s : StateD} (hn : NewSt h lo x s) (hl : lo' ≤ lo) : NewSt h lo' x s := by
  obtain ⟨lv, rv, h1, h2, h3, h4⟩ := hn
  exact ⟨lv, rv, h1, h2.mono hl, h3.mono hl, h4⟩
theorem Grow.ty {h h' : T Obj} {lo : Nat} {cs cs' : List (List Value)} {S S' : List StateD} (hn : Grow h lo cs cs' S S') (hk : TyKeep y_int h h') : Grow h' lo cs cs' S S' := by
  obtain ⟨ds, T, h1, h2, h3, h4⟩ := hn
  exact ⟨ds, T, h1, h2, h3, fun i x s hx hs => (h4 i x s hx hs).ty hk⟩
theorem Grow.trans {h : T Obj} {lo lo' : Nat} {cs cs' cs'' : List (List Value)} {S S' S'' : List StateD} (h1 : Grow h lo cs cs' S S') (h2 : Grow h lo' cs' cs'' S' S'') (hl : lo ≤ lo') : Grow h lo cs cs'' S S'' := by
  obtain ⟨ds, T, a1, a2, a3, a4⟩ := h1
  obtain ⟨ds', T', b1, b2, b3, b4⟩ := h2
  refine ⟨ds ++ ds', T ++ T', by rw [b1, a1, List.append_assoc], by rw [b2, a2, List.append_assoc], by simp [a3, b3], fun i x s hx hs => ?_⟩
  rcases Nat.lt_or_ge i ds.length with hi | hi
  · rw [List.getElem?_append_left hi] at hx
    rw [List.getElem?_append_left (by omega)] at hs
    exact a4 i x s hx hs
  · rw [List.getElem?_append_right hi] at hx
    rw [List.getElem?_append_right (by omega), ← a3] at hs
    exact (b4 _ x s hx hs).mono hl
section
variable {h h' a b : T Obj} {g : GlD} {bid nid kid eid yid sid sid' lo : Nat} {av bv fv : Value} {c : List Nat} {n : Int} {cv : Value} {S : List StateD} {cs : List (List Value)}
theorem Bd.tyk (hB : Bd h g bid nid kid eid yid sid av bv fv c n cv S cs) (hk : Keep [bid, kid, sid] h h') {e : TypeId} (he1 : e ≠ y_auto_builder) (he2 : e ≠ y_api_State) : TyKeep e h h' := fun i x f hg => hk _ _ hg (by
  have h1 := hB.blk
  have h2 := hB.row
  obtain ⟨f2, k1, k2⟩ := hB.known
  obtain ⟨es, ec, k3⟩ := k1.obj
  simp only [List.mem_cons, List.not_mem_nil, or_false]
  rintro (rfl | rfl | rfl)
  · rw [hg] at h1
    simp only [Option.some.injEq, Obj.cells.injEq] at h1
    exact he1 h1.2.1
  · rw [hg] at k3; cases k3
  · rw [hg] at h2
    simp only [Option.some.injEq, Obj.cells.injEq] at h2
    exact he2 h2.2.1)
theorem Keep.chain (hf : Fr h lo) (h1 : Keep [bid, kid, sid] h a) (h2 : Keep [bid, kid, sid'] a b) (hs : sid' = sid ∨ lo ≤ sid') : Keep [bid, kid, sid] h b := fun k o hk hn => by
  refine h2 k o (h1 k o hk hn) ?_
  have := hf.lt' hk
  simp only [List.mem_cons, List.not_mem_nil, or_false, not_or] at hn ⊢
  refine ⟨hn.1, hn.2.1, ?_⟩
  rcases hs with rfl | hs
  · exact hn.2.2
  · omega
theorem BMap.keepK {r : Nat} {E : Int → Bool} {ids : List Nat} (hm : BMap h r E) (hk : Keep ids h h') (hn : r ∉ ids) : BMap h' r E := by
  obtain ⟨f, ⟨es, c, ps, h1, h2, h3⟩, h4⟩ := hm
  exact ⟨f, ⟨es, c, ps, hk _ _ h1 hn, h2, h3⟩, h4⟩
end
def RowOwn (h : T Obj) (lo : Nat) (mcs : List (List Value)) (row : List MoveD) : Prop := mcs.length = row.length ∧ ∀ (i : Nat) x m, mcs[i]? = some x → row[i]? = some m → ∃ ov, x = [.int .i64 m.to, ov] ∧ OwnT h ov 1 y_uint8 (opsC m.ops) lo
theorem RowOwn.ty {h h' : T Obj} {lo : Nat} {mcs : List (List Value)} {row : List MoveD} (hr : RowOwn h lo mcs row) (hk : TyKeep y_uint8 h h') : RowOwn h' lo mcs row := ⟨hr.1, fun i x m hx hm => by
  obtain ⟨ov, h1, h2⟩ := hr.2 i x m hx hm
  exact ⟨ov, h1, h2.ty hk⟩⟩
theorem lit_Move (aid : Nat) (a b : Value) : sliceLitV Try.prog y_s_api_Move aid 1 [(0, .agg #[a, b])] = some (.slice (some (own aid 2)) 1 1, some (.cells [a, b].toArray y_api_Move)) := by kernel_rfl
theorem und_sMove : und Try.prog y_s_api_Move = some (.slice y_api_Move) := by kernel_rfl
theorem tin_Move : ∃ i, tin Try.prog y_api_Move = some i ∧ i.size = 2 ∧ i.bytes = 32 := tinOf (by kernel_rfl)
theorem app_Move {ro : Ro} {h : T Obj} {v a b : Value} {nx n1 n2 lo : Nat} {l : List (List Value)} {K : Value × Option Obj → T Obj → Value × T Obj × Nat → Prop} (ha : cellOk a = true) (hb : cellOk b = true) (ho : OwnT h v 2 y_api_Move l lo) (hl : l.length ≤ 1000000) (hf : Fr h nx) (hlo : lo ≤ nx) (hn1 : nx ≤ n1) (hn2 : n1 < n2)
    (hK : ∀ h' w, OwnT h' w 2 y_api_Move (l ++ [[a, b]]) lo → w = .slice (some (own n2 2)) (l ++ [[a, b]]).length (l ++ [[a, b]]).length → Kp v h h' → Fr h' (n2 + 1) → K (.slice (some (own n1 2)) 1 1, some (.cells [a, b].toArray y_api_Move)) (h.upd n1 (some (.cells [a, b].toArray y_api_Move))) (w, h', n2 + 1)) :
    bindP (sliceLitV Try.prog y_s_api_Move n1 1 [(0, .agg #[a, b])]) fun r => optP h n1 r.2 fun h' => bindP (appendV Try.prog ro h' n2 #[y_s_api_Move, y_s_api_Move] [v, r.1]) (K r h') := by
  obtain ⟨i, g1, g2, g3⟩ := tin_Move
  exact append_lit (z := 2) (l := l) (y := [a, b]) (lit_Move _ _ _) rfl ho und_sMove g1 g2 (by omega) zer_Move rfl (by simp [ha, hb]) (by rw [g3]; unfold big; omega) (by unfold big; omega) hf hlo hn1 hn2 fun h' q1 q2 q3 => hK h' _ q1 rfl q2 q3
theorem rowZ_cons (g : GlD) (en st : Int → Bool) (b : Nat) (r : List Nat) (S : List StateD) : rowZ g en st (b :: r) S = if (goesZ g en st b S).2.1 = 0 then ((rowZ g en st r (goesZ g en st b S).2.2).1, (goesZ g en st b S).1 :: (rowZ g en st r (goesZ g en st b S).2.2).2.1, (rowZ g en st r (goesZ g en st b S).2.2).2.2) else ((goesZ g en st b S).2.1, [], S) := rfl
def XL (bid kid eid yid sid : Nat) (uv wv : Value) : List Nat := [bid, kid, eid, yid, sid] ++ ((sblk uv).toList ++ (sblk wv).toList)
set_option maxRecDepth 8000 in
set_option maxHeartbeats 2000000 in
theorem code_j2_c {ro : Ro} {g : GlD} {bid nid kid eid yid sid k : Nat} {av bv fv cv lv rv uv wv : Value} {c : List Nat} {n rule : Int} {S : List StateD} {cs : List (List Value)} {R : List Int} {ws : List Value} {B : List Nat} {en st : Int → Bool} {e : Env} (hg : g.p.length ≤ 512) (hBl : B.length ≤ 256)
    {h : T Obj} {nx : Nat} {K : KV} (hf : Fr h nx) (hB : Bd h g bid nid kid eid yid sid av bv fv c n cv S cs) (hen : BMap h eid en) (hst : BMap h yid st) (hek : eid ≠ kid) (hyk : yid ≠ kid) (hP : SlR ro (del h [bid, kid, sid]) bv 9 (RPos ro (del h [bid, kid, sid])) g.p) (hfv : SlR ro (del h [bid, kid, sid]) fv 1 RU8 B)
    (hx : cs[k]? = some [lv, rv, uv, wv]) (hu : OwnT h uv 1 y_int (intsZ R) 0) (hw : OwnT h wv 1 y_s_api_Move (onesC ws) 0) (hR : R.length ≤ 1000000) (hws : ws.length ≤ 1000000)
    (e0 : e 0 = ptr bid) (e1 : e 1 = .int .i64 (k : Int)) (e9 : e 9 = .int .i64 rule)
    (hKe : (rowZ g en st B S).1 ≠ 0 → ∀ h' nx', nx ≤ nx' → Fr h' nx' → Keep [bid, kid, sid] h h' → K (.int .i64 (rowZ g en st B S).1) h' nx')
    (hK : (rowZ g en st B S).1 = 0 → ∀ h' nx' sid' cs' uv' wv' rowv mcs, nx ≤ nx' → Fr h' nx' → Keep ([bid, kid, sid] ++ ((sblk uv).toList ++ (sblk wv).toList)) h h' → (sid' = sid ∨ nx ≤ sid') → Bd h' g bid nid kid eid yid sid' av bv fv c n cv (rowZ g en st B S).2.2 (cs'.set k [lv, rv, uv', wv']) →
      Grow (del h' (XL bid kid eid yid sid' uv' wv')) nx cs cs' S (rowZ g en st B S).2.2 → OwnT h' uv' 1 y_int (intsZ (R ++ [rule])) nx → OwnT h' wv' 1 y_s_api_Move (onesC (ws ++ [rowv])) nx → OwnT (del h' (XL bid kid eid yid sid' uv' wv')) rowv 2 y_api_Move mcs nx → RowOwn (del h' (XL bid kid eid yid sid' uv' wv')) nx mcs (rowZ g en st B S).2.1 → BMap h' eid en → BMap h' yid st → K (.int .i64 0) h' nx') :
    auto_builder_code_j2 ro K e h nx := by
  unfold auto_builder_code_j2
  rw [e0]
  have hb := hB.blk
  have b3 := bldL_3 (av := av) (bv := bv) (nv := .map (some nid)) (fv := fv) (c := c) (n := n) (cv := cv) (sv := .slice (some (own sid 4)) cs.length cs.length) (kv := .map (some kid)) (ev := .map (some eid)) (yv := .map (some yid))
  have hfl := hfv.len
  generalize hZ : rowZ g en st B S = Z at hKe hK
  have hkl : k < cs.length := (List.getElem?_eq_some_iff.1 hx).1
  obtain ⟨fe1, me1⟩ := hen.obj
  obtain ⟨ce1, me1⟩ := me1
  obtain ⟨fy1, my1⟩ := hst.obj
  obtain ⟨cy1, my1⟩ := my1
  have hel : eid < nx := hf.lt' me1
  have hyl : yid < nx := hf.lt' my1
  have heb : eid ≠ bid := by rintro rfl; rw [hb] at me1; cases me1
  have hyb : yid ≠ bid := by rintro rfl; rw [hb] at my1; cases my1
  have hes : eid ≠ sid := by rintro rfl; have := hB.row; rw [this] at me1; cases me1
  have hys : yid ≠ sid := by rintro rfl; have := hB.row; rw [this] at my1; cases my1
  (repeat (first | refine bindP_mk (by simp (disch := first | omega | exact Int.natCast_nonneg _ | assumption) only [BB, B2, ↓reduceIte, Nat.reduceLeDiff, Nat.reduceAdd, CC, nilCk_at, hb, b3, hfl] <;> rfl) ?_ | refine newP_mk ?_ | refine optP_mk ?_ | with_reducible first | refine condP_t ?_ | refine condP_f ?_ | refine ifP_tt' ?_ | refine ifP_ff' ?_ | refine ifP_tf' ?_ | refine ifP_ft' ?_ | refine ifP_u' ?_ | refine optP_mk0 ?_))
  refine loopP_rule (fun j e h' nx' => ∃ (i sid' : Nat) (cs' : List (List Value)) (S' : List StateD) (mcs : List (List Value)) (row : List MoveD), i + j = B.length ∧ nx ≤ nx' ∧ Fr h' nx' ∧ Keep [bid, kid, sid] h h' ∧ (sid' = sid ∨ nx ≤ sid') ∧ Bd h' g bid nid kid eid yid sid' av bv fv c n cv S' cs' ∧
    Grow h' nx cs cs' S S' ∧ RowOwn h' nx mcs row ∧ OwnT h' (e 19) 2 y_api_Move mcs nx ∧ row.length = i ∧ e 0 = ptr bid ∧ e 1 = .int .i64 (k : Int) ∧ e 9 = .int .i64 rule ∧ e 129 = fv ∧ e 130 = .int .i64 B.length ∧ e 131 = .int .i64 i ∧
    ((rowZ g en st (B.drop i) S').1, row ++ (rowZ g en st (B.drop i) S').2.1, (rowZ g en st (B.drop i) S').2.2) = Z) ?_ (n := B.length)
    ⟨0, sid, cs, S, [], [], by omega, by omega, hf.mono (by omega), (Sub.refl h).keepL, .inl rfl, hB, Grow.refl, ⟨rfl, fun i x m hx => by simp at hx⟩, OwnT.nil, rfl, e0, e1, e9, rfl, rfl, rfl, by rw [← hZ]; rfl⟩
  rintro j e' h' nx' ⟨i, sid', cs', S', mcs, row, hj, hnx, hf', hkp, hsd, hB', hgr, hro, hrv, hrl, f0, f1, f9, f129, f130, f131, hrow⟩ Q' hq hxx
  have hsubD : Sub (del h [bid, kid, sid]) h' := fun q o hq9 => by
    rw [del_get] at hq9
    split at hq9
    · cases hq9
    · rename_i hn; exact hkp q o hq9 hn
  have hfv' := hfv.sub hsubD fun _ _ h => h
  have hP' := hP.sub hsubD (RPos.sub hsubD)
  have hen' : BMap h' eid en := hen.keepK hkp (by simp [heb, hek, hes])
  have hst' : BMap h' yid st := hst.keepK hkp (by simp [hyb, hyk, hys])
  unfold auto_builder_code_L1
  rw [f0, f129, f130, f131]
  refine lss_s (fun hi => ?_) (fun hi => ?_)
  · have hi : i < B.length := by omega
    rw [drop_cons hi, rowZ_cons] at hrow
    obtain ⟨w, ⟨w1, w2⟩, w3⟩ := hfv'.at1 hi
    have w1 : w = .int .u8 (B[i] : Int) := by simpa using w1
    subst w1
    generalize B[i] = b at hrow w2 w3
    refine condP_t (bindP_mk (hfv'.ix _ hi) (bindP_mk w3 ?_))
    refine auto_goes_c hg w2 (hf'.mono (show nx' ≤ nx' + 7 by omega)) hB' hen' hst' hP' fun h3 n3 sid3 cs3 ov r1 r2 r3 r4 r5 r6 r7 => ?_
    generalize goesZ g en st b S' = G at hrow r5 r6 r7
    have hkp3 : Keep [bid, kid, sid] h h3 := Keep.chain hf hkp r3 hsd
    have t1 : TyKeep y_int h' h3 := hB'.tyk r3 (by decide) (by decide)
    have t2 : TyKeep y_uint8 h' h3 := hB'.tyk r3 (by decide) (by decide)
    have t3 : TyKeep y_api_Move h' h3 := hB'.tyk r3 (by decide) (by decide)
    have hgr3 := (hgr.ty t1).trans r6 (show nx ≤ nx' + 7 by omega)
    have hovk := r7.ok
    (repeat (first | refine bindP_mk (by simp (disch := first | omega | exact Int.natCast_nonneg _ | assumption) only [BB, B2, ↓reduceIte, Nat.reduceLeDiff, Nat.reduceAdd, CC, nth0, nth1] <;> rfl) ?_ | refine newP_mk ?_ | refine optP_mk ?_ | with_reducible first | refine condP_t ?_ | refine condP_f ?_ | refine ifP_tt' ?_ | refine ifP_ff' ?_ | refine ifP_tf' ?_ | refine ifP_ft' ?_ | refine ifP_u' ?_ | refine optP_mk0 ?_))
    refine local_mk zer_Move rfl (x := [.int .i64 G.1.to, ov]) rfl rfl (by simp only [List.all_cons, List.all_nil, hovk]; rfl) r2 (show n3 ≤ n3 + 3 by omega) fun h4 hs4 hf4 g4 _ => ?_
    refine neq_s (fun u1 => ?_) (fun u1 => ?_)
    · (repeat (first | refine bindP_mk (by simp (disch := first | omega | exact Int.natCast_nonneg _ | assumption) only [BB, B2, ↓reduceIte, Nat.reduceLeDiff, Nat.reduceAdd, CC] <;> rfl) ?_ | refine newP_mk ?_ | refine optP_mk ?_ | with_reducible first | refine condP_t ?_ | refine condP_f ?_ | refine ifP_tt' ?_ | refine ifP_ff' ?_ | refine ifP_tf' ?_ | refine ifP_ft' ?_ | refine ifP_u' ?_ | refine optP_mk0 ?_))
      refine hxx _ _ _ _ (fun e => by cases e) (exP_r ?_)
      rw [if_neg u1] at hrow
      have hz1 : Z.1 = G.2.1 := by rw [← hrow]
      refine ⟨h4, Sub.refl _, ?_⟩
      show K (.int .i64 G.2.1) h4 _
      rw [← hz1]
      exact hKe (by rw [hz1]; exact u1) _ _ (by omega) (hf4.mono (by omega)) (hkp3.trans hs4.keepL)
    · rw [if_pos u1] at hrow
      refine condP_f (bindP_mk (loadA_all (l := [.int .i64 G.1.to, ov]) g4 rfl) ?_)
      have hrv4 := (hrv.ty t3).keepS hs4
      refine app_Move rfl hovk hrv4 (by rw [hro.1]; omega) (hf4.mono (show n3 + 3 + 1 ≤ n3 + 10 by omega)) (by omega) (by omega) (by omega) fun h5 w5 s1 s2 s3 s4 => ?_
      dsimp only
      refine bindP_mk (intB_add _ _ _) ?_
      rw [wr_i64 (by omega) (by omega)]
      have t4 : TyKeep y_int h3 h5 := (hs4.ty).trans (s3.ty hrv4 (by decide))
      have t5 : TyKeep y_uint8 h3 h5 := (hs4.ty).trans (s3.ty hrv4 (by decide))
      have hkp5 : Keep [bid, kid, sid] h h5 := fun q o hq9 hn => by
        have hql := hf.lt' hq9
        refine s3 q o (hs4 _ _ (hkp3 q o hq9 hn)) fun e => ?_
        have := (hrv4.blk e).1
        omega
      have hB5 : Bd h5 g bid nid kid eid yid sid3 av bv fv c n cv G.2.2 cs3 := (r5.sub hs4).keepN fun q o hq9 hd => s3 q o hq9 fun e => by
        obtain ⟨z1, z2⟩ := hrv4.blk e
        have hB4 := r5.sub hs4
        obtain ⟨a1, a2, a3⟩ := hB4.num
        obtain ⟨_, _, a4⟩ := a2.obj
        obtain ⟨d1, d2, d3⟩ := hB4.known
        obtain ⟨_, _, d4⟩ := d2.obj
        rcases hd with rfl | rfl | rfl | rfl
        · have := hB4.blk
          rw [z2] at this
          simp only [Option.some.injEq, Obj.cells.injEq] at this
          exact absurd this.2.1 (by decide)
        · rw [z2] at a4; cases a4
        · rw [z2] at d4; cases d4
        · have := hB4.row
          rw [z2] at this
          simp only [Option.some.injEq, Obj.cells.injEq] at this
          exact absurd this.2.1 (by decide)
      refine hq (j - 1) _ _ _ _ (by omega) ⟨i + 1, sid3, cs3, G.2.2, mcs ++ [[.int .i64 G.1.to, ov]], row ++ [G.1], by omega, by omega, s4.mono (by omega), hkp5, ?_, hB5, hgr3.ty t4, ?_, ?_, by simp [hrl], f0, f1, f9, f129, f130, rfl, ?_⟩ (Sub.refl _)
      · rcases r4 with r4 | r4
        · rw [r4]; exact hsd
        · exact .inr (by omega)
      · have ho1 := hro.ty (t2.trans t5)
        refine ⟨by simp [hro.1], fun q x m hx9 hm9 => ?_⟩
        rcases Nat.lt_or_ge q mcs.length with hql | hql
        · rw [List.getElem?_append_left hql] at hx9
          rw [List.getElem?_append_left (by have := hro.1; omega)] at hm9
          exact ho1.2 q x m hx9 hm9
        · rw [List.getElem?_append_right hql] at hx9
          rw [List.getElem?_append_right (by have := hro.1; omega), ← hro.1] at hm9
          generalize q - mcs.length = q' at hx9 hm9
          cases q' with
          | succ q' => simp at hx9
          | zero =>
            simp at hx9 hm9
            subst hx9; subst hm9
            exact ⟨ov, rfl, (r7.ty t5).mono (by omega)⟩
      · exact s1
      · rw [← hrow]; simp
  · refine condP_f ?_
    refine hxx _ _ _ _ (fun e => by cases e) (exP_e (beqP_t ?_))
    rw [drop_all (l := B) (by omega)] at hrow
    have hrow : ((0 : Int), row, S') = Z := by simpa [rowZ] using hrow
    subst hrow
    have hgr' := hgr
    obtain ⟨ds, T, a1, a2, a3, a4⟩ := hgr'
    have hx' : cs'[k]? = some [lv, rv, uv, wv] := by rw [a1, List.getElem?_append_left hkl]; exact hx
    have ti : TyKeep y_int h h' := hB.tyk hkp (by decide) (by decide)
    have tw : TyKeep y_s_api_Move h h' := hB.tyk hkp (by decide) (by decide)
    have hu' := hu.ty ti
    have hw' := hw.ty tw
    have hrvk := hrv.ok
    have hul : ∀ id, id ∈ (sblk uv).toList ++ (sblk wv).toList → id < nx := by
      intro id hid
      rcases List.mem_append.1 hid with hid | hid
      · have := (hu.blk (by simpa using hid)).2
        exact hf.lt' this
      · have := (hw.blk (by simpa using hid)).2
        exact hf.lt' this
    refine code_j3_c (hf'.mono (show nx' ≤ nx' + 1 by omega)) hB' hx' hu' hw' hR hws hrvk f0 f1 f9 rfl fun h2 n2 uv' wv' p1 p2 p3 p4 p5 p6 => ?_
    have hrow' := hB'.row
    -- what is new stays
    obtain ⟨b1, b2, b3, b4⟩ := hB.lt hf
    have hold : ∀ {v : Value} {z : Nat} {e : TypeId} {l : List (List Value)}, e ≠ y_api_State → OwnT h' v z e l nx → OwnT (del h2 (XL bid kid eid yid sid' uv' wv')) v z e l nx := fun he ho => by
      have hns : ∀ id, sblk _ = some id → id ≠ sid' := fun id hid => by
        obtain ⟨z1, z2⟩ := ho.blk hid
        rintro rfl
        rw [hrow'] at z2
        simp only [Option.some.injEq, Obj.cells.injEq] at z2
        exact he z2.2.1.symm
      refine (ho.keepK p3 fun id hid => ?_).del fun id hid => ?_
      · obtain ⟨z1, z2⟩ := ho.blk hid
        simp only [List.mem_cons, not_or]
        refine ⟨hns id hid, fun hm => ?_⟩
        have := hul _ hm; omega
      · obtain ⟨z1, z2⟩ := ho.blk hid
        have z3 := hf'.lt' z2
        have z4 := hns id hid
        unfold XL
        simp only [List.mem_append, List.mem_cons, List.not_mem_nil, or_false, not_or, Option.mem_toList]
        refine ⟨⟨by omega, by omega, by omega, by omega, z4⟩, fun h9 => ?_, fun h9 => ?_⟩
        · have := (p5.blk h9).1; omega
        · have := (p6.blk h9).1; omega
    refine hK rfl h2 n2 sid' cs' uv' wv' _ mcs (by omega) p2 ?_ hsd p4 ?_ (p5.mono (by omega)) (p6.mono (by omega)) (hold (by decide) hrv) ?_ ?_ ?_
    · intro q o hq9 hn
      have hql := hf.lt' hq9
      simp only [List.mem_append, List.mem_cons, List.not_mem_nil, or_false, not_or] at hn
      refine p3 q o (hkp q o hq9 (by simp; exact hn.1)) ?_
      simp only [List.mem_cons, List.mem_append, not_or]
      refine ⟨?_, hn.2⟩
      rcases hsd with rfl | hs
      · exact hn.1.2.2
      · omega
    · refine ⟨ds, T, a1, a2, a3, fun q x s hx9 hs9 => ?_⟩
      obtain ⟨l1, l2, l3, l4, l5, l6⟩ := a4 q x s hx9 hs9
      exact ⟨l1, l2, l3, hold (by decide) l4, hold (by decide) l5, l6⟩
    · refine ⟨hro.1, fun q x m hx9 hm9 => ?_⟩
      obtain ⟨ov, o1, o2⟩ := hro.2 q x m hx9 hm9
      exact ⟨ov, o1, hold (by decide) o2⟩
    · refine hen'.keepK p3 ?_
      simp only [List.mem_cons, not_or]
      refine ⟨?_, ?_⟩
      · rcases hsd with rfl | hs
        · exact hes
        · omega
      · intro hm
        rcases List.mem_append.1 hm with hm | hm
        · obtain ⟨_, z⟩ := hu.blk (id := eid) (by simpa using hm)
          rw [me1] at z; cases z
        · obtain ⟨_, z⟩ := hw.blk (id := eid) (by simpa using hm)
          rw [me1] at z; cases z
    · refine hst'.keepK p3 ?_
      simp only [List.mem_cons, not_or]
      refine ⟨?_, ?_⟩
      · rcases hsd with rfl | hs
        · exact hys
        · omega
      · intro hm
        rcases List.mem_append.1 hm with hm | hm
        · obtain ⟨_, z⟩ := hu.blk (id := yid) (by simpa using hm)
          rw [my1] at z; cases z
        · obtain ⟨_, z⟩ := hw.blk (id := yid) (by simpa using hm)
          rw [my1] at z; cases z
end V
end Go.Proofs.Ytmmdcdjkmakgpaa
set_option linter.unusedVariables false
set_option linter.unusedSimpArgs false
namespace Go.Proofs.Ytmmdcdjkmakgpaa
namespace V
open PA
attribute [local irreducible] bindP ifP condP newP optP exP beqP
theorem del_mono {h : T Obj} {l l' : List Nat} (hl : ∀ k, k ∈ l → k ∈ l') : Sub (del h l') (del h l) := fun k o hk => by
  rw [del_get] at hk
  split at hk
  · cases hk
  · rename_i hn
    exact del_some hk fun h => hn (hl k h)
theorem Keep.delS {ids l : List Nat} {h h' : T Obj} (hk : Keep ids h h') (hl : ∀ k, k ∈ ids → k ∈ l) : Sub (V.del h l) h' := fun k o hg => by
  rw [del_get] at hg
  split at hg
  · cases hg
  · rename_i hn; exact hk k o hg fun h => hn (hl k h)
theorem digs_fst (g : GlD) : ∀ (l : List Int) (c : Int), (digs g l c).map (·.1) = l
  | [], c => rfl
  | p :: r, c => by
    rw [digs_cons]
    split <;> simp [digs_fst g r]
theorem digs_snd (g : GlD) : ∀ (l : List Int) (c : Int), 0 ≤ c → ∀ d ∈ digs g l c, d.2 = -1 ∨ d.2 = 0 ∨ d.2 = 1 ∨ d.2 = 2
  | [], c, _, d, hd => by cases hd
  | p :: r, c, hc, d, hd => by
    rw [digs_cons] at hd
    split at hd
    · rcases List.mem_cons.1 hd with rfl | hd
      · show c % 3 = _ ∨ c % 3 = _ ∨ c % 3 = _ ∨ c % 3 = _
        omega
      · exact digs_snd g r (c / 3) (by omega) d hd
    · rcases List.mem_cons.1 hd with rfl | hd
      · exact .inl rfl
      · exact digs_snd g r c hc d hd
theorem ruleZ_cons (g : GlD) (best : Int) (d : Int × Int) (r : List (Int × Int)) : ruleZ g best (d :: r) = ruleZ g (if decide (d.2 ≠ 0) && ((g.at d.1).last && (decide (best < 0) || decide ((g.at d.1).rule < best))) then (g.at d.1).rule else best) r := rfl
def enD (g : GlD) (D : List (Int × Int)) (q : Int) : Bool := D.any fun d => decide (d.2 ≠ 0) && (g.at d.1).next.contains q
theorem enD_snoc (g : GlD) (D : List (Int × Int)) (d : Int × Int) (q : Int) : enD g (D ++ [d]) q = (enD g D q || (decide (d.2 ≠ 0) && (g.at d.1).next.contains q)) := by simp [enD]
theorem staysZ_snoc (D : List (Int × Int)) (d : Int × Int) (q : Int) : staysZ (D ++ [d]) q = (staysZ D q || (decide (d.1 = q) && (decide (d.2 = 0) || decide (d.2 = 2)))) := by simp [staysZ]
theorem staysZ_no {D : List (Int × Int)} {q : Int} (h : ∀ d ∈ D, d.1 ≠ q) : staysZ D q = false := by
  unfold staysZ
  rw [List.any_eq_false]
  intro d hd
  simp [h d hd]
theorem right_parts {g : GlD} (h : rightD g = true) : g.p.length ≤ 512 ∧ rz (-1) g.p.length g.first = true ∧ ∀ p ∈ g.p, mayD g.p.length p = true := by
  unfold rightD at h
  simp only [Bool.and_eq_true, decide_eq_true_eq, List.all_eq_true] at h
  exact ⟨h.1, h.2.1, h.2.2⟩
theorem may_parts {m : Int} {p : PosD} (h : mayD m p = true) : 1 ≤ p.lo ∧ p.lo ≤ p.hi ∧ p.hi ≤ 4096 ∧ 0 ≤ p.rule ∧ p.rule < 512 ∧ rz (-1) m p.next = true := by
  unfold mayD at h
  simp only [Bool.and_eq_true, decide_eq_true_eq] at h
  exact ⟨h.2.1, h.2.2.1, h.2.2.2.1, h.2.2.2.2.1, h.2.2.2.2.2.1, h.2.2.2.2.2.2⟩
theorem rz_lenN : ∀ {l : List Int} {a m : Int}, rz a m l = true → a < m → (l.length : Int) + a + 1 ≤ m
  | [], a, m, h, ha => by simp; omega
  | x :: r, a, m, h, ha => by
    simp only [rz, Bool.and_eq_true, decide_eq_true_eq] at h
    have := rz_lenN h.2.2 h.2.1
    rw [List.length_cons]; omega
theorem rz_pairs : ∀ {l : List Int} {a m : Int}, rz a m l = true → l.Pairwise (· < ·)
  | [], _, _, _ => List.Pairwise.nil
  | x :: r, a, m, h => by
    simp only [rz, Bool.and_eq_true, decide_eq_true_eq] at h
    exact List.Pairwise.cons (fun y hy => (rz_mem h.2.2 y hy).1) (rz_pairs h.2.2)
theorem contains_take {l : List Int} {k : Nat} (hk : k < l.length) (q : Int) : (l.take (k + 1)).contains q = ((l.take k).contains q || decide (q = l[k])) := by
  rw [List.take_succ_eq_append_getElem hk]
  simp only [List.contains_eq_mem, List.mem_append, List.mem_singleton, Bool.decide_or]
section
variable {ro : Ro} {g : GlD} {bid nid kid eid yid sid k did sl : Nat} {av bv fv cv lv rv uv wv : Value} {c : List Nat} {n : Int} {S : List StateD} {cs : List (List Value)} {D : List (Int × Int)}
set_option maxRecDepth 8000 in
set_option maxHeartbeats 2000000 in
theorem code_L2_c (hr : rightD g = true) (hz : rz (-1) g.p.length (D.map (·.1)) = true) (hd : ∀ d ∈ D, d.2 = -1 ∨ d.2 = 0 ∨ d.2 = 1 ∨ d.2 = 2) (hey : eid ≠ yid) (hen : eid ≠ nid) (hek : eid ≠ kid) (hyn : yid ≠ nid) (hyk : yid ≠ kid) {e : Env} {en0 : Int → Bool} {f : Int → Option Value}
    {h : T Obj} {nx : Nat} {K : KV} (hf : Fr h nx) (hB : Bd h g bid nid kid eid yid sid av bv fv c n cv S cs) (hE : BMap h eid en0) (hY : BMap h yid fun _ => false) (hD : MapG injI h did f) (hDo : DOk f D) (hde : did ≠ eid) (hdy : did ≠ yid)
    (hP : SlR ro (del h [eid, yid]) bv 9 (RPos ro (del h [eid, yid])) g.p) (hl : ZI ro (del h [eid, yid]) lv (D.map (·.1)))
    (e0 : e 0 = ptr bid) (e1 : e 1 = .int .i64 (k : Int)) (e8 : e 8 = .map (some did)) (e9 : e 9 = .int .i64 (-1)) (e63 : e 63 = lv) (e64 : e 64 = .int .i64 D.length) (e65 : e 65 = .int .i64 0) {Q : KE}
    (hQ : ∀ e' h' nx' en st, nx ≤ nx' → Fr h' nx' → Keep [eid, yid] h h' → BMap h' eid en → BMap h' yid st → (∀ q, en q = (en0 q || enD g D q)) → (∀ q, st q = staysZ D q) → e' 0 = ptr bid → e' 1 = .int .i64 (k : Int) → e' 9 = .int .i64 (ruleZ g (-1) D) → Q (.exit 2) e' h' nx') :
    loopP (auto_builder_code_L2 ro) e h nx Q := by
  obtain ⟨hgl, hfr, hmay⟩ := right_parts hr
  have hDl : D.length ≤ 512 := by
    have := rz_lenN hz (by omega)
    simp at this; omega
  generalize hrf : ruleZ g (-1) D = rf at hQ
  have hbid : eid ≠ bid ∧ yid ≠ bid ∧ eid ≠ sid ∧ yid ≠ sid := by
    obtain ⟨es1, c1, o1⟩ := hE.obj
    obtain ⟨es2, c2, o2⟩ := hY.obj
    have h1 := hB.blk
    have h2 := hB.row
    refine ⟨?_, ?_, ?_, ?_⟩ <;> rintro rfl
    · rw [o1] at h1; cases h1
    · rw [o2] at h1; cases h1
    · rw [o1] at h2; cases h2
    · rw [o2] at h2; cases h2
  refine loopP_rule (fun j e h' nx' => ∃ (i : Nat) (en st : Int → Bool) (ru : Int), i + j = D.length ∧ nx ≤ nx' ∧ Fr h' nx' ∧ Keep [eid, yid] h h' ∧ BMap h' eid en ∧ BMap h' yid st ∧ (∀ q, en q = (en0 q || enD g (D.take i) q)) ∧ (∀ q, st q = staysZ (D.take i) q) ∧
    e 0 = ptr bid ∧ e 1 = .int .i64 (k : Int) ∧ e 8 = .map (some did) ∧ e 9 = .int .i64 ru ∧ e 63 = lv ∧ e 64 = .int .i64 D.length ∧ e 65 = .int .i64 i ∧ ruleZ g ru (D.drop i) = rf) ?_ (n := D.length)
    ⟨0, en0, fun _ => false, -1, by omega, by omega, hf, (Sub.refl h).keepL, hE, hY, fun q => by simp [enD], fun q => by simp [staysZ], e0, e1, e8, e9, e63, e64, e65, hrf⟩
  rintro j e h' nx' ⟨i, en, st, ru, hj, hnx, hf', hkp, hE', hY', hen', hst', f0, f1, f8, f9, f63, f64, f65, hru⟩ Q' hq hx
  have hsd : Sub (del h [eid, yid]) h' := hkp.delS fun _ h => h
  have hB' : Bd h' g bid nid kid eid yid sid av bv fv c n cv S cs := hB.keepN fun q o hq9 hd9 => hkp q o hq9 (by
    simp only [List.mem_cons, List.not_mem_nil, or_false, not_or]
    rcases hd9 with rfl | rfl | rfl | rfl
    · exact ⟨hbid.1.symm, hbid.2.1.symm⟩
    · exact ⟨hen.symm, hyn.symm⟩
    · exact ⟨hek.symm, hyk.symm⟩
    · exact ⟨hbid.2.2.1.symm, hbid.2.2.2.symm⟩)
  have hD' : MapG injI h' did f := by
    obtain ⟨es, c9, ps, a1, a2, a3⟩ := hD
    exact ⟨es, c9, ps, hkp _ _ a1 (by simp [hde, hdy]), a2, a3⟩
  have hl' := hl.sub hsd
  have hP' := hP.sub hsd (RPos.sub hsd)
  have hbk := hB'.blk
  have b1 := bldL_1 (av := av) (bv := bv) (nv := .map (some nid)) (fv := fv) (c := c) (n := n) (cv := cv) (sv := .slice (some (own sid 4)) cs.length cs.length) (kv := .map (some kid)) (ev := .map (some eid)) (yv := .map (some yid))
  have b264 := bldL_264 (av := av) (bv := bv) (nv := .map (some nid)) (fv := fv) (n := n) (cv := cv) (sv := .slice (some (own sid 4)) cs.length cs.length) (kv := .map (some kid)) (ev := .map (some eid)) (yv := .map (some yid)) hB.hc
  have b265 := bldL_265 (av := av) (bv := bv) (nv := .map (some nid)) (fv := fv) (n := n) (cv := cv) (sv := .slice (some (own sid 4)) cs.length cs.length) (kv := .map (some kid)) (ev := .map (some eid)) (yv := .map (some yid)) hB.hc
  unfold auto_builder_code_L2
  rw [f0, f8, f63, f64, f65]
  refine lss_s (fun hi => ?_) (fun hi => ?_)
  · have hi : i < D.length := by omega
    have hil : i < (D.map (·.1)).length := by simpa using hi
    have hld := hl'.load hil
    have hxm := rz_mem hz _ (List.getElem_mem hil)
    have hdi := hd _ (List.getElem_mem hi)
    have hfo := hDo _ (List.getElem_mem hi)
    have hgm : (D.map (·.1))[i] = (D[i]).1 := by simp
    rw [hgm] at hld hxm
    rw [drop_cons hi, ruleZ_cons] at hru
    have hex : ∀ d ∈ D.take i, d.1 ≠ (D[i]).1 := by
      intro d hd9 he
      obtain ⟨m, hm⟩ := List.mem_iff_getElem?.1 hd9
      rw [List.getElem?_take] at hm
      split at hm
      · rename_i hmi
        have hml := (List.getElem?_eq_some_iff.1 hm).1
        have hpw := List.pairwise_iff_getElem.1 (rz_pairs hz) m i (by simpa using hml) hil hmi
        simp only [List.getElem_map] at hpw
        have : D[m] = d := by
          rw [List.getElem?_eq_getElem hml] at hm
          exact Option.some.inj hm
        rw [this, he] at hpw
        omega
      · cases hm
    have hst0 : staysZ (D.take i) (D[i]).1 = false := staysZ_no hex
    have hen1 : ∀ q, enD g (D.take (i + 1)) q = (enD g (D.take i) q || (decide ((D[i]).2 ≠ 0) && (g.at (D[i]).1).next.contains q)) := fun q => by rw [List.take_succ_eq_append_getElem hi, enD_snoc]
    have hst1 : ∀ q, staysZ (D.take (i + 1)) q = (staysZ (D.take i) q || (decide ((D[i]).1 = q) && (decide ((D[i]).2 = 0) || decide ((D[i]).2 = 2)))) := fun q => by rw [List.take_succ_eq_append_getElem hi, staysZ_snoc]
    generalize D[i] = dd at hld hxm hdi hfo hru hst0 hen1 hst1
    obtain ⟨x, d⟩ := dd
    dsimp only at hld hxm hdi hfo hru hst0 hen1 hst1
    have hxl : x.toNat < g.p.length := by omega
    have hpx : g.at x = g.p[x.toNat] := by
      unfold GlD.at
      rw [List.getD_eq_getElem?_getD, List.getElem?_eq_getElem hxl]; rfl
    obtain ⟨y, ⟨nv, rfl, y1, y2⟩, x2, x3, x4, x5⟩ := hP'.at hxl
    rw [← hpx] at x2 x3 x5 y1 y2
    have hmx := may_parts (hmay _ (List.getElem_mem hxl))
    rw [← hpx] at hmx
    have hlk := look_iu hD' x
    rw [hfo] at hlk
    refine condP_t (bindP_mk (hl'.ix _ hil) (bindP_mk hld ?_))
    (repeat (first | refine bindP_mk (by simp (disch := first | omega | exact Int.natCast_nonneg _ | assumption) only [BB, B2, ↓reduceIte, Nat.reduceLeDiff, Nat.reduceAdd, CC, nilCk_at, hbk, b1] <;> rfl) ?_ | refine newP_mk ?_ | refine optP_mk ?_ | with_reducible first | refine condP_t ?_ | refine condP_f ?_ | refine ifP_tt' ?_ | refine ifP_ff' ?_ | refine ifP_tf' ?_ | refine ifP_ft' ?_ | refine ifP_u' ?_ | refine optP_mk0 ?_))
    refine bindP_mk (hP'.ixI _ (by omega) (by omega)) (bindP_mk x3 ?_)
    refine local_mk zer_PosZ rfl (x := posL (g.at x) nv) rfl rfl (posL_ok y1.ok) hf' (show nx' ≤ nx' + 12 by omega) fun h3 hs3 hf3 g3 _ => ?_
    have hlk3 := look_iu (hD'.sub hs3) x
    rw [hfo] at hlk3
    have hb3 := hs3 _ _ hbk
    have hn3 := y1.sub hs3
    have hnl := hn3.len
    have hE3 : BMap h3 eid en := by obtain ⟨f, q1, q2⟩ := hE'; exact ⟨f, q1.sub hs3, q2⟩
    have hY3 : BMap h3 yid st := by obtain ⟨f, q1, q2⟩ := hY'; exact ⟨f, q1.sub hs3, q2⟩
    have hk3 := hkp.trans hs3.keepL
    have hel := (hE3.obj)
    obtain ⟨_, _, hel⟩ := hel
    have hel := hf3.lt' hel
    obtain ⟨_, _, hyl⟩ := hY3.obj
    have hyl := hf3.lt' hyl
    have hel' : eid < nx' := by obtain ⟨_, _, q⟩ := hE'.obj; exact hf'.lt' q
    have hyl' : yid < nx' := by obtain ⟨_, _, q⟩ := hY'.obj; exact hf'.lt' q
    -- the end of a round
    have hj4 : ∀ (e : Env) (h4 : T Obj) (n4 : Nat) (en' st' : Int → Bool) (ru' : Int), nx' ≤ n4 → Fr h4 n4 → Keep [eid, yid] h h4 → BMap h4 eid en' → BMap h4 yid st' → (∀ q, en' q = (en0 q || enD g (D.take (i + 1)) q)) → (∀ q, st' q = staysZ (D.take (i + 1)) q) →
        e 0 = ptr bid → e 1 = .int .i64 (k : Int) → e 8 = .map (some did) → e 9 = .int .i64 ru' → e 63 = lv → e 64 = .int .i64 D.length → e 65 = .int .i64 i → ruleZ g ru' (D.drop (i + 1)) = rf → auto_builder_code_j4 ro Q' e h4 n4 := by
      intro e h4 n4 en' st' ru' hn4 s1 s2 s3 s4 s5 s6 f0 f1 f8 f9 f63 f64 f65 s7
      unfold auto_builder_code_j4
      rw [f65]
      (repeat (first | refine bindP_mk (by simp (disch := first | omega | exact Int.natCast_nonneg _ | assumption) only [BB, B2, ↓reduceIte, Nat.reduceLeDiff, Nat.reduceAdd, CC] <;> rfl) ?_ | refine newP_mk ?_ | refine optP_mk ?_ | with_reducible first | refine condP_t ?_ | refine condP_f ?_ | refine ifP_tt' ?_ | refine ifP_ff' ?_ | refine ifP_tf' ?_ | refine ifP_ft' ?_ | refine ifP_u' ?_ | refine optP_mk0 ?_))
      exact hq (j - 1) _ _ _ _ (by omega) ⟨i + 1, en', st', ru', by omega, by omega, s1.mono (by omega), s2, s3, s4, s5, s6, f0, f1, f8, f9, f63, f64, rfl, s7⟩ (Sub.refl _)
    -- the places behind, and the rule
    have hL3 : ∀ (e : Env) (h4 : T Obj) (n4 : Nat) (st' : Int → Bool), nx' + 13 ≤ n4 → Fr h4 n4 → Keep [eid, yid] h h4 → Keep [eid, yid] h3 h4 → BMap h4 eid en → BMap h4 yid st' → (∀ q, st' q = staysZ (D.take (i + 1)) q) → d ≠ 0 →
        e 0 = ptr bid → e 1 = .int .i64 (k : Int) → e 8 = .map (some did) → e 9 = .int .i64 ru → e 14 = ptr (nx' + 12) → e 63 = lv → e 64 = .int .i64 D.length → e 65 = .int .i64 i → e 99 = nv → e 100 = .int .i64 (g.at x).next.length → e 101 = .int .i64 0 →
        loopP (auto_builder_code_L3 ro) e h4 n4 fun x183 e180 h181 n182 => exP x183 (auto_builder_code_j5 ro Q' e180 h181 n182) (fun i184 => beqP (Nat.beq i184 4) (auto_builder_code_j5 ro Q' e180 h181 n182) (beqP (Nat.beq i184 3) (auto_builder_code_j4 ro Q' e180 h181 n182) (Q' (.exit i184) e180 h181 n182))) (Q' .ret e180 h181 n182) := by
      intro e h4 n4 st' hn4 s1 s2 s2' s3 s4 s5 hd0 f0 f1 f8 f9 f14 f63 f64 f65 f99 f100 f101
      have hnxt : (g.at x).next.length ≤ 512 := by have := rz_lenN hmx.2.2.2.2.2 (by omega); omega
      refine loopP_rule (fun j2 e h5 n5 => ∃ (m : Nat) (en' : Int → Bool), m + j2 = (g.at x).next.length ∧ n4 ≤ n5 ∧ Fr h5 n5 ∧ Keep [eid, yid] h4 h5 ∧ BMap h5 eid en' ∧ BMap h5 yid st' ∧ (∀ q, en' q = (en q || ((g.at x).next.take m).contains q)) ∧
        e 0 = ptr bid ∧ e 1 = .int .i64 (k : Int) ∧ e 8 = .map (some did) ∧ e 9 = .int .i64 ru ∧ e 14 = ptr (nx' + 12) ∧ e 63 = lv ∧ e 64 = .int .i64 D.length ∧ e 65 = .int .i64 i ∧ e 99 = nv ∧ e 100 = .int .i64 (g.at x).next.length ∧ e 101 = .int .i64 m) ?_ (n := (g.at x).next.length)
        ⟨0, en, by omega, by omega, s1, (Sub.refl h4).keepL, s3, s4, fun q => by simp, f0, f1, f8, f9, f14, f63, f64, f65, f99, f100, f101⟩
      rintro j2 e h5 n5 ⟨m, en', hj2, hn5, hf5, hk5, hE5, hY5, hen5, f0, f1, f8, f9, f14, f63, f64, f65, f99, f100, f101⟩ Q2 hq2 hx2
      have hk35 : Keep [eid, yid] h3 h5 := s2'.trans hk5
      have hn5' : ZI ro h5 nv (g.at x).next := by
        have hsub9 : Sub (del h [eid, yid]) h5 := (s2.trans hk5).delS fun _ h => h
        obtain ⟨y', ⟨nv', q1, q2, q3⟩, q4, q5, q6, q7⟩ := (hP.sub hsub9 (RPos.sub hsub9)).at hxl
        rw [← hpx] at q1 q2 q3
        have : nv' = nv := by
          obtain ⟨y7, z4, z5, z6, z7⟩ := hP.at hxl
          have a1 := loadA_sub hsd z6
          have a2 := loadA_sub hsub9 z6
          rw [x3] at a1
          rw [q5, q1] at a2
          have a3 := Option.some.inj (a2.trans (Eq.symm a1))
          simp only [Value.agg.injEq] at a3
          have a4 := congrArg Array.toList a3
          simp [posL, setL] at a4
          exact a4
        rw [← this]; exact q2
      have hb5 : h5.get bid = _ := hk35 _ _ hb3 (by simp [hbid.1.symm, hbid.2.1.symm])
      unfold auto_builder_code_L3
      rw [f0, f99, f100, f101]
      refine lss_s (fun hm => ?_) (fun hm => ?_)
      · have hm : m < (g.at x).next.length := by omega
        have hld5 := hn5'.load hm
        have hct := contains_take hm
        generalize (g.at x).next[m] = q0 at hld5 hct
        refine condP_t (bindP_mk (hn5'.ix _ hm) (bindP_mk hld5 ?_))
        obtain ⟨es, ec, p1, p2⟩ := hE5.put q0 true
        (repeat (first | refine bindP_mk (by simp (disch := first | omega | exact Int.natCast_nonneg _ | assumption) only [BB, B2, ↓reduceIte, Nat.reduceLeDiff, Nat.reduceAdd, CC, nilCk_at, hb5, b264, p1] <;> rfl) ?_ | refine newP_mk ?_ | refine optP_mk ?_ | with_reducible first | refine condP_t ?_ | refine condP_f ?_ | refine ifP_tt' ?_ | refine ifP_ff' ?_ | refine ifP_tf' ?_ | refine ifP_ft' ?_ | refine ifP_u' ?_ | refine optP_mk0 ?_))
        refine hq2 (j2 - 1) _ _ _ _ (by omega) ⟨m + 1, _, by omega, by omega, (hf5.mono (show n5 ≤ n5 + 12 by omega)).upd (Nat.le_refl _) (by omega), hk5.upd (by simp), p2 _ (by rw [T.get_upd_same]), hY5.keep (by rw [T.get_upd_ne _ _ hey.symm]), fun q => ?_, f0, f1, f8, f9, f14, f63, f64, f65, f99, f100, rfl⟩ (Sub.refl _)
        show (if q = q0 then true else en' q) = _
        rw [hct, hen5]
        by_cases hqq : q = q0
        · rw [if_pos hqq, decide_eq_true hqq]; simp
        · rw [if_neg hqq, decide_eq_false hqq, Bool.or_false]
      · refine condP_f ?_
        refine hx2 _ _ _ _ (fun e => by cases e) (exP_e (beqP_t ?_))
        rw [List.take_of_length_le (by omega)] at hen5
        have hen6 : ∀ q, en' q = (en0 q || enD g (D.take (i + 1)) q) := fun q => by
          rw [hen5, hen', hen1, decide_eq_true hd0, Bool.true_and, Bool.or_assoc]
        have hk6 : Keep [eid, yid] h h5 := s2.trans hk5
        have g5 : h5.get (nx' + 12) = some (.cells (posL (g.at x) nv).toArray y_api_Pos) := hk35 _ _ g3 (by simp; omega)
        have pl7 : (posL (g.at x) nv)[7]? = some (.bool (g.at x).last) := rfl
        have pl6 : (posL (g.at x) nv)[6]? = some (.int .i64 (g.at x).rule) := rfl
        have fin : ∀ (e : Env) n6, n5 ≤ n6 → e 0 = ptr bid → e 1 = .int .i64 (k : Int) → e 8 = .map (some did) → e 9 = .int .i64 ru → e 14 = ptr (nx' + 12) → e 63 = lv → e 64 = .int .i64 D.length → e 65 = .int .i64 i → auto_builder_code_j5 ro Q' e h5 n6 := by
          intro e n6 hn6 f0 f1 f8 f9 f14 f63 f64 f65
          unfold auto_builder_code_j5
          rw [f9, f14]
          (repeat (first | refine bindP_mk (by simp (disch := first | omega | exact Int.natCast_nonneg _ | assumption) only [BB, B2, ↓reduceIte, Nat.reduceLeDiff, Nat.reduceAdd, CC, g5, pl7] <;> rfl) ?_ | refine newP_mk ?_ | refine optP_mk ?_ | with_reducible first | refine condP_t ?_ | refine condP_f ?_ | refine ifP_tt' ?_ | refine ifP_ff' ?_ | refine ifP_tf' ?_ | refine ifP_ft' ?_ | refine ifP_u' ?_ | refine optP_mk0 ?_))
          rw [decide_eq_true hd0, Bool.true_and] at hru
          cases hla : (g.at x).last with
          | false =>
            rw [hla, Bool.false_and, if_neg (by decide)] at hru
            (repeat (first | refine bindP_mk (by simp (disch := first | omega | exact Int.natCast_nonneg _ | assumption) only [BB, B2, ↓reduceIte, Nat.reduceLeDiff, Nat.reduceAdd, CC] <;> rfl) ?_ | refine newP_mk ?_ | refine optP_mk ?_ | with_reducible first | refine condP_t ?_ | refine condP_f ?_ | refine ifP_tt' ?_ | refine ifP_ff' ?_ | refine ifP_tf' ?_ | refine ifP_ft' ?_ | refine ifP_u' ?_ | refine optP_mk0 ?_))
            exact hj4 _ _ _ en' st' ru (by omega) (hf5.mono (by omega)) hk6 hE5 hY5 hen6 s5 f0 f1 f8 f9 f63 f64 f65 hru
          | true =>
            rw [hla, Bool.true_and] at hru
            (repeat (first | refine bindP_mk (by simp (disch := first | omega | exact Int.natCast_nonneg _ | assumption) only [BB, B2, ↓reduceIte, Nat.reduceLeDiff, Nat.reduceAdd, CC] <;> rfl) ?_ | refine newP_mk ?_ | refine optP_mk ?_ | with_reducible first | refine condP_t ?_ | refine condP_f ?_ | refine ifP_tt' ?_ | refine ifP_ff' ?_ | refine ifP_tf' ?_ | refine ifP_ft' ?_ | refine ifP_u' ?_ | refine optP_mk0 ?_))
            refine lss_s (fun v1 => ?_) (fun v1 => ?_)
            · rw [decide_eq_true v1, Bool.true_or, if_pos rfl] at hru
              (repeat (first | refine bindP_mk (by simp (disch := first | omega | exact Int.natCast_nonneg _ | assumption) only [BB, B2, ↓reduceIte, Nat.reduceLeDiff, Nat.reduceAdd, CC, g5, pl6] <;> rfl) ?_ | refine newP_mk ?_ | refine optP_mk ?_ | with_reducible first | refine condP_t ?_ | refine condP_f ?_ | refine ifP_tt' ?_ | refine ifP_ff' ?_ | refine ifP_tf' ?_ | refine ifP_ft' ?_ | refine ifP_u' ?_ | refine optP_mk0 ?_))
              exact hj4 _ _ _ en' st' (g.at x).rule (by omega) (hf5.mono (by omega)) hk6 hE5 hY5 hen6 s5 f0 f1 f8 rfl f63 f64 f65 hru
            · rw [decide_eq_false (by omega), Bool.false_or] at hru
              (repeat (first | refine bindP_mk (by simp (disch := first | omega | exact Int.natCast_nonneg _ | assumption) only [BB, B2, ↓reduceIte, Nat.reduceLeDiff, Nat.reduceAdd, CC, g5, pl6] <;> rfl) ?_ | refine newP_mk ?_ | refine optP_mk ?_ | with_reducible first | refine condP_t ?_ | refine condP_f ?_ | refine ifP_tt' ?_ | refine ifP_ff' ?_ | refine ifP_tf' ?_ | refine ifP_ft' ?_ | refine ifP_u' ?_ | refine optP_mk0 ?_))
              refine lss_s (fun v2 => ?_) (fun v2 => ?_)
              · rw [decide_eq_true v2, if_pos rfl] at hru
                (repeat (first | refine bindP_mk (by simp (disch := first | omega | exact Int.natCast_nonneg _ | assumption) only [BB, B2, ↓reduceIte, Nat.reduceLeDiff, Nat.reduceAdd, CC, g5, pl6] <;> rfl) ?_ | refine newP_mk ?_ | refine optP_mk ?_ | with_reducible first | refine condP_t ?_ | refine condP_f ?_ | refine ifP_tt' ?_ | refine ifP_ff' ?_ | refine ifP_tf' ?_ | refine ifP_ft' ?_ | refine ifP_u' ?_ | refine optP_mk0 ?_))
                exact hj4 _ _ _ en' st' (g.at x).rule (by omega) (hf5.mono (by omega)) hk6 hE5 hY5 hen6 s5 f0 f1 f8 rfl f63 f64 f65 hru
              · rw [decide_eq_false (by omega), if_neg (by decide)] at hru
                (repeat (first | refine bindP_mk (by simp (disch := first | omega | exact Int.natCast_nonneg _ | assumption) only [BB, B2, ↓reduceIte, Nat.reduceLeDiff, Nat.reduceAdd, CC, g5, pl6] <;> rfl) ?_ | refine newP_mk ?_ | refine optP_mk ?_ | with_reducible first | refine condP_t ?_ | refine condP_f ?_ | refine ifP_tt' ?_ | refine ifP_ff' ?_ | refine ifP_tf' ?_ | refine ifP_ft' ?_ | refine ifP_u' ?_ | refine optP_mk0 ?_))
                exact hj4 _ _ _ en' st' ru (by omega) (hf5.mono (by omega)) hk6 hE5 hY5 hen6 s5 f0 f1 f8 f9 f63 f64 f65 hru
        exact fin _ _ (by omega) f0 f1 f8 f9 f14 f63 f64 f65
    have hnpl : (posL (g.at x) nv)[8]? = some nv := rfl
    (repeat (first | refine bindP_mk (by simp (disch := first | omega | exact Int.natCast_nonneg _ | assumption) only [BB, B2, ↓reduceIte, Nat.reduceLeDiff, Nat.reduceAdd, CC, hlk3, nth0, nth1, nilCk_at, hb3, b265] <;> rfl) ?_ | refine newP_mk ?_ | refine optP_mk ?_ | with_reducible first | refine condP_t ?_ | refine condP_f ?_ | refine ifP_tt' ?_ | refine ifP_ff' ?_ | refine ifP_tf' ?_ | refine ifP_ft' ?_ | refine ifP_u' ?_ | refine optP_mk0 ?_))
    -- what stays
    have hst2 : ∀ (b : Bool), b = (decide (d = 0) || decide (d = 2)) → ∀ q, (if q = x then b else st q) = staysZ (D.take (i + 1)) q := fun b hb q => by
      rw [hst1, ← hst']
      by_cases hq9 : q = x
      · subst hq9; rw [if_pos rfl, hst', hst0, Bool.false_or, decide_eq_true rfl, Bool.true_and, hb]
      · rw [if_neg hq9, decide_eq_false (fun e => hq9 e.symm), Bool.false_and, Bool.or_false]
    rcases hdi with rfl | rfl | rfl | rfl
    · simp only [if_true, Option.isSome_none, Option.getD_none]
      obtain ⟨es, ec, p1, p2⟩ := hY3.put x false
      (repeat (first | refine bindP_mk (by simp (disch := first | omega | exact Int.natCast_nonneg _ | assumption) only [BB, B2, ↓reduceIte, Nat.reduceLeDiff, Nat.reduceAdd, CC, p1] <;> rfl) ?_ | refine newP_mk ?_ | refine optP_mk ?_ | with_reducible first | refine condP_t ?_ | refine condP_f ?_ | refine ifP_tt' ?_ | refine ifP_ff' ?_ | refine ifP_tf' ?_ | refine ifP_ft' ?_ | refine ifP_u' ?_ | refine optP_mk0 ?_))
      have g4 : (h3.upd yid (some (.map es ec))).get (nx' + 12) = _ := (T.get_upd_ne _ _ (by omega)).trans g3
      (repeat (first | refine bindP_mk (by simp (disch := first | omega | exact Int.natCast_nonneg _ | assumption) only [BB, B2, ↓reduceIte, Nat.reduceLeDiff, Nat.reduceAdd, CC, g4, hnpl, hnl] <;> rfl) ?_ | refine newP_mk ?_ | refine optP_mk ?_ | with_reducible first | refine condP_t ?_ | refine condP_f ?_ | refine ifP_tt' ?_ | refine ifP_ff' ?_ | refine ifP_tf' ?_ | refine ifP_ft' ?_ | refine ifP_u' ?_ | refine optP_mk0 ?_))
      exact hL3 _ _ _ _ (by omega) ((hf3.mono (by omega)).upd (Nat.le_refl _) (by omega)) (hk3.upd (by simp)) (((Sub.refl h3).keepL).upd (by simp)) (hE3.keep (by rw [T.get_upd_ne _ _ hey])) (p2 _ (by rw [T.get_upd_same])) (hst2 false rfl) (by decide) f0 f1 f8 f9 rfl f63 f64 f65 rfl rfl rfl
    · have e01 : ¬ ((0 : Int) = -1) := by decide
      simp only [if_neg e01, Option.isSome_some, Option.getD_some]
      obtain ⟨es, ec, p1, p2⟩ := hY3.put x true
      (repeat (first | refine bindP_mk (by simp (disch := first | omega | exact Int.natCast_nonneg _ | assumption) only [BB, B2, ↓reduceIte, Nat.reduceLeDiff, Nat.reduceAdd, CC, p1] <;> rfl) ?_ | refine newP_mk ?_ | refine optP_mk ?_ | with_reducible first | refine condP_t ?_ | refine condP_f ?_ | refine ifP_tt' ?_ | refine ifP_ff' ?_ | refine ifP_tf' ?_ | refine ifP_ft' ?_ | refine ifP_u' ?_ | refine optP_mk0 ?_))
      refine hj4 _ _ _ en _ ru (by omega) ((hf3.mono (by omega)).upd (Nat.le_refl _) (by omega)) (hk3.upd (by simp)) (hE3.keep (by rw [T.get_upd_ne _ _ hey])) (p2 _ (by rw [T.get_upd_same])) (fun q => ?_) (hst2 true rfl) f0 f1 f8 f9 f63 f64 f65 ?_
      · rw [hen', hen1]; simp
      · simpa using hru
    · have e01 : ¬ ((1 : Int) = -1) := by decide
      simp only [if_neg e01, Option.isSome_some, Option.getD_some]
      obtain ⟨es, ec, p1, p2⟩ := hY3.put x false
      (repeat (first | refine bindP_mk (by simp (disch := first | omega | exact Int.natCast_nonneg _ | assumption) only [BB, B2, ↓reduceIte, Nat.reduceLeDiff, Nat.reduceAdd, CC, p1] <;> rfl) ?_ | refine newP_mk ?_ | refine optP_mk ?_ | with_reducible first | refine condP_t ?_ | refine condP_f ?_ | refine ifP_tt' ?_ | refine ifP_ff' ?_ | refine ifP_tf' ?_ | refine ifP_ft' ?_ | refine ifP_u' ?_ | refine optP_mk0 ?_))
      have g4 : (h3.upd yid (some (.map es ec))).get (nx' + 12) = _ := (T.get_upd_ne _ _ (by omega)).trans g3
      (repeat (first | refine bindP_mk (by simp (disch := first | omega | exact Int.natCast_nonneg _ | assumption) only [BB, B2, ↓reduceIte, Nat.reduceLeDiff, Nat.reduceAdd, CC, g4, hnpl, hnl] <;> rfl) ?_ | refine newP_mk ?_ | refine optP_mk ?_ | with_reducible first | refine condP_t ?_ | refine condP_f ?_ | refine ifP_tt' ?_ | refine ifP_ff' ?_ | refine ifP_tf' ?_ | refine ifP_ft' ?_ | refine ifP_u' ?_ | refine optP_mk0 ?_))
      exact hL3 _ _ _ _ (by omega) ((hf3.mono (by omega)).upd (Nat.le_refl _) (by omega)) (hk3.upd (by simp)) (((Sub.refl h3).keepL).upd (by simp)) (hE3.keep (by rw [T.get_upd_ne _ _ hey])) (p2 _ (by rw [T.get_upd_same])) (hst2 false rfl) (by decide) f0 f1 f8 f9 rfl f63 f64 f65 rfl rfl rfl
    · have e01 : ¬ ((2 : Int) = -1) := by decide
      simp only [if_neg e01, Option.isSome_some, Option.getD_some]
      obtain ⟨es, ec, p1, p2⟩ := hY3.put x true
      (repeat (first | refine bindP_mk (by simp (disch := first | omega | exact Int.natCast_nonneg _ | assumption) only [BB, B2, ↓reduceIte, Nat.reduceLeDiff, Nat.reduceAdd, CC, p1] <;> rfl) ?_ | refine newP_mk ?_ | refine optP_mk ?_ | with_reducible first | refine condP_t ?_ | refine condP_f ?_ | refine ifP_tt' ?_ | refine ifP_ff' ?_ | refine ifP_tf' ?_ | refine ifP_ft' ?_ | refine ifP_u' ?_ | refine optP_mk0 ?_))
      have g4 : (h3.upd yid (some (.map es ec))).get (nx' + 12) = _ := (T.get_upd_ne _ _ (by omega)).trans g3
      (repeat (first | refine bindP_mk (by simp (disch := first | omega | exact Int.natCast_nonneg _ | assumption) only [BB, B2, ↓reduceIte, Nat.reduceLeDiff, Nat.reduceAdd, CC, g4, hnpl, hnl] <;> rfl) ?_ | refine newP_mk ?_ | refine optP_mk ?_ | with_reducible first | refine condP_t ?_ | refine condP_f ?_ | refine ifP_tt' ?_ | refine ifP_ff' ?_ | refine ifP_tf' ?_ | refine ifP_ft' ?_ | refine ifP_u' ?_ | refine optP_mk0 ?_))
      exact hL3 _ _ _ _ (by omega) ((hf3.mono (by omega)).upd (Nat.le_refl _) (by omega)) (hk3.upd (by simp)) (((Sub.refl h3).keepL).upd (by simp)) (hE3.keep (by rw [T.get_upd_ne _ _ hey])) (p2 _ (by rw [T.get_upd_same])) (hst2 true rfl) (by decide) f0 f1 f8 f9 rfl f63 f64 f65 rfl rfl rfl
  · refine condP_f ?_
    rw [drop_all (by omega)] at hru
    rw [List.take_of_length_le (by omega)] at hen' hst'
    have hru : ru = rf := hru
    subst hru
    exact hx _ _ _ _ (fun e => by cases e) (hQ _ _ _ en st (by omega) (hf'.mono (by omega)) hkp hE' hY' hen' hst' f0 f1 f9)
end
end V
end Go.Proofs.Ytmmdcdjkmakgpaa
set_option linter.unusedVariables false
set_option linter.unusedSimpArgs false
namespace Go.Proofs.Ytmmdcdjkmakgpaa
namespace V
open PA
attribute [local irreducible] bindP ifP condP newP optP exP beqP
theorem Grow.mono {h : T Obj} {lo lo' : Nat} {cs cs' : List (List Value)} {S S' : List StateD} (hg : Grow h lo cs cs' S S') (hl : lo' ≤ lo) : Grow h lo' cs cs' S S' := by
  obtain ⟨ds, T, h1, h2, h3, h4⟩ := hg
  exact ⟨ds, T, h1, h2, h3, fun i x s hx hs => (h4 i x s hx hs).mono hl⟩
theorem RowOwn.mono {h : T Obj} {lo lo' : Nat} {mcs : List (List Value)} {row : List MoveD} (hr : RowOwn h lo mcs row) (hl : lo' ≤ lo) : RowOwn h lo' mcs row := ⟨hr.1, fun i x m hx hm => by
  obtain ⟨ov, h1, h2⟩ := hr.2 i x m hx hm
  exact ⟨ov, h1, h2.mono hl⟩⟩
theorem digs_len (g : GlD) (l : List Int) (c : Int) : (digs g l c).length = l.length := by
  have := congrArg List.length (digs_fst g l c)
  simpa using this
section
variable {ro : Ro} {g : GlD} {bid nid kid eid yid sid k : Nat} {av bv fv cv lv rv uv wv : Value} {c : List Nat} {n : Int} {S : List StateD} {cs : List (List Value)}
set_option maxRecDepth 8000 in
set_option maxHeartbeats 2000000 in
theorem auto_code_c {s : StateD} {ws : List Value} {B : List Nat} {code : Int} {en0 st0 : Int → Bool} (hr : rightD g = true) (hBl : B.length ≤ 256) (hc0 : 0 ≤ code) (hc1 : code ≤ 255) (hey : eid ≠ yid) (hen : eid ≠ nid) (hek : eid ≠ kid) (hyn : yid ≠ nid) (hyk : yid ≠ kid)
    {h : T Obj} {nx : Nat} {K : KV} (hf : Fr h nx) (hB : Bd h g bid nid kid eid yid sid av bv fv c n cv S cs) (hE : BMap h eid en0) (hY : BMap h yid st0)
    (hP : SlR ro (del h (XL bid kid eid yid sid uv wv)) bv 9 (RPos ro (del h (XL bid kid eid yid sid uv wv))) g.p) (ha : ZI ro (del h (XL bid kid eid yid sid uv wv)) av g.first) (hfv : SlR ro (del h (XL bid kid eid yid sid uv wv)) fv 1 RU8 B)
    (hx : cs[k]? = some [lv, rv, uv, wv]) (hs : S[k]? = some s) (hlv : ZI ro (del h (XL bid kid eid yid sid uv wv)) lv s.l) (hrv : ZI ro (del h (XL bid kid eid yid sid uv wv)) rv s.r) (hz : rz (-1) g.p.length s.l = true) (hu : OwnT h uv 1 y_int (intsZ s.rule) 0) (hw : OwnT h wv 1 y_s_api_Move (onesC ws) 0) (hR : s.rule.length ≤ 1000000) (hws : ws.length ≤ 1000000)
    (hKe : (rowZ g (entersZ g k (digs g s.l code)) (staysZ (digs g s.l code)) B S).1 ≠ 0 → ∀ h' nx', nx ≤ nx' → Fr h' nx' → Keep [bid, kid, eid, yid, sid] h h' → K (.int .i64 (rowZ g (entersZ g k (digs g s.l code)) (staysZ (digs g s.l code)) B S).1) h' nx')
    (hK : (rowZ g (entersZ g k (digs g s.l code)) (staysZ (digs g s.l code)) B S).1 = 0 → ∀ h' nx' sid' cs' uv' wv' rowv mcs en st, nx ≤ nx' → Fr h' nx' → Keep (XL bid kid eid yid sid uv wv) h h' → (sid' = sid ∨ nx ≤ sid') → Bd h' g bid nid kid eid yid sid' av bv fv c n cv (rowZ g (entersZ g k (digs g s.l code)) (staysZ (digs g s.l code)) B S).2.2 (cs'.set k [lv, rv, uv', wv']) →
      Grow (del h' (XL bid kid eid yid sid' uv' wv')) nx cs cs' S (rowZ g (entersZ g k (digs g s.l code)) (staysZ (digs g s.l code)) B S).2.2 → OwnT h' uv' 1 y_int (intsZ (s.rule ++ [ruleZ g (-1) (digs g s.l code)])) nx → OwnT h' wv' 1 y_s_api_Move (onesC (ws ++ [rowv])) nx → OwnT (del h' (XL bid kid eid yid sid' uv' wv')) rowv 2 y_api_Move mcs nx →
      RowOwn (del h' (XL bid kid eid yid sid' uv' wv')) nx mcs (rowZ g (entersZ g k (digs g s.l code)) (staysZ (digs g s.l code)) B S).2.1 → BMap h' eid en → BMap h' yid st → K (.int .i64 0) h' nx') :
    callP Try.prog ro i_auto_builder_code [ptr bid, .int .i64 (k : Int), .int .i64 code] h nx K := by
  apply auto_builder_code_of
  unfold auto_builder_code
  obtain ⟨hgl, hfr, hmay⟩ := right_parts hr
  have hbk := hB.blk
  have hkl : k < cs.length := (List.getElem?_eq_some_iff.1 hx).1
  have b262 := bldL_262 (av := av) (bv := bv) (nv := .map (some nid)) (fv := fv) (n := n) (cv := cv) (sv := .slice (some (own sid 4)) cs.length cs.length) (kv := .map (some kid)) (ev := .map (some eid)) (yv := .map (some yid)) hB.hc
  have b264 := bldL_264 (av := av) (bv := bv) (nv := .map (some nid)) (fv := fv) (n := n) (cv := cv) (sv := .slice (some (own sid 4)) cs.length cs.length) (kv := .map (some kid)) (ev := .map (some eid)) (yv := .map (some yid)) hB.hc
  have b265 := bldL_265 (av := av) (bv := bv) (nv := .map (some nid)) (fv := fv) (n := n) (cv := cv) (sv := .slice (some (own sid 4)) cs.length cs.length) (kv := .map (some kid)) (ev := .map (some eid)) (yv := .map (some yid)) hB.hc
  have b0 := bldL_0 (av := av) (bv := bv) (nv := .map (some nid)) (fv := fv) (c := c) (n := n) (cv := cv) (sv := .slice (some (own sid 4)) cs.length cs.length) (kv := .map (some kid)) (ev := .map (some eid)) (yv := .map (some yid))
  have hix := ixSl_own' (id := sid) (z := 4) (cap := cs.length) hkl
  have hlda : loadA ro h 4 (at_ sid (k * 4) 0) = some (.agg #[lv, rv, uv, wv]) := by
    have := (hB.own.sl (ro := ro)).loadA hx
    rwa [elPtr_own] at this
  have hul := hu.ok
  have hwl := hw.ok
  have hXs : Sub (del h (XL bid kid eid yid sid uv wv)) h := del_sub _ _
  have hlvk := (hlv.sub hXs).ok
  have hrvk := (hrv.sub hXs).ok
  have hll : s.l.length ≤ 512 := by have := rz_lenN hz (by omega); omega
  obtain ⟨fe1, ce1, me1⟩ := hE.obj
  obtain ⟨fy1, cy1, my1⟩ := hY.obj
  have hel := hf.lt' me1
  have hyl := hf.lt' my1
  have hbid : eid ≠ bid ∧ yid ≠ bid ∧ eid ≠ sid ∧ yid ≠ sid := by
    have h1 := hB.blk
    have h2 := hB.row
    refine ⟨?_, ?_, ?_, ?_⟩ <;> rintro rfl
    · rw [me1] at h1; cases h1
    · rw [my1] at h1; cases h1
    · rw [me1] at h2; cases h2
    · rw [my1] at h2; cases h2
  have hXe : ∀ q, q ∈ [eid, yid] → q ∈ XL bid kid eid yid sid uv wv := by
    intro q hq
    unfold XL
    simp only [List.mem_cons, List.not_mem_nil, or_false] at hq
    simp only [List.mem_append, List.mem_cons, List.not_mem_nil, or_false]
    omega
  have hXb : ∀ q, q ∈ [bid, kid, sid] → q ∈ XL bid kid eid yid sid uv wv := by
    intro q hq
    unfold XL
    simp only [List.mem_cons, List.not_mem_nil, or_false] at hq
    simp only [List.mem_append, List.mem_cons, List.not_mem_nil, or_false]
    omega
  (repeat (first | refine bindP_mk (by simp (disch := first | omega | exact Int.natCast_nonneg _ | assumption) only [BB, B2, ↓reduceIte, Nat.reduceLeDiff, Nat.reduceAdd, CC, nilCk_at, hbk, b262, hix, hlda] <;> rfl) ?_ | refine newP_mk ?_ | refine optP_mk ?_ | with_reducible first | refine condP_t ?_ | refine condP_f ?_ | refine ifP_tt' ?_ | refine ifP_ff' ?_ | refine ifP_tf' ?_ | refine ifP_ft' ?_ | refine ifP_u' ?_ | refine optP_mk0 ?_))
  refine local_mk zer_State rfl (x := [lv, rv, uv, wv]) rfl rfl (by simp only [List.all_cons, List.all_nil, hul, hwl, hlvk, hrvk]; rfl) hf (show nx ≤ nx + 9 by omega) fun h9 hs9 hf9 g9 _ => ?_
  refine bindP_mk (loadA_all (l := [lv, rv, uv, wv]) g9 rfl) ?_
  obtain ⟨fn, hm1, hm2⟩ := hB.num
  refine auto_digits_c (g := g) (many := g.p.length) (by omega) hz hll hc0 hc1 (hf9.mono (show _ ≤ nx + 15 by omega)) (hs9 _ _ hbk) (hm1.sub hs9) hm2 ((hlv.sub hXs).sub hs9) fun h12 n13 did fd hn13 hs12 hf12 hd1 hd2 hmd hdo => ?_
  have hs := hs9.trans hs12
  have hb12 := hs _ _ hbk
  have hD1 := digs_fst g s.l code
  have hD2 := digs_snd g s.l code hc0
  have hD3 := digs_len g s.l code
  have hZd : ∀ q, entersZ g k (digs g s.l code) q = ((decide (k = 0) && g.first.contains q) || enD g (digs g s.l code) q) := fun q => rfl
  generalize digs g s.l code = D at hKe hK hdo hD1 hD2 hD3 hZd
  have hE12 : BMap h12 eid en0 := by obtain ⟨f, q1, q2⟩ := hE; exact ⟨f, q1.sub hs, q2⟩
  have hY12 : BMap h12 yid st0 := by obtain ⟨f, q1, q2⟩ := hY; exact ⟨f, q1.sub hs, q2⟩
  have hndid : did ≠ eid ∧ did ≠ yid := by omega
  obtain ⟨c1, p1⟩ := hE12.clear
  (repeat (first | refine bindP_mk (by simp (disch := first | omega | exact Int.natCast_nonneg _ | assumption) only [BB, B2, ↓reduceIte, Nat.reduceLeDiff, Nat.reduceAdd, CC, nilCk_at, hb12, b264, und_mib, p1] <;> rfl) ?_ | refine newP_mk ?_ | refine optP_mk ?_ | with_reducible first | refine condP_t ?_ | refine condP_f ?_ | refine ifP_tt' ?_ | refine ifP_ff' ?_ | refine ifP_tf' ?_ | refine ifP_ft' ?_ | refine ifP_u' ?_ | refine optP_mk0 ?_))
  have hb17 : (h12.upd eid (some (.map #[] c1))).get bid = _ := (T.get_upd_ne _ _ hbid.1.symm).trans hb12
  have hY17 : BMap (h12.upd eid (some (.map #[] c1))) yid st0 := hY12.keep (T.get_upd_ne _ _ hey.symm)
  obtain ⟨c2, p2⟩ := hY17.clear
  (repeat (first | refine bindP_mk (by simp (disch := first | omega | exact Int.natCast_nonneg _ | assumption) only [BB, B2, ↓reduceIte, Nat.reduceLeDiff, Nat.reduceAdd, CC, nilCk_at, hb17, b265, und_mib, p2] <;> rfl) ?_ | refine newP_mk ?_ | refine optP_mk ?_ | with_reducible first | refine condP_t ?_ | refine condP_f ?_ | refine ifP_tt' ?_ | refine ifP_ff' ?_ | refine ifP_tf' ?_ | refine ifP_ft' ?_ | refine ifP_u' ?_ | refine optP_mk0 ?_))
  have hk21 : Keep [eid, yid] h12 ((h12.upd eid (some (.map #[] c1))).upd yid (some (.map #[] c2))) := (((Sub.refl h12).keepL).upd (by simp)).upd (by simp)
  have hf21 : Fr ((h12.upd eid (some (.map #[] c1))).upd yid (some (.map #[] c2))) n13 := (hf12.upd (Nat.le_refl _) (by omega)).upd (Nat.le_refl _) (by omega)
  have hE21 : BMap ((h12.upd eid (some (.map #[] c1))).upd yid (some (.map #[] c2))) eid fun _ => false := BMap.new (c := c1) (by rw [T.get_upd_ne _ _ hey, T.get_upd_same])
  have hY21 : BMap ((h12.upd eid (some (.map #[] c1))).upd yid (some (.map #[] c2))) yid fun _ => false := BMap.new (c := c2) (by rw [T.get_upd_same])
  generalize (h12.upd eid (some (.map #[] c1))).upd yid (some (.map #[] c2)) = h21 at hk21 hf21 hE21 hY21
  have hBk : ∀ h4, Keep [eid, yid] h12 h4 → Bd h4 g bid nid kid eid yid sid av bv fv c n cv S cs := fun h4 hk4 => (hB.sub hs).keepN fun q o hq9 hd9 => hk4 q o hq9 (by
    simp only [List.mem_cons, List.not_mem_nil, or_false, not_or]
    rcases hd9 with rfl | rfl | rfl | rfl
    · exact ⟨hbid.1.symm, hbid.2.1.symm⟩
    · exact ⟨hen.symm, hyn.symm⟩
    · exact ⟨hek.symm, hyk.symm⟩
    · exact ⟨hbid.2.2.1.symm, hbid.2.2.2.symm⟩)
  -- behind the first places
  have hj1 : ∀ (e : Env) (h4 : T Obj) (n4 : Nat) (en1 : Int → Bool), n13 ≤ n4 → Fr h4 n4 → Keep [eid, yid] h12 h4 → BMap h4 eid en1 → BMap h4 yid (fun _ => false) → (∀ q, en1 q = (decide (k = 0) && g.first.contains q)) →
      e 0 = ptr bid → e 1 = .int .i64 (k : Int) → e 7 = ptr (nx + 9) → e 8 = .map (some did) → e 9 = .int .i64 (-1) → auto_builder_code_j1 ro K e h4 n4 := by
    intro e h4 n4 en1 hn4 hf4 hk4 hE4 hY4 hen1 f0 f1 f7 f8 f9
    have hkh4 : Keep [eid, yid] h h4 := (hs.keepL).trans hk4
    unfold auto_builder_code_j1
    rw [f7]
    have g4 : h4.get (nx + 9) = some (.cells [lv, rv, uv, wv].toArray y_api_State) := hk4 _ _ (hs12 _ _ g9) (by simp; omega)
    have hsD : Sub (del h (XL bid kid eid yid sid uv wv)) (del h4 [eid, yid]) := hkh4.del hXe fun q hq => .inl (hXe q hq)
    have hl4 : ZI ro (del h4 [eid, yid]) lv (D.map (·.1)) := by rw [hD1]; exact hlv.sub hsD
    have hlen4 := (hl4.sub (del_sub _ _)).len
    rw [List.length_map] at hlen4
    (repeat (first | refine bindP_mk (by simp (disch := first | omega | exact Int.natCast_nonneg _ | assumption) only [BB, B2, ↓reduceIte, Nat.reduceLeDiff, Nat.reduceAdd, CC, g4, hlen4] <;> rfl) ?_ | refine newP_mk ?_ | refine optP_mk ?_ | with_reducible first | refine condP_t ?_ | refine condP_f ?_ | refine ifP_tt' ?_ | refine ifP_ff' ?_ | refine ifP_tf' ?_ | refine ifP_ft' ?_ | refine ifP_u' ?_ | refine optP_mk0 ?_))
    have hmd4 : MapG injI h4 did fd := by
      obtain ⟨es, c9, ps, a1, a2, a3⟩ := hmd
      exact ⟨es, c9, ps, hk4 _ _ a1 (by simp [hndid.1, hndid.2]), a2, a3⟩
    refine code_L2_c (K := K) (k := k) hr (by rw [hD1]; exact hz) hD2 hey hen hek hyn hyk (hf4.mono (show n4 ≤ n4 + 4 by omega)) (hBk h4 hk4) hE4 hY4 hmd4 hdo hndid.1 hndid.2 (hP.sub hsD (RPos.sub hsD)) hl4 ?_ ?_ ?_ ?_ ?_ ?_ ?_ ?_
    · exact f0
    · exact f1
    · exact f8
    · exact f9
    · rfl
    · rfl
    · rfl
    intro e' h5 n5 en st hn5 hf5 hk5 hE5 hY5 hen5 hst5 f0 f1 f9
    refine exP_e (beqP_t ?_)
    have hkh5 : Keep [eid, yid] h h5 := hkh4.trans hk5
    have hsB : Sub (del h (XL bid kid eid yid sid uv wv)) (del h5 [bid, kid, sid]) := hkh5.del hXe fun q hq => .inl (hXb q hq)
    have hE5' : BMap h5 eid (entersZ g k D) := hE5.ext fun q => by rw [hen5, hen1, hZd]
    have hY5' : BMap h5 yid (staysZ D) := hY5.ext hst5
    have hu5 : OwnT h5 uv 1 y_int (intsZ s.rule) 0 := hu.keepK hkh5 fun id hid => by
      obtain ⟨_, z⟩ := hu.blk hid
      simp only [List.mem_cons, List.not_mem_nil, or_false, not_or]
      refine ⟨?_, ?_⟩ <;> rintro rfl
      · rw [me1] at z; cases z
      · rw [my1] at z; cases z
    have hw5 : OwnT h5 wv 1 y_s_api_Move (onesC ws) 0 := hw.keepK hkh5 fun id hid => by
      obtain ⟨_, z⟩ := hw.blk hid
      simp only [List.mem_cons, List.not_mem_nil, or_false, not_or]
      refine ⟨?_, ?_⟩ <;> rintro rfl
      · rw [me1] at z; cases z
      · rw [my1] at z; cases z
    refine code_j2_c hgl hBl hf5 (hBk h5 (hk4.trans hk5)) hE5' hY5' hek hyk (hP.sub hsB (RPos.sub hsB)) (hfv.sub hsB fun _ _ h => h) hx hu5 hw5 hR hws f0 f1 f9 (fun hz9 h' nx' q1 q2 q3 => ?_) fun hz9 h' nx' sid' cs' uv' wv' rowv mcs q1 q2 q3 q4 q5 q6 q7 q8 q9 q10 q11 q12 => ?_
    · refine hKe hz9 h' nx' (by omega) q2 ?_
      refine (hkh5.mono ?_).trans (q3.mono ?_)
      · intro q hq; simp only [List.mem_cons, List.not_mem_nil, or_false] at hq ⊢; omega
      · intro q hq; simp only [List.mem_cons, List.not_mem_nil, or_false] at hq ⊢; omega
    · refine hK hz9 h' nx' sid' cs' uv' wv' rowv mcs _ _ (by omega) q2 ?_ (by omega) q5 (q6.mono (by omega)) (q7.mono (by omega)) (q8.mono (by omega)) (q9.mono (by omega)) (q10.mono (by omega)) q11 q12
      refine (hkh5.mono hXe).trans (q3.mono ?_)
      intro q hq
      rcases List.mem_append.1 hq with hq | hq
      · exact hXb q hq
      · unfold XL; exact List.mem_append.2 (.inr hq)
  refine eql_s (fun hk0 => ?_) (fun hk0 => ?_)
  · have hk0 : k = 0 := by omega
    have hb21 := (hBk h21 hk21).blk
    have hsD21 : Sub (del h (XL bid kid eid yid sid uv wv)) h21 := ((hs.keepL).trans hk21).delS hXe
    have ha21 := ha.sub hsD21
    have hal := ha21.len
    have hfl : g.first.length ≤ 512 := by have := rz_lenN hfr (by omega); omega
    (repeat (first | refine bindP_mk (by simp (disch := first | omega | exact Int.natCast_nonneg _ | assumption) only [BB, B2, ↓reduceIte, Nat.reduceLeDiff, Nat.reduceAdd, CC, nilCk_at, hb21, b0, hal] <;> rfl) ?_ | refine newP_mk ?_ | refine optP_mk ?_ | with_reducible first | refine condP_t ?_ | refine condP_f ?_ | refine ifP_tt' ?_ | refine ifP_ff' ?_ | refine ifP_tf' ?_ | refine ifP_ft' ?_ | refine ifP_u' ?_ | refine optP_mk0 ?_))
    refine loopP_rule (fun j e h' nx' => ∃ (i : Nat) (en1 : Int → Bool), i + j = g.first.length ∧ n13 ≤ nx' ∧ Fr h' nx' ∧ Keep [eid, yid] h12 h' ∧ BMap h' eid en1 ∧ BMap h' yid (fun _ => false) ∧ (∀ q, en1 q = (g.first.take i).contains q) ∧
      e 0 = ptr bid ∧ e 1 = .int .i64 (k : Int) ∧ e 7 = ptr (nx + 9) ∧ e 8 = .map (some did) ∧ e 9 = .int .i64 (-1) ∧ e 50 = av ∧ e 51 = .int .i64 g.first.length ∧ e 52 = .int .i64 i) ?_ (n := g.first.length)
      ⟨0, _, by omega, by omega, hf21.mono (by omega), hk21, hE21, hY21, fun q => by simp, rfl, rfl, rfl, rfl, rfl, rfl, rfl, rfl⟩
    rintro j e h' nx' ⟨i, en1, hj, hnx, hf', hk', hE', hY', hen1, f0, f1, f7, f8, f9, f50, f51, f52⟩ Q' hq hx9
    have hb' := (hBk h' hk').blk
    have ha' := ha.sub (((hs.keepL).trans hk').delS hXe)
    unfold auto_builder_code_L4
    rw [f0, f50, f51, f52]
    have hel' : eid < nx' := by obtain ⟨_, _, q⟩ := hE'.obj; exact hf'.lt' q
    refine lss_s (fun hi => ?_) (fun hi => ?_)
    · have hi : i < g.first.length := by omega
      have hld := ha'.load hi
      have hct := contains_take hi
      generalize g.first[i] = q0 at hld hct
      refine condP_t (bindP_mk (ha'.ix _ hi) (bindP_mk hld ?_))
      obtain ⟨es, ec, r1, r2⟩ := hE'.put q0 true
      (repeat (first | refine bindP_mk (by simp (disch := first | omega | exact Int.natCast_nonneg _ | assumption) only [BB, B2, ↓reduceIte, Nat.reduceLeDiff, Nat.reduceAdd, CC, nilCk_at, hb', b264, r1] <;> rfl) ?_ | refine newP_mk ?_ | refine optP_mk ?_ | with_reducible first | refine condP_t ?_ | refine condP_f ?_ | refine ifP_tt' ?_ | refine ifP_ff' ?_ | refine ifP_tf' ?_ | refine ifP_ft' ?_ | refine ifP_u' ?_ | refine optP_mk0 ?_))
      refine hq (j - 1) _ _ _ _ (by omega) ⟨i + 1, _, by omega, by omega, (hf'.mono (show nx' ≤ nx' + 12 by omega)).upd (Nat.le_refl _) (by omega), hk'.upd (by simp), r2 _ (by rw [T.get_upd_same]), hY'.keep (by rw [T.get_upd_ne _ _ hey.symm]), fun q => ?_, f0, f1, f7, f8, f9, f50, f51, rfl⟩ (Sub.refl _)
      show (if q = q0 then true else en1 q) = _
      rw [hct, hen1]
      by_cases hqq : q = q0
      · rw [if_pos hqq, decide_eq_true hqq]; simp
      · rw [if_neg hqq, decide_eq_false hqq, Bool.or_false]
    · refine condP_f ?_
      refine hx9 _ _ _ _ (fun e => by cases e) (exP_e (beqP_t ?_))
      rw [List.take_of_length_le (by omega)] at hen1
      exact hj1 _ _ _ en1 (by omega) (hf'.mono (by omega)) hk' hE' hY' (fun q => by rw [hen1, decide_eq_true hk0, Bool.true_and]) f0 f1 f7 f8 f9
  · have hk0 : ¬ k = 0 := by omega
    (repeat (first | refine bindP_mk (by simp (disch := first | omega | exact Int.natCast_nonneg _ | assumption) only [BB, B2, ↓reduceIte, Nat.reduceLeDiff, Nat.reduceAdd, CC] <;> rfl) ?_ | refine newP_mk ?_ | refine optP_mk ?_ | with_reducible first | refine condP_t ?_ | refine condP_f ?_ | refine ifP_tt' ?_ | refine ifP_ff' ?_ | refine ifP_tf' ?_ | refine ifP_ft' ?_ | refine ifP_u' ?_ | refine optP_mk0 ?_))
    exact hj1 _ _ _ _ (by omega) (hf21.mono (by omega)) hk21 hE21 hY21 (fun q => by rw [decide_eq_false hk0, Bool.false_and]) rfl rfl rfl rfl rfl
end
end V
end Go.Proofs.Ytmmdcdjkmakgpaa
set_option linter.unusedVariables false
set_option linter.unusedSimpArgs false
namespace Go.Proofs.Ytmmdcdjkmakgpaa
namespace V
open PA
attribute [local irreducible] bindP ifP condP newP optP exP beqP
def SOk (g : GlD) (S : List StateD) : Prop := ∀ s ∈ S, rz (-1) g.p.length s.l = true ∧ s.r = regsZ g s.l ∧ s.r.length ≤ 3
theorem findZ_ok {g : GlD} {S : List StateD} {l : List Int} (hS : SOk g S) (hl : rz (-1) g.p.length l = true) : SOk g (findZ g S l).2.2 := by
  unfold findZ
  split
  · exact hS
  · split
    · exact hS
    · split
      · exact hS
      · intro s hs
        rcases List.mem_append.1 hs with hs | hs
        · exact hS s hs
        · simp at hs; subst hs
          exact ⟨hl, rfl, by show (regsZ g l).length ≤ 3; omega⟩
theorem goesZ_ok {g : GlD} {en st : Int → Bool} {b : Nat} {S : List StateD} (hS : SOk g S) : SOk g (goesZ g en st b S).2.2 := by
  by_cases h : lZ g en st b = []
  · rw [goesZ_nil h]; exact hS
  · rw [goesZ_ne h]; exact findZ_ok hS (lZ_rz _ _ _ _)
theorem rowZ_ok {g : GlD} {en st : Int → Bool} : ∀ {B : List Nat} {S : List StateD}, SOk g S → SOk g (rowZ g en st B S).2.2
  | [], S, hS => hS
  | b :: r, S, hS => by
    rw [rowZ_cons]
    split
    · exact rowZ_ok (goesZ_ok hS)
    · exact hS
theorem opZ_lt (en st : Int → Bool) (q : Int) : opZ en st q < 256 := by
  unfold opZ
  split
  · split <;> omega
  · omega
theorem goesZ_ops {g : GlD} (hg : g.p.length ≤ 512) {en st : Int → Bool} {b : Nat} {S : List StateD} : (∀ o ∈ (goesZ g en st b S).1.ops, o < 256) ∧ (goesZ g en st b S).1.ops.length ≤ 512 := by
  by_cases h : lZ g en st b = []
  · rw [goesZ_nil h]; exact ⟨fun o ho => (by cases ho), by simp⟩
  · rw [goesZ_ne h]
    refine ⟨fun o ho => ?_, ?_⟩
    · have ho : o ∈ opsZ g en st (lZ g en st b) := ho
      unfold opsZ at ho
      obtain ⟨q, _, rfl⟩ := List.mem_map.1 ho
      exact opZ_lt _ _ _
    · have h1 := opsZ_len g en st (lZ g en st b)
      have h2 := lZ_len g en st b
      show (opsZ g en st (lZ g en st b)).length ≤ 512
      omega
theorem rowZ_ops {g : GlD} (hg : g.p.length ≤ 512) {en st : Int → Bool} : ∀ {B : List Nat} {S : List StateD}, (∀ m ∈ (rowZ g en st B S).2.1, (∀ o ∈ m.ops, o < 256) ∧ m.ops.length ≤ 512) ∧ (rowZ g en st B S).2.1.length ≤ B.length
  | [], S => ⟨fun m hm => (by cases hm), Nat.le_refl _⟩
  | b :: r, S => by
    rw [rowZ_cons]
    split
    · obtain ⟨h1, h2⟩ := rowZ_ops hg (en := en) (st := st) (B := r) (S := (goesZ g en st b S).2.2)
      refine ⟨fun m hm => ?_, ?_⟩
      · rcases List.mem_cons.1 hm with rfl | hm
        · exact goesZ_ops hg
        · exact h1 m hm
      · simp only [List.length_cons]; omega
    · exact ⟨fun m hm => (by cases hm), Nat.zero_le _⟩
theorem modify_ok {g : GlD} {S : List StateD} (hS : SOk g S) (k : Nat) (rule : Int) (row : List MoveD) : SOk g (S.modify k (addRow rule row)) := by
  intro s hs
  obtain ⟨i, hi⟩ := List.mem_iff_getElem?.1 hs
  rw [List.getElem?_modify] at hi
  cases hq : S[i]? with
  | none => rw [hq] at hi; cases hi
  | some t =>
    rw [hq] at hi
    have ht := hS t (List.mem_of_getElem? hq)
    have hi := Option.some.inj hi
    split at hi
    · rw [← hi]; exact ht
    · have hi : t = s := hi
      rw [← hi]; exact ht
theorem codeZ_ok {g : GlD} {B : List Nat} {k : Nat} {c : Int} {S : List StateD} (hS : SOk g S) : SOk g (codeZ g B k c S).2 := by
  unfold codeZ
  dsimp only
  split
  · exact modify_ok (rowZ_ok hS) _ _ _
  · exact hS
theorem modify_ne {S : List StateD} {f : StateD → StateD} {i k : Nat} (h : i ≠ k) : (S.modify k f)[i]? = S[i]? := by
  rw [List.getElem?_modify]
  cases S[i]? with
  | none => rfl
  | some t => show some (if k = i then f t else t) = some t; rw [if_neg (Ne.symm h)]
theorem modify_self {S : List StateD} {f : StateD → StateD} {k : Nat} : (S.modify k f)[k]? = (S[k]?).map f := by
  rw [List.getElem?_modify]
  cases S[k]? with
  | none => rfl
  | some t => show some (if k = k then f t else t) = some (f t); rw [if_pos rfl]
theorem OwnT.updLo {h : T Obj} {v : Value} {z i : Nat} {e : TypeId} {l : List (List Value)} {lo : Nat} {o : Option Obj} (ho : OwnT h v z e l lo) (hi : i < lo) : OwnT (h.upd i o) v z e l lo := by
  rcases ho with ho | ⟨id, h1, rfl, h4, h5⟩
  · exact .inl ho
  · exact .inr ⟨id, h1, rfl, h4, by rw [T.get_upd_ne _ _ (by omega)]; exact h5⟩
structure StR (ro : Ro) (h : T Obj) (X : List Nat) (k : Nat) (uv wv lv rv : Value) (S : List StateD) (cs : List (List Value)) (s : StateD) (ws : List Value) : Prop where
  other : ∀ (i : Nat) x t, i ≠ k → cs[i]? = some x → S[i]? = some t → RState ro (del h X) x t
  tail : ∀ (i : Nat) x t, k < i → cs[i]? = some x → S[i]? = some t → (∃ lv rv, x = [lv, rv, nilS, nilS]) ∧ t.rule = [] ∧ t.next = []
  hx : cs[k]? = some [lv, rv, uv, wv]
  hs : S[k]? = some s
  l : ZI ro (del h X) lv s.l
  r : ZI ro (del h X) rv s.r
  u : OwnT h uv 1 y_int (intsZ s.rule) 0
  w : OwnT h wv 1 y_s_api_Move (onesC ws) 0
  rl : ws.length = s.next.length
  rows : ∀ (i : Nat) v row, ws[i]? = some v → s.next[i]? = some row → RRow ro (del h X) [v] row
theorem ops_R {ro : Ro} {h : T Obj} {v : Value} {l : List Nat} {lo : Nat} (ho : OwnT h v 1 y_uint8 (opsC l) lo) (hl : ∀ o ∈ l, o < 256) : SlR ro h v 1 RU8 l := ⟨opsC l, ho.sl, opsC_len l, fun i x d hx hd => by
  unfold opsC at hx
  rw [List.getElem?_map, hd] at hx
  exact ⟨(Option.some.inj hx).symm, hl d (List.mem_of_getElem? hd)⟩⟩
theorem row_R {ro : Ro} {h : T Obj} {v : Value} {lo : Nat} {mcs : List (List Value)} {row : List MoveD} (ho : OwnT h v 2 y_api_Move mcs lo) (hr : RowOwn h lo mcs row) (hl : ∀ m ∈ row, (∀ o ∈ m.ops, o < 256) ∧ m.ops.length ≤ 512) (hb : row.length ≤ 1000000) : RRow ro h [v] row :=
  ⟨v, rfl, ⟨mcs, ho.sl, hr.1, fun i x m hx hm => by
    obtain ⟨ov, h1, h2⟩ := hr.2 i x m hx hm
    obtain ⟨h3, h4⟩ := hl m (List.mem_of_getElem? hm)
    exact ⟨ov, h1, ops_R h2 h3, by unfold maxB; omega⟩⟩, by unfold maxB; omega⟩
theorem new_R {ro : Ro} {h : T Obj} {x : List Value} {t : StateD} {lo : Nat} (hn : NewSt h lo x t) (hr : t.r.length ≤ 3) : RState ro h x t := by
  obtain ⟨lv, rv, h1, h2, h3, h4, h5⟩ := hn
  refine ⟨lv, rv, nilS, nilS, h1, h2.sl, h3.sl, ?_, ?_, by unfold maxB; omega⟩
  · rw [h4]; exact Sl.nil
  · rw [h5]; exact SlR.nil
section
variable {ro : Ro} {g : GlD} {bid nid kid eid yid sid k : Nat} {av bv fv cv lv rv uv wv : Value} {c : List Nat} {n : Int} {S : List StateD} {cs : List (List Value)} {s : StateD} {ws : List Value}
set_option maxHeartbeats 1000000 in
theorem StR.step {h h' : T Obj} {nx sid' rid : Nat} {uv' wv' rowv : Value} {S' : List StateD} {cs' mcs : List (List Value)} {rule : Int} {row : List MoveD} (hrid : rid < nx) (hSR : StR ro h (rid :: XL bid kid eid yid sid uv wv) k uv wv lv rv S cs s ws) (hf : Fr h nx) (hk : Keep (XL bid kid eid yid sid uv wv) h h') (hsd : sid' = sid ∨ nx ≤ sid') (hlen : cs.length = S.length)
    (hg : Grow (del h' (XL bid kid eid yid sid' uv' wv')) nx cs cs' S S') (hu : OwnT h' uv' 1 y_int (intsZ (s.rule ++ [rule])) nx) (hw : OwnT h' wv' 1 y_s_api_Move (onesC (ws ++ [rowv])) nx) (hro : OwnT (del h' (XL bid kid eid yid sid' uv' wv')) rowv 2 y_api_Move mcs nx) (hrw : RowOwn (del h' (XL bid kid eid yid sid' uv' wv')) nx mcs row)
    (hok : ∀ t ∈ S', t.r.length ≤ 3) (hops : ∀ m ∈ row, (∀ o ∈ m.ops, o < 256) ∧ m.ops.length ≤ 512) (hrl : row.length ≤ 1000000) :
    Sub (del h (rid :: XL bid kid eid yid sid uv wv)) (del h' (rid :: XL bid kid eid yid sid' uv' wv')) ∧ StR ro h' (rid :: XL bid kid eid yid sid' uv' wv') k uv' wv' lv rv (S'.modify k (addRow rule row)) (cs'.set k [lv, rv, uv', wv']) (addRow rule row s) (ws ++ [rowv]) := by
  have hg : Grow (del h' (rid :: XL bid kid eid yid sid' uv' wv')) nx cs cs' S S' := by
    obtain ⟨ds, T, a1, a2, a3, a4⟩ := hg
    refine ⟨ds, T, a1, a2, a3, fun i x t hx ht => ?_⟩
    obtain ⟨lv, rv, h1, h2, h3, h4⟩ := a4 i x t hx ht
    exact ⟨lv, rv, h1, h2.updLo hrid, h3.updLo hrid, h4⟩
  have hro : OwnT (del h' (rid :: XL bid kid eid yid sid' uv' wv')) rowv 2 y_api_Move mcs nx := hro.updLo hrid
  have hrw : RowOwn (del h' (rid :: XL bid kid eid yid sid' uv' wv')) nx mcs row := ⟨hrw.1, fun i x m hx hm => by
    obtain ⟨ov, h1, h2⟩ := hrw.2 i x m hx hm
    exact ⟨ov, h1, h2.updLo hrid⟩⟩
  have hsub : Sub (del h (rid :: XL bid kid eid yid sid uv wv)) (del h' (rid :: XL bid kid eid yid sid' uv' wv')) := hk.del (fun _ h => List.mem_cons_of_mem _ h) fun q hq => by
    rcases List.mem_cons.1 hq with hq | hq
    · exact .inl (List.mem_cons.2 (.inl hq))
    unfold XL at hq
    simp only [List.mem_append, List.mem_cons, List.not_mem_nil, or_false, Option.mem_toList] at hq
    have hin : ∀ q, (q = bid ∨ q = kid ∨ q = eid ∨ q = yid ∨ q = sid) → q ∈ rid :: XL bid kid eid yid sid uv wv := fun q hq => by
      refine List.mem_cons_of_mem _ ?_
      unfold XL
      simp only [List.mem_append, List.mem_cons, List.not_mem_nil, or_false]
      exact .inl hq
    rcases hq with (hq | hq | hq | hq | hq) | hq | hq
    · exact .inl (hin _ (.inl hq))
    · exact .inl (hin _ (.inr (.inl hq)))
    · exact .inl (hin _ (.inr (.inr (.inl hq))))
    · exact .inl (hin _ (.inr (.inr (.inr (.inl hq)))))
    · rcases hsd with hsd | hsd
      · exact .inl (hin _ (.inr (.inr (.inr (.inr (hq.trans hsd))))))
      · exact .inr (hf q (by omega))
    · exact .inr (hf q (hu.blk hq).1)
    · exact .inr (hf q (hw.blk hq).1)
  refine ⟨hsub, ?_⟩
  have hkl := (List.getElem?_eq_some_iff.1 hSR.hx).1
  have hgg := hg
  obtain ⟨ds, T, a1, a2, a3, a4⟩ := hgg
  have hS'k : S'[k]? = some s := by rw [a2, List.getElem?_append_left (by omega)]; exact hSR.hs
  refine ⟨fun i x t hi hx ht => ?_, fun i x t hi hx ht => ?_, ?_, ?_, hSR.l.sub hsub, hSR.r.sub hsub, hu.mono (Nat.zero_le _), hw.mono (Nat.zero_le _), ?_, fun i v r9 hv hr9 => ?_⟩
  · rw [List.getElem?_set_ne (Ne.symm hi)] at hx
    rw [modify_ne hi] at ht
    rcases Nat.lt_or_ge i cs.length with hil | hil
    · rw [a1, List.getElem?_append_left hil] at hx
      rw [a2, List.getElem?_append_left (by omega)] at ht
      exact RState.sub hsub _ _ (hSR.other i x t hi hx ht)
    · have htm := List.mem_of_getElem? ht
      rw [a1, List.getElem?_append_right hil] at hx
      rw [a2, List.getElem?_append_right (by omega), ← hlen] at ht
      exact new_R (a4 _ x t hx ht) (hok t htm)
  · rw [List.getElem?_set_ne (by omega)] at hx
    rw [modify_ne (by omega)] at ht
    rcases Nat.lt_or_ge i cs.length with hil | hil
    · rw [a1, List.getElem?_append_left hil] at hx
      rw [a2, List.getElem?_append_left (by omega)] at ht
      exact hSR.tail i x t hi hx ht
    · rw [a1, List.getElem?_append_right hil] at hx
      rw [a2, List.getElem?_append_right (by omega), ← hlen] at ht
      obtain ⟨lv, rv, q1, q2, q3, q4, q5⟩ := a4 _ x t hx ht
      exact ⟨⟨lv, rv, q1⟩, q4, q5⟩
  · rw [List.getElem?_set_self (by rw [a1]; simp; omega)]
  · rw [modify_self, hS'k]; rfl
  · have := hSR.rl
    show (ws ++ [rowv]).length = (s.next ++ [row]).length
    simp [this]
  · have hr9 : (s.next ++ [row])[i]? = some r9 := hr9
    rcases Nat.lt_or_ge i ws.length with hil | hil
    · rw [List.getElem?_append_left hil] at hv
      rw [List.getElem?_append_left (by have := hSR.rl; omega)] at hr9
      exact RRow.sub hsub _ _ (hSR.rows i v r9 hv hr9)
    · rw [List.getElem?_append_right hil] at hv
      rw [List.getElem?_append_right (by have := hSR.rl; omega), ← hSR.rl] at hr9
      generalize i - ws.length = j at hv hr9
      cases j with
      | succ j => simp at hv
      | zero =>
        simp at hv hr9
        subst hv; subst hr9
        exact row_R hro hrw hops hrl
theorem Bd.modS {h : T Obj} {S' : List StateD} (hB : Bd h g bid nid kid eid yid sid av bv fv c n cv S cs) (hl : S'.length = S.length) (hi : ∀ l, S'.findIdx? (isL l) = S.findIdx? (isL l)) : Bd h g bid nid kid eid yid sid av bv fv c n cv S' cs := by
  obtain ⟨f2, k1, k2⟩ := hB.known
  exact ⟨hB.hc, hB.blk, hB.num, ⟨f2, k1, fun l h1 h2 => by rw [hi]; exact k2 l h1 h2⟩, hB.row, hB.z4, by rw [hl]; exact hB.len, by rw [hl]; exact hB.few, by rw [hl]; exact hB.pos, hB.nk⟩
theorem findIdx_modify (k : Nat) (f : StateD → StateD) (l : List Int) (hf : ∀ s, isL l (f s) = isL l s) : ∀ (S : List StateD), (S.modify k f).findIdx? (isL l) = S.findIdx? (isL l) := by
  intro S
  induction S generalizing k with
  | nil => cases k <;> simp
  | cons s S ih =>
    cases k with
    | zero => rw [List.modify_zero_cons, List.findIdx?_cons, List.findIdx?_cons, hf]
    | succ k => rw [List.modify_succ_cons, List.findIdx?_cons, List.findIdx?_cons, ih]
theorem XL5 : XL bid kid eid yid sid nilS nilS = [bid, kid, eid, yid, sid] := rfl
set_option maxHeartbeats 1000000 in
theorem code_SR {B : List Nat} {code : Int} {en0 st0 : Int → Bool} {hb : T Obj} {rid : Nat} {ra : Array Value} (hr : rightD g = true) (hBl : B.length ≤ 256) (hc0 : 0 ≤ code) (hc1 : code ≤ 255) (hey : eid ≠ yid) (hen : eid ≠ nid) (hek : eid ≠ kid) (hyn : yid ≠ nid) (hyk : yid ≠ kid)
    {h : T Obj} {nx : Nat} {K : KV} (hf : Fr h nx) (hB : Bd h g bid nid kid eid yid sid av bv fv c n cv S cs) (hE : BMap h eid en0) (hY : BMap h yid st0) (hri : h.get rid = some (.cells ra y_api_Auto)) (hbs : Sub hb (del h (rid :: XL bid kid eid yid sid uv wv)))
    (hP : SlR ro hb bv 9 (RPos ro hb) g.p) (ha : ZI ro hb av g.first) (hfv : SlR ro hb fv 1 RU8 B) (hSR : StR ro h (rid :: XL bid kid eid yid sid uv wv) k uv wv lv rv S cs s ws) (hOk : SOk g S) (hrl : s.rule.length ≤ 1000000) (hwl : ws.length ≤ 1000000)
    (hKe : (codeZ g B k code S).1 ≠ 0 → ∀ h' nx', nx ≤ nx' → Fr h' nx' → Sub hb h' → h'.get rid = some (.cells ra y_api_Auto) → K (.int .i64 (codeZ g B k code S).1) h' nx')
    (hK : (codeZ g B k code S).1 = 0 → ∀ h' nx' sid' cs' uv' wv' ws' s' en st, nx ≤ nx' → Fr h' nx' → h'.get rid = some (.cells ra y_api_Auto) → Sub hb (del h' (rid :: XL bid kid eid yid sid' uv' wv')) → Bd h' g bid nid kid eid yid sid' av bv fv c n cv (codeZ g B k code S).2 cs' → StR ro h' (rid :: XL bid kid eid yid sid' uv' wv') k uv' wv' lv rv (codeZ g B k code S).2 cs' s' ws' →
      s'.l = s.l → s'.rule.length = s.rule.length + 1 → ws'.length = ws.length + 1 → BMap h' eid en → BMap h' yid st → K (.int .i64 0) h' nx') :
    callP Try.prog ro i_auto_builder_code [ptr bid, .int .i64 (k : Int), .int .i64 code] h nx K := by
  obtain ⟨hgl, hfr, hmay⟩ := right_parts hr
  have hbs0 : Sub hb (del h (XL bid kid eid yid sid uv wv)) := hbs.trans (del_mono fun q hq => List.mem_cons_of_mem _ hq)
  have hd0 : Sub (del h (rid :: XL bid kid eid yid sid uv wv)) (del h (XL bid kid eid yid sid uv wv)) := del_mono fun q hq => List.mem_cons_of_mem _ hq
  have hrn : rid ∉ XL bid kid eid yid sid uv wv := by
    have m4 := hB.blk
    have m5 := hB.row
    obtain ⟨_, _, m1⟩ := hE.obj
    obtain ⟨_, _, m2⟩ := hY.obj
    obtain ⟨f2, k1, k2⟩ := hB.known
    obtain ⟨_, _, m3⟩ := k1.obj
    unfold XL
    simp only [List.mem_append, List.mem_cons, List.not_mem_nil, or_false, Option.mem_toList, not_or]
    refine ⟨⟨?_, ?_, ?_, ?_, ?_⟩, ?_, ?_⟩
    · rintro rfl
      rw [hri] at m4
      simp only [Option.some.injEq, Obj.cells.injEq] at m4
      exact absurd m4.2.1 (by decide)
    · rintro rfl; rw [hri] at m3; cases m3
    · rintro rfl; rw [hri] at m1; cases m1
    · rintro rfl; rw [hri] at m2; cases m2
    · rintro rfl
      rw [hri] at m5
      simp only [Option.some.injEq, Obj.cells.injEq] at m5
      exact absurd m5.2.1 (by decide)
    · exact hSR.u.neB hri (by intro c f e; simp only [Obj.cells.injEq] at e; exact absurd e.2.1 (by decide))
    · exact hSR.w.neB hri (by intro c f e; simp only [Obj.cells.injEq] at e; exact absurd e.2.1 (by decide))
  have hsm := List.mem_of_getElem? hSR.hs
  have hlk : lAt S k = s.l := by unfold lAt; rw [List.getD_eq_getElem?_getD, hSR.hs]; rfl
  have hcz : codeZ g B k code S = if (rowZ g (entersZ g k (digs g s.l code)) (staysZ (digs g s.l code)) B S).1 = 0 then (0, (rowZ g (entersZ g k (digs g s.l code)) (staysZ (digs g s.l code)) B S).2.2.modify k (addRow (ruleZ g (-1) (digs g s.l code)) (rowZ g (entersZ g k (digs g s.l code)) (staysZ (digs g s.l code)) B S).2.1)) else ((rowZ g (entersZ g k (digs g s.l code)) (staysZ (digs g s.l code)) B S).1, S) := by
    unfold codeZ; rw [hlk]
  have hrk := rowZ_ok (en := entersZ g k (digs g s.l code)) (st := staysZ (digs g s.l code)) (B := B) hOk
  have hop := rowZ_ops hgl (en := entersZ g k (digs g s.l code)) (st := staysZ (digs g s.l code)) (B := B) (S := S)
  refine auto_code_c hr hBl hc0 hc1 hey hen hek hyn hyk hf hB hE hY (hP.sub hbs0 (RPos.sub hbs0)) (ha.sub hbs0) (hfv.sub hbs0 fun _ _ h => h) hSR.hx hSR.hs (hSR.l.sub hd0) (hSR.r.sub hd0) (hOk s hsm).1 hSR.u hSR.w hrl hwl (fun hz h' nx' q1 q2 q3 => ?_) fun hz h' nx' sid' cs' uv' wv' rowv mcs en st q1 q2 q3 q4 q5 q6 q7 q8 q9 q10 q11 q12 => ?_
  · rw [hcz, if_neg hz] at hKe
    refine hKe hz h' nx' q1 q2 (hbs0.trans (q3.delS fun q hq => ?_)) (q3 _ _ hri fun hm => hrn ?_)
    · unfold XL
      exact List.mem_append.2 (.inl hq)
    · unfold XL
      exact List.mem_append.2 (.inl hm)
  · rw [hcz, if_pos hz] at hK
    generalize rowZ g (entersZ g k (digs g s.l code)) (staysZ (digs g s.l code)) B S = Z at *
    obtain ⟨r1, r2⟩ := StR.step (rid := rid) (rule := ruleZ g (-1) (digs g s.l code)) (row := Z.2.1) (hf.lt' hri) hSR hf q3 q4 hB.len q6 q7 q8 q9 q10 (fun t ht => (hrk t ht).2.2) hop.1 (by have := hop.2; omega)
    refine hK rfl h' nx' sid' _ uv' wv' _ _ en st q1 q2 (q3 _ _ hri hrn) (hbs.trans r1) (q5.modS (by simp) fun l => findIdx_modify k (addRow (ruleZ g (-1) (digs g s.l code)) Z.2.1) l (fun _ => rfl) _) r2 rfl (by show (s.rule ++ [_]).length = _; simp) (by simp) q11 q12
end
end V
end Go.Proofs.Ytmmdcdjkmakgpaa
set_option linter.unusedVariables false
set_option linter.unusedSimpArgs false
namespace Go.Proofs.Ytmmdcdjkmakgpaa
namespace V
open PA
attribute [local irreducible] bindP ifP condP newP optP exP beqP
def autZ : List Value := autL (List.replicate 256 0) 0 nilS nilS
theorem zer_Auto : zer Try.prog y_api_Auto = some (.agg autZ.toArray) := by kernel_rfl
theorem build_Auto0 : buildV Try.prog y_api_Auto [] = some (.agg autZ.toArray) := by kernel_rfl
theorem autZ_len : autZ.length = 259 := autL_len List.length_replicate
theorem autZ_ok : autZ.all cellOk = true := autL_ok rfl rfl
theorem codesZ_succ (g : GlD) (B : List Nat) (k m : Nat) (c : Int) (S : List StateD) : codesZ g B k (m + 1) c S = if (codeZ g B k c S).1 = 0 then codesZ g B k m (c + 1) (codeZ g B k c S).2 else ((codeZ g B k c S).1, S) := rfl
theorem allZ_succ (g : GlD) (B : List Nat) (m k : Nat) (S : List StateD) : allZ g B (m + 1) k S = if k < S.length then (if (codesZ g B k (codesD (S.getD k noS).r.length).toNat 0 S).1 = 0 then allZ g B m (k + 1) (codesZ g B k (codesD (S.getD k noS).r.length).toNat 0 S).2 else ((codesZ g B k (codesD (S.getD k noS).r.length).toNat 0 S).1, S)) else (0, S) := rfl
structure Fz (ro : Ro) (h : T Obj) (X : List Nat) (k : Nat) (S : List StateD) (cs : List (List Value)) : Prop where
  all : ∀ (i : Nat) x t, cs[i]? = some x → S[i]? = some t → RState ro (del h X) x t
  tail : ∀ (i : Nat) x t, k ≤ i → cs[i]? = some x → S[i]? = some t → (∃ lv rv, x = [lv, rv, nilS, nilS]) ∧ t.rule = [] ∧ t.next = []
section
variable {ro : Ro} {g : GlD} {bid nid kid eid yid k rid : Nat} {av bv fv cv : Value} {c : List Nat} {n : Int} {B : List Nat} {hb : T Obj}
set_option maxRecDepth 8000 in
set_option maxHeartbeats 1000000 in
theorem Of_L2_c {sid : Nat} {uv wv lv rv : Value} {S : List StateD} {cs : List (List Value)} {s : StateD} {ws : List Value} {en0 st0 : Int → Bool} {e : Env} {N : Nat} (hr : rightD g = true) (hBl : B.length ≤ 256) (hN : N ≤ 27) (hey : eid ≠ yid) (hen : eid ≠ nid) (hek : eid ≠ kid) (hyn : yid ≠ nid) (hyk : yid ≠ kid)
    (hP : SlR ro hb bv 9 (RPos ro hb) g.p) (ha : ZI ro hb av g.first) (hfv : SlR ro hb fv 1 RU8 B) 
    {h : T Obj} {nx : Nat} {Q : KE} (hf : Fr h nx) (hrid : h.get rid = some (.cells autZ.toArray y_api_Auto)) (hB : Bd h g bid nid kid eid yid sid av bv fv c n cv S cs) (hE : BMap h eid en0) (hY : BMap h yid st0) (hbs : Sub hb (del h (rid :: XL bid kid eid yid sid uv wv)))
    (hSR : StR ro h (rid :: XL bid kid eid yid sid uv wv) k uv wv lv rv S cs s ws) (hOk : SOk g S) (hrl : s.rule.length ≤ 1000) (hwl : ws.length ≤ 1000)
    (e2 : e 2 = ptr rid) (e4 : e 4 = ptr bid) (e8 : e 8 = .int .i64 (k : Int)) (e107 : e 107 = .int .i64 (N : Int)) (e108 : e 108 = .int .i64 0)
    (hQe : (codesZ g B k N 0 S).1 ≠ 0 → ∀ e' h' nx', nx ≤ nx' → Fr h' nx' → Sub hb h' → h'.get rid = some (.cells autZ.toArray y_api_Auto) → e' 2 = ptr rid → e' 3 = .int .i64 (codesZ g B k N 0 S).1 → Q .ret e' h' nx')
    (hQ : (codesZ g B k N 0 S).1 = 0 → ∀ e' h' nx' sid' cs' uv' wv' ws' s' en st, nx ≤ nx' → Fr h' nx' → h'.get rid = some (.cells autZ.toArray y_api_Auto) → Sub hb (del h' (rid :: XL bid kid eid yid sid' uv' wv')) → Bd h' g bid nid kid eid yid sid' av bv fv c n cv (codesZ g B k N 0 S).2 cs' → StR ro h' (rid :: XL bid kid eid yid sid' uv' wv') k uv' wv' lv rv (codesZ g B k N 0 S).2 cs' s' ws' → SOk g (codesZ g B k N 0 S).2 →
      BMap h' eid en → BMap h' yid st → e' 2 = ptr rid → e' 4 = ptr bid → e' 8 = .int .i64 (k : Int) → Q (.exit 4) e' h' nx') :
    loopP (auto_Of_L2 ro) e h nx Q := by
  generalize hZ : codesZ g B k N 0 S = Z at hQe hQ
  refine loopP_rule (fun j e h' nx' => ∃ (i sid' : Nat) (S' : List StateD) (cs' : List (List Value)) (uv' wv' : Value) (ws' : List Value) (s' : StateD) (en st : Int → Bool), i + j = N ∧ nx ≤ nx' ∧ Fr h' nx' ∧ h'.get rid = some (.cells autZ.toArray y_api_Auto) ∧ Sub hb (del h' (rid :: XL bid kid eid yid sid' uv' wv')) ∧ Bd h' g bid nid kid eid yid sid' av bv fv c n cv S' cs' ∧
    StR ro h' (rid :: XL bid kid eid yid sid' uv' wv') k uv' wv' lv rv S' cs' s' ws' ∧ SOk g S' ∧ s'.rule.length ≤ 1000 + i ∧ ws'.length ≤ 1000 + i ∧ BMap h' eid en ∧ BMap h' yid st ∧ e 2 = ptr rid ∧ e 4 = ptr bid ∧ e 8 = .int .i64 (k : Int) ∧ e 107 = .int .i64 (N : Int) ∧ e 108 = .int .i64 i ∧ codesZ g B k j i S' = Z) ?_ (n := N)
    ⟨0, sid, S, cs, uv, wv, ws, s, en0, st0, by omega, by omega, hf, hrid, hbs, hB, hSR, hOk, by omega, by omega, hE, hY, e2, e4, e8, e107, e108, hZ⟩
  rintro j e' h' nx' ⟨i, sid', S', cs', uv', wv', ws', s', en, st, hj, hnx, hf', hri', hbs', hB', hSR', hOk', hrl', hwl', hE', hY', f2, f4, f8, f107, f108, hrz⟩ Q' hq hx
  unfold auto_Of_L2
  rw [f4, f8, f107, f108]
  refine lss_s (fun hi => ?_) (fun hi => ?_)
  · obtain ⟨j, rfl⟩ : ∃ j', j = j' + 1 := ⟨j - 1, by omega⟩
    rw [codesZ_succ] at hrz
    refine condP_t ?_
    refine code_SR hr hBl (by omega) (by omega) hey hen hek hyn hyk (hf'.mono (show nx' ≤ nx' + 7 by omega)) hB' hE' hY' hri' hbs' hP ha hfv hSR' hOk' (by omega) (by omega) (fun hz h3 n3 q1 q2 q3 hg3 => ?_) fun hz h3 n3 sid3 cs3 uv3 wv3 ws3 s3 en3 st3 q1 q2 qri q3 q4 q5 q6 q7 q8 q9 q10 => ?_
    · rw [if_neg hz] at hrz
      have hz1 : Z.1 = (codeZ g B k i S').1 := by rw [← hrz]
      refine neq_t hz (condP_t (bindP_mk build_Auto0 ?_))
      show bindP (storeN 259 h3 (e' 2) _) _
      rw [f2]
      refine bindP_mk (storeA_own (l := autZ) (vs := autZ) hg3 rfl autZ_len autZ_len autZ_ok) ?_
      refine hx _ _ _ _ (fun e => by cases e) ?_
      refine hQe (by rw [hz1]; exact hz) _ _ _ (by omega) ((q2.mono (show n3 ≤ n3 + 7 by omega)).upd (Nat.le_refl _) (by have := q2.lt' hg3; omega)) (fun i o hi => ?_) (by rw [T.get_upd_same]) f2 (by rw [hz1]; rfl)
      have hi3 := q3 _ _ hi
      by_cases hir : i = rid
      · subst hir
        rw [T.get_upd_same, ← hg3, hi3]
      · rw [T.get_upd_ne _ _ hir]; exact hi3
    · rw [if_pos hz] at hrz
      have hok3 := codeZ_ok (B := B) (k := k) (c := (i : Int)) hOk'
      generalize (codeZ g B k (i : Int) S').2 = S3 at hrz q4 q5 hok3
      refine neq_f rfl (condP_f (bindP_mk (intB_add _ _ _) ?_))
      rw [wr_i64 (by omega) (by omega)]
      exact hq j _ _ _ _ (by omega) ⟨i + 1, sid3, S3, cs3, uv3, wv3, ws3, s3, en3, st3, by omega, by omega, q2.mono (by omega), qri, q3, q4, q5, hok3, by omega, by omega, q9, q10, f2, f4, f8, f107, rfl, hrz⟩ (Sub.refl _)
  · obtain rfl : j = 0 := by omega
    have hrz : ((0 : Int), S') = Z := hrz
    subst hrz
    refine condP_f (hx _ _ _ _ (fun e => by cases e) ?_)
    exact hQ rfl _ _ _ sid' cs' uv' wv' ws' s' en st (by omega) (hf'.mono (by omega)) hri' hbs' hB' hSR' hOk' hE' hY' f2 f4 f8
theorem StR.fz {h : T Obj} {sid : Nat} {uv wv lv rv : Value} {S : List StateD} {cs : List (List Value)} {s : StateD} {ws : List Value} {en st : Int → Bool} (hri : h.get rid = some (.cells autZ.toArray y_api_Auto)) (hSR : StR ro h (rid :: XL bid kid eid yid sid uv wv) k uv wv lv rv S cs s ws) (hB : Bd h g bid nid kid eid yid sid av bv fv c n cv S cs) (hE : BMap h eid en) (hY : BMap h yid st) (hOk : SOk g S) : Fz ro h [rid, bid, kid, eid, yid, sid] (k + 1) S cs := by
  have hsub : Sub (del h (rid :: XL bid kid eid yid sid uv wv)) (del h [rid, bid, kid, eid, yid, sid]) := del_mono fun q hq => by
    rcases List.mem_cons.1 hq with hq | hq
    · exact List.mem_cons.2 (.inl hq)
    · unfold XL; exact List.mem_cons_of_mem _ (List.mem_append.2 (.inl hq))
  have hnot : ∀ {v : Value} {z lo : Nat} {e : TypeId} {l : List (List Value)}, e ≠ y_auto_builder → e ≠ y_api_State → e ≠ y_api_Auto → OwnT h v z e l lo → OwnT (del h [rid, bid, kid, eid, yid, sid]) v z e l lo := fun he1 he2 he3 ho => ho.del fun id hid => by
    obtain ⟨_, z⟩ := ho.blk hid
    obtain ⟨_, _, m1⟩ := hE.obj
    obtain ⟨_, _, m2⟩ := hY.obj
    obtain ⟨f2, k1, k2⟩ := hB.known
    obtain ⟨_, _, m3⟩ := k1.obj
    have m4 := hB.blk
    have m5 := hB.row
    simp only [List.mem_cons, List.not_mem_nil, or_false, not_or]
    refine ⟨?_, ?_, ?_, ?_, ?_, ?_⟩ <;> rintro rfl
    · rw [z] at hri
      simp only [Option.some.injEq, Obj.cells.injEq] at hri
      exact he3 hri.2.1
    · rw [z] at m4
      simp only [Option.some.injEq, Obj.cells.injEq] at m4
      exact he1 m4.2.1
    · rw [z] at m3; cases m3
    · rw [z] at m1; cases m1
    · rw [z] at m2; cases m2
    · rw [z] at m5
      simp only [Option.some.injEq, Obj.cells.injEq] at m5
      exact he2 m5.2.1
  refine ⟨fun i x t hx ht => ?_, fun i x t hi hx ht => hSR.tail i x t (by omega) hx ht⟩
  by_cases hik : i = k
  · subst hik
    rw [hSR.hx] at hx
    rw [hSR.hs] at ht
    cases hx; cases ht
    refine ⟨lv, rv, uv, wv, rfl, hSR.l.sub hsub, hSR.r.sub hsub, (hnot (by decide) (by decide) (by decide) hSR.u).sl, ⟨onesC ws, (hnot (by decide) (by decide) (by decide) hSR.w).sl, by rw [onesC_len]; exact hSR.rl, fun i x d hx hd => ?_⟩, ?_⟩
    · unfold onesC at hx
      rw [List.getElem?_map] at hx
      cases hq : ws[i]? with
      | none => rw [hq] at hx; cases hx
      | some v =>
        rw [hq] at hx
        cases hx
        exact RRow.sub hsub _ _ (hSR.rows i v d hq hd)
    · have := (hOk _ (List.mem_of_getElem? hSR.hs)).2.2
      unfold maxB; omega
  · exact RState.sub hsub _ _ (hSR.other i x t hik hx ht)
set_option maxRecDepth 8000 in
set_option maxHeartbeats 1000000 in
theorem Of_L1_c {sid : Nat} {S : List StateD} {cs : List (List Value)} {en0 st0 : Int → Bool} {e : Env} (hr : rightD g = true) (hBl : B.length ≤ 256) (hey : eid ≠ yid) (hen : eid ≠ nid) (hek : eid ≠ kid) (hyn : yid ≠ nid) (hyk : yid ≠ kid)
    (hP : SlR ro hb bv 9 (RPos ro hb) g.p) (ha : ZI ro hb av g.first) (hfv : SlR ro hb fv 1 RU8 B) 
    {h : T Obj} {nx : Nat} {Q : KE} (hf : Fr h nx) (hrid : h.get rid = some (.cells autZ.toArray y_api_Auto)) (hB : Bd h g bid nid kid eid yid sid av bv fv c n cv S cs) (hE : BMap h eid en0) (hY : BMap h yid st0) (hbs : Sub hb (del h [rid, bid, kid, eid, yid, sid]))
    (hFz : Fz ro h [rid, bid, kid, eid, yid, sid] 0 S cs) (hOk : SOk g S) (e2 : e 2 = ptr rid) (e4 : e 4 = ptr bid) (e8 : e 8 = .int .i64 0)
    (hQe : (allZ g B 256 0 S).1 ≠ 0 → ∀ e' h' nx', nx ≤ nx' → Fr h' nx' → Sub hb h' → h'.get rid = some (.cells autZ.toArray y_api_Auto) → e' 2 = ptr rid → e' 3 = .int .i64 (allZ g B 256 0 S).1 → Q .ret e' h' nx')
    (hQ : (allZ g B 256 0 S).1 = 0 → ∀ e' h' nx' sid' cs', nx ≤ nx' → Fr h' nx' → h'.get rid = some (.cells autZ.toArray y_api_Auto) → Sub hb (del h' [rid, bid, kid, eid, yid, sid']) → Bd h' g bid nid kid eid yid sid' av bv fv c n cv (allZ g B 256 0 S).2 cs' → (∀ (i : Nat) x t, cs'[i]? = some x → (allZ g B 256 0 S).2[i]? = some t → RState ro (del h' [rid, bid, kid, eid, yid, sid']) x t) → SOk g (allZ g B 256 0 S).2 → e' 2 = ptr rid → e' 4 = ptr bid → Q (.exit 2) e' h' nx') :
    loopP (auto_Of_L1 ro) e h nx Q := by
  generalize hZ : allZ g B 256 0 S = Z at hQe hQ
  refine loopP_rule (fun j e h' nx' => ∃ (k sid' : Nat) (S' : List StateD) (cs' : List (List Value)) (en st : Int → Bool), k + j = 256 ∧ nx ≤ nx' ∧ Fr h' nx' ∧ h'.get rid = some (.cells autZ.toArray y_api_Auto) ∧ Sub hb (del h' [rid, bid, kid, eid, yid, sid']) ∧ Bd h' g bid nid kid eid yid sid' av bv fv c n cv S' cs' ∧
    Fz ro h' [rid, bid, kid, eid, yid, sid'] k S' cs' ∧ SOk g S' ∧ BMap h' eid en ∧ BMap h' yid st ∧ e 2 = ptr rid ∧ e 4 = ptr bid ∧ e 8 = .int .i64 (k : Int) ∧ allZ g B j k S' = Z) ?_ (n := 256)
    ⟨0, sid, S, cs, en0, st0, by omega, by omega, hf, hrid, hbs, hB, hFz, hOk, hE, hY, e2, e4, e8, hZ⟩
  rintro j e' h' nx' ⟨k, sid', S', cs', en, st, hj, hnx, hf', hri', hbs', hB', hFz', hOk', hE', hY', f2, f4, f8, hrz⟩ Q' hq hx
  unfold auto_Of_L1
  rw [f4, f8]
  have hbk := hB'.blk
  have b262 := bldL_262 (av := av) (bv := bv) (nv := .map (some nid)) (fv := fv) (n := n) (cv := cv) (sv := .slice (some (own sid' 4)) cs'.length cs'.length) (kv := .map (some kid)) (ev := .map (some eid)) (yv := .map (some yid)) hB'.hc
  have hlen := hB'.len
  have hfew := hB'.few
  (repeat (first | refine bindP_mk (by simp (disch := first | omega | exact Int.natCast_nonneg _ | assumption) only [BB, B2, ↓reduceIte, Nat.reduceLeDiff, Nat.reduceAdd, CC, nilCk_at, hbk, b262] <;> rfl) ?_ | refine newP_mk ?_ | refine optP_mk ?_ | with_reducible first | refine condP_t ?_ | refine condP_f ?_ | refine ifP_tt' ?_ | refine ifP_ff' ?_ | refine ifP_tf' ?_ | refine ifP_ft' ?_ | refine ifP_u' ?_ | refine optP_mk0 ?_))
  refine lss_s (fun hi => ?_) (fun hi => ?_)
  · obtain ⟨j, rfl⟩ : ∃ j', j = j' + 1 := ⟨j - 1, by omega⟩
    have hkl : k < cs'.length := by omega
    rw [allZ_succ, if_pos (by omega)] at hrz
    obtain ⟨x, hxk⟩ : ∃ x, cs'[k]? = some x := ⟨_, List.getElem?_eq_getElem hkl⟩
    obtain ⟨s, hsk⟩ : ∃ s, S'[k]? = some s := ⟨_, List.getElem?_eq_getElem (by omega)⟩
    obtain ⟨⟨lv, rv, rfl⟩, ht1, ht2⟩ := hFz'.tail k x s (Nat.le_refl _) hxk hsk
    obtain ⟨lv2, rv2, uv2, nv2, hx1, hx2, hx3, hx4, hx5, hx6⟩ := hFz'.all k _ s hxk hsk
    simp only [List.cons.injEq, and_true] at hx1
    obtain ⟨rfl, rfl, rfl, rfl⟩ := hx1
    have hix := ixSl_own' (id := sid') (z := 4) (cap := cs'.length) hkl
    have hrow := hB'.row
    have q1 := flat4_get (j := 1) hB'.z4 hxk (by omega)
    have q1 : cs'.flatten[k * 4 + 1]? = some rv := q1
    have hrn := (hx3.sub (del_sub _ _)).len
    have hSR : StR ro h' (rid :: XL bid kid eid yid sid' nilS nilS) k nilS nilS lv rv S' cs' s [] := ⟨fun i x t _ hx ht => by rw [XL5]; exact hFz'.all i x t hx ht, fun i x t hi hx ht => hFz'.tail i x t (by omega) hx ht, hxk, hsk, by rw [XL5]; exact hx2, by rw [XL5]; exact hx3, by rw [ht1]; exact OwnT.nil, OwnT.nil, by rw [ht2]; rfl, fun i v row hv => by simp at hv⟩
    have hgd : S'.getD k noS = s := by rw [List.getD_eq_getElem?_getD, hsk]; rfl
    rw [hgd] at hrz
    have hcl := codes_le s.r.length
    (repeat (first | refine bindP_mk (by simp (disch := first | omega | exact Int.natCast_nonneg _ | assumption) only [BB, B2, ↓reduceIte, Nat.reduceLeDiff, Nat.reduceAdd, CC, nilCk_at, hbk, b262, hix, hrow, q1, hrn] <;> rfl) ?_ | refine newP_mk ?_ | refine optP_mk ?_ | with_reducible first | refine condP_t ?_ | refine condP_f ?_ | refine ifP_tt' ?_ | refine ifP_ff' ?_ | refine ifP_tf' ?_ | refine ifP_ft' ?_ | refine ifP_u' ?_ | refine optP_mk0 ?_))
    refine auto_Codes_c fun n5 hn5 => ?_
    have hcn : codesD (s.r.length : Int) = (((codesD (s.r.length : Int)).toNat : Nat) : Int) := by omega
    refine Of_L2_c (N := (codesD (s.r.length : Int)).toNat) (k := k) hr hBl (by omega) hey hen hek hyn hyk hP ha hfv (hf'.mono (show nx' ≤ n5 + 1 by omega)) hri' hB' hE' hY' (by rw [XL5]; exact hbs') hSR hOk' (by rw [ht1]; exact Nat.zero_le _) (Nat.zero_le _) ?_ ?_ ?_ ?_ ?_ ?_ ?_
    · exact f2
    · exact f4
    · exact f8
    · show Value.int _ _ = _
      rw [← hcn]
    · rfl
    · intro hz e3 h3 n3 p1 p2 p3 pri p4 p5
      rw [if_neg hz] at hrz
      have hz1 : Z.1 = (codesZ g B k (codesD (s.r.length : Int)).toNat 0 S').1 := by rw [← hrz]
      refine exP_r (hx _ _ _ _ (fun e => by cases e) ?_)
      exact hQe (by rw [hz1]; exact hz) _ _ _ (by omega) p2 p3 pri p4 (by rw [hz1]; exact p5)
    · intro hz e3 h3 n3 sid3 cs3 uv3 wv3 ws3 s3 en3 st3 p1 p2 pri p3 p4 p5 p6 p7 p8 p9 p10 p11
      rw [if_pos hz] at hrz
      refine exP_e (beqP_t ?_)
      unfold auto_Of_j3
      rw [p11]
      (repeat (first | refine bindP_mk (by simp (disch := first | omega | exact Int.natCast_nonneg _ | assumption) only [BB, B2, ↓reduceIte, Nat.reduceLeDiff, Nat.reduceAdd, CC] <;> rfl) ?_ | refine newP_mk ?_ | refine optP_mk ?_ | with_reducible first | refine condP_t ?_ | refine condP_f ?_ | refine ifP_tt' ?_ | refine ifP_ff' ?_ | refine ifP_tf' ?_ | refine ifP_ft' ?_ | refine ifP_u' ?_ | refine optP_mk0 ?_))
      refine hq j _ _ _ _ (by omega) ⟨k + 1, sid3, _, cs3, en3, st3, by omega, by omega, p2.mono (by omega), pri, p3.trans (del_mono fun q hq => ?_), p4, p5.fz pri p4 p7 p8 p6, p6, p7, p8, p9, p10, rfl, hrz⟩ (Sub.refl _)
      rcases List.mem_cons.1 hq with hq | hq
      · exact List.mem_cons.2 (.inl hq)
      · unfold XL; exact List.mem_cons_of_mem _ (List.mem_append.2 (.inl hq))
  · have hrz : ((0 : Int), S') = Z := by
      cases j with
      | zero => exact hrz
      | succ j => rw [allZ_succ, if_neg (by omega)] at hrz; exact hrz
    subst hrz
    refine condP_f (hx _ _ _ _ (fun e => by cases e) ?_)
    exact hQ rfl _ _ _ sid' cs' (by omega) (hf'.mono (by omega)) hri' hbs' hB' hFz'.all hOk' f2 f4
end
end V
end Go.Proofs.Ytmmdcdjkmakgpaa
set_option linter.unusedVariables false
set_option linter.unusedSimpArgs false
namespace Go.Proofs.Ytmmdcdjkmakgpaa
set_option maxRecDepth 20000
namespace V
open PA
theorem setL_len (m : Nat) : (setL m).length = 4 := rfl
theorem setL_ok (m : Nat) : (setL m).all cellOk = true := rfl
theorem setL_dt (m : Nat) : List.take 4 (List.drop 0 (setL m)) = setL m := rfl
theorem zer_Set_mk {K : Value → Prop} (k : K (setV 0)) : bindP (zer Try.prog y_api_Set) K := by rw [zer_Set]; exact k
theorem over_set (m n : Nat) : over (setL m) 0 (setL n) = setL n := rfl
theorem setV_size (m : Nat) : (setV m).cells.size = 4 := rfl
theorem setV_def (m : Nat) : Value.agg (setL m).toArray = setV m := rfl
theorem setL_set {m b : Nat} (hb : b < 256) : (setL m).set (b / 64) (.int .u64 ((word m (b / 64) ||| 2 ^ (b % 64) : Nat) : Int)) = setL (m ||| 2 ^ b) := by
  have h0 := word_or m b 0
  have h1 := word_or m b 1
  have h2 := word_or m b 2
  have h3 := word_or m b 3
  have hq : b / 64 = 0 ∨ b / 64 = 1 ∨ b / 64 = 2 ∨ b / 64 = 3 := by omega
  unfold setL
  rcases hq with hq | hq | hq | hq <;> rw [hq] at h0 h1 h2 h3 ⊢ <;> simp at h0 h1 h2 h3 <;> simp [h0, h1, h2, h3]
theorem ref01_with_end {ro : Ro} {m w : Nat} {e : Env} {h h0 : T Obj} {id nx nx0 : Nat} {K : KV} (h2 : e 2 = at_ id 0 0) (h4 : e 4 = at_ (id + 1) 0 0) (g1 : h.get id = some (.cells (setL m).toArray y_api_Set)) (g2 : h.get (id + 1) = some (.cells (setL w).toArray y_api_Set))
    (hf : Fr h0 nx0) (hs : Sub h0 h) (hid : nx0 ≤ id) (hK : K (setV m) h0 (nx + 2)) : ref01_with_j1 ro K e h nx := by
  unfold ref01_with_j1
  (repeat (first | refine bindP_mk (by simp (disch := first | omega | exact Int.natCast_nonneg _ | assumption) only [BB, B2, ↓reduceIte, Nat.reduceLeDiff, Nat.reduceAdd, intB_eql, intB_neq, intB_lss, intB_leq, intB_gtr, intB_geq, setV_cells, setL_len, setL_dt, setV_def, h2, h4, g1, g2, setV_size, setL_ok, over_set] <;> rfl) ?_ | refine newP_mk ?_ | refine optP_mk ?_ | with_reducible first | refine condP_t ?_ | refine condP_f ?_ | refine ifP_tt' ?_ | refine ifP_ff' ?_ | refine ifP_tf' ?_ | refine ifP_ft' ?_ | refine ifP_u' ?_ | refine optP_mk0 ?_))
  exact ⟨h0, hs.new hf (by omega), hK⟩
section
attribute [local irreducible] bindP ifP condP newP optP exP beqP
theorem ref01_with_c {ro : Ro} {m b : Nat} (hb : b < 256) {h : T Obj} {nx : Nat} {K : KV} (hf : Fr h nx) (hK : ∀ nx', nx ≤ nx' → K (setV (m ||| 2 ^ b)) h nx') : callP Try.prog ro i_ref01_with [setV m, .int .u8 b] h nx K := by
  apply ref01_with_of
  unfold ref01_with
  refine newP_mk (zer_Set_mk ?_)
  (repeat (first | refine bindP_mk (by simp (disch := first | omega | exact Int.natCast_nonneg _ | assumption) only [BB, B2, ↓reduceIte, Nat.reduceLeDiff, Nat.reduceAdd, intB_eql, intB_neq, intB_lss, intB_leq, intB_gtr, intB_geq, setV_cells, setL_len, setL_dt, setV_def] <;> rfl) ?_ | refine newP_mk ?_ | refine optP_mk ?_ | with_reducible first | refine condP_t ?_ | refine condP_f ?_ | refine ifP_tt' ?_ | refine ifP_ff' ?_ | refine ifP_tf' ?_ | refine ifP_ft' ?_ | refine ifP_u' ?_ | refine optP_mk0 ?_))
  refine ref01_Has_c hb ((hf.mono (Nat.le_add_right nx 5)).upd (n := nx + 5) (Nat.le_refl _) (by omega) |>.upd (Nat.le_refl _) (by omega)) fun n hn => ?_
  (repeat (first | refine bindP_mk (by simp (disch := first | omega | exact Int.natCast_nonneg _ | assumption) only [BB, B2, ↓reduceIte, Nat.reduceLeDiff, Nat.reduceAdd, intB_eql, intB_neq, intB_lss, intB_leq, intB_gtr, intB_geq] <;> rfl) ?_ | refine newP_mk ?_ | refine optP_mk ?_ | with_reducible first | refine condP_t ?_ | refine condP_f ?_ | refine ifP_tt' ?_ | refine ifP_ff' ?_ | refine ifP_tf' ?_ | refine ifP_ft' ?_ | refine ifP_u' ?_ | refine optP_mk0 ?_))
  have h1 : ((b:Int) / 64).toNat = b / 64 := by omega
  have h2 : ((b:Int) % 64).toNat = b % 64 := by omega
  have h3 := word_lt m (b / 64)
  have h4 : b / 64 < 4 := by omega
  have h5 := setL_get (m := m) h4
  cases hm : m.testBit b with
  | true =>
    simp only [Bool.not_true]
    (repeat (first | refine bindP_mk (by simp (disch := first | omega | exact Int.natCast_nonneg _ | assumption) only [BB, B2, ↓reduceIte, Nat.reduceLeDiff, Nat.reduceAdd, intB_eql, intB_neq, intB_lss, intB_leq, intB_gtr, intB_geq] <;> rfl) ?_ | refine newP_mk ?_ | refine optP_mk ?_ | with_reducible first | refine condP_t ?_ | refine condP_f ?_ | refine ifP_tt' ?_ | refine ifP_ff' ?_ | refine ifP_tf' ?_ | refine ifP_ft' ?_ | refine ifP_u' ?_ | refine optP_mk0 ?_))
    refine ref01_with_end (m := m) (w := 0) (id := nx) rfl rfl ?_ ?_ hf ?_ (Nat.le_refl _) ?_
    · simp (disch := first | omega | exact Int.natCast_nonneg _ | assumption) only [BB, B2, ↓reduceIte, Nat.reduceLeDiff, Nat.reduceAdd, intB_eql, intB_neq, intB_lss, intB_leq, intB_gtr, intB_geq, setV_cells]
    · simp (disch := first | omega | exact Int.natCast_nonneg _ | assumption) only [BB, B2, ↓reduceIte, Nat.reduceLeDiff, Nat.reduceAdd, intB_eql, intB_neq, intB_lss, intB_leq, intB_gtr, intB_geq, setV_cells]
    · exact ((Sub.refl h).new hf (Nat.le_refl _)).new hf (by omega)
    · have := hK (n + 1 + 2) (by omega)
      rw [or_pow_self hm] at this; exact this
  | false =>
    simp only [Bool.not_false]
    have h6 : (word m (b / 64)).testBit (b % 64) = false := by
      rw [testBit_word, Nat.div_add_mod, hm]; simp
    have h7 := add_pow h6
    have h8 : word m (b / 64) + 2 ^ (b % 64) < 18446744073709551616 := by
      rw [h7]; exact Nat.or_lt_two_pow (n := 64) h3 (Nat.pow_lt_pow_right (by decide) (by omega))
    have h9 : ((word m (b / 64) : Nat) : Int) + ((2 ^ (b % 64) : Nat) : Int) = ((word m (b / 64) ||| 2 ^ (b % 64) : Nat) : Int) := by rw [← h7]; exact (Int.natCast_add _ _).symm
    have h10 : ((word m (b / 64) ||| 2 ^ (b % 64) : Nat) : Int) ≤ 18446744073709551615 := cast_le (by rw [← h7]; exact h8)
    have h11 := over_one (.int .u64 ((word m (b / 64) ||| 2 ^ (b % 64) : Nat) : Int)) (l := setL m) (off := b / 64) (by rw [setL_len]; omega)
    (repeat (first | refine bindP_mk (by simp (disch := first | omega | exact Int.natCast_nonneg _ | assumption) only [BB, B2, ↓reduceIte, Nat.reduceLeDiff, Nat.reduceAdd, intB_eql, intB_neq, intB_lss, intB_leq, intB_gtr, intB_geq, setV_cells, h1, h2, h5, h9] <;> rfl) ?_ | refine newP_mk ?_ | refine optP_mk ?_ | with_reducible first | refine condP_t ?_ | refine condP_f ?_ | refine ifP_tt' ?_ | refine ifP_ff' ?_ | refine ifP_tf' ?_ | refine ifP_ft' ?_ | refine ifP_u' ?_ | refine optP_mk0 ?_))
    refine bindP_mk (store1_own (l := setL m) (by simp (disch := first | omega | exact Int.natCast_nonneg _ | assumption) only [BB, B2, ↓reduceIte, Nat.reduceLeDiff, Nat.reduceAdd, intB_eql, intB_neq, intB_lss, intB_leq, intB_gtr, intB_geq, setV_cells] <;> rfl) h4 rfl rfl) ?_
    rw [setL_set hb]
    refine ref01_with_end (m := m ||| 2 ^ b) (w := 0) (id := nx) rfl rfl ?_ ?_ hf ?_ (Nat.le_refl _) (hK _ (by omega))
    · simp (disch := first | omega | exact Int.natCast_nonneg _ | assumption) only [BB, B2, ↓reduceIte, Nat.reduceLeDiff, Nat.reduceAdd, intB_eql, intB_neq, intB_lss, intB_leq, intB_gtr, intB_geq, setV_cells]
    · simp (disch := first | omega | exact Int.natCast_nonneg _ | assumption) only [BB, B2, ↓reduceIte, Nat.reduceLeDiff, Nat.reduceAdd, intB_eql, intB_neq, intB_lss, intB_leq, intB_gtr, intB_geq, setV_cells]
    · exact (((Sub.refl h).new hf (Nat.le_refl _)).new hf (by omega)).new hf (Nat.le_refl _)
end
end V
end Go.Proofs.Ytmmdcdjkmakgpaa
set_option linter.unusedVariables false
set_option linter.unusedSimpArgs false
namespace Go.Proofs.Ytmmdcdjkmakgpaa
set_option maxRecDepth 20000
namespace V
open PA
def ofBytes (m : Nat) (l : List Nat) : Nat := l.foldl (fun m b => m ||| 2 ^ b) m
def bytesC (l : List Nat) : List (List Value) := l.map fun b : Nat => [Value.int .u8 (b : Int)]
theorem bytesC_len (l : List Nat) : (bytesC l).length = l.length := by simp [bytesC]
theorem bytesC_get {l : List Nat} {i : Nat} (hi : i < l.length) : (bytesC l)[i]? = some [.int .u8 (l[i] : Nat)] := by simp [bytesC, hi]
theorem buildV_Set : buildV Try.prog y_api_Set [] = some (setV 0) := by kernel_rfl
theorem buildV_Set_mk {K : Value → Prop} (k : K (setV 0)) : bindP (buildV Try.prog y_api_Set []) K := by rw [buildV_Set]; exact k
theorem ofBytes_take {m : Nat} {l : List Nat} {i : Nat} (hi : i < l.length) : ofBytes m (l.take (i + 1)) = ofBytes m (l.take i) ||| 2 ^ l[i] := by
  rw [List.take_succ_eq_append_getElem hi, ofBytes, List.foldl_append]; rfl
theorem ref01_Of_c {ro : Ro} {v : Value} {l : List Nat} (hl : ∀ b ∈ l, b < 256) (hlen : l.length ≤ 1000000) {h : T Obj} {nx : Nat} {K : KV} (hf : Fr h nx) (hv : Sl ro h v 1 (bytesC l)) (hK : ∀ nx', nx ≤ nx' → K (setV (ofBytes 0 l)) h nx') : callP Try.prog ro i_ref01_Of [v] h nx K := by
  apply ref01_Of_of
  unfold ref01_Of
  refine zer_Set_mk (newP_mk (buildV_Set_mk (zer_Set_mk (newP_mk ?_))))
  refine bindP_mk (storeA_own (l := setL 0) (vs := setL 0) (by simp (disch := first | omega | exact Int.natCast_nonneg _ | assumption) only [BB, B2, ↓reduceIte, Nat.reduceLeDiff, Nat.reduceAdd, intB_eql, intB_neq, intB_lss, intB_leq, intB_gtr, intB_geq, setV_cells] <;> rfl) rfl rfl rfl rfl) ?_
  refine loopP_rule (fun n e h' nx' => ∃ i : Nat, i + n = l.length ∧ nx + 3 ≤ nx' ∧ e 0 = v ∧ e 2 = ptr nx ∧ e 3 = ptr (nx + 2) ∧ e 4 = .int .i64 i ∧ Sub h h' ∧ Fr h' nx' ∧
    h'.get nx = some (.cells (setL 0).toArray y_api_Set) ∧ h'.get (nx + 2) = some (.cells (setL (ofBytes 0 (l.take i))).toArray y_api_Set)) ?_ (n := l.length) ⟨0, by omega, by omega, rfl, rfl, rfl, rfl, ?_, ?_, ?_, ?_⟩
  · rintro n e h' nx' ⟨i, hin, hnx, e0, e2, e3, e4, hs, hf', g1, g2⟩ Q' hc hx
    unfold ref01_Of_L1
    rw [e0, e3, e4]
    have hlenv := (hv.sub hs).len
    rw [bytesC_len] at hlenv
    refine bindP_mk hlenv ?_
    (repeat (first | refine bindP_mk (by simp (disch := first | omega | exact Int.natCast_nonneg _ | assumption) only [BB, B2, ↓reduceIte, Nat.reduceLeDiff, Nat.reduceAdd, intB_eql, intB_neq, intB_lss, intB_leq, intB_gtr, intB_geq] <;> rfl) ?_ | refine newP_mk ?_ | refine optP_mk ?_ | with_reducible first | refine condP_t ?_ | refine condP_f ?_ | refine ifP_tt' ?_ | refine ifP_ff' ?_ | refine ifP_tf' ?_ | refine ifP_ft' ?_ | refine ifP_u' ?_ | refine optP_mk0 ?_))
    by_cases hi : i < l.length
    · refine condP_tr (by simp; omega) ?_
      refine bindP_mk (loadA_all g2 rfl) ?_
      refine bindP_mk ((hv.sub hs).ix _ (by rw [bytesC_len]; exact hi)) ?_
      refine bindP_mk ((hv.sub hs).load1 (bytesC_get hi)) ?_
      refine ref01_with_c (hl _ (List.getElem_mem hi)) (hf'.mono (by omega)) fun n1 hn1 => ?_
      refine bindP_mk (storeA_own (l := setL _) (vs := setL _) g2 rfl rfl rfl rfl) ?_
      (repeat (first | refine bindP_mk (by simp (disch := first | omega | exact Int.natCast_nonneg _ | assumption) only [BB, B2, ↓reduceIte, Nat.reduceLeDiff, Nat.reduceAdd, intB_eql, intB_neq, intB_lss, intB_leq, intB_gtr, intB_geq] <;> rfl) ?_ | refine newP_mk ?_ | refine optP_mk ?_ | with_reducible first | refine condP_t ?_ | refine condP_f ?_ | refine ifP_tt' ?_ | refine ifP_ff' ?_ | refine ifP_tf' ?_ | refine ifP_ft' ?_ | refine ifP_u' ?_ | refine optP_mk0 ?_))
      refine hc (n - 1) _ _ _ _ (by omega) ⟨i + 1, by omega, ?_, e0, e2, e3, rfl, hs.new hf (by omega), (hf'.mono (by omega)).upd (Nat.le_refl _) (by omega), ?_, ?_⟩ (Sub.refl _)
      · omega
      · simp (disch := first | omega | exact Int.natCast_nonneg _ | assumption) only [BB, B2, ↓reduceIte, Nat.reduceLeDiff, Nat.reduceAdd, intB_eql, intB_neq, intB_lss, intB_leq, intB_gtr, intB_geq, g1]
      · rw [T.get_upd_same, ofBytes_take hi]
    · refine condP_fa (by simp; omega) ?_
      refine hx _ _ _ _ (fun e => by cases e) ?_
      show exP _ _ _ _
      rw [exP_exit]
      show ref01_Of_j1 ro K _ _ _
      unfold ref01_Of_j1
      show bindP (loadA ro h' 4 (e 3)) _
      rw [e3]
      refine bindP_mk (loadA_all g2 rfl) ?_
      show bindP (storeN 4 h' (e 2) _) _
      rw [e2]
      refine bindP_mk (storeA_own (l := setL _) (vs := setL _) g1 rfl rfl rfl rfl) ?_
      show bindP (loadA ro _ 4 (e 2)) _
      rw [e2]
      refine bindP_mk (loadA_all (by rw [T.get_upd_same]) rfl) ?_
      refine ⟨h, hs.new hf (Nat.le_refl _), ?_⟩
      have : l.take i = l := List.take_of_length_le (by omega)
      rw [this]
      exact hK _ (by omega)
  · exact (((Sub.refl h).new hf (Nat.le_refl _)).new hf (by omega)).new hf (by omega)
  · exact ((hf.upd (m := nx + 5) (by omega) (by omega)).upd (Nat.le_refl _) (by omega)).upd (Nat.le_refl _) (by omega)
  · simp (disch := first | omega | exact Int.natCast_nonneg _ | assumption) only [BB, B2, ↓reduceIte, Nat.reduceLeDiff, Nat.reduceAdd, intB_eql, intB_neq, intB_lss, intB_leq, intB_gtr, intB_geq, setV_cells]
  · rw [T.get_upd_same]; rfl
end V
end Go.Proofs.Ytmmdcdjkmakgpaa
set_option linter.unusedVariables false
set_option linter.unusedSimpArgs false
namespace Go.Proofs.Ytmmdcdjkmakgpaa
set_option maxRecDepth 20000
namespace V
open PA
def splitL (c : List Nat) (m : Nat) : List Value := u8s c ++ [.int .i64 (m : Int)]
def splitV (c : List Nat) (m : Nat) : Value := .agg (splitL c m).toArray
theorem splitL_len {c : List Nat} {m : Nat} (hc : c.length = 256) : (splitL c m).length = 257 := by simp [splitL, u8s_len, hc]
theorem splitL_ok (c : List Nat) (m : Nat) : (splitL c m).all cellOk = true := by simp [splitL, u8s, cellOk]
theorem splitL_get {c : List Nat} {m i : Nat} (hi : i < c.length) : (splitL c m)[i]? = some (.int .u8 (c[i] : Nat)) := by
  unfold splitL
  rw [List.getElem?_append_left (by rw [u8s_len]; exact hi)]
  simp [u8s, hi]
theorem splitL_set {c : List Nat} {m i : Nat} (v : Nat) (hi : i < c.length) : (splitL c m).set i (.int .u8 (v : Int)) = splitL (c.set i v) m := by
  unfold splitL
  rw [List.set_append_left _ _ (by rw [u8s_len]; exact hi)]
  simp [u8s, List.map_set]
theorem splitL_setM {c : List Nat} {m : Nat} (v : Nat) (hc : c.length = 256) : (splitL c m).set 256 (.int .i64 (v : Int)) = splitL c v := by
  unfold splitL
  rw [List.set_append_right _ _ (by rw [u8s_len]; omega)]
  simp [u8s_len, hc]
theorem splitV_cells (c : List Nat) (m : Nat) : (splitV c m).cells = (splitL c m).toArray := rfl
theorem zer_Split : zer Try.prog y_api_Split = some (splitV (List.replicate 256 0) 0) := by kernel_rfl
theorem zer_Split_mk {K : Value → Prop} (k : K (splitV (List.replicate 256 0) 0)) : bindP (zer Try.prog y_api_Split) K := by rw [zer_Split]; exact k
theorem rep_len : (List.replicate 256 0 : List Nat).length = 256 := List.length_replicate
def pairL (p : Nat × Bool) : List Value := [.int .u8 (p.1 : Int), .bool p.2]
def pairV (p : Nat × Bool) : Value := .agg (pairL p).toArray
theorem buildV_pair (a b : Value) (ha : a.cells = #[a]) (hb : b.cells = #[b]) : buildV Try.prog y_split_pair [(0, a), (1, b)] = some (.agg #[a, b]) := by
  have h1 : zer Try.prog y_split_pair = some (.agg #[.int .u8 0, .bool false]) := by kernel_rfl
  have h2 : ((und Try.prog y_split_pair).bind fun d => match d with
    | .struct fs => placesV Try.prog fs.toList
    | _ => none) = some [(0, 1), (1, 1)] := by kernel_rfl
  obtain ⟨d, h2, h3⟩ := bind_some' h2
  cases d <;> try (cases h3; done)
  rename_i fs
  simp only at h3
  unfold buildV
  rw [h1]
  simp only [Option.bind, h2, h3]
  simp [fillV, ha, hb, over, Value.cells_agg]
theorem zer_pair_mk {K : Value → Prop} (k : K (pairV (0, false))) : bindP (zer Try.prog y_split_pair) K := by
  have : zer Try.prog y_split_pair = some (pairV (0, false)) := by kernel_rfl
  rw [this]; exact k
def ents : Nat → List (Nat × Bool) → List MapEntry
  | _, [] => []
  | k, p :: r => ({ key := pairV p, val := .int .u8 (k : Int), born := k } : MapEntry) :: ents (k + 1) r
theorem ents_append (k : Nat) (s : List (Nat × Bool)) (p : Nat × Bool) : ents k (s ++ [p]) = ents k s ++ [({ key := pairV p, val := .int .u8 ((k + s.length : Nat) : Int), born := k + s.length } : MapEntry)] := by
  induction s generalizing k with
  | nil => rfl
  | cons q s ih => simp only [List.cons_append, ents, ih, List.length_cons]; rw [show k + 1 + s.length = k + (s.length + 1) by omega]
theorem ents_length (k : Nat) (s : List (Nat × Bool)) : (ents k s).length = s.length := by
  induction s generalizing k with
  | nil => rfl
  | cons q s ih => simp [ents, ih]
theorem pair_eq (p q : Nat × Bool) : keyEq Try.prog y_split_pair (pairV p) (pairV q) = some (decide (p = q)) := by
  have h1 : isAgg Try.prog y_split_pair = some true := by kernel_rfl
  have h2 : plainTy Try.prog 20 y_split_pair = some [1, 0] := by kernel_rfl
  unfold keyEq pairV
  simp only [h1, h2, Option.bind]
  obtain ⟨a, b⟩ := p
  obtain ⟨c, d⟩ := q
  simp only [pairL, eqCells, eqCell, Option.bind]
  by_cases h : a = c <;> cases b <;> cases d <;> simp [h] <;> omega
theorem find_pair (p : Nat × Bool) : ∀ (s : List (Nat × Bool)) (k i : Nat), findV Try.prog y_split_pair (pairV p) (ents k s) i = some (if p ∈ s then some (i + pos s p, .int .u8 ((k + pos s p : Nat) : Int)) else none) := by
  intro s
  induction s with
  | nil => intro k i; simp [ents, findV]
  | cons q s ih =>
    intro k i
    simp only [ents, findV, pair_eq]
    by_cases h : p = q
    · subst h; simp [pos_self]
    · simp only [h, decide_false]
      rw [ih]
      have e : ¬ q = p := fun e => h e.symm
      by_cases hm : p ∈ s
      · rw [if_pos hm, if_pos (by simp [hm]), pos_ne e]; simp; omega
      · rw [if_neg hm, if_neg (by simp [hm, h])]
theorem und_map : ∃ et, und Try.prog y_map_split_pair_uint8 = some (.map y_split_pair et) ∧ zer Try.prog et = some (.int .u8 0) := by
  refine ⟨y_uint8, ?_, ?_⟩ <;> kernel_rfl
theorem pair_ok (p : Nat × Bool) : keyOk Try.prog y_split_pair (pairV p) = true := by
  have h1 : ((und Try.prog y_split_pair).bind fun d => match d with
    | .struct fs => some true
    | _ => none) = some true := by kernel_rfl
  have h2 : plainTy Try.prog 2 y_split_pair = some [1, 0] := by kernel_rfl
  obtain ⟨d, h1, h3⟩ := bind_some' h1
  cases d <;> try (cases h3; done)
  unfold keyOk pairV
  simp only [h1, h2, pairL]
  simp [eqCells, eqCell]
theorem look_pair {h : T Obj} {id c : Nat} {s : List (Nat × Bool)} {p : Nat × Bool} (hg : h.get id = some (.map (ents 0 s).toArray c)) :
    lookV Try.prog h y_map_split_pair_uint8 (.map (some id)) (pairV p) true = some (.tuple #[.int .u8 ((if p ∈ s then pos s p else 0 : Nat) : Int), .bool (decide (p ∈ s))]) := by
  obtain ⟨et, h1, h2⟩ := und_map
  unfold lookV
  simp only [h1, pair_ok, mapAt, entriesAt, hg, Option.bind, lookIn, find_pair]
  by_cases hm : p ∈ s
  · simp [hm, gotV, outV]
  · simp [hm, gotV, outV, h2]
theorem put_pair {h : T Obj} {id : Nat} {s : List (Nat × Bool)} {p : Nat × Bool} (hg : h.get id = some (.map (ents 0 s).toArray s.length)) (hm : ¬ p ∈ s) :
    mapPutV Try.prog h y_map_split_pair_uint8 (.map (some id)) (pairV p) (.int .u8 (s.length : Int)) = some (h.upd id (some (.map (ents 0 (s ++ [p])).toArray (s ++ [p]).length))) := by
  obtain ⟨et, h1, h2⟩ := und_map
  unfold mapPutV
  simp only [h1, pair_ok, entriesAt, hg, Option.bind, find_pair, if_neg hm]
  rw [ents_append]
  simp
theorem len_pair {h : T Obj} {id c : Nat} {s : List (Nat × Bool)} (hg : h.get id = some (.map (ents 0 s).toArray c)) : lenV Try.prog h y_map_split_pair_uint8 (.map (some id)) = some (.int .i64 (s.length : Int)) := by
  obtain ⟨et, h1, h2⟩ := und_map
  unfold lenV
  simp only [h1, entriesAt, hg, Option.bind]
  simp [ents_length]
end V
end Go.Proofs.Ytmmdcdjkmakgpaa
set_option linter.unusedVariables false
set_option linter.unusedSimpArgs false
namespace Go.Proofs.Ytmmdcdjkmakgpaa
set_option maxRecDepth 20000
namespace V
open PA
theorem pairs_length (c : List Nat) (x : Nat) : (pairs c x).length = 256 := by rw [pairs, List.length_map, bs_length]
theorem pairs_get {c : List Nat} {x i : Nat} (hi : i < 256) : (pairs c x)[i]? = some (c.getD i 0, x.testBit i) := by rw [pairs, List.getElem?_map, bs_get hi]; rfl
def part (l : List Nat) (i : Nat) : List Nat := l.take i ++ List.replicate (256 - i) 0
theorem part_len {l : List Nat} (hl : l.length = 256) {i : Nat} (hi : i ≤ 256) : (part l i).length = 256 := by simp [part, hl]; omega
theorem part_set {l : List Nat} (hl : l.length = 256) {i : Nat} (hi : i < 256) : (part l i).set i (l[i]'(by omega)) = part l (i + 1) := by
  unfold part
  rw [List.set_append_right _ _ (by simp; omega)]
  have e : 256 - i = (256 - (i + 1)) + 1 := by omega
  rw [e, List.replicate_succ]
  have e2 : i - (List.take i l).length = 0 := by simp; omega
  rw [e2, List.set_cons_zero, List.take_succ_eq_append_getElem (by omega), List.append_assoc]
  rfl
theorem part_all {l : List Nat} (hl : l.length = 256) : part l 256 = l := by
  unfold part
  rw [List.take_of_length_le (by omega)]; simp
theorem split_cut_end {ro : Ro} {c : List Nat} {s : List (Nat × Bool)} {e : Env} {h h0 : T Obj} {id nx nx0 : Nat} {K : KV} (hc : c.length = 256)
    (e4 : e 4 = at_ (id + 2) 0 0) (e5 : e 5 = at_ (id + 3) 0 0) (e6 : e 6 = .map (some (id + 4)))
    (g3 : h.get (id + 2) = some (.cells (splitL (List.replicate 256 0) 0).toArray y_api_Split)) (g4 : h.get (id + 3) = some (.cells (splitL c 0).toArray y_api_Split)) (g5 : h.get (id + 4) = some (.map (ents 0 s).toArray s.length))
    (hf : Fr h0 nx0) (hs : Sub h0 h) (hid : nx0 ≤ id) (hK : K (splitV c s.length) h0 (nx + 6)) : split_cut_j1 ro K e h nx := by
  unfold split_cut_j1
  rw [e4, e5, e6]
  refine bindP_mk (len_pair g5) ?_
  (repeat (first | refine bindP_mk (by simp (disch := first | omega | exact Int.natCast_nonneg _ | assumption) only [BB, B2, ↓reduceIte, Nat.reduceLeDiff, Nat.reduceAdd, intB_eql, intB_neq, intB_lss, intB_leq, intB_gtr, intB_geq] <;> rfl) ?_ | refine newP_mk ?_ | refine optP_mk ?_ | with_reducible first | refine condP_t ?_ | refine condP_f ?_ | refine ifP_tt' ?_ | refine ifP_ff' ?_ | refine ifP_tf' ?_ | refine ifP_ft' ?_ | refine ifP_u' ?_ | refine optP_mk0 ?_))
  refine bindP_mk (store1_own g4 (by rw [splitL_len hc]; omega) rfl rfl) ?_
  rw [splitL_setM _ hc]
  refine bindP_mk (loadA_all (by rw [T.get_upd_same]) (splitL_len hc)) ?_
  refine bindP_mk (storeA_own (l := splitL (List.replicate 256 0) 0) (vs := splitL c s.length) (e := y_api_Split) (f := (0, 0)) (by simp (disch := first | omega | exact Int.natCast_nonneg _ | assumption) only [BB, B2, ↓reduceIte, Nat.reduceLeDiff, Nat.reduceAdd, intB_eql, intB_neq, intB_lss, intB_leq, intB_gtr, intB_geq, g3]) rfl (splitL_len hc) (splitL_len rep_len) (splitL_ok _ _)) ?_
  refine bindP_mk (loadA_all (by rw [T.get_upd_same]) (splitL_len hc)) ?_
  exact ⟨h0, (hs.new hf (by omega)).new hf (by omega), hK⟩
set_option maxRecDepth 4000 in
theorem split_cut_c {ro : Ro} {c : List Nat} {m x : Nat} (hc : c.length = 256) {h : T Obj} {nx : Nat} {K : KV} (hf : Fr h nx)
    (hK : ∀ nx', nx ≤ nx' → K (splitV (num (pairs c x)) (dd (pairs c x)).length) h nx') : callP Try.prog ro i_split_cut [splitV c m, setV x] h nx K := by
  apply split_cut_of
  unfold split_cut
  refine newP_mk (newP_mk (zer_Split_mk (newP_mk (zer_Split_mk (newP_mk (newP_mk ?_))))))
  have hN : (num (pairs c x)).length = 256 := by rw [num_length, pairs_length]
  refine loopP_rule (fun n e h' nx' => ∃ i : Nat, i + n = 256 ∧ nx + 5 ≤ nx' ∧ e 2 = ptr nx ∧ e 3 = ptr (nx + 1) ∧ e 4 = ptr (nx + 2) ∧ e 5 = ptr (nx + 3) ∧ e 6 = .map (some (nx + 4)) ∧ e 12 = .int .i64 i ∧ Sub h h' ∧ Fr h' nx' ∧
    h'.get nx = some (.cells (splitL c m).toArray y_api_Split) ∧ h'.get (nx + 1) = some (.cells (setL x).toArray y_api_Set) ∧ h'.get (nx + 2) = some (.cells (splitL (List.replicate 256 0) 0).toArray y_api_Split) ∧
    h'.get (nx + 3) = some (.cells (splitL (part (num (pairs c x)) i) 0).toArray y_api_Split) ∧ h'.get (nx + 4) = some (.map (ents 0 (dd ((pairs c x).take i))).toArray (dd ((pairs c x).take i)).length)) ?_ (n := 256)
    ⟨0, by omega, by omega, rfl, rfl, rfl, rfl, rfl, rfl, ?_, ?_, ?_, ?_, ?_, ?_, ?_⟩
  · rintro n e h' nx' ⟨i, hin, hnx, e2, e3, e4, e5, e6, e12, hs, hf', g1, g2, g3, g4, g5⟩ Q' hq hx
    unfold split_cut_L1
    rw [e2, e3, e6, e12]
    (repeat (first | refine bindP_mk (by simp (disch := first | omega | exact Int.natCast_nonneg _ | assumption) only [BB, B2, ↓reduceIte, Nat.reduceLeDiff, Nat.reduceAdd, intB_eql, intB_neq, intB_lss, intB_leq, intB_gtr, intB_geq] <;> rfl) ?_ | refine newP_mk ?_ | refine optP_mk ?_ | with_reducible first | refine condP_t ?_ | refine condP_f ?_ | refine ifP_tt' ?_ | refine ifP_ff' ?_ | refine ifP_tf' ?_ | refine ifP_ft' ?_ | refine ifP_u' ?_ | refine optP_mk0 ?_))
    by_cases hi : i < 256
    · refine condP_tr (by simp; omega) ?_
      have hic : i < c.length := by omega
      have hg := splitL_get (m := m) hic
      (repeat (first | refine bindP_mk (by simp (disch := first | omega | exact Int.natCast_nonneg _ | assumption) only [BB, B2, ↓reduceIte, Nat.reduceLeDiff, Nat.reduceAdd, intB_eql, intB_neq, intB_lss, intB_leq, intB_gtr, intB_geq, g1, hg] <;> rfl) ?_ | refine newP_mk ?_ | refine optP_mk ?_ | with_reducible first | refine condP_t ?_ | refine condP_f ?_ | refine ifP_tt' ?_ | refine ifP_ff' ?_ | refine ifP_tf' ?_ | refine ifP_ft' ?_ | refine ifP_u' ?_ | refine optP_mk0 ?_))
      refine bindP_mk (loadA_all g2 rfl) ?_
      (repeat (first | refine bindP_mk (by simp (disch := first | omega | exact Int.natCast_nonneg _ | assumption) only [BB, B2, ↓reduceIte, Nat.reduceLeDiff, Nat.reduceAdd, intB_eql, intB_neq, intB_lss, intB_leq, intB_gtr, intB_geq] <;> rfl) ?_ | refine newP_mk ?_ | refine optP_mk ?_ | with_reducible first | refine condP_t ?_ | refine condP_f ?_ | refine ifP_tt' ?_ | refine ifP_ff' ?_ | refine ifP_tf' ?_ | refine ifP_ft' ?_ | refine ifP_u' ?_ | refine optP_mk0 ?_))
      refine bset_Has_c hi (hf'.mono (by omega)) fun n1 hn1 => ?_
      refine ⟨sameV_own g1 g1, ?_⟩
      refine bindP_mk (buildV_pair _ _ rfl rfl) ?_
      refine zer_pair_mk (newP_mk ?_)
      refine bindP_mk (storeA_own (l := pairL (0, false)) (vs := pairL (c[i], x.testBit i)) (e := y_split_pair) (f := (0, 0)) (by rw [T.get_upd_same]; rfl) rfl rfl rfl rfl) ?_
      refine bindP_mk (loadA_all (by rw [T.get_upd_same]) rfl) ?_
      generalize hp : (c[i], x.testBit i) = p
      have hpi : (pairs c x)[i]? = some p := by rw [pairs_get hi, ← hp, List.getD_eq_getElem?_getD, List.getElem?_eq_getElem hic]; rfl
      have hpl : i < (pairs c x).length := by rw [pairs_length]; exact hi
      have hpe : (pairs c x)[i] = p := by rw [List.getElem?_eq_getElem hpl] at hpi; exact Option.some.inj hpi
      have htake : (pairs c x).take (i + 1) = (pairs c x).take i ++ [p] := by rw [List.take_succ_eq_append_getElem hpl, hpe]
      have hdd : dd ((pairs c x).take (i + 1)) = addN (dd ((pairs c x).take i)) p := by rw [htake, dd_append]
      have hNi : (num (pairs c x))[i]'(by omega) = ix ((pairs c x).take (i + 1)) p := by
        have h1 := num_get (l := pairs c x) hpl
        rw [hpe, List.getElem?_eq_getElem (by omega)] at h1
        rw [Option.some.inj h1]
        have h2 := idx_stable (l := (pairs c x).take (i + 1)) (m := (pairs c x).drop (i + 1)) (p := p) (by rw [htake]; simp)
        rw [List.take_append_drop] at h2
        exact h2
      have hval : ∀ v : Nat, v = ix ((pairs c x).take (i + 1)) p → ∀ (e : Env) (h1 : T Obj) (n2 : Nat), nx' ≤ n2 → e 2 = ptr nx → e 3 = ptr (nx + 1) → e 4 = ptr (nx + 2) → e 5 = ptr (nx + 3) → e 6 = .map (some (nx + 4)) → e 12 = .int .i64 i → e 7 = .int .i64 i → e 9 = .int .u8 (v : Int) →
          Sub h h1 → Fr h1 n2 → h1.get nx = some (.cells (splitL c m).toArray y_api_Split) → h1.get (nx + 1) = some (.cells (setL x).toArray y_api_Set) → h1.get (nx + 2) = some (.cells (splitL (List.replicate 256 0) 0).toArray y_api_Split) →
          h1.get (nx + 3) = some (.cells (splitL (part (num (pairs c x)) i) 0).toArray y_api_Split) → h1.get (nx + 4) = some (.map (ents 0 (dd ((pairs c x).take (i + 1)))).toArray (dd ((pairs c x).take (i + 1))).length) → split_cut_j3 ro Q' e h1 n2 := by
        intro v hv e h1 n2 hn2 e2 e3 e4 e5 e6 e12 e7 e9 hs1 hf1 g1 g2 g3 g4 g5
        unfold split_cut_j3
        rw [e5, e7, e9]
        (repeat (first | refine bindP_mk (by simp (disch := first | omega | exact Int.natCast_nonneg _ | assumption) only [BB, B2, ↓reduceIte, Nat.reduceLeDiff, Nat.reduceAdd, intB_eql, intB_neq, intB_lss, intB_leq, intB_gtr, intB_geq] <;> rfl) ?_ | refine newP_mk ?_ | refine optP_mk ?_ | with_reducible first | refine condP_t ?_ | refine condP_f ?_ | refine ifP_tt' ?_ | refine ifP_ff' ?_ | refine ifP_tf' ?_ | refine ifP_ft' ?_ | refine ifP_u' ?_ | refine optP_mk0 ?_))
        have hpl2 : (part (num (pairs c x)) i).length = 256 := part_len hN (by omega)
        refine bindP_mk (store1_own g4 (by rw [splitL_len hpl2]; omega) rfl rfl) ?_
        rw [splitL_set _ (by omega), hv, ← hNi, part_set hN hi]
        unfold split_cut_j2
        show bindP (intB .add (e 12) _) _
        rw [e12]
        (repeat (first | refine bindP_mk (by simp (disch := first | omega | exact Int.natCast_nonneg _ | assumption) only [BB, B2, ↓reduceIte, Nat.reduceLeDiff, Nat.reduceAdd, intB_eql, intB_neq, intB_lss, intB_leq, intB_gtr, intB_geq] <;> rfl) ?_ | refine newP_mk ?_ | refine optP_mk ?_ | with_reducible first | refine condP_t ?_ | refine condP_f ?_ | refine ifP_tt' ?_ | refine ifP_ff' ?_ | refine ifP_tf' ?_ | refine ifP_ft' ?_ | refine ifP_u' ?_ | refine optP_mk0 ?_))
        refine hq (n - 1) _ _ _ _ (by omega) ⟨i + 1, by omega, ?_, e2, e3, e4, e5, e6, rfl, hs1.new hf (by omega), (hf1.mono (by omega)).upd (Nat.le_refl _) (by omega), ?_, ?_, ?_, ?_, ?_⟩ (Sub.refl _)
        · omega
        · simp (disch := first | omega | exact Int.natCast_nonneg _ | assumption) only [BB, B2, ↓reduceIte, Nat.reduceLeDiff, Nat.reduceAdd, intB_eql, intB_neq, intB_lss, intB_leq, intB_gtr, intB_geq, g1]
        · simp (disch := first | omega | exact Int.natCast_nonneg _ | assumption) only [BB, B2, ↓reduceIte, Nat.reduceLeDiff, Nat.reduceAdd, intB_eql, intB_neq, intB_lss, intB_leq, intB_gtr, intB_geq, g2]
        · simp (disch := first | omega | exact Int.natCast_nonneg _ | assumption) only [BB, B2, ↓reduceIte, Nat.reduceLeDiff, Nat.reduceAdd, intB_eql, intB_neq, intB_lss, intB_leq, intB_gtr, intB_geq, g3]
        · rw [T.get_upd_same]
        · simp (disch := first | omega | exact Int.natCast_nonneg _ | assumption) only [BB, B2, ↓reduceIte, Nat.reduceLeDiff, Nat.reduceAdd, intB_eql, intB_neq, intB_lss, intB_leq, intB_gtr, intB_geq, g5]
      have hnew : ∀ k, k ≠ nx' + 12 → ((h'.upd (nx' + 12) (some (.cells (Value.cells (pairV (0, false))) y_split_pair))).upd (nx' + 12) (some (.cells (pairL p).toArray y_split_pair))).get k = h'.get k := fun k hk => by
        rw [T.get_upd_ne _ _ hk, T.get_upd_ne _ _ hk]
      generalize hH : (h'.upd (nx' + 12) (some (.cells (Value.cells (pairV (0, false))) y_split_pair))).upd (nx' + 12) (some (.cells (pairL p).toArray y_split_pair)) = H at hnew
      have hHs : Sub h H := by rw [← hH]; exact (hs.new hf (by omega)).new hf (by omega)
      have hHf : Fr H n1 := by rw [← hH]; exact ((hf'.mono (by omega)).upd (Nat.le_refl _) (by omega)).upd (Nat.le_refl _) (by omega)
      have hHk : H.get (nx' + 12) = some (.cells (pairL p).toArray y_split_pair) := by rw [← hH, T.get_upd_same]
      generalize hS : dd ((pairs c x).take i) = s at hdd g5
      have hsl : s.length ≤ i := by
        rw [← hS]
        refine Nat.le_trans (dd_length _) ?_
        rw [List.length_take]; omega
      have g5' : H.get (nx + 4) = some (.map (ents 0 s).toArray s.length) := by rw [hnew _ (by omega)]; exact g5
      refine bindP_mk (look_pair (p := p) g5') ?_
      refine bindP_mk rfl ?_
      refine bindP_mk rfl ?_
      (repeat (first | refine bindP_mk (by simp (disch := first | omega | exact Int.natCast_nonneg _ | assumption) only [BB, B2, ↓reduceIte, Nat.reduceLeDiff, Nat.reduceAdd, intB_eql, intB_neq, intB_lss, intB_leq, intB_gtr, intB_geq] <;> rfl) ?_ | refine newP_mk ?_ | refine optP_mk ?_ | with_reducible first | refine condP_t ?_ | refine condP_f ?_ | refine ifP_tt' ?_ | refine ifP_ff' ?_ | refine ifP_tf' ?_ | refine ifP_ft' ?_ | refine ifP_u' ?_ | refine optP_mk0 ?_))
      by_cases hm : p ∈ s
      · refine condP_fa (by simp [hm]) ?_
        have hix : (if p ∈ s then pos s p else 0) = ix ((pairs c x).take (i + 1)) p := by
          rw [if_pos hm]; unfold ix; rw [hdd]; unfold addN; rw [if_pos hm]
        refine hval _ hix _ _ _ (by omega) e2 e3 e4 e5 e6 e12 rfl rfl hHs (hHf.mono (by omega)) ?_ ?_ ?_ ?_ ?_
        · rw [hnew _ (by omega)]; exact g1
        · rw [hnew _ (by omega)]; exact g2
        · rw [hnew _ (by omega)]; exact g3
        · rw [hnew _ (by omega)]; exact g4
        · rw [hdd, g5']; unfold addN; rw [if_pos hm]
      · refine condP_tr (by simp [hm]) ?_
        refine bindP_mk (len_pair g5') ?_
        (repeat (first | refine bindP_mk (by simp (disch := first | omega | exact Int.natCast_nonneg _ | assumption) only [BB, B2, ↓reduceIte, Nat.reduceLeDiff, Nat.reduceAdd, intB_eql, intB_neq, intB_lss, intB_leq, intB_gtr, intB_geq] <;> rfl) ?_ | refine newP_mk ?_ | refine optP_mk ?_ | with_reducible first | refine condP_t ?_ | refine condP_f ?_ | refine ifP_tt' ?_ | refine ifP_ff' ?_ | refine ifP_tf' ?_ | refine ifP_ft' ?_ | refine ifP_u' ?_ | refine optP_mk0 ?_))
        refine bindP_mk (loadA_all hHk rfl) ?_
        refine bindP_mk (put_pair g5' hm) ?_
        have hix : s.length = ix ((pairs c x).take (i + 1)) p := by
          rw [htake, ix_new (by rw [hS]; exact hm), hS]
        refine hval _ hix _ _ _ (by omega) e2 e3 e4 e5 e6 e12 rfl rfl (hHs.new hf (by omega)) ((hHf.mono (by omega)).upd (Nat.le_refl _) (by omega)) ?_ ?_ ?_ ?_ ?_
        · rw [T.get_upd_ne _ _ (by omega), hnew _ (by omega)]; exact g1
        · rw [T.get_upd_ne _ _ (by omega), hnew _ (by omega)]; exact g2
        · rw [T.get_upd_ne _ _ (by omega), hnew _ (by omega)]; exact g3
        · rw [T.get_upd_ne _ _ (by omega), hnew _ (by omega)]; exact g4
        · rw [hdd, T.get_upd_same]; unfold addN; rw [if_neg hm]
    · refine condP_fa (by simp; omega) ?_
      refine hx _ _ _ _ (fun e => by cases e) ?_
      show exP _ _ _ _
      rw [exP_exit]
      show split_cut_j1 ro K _ _ _
      have hi2 : i = 256 := by omega
      subst hi2
      have ht : (pairs c x).take 256 = pairs c x := List.take_of_length_le (by rw [pairs_length]; omega)
      rw [part_all hN] at g4
      rw [ht] at g5
      exact split_cut_end (id := nx) hN e4 e5 e6 g3 g4 g5 hf hs (Nat.le_refl _) (hK _ (by omega))
  · exact (((((Sub.refl h).new hf (Nat.le_refl _)).new hf (by omega)).new hf (by omega)).new hf (by omega)).new hf (by omega)
  · exact ((((hf.upd (m := nx + 7) (by omega) (by omega)).upd (Nat.le_refl _) (by omega)).upd (Nat.le_refl _) (by omega)).upd (Nat.le_refl _) (by omega)).upd (Nat.le_refl _) (by omega)
  · simp (disch := first | omega | exact Int.natCast_nonneg _ | assumption) only [BB, B2, ↓reduceIte, Nat.reduceLeDiff, Nat.reduceAdd, intB_eql, intB_neq, intB_lss, intB_leq, intB_gtr, intB_geq, splitV_cells]
  · simp (disch := first | omega | exact Int.natCast_nonneg _ | assumption) only [BB, B2, ↓reduceIte, Nat.reduceLeDiff, Nat.reduceAdd, intB_eql, intB_neq, intB_lss, intB_leq, intB_gtr, intB_geq, setV_cells]
  · simp (disch := first | omega | exact Int.natCast_nonneg _ | assumption) only [BB, B2, ↓reduceIte, Nat.reduceLeDiff, Nat.reduceAdd, intB_eql, intB_neq, intB_lss, intB_leq, intB_gtr, intB_geq, splitV_cells]
  · simp (disch := first | omega | exact Int.natCast_nonneg _ | assumption) only [BB, B2, ↓reduceIte, Nat.reduceLeDiff, Nat.reduceAdd, intB_eql, intB_neq, intB_lss, intB_leq, intB_gtr, intB_geq, splitV_cells]
    rfl
  · simp (disch := first | omega | exact Int.natCast_nonneg _ | assumption) only [BB, B2, ↓reduceIte, Nat.reduceLeDiff, Nat.reduceAdd, intB_eql, intB_neq, intB_lss, intB_leq, intB_gtr, intB_geq]
    rfl
end V
end Go.Proofs.Ytmmdcdjkmakgpaa
set_option linter.unusedVariables false
set_option linter.unusedSimpArgs false
namespace Go.Proofs.Ytmmdcdjkmakgpaa
set_option maxRecDepth 20000
namespace V
open PA
def setsC (l : List Nat) : List (List Value) := l.map setL
theorem setsC_len (l : List Nat) : (setsC l).length = l.length := by simp [setsC]
theorem setsC_get {l : List Nat} {i : Nat} (hi : i < l.length) : (setsC l)[i]? = some (setL l[i]) := by simp [setsC, hi]
theorem buildV_Split1 : buildV Try.prog y_api_Split [(1, .int .i64 1)] = some (splitV (List.replicate 256 0) 1) := by kernel_rfl
theorem buildV_Split0 : buildV Try.prog y_api_Split [] = some (splitV (List.replicate 256 0) 0) := by kernel_rfl
set_option maxRecDepth 4000 in
theorem split_Of_c {ro : Ro} {v : Value} {l : List Nat} (hlen : l.length ≤ 1000000) {h : T Obj} {nx : Nat} {K : KV} (hf : Fr h nx) (hv : Sl ro h v 4 (setsC l)) (hK : ∀ nx', nx ≤ nx' → K (splitV (cls l) (many l)) h nx') : callP Try.prog ro i_split_Of [v] h nx K := by
  apply split_Of_of
  unfold split_Of
  refine zer_Split_mk (newP_mk (bindP_mk buildV_Split1 (zer_Split_mk (newP_mk ?_))))
  refine bindP_mk (storeA_own (l := splitL (List.replicate 256 0) 0) (vs := splitL (List.replicate 256 0) 1) (by rw [T.get_upd_same]; rfl) rfl (splitL_len rep_len) (splitL_len rep_len) (splitL_ok _ _)) ?_
  have hs2 : Sub h ((((h.upd nx (some (.cells (Value.cells (splitV (List.replicate 256 0) 0)) y_api_Split))).upd (nx + 2) (some (.cells (Value.cells (splitV (List.replicate 256 0) 0)) y_api_Split)))).upd (nx + 2) (some (.cells (splitL (List.replicate 256 0) 1).toArray y_api_Split))) := (((Sub.refl h).new hf (Nat.le_refl _)).new hf (by omega)).new hf (by omega)
  have hlenv := (hv.sub hs2).len
  rw [setsC_len] at hlenv
  refine bindP_mk hlenv ?_
  refine loopP_rule (fun n e h' nx' => ∃ i : Nat, i + n = l.length ∧ nx + 3 ≤ nx' ∧ e 7 = v ∧ e 8 = .int .i64 (l.length : Nat) ∧ e 2 = ptr nx ∧ e 3 = ptr (nx + 2) ∧ e 9 = .int .i64 i ∧ Sub h h' ∧ Fr h' nx' ∧
    h'.get nx = some (.cells (splitL (List.replicate 256 0) 0).toArray y_api_Split) ∧ h'.get (nx + 2) = some (.cells (splitL (cls (l.take i)) (many (l.take i))).toArray y_api_Split)) ?_ (n := l.length) ⟨0, by omega, by omega, rfl, rfl, rfl, rfl, rfl, hs2, ?_, ?_, ?_⟩
  · rintro n e h' nx' ⟨i, hin, hnx, e7, e8, e2, e3, e9, hs, hf', g1, g2⟩ Q' hc hx
    unfold split_Of_L1
    rw [e7, e8, e3, e9]
    (repeat (first | refine bindP_mk (by simp (disch := first | omega | exact Int.natCast_nonneg _ | assumption) only [BB, B2, ↓reduceIte, Nat.reduceLeDiff, Nat.reduceAdd, intB_eql, intB_neq, intB_lss, intB_leq, intB_gtr, intB_geq] <;> rfl) ?_ | refine newP_mk ?_ | refine optP_mk ?_ | with_reducible first | refine condP_t ?_ | refine condP_f ?_ | refine ifP_tt' ?_ | refine ifP_ff' ?_ | refine ifP_tf' ?_ | refine ifP_ft' ?_ | refine ifP_u' ?_ | refine optP_mk0 ?_))
    by_cases hi : i < l.length
    · refine condP_tr (by simp; omega) ?_
      refine bindP_mk ((hv.sub hs).ix _ (by rw [setsC_len]; exact hi)) ?_
      refine bindP_mk ((hv.sub hs).loadA (setsC_get hi)) ?_
      refine zer_Set_mk (newP_mk ?_)
      refine bindP_mk (storeA_own (l := setL 0) (vs := setL l[i]) (e := y_api_Set) (f := (0, 0)) (by rw [T.get_upd_same]; rfl) rfl rfl rfl rfl) ?_
      refine bindP_mk (loadA_all (l := splitL (cls (l.take i)) (many (l.take i))) (e := y_api_Split) (f := (0, 0)) (by simp (disch := first | omega | exact Int.natCast_nonneg _ | assumption) only [BB, B2, ↓reduceIte, Nat.reduceLeDiff, Nat.reduceAdd, intB_eql, intB_neq, intB_lss, intB_leq, intB_gtr, intB_geq, g2]) (splitL_len (cls_length _))) ?_
      refine bindP_mk (loadA_all (l := setL l[i]) (by rw [T.get_upd_same]) rfl) ?_
      refine split_cut_c (m := many (l.take i)) (cls_length _) (((hf'.mono (by omega)).upd (n := nx' + 8) (Nat.le_refl _) (by omega)).upd (Nat.le_refl _) (by omega)) fun n1 hn1 => ?_
      obtain ⟨q1, q2⟩ := cls_step (l.take i) l[i]
      have ht : l.take i ++ [l[i]] = l.take (i + 1) := (List.take_succ_eq_append_getElem hi).symm
      rw [ht] at q1 q2
      rw [q1, q2]
      refine bindP_mk (storeA_own (l := splitL (cls (l.take i)) (many (l.take i))) (vs := splitL (cls (l.take (i + 1))) (many (l.take (i + 1)))) (e := y_api_Split) (f := (0, 0)) (by simp (disch := first | omega | exact Int.natCast_nonneg _ | assumption) only [BB, B2, ↓reduceIte, Nat.reduceLeDiff, Nat.reduceAdd, intB_eql, intB_neq, intB_lss, intB_leq, intB_gtr, intB_geq, g2]) rfl (splitL_len (cls_length _)) (splitL_len (cls_length _)) (splitL_ok _ _)) ?_
      (repeat (first | refine bindP_mk (by simp (disch := first | omega | exact Int.natCast_nonneg _ | assumption) only [BB, B2, ↓reduceIte, Nat.reduceLeDiff, Nat.reduceAdd, intB_eql, intB_neq, intB_lss, intB_leq, intB_gtr, intB_geq] <;> rfl) ?_ | refine newP_mk ?_ | refine optP_mk ?_ | with_reducible first | refine condP_t ?_ | refine condP_f ?_ | refine ifP_tt' ?_ | refine ifP_ff' ?_ | refine ifP_tf' ?_ | refine ifP_ft' ?_ | refine ifP_u' ?_ | refine optP_mk0 ?_))
      refine hc (n - 1) _ _ _ _ (by omega) ⟨i + 1, by omega, ?_, e7, e8, e2, e3, rfl, ((hs.new hf (by omega)).new hf (by omega)).new hf (by omega), (((hf'.mono (by omega)).upd (Nat.le_refl _) (by omega)).upd (Nat.le_refl _) (by omega)).upd (Nat.le_refl _) (by omega), ?_, ?_⟩ (Sub.refl _)
      · omega
      · simp (disch := first | omega | exact Int.natCast_nonneg _ | assumption) only [BB, B2, ↓reduceIte, Nat.reduceLeDiff, Nat.reduceAdd, intB_eql, intB_neq, intB_lss, intB_leq, intB_gtr, intB_geq, g1]
      · rw [T.get_upd_same]
    · refine condP_fa (by simp; omega) ?_
      refine hx _ _ _ _ (fun e => by cases e) (exP_e (beqP_t ?_))
      unfold split_Of_j1
      have ht : l.take i = l := List.take_of_length_le (by omega)
      rw [ht] at g2
      show bindP (loadA ro h' 257 (e 3)) _
      rw [e3]
      show bindP _ fun t => bindP (storeN 257 h' (e 2) t) fun h8 => bindP (loadA ro h8 257 (e 2)) _
      rw [e2]
      exact ret_copy g2 g1 (splitL_len (cls_length _)) (splitL_len rep_len) (splitL_ok _ _) hf hs (Nat.le_refl _) (hK _ (by omega))
  · exact ((hf.upd (m := nx + 7) (by omega) (by omega)).upd (Nat.le_refl _) (by omega)).upd (Nat.le_refl _) (by omega)
  · simp (disch := first | omega | exact Int.natCast_nonneg _ | assumption) only [BB, B2, ↓reduceIte, Nat.reduceLeDiff, Nat.reduceAdd, intB_eql, intB_neq, intB_lss, intB_leq, intB_gtr, intB_geq, splitV_cells]
  · rw [T.get_upd_same, List.take_zero, cls_nil, many_nil]
end V
end Go.Proofs.Ytmmdcdjkmakgpaa
set_option linter.unusedVariables false
set_option linter.unusedSimpArgs false
namespace Go.Proofs.Ytmmdcdjkmakgpaa
set_option maxRecDepth 20000
namespace V
open PA
theorem sig_take_succ {l : List Nat} {i : Nat} (hi : i < l.length) (b : Nat) : sig (l.take (i + 1)) b = sig (l.take i) b ++ [l[i].testBit b] := by
  rw [List.take_succ_eq_append_getElem hi, sig_snoc]
theorem sig_differ {l : List Nat} {i a b : Nat} (hi : i < l.length) (h : l[i].testBit a ≠ l[i].testBit b) : sig l a ≠ sig l b := by
  intro e
  have h1 : (sig l a)[i]? = some (l[i].testBit a) := by simp [sig, hi]
  have h2 : (sig l b)[i]? = some (l[i].testBit b) := by simp [sig, hi]
  rw [e, h2] at h1
  exact h (Option.some.inj h1).symm
theorem ref02_alike_c {ro : Ro} {v : Value} {l : List Nat} {a b : Nat} (ha : a < 256) (hb : b < 256) (hlen : l.length ≤ 1000000) {h : T Obj} {nx : Nat} {K : KV} (hf : Fr h nx) (hv : Sl ro h v 4 (setsC l)) (hK : ∀ nx', nx ≤ nx' → K (.bool (decide (sig l a = sig l b))) h nx') :
    callP Try.prog ro i_ref02_alike [v, .int .u8 a, .int .u8 b] h nx K := by
  apply ref02_alike_of
  unfold ref02_alike
  refine loopP_rule (fun n e h' nx' => ∃ i : Nat, i + n = l.length ∧ nx ≤ nx' ∧ e 0 = v ∧ e 1 = .int .u8 a ∧ e 2 = .int .u8 b ∧ e 7 = .int .i64 i ∧ h' = h ∧ sig (l.take i) a = sig (l.take i) b) ?_ (n := l.length) ⟨0, by omega, by omega, rfl, rfl, rfl, rfl, rfl, rfl⟩
  rintro n e h' nx' ⟨i, hin, hnx, e0, e1, e2, e7, rfl, hsig⟩ Q' hc hx
  unfold ref02_alike_L1
  rw [e0, e1, e2, e7]
  have hl := hv.len
  rw [setsC_len] at hl
  refine bindP_mk hl ?_
  (repeat (first | refine bindP_mk (by simp (disch := first | omega | exact Int.natCast_nonneg _ | assumption) only [BB, B2, ↓reduceIte, Nat.reduceLeDiff, Nat.reduceAdd, intB_eql, intB_neq, intB_lss, intB_leq, intB_gtr, intB_geq] <;> rfl) ?_ | refine newP_mk ?_ | refine optP_mk ?_ | with_reducible first | refine condP_t ?_ | refine condP_f ?_ | refine ifP_tt' ?_ | refine ifP_ff' ?_ | refine ifP_tf' ?_ | refine ifP_ft' ?_ | refine ifP_u' ?_ | refine optP_mk0 ?_))
  by_cases hi : i < l.length
  · refine condP_tr (by simp; omega) ?_
    have hix := hv.ix .i64 (i := i) (by rw [setsC_len]; exact hi)
    have hld := hv.loadA (setsC_get hi)
    refine bindP_mk hix (bindP_mk hld ?_)
    refine ref01_Has_c ha (hf.mono (by omega)) fun n1 hn1 => ?_
    refine bindP_mk hix (bindP_mk hld ?_)
    refine ⟨hv.same (Sub.refl _) (by rw [setsC_len]; exact hi), ?_⟩
    refine ref01_Has_c hb (hf.mono (by omega)) fun n2 hn2 => ?_
    (repeat (first | refine bindP_mk (by simp (disch := first | omega | exact Int.natCast_nonneg _ | assumption) only [BB, B2, ↓reduceIte, Nat.reduceLeDiff, Nat.reduceAdd, intB_eql, intB_neq, intB_lss, intB_leq, intB_gtr, intB_geq] <;> rfl) ?_ | refine newP_mk ?_ | refine optP_mk ?_ | with_reducible first | refine condP_t ?_ | refine condP_f ?_ | refine ifP_tt' ?_ | refine ifP_ff' ?_ | refine ifP_tf' ?_ | refine ifP_ft' ?_ | refine ifP_u' ?_ | refine optP_mk0 ?_))
    by_cases he : l[i].testBit a = l[i].testBit b
    · refine condP_fa (by simp [he]) ?_
      (repeat (first | refine bindP_mk (by simp (disch := first | omega | exact Int.natCast_nonneg _ | assumption) only [BB, B2, ↓reduceIte, Nat.reduceLeDiff, Nat.reduceAdd, intB_eql, intB_neq, intB_lss, intB_leq, intB_gtr, intB_geq] <;> rfl) ?_ | refine newP_mk ?_ | refine optP_mk ?_ | with_reducible first | refine condP_t ?_ | refine condP_f ?_ | refine ifP_tt' ?_ | refine ifP_ff' ?_ | refine ifP_tf' ?_ | refine ifP_ft' ?_ | refine ifP_u' ?_ | refine optP_mk0 ?_))
      refine hc (n - 1) _ _ _ _ (by omega) ⟨i + 1, by omega, by omega, e0, e1, e2, rfl, rfl, ?_⟩ (Sub.refl _)
      rw [sig_take_succ hi, sig_take_succ hi, hsig, he]
    · refine condP_tr (by simp [he]) ?_
      refine hx _ _ _ _ (fun e => by cases e) (exP_r ?_)
      refine ⟨h', Sub.refl _, ?_⟩
      have := hK (n2 + 1) (by omega)
      rw [decide_eq_false (sig_differ hi he)] at this
      exact this
  · refine condP_fa (by simp; omega) ?_
    refine hx _ _ _ _ (fun e => by cases e) (exP_e (beqP_t ?_))
    unfold ref02_alike_j1
    refine ⟨h', Sub.refl _, ?_⟩
    have ht : l.take i = l := List.take_of_length_le (by omega)
    rw [ht] at hsig
    have := hK (nx' + 4 + 1) (by omega)
    rw [decide_eq_true hsig] at this
    exact this
theorem lit_u8 (aid : Nat) (b : Int) : sliceLitV Try.prog y_s_uint8 aid 1 [(0, .int .u8 b)] = some (.slice (some (own aid 1)) 1 1, some (.cells #[.int .u8 b] y_uint8)) := by kernel_rfl
theorem und_u8s : und Try.prog y_s_uint8 = some (.slice y_uint8) := by kernel_rfl
theorem tin_u8 : ∃ i, tin Try.prog y_uint8 = some i ∧ i.size = 1 ∧ i.bytes = 1 := by
  have h : (tin Try.prog y_uint8).map (fun i => (i.size, i.bytes)) = some (1, 1) := by kernel_rfl
  cases hi : tin Try.prog y_uint8 with
  | none => rw [hi] at h; cases h
  | some i => rw [hi] at h; simp at h; exact ⟨i, rfl, h.1, h.2⟩
theorem zer_u8 : zer Try.prog y_uint8 = some (.int .u8 0) := by kernel_rfl
theorem append_u8 {ro : Ro} {h : T Obj} {v x : Value} {nx lo hi : Nat} {l : List Nat} {b : Nat} (ho : Own h v 1 y_uint8 (bytesC l) lo hi) (hx : Sl ro h x 1 (bytesC [b])) (hb : l.length ≤ 1000000) (hlo : lo ≤ nx) (hnx : hi ≤ nx) :
    ∃ h' r, appendV Try.prog ro h nx #[y_s_uint8, y_s_uint8] [v, x] = some (r, h', nx + 1) ∧ Own h' r 1 y_uint8 (bytesC (l ++ [b])) lo (nx + 1) ∧ (∀ k, (k < lo ∨ hi ≤ k) → k ≠ nx → h'.get k = h.get k) ∧ (∀ k, k ≠ nx → h'.get k = h.get k ∨ h'.get k = none) := by
  obtain ⟨i, h1, h2, h3⟩ := tin_u8
  have hcat : bytesC l ++ bytesC [b] = bytesC (l ++ [b]) := by simp [bytesC]
  have hl1 : (bytesC l).length = l.length := bytesC_len l
  have hl2 : (bytesC [b]).length = 1 := rfl
  obtain ⟨h', q1, q2, q3, q4⟩ := append_own (P := Try.prog) (t := y_s_uint8) ho hx und_u8s h1 h2 (by omega) zer_u8 rfl (by simp [bytesC]) rfl (by rw [hl1, hl2, h3]; unfold big; omega) (by rw [hl1, hl2]; unfold big; omega) hlo hnx
  rw [hcat] at q1 q2
  exact ⟨h', _, q1, q2, q3, q4⟩
end V
end Go.Proofs.Ytmmdcdjkmakgpaa
set_option linter.unusedVariables false
set_option linter.unusedSimpArgs false
namespace Go.Proofs.Ytmmdcdjkmakgpaa
set_option maxRecDepth 20000
namespace V
open PA
set_option maxRecDepth 4000 in
theorem ref02_Of_c {ro : Ro} {v : Value} {l : List Nat} (hlen : l.length ≤ 1000000) {h : T Obj} {nx : Nat} {K : KV} (hf : Fr h nx) (hv : Sl ro h v 4 (setsC l)) (hK : ∀ nx', nx ≤ nx' → K (splitV (cls l) (many l)) h nx') : callP Try.prog ro i_ref02_Of [v] h nx K := by
  apply ref02_Of_of
  unfold ref02_Of
  refine zer_Split_mk (newP_mk (bindP_mk buildV_Split0 (zer_Split_mk (newP_mk ?_))))
  refine bindP_mk (storeA_own (l := splitL (List.replicate 256 0) 0) (vs := splitL (List.replicate 256 0) 0) (by rw [T.get_upd_same]; rfl) rfl (splitL_len rep_len) (splitL_len rep_len) (splitL_ok _ _)) ?_
  have hN := cls_length l
  refine loopP_rule (fun n e h' nx' => ∃ (i : Nat) (reps : List Nat) (fv : Value), i + n = 256 ∧ nx + 6 ≤ nx' ∧ e 0 = v ∧ e 2 = ptr nx ∧ e 3 = ptr (nx + 2) ∧ e 4 = fv ∧ e 5 = .int .i64 i ∧ Sub h h' ∧ Fr h' nx' ∧
    h'.get nx = some (.cells (splitL (List.replicate 256 0) 0).toArray y_api_Split) ∧ h'.get (nx + 2) = some (.cells (splitL (part (cls l) i) 0).toArray y_api_Split) ∧
    Own h' fv 1 y_uint8 (bytesC reps) (nx + 3) nx' ∧ reps.map (sig l) = dd ((sigs l).take i) ∧ ∀ r ∈ reps, r < 256) ?_ (n := 256)
    ⟨0, [], _, by omega, by omega, rfl, rfl, rfl, rfl, rfl, ?_, ?_, ?_, ?_, Own.nil, rfl, by simp⟩
  · rintro n e h' nx' ⟨i, reps, fv, hin, hnx, e0, e2, e3, e4, e5, hs, hf', g1, g2, ho, hreps, hr⟩ Q' hc hx
    unfold ref02_Of_L1
    rw [e5]
    (repeat (first | refine bindP_mk (by simp (disch := first | omega | exact Int.natCast_nonneg _ | assumption) only [BB, B2, ↓reduceIte, Nat.reduceLeDiff, Nat.reduceAdd, intB_eql, intB_neq, intB_lss, intB_leq, intB_gtr, intB_geq] <;> rfl) ?_ | refine newP_mk ?_ | refine optP_mk ?_ | with_reducible first | refine condP_t ?_ | refine condP_f ?_ | refine ifP_tt' ?_ | refine ifP_ff' ?_ | refine ifP_tf' ?_ | refine ifP_ft' ?_ | refine ifP_u' ?_ | refine optP_mk0 ?_))
    by_cases hi : i < 256
    · refine condP_tr (by simp; omega) ?_
      have hrl : reps.length ≤ i := by
        have := congrArg List.length hreps
        rw [List.length_map] at this
        rw [this]
        refine Nat.le_trans (dd_length _) ?_
        rw [List.length_take]; omega
      have hsl : i < (sigs l).length := by rw [sigs_length]; exact hi
      have hse : (sigs l)[i] = sig l i := by have := sigs_get (l := l) hi; rw [List.getElem?_eq_getElem hsl] at this; exact Option.some.inj this
      have htake : (sigs l).take (i + 1) = (sigs l).take i ++ [sig l i] := by rw [List.take_succ_eq_append_getElem hsl, hse]
      have hNi : (cls l)[i]'(by omega) = ix ((sigs l).take (i + 1)) (sig l i) := by
        have h1 := cls_get (l := l) hi
        rw [List.getElem?_eq_getElem (by omega)] at h1
        rw [Option.some.inj h1]
        have h2 := idx_stable (l := (sigs l).take (i + 1)) (m := (sigs l).drop (i + 1)) (p := sig l i) (by rw [htake]; simp)
        rw [List.take_append_drop] at h2
        exact h2
      have hrg : ∀ j, (dd ((sigs l).take i))[j]? = (reps[j]?).map (sig l) := fun j => by rw [← hreps, List.getElem?_map]
      -- what stands behind the inner loop
      have hj4 : ∀ (k : Nat) (reps' : List Nat), k = ix ((sigs l).take (i + 1)) (sig l i) → k ≤ i → reps'.map (sig l) = dd ((sigs l).take (i + 1)) → (∀ r ∈ reps', r < 256) → ∀ (e : Env) (h1 : T Obj) (n2 : Nat) (fv : Value), nx' ≤ n2 → e 0 = v → e 2 = ptr nx → e 3 = ptr (nx + 2) → e 4 = fv → e 5 = .int .i64 i → e 6 = .int .i64 k →
          Sub h h1 → Fr h1 n2 → h1.get nx = some (.cells (splitL (List.replicate 256 0) 0).toArray y_api_Split) → h1.get (nx + 2) = some (.cells (splitL (part (cls l) i) 0).toArray y_api_Split) → Own h1 fv 1 y_uint8 (bytesC reps') (nx + 3) n2 → ref02_Of_j4 ro Q' e h1 n2 := by
        intro k reps' hk hki hreps' hr' e h1 n2 fv hn2 e0 e2 e3 e4 e5 e6 hs1 hf1 g1 g2 ho'
        unfold ref02_Of_j4
        rw [e3, e5, e6]
        (repeat (first | refine bindP_mk (by simp (disch := first | omega | exact Int.natCast_nonneg _ | assumption) only [BB, B2, ↓reduceIte, Nat.reduceLeDiff, Nat.reduceAdd, intB_eql, intB_neq, intB_lss, intB_leq, intB_gtr, intB_geq] <;> rfl) ?_ | refine newP_mk ?_ | refine optP_mk ?_ | with_reducible first | refine condP_t ?_ | refine condP_f ?_ | refine ifP_tt' ?_ | refine ifP_ff' ?_ | refine ifP_tf' ?_ | refine ifP_ft' ?_ | refine ifP_u' ?_ | refine optP_mk0 ?_))
        have hpl2 : (part (cls l) i).length = 256 := part_len hN (by omega)
        refine bindP_mk (store1_own g2 (by rw [splitL_len hpl2]; omega) rfl rfl) ?_
        rw [splitL_set _ (by omega), hk, ← hNi, part_set hN hi]
        unfold ref02_Of_j2
        show bindP (intB .add (e 5) _) _
        rw [e5]
        (repeat (first | refine bindP_mk (by simp (disch := first | omega | exact Int.natCast_nonneg _ | assumption) only [BB, B2, ↓reduceIte, Nat.reduceLeDiff, Nat.reduceAdd, intB_eql, intB_neq, intB_lss, intB_leq, intB_gtr, intB_geq] <;> rfl) ?_ | refine newP_mk ?_ | refine optP_mk ?_ | with_reducible first | refine condP_t ?_ | refine condP_f ?_ | refine ifP_tt' ?_ | refine ifP_ff' ?_ | refine ifP_tf' ?_ | refine ifP_ft' ?_ | refine ifP_u' ?_ | refine optP_mk0 ?_))
        refine hc (n - 1) _ _ _ _ (by omega) ⟨i + 1, reps', fv, by omega, ?_, e0, e2, e3, e4, rfl, hs1.new hf (by omega), (hf1.mono (by omega)).upd (Nat.le_refl _) (by omega), ?_, ?_, ?_, hreps', hr'⟩ (Sub.refl _)
        · omega
        · simp (disch := first | omega | exact Int.natCast_nonneg _ | assumption) only [BB, B2, ↓reduceIte, Nat.reduceLeDiff, Nat.reduceAdd, intB_eql, intB_neq, intB_lss, intB_leq, intB_gtr, intB_geq, g1]
        · rw [T.get_upd_same]
        · exact ho'.keep (by omega) fun id hid1 hid2 o hg => by rw [T.get_upd_ne _ _ (by omega)]; exact hg
      have hj3 : ∀ (k : Nat), k ≤ reps.length → (∀ j, j < k → ∀ r, reps[j]? = some r → sig l r ≠ sig l i) → (∀ r, reps[k]? = some r → sig l r = sig l i) → ∀ (e : Env) (n2 : Nat), nx' ≤ n2 → e 0 = v → e 2 = ptr nx → e 3 = ptr (nx + 2) → e 4 = fv → e 5 = .int .i64 i → e 6 = .int .i64 k → ref02_Of_j3 ro Q' e h' n2 := by
        intro k hkl hk1 hk2 e n2 hn2 e0 e2 e3 e4 e5 e6
        unfold ref02_Of_j3
        rw [e4, e5, e6]
        have hl := (ho.sl (ro := ro)).len
        rw [bytesC_len] at hl
        refine bindP_mk hl ?_
        (repeat (first | refine bindP_mk (by simp (disch := first | omega | exact Int.natCast_nonneg _ | assumption) only [BB, B2, ↓reduceIte, Nat.reduceLeDiff, Nat.reduceAdd, intB_eql, intB_neq, intB_lss, intB_leq, intB_gtr, intB_geq] <;> rfl) ?_ | refine newP_mk ?_ | refine optP_mk ?_ | with_reducible first | refine condP_t ?_ | refine condP_f ?_ | refine ifP_tt' ?_ | refine ifP_ff' ?_ | refine ifP_tf' ?_ | refine ifP_ft' ?_ | refine ifP_u' ?_ | refine optP_mk0 ?_))
        by_cases hkk : k = reps.length
        · refine condP_tr (by simp [hkk]) ?_
          (repeat (first | refine bindP_mk (by simp (disch := first | omega | exact Int.natCast_nonneg _ | assumption) only [BB, B2, ↓reduceIte, Nat.reduceLeDiff, Nat.reduceAdd, intB_eql, intB_neq, intB_lss, intB_leq, intB_gtr, intB_geq] <;> rfl) ?_ | refine newP_mk ?_ | refine optP_mk ?_ | with_reducible first | refine condP_t ?_ | refine condP_f ?_ | refine ifP_tt' ?_ | refine ifP_ff' ?_ | refine ifP_tf' ?_ | refine ifP_ft' ?_ | refine ifP_u' ?_ | refine optP_mk0 ?_))
          refine bindP_mk (lit_u8 _ _) (optP_mk ?_)
          have hnm : ¬ sig l i ∈ dd ((sigs l).take i) := by
            rw [← hreps]
            intro hm
            obtain ⟨r, hr1, hr2⟩ := List.mem_map.1 hm
            obtain ⟨j, hj⟩ := List.mem_iff_getElem?.1 hr1
            exact hk1 j (by have := (List.getElem?_eq_some_iff.1 hj).1; omega) r hj hr2
          have ho2 : Own (h'.upd (n2 + 7) (some (.cells #[.int .u8 (i : Int)] y_uint8))) fv 1 y_uint8 (bytesC reps) (nx + 3) (n2 + 7) := ho.keep (by omega) fun id h1 h2 o hg => by rw [T.get_upd_ne _ _ (by omega)]; exact hg
          have hx1 : Sl ro (h'.upd (n2 + 7) (some (.cells #[.int .u8 (i : Int)] y_uint8))) (.slice (some (own (n2 + 7) 1)) 1 1) 1 (bytesC [i]) := Sl.own (l := bytesC [i]) (by rw [T.get_upd_same]; rfl) (by simp [bytesC]) (Nat.le_refl _)
          obtain ⟨h2, r, q1, q2, q3, q4⟩ := append_u8 (nx := n2 + 9) ho2 hx1 (by omega) (by omega) (by omega)
          refine bindP_mk q1 ?_
          dsimp only
          have hS2 : Sub h h2 := fun b o hb => by
            have hbn : b < nx := by
              rcases Nat.lt_or_ge b nx with h9 | h9
              · exact h9
              · rw [hf b h9] at hb; cases hb
            rw [q3 b (.inl (by omega)) (by omega), T.get_upd_ne _ _ (by omega)]
            exact hs b o hb
          have hF2 : Fr h2 (n2 + 9 + 1 + 1) := fun b hb => by
            rw [q3 b (.inr (by omega)) (by omega), T.get_upd_ne _ _ (by omega)]
            exact hf' b (by omega)
          refine hj4 k (reps ++ [i]) ?_ (by omega) ?_ ?_ _ _ _ r (by omega) e0 e2 e3 rfl e5 e6 hS2 hF2 ?_ ?_ (q2.keep (by omega) fun _ _ _ _ hg => hg)
          · rw [htake, ix_new hnm, hkk, ← hreps, List.length_map]
          · rw [htake, dd_append]; unfold addN; rw [if_neg hnm, List.map_append, hreps]; rfl
          · intro r hr3
            rcases List.mem_append.1 hr3 with h9 | h9
            · exact hr r h9
            · simp at h9; omega
          · rw [q3 nx (.inl (by omega)) (by omega), T.get_upd_ne _ _ (by omega)]; exact g1
          · rw [q3 (nx + 2) (.inl (by omega)) (by omega), T.get_upd_ne _ _ (by omega)]; exact g2
        · refine condP_fa (by simp; omega) ?_
          have hkl2 : k < reps.length := by omega
          have hkr : reps[k]? = some reps[k] := List.getElem?_eq_getElem hkl2
          have hkm := hk2 _ hkr
          have hdk : (dd ((sigs l).take i))[k]? = some (sig l i) := by rw [hrg, hkr, ← hkm]; rfl
          have hmem : sig l i ∈ dd ((sigs l).take i) := List.mem_of_getElem? hdk
          have hdd : dd ((sigs l).take (i + 1)) = dd ((sigs l).take i) := by rw [htake, dd_append]; unfold addN; rw [if_pos hmem]
          refine hj4 k reps ?_ (by omega) (by rw [hdd]; exact hreps) hr _ _ _ fv (by omega) e0 e2 e3 e4 e5 e6 hs (hf'.mono (by omega)) g1 g2 (ho.keep (by omega) fun _ _ _ _ hg => hg)
          unfold ix
          rw [hdd]
          refine (pos_of hdk fun j hj => ?_).symm
          rw [hrg]
          cases hj2 : reps[j]? with
          | none => intro h9; cases h9
          | some r => intro h9; exact hk1 j hj r hj2 (Option.some.inj h9)
      refine loopP_rule (fun n2 e1 h1 n1 => ∃ k : Nat, k + n2 = reps.length ∧ nx' ≤ n1 ∧ e1 0 = v ∧ e1 2 = ptr nx ∧ e1 3 = ptr (nx + 2) ∧ e1 4 = fv ∧ e1 5 = .int .i64 i ∧ e1 6 = .int .i64 k ∧ h1 = h' ∧ ∀ j, j < k → ∀ r, reps[j]? = some r → sig l r ≠ sig l i) ?_ (n := reps.length)
        ⟨0, by omega, by omega, e0, e2, e3, e4, e5, rfl, rfl, fun j hj => by omega⟩
      rintro n2 e1 h1 n1 ⟨k, hkn, hn1, f0, f2, f3, f4, f5, f6, rfl, hk1⟩ Q2 hc2 hx2
      unfold ref02_Of_L2
      rw [f0, f4, f5, f6]
      have hl := (ho.sl (ro := ro)).len
      rw [bytesC_len] at hl
      refine bindP_mk hl ?_
      (repeat (first | refine bindP_mk (by simp (disch := first | omega | exact Int.natCast_nonneg _ | assumption) only [BB, B2, ↓reduceIte, Nat.reduceLeDiff, Nat.reduceAdd, intB_eql, intB_neq, intB_lss, intB_leq, intB_gtr, intB_geq] <;> rfl) ?_ | refine newP_mk ?_ | refine optP_mk ?_ | with_reducible first | refine condP_t ?_ | refine condP_f ?_ | refine ifP_tt' ?_ | refine ifP_ff' ?_ | refine ifP_tf' ?_ | refine ifP_ft' ?_ | refine ifP_u' ?_ | refine optP_mk0 ?_))
      by_cases hk : k < reps.length
      · have e9 : decide ((k : Int) < (reps.length : Int)) = true := by simp; omega
        rw [e9]
        (repeat (first | refine bindP_mk (by simp (disch := first | omega | exact Int.natCast_nonneg _ | assumption) only [BB, B2, ↓reduceIte, Nat.reduceLeDiff, Nat.reduceAdd, intB_eql, intB_neq, intB_lss, intB_leq, intB_gtr, intB_geq] <;> rfl) ?_ | refine newP_mk ?_ | refine optP_mk ?_ | with_reducible first | refine condP_t ?_ | refine condP_f ?_ | refine ifP_tt' ?_ | refine ifP_ff' ?_ | refine ifP_tf' ?_ | refine ifP_ft' ?_ | refine ifP_u' ?_ | refine optP_mk0 ?_))
        refine bindP_mk ((ho.sl (ro := ro)).ix _ (by rw [bytesC_len]; exact hk)) ?_
        (repeat (first | refine bindP_mk (by simp (disch := first | omega | exact Int.natCast_nonneg _ | assumption) only [BB, B2, ↓reduceIte, Nat.reduceLeDiff, Nat.reduceAdd, intB_eql, intB_neq, intB_lss, intB_leq, intB_gtr, intB_geq] <;> rfl) ?_ | refine newP_mk ?_ | refine optP_mk ?_ | with_reducible first | refine condP_t ?_ | refine condP_f ?_ | refine ifP_tt' ?_ | refine ifP_ff' ?_ | refine ifP_tf' ?_ | refine ifP_ft' ?_ | refine ifP_u' ?_ | refine optP_mk0 ?_))
        refine bindP_mk ((ho.sl (ro := ro)).load1 (bytesC_get hk)) ?_
        (repeat (first | refine bindP_mk (by simp (disch := first | omega | exact Int.natCast_nonneg _ | assumption) only [BB, B2, ↓reduceIte, Nat.reduceLeDiff, Nat.reduceAdd, intB_eql, intB_neq, intB_lss, intB_leq, intB_gtr, intB_geq] <;> rfl) ?_ | refine newP_mk ?_ | refine optP_mk ?_ | with_reducible first | refine condP_t ?_ | refine condP_f ?_ | refine ifP_tt' ?_ | refine ifP_ff' ?_ | refine ifP_tf' ?_ | refine ifP_ft' ?_ | refine ifP_u' ?_ | refine optP_mk0 ?_))
        refine ref02_alike_c (hr _ (List.getElem_mem hk)) hi hlen (hf'.mono (by omega)) (hv.sub hs) fun n3 hn3 => ?_
        (repeat (first | refine bindP_mk (by simp (disch := first | omega | exact Int.natCast_nonneg _ | assumption) only [BB, B2, ↓reduceIte, Nat.reduceLeDiff, Nat.reduceAdd, intB_eql, intB_neq, intB_lss, intB_leq, intB_gtr, intB_geq] <;> rfl) ?_ | refine newP_mk ?_ | refine optP_mk ?_ | with_reducible first | refine condP_t ?_ | refine condP_f ?_ | refine ifP_tt' ?_ | refine ifP_ff' ?_ | refine ifP_tf' ?_ | refine ifP_ft' ?_ | refine ifP_u' ?_ | refine optP_mk0 ?_))
        by_cases he : sig l reps[k] = sig l i
        · refine condP_fa (by simp [he]) ?_
          refine hx2 _ _ _ _ (fun e => by cases e) (exP_e (beqP_t ?_))
          exact hj3 k (by omega) hk1 (fun r hr9 => by rw [List.getElem?_eq_getElem hk] at hr9; cases hr9; exact he) _ _ (by omega) f0 f2 f3 f4 f5 f6
        · refine condP_tr (by simp [he]) ?_
          (repeat (first | refine bindP_mk (by simp (disch := first | omega | exact Int.natCast_nonneg _ | assumption) only [BB, B2, ↓reduceIte, Nat.reduceLeDiff, Nat.reduceAdd, intB_eql, intB_neq, intB_lss, intB_leq, intB_gtr, intB_geq] <;> rfl) ?_ | refine newP_mk ?_ | refine optP_mk ?_ | with_reducible first | refine condP_t ?_ | refine condP_f ?_ | refine ifP_tt' ?_ | refine ifP_ff' ?_ | refine ifP_tf' ?_ | refine ifP_ft' ?_ | refine ifP_u' ?_ | refine optP_mk0 ?_))
          refine hc2 (n2 - 1) _ _ _ _ (by omega) ⟨k + 1, by omega, by omega, f0, f2, f3, f4, f5, rfl, rfl, fun j hj r hr9 => ?_⟩ (Sub.refl _)
          rcases Nat.lt_or_eq_of_le (Nat.le_of_lt_succ hj) with h9 | rfl
          · exact hk1 j h9 r hr9
          · rw [List.getElem?_eq_getElem hk] at hr9; cases hr9; exact he
      · have e9 : decide ((k : Int) < (reps.length : Int)) = false := by simp; omega
        rw [e9]
        (repeat (first | refine bindP_mk (by simp (disch := first | omega | exact Int.natCast_nonneg _ | assumption) only [BB, B2, ↓reduceIte, Nat.reduceLeDiff, Nat.reduceAdd, intB_eql, intB_neq, intB_lss, intB_leq, intB_gtr, intB_geq] <;> rfl) ?_ | refine newP_mk ?_ | refine optP_mk ?_ | with_reducible first | refine condP_t ?_ | refine condP_f ?_ | refine ifP_tt' ?_ | refine ifP_ff' ?_ | refine ifP_tf' ?_ | refine ifP_ft' ?_ | refine ifP_u' ?_ | refine optP_mk0 ?_))
        refine hx2 _ _ _ _ (fun e => by cases e) (exP_e (beqP_t ?_))
        exact hj3 k (by omega) hk1 (fun r hr9 => by rw [List.getElem?_eq_none (by omega)] at hr9; cases hr9) _ _ (by omega) f0 f2 f3 f4 f5 f6
    · refine condP_fa (by simp; omega) ?_
      refine hx _ _ _ _ (fun e => by cases e) (exP_e (beqP_t ?_))
      have hi2 : i = 256 := by omega
      subst hi2
      unfold ref02_Of_j1
      have hl := (ho.sl (ro := ro)).len
      rw [bytesC_len] at hl
      have hmany : reps.length = many l := by
        have := congrArg List.length hreps
        rw [List.length_map, List.take_of_length_le (by rw [sigs_length]; omega)] at this
        exact this
      show bindP (lenSl (e 4)) _
      rw [e4]
      refine bindP_mk hl ?_
      show bindP (fwdP 256 (e 3)) _
      rw [e3, hmany]
      (repeat (first | refine bindP_mk (by simp (disch := first | omega | exact Int.natCast_nonneg _ | assumption) only [BB, B2, ↓reduceIte, Nat.reduceLeDiff, Nat.reduceAdd, intB_eql, intB_neq, intB_lss, intB_leq, intB_gtr, intB_geq] <;> rfl) ?_ | refine newP_mk ?_ | refine optP_mk ?_ | with_reducible first | refine condP_t ?_ | refine condP_f ?_ | refine ifP_tt' ?_ | refine ifP_ff' ?_ | refine ifP_tf' ?_ | refine ifP_ft' ?_ | refine ifP_u' ?_ | refine optP_mk0 ?_))
      rw [part_all hN] at g2
      refine bindP_mk (store1_own g2 (by rw [splitL_len hN]; omega) rfl rfl) ?_
      rw [splitL_setM _ hN]
      show bindP _ fun t => bindP (storeN 257 _ (e 2) t) fun h8 => bindP (loadA ro h8 257 (e 2)) _
      rw [e2]
      show bindP (loadA ro _ 257 (e 3)) _
      rw [e3]
      refine ret_copy (l1 := splitL (cls l) (many l)) (l2 := splitL (List.replicate 256 0) 0) (id1 := nx + 2) (id2 := nx) (n0 := nx) (e1 := y_api_Split) (f1 := (0, 0)) (e2 := y_api_Split) (f2 := (0, 0)) (h0 := h) ?_ ?_ (splitL_len hN) (splitL_len rep_len) (splitL_ok _ _) hf ?_ (Nat.le_refl _) ?_
      · rw [T.get_upd_same]
      · simp (disch := first | omega | exact Int.natCast_nonneg _ | assumption) only [BB, B2, ↓reduceIte, Nat.reduceLeDiff, Nat.reduceAdd, intB_eql, intB_neq, intB_lss, intB_leq, intB_gtr, intB_geq, g1]
      · exact hs.new hf (by omega)
      · exact hK _ (by omega)
  · exact (((Sub.refl h).new hf (Nat.le_refl _)).new hf (by omega)).new hf (by omega)
  · exact ((hf.upd (m := nx + 6) (by omega) (by omega)).upd (Nat.le_refl _) (by omega)).upd (Nat.le_refl _) (by omega)
  · simp (disch := first | omega | exact Int.natCast_nonneg _ | assumption) only [BB, B2, ↓reduceIte, Nat.reduceLeDiff, Nat.reduceAdd, intB_eql, intB_neq, intB_lss, intB_leq, intB_gtr, intB_geq, splitV_cells]
  · rw [T.get_upd_same]; rfl
end V
end Go.Proofs.Ytmmdcdjkmakgpaa
set_option linter.unusedVariables false
set_option linter.unusedSimpArgs false
namespace Go.Proofs.Ytmmdcdjkmakgpaa
set_option maxRecDepth 20000
namespace V
open PA
theorem testBit_ofBytes (m : Nat) (l : List Nat) (b : Nat) : (ofBytes m l).testBit b = (m.testBit b || decide (b ∈ l)) := by
  induction l generalizing m with
  | nil => simp [ofBytes]
  | cons a l ih =>
    have : ofBytes m (a :: l) = ofBytes (m ||| 2 ^ a) l := rfl
    rw [this, ih, Nat.testBit_or, Nat.testBit_two_pow]
    by_cases e : a = b
    · subst e; simp
    · have : ¬ b = a := fun h => e h.symm
      simp [e, this]
open PA
theorem splitI_nat (c : List Nat) (m : Nat) : splitV c m = splitI c (m : Int) := rfl
def mem (c : List Nat) (k : Int) (i : Nat) : List Nat := (List.range i).filter fun b => decide (((c.getD b 0 : Nat) : Int) = k)
def clsS (c : List Nat) (k : Int) : Nat := ofBytes 0 (mem c k 256)
theorem filter_one (p : Nat → Bool) (i : Nat) : [i].filter p = if p i = true then [i] else [] := by
  cases h : p i <;> simp [h]
theorem mem_succ (c : List Nat) (k : Int) (i : Nat) : mem c k (i + 1) = mem c k i ++ (if ((c.getD i 0 : Nat) : Int) = k then [i] else []) := by
  unfold mem
  rw [List.range_succ, List.filter_append, filter_one]
  simp only [decide_eq_true_eq]
theorem mem_lt {c : List Nat} {k : Int} {i b : Nat} (h : b ∈ mem c k i) : b < i := by
  unfold mem at h
  exact List.mem_range.1 (List.mem_filter.1 h).1
theorem mem_len (c : List Nat) (k : Int) (i : Nat) : (mem c k i).length ≤ i := by
  unfold mem
  refine Nat.le_trans (List.length_filter_le _ _) ?_
  simp
theorem append_lit8 {ro : Ro} {h h0 : T Obj} {v : Value} {n1 lo hi nx nx0 : Nat} {l : List Nat} {b : Nat} {K : Value × T Obj × Nat → Prop} (ho : Own h v 1 y_uint8 (bytesC l) lo hi) (hl : l.length ≤ 1000000) (hf : Fr h nx) (hs : Sub h0 h) (hf0 : Fr h0 nx0) (hlo0 : nx0 ≤ lo) (hlo : lo ≤ hi) (hn : hi ≤ n1) (hnx : nx ≤ n1) (h2 : n1 + 1 ≤ nx + 1000)
    {n2 : Nat} (hn2 : n1 < n2)
    (hK : ∀ h' r, Own h' r 1 y_uint8 (bytesC (l ++ [b])) lo (n2 + 1) → Sub h0 h' → Fr h' (n2 + 1) → (∀ k, (k < lo ∨ hi ≤ k) → k ≠ n2 → k ≠ n1 → h'.get k = h.get k) → K (r, h', n2 + 1)) :
    bindP (sliceLitV Try.prog y_s_uint8 n1 1 [(0, .int .u8 (b : Int))]) fun r => optP h n1 r.2 fun h' => bindP (appendV Try.prog ro h' n2 #[y_s_uint8, y_s_uint8] [v, r.1]) K := by
  refine bindP_mk (lit_u8 _ _) (optP_mk ?_)
  have ho2 : Own (h.upd n1 (some (.cells #[.int .u8 (b : Int)] y_uint8))) v 1 y_uint8 (bytesC l) lo hi := ho.keep (Nat.le_refl _) fun id h1 h2 o hg => by rw [T.get_upd_ne _ _ (by omega)]; exact hg
  have hx1 : Sl ro (h.upd n1 (some (.cells #[.int .u8 (b : Int)] y_uint8))) (.slice (some (own n1 1)) 1 1) 1 (bytesC [b]) := Sl.own (l := bytesC [b]) (by rw [T.get_upd_same]; rfl) (by simp [bytesC]) (Nat.le_refl _)
  obtain ⟨h2, r, q1, q2, q3, q4⟩ := append_u8 (nx := n2) ho2 hx1 hl (by omega) (by omega)
  refine bindP_mk q1 (hK h2 r q2 ?_ ?_ ?_)
  · intro k o hk
    have hkn : k < nx0 := by
      rcases Nat.lt_or_ge k nx0 with h9 | h9
      · exact h9
      · rw [hf0 k h9] at hk; cases hk
    rw [q3 k (.inl (by omega)) (by omega), T.get_upd_ne _ _ (by omega)]
    exact hs k o hk
  · intro k hk
    rw [q3 k (.inr (by omega)) (by omega), T.get_upd_ne _ _ (by omega)]
    exact hf k (by omega)
  · intro k hk h3 h4
    rw [q3 k hk h3, T.get_upd_ne _ _ h4]
end V
end Go.Proofs.Ytmmdcdjkmakgpaa
set_option linter.unusedVariables false
set_option linter.unusedSimpArgs false
namespace Go.Proofs.Ytmmdcdjkmakgpaa
set_option maxRecDepth 20000
namespace V
open PA
open PA
set_option maxRecDepth 4000 in
theorem ref02_Set_c {ro : Ro} {c : List Nat} {n k : Int} (hc : c.length = 256) (hcl : ∀ x ∈ c, x < 256) {h : T Obj} {nx : Nat} {K : KV} (hf : Fr h nx) (hK : ∀ nx', nx ≤ nx' → K (setV (clsS c k)) h nx') : callP Try.prog ro i_ref02_Set [splitI c n, .int .i64 k] h nx K := by
  apply ref02_Set_of
  unfold ref02_Set
  refine newP_mk (zer_Set_mk (newP_mk ?_))
  refine loopP_rule (fun j e h' nx' => ∃ (i : Nat) (lv : Value), i + j = 256 ∧ nx + 2 ≤ nx' ∧ e 1 = .int .i64 k ∧ e 2 = ptr nx ∧ e 4 = ptr (nx + 1) ∧ e 5 = lv ∧ e 6 = .int .i64 i ∧ Sub h h' ∧ Fr h' nx' ∧
    h'.get nx = some (.cells (splitLI c n).toArray y_api_Split) ∧ h'.get (nx + 1) = some (.cells (setL 0).toArray y_api_Set) ∧ Own h' lv 1 y_uint8 (bytesC (mem c k i)) (nx + 2) nx') ?_ (n := 256) ⟨0, _, by omega, by omega, rfl, rfl, rfl, rfl, rfl, ?_, ?_, ?_, ?_, Own.nil⟩
  · rintro j e h' nx' ⟨i, lv, hij, hnx, e1, e2, e4, e5, e6, hs, hf', g0, g1, ho⟩ Q' hq hx
    unfold ref02_Set_L1
    rw [e1, e2, e5, e6]
    (repeat (first | refine bindP_mk (by simp (disch := first | omega | exact Int.natCast_nonneg _ | assumption) only [BB, B2, ↓reduceIte, Nat.reduceLeDiff, Nat.reduceAdd, intB_eql, intB_neq, intB_lss, intB_leq, intB_gtr, intB_geq] <;> rfl) ?_ | refine newP_mk ?_ | refine optP_mk ?_ | with_reducible first | refine condP_t ?_ | refine condP_f ?_ | refine ifP_tt' ?_ | refine ifP_ff' ?_ | refine ifP_tf' ?_ | refine ifP_ft' ?_ | refine ifP_u' ?_ | refine optP_mk0 ?_))
    by_cases hi : i < 256
    · refine condP_tr (by simp; omega) ?_
      have hic : i < c.length := by omega
      have hci := hcl _ (List.getElem_mem hic)
      have hg := splitLI_get (n := n) hic
      have hgd : c.getD i 0 = c[i] := by rw [List.getD_eq_getElem?_getD, List.getElem?_eq_getElem hic]; rfl
      (repeat (first | refine bindP_mk (by simp (disch := first | omega | exact Int.natCast_nonneg _ | assumption) only [BB, B2, ↓reduceIte, Nat.reduceLeDiff, Nat.reduceAdd, intB_eql, intB_neq, intB_lss, intB_leq, intB_gtr, intB_geq, g0, hg] <;> rfl) ?_ | refine newP_mk ?_ | refine optP_mk ?_ | with_reducible first | refine condP_t ?_ | refine condP_f ?_ | refine ifP_tt' ?_ | refine ifP_ff' ?_ | refine ifP_tf' ?_ | refine ifP_ft' ?_ | refine ifP_u' ?_ | refine optP_mk0 ?_))
      have hj2 : ∀ (e : Env) (h1 : T Obj) (n2 : Nat) (lv : Value), nx' ≤ n2 → e 1 = .int .i64 k → e 2 = ptr nx → e 4 = ptr (nx + 1) → e 5 = lv → e 6 = .int .i64 i → Sub h h1 → Fr h1 n2 → h1.get nx = some (.cells (splitLI c n).toArray y_api_Split) → h1.get (nx + 1) = some (.cells (setL 0).toArray y_api_Set) →
          Own h1 lv 1 y_uint8 (bytesC (mem c k (i + 1))) (nx + 2) n2 → ref02_Set_j2 ro Q' e h1 n2 := by
        intro e h1 n2 lv hn2 e1 e2 e4 e5 e6 hs1 hf1 g0 g1 ho1
        unfold ref02_Set_j2
        rw [e6]
        (repeat (first | refine bindP_mk (by simp (disch := first | omega | exact Int.natCast_nonneg _ | assumption) only [BB, B2, ↓reduceIte, Nat.reduceLeDiff, Nat.reduceAdd, intB_eql, intB_neq, intB_lss, intB_leq, intB_gtr, intB_geq] <;> rfl) ?_ | refine newP_mk ?_ | refine optP_mk ?_ | with_reducible first | refine condP_t ?_ | refine condP_f ?_ | refine ifP_tt' ?_ | refine ifP_ff' ?_ | refine ifP_tf' ?_ | refine ifP_ft' ?_ | refine ifP_u' ?_ | refine optP_mk0 ?_))
        exact hq (j - 1) _ _ _ _ (by omega) ⟨i + 1, lv, by omega, by omega, e1, e2, e4, e5, rfl, hs1, hf1.mono (by omega), g0, g1, ho1.keep (by omega) fun _ _ _ _ hg => hg⟩ (Sub.refl _)
      by_cases hk : ((c[i] : Nat) : Int) = k
      · refine condP_tr (by simp [hk]) ?_
        (repeat (first | refine bindP_mk (by simp (disch := first | omega | exact Int.natCast_nonneg _ | assumption) only [BB, B2, ↓reduceIte, Nat.reduceLeDiff, Nat.reduceAdd, intB_eql, intB_neq, intB_lss, intB_leq, intB_gtr, intB_geq] <;> rfl) ?_ | refine newP_mk ?_ | refine optP_mk ?_ | with_reducible first | refine condP_t ?_ | refine condP_f ?_ | refine ifP_tt' ?_ | refine ifP_ff' ?_ | refine ifP_tf' ?_ | refine ifP_ft' ?_ | refine ifP_u' ?_ | refine optP_mk0 ?_))
        refine append_lit8 (h0 := h) (nx0 := nx) (nx := nx') (lo := nx + 2) (hi := nx') ho (Nat.le_trans (mem_len _ _ _) (by omega)) hf' hs hf (by omega) (by omega) (by omega) (by omega) (by omega) (by omega) fun h2 r q1 q2 q3 q4 => ?_
        dsimp only
        refine hj2 _ _ _ r (by omega) e1 e2 e4 rfl e6 q2 (q3.mono (by omega)) ?_ ?_ ?_
        · rw [q4 _ (.inl (by omega)) (by omega) (by omega)]; exact g0
        · rw [q4 _ (.inl (by omega)) (by omega) (by omega)]; exact g1
        · rw [mem_succ, hgd, if_pos hk]; exact q1.keep (by omega) fun _ _ _ _ hg => hg
      · refine condP_fa (by simp [hk]) ?_
        refine hj2 _ _ _ lv (by omega) e1 e2 e4 e5 e6 hs (hf'.mono (by omega)) g0 g1 ?_
        rw [mem_succ, hgd, if_neg hk, List.append_nil]; exact ho.keep (by omega) fun _ _ _ _ hg => hg
    · refine condP_fa (by simp; omega) ?_
      refine hx _ _ _ _ (fun e => by cases e) (exP_e (beqP_t ?_))
      have hi2 : i = 256 := by omega
      subst hi2
      unfold ref02_Set_j1
      have f4 : ∀ a b, Env.put (Env.put e 7 a) 8 b 4 = ptr (nx + 1) := fun a b => e4
      have f5 : ∀ a b, Env.put (Env.put e 7 a) 8 b 5 = lv := fun a b => e5
      simp only [puts, f4, f5]
      refine ref01_Of_c (fun b hb => mem_lt hb) (Nat.le_trans (mem_len c k 256) (by omega)) (hf'.mono (by omega)) ho.sl fun n2 hn2 => ?_
      refine bindP_mk (storeA_own (l := setL 0) (vs := setL (clsS c k)) g1 rfl rfl rfl rfl) ?_
      refine bindP_mk (loadA_all (by rw [T.get_upd_same]) rfl) ?_
      exact ⟨h, hs.new hf (by omega), hK _ (by omega)⟩
  · exact ((Sub.refl h).new hf (Nat.le_refl _)).new hf (by omega)
  · exact (hf.upd (m := nx + 4) (by omega) (by omega)).upd (Nat.le_refl _) (by omega)
  · simp (disch := first | omega | exact Int.natCast_nonneg _ | assumption) only [BB, B2, ↓reduceIte, Nat.reduceLeDiff, Nat.reduceAdd, intB_eql, intB_neq, intB_lss, intB_leq, intB_gtr, intB_geq, splitI_cells]
  · simp (disch := first | omega | exact Int.natCast_nonneg _ | assumption) only [BB, B2, ↓reduceIte, Nat.reduceLeDiff, Nat.reduceAdd, intB_eql, intB_neq, intB_lss, intB_leq, intB_gtr, intB_geq, setV_cells]
def lst (m i : Nat) : List Nat := (List.range i).filter fun b => m.testBit b
def listS (m : Nat) : List Nat := lst m 256
theorem lst_succ (m i : Nat) : lst m (i + 1) = lst m i ++ (if m.testBit i = true then [i] else []) := by
  unfold lst
  rw [List.range_succ, List.filter_append, filter_one]
theorem lst_len (m i : Nat) : (lst m i).length ≤ i := by
  unfold lst
  refine Nat.le_trans (List.length_filter_le _ _) ?_
  simp
set_option maxRecDepth 4000 in
theorem ref01_List_c {ro : Ro} {m : Nat} {h : T Obj} {nx : Nat} {K : KV} (hf : Fr h nx) (hK : ∀ r h' nx', nx ≤ nx' → Sub h h' → Fr h' nx' → Own h' r 1 y_uint8 (bytesC (listS m)) nx nx' → K r h' nx') : callP Try.prog ro i_ref01_List [setV m] h nx K := by
  apply ref01_List_of
  unfold ref01_List
  refine newP_mk ?_
  refine loopP_rule (fun j e h' nx' => ∃ (i : Nat) (lv : Value), i + j = 256 ∧ nx + 1 ≤ nx' ∧ e 1 = ptr nx ∧ e 3 = lv ∧ e 4 = .int .i64 i ∧ Sub h h' ∧ Fr h' nx' ∧
    h'.get nx = some (.cells (setL m).toArray y_api_Set) ∧ Own h' lv 1 y_uint8 (bytesC (lst m i)) (nx + 1) nx') ?_ (n := 256) ⟨0, _, by omega, by omega, rfl, rfl, rfl, ?_, ?_, ?_, Own.nil⟩
  · rintro j e h' nx' ⟨i, lv, hij, hnx, e1, e3, e4, hs, hf', g0, ho⟩ Q' hq hx
    unfold ref01_List_L1
    rw [e1, e3, e4]
    (repeat (first | refine bindP_mk (by simp (disch := first | omega | exact Int.natCast_nonneg _ | assumption) only [BB, B2, ↓reduceIte, Nat.reduceLeDiff, Nat.reduceAdd, intB_eql, intB_neq, intB_lss, intB_leq, intB_gtr, intB_geq] <;> rfl) ?_ | refine newP_mk ?_ | refine optP_mk ?_ | with_reducible first | refine condP_t ?_ | refine condP_f ?_ | refine ifP_tt' ?_ | refine ifP_ff' ?_ | refine ifP_tf' ?_ | refine ifP_ft' ?_ | refine ifP_u' ?_ | refine optP_mk0 ?_))
    by_cases hi : i < 256
    · refine condP_tr (by simp; omega) ?_
      refine bindP_mk (loadA_all g0 rfl) ?_
      (repeat (first | refine bindP_mk (by simp (disch := first | omega | exact Int.natCast_nonneg _ | assumption) only [BB, B2, ↓reduceIte, Nat.reduceLeDiff, Nat.reduceAdd, intB_eql, intB_neq, intB_lss, intB_leq, intB_gtr, intB_geq] <;> rfl) ?_ | refine newP_mk ?_ | refine optP_mk ?_ | with_reducible first | refine condP_t ?_ | refine condP_f ?_ | refine ifP_tt' ?_ | refine ifP_ff' ?_ | refine ifP_tf' ?_ | refine ifP_ft' ?_ | refine ifP_u' ?_ | refine optP_mk0 ?_))
      refine ref01_Has_c hi (hf'.mono (by omega)) fun n1 hn1 => ?_
      have hj2 : ∀ (e : Env) (h1 : T Obj) (n2 : Nat) (lv : Value), nx' ≤ n2 → e 1 = ptr nx → e 3 = lv → e 4 = .int .i64 i → Sub h h1 → Fr h1 n2 → h1.get nx = some (.cells (setL m).toArray y_api_Set) →
          Own h1 lv 1 y_uint8 (bytesC (lst m (i + 1))) (nx + 1) n2 → ref01_List_j2 ro Q' e h1 n2 := by
        intro e h1 n2 lv hn2 e1 e3 e4 hs1 hf1 g0 ho1
        unfold ref01_List_j2
        rw [e4]
        (repeat (first | refine bindP_mk (by simp (disch := first | omega | exact Int.natCast_nonneg _ | assumption) only [BB, B2, ↓reduceIte, Nat.reduceLeDiff, Nat.reduceAdd, intB_eql, intB_neq, intB_lss, intB_leq, intB_gtr, intB_geq] <;> rfl) ?_ | refine newP_mk ?_ | refine optP_mk ?_ | with_reducible first | refine condP_t ?_ | refine condP_f ?_ | refine ifP_tt' ?_ | refine ifP_ff' ?_ | refine ifP_tf' ?_ | refine ifP_ft' ?_ | refine ifP_u' ?_ | refine optP_mk0 ?_))
        exact hq (j - 1) _ _ _ _ (by omega) ⟨i + 1, lv, by omega, by omega, e1, e3, rfl, hs1, hf1.mono (by omega), g0, ho1.keep (by omega) fun _ _ _ _ hg => hg⟩ (Sub.refl _)
      cases hb : m.testBit i with
      | true =>
        refine condP_tr rfl ?_
        (repeat (first | refine bindP_mk (by simp (disch := first | omega | exact Int.natCast_nonneg _ | assumption) only [BB, B2, ↓reduceIte, Nat.reduceLeDiff, Nat.reduceAdd, intB_eql, intB_neq, intB_lss, intB_leq, intB_gtr, intB_geq] <;> rfl) ?_ | refine newP_mk ?_ | refine optP_mk ?_ | with_reducible first | refine condP_t ?_ | refine condP_f ?_ | refine ifP_tt' ?_ | refine ifP_ff' ?_ | refine ifP_tf' ?_ | refine ifP_ft' ?_ | refine ifP_u' ?_ | refine optP_mk0 ?_))
        refine append_lit8 (h0 := h) (nx0 := nx) (nx := n1) (lo := nx + 1) (hi := nx') ho (Nat.le_trans (lst_len _ _) (by omega)) (hf'.mono (by omega)) hs hf (by omega) (by omega) (by omega) (by omega) (by omega) (by omega) fun h2 r q1 q2 q3 q4 => ?_
        dsimp only
        refine hj2 _ _ _ r (by omega) e1 rfl e4 q2 (q3.mono (by omega)) ?_ ?_
        · rw [q4 _ (.inl (by omega)) (by omega) (by omega)]; exact g0
        · rw [lst_succ, hb, if_pos rfl]; exact q1.keep (by omega) fun _ _ _ _ hg => hg
      | false =>
        refine condP_fa rfl ?_
        refine hj2 _ _ _ lv (by omega) e1 e3 e4 hs (hf'.mono (by omega)) g0 ?_
        rw [lst_succ, hb, if_neg (by simp), List.append_nil]; exact ho.keep (by omega) fun _ _ _ _ hg => hg
    · refine condP_fa (by simp; omega) ?_
      refine hx _ _ _ _ (fun e => by cases e) (exP_e (beqP_t ?_))
      have hi2 : i = 256 := by omega
      subst hi2
      unfold ref01_List_j1
      have f3 : ∀ a b, Env.put (Env.put e 5 a) 6 b 3 = lv := fun a b => e3
      simp only [puts, f3]
      refine ⟨h', Sub.refl _, hK _ _ _ (by omega) hs (hf'.mono (by omega)) ?_⟩
      rcases ho with ho | ⟨id, h1, h2, h3⟩
      · exact .inl ho
      · exact .inr ⟨id, by omega, by omega, h3⟩
  · exact (Sub.refl h).new hf (Nat.le_refl _)
  · exact hf.upd (m := nx + 4) (by omega) (by omega)
  · simp (disch := first | omega | exact Int.natCast_nonneg _ | assumption) only [BB, B2, ↓reduceIte, Nat.reduceLeDiff, Nat.reduceAdd, intB_eql, intB_neq, intB_lss, intB_leq, intB_gtr, intB_geq, setV_cells]
end V
end Go.Proofs.Ytmmdcdjkmakgpaa
set_option linter.unusedVariables false
set_option linter.unusedSimpArgs false
namespace Go.Proofs.Ytmmdcdjkmakgpaa
set_option maxRecDepth 20000
namespace V
open PA
def lb (c : List Nat) (k i : Nat) : Nat := ((List.range' i (256 - i)).find? fun b => decide (c.getD b 0 = k)).getD 0
theorem lb_end (c : List Nat) (k : Nat) : lb c k 256 = 0 := rfl
theorem lb_step {c : List Nat} {k i : Nat} (hi : i < 256) : lb c k i = if c.getD i 0 = k then i else lb c k (i + 1) := by
  unfold lb
  rw [show 256 - i = (256 - (i + 1)) + 1 by omega, List.range'_succ, List.find?_cons]
  by_cases h : c.getD i 0 = k
  · rw [if_pos h, decide_eq_true h]; rfl
  · rw [if_neg h, decide_eq_false h]
def firstZ (c : List Nat) (n : Int) : List Nat := if n < 1 ∨ 256 < n then [] else (List.range n.toNat).map fun k => lb c k 0
theorem ixSl_own {id z len cap i : Nat} (k : IntKind) (hi : i < len) : ixSl z (.slice (some (own id z)) len cap) (.int k (i : Int)) = some (at_ id (i * z) 0) := by
  have hn : natV (.int k (i : Int)) = some i := by simp [natV]
  have hb : Nat.blt i len = true := by simp [Nat.blt]; omega
  unfold ixSl
  rw [hn]
  simp only [Option.bind_some, hb, own, Nat.beq_refl]
  simp [elt]
theorem zerosV_u8 : ∀ n : Nat, zerosV [.int .u8 0] n = u8s (List.replicate n 0)
  | 0 => rfl
  | n + 1 => by
    have := zerosV_u8 n
    simp only [zerosV, this, u8s, List.replicate_succ, List.map_cons]; rfl
theorem make_u8 {aid n : Nat} (h0 : 1 ≤ n) (h1 : n ≤ 1000000) : makeV Try.prog y_s_uint8 aid (.int .i64 (n : Int)) (.int .i64 (n : Int)) = some (.slice (some (own aid 1)) n n, some (.cells (u8s (List.replicate n 0)).toArray y_uint8)) := by
  obtain ⟨i, g1, g2, g3⟩ := tin_u8
  have hb : Nat.ble n big = true := Nat.ble_eq_true_of_le (by unfold big; omega)
  have e1 : decide ((0 : Int) ≤ (n : Int)) = true := by simp
  have e2 : decide ((n : Int) ≤ (n : Int)) = true := by simp
  have e3 : decide ((n : Int) ≤ 70368744177664) = true := by simp; omega
  have hz : zrow Try.prog y_uint8 n = some (u8s (List.replicate n 0)) := by
    obtain ⟨m, rfl⟩ : ∃ m, n = m + 1 := ⟨n - 1, by omega⟩
    have hs : siz Try.prog y_uint8 = some 1 := by kernel_rfl
    unfold zrow
    simp only [zer_u8, hs, Option.bind_some]
    have h3 : Nat.beq (Value.cells (.int .u8 0)).size 1 = true := rfl
    have h4 : Nat.blt 0 1 = true := rfl
    rw [h3, h4]
    simp only
    rw [← zerosV_u8]; rfl
  unfold makeV
  simp only [und_u8s, e1, e2, g1, Option.bind_some, g3, Nat.mul_one, Int.toNat_natCast, hb, e3, hz, g2]
theorem flat_bytesC (l : List Nat) : (bytesC l).flatten = u8s l := by
  induction l with
  | nil => rfl
  | cons a l ih => simp only [bytesC, u8s, List.map_cons, List.flatten_cons] at ih ⊢; rw [ih]; rfl
theorem u8s_set {l : List Nat} {i v : Nat} : (u8s l).set i (.int .u8 (v : Int)) = u8s (l.set i v) := by simp [u8s, List.map_set]
set_option maxRecDepth 4000 in
theorem split_First_c {ro : Ro} {c : List Nat} {n : Int} (hc : c.length = 256) (hcl : ∀ x ∈ c, x < 256) {h : T Obj} {nx : Nat} {K : KV} (hf : Fr h nx) (hK : ∀ r h' nx', nx ≤ nx' → Sub h h' → Fr h' nx' → Own h' r 1 y_uint8 (bytesC (firstZ c n)) nx nx' → K r h' nx') : callP Try.prog ro i_split_First [splitI c n] h nx K := by
  apply split_First_of
  unfold split_First
  refine newP_mk ?_
  have hg := splitLI_many (n := n) hc
  have g0 : (h.upd nx (some (.cells (Value.cells (splitI c n)) y_api_Split))).get nx = some (.cells (splitLI c n).toArray y_api_Split) := by rw [T.get_upd_same]; rfl
  have hs0 : Sub h (h.upd nx (some (.cells (Value.cells (splitI c n)) y_api_Split))) := (Sub.refl h).new hf (Nat.le_refl _)
  have hf0 : Fr (h.upd nx (some (.cells (Value.cells (splitI c n)) y_api_Split))) (nx + 1) := (hf.mono (Nat.le_succ _)).upd (Nat.le_refl _) (by omega)
  generalize (h.upd nx (some (.cells (Value.cells (splitI c n)) y_api_Split))) = h0 at g0 hs0 hf0
  (repeat (first | refine bindP_mk (by simp (disch := first | omega | exact Int.natCast_nonneg _ | assumption) only [BB, B2, ↓reduceIte, Nat.reduceLeDiff, Nat.reduceAdd, intB_eql, intB_neq, intB_lss, intB_leq, intB_gtr, intB_geq, g0, hg] <;> rfl) ?_ | refine newP_mk ?_ | refine optP_mk ?_ | with_reducible first | refine condP_t ?_ | refine condP_f ?_ | refine ifP_tt' ?_ | refine ifP_ff' ?_ | refine ifP_tf' ?_ | refine ifP_ft' ?_ | refine ifP_u' ?_ | refine optP_mk0 ?_))
  by_cases h1 : n < 1
  · rw [decide_eq_true h1]
    (repeat (first | refine bindP_mk (by simp (disch := first | omega | exact Int.natCast_nonneg _ | assumption) only [BB, B2, ↓reduceIte, Nat.reduceLeDiff, Nat.reduceAdd, intB_eql, intB_neq, intB_lss, intB_leq, intB_gtr, intB_geq, g0, hg] <;> rfl) ?_ | refine newP_mk ?_ | refine optP_mk ?_ | with_reducible first | refine condP_t ?_ | refine condP_f ?_ | refine ifP_tt' ?_ | refine ifP_ff' ?_ | refine ifP_tf' ?_ | refine ifP_ft' ?_ | refine ifP_u' ?_ | refine optP_mk0 ?_))
    exact ⟨h0, Sub.refl _, hK _ _ _ (by omega) hs0 (hf0.mono (by omega)) (by unfold firstZ; rw [if_pos (.inl h1)]; exact Own.nil)⟩
  rw [decide_eq_false h1]
  (repeat (first | refine bindP_mk (by simp (disch := first | omega | exact Int.natCast_nonneg _ | assumption) only [BB, B2, ↓reduceIte, Nat.reduceLeDiff, Nat.reduceAdd, intB_eql, intB_neq, intB_lss, intB_leq, intB_gtr, intB_geq, g0, hg] <;> rfl) ?_ | refine newP_mk ?_ | refine optP_mk ?_ | with_reducible first | refine condP_t ?_ | refine condP_f ?_ | refine ifP_tt' ?_ | refine ifP_ff' ?_ | refine ifP_tf' ?_ | refine ifP_ft' ?_ | refine ifP_u' ?_ | refine optP_mk0 ?_))
  by_cases h2 : 256 < n
  · rw [decide_eq_true h2]
    (repeat (first | refine bindP_mk (by simp (disch := first | omega | exact Int.natCast_nonneg _ | assumption) only [BB, B2, ↓reduceIte, Nat.reduceLeDiff, Nat.reduceAdd, intB_eql, intB_neq, intB_lss, intB_leq, intB_gtr, intB_geq, g0, hg] <;> rfl) ?_ | refine newP_mk ?_ | refine optP_mk ?_ | with_reducible first | refine condP_t ?_ | refine condP_f ?_ | refine ifP_tt' ?_ | refine ifP_ff' ?_ | refine ifP_tf' ?_ | refine ifP_ft' ?_ | refine ifP_u' ?_ | refine optP_mk0 ?_))
    exact ⟨h0, Sub.refl _, hK _ _ _ (by omega) hs0 (hf0.mono (by omega)) (by unfold firstZ; rw [if_pos (.inr h2)]; exact Own.nil)⟩
  rw [decide_eq_false h2]
  obtain ⟨k0, rfl⟩ : ∃ k0 : Nat, n = (k0 : Int) := ⟨n.toNat, by omega⟩
  (repeat (first | refine bindP_mk (by simp (disch := first | omega | exact Int.natCast_nonneg _ | assumption) only [BB, B2, ↓reduceIte, Nat.reduceLeDiff, Nat.reduceAdd, intB_eql, intB_neq, intB_lss, intB_leq, intB_gtr, intB_geq, g0, hg] <;> rfl) ?_ | refine newP_mk ?_ | refine optP_mk ?_ | with_reducible first | refine condP_t ?_ | refine condP_f ?_ | refine ifP_tt' ?_ | refine ifP_ff' ?_ | refine ifP_tf' ?_ | refine ifP_ft' ?_ | refine ifP_u' ?_ | refine optP_mk0 ?_))
  refine bindP_mk (make_u8 (by omega) (by omega)) (optP_mk ?_)
  generalize hN : nx + 7 + 1 + 1 + 3 = ob
  refine loopP_rule (fun j e h' nx' => ∃ i : Nat, i = j ∧ i ≤ 256 ∧ ob + 1 ≤ nx' ∧ e 1 = ptr nx ∧ e 3 = .slice (some (own ob 1)) k0 k0 ∧ e 4 = .int .i64 ((i : Int) - 1) ∧ Sub h h' ∧ Fr h' nx' ∧
    h'.get nx = some (.cells (splitLI c k0).toArray y_api_Split) ∧ h'.get ob = some (.cells (u8s ((List.range k0).map fun k => lb c k i)).toArray y_uint8)) ?_ (n := 256) ⟨256, rfl, by omega, by omega, rfl, rfl, rfl, ?_, ?_, ?_, ?_⟩
  · rintro j e h' nx' ⟨i, rfl, hi, hnx, e1, e3, e4, hs, hf', g0, g1⟩ Q' hq hx
    unfold split_First_L1
    rw [e1, e3, e4]
    (repeat (first | refine bindP_mk (by simp (disch := first | omega | exact Int.natCast_nonneg _ | assumption) only [BB, B2, ↓reduceIte, Nat.reduceLeDiff, Nat.reduceAdd, intB_eql, intB_neq, intB_lss, intB_leq, intB_gtr, intB_geq] <;> rfl) ?_ | refine newP_mk ?_ | refine optP_mk ?_ | with_reducible first | refine condP_t ?_ | refine condP_f ?_ | refine ifP_tt' ?_ | refine ifP_ff' ?_ | refine ifP_tf' ?_ | refine ifP_ft' ?_ | refine ifP_u' ?_ | refine optP_mk0 ?_))
    by_cases hi0 : 0 < i
    · refine condP_tr (by simp; omega) ?_
      obtain ⟨b, rfl⟩ : ∃ b, i = b + 1 := ⟨i - 1, by omega⟩
      have hbb : (((b + 1 : Nat) : Int) - 1) = (b : Int) := by omega
      rw [hbb] at e4 ⊢
      have hbc : b < c.length := by omega
      have hcb := hcl _ (List.getElem_mem hbc)
      have hgb := splitLI_get (n := (k0 : Int)) hbc
      have hgd : c.getD b 0 = c[b] := by rw [List.getD_eq_getElem?_getD, List.getElem?_eq_getElem hbc]; rfl
      (repeat (first | refine bindP_mk (by simp (disch := first | omega | exact Int.natCast_nonneg _ | assumption) only [BB, B2, ↓reduceIte, Nat.reduceLeDiff, Nat.reduceAdd, intB_eql, intB_neq, intB_lss, intB_leq, intB_gtr, intB_geq, g0, hg, hgb] <;> rfl) ?_ | refine newP_mk ?_ | refine optP_mk ?_ | with_reducible first | refine condP_t ?_ | refine condP_f ?_ | refine ifP_tt' ?_ | refine ifP_ff' ?_ | refine ifP_tf' ?_ | refine ifP_ft' ?_ | refine ifP_u' ?_ | refine optP_mk0 ?_))
      have hj2 : ∀ (e : Env) (h2 : T Obj) (n2 : Nat), nx' ≤ n2 → e 1 = ptr nx → e 3 = .slice (some (own ob 1)) k0 k0 → e 4 = .int .i64 (b : Int) → Sub h h2 → Fr h2 n2 → h2.get nx = some (.cells (splitLI c k0).toArray y_api_Split) →
          h2.get ob = some (.cells (u8s ((List.range k0).map fun k => lb c k b)).toArray y_uint8) → split_First_j2 ro Q' e h2 n2 := by
        intro e h2 n2 hn2 e1 e3 e4 hs2 hf2 g0 g1
        unfold split_First_j2
        rw [e4]
        (repeat (first | refine bindP_mk (by simp (disch := first | omega | exact Int.natCast_nonneg _ | assumption) only [BB, B2, ↓reduceIte, Nat.reduceLeDiff, Nat.reduceAdd, intB_eql, intB_neq, intB_lss, intB_leq, intB_gtr, intB_geq] <;> rfl) ?_ | refine newP_mk ?_ | refine optP_mk ?_ | with_reducible first | refine condP_t ?_ | refine condP_f ?_ | refine ifP_tt' ?_ | refine ifP_ff' ?_ | refine ifP_tf' ?_ | refine ifP_ft' ?_ | refine ifP_u' ?_ | refine optP_mk0 ?_))
        exact hq b _ _ _ _ (by omega) ⟨b, rfl, by omega, by omega, e1, e3, rfl, hs2, hf2.mono (by omega), g0, g1⟩ (Sub.refl _)
      have hlb : ∀ k, lb c k b = if c[b] = k then b else lb c k (b + 1) := fun k => by rw [lb_step (by omega), hgd]
      by_cases hlt : c[b] < k0
      · refine condP_tr (by simp; omega) ?_
        (repeat (first | refine bindP_mk (by simp (disch := first | omega | exact Int.natCast_nonneg _ | assumption) only [BB, B2, ↓reduceIte, Nat.reduceLeDiff, Nat.reduceAdd, intB_eql, intB_neq, intB_lss, intB_leq, intB_gtr, intB_geq] <;> rfl) ?_ | refine newP_mk ?_ | refine optP_mk ?_ | with_reducible first | refine condP_t ?_ | refine condP_f ?_ | refine ifP_tt' ?_ | refine ifP_ff' ?_ | refine ifP_tf' ?_ | refine ifP_ft' ?_ | refine ifP_u' ?_ | refine optP_mk0 ?_))
        refine bindP_mk (ixSl_own _ hlt) ?_
        have hul : (u8s ((List.range k0).map fun k => lb c k (b + 1))).length = k0 := by rw [u8s_len, List.length_map, List.length_range]
        refine bindP_mk (store1_own g1 (by rw [hul]; omega) rfl rfl) ?_
        refine hj2 _ _ _ (by omega) e1 e3 e4 (hs.new hf (by omega)) ((hf'.mono (by omega)).upd (Nat.le_refl _) (by omega)) ?_ ?_
        · simp (disch := first | omega | exact Int.natCast_nonneg _ | assumption) only [BB, B2, ↓reduceIte, Nat.reduceLeDiff, Nat.reduceAdd, intB_eql, intB_neq, intB_lss, intB_leq, intB_gtr, intB_geq, g0]
        · rw [T.get_upd_same, Nat.mul_one, u8s_set]
          congr 4
          apply List.ext_getElem
          · simp
          · intro q h5 h6
            simp only [List.getElem_set, List.getElem_map, List.getElem_range, hlb]
      · refine condP_fa (by simp; omega) ?_
        refine hj2 _ _ _ (by omega) e1 e3 e4 hs (hf'.mono (by omega)) g0 ?_
        rw [g1]
        congr 4
        apply List.map_congr_left
        intro k hk
        have hk := List.mem_range.1 hk
        rw [hlb, if_neg (by omega)]
    · refine condP_fa (by simp; omega) ?_
      refine hx _ _ _ _ (fun e => by cases e) (exP_e (beqP_t ?_))
      have hi2 : i = 0 := by omega
      subst hi2
      unfold split_First_j1
      have f3 : ∀ a b, Env.put (Env.put e 17 a) 18 b 3 = .slice (some (own ob 1)) k0 k0 := fun a b => e3
      simp only [puts, f3]
      have hfz : firstZ c (k0 : Int) = (List.range k0).map fun k => lb c k 0 := by unfold firstZ; rw [if_neg (by omega)]; simp
      refine ⟨h', Sub.refl _, hK _ _ _ (by omega) hs (hf'.mono (by omega)) ?_⟩
      rw [hfz]
      refine .inr ⟨ob, by omega, by omega, ?_, by simp [bytesC], by rw [flat_bytesC]; exact g1⟩
      rw [bytesC_len, List.length_map, List.length_range]
  · exact hs0.new hf (by omega)
  · exact (hf0.mono (by omega)).upd (Nat.le_refl _) (by omega)
  · simp (disch := first | omega | exact Int.natCast_nonneg _ | assumption) only [BB, B2, ↓reduceIte, Nat.reduceLeDiff, Nat.reduceAdd, intB_eql, intB_neq, intB_lss, intB_leq, intB_gtr, intB_geq, g0]
  · rw [T.get_upd_same]
    congr 4
    apply List.ext_getElem
    · simp
    · intro q h5 h6
      simp [lb_end]
theorem listS_cls {c : List Nat} {k : Int} : listS (clsS c k) = mem c k 256 := by
  unfold listS lst mem
  apply List.filter_congr
  intro b hb
  have hb := List.mem_range.1 hb
  unfold clsS
  rw [testBit_ofBytes]
  simp [mem, hb]
theorem mem_head {c : List Nat} {k : Nat} : (mem c (k : Int) 256).head?.getD 0 = lb c k 0 := by
  unfold mem lb
  rw [List.head?_filter]
  have : (fun b => decide (((c.getD b 0 : Nat) : Int) = (k : Int))) = fun b => decide (c.getD b 0 = k) := by
    funext b
    by_cases h : c.getD b 0 = k
    · rw [decide_eq_true h, decide_eq_true (by rw [h])]
    · rw [decide_eq_false h, decide_eq_false (by omega)]
  rw [this, ← List.range_eq_range']
set_option maxRecDepth 4000 in
theorem ref02_First_c {ro : Ro} {c : List Nat} {n : Int} (hc : c.length = 256) (hcl : ∀ x ∈ c, x < 256) {h : T Obj} {nx : Nat} {K : KV} (hf : Fr h nx) (hK : ∀ r h' nx', nx ≤ nx' → Sub h h' → Fr h' nx' → Own h' r 1 y_uint8 (bytesC (firstZ c n)) nx nx' → K r h' nx') : callP Try.prog ro i_ref02_First [splitI c n] h nx K := by
  apply ref02_First_of
  unfold ref02_First
  refine newP_mk ?_
  have hg := splitLI_many (n := n) hc
  have g0 : (h.upd nx (some (.cells (Value.cells (splitI c n)) y_api_Split))).get nx = some (.cells (splitLI c n).toArray y_api_Split) := by rw [T.get_upd_same]; rfl
  have hs0 : Sub h (h.upd nx (some (.cells (Value.cells (splitI c n)) y_api_Split))) := (Sub.refl h).new hf (Nat.le_refl _)
  have hf0 : Fr (h.upd nx (some (.cells (Value.cells (splitI c n)) y_api_Split))) (nx + 1) := (hf.mono (Nat.le_succ _)).upd (Nat.le_refl _) (by omega)
  generalize (h.upd nx (some (.cells (Value.cells (splitI c n)) y_api_Split))) = h0 at g0 hs0 hf0
  (repeat (first | refine bindP_mk (by simp (disch := first | omega | exact Int.natCast_nonneg _ | assumption) only [BB, B2, ↓reduceIte, Nat.reduceLeDiff, Nat.reduceAdd, intB_eql, intB_neq, intB_lss, intB_leq, intB_gtr, intB_geq, g0, hg] <;> rfl) ?_ | refine newP_mk ?_ | refine optP_mk ?_ | with_reducible first | refine condP_t ?_ | refine condP_f ?_ | refine ifP_tt' ?_ | refine ifP_ff' ?_ | refine ifP_tf' ?_ | refine ifP_ft' ?_ | refine ifP_u' ?_ | refine optP_mk0 ?_))
  by_cases h1 : n < 1
  · rw [decide_eq_true h1]
    (repeat (first | refine bindP_mk (by simp (disch := first | omega | exact Int.natCast_nonneg _ | assumption) only [BB, B2, ↓reduceIte, Nat.reduceLeDiff, Nat.reduceAdd, intB_eql, intB_neq, intB_lss, intB_leq, intB_gtr, intB_geq, g0, hg] <;> rfl) ?_ | refine newP_mk ?_ | refine optP_mk ?_ | with_reducible first | refine condP_t ?_ | refine condP_f ?_ | refine ifP_tt' ?_ | refine ifP_ff' ?_ | refine ifP_tf' ?_ | refine ifP_ft' ?_ | refine ifP_u' ?_ | refine optP_mk0 ?_))
    exact ⟨h0, Sub.refl _, hK _ _ _ (by omega) hs0 (hf0.mono (by omega)) (by unfold firstZ; rw [if_pos (.inl h1)]; exact Own.nil)⟩
  rw [decide_eq_false h1]
  (repeat (first | refine bindP_mk (by simp (disch := first | omega | exact Int.natCast_nonneg _ | assumption) only [BB, B2, ↓reduceIte, Nat.reduceLeDiff, Nat.reduceAdd, intB_eql, intB_neq, intB_lss, intB_leq, intB_gtr, intB_geq, g0, hg] <;> rfl) ?_ | refine newP_mk ?_ | refine optP_mk ?_ | with_reducible first | refine condP_t ?_ | refine condP_f ?_ | refine ifP_tt' ?_ | refine ifP_ff' ?_ | refine ifP_tf' ?_ | refine ifP_ft' ?_ | refine ifP_u' ?_ | refine optP_mk0 ?_))
  by_cases h2 : 256 < n
  · rw [decide_eq_true h2]
    (repeat (first | refine bindP_mk (by simp (disch := first | omega | exact Int.natCast_nonneg _ | assumption) only [BB, B2, ↓reduceIte, Nat.reduceLeDiff, Nat.reduceAdd, intB_eql, intB_neq, intB_lss, intB_leq, intB_gtr, intB_geq, g0, hg] <;> rfl) ?_ | refine newP_mk ?_ | refine optP_mk ?_ | with_reducible first | refine condP_t ?_ | refine condP_f ?_ | refine ifP_tt' ?_ | refine ifP_ff' ?_ | refine ifP_tf' ?_ | refine ifP_ft' ?_ | refine ifP_u' ?_ | refine optP_mk0 ?_))
    exact ⟨h0, Sub.refl _, hK _ _ _ (by omega) hs0 (hf0.mono (by omega)) (by unfold firstZ; rw [if_pos (.inr h2)]; exact Own.nil)⟩
  rw [decide_eq_false h2]
  obtain ⟨k0, rfl⟩ : ∃ k0 : Nat, n = (k0 : Int) := ⟨n.toNat, by omega⟩
  (repeat (first | refine bindP_mk (by simp (disch := first | omega | exact Int.natCast_nonneg _ | assumption) only [BB, B2, ↓reduceIte, Nat.reduceLeDiff, Nat.reduceAdd, intB_eql, intB_neq, intB_lss, intB_leq, intB_gtr, intB_geq, g0, hg] <;> rfl) ?_ | refine newP_mk ?_ | refine optP_mk ?_ | with_reducible first | refine condP_t ?_ | refine condP_f ?_ | refine ifP_tt' ?_ | refine ifP_ff' ?_ | refine ifP_tf' ?_ | refine ifP_ft' ?_ | refine ifP_u' ?_ | refine optP_mk0 ?_))
  refine loopP_rule (fun j e h' nx' => ∃ (i : Nat) (lv : Value), i + j = k0 ∧ nx + 1 ≤ nx' ∧ e 1 = ptr nx ∧ e 3 = lv ∧ e 4 = .int .i64 (i : Int) ∧ Sub h h' ∧ Fr h' nx' ∧
    h'.get nx = some (.cells (splitLI c k0).toArray y_api_Split) ∧ Own h' lv 1 y_uint8 (bytesC ((List.range i).map fun k => lb c k 0)) (nx + 1) nx') ?_ (n := k0) ⟨0, _, by omega, by omega, rfl, rfl, rfl, hs0, hf0.mono (by omega), g0, Own.nil⟩
  rintro j e h' nx' ⟨i, lv, hij, hnx, e1, e3, e4, hs, hf', g0, ho⟩ Q' hq hx
  unfold ref02_First_L1
  rw [e1, e3, e4]
  (repeat (first | refine bindP_mk (by simp (disch := first | omega | exact Int.natCast_nonneg _ | assumption) only [BB, B2, ↓reduceIte, Nat.reduceLeDiff, Nat.reduceAdd, intB_eql, intB_neq, intB_lss, intB_leq, intB_gtr, intB_geq, g0, hg] <;> rfl) ?_ | refine newP_mk ?_ | refine optP_mk ?_ | with_reducible first | refine condP_t ?_ | refine condP_f ?_ | refine ifP_tt' ?_ | refine ifP_ff' ?_ | refine ifP_tf' ?_ | refine ifP_ft' ?_ | refine ifP_u' ?_ | refine optP_mk0 ?_))
  by_cases hi : i < k0
  · refine condP_tr (by simp; omega) ?_
    refine bindP_mk (loadA_all g0 (splitLI_len hc)) ?_
    refine ref02_Set_c (n := (k0 : Int)) hc hcl (hf'.mono (by omega)) fun n1 hn1 => ?_
    refine ref01_List_c (hf'.mono (by omega)) fun r h2 n2 hn2 hs2 hf2 hr => ?_
    rw [listS_cls] at hr
    have hlen := (hr.sl (ro := ro)).len
    rw [bytesC_len] at hlen
    refine bindP_mk hlen ?_
    (repeat (first | refine bindP_mk (by simp (disch := first | omega | exact Int.natCast_nonneg _ | assumption) only [BB, B2, ↓reduceIte, Nat.reduceLeDiff, Nat.reduceAdd, intB_eql, intB_neq, intB_lss, intB_leq, intB_gtr, intB_geq] <;> rfl) ?_ | refine newP_mk ?_ | refine optP_mk ?_ | with_reducible first | refine condP_t ?_ | refine condP_f ?_ | refine ifP_tt' ?_ | refine ifP_ff' ?_ | refine ifP_tf' ?_ | refine ifP_ft' ?_ | refine ifP_u' ?_ | refine optP_mk0 ?_))
    have hrange : (List.range (i + 1)).map (fun k => lb c k 0) = (List.range i).map (fun k => lb c k 0) ++ [lb c i 0] := by rw [List.range_succ, List.map_append]; rfl
    have hol : ((List.range i).map fun k => lb c k 0).length ≤ 1000000 := by rw [List.length_map, List.length_range]; omega
    have ho2 : Own h2 lv 1 y_uint8 (bytesC ((List.range i).map fun k => lb c k 0)) (nx + 1) nx' := ho.keep (Nat.le_refl _) fun id _ _ o hg => hs2 _ _ hg
    have hj2 : ∀ (e : Env) (h3 : T Obj) (n3 : Nat) (lv : Value), nx' ≤ n3 → e 1 = ptr nx → e 3 = lv → e 4 = .int .i64 (i : Int) → Sub h h3 → Fr h3 n3 → h3.get nx = some (.cells (splitLI c k0).toArray y_api_Split) →
        Own h3 lv 1 y_uint8 (bytesC ((List.range (i + 1)).map fun k => lb c k 0)) (nx + 1) n3 → ref02_First_j2 ro Q' e h3 n3 := by
      intro e h3 n3 lv hn3 e1 e3 e4 hs3 hf3 g0 ho3
      unfold ref02_First_j2
      rw [e4]
      (repeat (first | refine bindP_mk (by simp (disch := first | omega | exact Int.natCast_nonneg _ | assumption) only [BB, B2, ↓reduceIte, Nat.reduceLeDiff, Nat.reduceAdd, intB_eql, intB_neq, intB_lss, intB_leq, intB_gtr, intB_geq] <;> rfl) ?_ | refine newP_mk ?_ | refine optP_mk ?_ | with_reducible first | refine condP_t ?_ | refine condP_f ?_ | refine ifP_tt' ?_ | refine ifP_ff' ?_ | refine ifP_tf' ?_ | refine ifP_ft' ?_ | refine ifP_u' ?_ | refine optP_mk0 ?_))
      exact hq (j - 1) _ _ _ _ (by omega) ⟨i + 1, lv, by omega, by omega, e1, e3, rfl, hs3, hf3.mono (by omega), g0, ho3.keep (by omega) fun _ _ _ _ hg => hg⟩ (Sub.refl _)
    have hhd := mem_head (c := c) (k := i)
    by_cases hm : (mem c (i : Int) 256) = []
    · refine condP_tr (by rw [hm]; rfl) ?_
      have hl0 : lb c i 0 = 0 := by rw [← hhd, hm]; rfl
      refine append_lit8 (b := 0) (h0 := h) (nx0 := nx) (nx := n2) (lo := nx + 1) (hi := nx') ho2 hol hf2 (hs.trans hs2) hf (by omega) (by omega) (by omega) (by omega) (by omega) (by omega) fun h3 r3 q1 q2 q3 q4 => ?_
      dsimp only
      refine hj2 _ _ _ r3 (by omega) e1 rfl e4 q2 (q3.mono (by omega)) ?_ ?_
      · rw [q4 _ (.inl (by omega)) (by omega) (by omega)]; exact hs2 _ _ g0
      · rw [hrange, hl0]; exact q1.keep (by omega) fun _ _ _ _ hg => hg
    · have hpos : 0 < (mem c (i : Int) 256).length := List.length_pos_iff.2 hm
      refine condP_fa (by simp; exact hm) ?_
      have hix := (hr.sl (ro := ro)).ix .i64 (i := 0) (by rw [bytesC_len]; exact hpos)
      refine bindP_mk hix ?_
      refine bindP_mk ((hr.sl (ro := ro)).load1 (bytesC_get hpos)) ?_
      have hl0 : (mem c (i : Int) 256)[0] = lb c i 0 := by rw [← hhd, List.head?_eq_getElem?, List.getElem?_eq_getElem hpos]; rfl
      rw [hl0]
      refine append_lit8 (h0 := h) (nx0 := nx) (nx := n2) (lo := nx + 1) (hi := nx') ho2 hol hf2 (hs.trans hs2) hf (by omega) (by omega) (by omega) (by omega) (by omega) (by omega) fun h3 r3 q1 q2 q3 q4 => ?_
      dsimp only
      refine hj2 _ _ _ r3 (by omega) e1 rfl e4 q2 (q3.mono (by omega)) ?_ ?_
      · rw [q4 _ (.inl (by omega)) (by omega) (by omega)]; exact hs2 _ _ g0
      · rw [hrange]; exact q1.keep (by omega) fun _ _ _ _ hg => hg
  · refine condP_fa (by simp; omega) ?_
    refine hx _ _ _ _ (fun e => by cases e) (exP_e (beqP_t ?_))
    have hi2 : i = k0 := by omega
    subst hi2
    unfold ref02_First_j1
    have f3 : ∀ a b c d, Env.put (Env.put (Env.put (Env.put e 14 a) 15 b) 16 c) 17 d 3 = lv := fun a b c d => e3
    simp only [puts, f3]
    have hfz : firstZ c (i : Int) = (List.range i).map fun k => lb c k 0 := by unfold firstZ; rw [if_neg (by omega)]; simp
    refine ⟨h', Sub.refl _, hK _ _ _ (by omega) hs (hf'.mono (by omega)) ?_⟩
    rw [hfz]
    rcases ho with ho | ⟨id, q1, q2, q3⟩
    · exact .inl ho
    · exact .inr ⟨id, by omega, by omega, q3⟩
end V
end Go.Proofs.Ytmmdcdjkmakgpaa
set_option linter.unusedVariables false
set_option linter.unusedSimpArgs false
namespace Go.Proofs.Ytmmdcdjkmakgpaa
set_option maxRecDepth 20000
namespace V
open PA
theorem cls_getD {l : List Nat} {b : Nat} (hb : b < 256) : (cls l).getD b 0 = ix (sigs l) (sig l b) := by
  rw [List.getD_eq_getElem?_getD, cls_get hb]; rfl
theorem cls_many {l : List Nat} {b : Nat} (hb : b < 256) : (cls l).getD b 0 < many l := by rw [cls_getD hb]; exact cls_lt hb
theorem cls_bound {l : List Nat} : ∀ x ∈ cls l, x < 256 := by
  intro x hx
  obtain ⟨i, hi⟩ := List.mem_iff_getElem?.1 hx
  have hlt := (List.getElem?_eq_some_iff.1 hi).1
  rw [cls_length] at hlt
  rw [cls_get hlt] at hi
  have := cls_lt (l := l) hlt
  have := many_le l
  have := Option.some.inj hi
  omega
theorem many_pos (l : List Nat) : 0 < many l := by
  have := cls_many (l := l) (b := 0) (by omega)
  omega
theorem firstZ_cls (l : List Nat) : firstZ (cls l) (many l : Int) = (List.range (many l)).map fun k => lb (cls l) k 0 := by
  unfold firstZ
  have h1 := many_pos l
  have h2 := many_le l
  rw [if_neg (by omega)]; simp
end V
end Go.Proofs.Ytmmdcdjkmakgpaa