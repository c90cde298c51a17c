/- What goes (of auto's builder) hands back.
   No condition. -/
import Derived.Test.YtmmdcdjkmakgpaaBF
set_option linter.unusedVariables false
set_option linter.unusedSimpArgs false
namespace Go.Proofs.Ytmmdcdjkmakgpaa
namespace V
open PA
attribute [local irreducible] bindP ifP condP newP optP exP beqP
def opsC (l : List Nat) : List (List Value) := l.map fun b : Nat => [Value.int .u8 (b : Int)]
theorem opsC_len (l : List Nat) : (opsC l).length = l.length := by simp [opsC]
theorem lit_u81 (aid : Nat) (b : Int) : sliceLitV Try.prog y_s_uint8 aid 1 [(0, .int .u8 b)] = some (.slice (some (own aid 1)) 1 1, some (.cells [Value.int .u8 b].toArray y_uint8)) := by kernel_rfl
theorem app_u8 {ro : Ro} {h : T Obj} {v : Value} {nx n1 n2 lo : Nat} {l : List Nat} {b : Nat} {b' : Int} {K : Value × Option Obj → T Obj → Value × T Obj × Nat → Prop} (hb' : b' = (b : Int)) (ho : OwnT h v 1 y_uint8 (opsC l) lo) (hl : l.length ≤ 1000000) (hf : Fr h nx) (hlo : lo ≤ nx) (hn1 : nx ≤ n1) (hn2 : n1 < n2)
    (hK : ∀ h' w, OwnT h' w 1 y_uint8 (opsC (l ++ [b])) lo → w = .slice (some (own n2 1)) (l.length + 1) (l.length + 1) → Kp v h h' → Fr h' (n2 + 1) → K (.slice (some (own n1 1)) 1 1, some (.cells [Value.int .u8 (b : Int)].toArray y_uint8)) (h.upd n1 (some (.cells [Value.int .u8 (b : Int)].toArray y_uint8))) (w, h', n2 + 1)) :
    bindP (sliceLitV Try.prog y_s_uint8 n1 1 [(0, .int .u8 b')]) fun r => optP h n1 r.2 fun h' => bindP (appendV Try.prog ro h' n2 #[y_s_uint8, y_s_uint8] [v, r.1]) (K r h') := by
  subst hb'
  obtain ⟨i, g1, g2, g3⟩ := tin_u8'
  have e : opsC l ++ [[Value.int .u8 (b : Int)]] = opsC (l ++ [b]) := by simp [opsC]
  have el := opsC_len l
  refine append_lit (z := 1) (l := opsC l) (y := [.int .u8 (b : Int)]) (lit_u81 _ _) rfl ho und_u8s' g1 g2 (by omega) zerU rfl rfl (by rw [el, g3]; unfold big; omega) (by rw [el]; unfold big; omega) hf hlo hn1 hn2 fun h' q1 q2 q3 => ?_
  rw [e] at q1 ⊢
  refine hK h' _ q1 ?_ q2 q3
  rw [opsC_len, List.length_append]; rfl
theorem OwnT.updNe {h : T Obj} {v : Value} {z : Nat} {e e' : TypeId} {l : List (List Value)} {lo i : Nat} {c : Array Value} {f : Nat × Nat} {o : Option Obj} (ho : OwnT h v z e l lo) (hg : h.get i = some (.cells c e' f)) (he : e' ≠ e) : OwnT (h.upd i o) v z e l lo := by
  rcases ho with ho | ⟨id, h1, rfl, h4, h5⟩
  · exact .inl ho
  · refine .inr ⟨id, h1, rfl, h4, ?_⟩
    rw [T.get_upd_ne _ _ (by
      rintro rfl
      rw [hg] at h5
      simp only [Option.some.injEq, Obj.cells.injEq] at h5
      exact he h5.2.1)]
    exact h5
theorem NewSt.updNe {h : T Obj} {lo i : Nat} {x : List Value} {s : StateD} {c : Array Value} {e' : TypeId} {f : Nat × Nat} {o : Option Obj} (hn : NewSt h lo x s) (hg : h.get i = some (.cells c e' f)) (he : e' ≠ y_int) : NewSt (h.upd i o) lo x s := by
  obtain ⟨lv, rv, h1, h2, h3, h4⟩ := hn
  exact ⟨lv, rv, h1, h2.updNe hg he, h3.updNe hg he, h4⟩
theorem Grow.updNe {h : T Obj} {lo i : Nat} {cs cs' : List (List Value)} {S S' : List StateD} {c : Array Value} {e' : TypeId} {f : Nat × Nat} {o : Option Obj} (hn : Grow h lo cs cs' S S') (hg : h.get i = some (.cells c e' f)) (he : e' ≠ y_int) : Grow (h.upd i o) lo cs cs' S S' := by
  obtain ⟨ds, T, h1, h2, h3, h4⟩ := hn
  exact ⟨ds, T, h1, h2, h3, fun i x s hx hs => (h4 i x s hx hs).updNe hg he⟩
theorem Bd.keepN {h h' : T Obj} {g : GlD} {bid nid kid eid yid sid : Nat} {av bv fv : Value} {c : List Nat} {n : Int} {cv : Value} {S : List StateD} {cs : List (List Value)} (hB : Bd h g bid nid kid eid yid sid av bv fv c n cv S cs) (hk : ∀ k o, h.get k = some o → k = bid ∨ k = nid ∨ k = kid ∨ k = sid → h'.get k = some o) : Bd h' g bid nid kid eid yid sid av bv fv c n cv S cs := by
  obtain ⟨f1, ⟨es1, c1, ps1, n1, n2, n3⟩, n4⟩ := hB.num
  obtain ⟨f2, ⟨es2, c2, ps2, k1, k2, k3⟩, k4⟩ := hB.known
  exact ⟨hB.hc, hk _ _ hB.blk (.inl rfl), ⟨f1, ⟨es1, c1, ps1, hk _ _ n1 (.inr (.inl rfl)), n2, n3⟩, n4⟩, ⟨f2, ⟨es2, c2, ps2, hk _ _ k1 (.inr (.inr (.inl rfl))), k2, k3⟩, k4⟩, hk _ _ hB.row (.inr (.inr (.inr rfl))), hB.z4, hB.len, hB.few, hB.pos, hB.nk⟩
theorem Bd.lt {h : T Obj} {g : GlD} {bid nid kid eid yid sid nx : Nat} {av bv fv : Value} {c : List Nat} {n : Int} {cv : Value} {S : List StateD} {cs : List (List Value)} (hB : Bd h g bid nid kid eid yid sid av bv fv c n cv S cs) (hf : Fr h nx) : bid < nx ∧ nid < nx ∧ kid < nx ∧ sid < nx := by
  obtain ⟨f1, n1, n4⟩ := hB.num
  obtain ⟨f2, k1, k4⟩ := hB.known
  obtain ⟨_, _, a⟩ := n1.obj
  obtain ⟨_, _, b⟩ := k1.obj
  exact ⟨hf.lt' hB.blk, hf.lt' a, hf.lt' b, hf.lt' hB.row⟩
theorem placesZ_succ (k : Nat) : placesZ (k + 1) = placesZ k ++ [(k : Int)] := by simp [placesZ, List.range_succ]
theorem placesZ_mem {k : Nat} {x : Int} (h : x ∈ placesZ k) : 0 ≤ x ∧ x < k := by
  simp only [placesZ, List.mem_map, List.mem_range] at h
  obtain ⟨i, h1, rfl⟩ := h
  omega
theorem placesZ_len (k : Nat) : (placesZ k).length = k := by simp [placesZ]
theorem rz_snoc {m : Int} {x : Int} (hx : x < m) : ∀ {l : List Int} {a : Int}, a < x → rz a m l = true → (∀ y ∈ l, y < x) → rz a m (l ++ [x]) = true
  | [], a, ha, _, _ => by simp [rz, ha, hx]
  | y :: r, a, ha, h, hl => by
    simp only [rz, Bool.and_eq_true, decide_eq_true_eq] at h
    have := rz_snoc hx (hl y (by simp)) h.2.2 fun z hz => hl z (by simp [hz])
    simp only [List.cons_append, rz, Bool.and_eq_true, decide_eq_true_eq]
    exact ⟨h.1, h.2.1, this⟩
theorem rz_filter {m : Nat} (q : Int → Bool) : ∀ k, k ≤ m → rz (-1) m ((placesZ k).filter q) = true
  | 0, _ => rfl
  | k + 1, hk => by
    have ih := rz_filter (m := m) q k (by omega)
    rw [placesZ_succ, List.filter_append]
    cases hq : q (k : Int) with
    | false => rw [List.filter_cons_of_neg (by simp [hq])]; simpa using ih
    | true =>
      rw [List.filter_cons_of_pos (by simp [hq])]
      refine rz_snoc (by omega) (by omega) ih fun y hy => ?_
      have := placesZ_mem ((List.mem_filter.1 hy).1)
      omega
theorem lZ_rz (g : GlD) (en st : Int → Bool) (b : Nat) : rz (-1) g.p.length (lZ g en st b) = true := rz_filter _ _ (Nat.le_refl _)
theorem lZ_len (g : GlD) (en st : Int → Bool) (b : Nat) : (lZ g en st b).length ≤ g.p.length := by
  have := List.length_filter_le (takesZ g en st b) (placesZ g.p.length)
  rw [placesZ_len] at this; exact this
theorem opsZ_snoc (g : GlD) (en st : Int → Bool) (l : List Int) (x : Int) : opsZ g en st (l ++ [x]) = if ctd g x then opsZ g en st l ++ [opZ en st x] else opsZ g en st l := by
  unfold opsZ
  rw [List.filter_append]
  cases h : ctd g x <;> simp [h]
theorem opsZ_len (g : GlD) (en st : Int → Bool) (l : List Int) : (opsZ g en st l).length ≤ l.length := by
  unfold opsZ
  rw [List.length_map]
  exact List.length_filter_le _ _
theorem zer_Move : zer Try.prog y_api_Move = some (.agg #[.int .i64 0, nilS]) := by kernel_rfl
theorem build_Move1 : buildV Try.prog y_api_Move [(0, .int .i64 (-1))] = some (.agg #[.int .i64 (-1), nilS]) := by kernel_rfl
theorem zer_PosZ : zer Try.prog y_api_Pos = some (.agg (posL dummy (.slice none 0 0)).toArray) := by kernel_rfl
theorem goesZ_nil {g : GlD} {en st : Int → Bool} {b : Nat} {S : List StateD} (h : lZ g en st b = []) : goesZ g en st b S = (⟨-1, []⟩, 0, S) := by unfold goesZ; rw [h]
theorem goesZ_ne {g : GlD} {en st : Int → Bool} {b : Nat} {S : List StateD} (h : lZ g en st b ≠ []) : goesZ g en st b S = (⟨(findZ g S (lZ g en st b)).1, opsZ g en st (lZ g en st b)⟩, (findZ g S (lZ g en st b)).2.1, (findZ g S (lZ g en st b)).2.2) := by
  unfold goesZ
  generalize lZ g en st b = l at h
  cases l with
  | nil => exact absurd rfl h
  | cons x r => rfl
theorem at_nat {g : GlD} {k : Nat} (hk : k < g.p.length) : g.at (k : Int) = g.p[k] := by
  unfold GlD.at
  rw [Int.toNat_natCast, List.getD_eq_getElem?_getD, List.getElem?_eq_getElem hk]; rfl
set_option maxRecDepth 8000 in
set_option maxHeartbeats 2000000 in
theorem auto_goes_c {ro : Ro} {g : GlD} {bid nid kid eid yid sid : Nat} {av bv fv cv : Value} {c : List Nat} {n : Int} {S : List StateD} {cs : List (List Value)} {en st : Int → Bool} {b : Nat} (hg : g.p.length ≤ 512) (hb : b < 256)
    {h : T Obj} {nx : Nat} {K : KV} (hf : Fr h nx) (hB : Bd h g bid nid kid eid yid sid av bv fv c n cv S cs) (hen : BMap h eid en) (hst : BMap h yid st) (hP : SlR ro h bv 9 (RPos ro h) g.p)
    (hK : ∀ h' nx' sid' cs' ov, nx ≤ nx' → Fr h' nx' → Keep [bid, kid, sid] h h' → (sid' = sid ∨ nx ≤ sid') → Bd h' g bid nid kid eid yid sid' av bv fv c n cv (goesZ g en st b S).2.2 cs' → Grow h' nx cs cs' S (goesZ g en st b S).2.2 → OwnT h' ov 1 y_uint8 (opsC (goesZ g en st b S).1.ops) nx →
      K (.tuple #[.agg #[.int .i64 (goesZ g en st b S).1.to, ov], .int .i64 (goesZ g en st b S).2.1]) h' nx') :
    callP Try.prog ro i_auto_builder_goes [ptr bid, .int .u8 (b : Int)] h nx K := by
  apply auto_builder_goes_of
  unfold auto_builder_goes
  obtain ⟨l1, l2, l3, l4⟩ := hB.lt hf
  refine bindP_mk zer_Move (obj_mk hf (Nat.le_refl _) fun h1 hs1 hf1 g1 _ => bindP_mk build_Move1 ?_)
  refine local_mk zer_Move rfl (x := [.int .i64 (-1), nilS]) rfl rfl rfl hf1 (show nx + 1 ≤ nx + 4 by omega) fun h2 hs2 hf2 g2 _ => ?_
  have hs := hs1.trans hs2
  have g1 : h2.get nx = some (.cells #[.int .i64 0, nilS] y_api_Move) := hs2 _ _ g1
  have hbk := hs _ _ hB.blk
  have b1 := bldL_1 (av := av) (bv := bv) (nv := .map (some nid)) (fv := fv) (c := c) (n := n) (cv := cv) (sv := .slice (some (own sid 4)) cs.length cs.length) (kv := .map (some kid)) (ev := .map (some eid)) (yv := .map (some yid))
  have b2 := bldL_2 (av := av) (bv := bv) (nv := .map (some nid)) (fv := fv) (c := c) (n := n) (cv := cv) (sv := .slice (some (own sid 4)) cs.length cs.length) (kv := .map (some kid)) (ev := .map (some eid)) (yv := .map (some yid))
  have b264 := bldL_264 (av := av) (bv := bv) (nv := .map (some nid)) (fv := fv) (n := n) (cv := cv) (sv := .slice (some (own sid 4)) cs.length cs.length) (kv := .map (some kid)) (ev := .map (some eid)) (yv := .map (some yid)) hB.hc
  have b265 := bldL_265 (av := av) (bv := bv) (nv := .map (some nid)) (fv := fv) (n := n) (cv := cv) (sv := .slice (some (own sid 4)) cs.length cs.length) (kv := .map (some kid)) (ev := .map (some eid)) (yv := .map (some yid)) hB.hc
  have hlen := hP.len
  (repeat (first | refine bindP_mk (by simp (disch := first | omega | exact Int.natCast_nonneg _ | assumption) only [BB, B2, ↓reduceIte, Nat.reduceLeDiff, Nat.reduceAdd, CC, nilCk_at, hbk, b1, hlen] <;> rfl) ?_ | refine newP_mk ?_ | refine optP_mk ?_ | with_reducible first | refine condP_t ?_ | refine condP_f ?_ | refine ifP_tt' ?_ | refine ifP_ff' ?_ | refine ifP_tf' ?_ | refine ifP_ft' ?_ | refine ifP_u' ?_ | refine optP_mk0 ?_))
  refine loopP_rule (fun j e h' nx' => ∃ (k : Nat) (ov : Value), k + j = g.p.length ∧ nx + 5 ≤ nx' ∧ Sub h h' ∧ Fr h' nx' ∧ e 0 = ptr bid ∧ e 1 = .int .u8 (b : Int) ∧ e 4 = ptr nx ∧ e 7 = ptr (nx + 4) ∧ e 19 = bv ∧ e 20 = .int .i64 g.p.length ∧ e 21 = .int .i64 k ∧
    OwnT h' (e 6) 1 y_int (intsZ ((placesZ k).filter (takesZ g en st b))) nx ∧ h'.get nx = some (.cells #[.int .i64 0, nilS] y_api_Move) ∧ h'.get (nx + 4) = some (.cells #[.int .i64 (-1), ov] y_api_Move) ∧ OwnT h' ov 1 y_uint8 (opsC (opsZ g en st ((placesZ k).filter (takesZ g en st b)))) nx) ?_ (n := g.p.length)
    ⟨0, nilS, by omega, by omega, hs, hf2.mono (by omega), rfl, rfl, rfl, rfl, rfl, rfl, rfl, OwnT.nil, g1, g2, OwnT.nil⟩
  rintro j e h' nx' ⟨k, ov, hj, hnx, hs', hf', e0, e1, e4, e7, e19, e20, e21, ho, g1, g2, hov⟩ Q' hq hx
  have hB' := hB.sub hs'
  obtain ⟨fn, hm1, hm2⟩ := hB'.num
  have hbk := hB'.blk
  have hP' := hP.sub hs' (RPos.sub hs')
  have hen' : BMap h' eid en := by obtain ⟨f, q1, q2⟩ := hen; exact ⟨f, q1.sub hs', q2⟩
  have hst' : BMap h' yid st := by obtain ⟨f, q1, q2⟩ := hst; exact ⟨f, q1.sub hs', q2⟩
  unfold auto_builder_goes_L1
  rw [e0, e1, e19, e20, e21]
  refine lss_s (fun hk => ?_) (fun hk => ?_)
  · have hk : k < g.p.length := by omega
    have hls : (placesZ (k + 1)).filter (takesZ g en st b) = if takesZ g en st b (k : Int) then (placesZ k).filter (takesZ g en st b) ++ [(k : Int)] else (placesZ k).filter (takesZ g en st b) := by
      rw [placesZ_succ, List.filter_append]
      cases hq : takesZ g en st b (k : Int) <;> simp [hq]
    have hll : ((placesZ k).filter (takesZ g en st b)).length ≤ 512 := by
      have := List.length_filter_le (takesZ g en st b) (placesZ k)
      rw [placesZ_len] at this; omega
    have hol := opsZ_len g en st ((placesZ k).filter (takesZ g en st b))
    obtain ⟨x, ⟨nv, rfl, y1, y2⟩, x2, x3, x4, x5⟩ := hP'.at hk
    have hat := at_nat hk
    have hlk := look_ii hm1 (k : Int)
    rw [hm2 _ (by omega)] at hlk
    have hle := hen'.look (k : Int)
    have hly := hst'.look (k : Int)
    have hj2 : ∀ (e : Env) (h3 : T Obj) (n3 : Nat) (ov' : Value), nx' ≤ n3 → Sub h h3 → Fr h3 n3 → e 0 = ptr bid → e 1 = .int .u8 (b : Int) → e 4 = ptr nx → e 7 = ptr (nx + 4) → e 19 = bv → e 20 = .int .i64 g.p.length → e 21 = .int .i64 k →
        OwnT h3 (e 6) 1 y_int (intsZ ((placesZ (k + 1)).filter (takesZ g en st b))) nx → h3.get nx = some (.cells #[.int .i64 0, nilS] y_api_Move) → h3.get (nx + 4) = some (.cells #[.int .i64 (-1), ov'] y_api_Move) → OwnT h3 ov' 1 y_uint8 (opsC (opsZ g en st ((placesZ (k + 1)).filter (takesZ g en st b)))) nx → auto_builder_goes_j2 ro Q' e h3 n3 := by
      intro e h3 n3 ov' hn3 s1 s2 e0 e1 e4 e7 e19 e20 e21 o3 g3 g4 o4
      unfold auto_builder_goes_j2
      rw [e21]
      (repeat (first | refine bindP_mk (by simp (disch := first | omega | exact Int.natCast_nonneg _ | assumption) only [BB, B2, ↓reduceIte, Nat.reduceLeDiff, Nat.reduceAdd, CC] <;> rfl) ?_ | refine newP_mk ?_ | refine optP_mk ?_ | with_reducible first | refine condP_t ?_ | refine condP_f ?_ | refine ifP_tt' ?_ | refine ifP_ff' ?_ | refine ifP_tf' ?_ | refine ifP_ft' ?_ | refine ifP_u' ?_ | refine optP_mk0 ?_))
      exact hq (j - 1) _ _ _ _ (by omega) ⟨k + 1, ov', by omega, by omega, s1, s2.mono (by omega), e0, e1, e4, e7, e19, e20, rfl, o3, g3, g4, o4⟩ (Sub.refl _)
    generalize (placesZ k).filter (takesZ g en st b) = L at hls hll hol ho hov
    generalize (placesZ (k + 1)).filter (takesZ g en st b) = L' at hls hj2
    have htk : takesZ g en st b (k : Int) = (g.p[k].s.testBit b && (en k || st k)) := by unfold takesZ; rw [hat]
    refine condP_t (bindP_mk (hP'.ix _ hk) (bindP_mk x3 ?_))
    refine local_mk zer_PosZ rfl (x := posL g.p[k] nv) rfl rfl (posL_ok y1.ok) hf' (show nx' ≤ nx' + 4 by omega) fun h3 hs3 hf3 g3 hne3 => ?_
    have hsp : ((posL g.p[k] nv).drop 0).take 4 = setL g.p[k].s := rfl
    have e4s : (4 : Nat) ≤ (posL g.p[k] nv).length := by show 4 ≤ 9; omega
    have hld : loadA ro h3 4 (at_ (nx' + 4) 0 0) = some (setV g.p[k].s) := by
      rw [loadA_own, g3, cellsIn_some]
      simp only [Option.bind_some, tl]
      rw [if_pos (by show 0 + 4 ≤ 9; omega), hsp]; rfl
    (repeat (first | refine bindP_mk (by simp (disch := first | omega | exact Int.natCast_nonneg _ | assumption) only [BB, B2, ↓reduceIte, Nat.reduceLeDiff, Nat.reduceAdd, CC, hld] <;> rfl) ?_ | refine newP_mk ?_ | refine optP_mk ?_ | with_reducible first | refine condP_t ?_ | refine condP_f ?_ | refine ifP_tt' ?_ | refine ifP_ff' ?_ | refine ifP_tf' ?_ | refine ifP_ft' ?_ | refine ifP_u' ?_ | refine optP_mk0 ?_))
    refine bset_Has_c hb (hf3.mono (by omega)) fun n4 hn4 => ?_
    have hb3 := hs3 _ _ hbk
    have hle3 : lookV Try.prog h3 y_map_int_bool (.map (some eid)) (.int .i64 (k : Int)) false = some (.bool (en k)) := BMap.look (by obtain ⟨f, q1, q2⟩ := hen'; exact ⟨f, q1.sub hs3, q2⟩) _
    have hly3 : lookV Try.prog h3 y_map_int_bool (.map (some yid)) (.int .i64 (k : Int)) false = some (.bool (st k)) := BMap.look (by obtain ⟨f, q1, q2⟩ := hst'; exact ⟨f, q1.sub hs3, q2⟩) _
    have ho3 := ho.keepS hs3
    have hov3 := hov.keepS hs3
    have g13 := hs3 _ _ g1
    have g23 := hs3 _ _ g2
    have hm3 := hm1.sub hs3
    have hs03 := hs'.trans hs3
    have hB3 := hB'.sub hs3
    cases hhas : (g.p[k]).s.testBit b with
    | false =>
      rw [hhas, Bool.false_and] at htk
      rw [htk, if_neg (by decide)] at hls
      (repeat (first | refine bindP_mk (by simp (disch := first | omega | exact Int.natCast_nonneg _ | assumption) only [BB, B2, ↓reduceIte, Nat.reduceLeDiff, Nat.reduceAdd, CC] <;> rfl) ?_ | refine newP_mk ?_ | refine optP_mk ?_ | with_reducible first | refine condP_t ?_ | refine condP_f ?_ | refine ifP_tt' ?_ | refine ifP_ff' ?_ | refine ifP_tf' ?_ | refine ifP_ft' ?_ | refine ifP_u' ?_ | refine optP_mk0 ?_))
      refine hj2 _ _ _ ov (by omega) hs03 (hf3.mono (by omega)) e0 e1 e4 e7 e19 e20 e21 ?_ g13 g23 ?_
      · rw [hls]; exact ho3
      · rw [hls]; exact hov3
    | true =>
      rw [hhas, Bool.true_and] at htk
      -- places that are taken
      have main : ∀ (e' : Env) n5 (h6 : T Obj) (lv : Value) (op : Nat), nx' + 5 ≤ n5 → (en k || st k) = true → e' 0 = ptr bid → e' 1 = .int .u8 (b : Int) → e' 4 = ptr nx → e' 7 = ptr (nx + 4) → e' 8 = .int .i64 k → e' 19 = bv → e' 20 = .int .i64 g.p.length → e' 21 = .int .i64 k → OwnT h6 lv 1 y_int (intsZ L') nx → e' 6 = lv → Sub h h6 → Fr h6 n5 → h6.get nx = some (.cells #[.int .i64 0, nilS] y_api_Move) → h6.get (nx + 4) = some (.cells #[.int .i64 (-1), ov] y_api_Move) → OwnT h6 ov 1 y_uint8 (opsC (opsZ g en st L)) nx →
          op = opZ en st k → e' 12 = .int .u8 (op : Int) → ctd g k = true → L' = L ++ [(k : Int)] → auto_builder_goes_j4 ro Q' e' h6 n5 := by
        intro e' n5 h6 lv op hn5 hes f0 f1 f4 f7 f8 f19 f20 f21 q1 q2 q3 q4 q5 q6 q7 hop f12 hct hL
        unfold auto_builder_goes_j4
        rw [f7, f12]
        (repeat (first | refine bindP_mk (by simp (disch := first | omega | exact Int.natCast_nonneg _ | assumption) only [BB, B2, ↓reduceIte, Nat.reduceLeDiff, Nat.reduceAdd, CC, q6] <;> rfl) ?_ | refine newP_mk ?_ | refine optP_mk ?_ | with_reducible first | refine condP_t ?_ | refine condP_f ?_ | refine ifP_tt' ?_ | refine ifP_ff' ?_ | refine ifP_tf' ?_ | refine ifP_ft' ?_ | refine ifP_u' ?_ | refine optP_mk0 ?_))
        refine app_u8 (b := op) rfl q7 (by omega) q4 (by omega) (by omega) (by omega) fun h8 w r1 r2 r3 r4 => ?_
        dsimp only
        have hne4 : sblk ov ≠ some (nx + 4) := q7.ne q6 (by decide)
        have hnx4 : sblk ov ≠ some nx := q7.ne q5 (by decide)
        have r6 := r3 _ _ q6 hne4
        have r5 := r3 _ _ q5 hnx4
        have hr2 : w.cells = #[w] := by rw [r2]; rfl
        have hr2' : cellOk w = true := by rw [r2]; rfl
        (repeat (first | refine bindP_mk (by simp (disch := first | omega | exact Int.natCast_nonneg _ | assumption) only [BB, B2, ↓reduceIte, Nat.reduceLeDiff, Nat.reduceAdd, CC] <;> rfl) ?_ | refine newP_mk ?_ | refine optP_mk ?_ | with_reducible first | refine condP_t ?_ | refine condP_f ?_ | refine ifP_tt' ?_ | refine ifP_ff' ?_ | refine ifP_tf' ?_ | refine ifP_ft' ?_ | refine ifP_u' ?_ | refine optP_mk0 ?_))
        refine bindP_mk (store1_own (l := [.int .i64 (-1), ov]) r6 (by show 1 < 2; omega) hr2' hr2) ?_
        have hxl : OwnT h8 lv 1 y_int (intsZ L') nx := q1.keep r3 fun id hid => by
          obtain ⟨_, z1⟩ := q1.blk hid
          exact q7.ne z1 (by decide)
        have hss : Sub h h8 := q7.sub r3 hf (Nat.le_refl _) q3
        refine hj2 _ _ _ w (by omega) (hss.new hf (by omega)) ((r4.mono (by omega)).upd (Nat.le_refl _) (by omega)) f0 f1 f4 f7 f19 f20 f21 ?_ ?_ ?_ ?_
        · show OwnT _ (e' 6) _ _ _ _
          rw [q2]
          exact hxl.updNe r6 (by decide)
        · rw [T.get_upd_ne _ _ (by omega)]; exact r5
        · rw [T.get_upd_same]; rfl
        · rw [hL, opsZ_snoc, if_pos hct, ← hop]
          exact r1.updNe r6 (by decide)
      have fin3 : ∀ (e' : Env) n5 (h6 : T Obj) (lv : Value), nx' + 5 ≤ n5 → (en k || st k) = true → e' 0 = ptr bid → e' 1 = .int .u8 (b : Int) → e' 4 = ptr nx → e' 7 = ptr (nx + 4) → e' 8 = .int .i64 k → e' 19 = bv → e' 20 = .int .i64 g.p.length → e' 21 = .int .i64 k → OwnT h6 lv 1 y_int (intsZ L') nx → e' 6 = lv → Sub h h6 → Fr h6 n5 → h6.get nx = some (.cells #[.int .i64 0, nilS] y_api_Move) → h6.get (nx + 4) = some (.cells #[.int .i64 (-1), ov] y_api_Move) → OwnT h6 ov 1 y_uint8 (opsC (opsZ g en st L)) nx →
          e' 12 = .int .u8 (if st k then (1 : Int) else 3) → ctd g k = true → L' = L ++ [(k : Int)] → auto_builder_goes_j3 ro Q' e' h6 n5 := by
        intro e' n5 h6 lv hn5 hes f0 f1 f4 f7 f8 f19 f20 f21 q1 q2 q3 q4 q5 q6 q7 f12 hct hL
        have hly6 : lookV Try.prog h6 y_map_int_bool (.map (some yid)) (.int .i64 (k : Int)) false = some (.bool (st k)) := BMap.look (by obtain ⟨f, q1, q2⟩ := hst; exact ⟨f, q1.sub q3, q2⟩) _
        have hle6 : lookV Try.prog h6 y_map_int_bool (.map (some eid)) (.int .i64 (k : Int)) false = some (.bool (en k)) := BMap.look (by obtain ⟨f, q1, q2⟩ := hen; exact ⟨f, q1.sub q3, q2⟩) _
        have hb6 := (hB.sub q3).blk
        unfold auto_builder_goes_j3
        rw [f0, f8]
        (repeat (first | refine bindP_mk (by simp (disch := first | omega | exact Int.natCast_nonneg _ | assumption) only [BB, B2, ↓reduceIte, Nat.reduceLeDiff, Nat.reduceAdd, CC, nilCk_at, hb6, b265, hly6] <;> rfl) ?_ | refine newP_mk ?_ | refine optP_mk ?_ | with_reducible first | refine condP_t ?_ | refine condP_f ?_ | refine ifP_tt' ?_ | refine ifP_ff' ?_ | refine ifP_tf' ?_ | refine ifP_ft' ?_ | refine ifP_u' ?_ | refine optP_mk0 ?_))
        cases hsk : st k with
        | false =>
          rw [hsk] at f12
          (repeat (first | refine bindP_mk (by simp (disch := first | omega | exact Int.natCast_nonneg _ | assumption) only [BB, B2, ↓reduceIte, Nat.reduceLeDiff, Nat.reduceAdd, CC] <;> rfl) ?_ | refine newP_mk ?_ | refine optP_mk ?_ | with_reducible first | refine condP_t ?_ | refine condP_f ?_ | refine ifP_tt' ?_ | refine ifP_ff' ?_ | refine ifP_tf' ?_ | refine ifP_ft' ?_ | refine ifP_u' ?_ | refine optP_mk0 ?_))
          exact main _ _ h6 lv 3 (by omega) hes f0 f1 f4 f7 f8 f19 f20 f21 q1 q2 q3 (q4.mono (by omega)) q5 q6 q7 (by unfold opZ; rw [hsk]; rfl) f12 hct hL
        | true =>
          rw [hsk] at f12
          (repeat (first | refine bindP_mk (by simp (disch := first | omega | exact Int.natCast_nonneg _ | assumption) only [BB, B2, ↓reduceIte, Nat.reduceLeDiff, Nat.reduceAdd, CC, nilCk_at, hb6, b264, hle6] <;> rfl) ?_ | refine newP_mk ?_ | refine optP_mk ?_ | with_reducible first | refine condP_t ?_ | refine condP_f ?_ | refine ifP_tt' ?_ | refine ifP_ff' ?_ | refine ifP_tf' ?_ | refine ifP_ft' ?_ | refine ifP_u' ?_ | refine optP_mk0 ?_))
          cases hek : en k with
          | false =>
            (repeat (first | refine bindP_mk (by simp (disch := first | omega | exact Int.natCast_nonneg _ | assumption) only [BB, B2, ↓reduceIte, Nat.reduceLeDiff, Nat.reduceAdd, CC] <;> rfl) ?_ | refine newP_mk ?_ | refine optP_mk ?_ | with_reducible first | refine condP_t ?_ | refine condP_f ?_ | refine ifP_tt' ?_ | refine ifP_ff' ?_ | refine ifP_tf' ?_ | refine ifP_ft' ?_ | refine ifP_u' ?_ | refine optP_mk0 ?_))
            exact main _ _ h6 lv 1 (by omega) hes f0 f1 f4 f7 f8 f19 f20 f21 q1 q2 q3 (q4.mono (by omega)) q5 q6 q7 (by unfold opZ; rw [hsk, hek]; rfl) f12 hct hL
          | true =>
            (repeat (first | refine bindP_mk (by simp (disch := first | omega | exact Int.natCast_nonneg _ | assumption) only [BB, B2, ↓reduceIte, Nat.reduceLeDiff, Nat.reduceAdd, CC] <;> rfl) ?_ | refine newP_mk ?_ | refine optP_mk ?_ | with_reducible first | refine condP_t ?_ | refine condP_f ?_ | refine ifP_tt' ?_ | refine ifP_ff' ?_ | refine ifP_tf' ?_ | refine ifP_ft' ?_ | refine ifP_u' ?_ | refine optP_mk0 ?_))
            exact main _ _ h6 lv 2 (by omega) hes f0 f1 f4 f7 f8 f19 f20 f21 q1 q2 q3 (q4.mono (by omega)) q5 q6 q7 (by unfold opZ; rw [hsk, hek]; rfl) rfl hct hL
      cases hek : en k with
      | true =>
        rw [hek] at htk hle3
        rw [htk, Bool.true_or, if_pos rfl] at hls
        (repeat (first | refine bindP_mk (by simp (disch := first | omega | exact Int.natCast_nonneg _ | assumption) only [BB, B2, ↓reduceIte, Nat.reduceLeDiff, Nat.reduceAdd, CC, nilCk_at, hb3, b264, hle3] <;> rfl) ?_ | refine newP_mk ?_ | refine optP_mk ?_ | with_reducible first | refine condP_t ?_ | refine condP_f ?_ | refine ifP_tt' ?_ | refine ifP_ff' ?_ | refine ifP_tf' ?_ | refine ifP_ft' ?_ | refine ifP_u' ?_ | refine optP_mk0 ?_))
        refine app_int ho3 (by omega) (hf3.mono (show nx' + 4 + 1 ≤ n4 by omega)) (by omega) (by omega) (by omega) fun h6 w q1 q2 q3 q4 => ?_
        dsimp only
        rw [← hls] at q1
        have hkp : ∀ i o, h3.get i = some o → (∀ c f, o ≠ .cells c y_int f) → h6.get i = some o := fun i o hi hty => q3 i o hi fun e => by
          obtain ⟨_, z1⟩ := ho3.blk e
          rw [hi] at z1
          exact hty _ _ (Option.some.inj z1)
        have hb6 := hkp _ _ hb3 (by intro c f e; simp only [Obj.cells.injEq] at e; exact absurd e.2.1 (by decide))
        have hg16 := hkp _ _ g13 (by intro c f e; simp only [Obj.cells.injEq] at e; exact absurd e.2.1 (by decide))
        have hg26 := hkp _ _ g23 (by intro c f e; simp only [Obj.cells.injEq] at e; exact absurd e.2.1 (by decide))
        have hov6 : OwnT h6 ov 1 y_uint8 (opsC (opsZ g en st L)) nx := hov3.keep q3 fun id hid => by
          obtain ⟨_, z1⟩ := hov3.blk hid
          exact ho3.ne z1 (by decide)
        have hss : Sub h h6 := ho3.sub q3 hf (Nat.le_refl _) hs03
        have hB6 := hB.sub hss
        obtain ⟨fn6, m61, m62⟩ := hB6.num
        have hlk6 := look_ii m61 (k : Int)
        rw [m62 _ (by omega)] at hlk6
        have hly6 : lookV Try.prog h6 y_map_int_bool (.map (some yid)) (.int .i64 (k : Int)) false = some (.bool (st k)) := BMap.look (by obtain ⟨f, q1, q2⟩ := hst; exact ⟨f, q1.sub hss, q2⟩) _
        (repeat (first | refine bindP_mk (by simp (disch := first | omega | exact Int.natCast_nonneg _ | assumption) only [BB, B2, ↓reduceIte, Nat.reduceLeDiff, Nat.reduceAdd, CC, nilCk_at, hb6, b2, hlk6, nth0, nth1] <;> rfl) ?_ | refine newP_mk ?_ | refine optP_mk ?_ | with_reducible first | refine condP_t ?_ | refine condP_f ?_ | refine ifP_tt' ?_ | refine ifP_ff' ?_ | refine ifP_tf' ?_ | refine ifP_ft' ?_ | refine ifP_u' ?_ | refine optP_mk0 ?_))
        cases hct : ctd g (k : Int) with
        | false =>
          simp only [Bool.false_eq_true, if_false, Option.isSome_none, Bool.not_false]
          (repeat (first | refine bindP_mk (by simp (disch := first | omega | exact Int.natCast_nonneg _ | assumption) only [BB, B2, ↓reduceIte, Nat.reduceLeDiff, Nat.reduceAdd, CC] <;> rfl) ?_ | refine newP_mk ?_ | refine optP_mk ?_ | with_reducible first | refine condP_t ?_ | refine condP_f ?_ | refine ifP_tt' ?_ | refine ifP_ff' ?_ | refine ifP_tf' ?_ | refine ifP_ft' ?_ | refine ifP_u' ?_ | refine optP_mk0 ?_))
          refine hj2 _ _ _ ov (by omega) hss (q4.mono (by omega)) e0 e1 e4 e7 e19 e20 e21 q1 hg16 hg26 ?_
          rw [hls, opsZ_snoc, if_neg (by rw [hct]; decide)]; exact hov6
        | true =>
          simp only [if_true, Option.isSome_some, Bool.not_true]
          (repeat (first | refine bindP_mk (by simp (disch := first | omega | exact Int.natCast_nonneg _ | assumption) only [BB, B2, ↓reduceIte, Nat.reduceLeDiff, Nat.reduceAdd, CC, nilCk_at, hb6, b265, hly6] <;> rfl) ?_ | refine newP_mk ?_ | refine optP_mk ?_ | with_reducible first | refine condP_t ?_ | refine condP_f ?_ | refine ifP_tt' ?_ | refine ifP_ff' ?_ | refine ifP_tf' ?_ | refine ifP_ft' ?_ | refine ifP_u' ?_ | refine optP_mk0 ?_))
          cases hsk : st k with
          | true =>
            rw [hsk] at hly6
            (repeat (first | refine bindP_mk (by simp (disch := first | omega | exact Int.natCast_nonneg _ | assumption) only [BB, B2, ↓reduceIte, Nat.reduceLeDiff, Nat.reduceAdd, CC] <;> rfl) ?_ | refine newP_mk ?_ | refine optP_mk ?_ | with_reducible first | refine condP_t ?_ | refine condP_f ?_ | refine ifP_tt' ?_ | refine ifP_ff' ?_ | refine ifP_tf' ?_ | refine ifP_ft' ?_ | refine ifP_u' ?_ | refine optP_mk0 ?_))
            exact fin3 _ _ h6 w (by omega) (by rw [hek]; rfl) e0 e1 e4 e7 rfl e19 e20 e21 q1 rfl hss (q4.mono (by omega)) hg16 hg26 hov6 (by rw [hsk]; rfl) hct hls
          | false =>
            rw [hsk] at hly6
            (repeat (first | refine bindP_mk (by simp (disch := first | omega | exact Int.natCast_nonneg _ | assumption) only [BB, B2, ↓reduceIte, Nat.reduceLeDiff, Nat.reduceAdd, CC] <;> rfl) ?_ | refine newP_mk ?_ | refine optP_mk ?_ | with_reducible first | refine condP_t ?_ | refine condP_f ?_ | refine ifP_tt' ?_ | refine ifP_ff' ?_ | refine ifP_tf' ?_ | refine ifP_ft' ?_ | refine ifP_u' ?_ | refine optP_mk0 ?_))
            exact fin3 _ _ h6 w (by omega) (by rw [hek]; rfl) e0 e1 e4 e7 rfl e19 e20 e21 q1 rfl hss (q4.mono (by omega)) hg16 hg26 hov6 (by rw [hsk]; rfl) hct hls
      | false =>
        rw [hek] at htk hle3
        rw [Bool.false_or] at htk
        cases hsk : st k with
        | false =>
          rw [hsk] at htk hly3
          rw [htk, if_neg (by decide)] at hls
          (repeat (first | refine bindP_mk (by simp (disch := first | omega | exact Int.natCast_nonneg _ | assumption) only [BB, B2, ↓reduceIte, Nat.reduceLeDiff, Nat.reduceAdd, CC, nilCk_at, hb3, b264, b265, hle3, hly3] <;> rfl) ?_ | refine newP_mk ?_ | refine optP_mk ?_ | with_reducible first | refine condP_t ?_ | refine condP_f ?_ | refine ifP_tt' ?_ | refine ifP_ff' ?_ | refine ifP_tf' ?_ | refine ifP_ft' ?_ | refine ifP_u' ?_ | refine optP_mk0 ?_))
          refine hj2 _ _ _ ov (by omega) hs03 (hf3.mono (by omega)) e0 e1 e4 e7 e19 e20 e21 ?_ g13 g23 ?_
          · rw [hls]; exact ho3
          · rw [hls]; exact hov3
        | true =>
          rw [hsk] at htk hly3
          rw [htk, if_pos rfl] at hls
          (repeat (first | refine bindP_mk (by simp (disch := first | omega | exact Int.natCast_nonneg _ | assumption) only [BB, B2, ↓reduceIte, Nat.reduceLeDiff, Nat.reduceAdd, CC, nilCk_at, hb3, b264, b265, hle3, hly3] <;> rfl) ?_ | refine newP_mk ?_ | refine optP_mk ?_ | with_reducible first | refine condP_t ?_ | refine condP_f ?_ | refine ifP_tt' ?_ | refine ifP_ff' ?_ | refine ifP_tf' ?_ | refine ifP_ft' ?_ | refine ifP_u' ?_ | refine optP_mk0 ?_))
          refine app_int ho3 (by omega) (hf3.mono (show nx' + 4 + 1 ≤ n4 by omega)) (by omega) (by omega) (by omega) fun h6 w q1 q2 q3 q4 => ?_
          dsimp only
          rw [← hls] at q1
          have hkp : ∀ i o, h3.get i = some o → (∀ c f, o ≠ .cells c y_int f) → h6.get i = some o := fun i o hi hty => q3 i o hi fun e => by
            obtain ⟨_, z1⟩ := ho3.blk e
            rw [hi] at z1
            exact hty _ _ (Option.some.inj z1)
          have hb6 := hkp _ _ hb3 (by intro c f e; simp only [Obj.cells.injEq] at e; exact absurd e.2.1 (by decide))
          have hg16 := hkp _ _ g13 (by intro c f e; simp only [Obj.cells.injEq] at e; exact absurd e.2.1 (by decide))
          have hg26 := hkp _ _ g23 (by intro c f e; simp only [Obj.cells.injEq] at e; exact absurd e.2.1 (by decide))
          have hov6 : OwnT h6 ov 1 y_uint8 (opsC (opsZ g en st L)) nx := hov3.keep q3 fun id hid => by
            obtain ⟨_, z1⟩ := hov3.blk hid
            exact ho3.ne z1 (by decide)
          have hss : Sub h h6 := ho3.sub q3 hf (Nat.le_refl _) hs03
          have hB6 := hB.sub hss
          obtain ⟨fn6, m61, m62⟩ := hB6.num
          have hlk6 := look_ii m61 (k : Int)
          rw [m62 _ (by omega)] at hlk6
          have hly6 : lookV Try.prog h6 y_map_int_bool (.map (some yid)) (.int .i64 (k : Int)) false = some (.bool (st k)) := BMap.look (by obtain ⟨f, q1, q2⟩ := hst; exact ⟨f, q1.sub hss, q2⟩) _
          rw [hsk] at hly6
          (repeat (first | refine bindP_mk (by simp (disch := first | omega | exact Int.natCast_nonneg _ | assumption) only [BB, B2, ↓reduceIte, Nat.reduceLeDiff, Nat.reduceAdd, CC, nilCk_at, hb6, b2, hlk6, nth0, nth1] <;> rfl) ?_ | refine newP_mk ?_ | refine optP_mk ?_ | with_reducible first | refine condP_t ?_ | refine condP_f ?_ | refine ifP_tt' ?_ | refine ifP_ff' ?_ | refine ifP_tf' ?_ | refine ifP_ft' ?_ | refine ifP_u' ?_ | refine optP_mk0 ?_))
          cases hct : ctd g (k : Int) with
          | false =>
            simp only [Bool.false_eq_true, if_false, Option.isSome_none, Bool.not_false]
            (repeat (first | refine bindP_mk (by simp (disch := first | omega | exact Int.natCast_nonneg _ | assumption) only [BB, B2, ↓reduceIte, Nat.reduceLeDiff, Nat.reduceAdd, CC] <;> rfl) ?_ | refine newP_mk ?_ | refine optP_mk ?_ | with_reducible first | refine condP_t ?_ | refine condP_f ?_ | refine ifP_tt' ?_ | refine ifP_ff' ?_ | refine ifP_tf' ?_ | refine ifP_ft' ?_ | refine ifP_u' ?_ | refine optP_mk0 ?_))
            refine hj2 _ _ _ ov (by omega) hss (q4.mono (by omega)) e0 e1 e4 e7 e19 e20 e21 q1 hg16 hg26 ?_
            rw [hls, opsZ_snoc, if_neg (by rw [hct]; decide)]; exact hov6
          | true =>
            simp only [if_true, Option.isSome_some, Bool.not_true]
            (repeat (first | refine bindP_mk (by simp (disch := first | omega | exact Int.natCast_nonneg _ | assumption) only [BB, B2, ↓reduceIte, Nat.reduceLeDiff, Nat.reduceAdd, CC, nilCk_at, hb6, b265, hly6] <;> rfl) ?_ | refine newP_mk ?_ | refine optP_mk ?_ | with_reducible first | refine condP_t ?_ | refine condP_f ?_ | refine ifP_tt' ?_ | refine ifP_ff' ?_ | refine ifP_tf' ?_ | refine ifP_ft' ?_ | refine ifP_u' ?_ | refine optP_mk0 ?_))
            exact fin3 _ _ h6 w (by omega) (by rw [hek, hsk]; rfl) e0 e1 e4 e7 rfl e19 e20 e21 q1 rfl hss (q4.mono (by omega)) hg16 hg26 hov6 (by rw [hsk]; rfl) hct hls
  · (repeat (first | refine bindP_mk (by simp (disch := first | omega | exact Int.natCast_nonneg _ | assumption) only [BB, B2, ↓reduceIte, Nat.reduceLeDiff, Nat.reduceAdd, CC] <;> rfl) ?_ | refine newP_mk ?_ | refine optP_mk ?_ | with_reducible first | refine condP_t ?_ | refine condP_f ?_ | refine ifP_tt' ?_ | refine ifP_ff' ?_ | refine ifP_tf' ?_ | refine ifP_ft' ?_ | refine ifP_u' ?_ | refine optP_mk0 ?_))
    refine hx _ _ _ _ (fun e => by cases e) (exP_e (beqP_t ?_))
    have hkl : k = g.p.length := by omega
    subst hkl
    have hlz : (placesZ g.p.length).filter (takesZ g en st b) = lZ g en st b := rfl
    rw [hlz] at ho hov
    have hlr := lZ_rz g en st b
    have hll := lZ_len g en st b
    have fin : ∀ (e' : Env) n', e' 0 = ptr bid → e' 4 = ptr nx → e' 7 = ptr (nx + 4) → OwnT h' (e' 6) 1 y_int (intsZ (lZ g en st b)) nx → nx' ≤ n' → auto_builder_goes_j1 ro K e' h' n' := by
      intro e' n' f0 f4 f7 ho hn'
      unfold auto_builder_goes_j1
      rw [f0, f4, f7]
      generalize e' 6 = lv at ho
      have hln := (ho.sl (ro := ro)).len
      rw [intsZ_len] at hln
      refine bindP_mk hln ?_
      refine eql_s (fun u1 => ?_) (fun u1 => ?_)
      · have hnil : lZ g en st b = [] := eq_len u1
        rw [goesZ_nil hnil] at hK
        rw [hnil] at hov
        have hovk := hov.ok
        refine condP_t (bindP_mk (loadA_all (l := [.int .i64 (-1), ov]) g2 rfl) ?_)
        refine bindP_mk (storeA_own (l := [.int .i64 0, nilS]) (vs := [.int .i64 (-1), ov]) g1 rfl rfl rfl (by simp only [List.all_cons, List.all_nil, hovk]; rfl)) ?_
        refine bindP_mk (loadA_all (l := [.int .i64 (-1), ov]) (by rw [T.get_upd_same]) rfl) ?_
        refine ⟨_, Sub.refl _, ?_⟩
        have hss : Sub h (h'.upd nx (some (.cells [Value.int .i64 (-1), ov].toArray y_api_Move))) := hs'.new hf (Nat.le_refl _)
        exact hK _ _ sid cs ov (by omega) ((hf'.mono (show nx' ≤ n' + 6 by omega)).upd (Nat.le_refl _) (by omega)) hss.keepL (.inl rfl) (hB.sub hss) Grow.refl (hov.updNe g1 (by decide))
      · have hnn : lZ g en st b ≠ [] := fun e => u1 (by rw [e]; rfl)
        rw [goesZ_ne hnn] at hK
        refine condP_f ?_
        refine auto_find_c hg hlr (by omega) hnn (hf'.mono (show nx' ≤ n' + 7 by omega)) hB' ho (show nx ≤ n' + 7 by omega) l1 fun h3 n3 sid' cs' r1 r2 r3 r4 r5 r6 => ?_
        have k1 := r3 _ _ g1 (by simp; omega)
        have k2 := r3 _ _ g2 (by simp; omega)
        have hovk := hov.ok
        have hov3 : OwnT h3 ov 1 y_uint8 (opsC (opsZ g en st (lZ g en st b))) nx := hov.keepK r3 fun id hid => by
          have := (hov.blk hid).1
          simp; omega
        (repeat (first | refine bindP_mk (by simp (disch := first | omega | exact Int.natCast_nonneg _ | assumption) only [BB, B2, ↓reduceIte, Nat.reduceLeDiff, Nat.reduceAdd, CC, nth0, nth1] <;> rfl) ?_ | refine newP_mk ?_ | refine optP_mk ?_ | with_reducible first | refine condP_t ?_ | refine condP_f ?_ | refine ifP_tt' ?_ | refine ifP_ff' ?_ | refine ifP_tf' ?_ | refine ifP_ft' ?_ | refine ifP_u' ?_ | refine optP_mk0 ?_))
        refine bindP_mk (store1_own (l := [.int .i64 (-1), ov]) k2 (by show 0 < 2; omega) rfl rfl) ?_
        refine bindP_mk (loadA_all (l := [.int .i64 (findZ g S (lZ g en st b)).1, ov]) (by rw [T.get_upd_same]; rfl) rfl) ?_
        refine bindP_mk (storeA_own (l := [.int .i64 0, nilS]) (vs := [.int .i64 (findZ g S (lZ g en st b)).1, ov]) (by rw [T.get_upd_ne _ _ (by omega)]; exact k1) rfl rfl rfl (by simp only [List.all_cons, List.all_nil, hovk]; rfl)) ?_
        refine bindP_mk (loadA_all (l := [.int .i64 (findZ g S (lZ g en st b)).1, ov]) (by rw [T.get_upd_same]) rfl) ?_
        refine ⟨_, Sub.refl _, ?_⟩
        have k1' : (h3.upd (nx + 4) (some (.cells (([Value.int .i64 (-1), ov].set 0 (.int .i64 (findZ g S (lZ g en st b)).1)).toArray) y_api_Move))).get nx = _ := (T.get_upd_ne _ _ (by omega)).trans k1
        refine hK _ _ sid' cs' ov (by omega) (((r2.mono (show n3 ≤ n3 + 10 by omega)).upd (Nat.le_refl _) (by omega)).upd (Nat.le_refl _) (by omega)) ?_ (by omega) ?_ ?_ ?_
        · refine Keep.updN (Keep.updN ?_ hf (by omega)) hf (Nat.le_refl _)
          exact fun i o hi hn => r3 i o (hs' _ _ hi) hn
        · refine r5.keepN fun i o hi hd => ?_
          obtain ⟨z1, z2, z3, z4⟩ := r5.lt r2
          have : i ≠ nx ∧ i ≠ nx + 4 := by
            have hii := r5.ids
            rcases hd with rfl | rfl | rfl | rfl
            · omega
            · omega
            · omega
            · refine ⟨?_, ?_⟩ <;> intro e <;> subst e
              · rw [k1] at hi
                have := r5.row
                rw [k1] at this
                simp only [Option.some.injEq, Obj.cells.injEq] at this
                exact absurd this.2.1 (by decide)
              · have := r5.row
                rw [k2] at this
                simp only [Option.some.injEq, Obj.cells.injEq] at this
                exact absurd this.2.1 (by decide)
          rw [T.get_upd_ne _ _ this.1, T.get_upd_ne _ _ this.2]; exact hi
        · exact (r6.updNe k2 (by decide)).updNe k1' (by decide)
        · exact (hov3.updNe k2 (by decide)).updNe k1' (by decide)
    exact fin _ _ e0 e4 e7 ho (by omega)
end V
end Go.Proofs.Ytmmdcdjkmakgpaa
