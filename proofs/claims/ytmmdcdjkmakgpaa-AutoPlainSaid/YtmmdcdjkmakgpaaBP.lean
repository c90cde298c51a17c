/- What auto's Of hands back.
   No condition. -/
import Derived.Test.YtmmdcdjkmakgpaaBO
set_option linter.unusedVariables false
set_option linter.unusedSimpArgs false
namespace Go.Proofs.Ytmmdcdjkmakgpaa
namespace V
open PA
attribute [local irreducible] bindP ifP condP newP optP exP beqP
def autD0 : AutoD := ⟨List.replicate 256 0, 0, [], []⟩
/-- The first bytes of all classes. -/
def ofB (g : GlD) : List Nat := firstZ (cls (setsL g.p)) (many (setsL g.p) : Int)
def ofD (g : GlD) (S : List StateD) : AutoD := ⟨cls (setsL g.p), (many (setsL g.p) : Int), cntsL g.p, S⟩
/-- The automaton of places: an error, and what is made. -/
def ofZ (g : GlD) : Int × AutoD := if rightD g = true then (if (allZ g (ofB g) 256 0 [noS]).1 = 0 then (0, ofD g (allZ g (ofB g) 256 0 [noS]).2) else ((allZ g (ofB g) 256 0 [noS]).1, autD0)) else (1, autD0)
theorem Sub.delN {h h' : T Obj} {ids : List Nat} {n : Nat} (hs : Sub h h') (hf : Fr h n) (hi : ∀ i ∈ ids, n ≤ i) : Sub h (V.del h' ids) := fun k o hk => del_some (hs k o hk) fun hm => by
  have := hf.lt' hk
  have := hi k hm
  omega
theorem autD0_R {ro : Ro} {h : T Obj} : RAuto ro h autZ autD0 := ⟨nilS, nilS, rfl, List.length_replicate, fun x hx => by
  have := List.eq_of_mem_replicate hx
  omega, SlR.nil, SlR.nil, Nat.zero_le _, Nat.zero_le _⟩
theorem build_State0 : buildV Try.prog y_api_State [] = some (.agg #[nilS, nilS, nilS, nilS]) := by kernel_rfl
section
variable {av bv nv fv : Value} {c c' : List Nat} {n n' : Int} {cv sv kv ev yv : Value}
theorem bldL_drop4 : (bldL av bv nv fv c n cv sv kv ev yv).drop 4 = splitLI c n ++ [cv, sv, kv, ev, yv] := by
  show autL c n cv sv ++ [kv, ev, yv] = _
  unfold autL
  rw [List.append_assoc]; rfl
theorem bldL_over4 (hc : c.length = 256) (hc' : c'.length = 256) : over (bldL av bv nv fv c n cv sv kv ev yv) 4 (splitLI c' n') = bldL av bv nv fv c' n' cv sv kv ev yv := by
  unfold over
  rw [← List.drop_drop, bldL_drop4, splitLI_len hc', show 257 = (splitLI c n).length from (splitLI_len hc).symm, List.drop_left]
  show [av, bv, nv, fv] ++ splitLI c' n' ++ [cv, sv, kv, ev, yv] = _
  unfold bldL autL
  simp
theorem store_split {h : T Obj} {bid : Nat} {e : TypeId} {f : Nat × Nat} (hc : c.length = 256) (hc' : c'.length = 256) (hg : h.get bid = some (.cells (bldL av bv nv fv c n cv sv kv ev yv).toArray e f)) : storeN 257 h (at_ bid 4 0) (splitI c' n') = some (h.upd bid (some (.cells (bldL av bv nv fv c' n' cv sv kv ev yv).toArray e f))) := by
  rw [storeN_own, splitI_cells, hg]
  have h1 := splitLI_len (n := n') hc'
  have h2 := bldL_len (av := av) (bv := bv) (nv := nv) (fv := fv) (n := n) (cv := cv) (sv := sv) (kv := kv) (ev := ev) (yv := yv) hc
  rw [if_pos (by rw [ts]; exact h1), putIn_cells (by rw [tl, ts, h1, h2]; omega) (by rw [tl]; exact splitLI_ok _ _)]
  rw [tl, tl, bldL_over4 hc hc']; rfl
theorem load_split {ro : Ro} {h : T Obj} {bid : Nat} {e : TypeId} {f : Nat × Nat} (hc : c.length = 256) (hg : h.get bid = some (.cells (bldL av bv nv fv c n cv sv kv ev yv).toArray e f)) : loadA ro h 257 (at_ bid 4 0) = some (splitI c n) := by
  rw [loadA_own, hg, cellsIn_some]
  simp only [Option.bind_some, tl]
  rw [if_pos (by rw [bldL_len hc]; omega), bldL_drop4, List.take_append_of_le_length (by rw [splitLI_len hc]; omega), List.take_of_length_le (by rw [splitLI_len hc]; omega)]
  rfl
theorem load_auto {ro : Ro} {h : T Obj} {bid : Nat} {e : TypeId} {f : Nat × Nat} (hc : c.length = 256) (hg : h.get bid = some (.cells (bldL av bv nv fv c n cv sv kv ev yv).toArray e f)) : loadA ro h 259 (at_ bid 4 0) = some (.agg (autL c n cv sv).toArray) := by
  rw [loadA_own, hg, cellsIn_some]
  simp only [Option.bind_some, tl]
  rw [if_pos (by rw [bldL_len hc]; omega)]
  have : (bldL av bv nv fv c n cv sv kv ev yv).drop 4 = autL c n cv sv ++ [kv, ev, yv] := rfl
  rw [this, List.take_append_of_le_length (by rw [autL_len hc]; omega), List.take_of_length_le (by rw [autL_len hc]; omega)]
end
theorem cnt_R {ro : Ro} {h : T Obj} {v : Value} {l : List (Int × Int)} {lo : Nat} (ho : OwnT h v 2 y_a2_int (cntC l) lo) : SlR ro h v 2 RCount l := ⟨cntC l, ho.sl, cntC_len l, fun i x d hx hd => by
  unfold cntC at hx
  rw [List.getElem?_map, hd] at hx
  exact (Option.some.inj hx).symm⟩
theorem first_lt {c : List Nat} {n : Int} : ∀ b ∈ firstZ c n, b < 256 := by
  intro b hb
  unfold firstZ at hb
  split at hb
  · cases hb
  · obtain ⟨k, _, rfl⟩ := List.mem_map.1 hb
    unfold lb
    cases hq : (List.range' 0 (256 - 0)).find? fun b => decide (c.getD b 0 = k) with
    | none => simp
    | some q =>
      have := List.mem_of_find?_eq_some hq
      simp [List.mem_range'] at this
      simp; omega
theorem first_len {c : List Nat} {n : Int} : (firstZ c n).length ≤ 256 := by
  unfold firstZ
  split
  · simp
  · rw [List.length_map, List.length_range]; omega
theorem first_R {ro : Ro} {h : T Obj} {v : Value} {l : List Nat} {lo : Nat} (ho : OwnT h v 1 y_uint8 (bytesC l) lo) (hl : ∀ b ∈ l, b < 256) : SlR ro h v 1 RU8 l := ⟨bytesC l, ho.sl, bytesC_len l, fun i x d hx hd => by
  unfold bytesC at hx
  rw [List.getElem?_map, hd] at hx
  exact ⟨(Option.some.inj hx).symm, hl d (List.mem_of_getElem? hd)⟩⟩
theorem Own.toT {h : T Obj} {v : Value} {z : Nat} {e : TypeId} {l : List (List Value)} {lo hi : Nat} (ho : Own h v z e l lo hi) : OwnT h v z e l lo := by
  rcases ho with ho | ⟨id, h1, h2, h3, h4, h5⟩
  · exact .inl ho
  · exact .inr ⟨id, h1, h3, h4, h5⟩
set_option maxRecDepth 8000 in
set_option maxHeartbeats 2000000 in
theorem auto_Of_c {ro : Ro} {v : Value} {g : GlD} {h : T Obj} {nx : Nat} {K : KV} (hf : Fr h nx) (hg : RG ro h v g)
    (hK : ∀ h' nx' x, nx ≤ nx' → Sub h h' → Fr h' nx' → RAuto ro h' x (ofZ g).2 → K (.tuple #[.agg x.toArray, .int .i64 (ofZ g).1]) h' nx') : callP Try.prog ro i_auto_Of [v] h nx K := by
  obtain ⟨a, b, rfl, ha, hb⟩ := hg
  apply auto_Of_of
  unfold auto_Of
  refine param_mk hf (Nat.le_refl _) fun h1 hs1 hf1 g1 _ => ?_
  have g1 : h1.get nx = some (.cells [a, b].toArray y_api_Glush) := g1
  refine bindP_mk zer_Auto (obj_mk hf1 (Nat.le_refl _) fun h2 hs2 hf2 g2 _ => ?_)
  have g2 : h2.get (nx + 1) = some (.cells autZ.toArray y_api_Auto) := g2
  have g1 := hs2 _ _ g1
  have hs := hs1.trans hs2
  refine bindP_mk (loadA_all (l := [a, b]) g1 rfl) ?_
  refine glush_Right_c (hf2.mono (show nx + 1 + 1 ≤ nx + 5 by omega)) ⟨a, b, rfl, ha.sub hs, hb.sub hs (RPos.sub hs)⟩ fun n7 hn7 => ?_
  cases hr : rightD g with
  | false =>
    have hz : ofZ g = (1, autD0) := by unfold ofZ; rw [hr]; rfl
    rw [hz] at hK
    (repeat (first | refine bindP_mk (by simp (disch := first | omega | exact Int.natCast_nonneg _ | assumption) only [BB, B2, ↓reduceIte, Nat.reduceLeDiff, Nat.reduceAdd, CC] <;> rfl) ?_ | refine newP_mk ?_ | refine optP_mk ?_ | with_reducible first | refine condP_t ?_ | refine condP_f ?_ | refine ifP_tt' ?_ | refine ifP_ff' ?_ | refine ifP_tf' ?_ | refine ifP_ft' ?_ | refine ifP_u' ?_ | refine optP_mk0 ?_))
    refine bindP_mk build_Auto0 ?_
    refine bindP_mk (storeA_own (l := autZ) (vs := autZ) g2 rfl autZ_len autZ_len autZ_ok) ?_
    refine bindP_mk (loadA_all (l := autZ) (by rw [T.get_upd_same]) autZ_len) ?_
    exact ⟨h, hs.new hf (by omega), hK h _ autZ (by omega) (Sub.refl _) (hf.mono (by omega)) autD0_R⟩
  | true =>
    have hz : ofZ g = if (allZ g (ofB g) 256 0 [noS]).1 = 0 then (0, ofD g (allZ g (ofB g) 256 0 [noS]).2) else ((allZ g (ofB g) 256 0 [noS]).1, autD0) := by unfold ofZ; rw [hr]; rfl
    obtain ⟨hgl, hfr, hmay⟩ := right_parts hr
    have hgs : (setsL g.p).length ≤ 1000000 := by unfold setsL; rw [List.length_map]; omega
    (repeat (first | refine bindP_mk (by simp (disch := first | omega | exact Int.natCast_nonneg _ | assumption) only [BB, B2, ↓reduceIte, Nat.reduceLeDiff, Nat.reduceAdd, CC] <;> rfl) ?_ | refine newP_mk ?_ | refine optP_mk ?_ | with_reducible first | refine condP_t ?_ | refine condP_f ?_ | refine ifP_tt' ?_ | refine ifP_ff' ?_ | refine ifP_tf' ?_ | refine ifP_ft' ?_ | refine ifP_u' ?_ | refine optP_mk0 ?_))
    refine bindP_mk (loadA_all (l := [a, b]) g1 rfl) ?_
    refine obj_mk hf2 (show nx + 1 + 1 ≤ n7 + 2 by omega) fun h3 hs3 hf3 g3 _ => ?_
    refine obj_mk hf3 (show n7 + 2 + 1 ≤ n7 + 3 by omega) fun h4 hs4 hf4 g4 _ => ?_
    refine obj_mk hf4 (show n7 + 3 + 1 ≤ n7 + 4 by omega) fun h5 hs5 hf5 g5 _ => ?_
    refine obj_mk hf5 (show n7 + 4 + 1 ≤ n7 + 5 by omega) fun h6 hs6 hf6 g6 _ => ?_
    refine bindP_mk (build_bld _ _ _ _ _ _) ?_
    refine param_mk hf6 (show n7 + 5 + 1 ≤ n7 + 7 by omega) fun h7 hs7 hf7 g7 _ => ?_
    have g7 : h7.get (n7 + 7) = some (.cells (bldL a b (.map (some (n7 + 2))) nilS (List.replicate 256 0) 0 nilS nilS (.map (some (n7 + 3))) (.map (some (n7 + 4))) (.map (some (n7 + 5)))).toArray y_auto_builder) := g7
    have g3 := hs7 _ _ (hs6 _ _ (hs5 _ _ (hs4 _ _ g3)))
    have g4 := hs7 _ _ (hs6 _ _ (hs5 _ _ g4))
    have g5 := hs7 _ _ (hs6 _ _ g5)
    have g6 := hs7 _ _ g6
    have hs27 := (((hs3.trans hs4).trans hs5).trans hs6).trans hs7
    have g1 := hs27 _ _ g1
    have g2 := hs27 _ _ g2
    have hs := hs.trans hs27
    have hbl := (hb.sub hs (RPos.sub hs)).len
    have e1 : ([a, b] : List Value)[1]? = some b := rfl
    (repeat (first | refine bindP_mk (by simp (disch := first | omega | exact Int.natCast_nonneg _ | assumption) only [BB, B2, ↓reduceIte, Nat.reduceLeDiff, Nat.reduceAdd, CC, g1, e1, hbl] <;> rfl) ?_ | refine newP_mk ?_ | refine optP_mk ?_ | with_reducible first | refine condP_t ?_ | refine condP_f ?_ | refine ifP_tt' ?_ | refine ifP_ff' ?_ | refine ifP_tf' ?_ | refine ifP_ft' ?_ | refine ifP_u' ?_ | refine optP_mk0 ?_))
    refine Of_L3_c (gid := nx) (rid := nx + 1) (kid := n7 + 3) (eid := n7 + 4) (yid := n7 + 5) hr (hf7.mono (show n7 + 7 + 1 ≤ n7 + 14 by omega)) (hb.sub (hs.delN hf (by simp; omega)) (RPos.sub (hs.delN hf (by simp; omega)))) g7 g3 ?_ ?_ ?_ ?_ ?_ ?_ ?_ ?_
    · rfl
    · rfl
    · rfl
    · rfl
    · rfl
    · rfl
    · rfl
    intro e' h8 n8 sv cv fn hn8 hf8 hk8 g8 hm8 hno8 hsv hcv f2 f4 f5
    refine exP_e (beqP_t ?_)
    unfold auto_Of_j1
    rw [f4, f5]
    refine split_Of_c hgs (hf8.mono (show n8 ≤ n8 + 3 by omega)) hsv.sl fun n9 hn9 => ?_
    have hc := cls_length (setsL g.p)
    have hcb := cls_bound (l := setsL g.p)
    rw [splitI_nat]
    (repeat (first | refine bindP_mk (by simp (disch := first | omega | exact Int.natCast_nonneg _ | assumption) only [BB, B2, ↓reduceIte, Nat.reduceLeDiff, Nat.reduceAdd, CC, nilCk_at] <;> rfl) ?_ | refine newP_mk ?_ | refine optP_mk ?_ | with_reducible first | refine condP_t ?_ | refine condP_f ?_ | refine ifP_tt' ?_ | refine ifP_ff' ?_ | refine ifP_tf' ?_ | refine ifP_ft' ?_ | refine ifP_u' ?_ | refine optP_mk0 ?_))
    refine bindP_mk (store_split List.length_replicate hc g8) ?_
    have hf9 : Fr (h8.upd (n7 + 7) (some (.cells (bldL a b (.map (some (n7 + 2))) nilS (cls (setsL g.p)) (many (setsL g.p) : Int) cv nilS (.map (some (n7 + 3))) (.map (some (n7 + 4))) (.map (some (n7 + 5)))).toArray y_auto_builder))) n8 := hf8.upd (Nat.le_refl _) (by omega)
    have g9 : (h8.upd (n7 + 7) (some (.cells (bldL a b (.map (some (n7 + 2))) nilS (cls (setsL g.p)) (many (setsL g.p) : Int) cv nilS (.map (some (n7 + 3))) (.map (some (n7 + 4))) (.map (some (n7 + 5)))).toArray y_auto_builder))).get (n7 + 7) = _ := T.get_upd_same _ _ _
    have hk9 : Keep [n7 + 7, n7 + 2] h7 (h8.upd (n7 + 7) (some (.cells (bldL a b (.map (some (n7 + 2))) nilS (cls (setsL g.p)) (many (setsL g.p) : Int) cv nilS (.map (some (n7 + 3))) (.map (some (n7 + 4))) (.map (some (n7 + 5)))).toArray y_auto_builder))) := hk8.upd (by simp)
    have hm9 : MapG injI (h8.upd (n7 + 7) (some (.cells (bldL a b (.map (some (n7 + 2))) nilS (cls (setsL g.p)) (many (setsL g.p) : Int) cv nilS (.map (some (n7 + 3))) (.map (some (n7 + 4))) (.map (some (n7 + 5)))).toArray y_auto_builder))) (n7 + 2) fn := hm8.keep (T.get_upd_ne _ _ (by omega))
    have hcv9 : OwnT (h8.upd (n7 + 7) (some (.cells (bldL a b (.map (some (n7 + 2))) nilS (cls (setsL g.p)) (many (setsL g.p) : Int) cv nilS (.map (some (n7 + 3))) (.map (some (n7 + 4))) (.map (some (n7 + 5)))).toArray y_auto_builder))) cv 2 y_a2_int (cntC (cntsL g.p)) (n7 + 14) := hcv.updNe g8 (by decide)
    generalize h8.upd (n7 + 7) (some (.cells (bldL a b (.map (some (n7 + 2))) nilS (cls (setsL g.p)) (many (setsL g.p) : Int) cv nilS (.map (some (n7 + 3))) (.map (some (n7 + 4))) (.map (some (n7 + 5)))).toArray y_auto_builder)) = h9 at hf9 g9 hk9 hm9 hcv9
    (repeat (first | refine bindP_mk (by simp (disch := first | omega | exact Int.natCast_nonneg _ | assumption) only [BB, B2, ↓reduceIte, Nat.reduceLeDiff, Nat.reduceAdd, CC, nilCk_at] <;> rfl) ?_ | refine newP_mk ?_ | refine optP_mk ?_ | with_reducible first | refine condP_t ?_ | refine condP_f ?_ | refine ifP_tt' ?_ | refine ifP_ff' ?_ | refine ifP_tf' ?_ | refine ifP_ft' ?_ | refine ifP_u' ?_ | refine optP_mk0 ?_))
    refine bindP_mk (load_split hc g9) ?_
    refine split_First_c hc hcb (hf9.mono (show n8 ≤ n9 + 11 by omega)) fun r h10 n10 hn10 hs10 hf10 hr10 => ?_
    have hr10 := hr10.toT
    have hrok := hr10.ok
    have g10 := hs10 _ _ g9
    (repeat (first | refine bindP_mk (by simp (disch := first | omega | exact Int.natCast_nonneg _ | assumption) only [BB, B2, ↓reduceIte, Nat.reduceLeDiff, Nat.reduceAdd, CC, nilCk_at] <;> rfl) ?_ | refine newP_mk ?_ | refine optP_mk ?_ | with_reducible first | refine condP_t ?_ | refine condP_f ?_ | refine ifP_tt' ?_ | refine ifP_ff' ?_ | refine ifP_tf' ?_ | refine ifP_ft' ?_ | refine ifP_u' ?_ | refine optP_mk0 ?_))
    refine bindP_mk (store1_own (l := bldL a b (.map (some (n7 + 2))) nilS (cls (setsL g.p)) (many (setsL g.p) : Int) cv nilS (.map (some (n7 + 3))) (.map (some (n7 + 4))) (.map (some (n7 + 5)))) g10 (by rw [bldL_len hc]; omega) hrok (cells_of_ok hrok)) ?_
    rw [bldL_set3]
    refine bindP_mk build_State0 (bindP_mk (lit_State _ _ _ _ _) (optP_mk ?_))
    have hbd := hf10.lt' g10
    -- memory as the states' loop finds it
    have hf11 : Fr ((h10.upd (n7 + 7) (some (.cells (bldL a b (.map (some (n7 + 2))) r (cls (setsL g.p)) (many (setsL g.p) : Int) cv nilS (.map (some (n7 + 3))) (.map (some (n7 + 4))) (.map (some (n7 + 5)))).toArray y_auto_builder))).upd (n10 + 5) (some (.cells [nilS, nilS, nilS, nilS].toArray y_api_State))) (n10 + 6) := ((hf10.mono (show n10 ≤ n10 + 6 by omega)).upd (Nat.le_refl _) (by omega)).upd (Nat.le_refl _) (by omega)
    have g11 : ((h10.upd (n7 + 7) (some (.cells (bldL a b (.map (some (n7 + 2))) r (cls (setsL g.p)) (many (setsL g.p) : Int) cv nilS (.map (some (n7 + 3))) (.map (some (n7 + 4))) (.map (some (n7 + 5)))).toArray y_auto_builder))).upd (n10 + 5) (some (.cells [nilS, nilS, nilS, nilS].toArray y_api_State))).get (n7 + 7) = _ := (T.get_upd_ne _ _ (by omega)).trans (T.get_upd_same _ _ _)
    have gs11 : ((h10.upd (n7 + 7) (some (.cells (bldL a b (.map (some (n7 + 2))) r (cls (setsL g.p)) (many (setsL g.p) : Int) cv nilS (.map (some (n7 + 3))) (.map (some (n7 + 4))) (.map (some (n7 + 5)))).toArray y_auto_builder))).upd (n10 + 5) (some (.cells [nilS, nilS, nilS, nilS].toArray y_api_State))).get (n10 + 5) = _ := T.get_upd_same _ _ _
    have hk11 : Keep [n7 + 7, n7 + 2] h7 ((h10.upd (n7 + 7) (some (.cells (bldL a b (.map (some (n7 + 2))) r (cls (setsL g.p)) (many (setsL g.p) : Int) cv nilS (.map (some (n7 + 3))) (.map (some (n7 + 4))) (.map (some (n7 + 5)))).toArray y_auto_builder))).upd (n10 + 5) (some (.cells [nilS, nilS, nilS, nilS].toArray y_api_State))) := (((hk9.trans hs10.keepL).upd (by simp))).updN hf7 (by omega)
    have hm11 : MapG injI ((h10.upd (n7 + 7) (some (.cells (bldL a b (.map (some (n7 + 2))) r (cls (setsL g.p)) (many (setsL g.p) : Int) cv nilS (.map (some (n7 + 3))) (.map (some (n7 + 4))) (.map (some (n7 + 5)))).toArray y_auto_builder))).upd (n10 + 5) (some (.cells [nilS, nilS, nilS, nilS].toArray y_api_State))) (n7 + 2) fn := (hm9.sub hs10).keep (by rw [T.get_upd_ne _ _ (by omega), T.get_upd_ne _ _ (by omega)])
    have hcv11 : OwnT ((h10.upd (n7 + 7) (some (.cells (bldL a b (.map (some (n7 + 2))) r (cls (setsL g.p)) (many (setsL g.p) : Int) cv nilS (.map (some (n7 + 3))) (.map (some (n7 + 4))) (.map (some (n7 + 5)))).toArray y_auto_builder))).upd (n10 + 5) (some (.cells [nilS, nilS, nilS, nilS].toArray y_api_State))) cv 2 y_a2_int (cntC (cntsL g.p)) (n7 + 14) := ((hcv9.keepS hs10).updNe g10 (by decide)).keepS ((Sub.refl _).upd (by rw [T.get_upd_ne _ _ (by omega)]; exact hf10 _ (by omega)))
    have hr11 : OwnT ((h10.upd (n7 + 7) (some (.cells (bldL a b (.map (some (n7 + 2))) r (cls (setsL g.p)) (many (setsL g.p) : Int) cv nilS (.map (some (n7 + 3))) (.map (some (n7 + 4))) (.map (some (n7 + 5)))).toArray y_auto_builder))).upd (n10 + 5) (some (.cells [nilS, nilS, nilS, nilS].toArray y_api_State))) r 1 y_uint8 (bytesC (ofB g)) (n9 + 11) := (hr10.updNe g10 (by decide)).keepS ((Sub.refl _).upd (by rw [T.get_upd_ne _ _ (by omega)]; exact hf10 _ (by omega)))
    generalize (h10.upd (n7 + 7) (some (.cells (bldL a b (.map (some (n7 + 2))) r (cls (setsL g.p)) (many (setsL g.p) : Int) cv nilS (.map (some (n7 + 3))) (.map (some (n7 + 4))) (.map (some (n7 + 5)))).toArray y_auto_builder))).upd (n10 + 5) (some (.cells [nilS, nilS, nilS, nilS].toArray y_api_State)) = h11 at hf11 g11 gs11 hk11 hm11 hcv11 hr11
    (repeat (first | refine bindP_mk (by simp (disch := first | omega | exact Int.natCast_nonneg _ | assumption) only [BB, B2, ↓reduceIte, Nat.reduceLeDiff, Nat.reduceAdd, CC, nilCk_at] <;> rfl) ?_ | refine newP_mk ?_ | refine optP_mk ?_ | with_reducible first | refine condP_t ?_ | refine condP_f ?_ | refine ifP_tt' ?_ | refine ifP_ff' ?_ | refine ifP_tf' ?_ | refine ifP_ft' ?_ | refine ifP_u' ?_ | refine optP_mk0 ?_))
    refine bindP_mk (store1_own (l := bldL a b (.map (some (n7 + 2))) r (cls (setsL g.p)) (many (setsL g.p) : Int) cv nilS (.map (some (n7 + 3))) (.map (some (n7 + 4))) (.map (some (n7 + 5)))) g11 (by rw [bldL_len hc]; omega) rfl rfl) ?_
    rw [bldL_set262 hc]
    have hf12 : Fr (h11.upd (n7 + 7) (some (.cells (bldL a b (.map (some (n7 + 2))) r (cls (setsL g.p)) (many (setsL g.p) : Int) cv (.slice (some (own (n10 + 5) 4)) 1 1) (.map (some (n7 + 3))) (.map (some (n7 + 4))) (.map (some (n7 + 5)))).toArray y_auto_builder))) (n10 + 6) := hf11.upd (Nat.le_refl _) (by omega)
    have g12 : (h11.upd (n7 + 7) (some (.cells (bldL a b (.map (some (n7 + 2))) r (cls (setsL g.p)) (many (setsL g.p) : Int) cv (.slice (some (own (n10 + 5) 4)) 1 1) (.map (some (n7 + 3))) (.map (some (n7 + 4))) (.map (some (n7 + 5)))).toArray y_auto_builder))).get (n7 + 7) = _ := T.get_upd_same _ _ _
    have gs12 : (h11.upd (n7 + 7) (some (.cells (bldL a b (.map (some (n7 + 2))) r (cls (setsL g.p)) (many (setsL g.p) : Int) cv (.slice (some (own (n10 + 5) 4)) 1 1) (.map (some (n7 + 3))) (.map (some (n7 + 4))) (.map (some (n7 + 5)))).toArray y_auto_builder))).get (n10 + 5) = _ := (T.get_upd_ne _ _ (by omega)).trans gs11
    have hk12 : Keep [n7 + 7, n7 + 2] h7 (h11.upd (n7 + 7) (some (.cells (bldL a b (.map (some (n7 + 2))) r (cls (setsL g.p)) (many (setsL g.p) : Int) cv (.slice (some (own (n10 + 5) 4)) 1 1) (.map (some (n7 + 3))) (.map (some (n7 + 4))) (.map (some (n7 + 5)))).toArray y_auto_builder))) := hk11.upd (by simp)
    have hm12 : MapG injI (h11.upd (n7 + 7) (some (.cells (bldL a b (.map (some (n7 + 2))) r (cls (setsL g.p)) (many (setsL g.p) : Int) cv (.slice (some (own (n10 + 5) 4)) 1 1) (.map (some (n7 + 3))) (.map (some (n7 + 4))) (.map (some (n7 + 5)))).toArray y_auto_builder))) (n7 + 2) fn := hm11.keep (T.get_upd_ne _ _ (by omega))
    have hcv12 : OwnT (h11.upd (n7 + 7) (some (.cells (bldL a b (.map (some (n7 + 2))) r (cls (setsL g.p)) (many (setsL g.p) : Int) cv (.slice (some (own (n10 + 5) 4)) 1 1) (.map (some (n7 + 3))) (.map (some (n7 + 4))) (.map (some (n7 + 5)))).toArray y_auto_builder))) cv 2 y_a2_int (cntC (cntsL g.p)) (n7 + 14) := hcv11.updNe g11 (by decide)
    have hr12 : OwnT (h11.upd (n7 + 7) (some (.cells (bldL a b (.map (some (n7 + 2))) r (cls (setsL g.p)) (many (setsL g.p) : Int) cv (.slice (some (own (n10 + 5) 4)) 1 1) (.map (some (n7 + 3))) (.map (some (n7 + 4))) (.map (some (n7 + 5)))).toArray y_auto_builder))) r 1 y_uint8 (bytesC (ofB g)) (n9 + 11) := hr11.updNe g11 (by decide)
    generalize h11.upd (n7 + 7) (some (.cells (bldL a b (.map (some (n7 + 2))) r (cls (setsL g.p)) (many (setsL g.p) : Int) cv (.slice (some (own (n10 + 5) 4)) 1 1) (.map (some (n7 + 3))) (.map (some (n7 + 4))) (.map (some (n7 + 5)))).toArray y_auto_builder)) = h12 at hf12 g12 gs12 hk12 hm12 hcv12 hr12
    have k4 := hk12 _ _ g4 (by simp)
    have k5 := hk12 _ _ g5 (by simp)
    have k6 := hk12 _ _ g6 (by simp)
    have k2 := hk12 _ _ g2 (by simp; omega)
    have hs12 : Sub h h12 := fun i o hi => hk12 i o (hs _ _ hi) (by have := hf.lt' hi; simp; omega)
    have hB12 : Bd h12 g (n7 + 7) (n7 + 2) (n7 + 3) (n7 + 4) (n7 + 5) (n10 + 5) a b r (cls (setsL g.p)) (many (setsL g.p) : Int) cv [noS] [[nilS, nilS, nilS, nilS]] :=
      ⟨hc, g12, ⟨fn, hm12, hno8⟩, ⟨_, MapG.new k4, fun l hl _ => by
        have : isL l noS = false := decide_eq_false fun e => hl e.symm
        simp [List.findIdx?_cons, this]⟩, gs12, fun x hx => by simp at hx; rw [hx]; rfl, rfl, by simp, by simp, by omega⟩
    have hge : ∀ i ∈ [nx + 1, n7 + 7, n7 + 3, n7 + 4, n7 + 5, n10 + 5], nx ≤ i := by
      intro i hi
      simp only [List.mem_cons, List.not_mem_nil, or_false] at hi
      omega
    have hsd : Sub h (del h12 [nx + 1, n7 + 7, n7 + 3, n7 + 4, n7 + 5, n10 + 5]) := hs12.delN hf hge
    have hnot : ∀ {v : Value} {z lo : Nat} {e : TypeId} {l : List (List Value)}, e ≠ y_auto_builder → e ≠ y_api_State → e ≠ y_api_Auto → OwnT h12 v z e l lo → OwnT (del h12 [nx + 1, n7 + 7, n7 + 3, n7 + 4, n7 + 5, n10 + 5]) v z e l lo := fun he1 he2 he3 ho => ho.del fun id hid => by
      obtain ⟨_, z⟩ := ho.blk hid
      simp only [List.mem_cons, List.not_mem_nil, or_false, not_or]
      refine ⟨?_, ?_, ?_, ?_, ?_, ?_⟩ <;> rintro rfl
      · rw [z] at k2
        simp only [Option.some.injEq, Obj.cells.injEq] at k2
        exact he3 k2.2.1
      · rw [z] at g12
        simp only [Option.some.injEq, Obj.cells.injEq] at g12
        exact he1 g12.2.1
      · rw [z] at k4; cases k4
      · rw [z] at k5; cases k5
      · rw [z] at k6; cases k6
      · rw [z] at gs12
        simp only [Option.some.injEq, Obj.cells.injEq] at gs12
        exact he2 gs12.2.1
    have hcvd := hnot (by decide) (by decide) (by decide) hcv12
    refine Of_L1_c (hb := del h12 [nx + 1, n7 + 7, n7 + 3, n7 + 4, n7 + 5, n10 + 5]) (B := ofB g) (rid := nx + 1) hr first_len (by omega) (by omega) (by omega) (by omega) (by omega) (hb.sub hsd (RPos.sub hsd)) (ha.sub hsd) (first_R (hnot (by decide) (by decide) (by decide) hr12) first_lt) (hf12.mono (show n10 + 6 ≤ n10 + 11 by omega)) k2 hB12 (BMap.new k5) (BMap.new k6) (Sub.refl _) ⟨fun i x t hx ht => ?_, fun i x t hi hx ht => ?_⟩ (fun s hs => ?_) ?_ ?_ ?_ ?_ ?_
    · cases i with
      | succ i => simp at hx
      | zero =>
        simp at hx ht
        subst hx; subst ht
        exact ⟨nilS, nilS, nilS, nilS, rfl, Sl.nil, Sl.nil, Sl.nil, SlR.nil, Nat.zero_le _⟩
    · cases i with
      | succ i => simp at hx
      | zero =>
        simp at hx ht
        subst hx; subst ht
        exact ⟨⟨nilS, nilS, rfl⟩, rfl, rfl⟩
    · simp at hs; subst hs
      exact ⟨rfl, rfl, Nat.zero_le _⟩
    · exact f2
    · exact f4
    · rfl
    · intro hz9 e9 h13 n13 p1 p2 p3 p4 p5 p6
      rw [if_neg hz9] at hz
      rw [hz] at hK
      refine exP_r ?_
      rw [p5, p6]
      refine bindP_mk (loadA_all (l := autZ) p4 autZ_len) ?_
      exact ⟨h, hsd.trans p3, hK h _ autZ (by omega) (Sub.refl _) (hf.mono (by omega)) autD0_R⟩
    · intro hz9 e9 h13 n13 sid' cs' p1 p2 p3 p4 p5 p6 p7 p8 p9
      rw [if_pos hz9] at hz
      rw [hz] at hK
      refine exP_e (beqP_t ?_)
      unfold auto_Of_j2
      rw [p8, p9]
      have hb13 := p5.blk
      (repeat (first | refine bindP_mk (by simp (disch := first | omega | exact Int.natCast_nonneg _ | assumption) only [BB, B2, ↓reduceIte, Nat.reduceLeDiff, Nat.reduceAdd, CC, nilCk_at] <;> rfl) ?_ | refine newP_mk ?_ | refine optP_mk ?_ | with_reducible first | refine condP_t ?_ | refine condP_f ?_ | refine ifP_tt' ?_ | refine ifP_ff' ?_ | refine ifP_tf' ?_ | refine ifP_ft' ?_ | refine ifP_u' ?_ | refine optP_mk0 ?_))
      refine bindP_mk (load_auto hc hb13) ?_
      have hsvok : cellOk (.slice (some (own sid' 4)) cs'.length cs'.length) = true := rfl
      have hcvok := hcv12.ok
      refine bindP_mk (storeA_own (l := autZ) (vs := autL (cls (setsL g.p)) (many (setsL g.p) : Int) cv (.slice (some (own sid' 4)) cs'.length cs'.length)) p3 rfl (autL_len hc) autZ_len (autL_ok hcvok rfl)) ?_
      refine bindP_mk (loadA_all (l := autL (cls (setsL g.p)) (many (setsL g.p) : Int) cv (.slice (some (own sid' 4)) cs'.length cs'.length)) (by rw [T.get_upd_same]) (autL_len hc)) ?_
      refine ⟨_, Sub.refl _, ?_⟩
      have hfin : Sub (del h13 [nx + 1, n7 + 7, n7 + 3, n7 + 4, n7 + 5, sid']) (h13.upd (nx + 1) (some (.cells (autL (cls (setsL g.p)) (many (setsL g.p) : Int) cv (.slice (some (own sid' 4)) cs'.length cs'.length)).toArray y_api_Auto))) := fun i o hi => by
        rw [del_get] at hi
        split at hi
        · cases hi
        · rename_i hn
          rw [T.get_upd_ne _ _ (by rintro rfl; exact hn (by simp))]; exact hi
      have hrs : sid' ≠ nx + 1 := by
        rintro rfl
        have := p5.row
        rw [p3] at this
        simp only [Option.some.injEq, Obj.cells.injEq] at this
        exact absurd this.2.1 (by decide)
      refine hK _ _ _ (by omega) ((hsd.trans p4).trans hfin) ((p2.mono (show n13 ≤ n13 + 6 by omega)).upd (Nat.le_refl _) (by omega)) ⟨cv, _, rfl, hc, hcb, ?_, ⟨cs', ?_, p5.len, fun i x t hx ht => RState.sub hfin _ _ (p6 i x t hx ht)⟩, ?_, ?_⟩
      · exact cnt_R ((hcvd.keepS p4).keepS hfin)
      · refine OwnT.sl (h := h13.upd (nx + 1) _) (lo := 0) (e := y_api_State) (.inr ⟨sid', Nat.zero_le _, rfl, p5.z4, ?_⟩)
        rw [T.get_upd_ne _ _ hrs]; exact p5.row
      · have := cntsL_len g.p
        show (cntsL g.p).length ≤ maxB
        unfold maxB; omega
      · have := p5.few
        show (allZ g (ofB g) 256 0 [noS]).2.length ≤ maxB
        unfold maxB; omega
end V
end Go.Proofs.Ytmmdcdjkmakgpaa
