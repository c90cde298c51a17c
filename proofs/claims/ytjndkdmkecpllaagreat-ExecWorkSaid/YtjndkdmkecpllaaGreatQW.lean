/- Texts laid one behind the other: XX, XY, XZ, YA, XT, GP, YC, XO, GL, YD, GS, YE, GW, YG, LWork.
   No condition. -/
import Derived.KernelRfl
import Derived.Test.YtjndkdmkecpllaaGreatQW5
set_option linter.unusedVariables false
set_option linter.unusedSimpArgs false
set_option linter.unusedVariables false
set_option linter.unusedSimpArgs false
namespace Go.Proofs.YtjndkdmkecpllaaGreat
namespace V
attribute [local irreducible] bindP ifP condP newP optP exP beqP
theorem und_ssM : und Tryz.prog y_s_s_api_Move = some (.slice y_s_api_Move) := by kernel_rfl
theorem tin_sM : ∃ i, tin Tryz.prog y_s_api_Move = some i ∧ i.size = 1 ∧ i.bytes = 24 := tinOf (by kernel_rfl)
theorem zer_sM : zer Tryz.prog y_s_api_Move = some (.slice none 0 0) := by kernel_rfl
theorem lit_sM (aid : Nat) (a : Option Addr) (n c : Nat) : sliceLitV Tryz.prog y_s_s_api_Move aid 1 [(0, .slice a n c)] = some (.slice (some (own aid 1)) 1 1, some (.cells [Value.slice a n c].toArray y_s_api_Move)) := by kernel_rfl
def wsC (ws : List Value) : List (List Value) := ws.map fun w => [w]
theorem wsC_len (ws : List Value) : (wsC ws).length = ws.length := by simp [wsC]
theorem row_ok {ro : Ro} {h : T Obj} {w : Value} {row : List MoveD} (hr : SlR ro h w 2 (RMove ro h) row) : ∃ cs, Sl ro h w 2 cs ∧ cs.length = row.length ∧ cs.flatten.all cellOk = true ∧ (∀ x ∈ cs, x.length = 2) ∧ ∀ (i : Nat) x m, cs[i]? = some x → row[i]? = some m → RMove ro h x m := by
  obtain ⟨cs, h1, h2, h3⟩ := hr
  refine ⟨cs, h1, h2, ?_, ?_, h3⟩
  · rw [List.all_eq_true]
    intro x hx
    obtain ⟨y, hy, hxy⟩ := List.mem_flatten.1 hx
    obtain ⟨i, hi⟩ := List.getElem?_of_mem hy
    have hlt := (List.getElem?_eq_some_iff.1 hi).1
    obtain ⟨ov, rfl, hov, _⟩ := h3 i _ _ hi (List.getElem?_eq_getElem (by omega))
    simp at hxy
    rcases hxy with rfl | rfl
    · rfl
    · exact SlR.okC hov
  · intro y hy
    obtain ⟨i, hi⟩ := List.getElem?_of_mem hy
    have hlt := (List.getElem?_eq_some_iff.1 hi).1
    obtain ⟨ov, rfl, _⟩ := h3 i _ _ hi (List.getElem?_eq_getElem (by omega))
    rfl
section
variable {ro : Ro} {h : T Obj} {nx nA : Nat} {X : List Nat} {Q : KE} {e : Env}
set_option maxRecDepth 8000 in
set_option maxHeartbeats 1000000 in
theorem cp_L2 {tid : Nat} {nvs R' U' : Value} {rows : List (List MoveD)} {w2 w3 w19 w20 w21 : Value} (e2 : e 2 = w2) (e3 : e 3 = w3) (e6 : e 6 = ptr tid) (e19 : e 19 = w19) (e20 : e 20 = w20) (e21 : e 21 = w21) (e33 : e 33 = nvs) (e34 : e 34 = .int .i64 rows.length) (e35 : e 35 = .int .i64 0)
    (hg : h.get tid = some (.cells [nilS, R', U', nilS].toArray y_api_State)) (hlen : rows.length ≤ 1000000) (hsrc : SlR ro (del h [tid]) nvs 1 (RRow ro (del h [tid])) rows) (hrow : ∀ row ∈ rows, row ≠ [] ∧ row.length ≤ 1000000 ∧ ∀ m ∈ row, m.ops.length ≤ 1000000)
    (hf : Fr h nx) (hX : ∀ k ∈ X, k < nA) (htid : nA ≤ tid) (hnA : nA ≤ nx)
    (hQ : ∀ (e' : Env) h' n' nv, e' 2 = w2 → e' 3 = w3 → e' 6 = ptr tid → e' 19 = w19 → e' 20 = w20 → e' 21 = w21 → nx ≤ n' → Fr h' n' → Keep [tid] h h' → h'.get tid = some (.cells [nilS, R', U', nv].toArray y_api_State) →
      SlR ro (del h' (tid :: X)) nv 1 (RRow ro (del h' (tid :: X))) rows → Q (.exit 2) e' h' n') : loopP (exec_copied_L2 ro) e h nx Q := by
  have hlt := hf.lt' hg
  refine loopP_rule (fun j e h' nx' => ∃ (k : Nat) (ws : List Value) (nv : Value), k + j = rows.length ∧ nx ≤ nx' ∧ e 2 = w2 ∧ e 3 = w3 ∧ e 6 = ptr tid ∧ e 19 = w19 ∧ e 20 = w20 ∧ e 21 = w21 ∧ e 33 = nvs ∧ e 34 = .int .i64 rows.length ∧ e 35 = .int .i64 k ∧
    h'.get tid = some (.cells [nilS, R', U', nv].toArray y_api_State) ∧ OwnT h' nv 1 y_s_api_Move (wsC ws) nx ∧ ws.length = k ∧ (∀ (i : Nat) w row, ws[i]? = some w → rows[i]? = some row → RRow ro (del h' (tid :: (blkL nv ++ X))) [w] row) ∧ Keep [tid] h h' ∧ Fr h' nx') ?_ (n := rows.length)
    ⟨0, [], nilS, by omega, by omega, e2, e3, e6, e19, e20, e21, e33, e34, e35, hg, OwnT.nil, rfl, fun i w row hw => by simp at hw, (Sub.refl h).keepL, hf⟩
  rintro j e h' nx' ⟨k, ws, nv, hj, hnx, e2, e3, e6, e19, e20, e21, e33, e34, e35, hg', ho', hwl, hfa, hk', hf'⟩ Q' hq hx
  unfold exec_copied_L2
  rw [e33, e34, e35]
  refine lss_s (fun hk => ?_) (fun hk => ?_)
  · have hk : k < rows.length := by omega
    have hD : Sub (del h [tid]) h' := hk'.delS fun k h => h
    have hs' := hsrc.sub hD (RRow.sub hD)
    have hix := hs'.ix .i64 hk
    obtain ⟨w0, ⟨w0', hw1, hw2, hw3⟩, hld⟩ := hs'.at1 hk
    simp only [List.cons.injEq, and_true] at hw1
    subst hw1
    have hrk : rows[k]? = some rows[k] := List.getElem?_eq_getElem _
    obtain ⟨b1, b2, b3⟩ := hrow _ (List.getElem_mem hk)
    generalize rows[k] = row at hw2 hw3 hrk b1 b2 b3
    obtain ⟨cs, c1, c2, c3, c4, c5⟩ := row_ok hw2
    (repeat (first | refine bindP_mk (by simp (disch := first | omega | exact Int.natCast_nonneg _ | assumption) only [BB, B2, ↓reduceIte, Nat.reduceLeDiff, Nat.reduceAdd, CC] <;> rfl) ?_ | refine newP_mk ?_ | refine optP_mk ?_ | with_reducible first | refine condP_t ?_ | refine condP_f ?_ | refine ifP_tt' ?_ | refine ifP_ff' ?_ | refine ifP_tf' ?_ | refine ifP_ft' ?_ | refine ifP_u' ?_ | refine optP_mk0 ?_))
    refine bindP_mk hix (bindP_mk hld ?_)
    refine clone_move_c c1 c3 (by omega) (hf'.mono (by omega)) fun r h1 n1 hn1 hf1 hs1 ho1 => ?_
    have hlnr := (ho1.sl (ro := ro)).len
    rw [c2] at hlnr
    rcases ho1 with ⟨_, hnil⟩ | ⟨mid, hmid, rfl, hz1, hg1⟩
    · exact absurd (List.length_eq_zero_iff.1 (by rw [← c2, hnil]; rfl)) b1
    rw [c2]
    refine bindP_mk rfl ?_
    have hmlt := hf1.lt' hg1
    have hs1m : Sub h' (del h1 [mid]) := hs1.delN hf' fun i hi => by simp at hi; omega
    refine cp_L3 (ro := ro) (mid := mid) (row := row) (mcs0 := cs) (nA := nx' + 6) (X := tid :: (blkL nv ++ X)) e2 e3 e6 e19 e20 e21 e33 e34 e35 rfl rfl rfl rfl hg1 c2 hz1 b2 (fun i x m hxi hmi => ?_) (hf1.mono (by omega)) (fun k hk => ?_) hmid (by omega) ?_
    · obtain ⟨ov, rfl, hov, _⟩ := c5 i x m hxi hmi
      exact ⟨ov, rfl, hov.sub hs1m fun _ _ h => h, b3 m (List.mem_of_getElem? hmi)⟩
    · rcases List.mem_cons.1 hk with rfl | hk
      · have := hf'.lt' hg'; omega
      · rcases List.mem_append.1 hk with hk | hk
        · have h9 := (ho'.blk (mem_blkL.1 hk)).2
          have := hf'.lt' h9; omega
        · have := hX k hk; omega
    · intro e4 h2 n2 f2 f3 f6 f9 f19 f20 f21 f33 f34 f35 hn2 hf2 hk2 hrw
      -- behind the row: it is put behind the others
      have hs2 : Sub h' h2 := fun k o hk => hk2 k o (hs1 k o hk) fun hm => by have := hf'.lt' hk; simp at hm; omega
      have hg2 := hs2 _ _ hg'
      have ho2 := ho'.keepS hs2
      have hj5 : ∀ (e5 : Env) n3, e5 2 = w2 → e5 3 = w3 → e5 6 = ptr tid → e5 9 = .slice (some (own mid 2)) row.length row.length → e5 19 = w19 → e5 20 = w20 → e5 21 = w21 → e5 33 = nvs → e5 34 = .int .i64 rows.length → e5 35 = .int .i64 k → n2 ≤ n3 → exec_copied_j5 ro Q' e5 h2 n3 := by
        intro e5 n3 u2 u3 u6 u9 u19 u20 u21 u33 u34 u35 hn3
        unfold exec_copied_j5
        rw [u6, u9]
        (repeat (first | refine bindP_mk (by simp (disch := first | omega | exact Int.natCast_nonneg _ | assumption) only [BB, B2, ↓reduceIte, Nat.reduceLeDiff, Nat.reduceAdd, CC] <;> rfl) ?_ | refine newP_mk ?_ | refine optP_mk ?_ | with_reducible first | refine condP_t ?_ | refine condP_f ?_ | refine ifP_tt' ?_ | refine ifP_ff' ?_ | refine ifP_tf' ?_ | refine ifP_ft' ?_ | refine ifP_u' ?_ | refine optP_mk0 ?_))
        refine bindP_mk (load1_get (l := [nilS, R', U', nv]) hg2 rfl) ?_
        obtain ⟨i, t1, t2, t3⟩ := tin_sM
        have hn1lt : sblk nv ≠ some (n3 + 3) := fun e => by
          have h9 := (ho2.blk e).2
          have := hf2.lt' h9; omega
        refine app_at (z := 1) (l := wsC ws) (y := [.slice (some (own mid 2)) row.length row.length]) (lit_sM _ _ _ _) rfl ho2 und_ssM t1 (by omega) (by omega) zer_sM rfl rfl (by rw [wsC_len, t3]; unfold big; omega) (by rw [wsC_len]; unfold big; omega) (hf2.mono (by omega)) (by omega) (by omega) hn1lt fun h3 ho3 hk3 hf3 => ?_
        have ewc : wsC ws ++ [[.slice (some (own mid 2)) row.length row.length]] = wsC (ws ++ [.slice (some (own mid 2)) row.length row.length]) := by simp [wsC]
        rw [ewc] at ho3 ⊢
        generalize hnv : Value.slice (some (own (n3 + 5) 1)) (wsC (ws ++ [.slice (some (own mid 2)) row.length row.length])).length (wsC (ws ++ [.slice (some (own mid 2)) row.length row.length])).length = nv2 at ho3
        have hsb2 : sblk nv2 = some (n3 + 5) := by rw [← hnv]; rfl
        have hg3 := hk3 _ _ hg2 (by have := hf2.lt' hg2; omega) (fun e => (ho2.ne hg2 (by decide)) e)
        dsimp only
        (repeat (first | refine bindP_mk (by simp (disch := first | omega | exact Int.natCast_nonneg _ | assumption) only [BB, B2, ↓reduceIte, Nat.reduceLeDiff, Nat.reduceAdd, CC] <;> rfl) ?_ | refine newP_mk ?_ | refine optP_mk ?_ | with_reducible first | refine condP_t ?_ | refine condP_f ?_ | refine ifP_tt' ?_ | refine ifP_ff' ?_ | refine ifP_tf' ?_ | refine ifP_ft' ?_ | refine ifP_u' ?_ | refine optP_mk0 ?_))
        refine bindP_mk (store1_own (l := [nilS, R', U', nv]) hg3 (by show 3 < 4; omega) ho3.ok (by rw [← hnv]; rfl)) ?_
        have hk4 : Keep (tid :: blkL nv) h2 (h3.upd tid (some (.cells ([nilS, R', U', nv].set 3 nv2).toArray y_api_State))) := fun k o hk hn => by
          have h9 : k ≠ tid := fun e => hn (by rw [e]; exact List.mem_cons_self ..)
          have h10 : sblk nv ≠ some k := fun e => hn (List.mem_cons_of_mem _ (mem_blkL.2 e))
          rw [T.get_upd_ne _ _ h9]
          exact hk3 k o hk (by have := hf2.lt' hk; omega) h10
        have ho4 : OwnT (h3.upd tid (some (.cells ([nilS, R', U', nv].set 3 nv2).toArray y_api_State))) nv2 1 y_s_api_Move (wsC (ws ++ [.slice (some (own mid 2)) row.length row.length])) nx := by
          have hkk : Keep [tid] h3 (h3.upd tid (some (.cells ([nilS, R', U', nv].set 3 nv2).toArray y_api_State))) := (Sub.refl h3).keepL.upd (by simp)
          exact ho3.keepK hkk fun id hid hm => by rw [hsb2] at hid; cases hid; simp at hm; have := hf2.lt' hg2; omega
        have hf4 : Fr (h3.upd tid (some (.cells ([nilS, R', U', nv].set 3 nv2).toArray y_api_State))) (n3 + 6) := (hf3.mono (by omega)).upd (Nat.le_refl _) (by omega)
        have g4 : (h3.upd tid (some (.cells ([nilS, R', U', nv].set 3 nv2).toArray y_api_State))).get tid = some (.cells [nilS, R', U', nv2].toArray y_api_State) := T.get_upd_same _ _ _
        generalize (h3.upd tid (some (.cells ([nilS, R', U', nv].set 3 nv2).toArray y_api_State))) = h4 at hk4 ho4 hf4 g4
        have hmono : Sub (del h2 (tid :: (blkL nv ++ X))) (del h4 (tid :: (blkL nv2 ++ X))) := hk4.del (fun k hk => by
            rcases List.mem_cons.1 hk with rfl | hk
            · exact List.mem_cons_self ..
            · exact List.mem_cons_of_mem _ (List.mem_append.2 (.inl hk))) fun k hk => by
          rcases List.mem_cons.1 hk with rfl | hk
          · exact .inl (List.mem_cons_self ..)
          · rcases List.mem_append.1 hk with hk | hk
            · have := mem_blkL.1 hk
              rw [hsb2] at this
              cases this
              exact .inr (hf2 _ (by omega))
            · exact .inl (List.mem_cons_of_mem _ (List.mem_append.2 (.inr hk)))
        have hj4 : ∀ (e6' : Env) n6, e6' 2 = w2 → e6' 3 = w3 → e6' 6 = ptr tid → e6' 19 = w19 → e6' 20 = w20 → e6' 21 = w21 → e6' 33 = nvs → e6' 34 = .int .i64 rows.length → e6' 35 = .int .i64 k → n3 + 6 ≤ n6 → exec_copied_j4 ro Q' e6' h4 n6 := by
          intro e6' n6 v2 v3 v6 v19 v20 v21 v33 v34 v35 hn6
          unfold exec_copied_j4
          rw [v35]
          (repeat (first | refine bindP_mk (by simp (disch := first | omega | exact Int.natCast_nonneg _ | assumption) only [BB, B2, ↓reduceIte, Nat.reduceLeDiff, Nat.reduceAdd, CC] <;> rfl) ?_ | refine newP_mk ?_ | refine optP_mk ?_ | with_reducible first | refine condP_t ?_ | refine condP_f ?_ | refine ifP_tt' ?_ | refine ifP_ff' ?_ | refine ifP_tf' ?_ | refine ifP_ft' ?_ | refine ifP_u' ?_ | refine optP_mk0 ?_))
          refine hq (j - 1) _ _ _ _ (by omega) ⟨k + 1, ws ++ [.slice (some (own mid 2)) row.length row.length], nv2, by omega, by omega, v2, v3, v6, v19, v20, v21, v33, v34, rfl, g4, ho4, by simp [hwl], fun i w row' hwi hri => ?_, fun k' o hk9 hn9 => ?_, hf4.mono (by omega)⟩ (Sub.refl _)
          · rcases Nat.lt_or_ge i ws.length with hi | hi
            · rw [List.getElem?_append_left hi] at hwi
              have h9 := hfa i w row' hwi hri
              have hkeep2 : Sub (del h' (tid :: (blkL nv ++ X))) (del h2 (tid :: (blkL nv ++ X))) := (Sub.keepL hs2 : Keep [] h' h2).del (fun k hk => by cases hk) fun k hk => .inl hk
              exact RRow.sub (hkeep2.trans hmono) _ _ h9
            · rw [List.getElem?_append_right hi] at hwi
              have hlt9 := (List.getElem?_eq_some_iff.1 hwi).1
              have : i = k := by simp at hlt9; omega
              subst this
              rw [hrk] at hri
              cases hri
              have : w = .slice (some (own mid 2)) row.length row.length := by have := List.mem_of_getElem? hwi; simpa using this
              subst this
              exact ⟨_, rfl, hrw.sub hmono (RMove.sub hmono), by unfold maxB; omega⟩
          · have h10 := hs2 _ _ (hk' k' o hk9 hn9)
            have hk'lt := hf.lt' hk9
            refine hk4 k' o h10 fun hm => ?_
            rcases List.mem_cons.1 hm with rfl | hm
            · exact hn9 (by simp)
            · have := (ho2.blk (mem_blkL.1 hm)).1; omega
        exact hj4 _ _ u2 u3 u6 u19 u20 u21 u33 u34 u35 (by omega)
      refine exP_e (beqP_t ?_)
      exact hj5 _ _ f2 f3 f6 f9 f19 f20 f21 f33 f34 f35 (Nat.le_refl _)
  · (repeat (first | refine bindP_mk (by simp (disch := first | omega | exact Int.natCast_nonneg _ | assumption) only [BB, B2, ↓reduceIte, Nat.reduceLeDiff, Nat.reduceAdd, CC] <;> rfl) ?_ | refine newP_mk ?_ | refine optP_mk ?_ | with_reducible first | refine condP_t ?_ | refine condP_f ?_ | refine ifP_tt' ?_ | refine ifP_ff' ?_ | refine ifP_tf' ?_ | refine ifP_ft' ?_ | refine ifP_u' ?_ | refine optP_mk0 ?_))
    refine hx _ _ _ _ (fun e => by cases e) ?_
    have hnt : ∀ id, sblk nv = some id → id ∉ tid :: X := fun id hid hm => by
      have h9 := ho'.blk hid
      rcases List.mem_cons.1 hm with rfl | hm
      · exact (ho'.ne hg' (by decide)) hid
      · have := hX id hm; omega
    have hsub : Sub (del h' (tid :: (blkL nv ++ X))) (del h' (tid :: X)) := del_mono fun k hk => by
      rcases List.mem_cons.1 hk with rfl | hk
      · exact List.mem_cons_self ..
      · exact List.mem_cons_of_mem _ (List.mem_append.2 (.inr hk))
    refine hQ _ _ _ nv e2 e3 e6 e19 e20 e21 (by omega) (hf'.mono (by omega)) hk' hg' ⟨wsC ws, (ho'.del hnt).sl, by rw [wsC_len]; omega, fun i x row hxi hri => ?_⟩
    simp only [wsC, List.getElem?_map] at hxi
    cases hw : ws[i]? with
    | none => rw [hw] at hxi; cases hxi
    | some w =>
      rw [hw] at hxi
      cases hxi
      exact RRow.sub hsub _ _ (hfa i w row hw hri)
end
end V
end Go.Proofs.YtjndkdmkecpllaaGreat
set_option linter.unusedVariables false
set_option linter.unusedSimpArgs false
namespace Go.Proofs.YtjndkdmkecpllaaGreat
namespace V
attribute [local irreducible] bindP ifP condP newP optP exP beqP
def erS (s : StateD) : StateD := ⟨[], s.r, s.rule, s.next⟩
def er (d : AutoD) : AutoD := ⟨d.c, d.many, d.counts, d.states.map erS⟩
theorem buildV_st {P : Program} {t : TypeId} {z : Array Value} {fs : Array Field} {pl : List (Nat × Nat)} {parts : List (Nat × Value)} {l : List Value} (h1 : zer P t = some (.agg z)) (h2 : und P t = some (.struct fs)) (h3 : placesV P fs.toList = some pl) (h4 : fillV (pl[·]?) z.toList parts = some l) : buildV P t parts = some (.agg l.toArray) := by
  unfold buildV
  rw [h1]
  simp only [Option.bind, h2, h3, Value.cells_agg, h4]
theorem st_fs {P : Program} {t : TypeId} {pl : List (Nat × Nat)} (h : ((und P t).bind fun d => match d with
    | .struct fs => placesV P fs.toList
    | _ => none) = some pl) : ∃ fs, und P t = some (.struct fs) ∧ placesV P fs.toList = some pl := by
  obtain ⟨d, h2, h3⟩ := bind_some' h
  cases d <;> try (cases h3; done)
  exact ⟨_, h2, h3⟩
theorem over_pre {a b c : List Value} (h : c.length = a.length) : over (a ++ b) 0 c = c ++ b := by
  unfold over
  rw [List.take_zero, List.nil_append, Nat.zero_add, h, List.drop_left]
theorem build_Auto2 {c : List Nat} {n : Int} {cv : Value} (hc : c.length = 256) (hcv : cv.cells = #[cv]) : buildV Tryz.prog y_api_Auto [(0, splitI c n), (1, cv)] = some (.agg (autL c n cv nilS).toArray) := by
  obtain ⟨fs, h1, h2⟩ := st_fs (P := Tryz.prog) (t := y_api_Auto) (pl := [(0, 257), (257, 1), (258, 1)]) (by kernel_rfl)
  refine buildV_st zer_Auto h1 h2 ?_
  have hs : (splitLI (List.replicate 256 0) 0).length = 257 := splitLI_len List.length_replicate
  have hs2 : (splitLI c n).length = 257 := splitLI_len hc
  have e1 : Nat.beq (splitI c n).cells.size 257 = true := by rw [splitI_cells]; simp [hs2]
  have e2 : Nat.ble (0 + 257) autZ.length = true := by rw [autZ_len]; rfl
  have o1 : over autZ 0 (splitI c n).cells.toList = autL c n nilS nilS := by
    rw [splitI_cells]
    exact over_pre (by rw [hs, hs2])
  have e3 : Nat.beq cv.cells.size 1 = true := by rw [hcv]; rfl
  have e4 : Nat.ble (257 + 1) (autL c n nilS nilS).length = true := by rw [autL_len hc]; rfl
  have o2 : over (autL c n nilS nilS) 257 cv.cells.toList = autL c n cv nilS := by
    rw [hcv]
    show over _ 257 [cv] = _
    rw [over_one _ (by rw [autL_len hc]; omega), autL_set257 hc]
  show fillV _ autZ _ = _
  simp only [fillV, List.getElem?_cons_zero, List.getElem?_cons_succ, Option.bind, e1, e2, o1, e3, e4, o2]
theorem local_at {P : Program} {h : T Obj} {a n : Nat} {ty : TypeId} {zv v : Value} {x : List Value} {K : T Obj → Prop} (hz : zer P ty = some zv) (hzs : zv.cells.size = n) (hv : v.cells = x.toArray) (hx : x.length = n) (hok : x.all cellOk = true)
    (hK : ∀ h', h'.get a = some (.cells x.toArray ty) → (∀ k, k ≠ a → h'.get k = h.get k) → K h') :
    bindP (zer P ty) fun z => newP h a (.cells z.cells ty) fun h1 => bindP (storeN n h1 (ptr a) v) K := by
  refine bindP_mk hz (newP_mk (bindP_mk (storeA_own (l := zv.cells.toList) (vs := x) (e := ty) (f := (0, 0)) (by rw [T.get_upd_same]) hv hx (by simpa using hzs) hok) ?_))
  exact hK _ (by rw [T.get_upd_same]) fun k hk => by rw [T.get_upd_ne _ _ hk, T.get_upd_ne _ _ hk]
theorem build_State2 (a b : Value) (h1 : a.cells = #[a]) (h2 : b.cells = #[b]) : buildV Tryz.prog y_api_State [(1, a), (2, b)] = some (.agg #[nilS, a, b, nilS]) := by
  obtain ⟨fs, g1, g2⟩ := st_fs (P := Tryz.prog) (t := y_api_State) (pl := [(0, 1), (1, 1), (2, 1), (3, 1)]) (by kernel_rfl)
  refine buildV_st zer_State g1 g2 ?_
  simp only [fillV, List.getElem?_cons_zero, List.getElem?_cons_succ, Option.bind, h1, h2]
  rfl
theorem OwnT.cells {h : T Obj} {v : Value} {z : Nat} {e : TypeId} {l : List (List Value)} {lo : Nat} (ho : OwnT h v z e l lo) : v.cells = #[v] := by
  rcases ho with ⟨rfl, _⟩ | ⟨id, _, rfl, _⟩ <;> rfl
def Fit (d : AutoD) : Prop := d.counts.length ≤ 1000000 ∧ d.states.length ≤ 1000000 ∧ ∀ s ∈ d.states, s.r.length ≤ 1000000 ∧ s.rule.length ≤ 1000000 ∧ s.next.length ≤ 1000000 ∧ ∀ row ∈ s.next, row ≠ [] ∧ row.length ≤ 1000000 ∧ ∀ m ∈ row, m.ops.length ≤ 1000000
section
variable {ro : Ro} {h : T Obj} {nx : Nat} {Q : KE} {e : Env}
set_option maxRecDepth 8000 in
set_option maxHeartbeats 2000000 in
theorem cp_L1 {X : List Nat} {rid oid : Nat} {c : List Nat} {n : Int} {cv svs : Value} {S : List StateD} (hc : c.length = 256) (e2 : e 2 = ptr rid) (e3 : e 3 = ptr oid) (e19 : e 19 = svs) (e20 : e 20 = .int .i64 S.length) (e21 : e 21 = .int .i64 0)
    (hg : h.get oid = some (.cells (autL c n cv nilS).toArray y_api_Auto)) (hgr : h.get rid = some (.cells autZ.toArray y_api_Auto)) (hro : rid ≠ oid) (hsrc : SlR ro (del h [oid]) svs 4 (RState ro (del h [oid])) S) (hlen : S.length ≤ 1000000)
    (hfit : ∀ s ∈ S, s.r.length ≤ 1000000 ∧ s.rule.length ≤ 1000000 ∧ s.next.length ≤ 1000000 ∧ ∀ row ∈ s.next, row ≠ [] ∧ row.length ≤ 1000000 ∧ ∀ m ∈ row, m.ops.length ≤ 1000000) (hf : Fr h nx) (hX : ∀ k ∈ X, k < nx)
    (hQ : ∀ (e' : Env) h' n' sv, e' 2 = ptr rid → e' 3 = ptr oid → nx ≤ n' → Fr h' n' → Keep [oid] h h' → h'.get oid = some (.cells (autL c n cv sv).toArray y_api_Auto) → cellOk sv = true →
      SlR ro (del h' (oid :: X)) sv 4 (RState ro (del h' (oid :: X))) (S.map erS) → Q (.exit 0) e' h' n') : loopP (exec_copied_L1 ro) e h nx Q := by
  have hlt := hf.lt' hg
  have hltr := hf.lt' hgr
  refine loopP_rule (fun j e h' nx' => ∃ (k : Nat) (cs : List (List Value)) (sv : Value), k + j = S.length ∧ nx ≤ nx' ∧ e 2 = ptr rid ∧ e 3 = ptr oid ∧ e 19 = svs ∧ e 20 = .int .i64 S.length ∧ e 21 = .int .i64 k ∧
    h'.get oid = some (.cells (autL c n cv sv).toArray y_api_Auto) ∧ OwnT h' sv 4 y_api_State cs nx ∧ cs.length = k ∧ (∀ (i : Nat) x s, cs[i]? = some x → S[i]? = some s → RState ro (del h' (oid :: (blkL sv ++ X))) x (erS s)) ∧ Keep [oid] h h' ∧ Fr h' nx') ?_ (n := S.length)
    ⟨0, [], nilS, by omega, by omega, e2, e3, e19, e20, e21, hg, OwnT.nil, rfl, fun i x s hx => by simp at hx, (Sub.refl h).keepL, hf⟩
  rintro j e h' nx' ⟨k, cs, sv, hj, hnx, e2, e3, e19, e20, e21, hg', ho', hcl, hfa, hk', hf'⟩ Q' hq hx
  unfold exec_copied_L1
  rw [e19, e20, e21]
  refine lss_s (fun hk => ?_) (fun hk => ?_)
  · have hk : k < S.length := by omega
    have hD : Sub (del h [oid]) h' := hk'.delS fun k h => h
    have hs' := hsrc.sub hD (RState.sub hD)
    have hix := hs'.ix .i64 hk
    have hsk : S[k]? = some S[k] := List.getElem?_eq_getElem _
    obtain ⟨x, ⟨lv, rv, uv, nv, rfl, y1, y2, y3, y4, y5⟩, hx2, hx3, hx4, hx5⟩ := hs'.at hk
    obtain ⟨b1, b2, b3, b4⟩ := hfit _ (List.getElem_mem hk)
    generalize S[k] = s at y1 y2 y3 y4 y5 b1 b2 b3 b4 hsk
    have hlt' := hf'.lt' hg'
    (repeat (first | refine bindP_mk (by simp (disch := first | omega | exact Int.natCast_nonneg _ | assumption) only [BB, B2, ↓reduceIte, Nat.reduceLeDiff, Nat.reduceAdd, CC] <;> rfl) ?_ | refine newP_mk ?_ | refine optP_mk ?_ | with_reducible first | refine condP_t ?_ | refine condP_f ?_ | refine ifP_tt' ?_ | refine ifP_ff' ?_ | refine ifP_tf' ?_ | refine ifP_ft' ?_ | refine ifP_u' ?_ | refine optP_mk0 ?_))
    refine bindP_mk hix (bindP_mk hx3 ?_)
    refine local_mk (x := [lv, rv, uv, nv]) zer_State rfl rfl rfl (by simp [y1.ok, y2.ok, y3.ok, SlR.okC y4]) hf' (by omega) fun h1 hs1 hf1 g1 _ => ?_
    (repeat (first | refine bindP_mk (by simp (disch := first | omega | exact Int.natCast_nonneg _ | assumption) only [BB, B2, ↓reduceIte, Nat.reduceLeDiff, Nat.reduceAdd, CC] <;> rfl) ?_ | refine newP_mk ?_ | refine optP_mk ?_ | with_reducible first | refine condP_t ?_ | refine condP_f ?_ | refine ifP_tt' ?_ | refine ifP_ff' ?_ | refine ifP_tf' ?_ | refine ifP_ft' ?_ | refine ifP_u' ?_ | refine optP_mk0 ?_))
    refine bindP_mk (load1_get (l := [lv, rv, uv, nv]) g1 rfl) ?_
    refine clone_int_c (y2.sub hs1) b1 (hf1.mono (by omega)) fun R' h2 n2 hn2 hf2 hs2 ho2 => ?_
    (repeat (first | refine bindP_mk (by simp (disch := first | omega | exact Int.natCast_nonneg _ | assumption) only [BB, B2, ↓reduceIte, Nat.reduceLeDiff, Nat.reduceAdd, CC] <;> rfl) ?_ | refine newP_mk ?_ | refine optP_mk ?_ | with_reducible first | refine condP_t ?_ | refine condP_f ?_ | refine ifP_tt' ?_ | refine ifP_ff' ?_ | refine ifP_tf' ?_ | refine ifP_ft' ?_ | refine ifP_u' ?_ | refine optP_mk0 ?_))
    refine bindP_mk (load1_get (l := [lv, rv, uv, nv]) (hs2 _ _ g1) rfl) ?_
    refine ⟨sameV_own g1 (hs2 _ _ g1), ?_⟩
    refine clone_int_c (y3.sub (hs1.trans hs2)) b2 hf2 fun U' h3 n3 hn3 hf3 hs3 ho3 => ?_
    refine bindP_mk (build_State2 _ _ ho2.cells ho3.cells) ?_
    refine local_at (x := [nilS, R', U', nilS]) zer_State rfl rfl rfl (by simp [show cellOk nilS = true from rfl, ho2.ok, ho3.ok]) fun h4 g4 ho4 => ?_
    have hs13 : Sub h' h3 := (hs1.trans hs2).trans hs3
    have hs4 : Sub h' h4 := fun k o hk => by rw [ho4 k (by have := hf'.lt' hk; omega)]; exact hs13 k o hk
    have hs4t : Sub h' (del h4 [nx' + 12]) := fun k o hk => del_some (hs4 k o hk) (by have := hf'.lt' hk; simp; omega)
    have hf4 : Fr h4 n3 := fun k hk => by rw [ho4 k (by omega)]; exact hf3 k hk
    have g14 : h4.get (nx' + 3) = some (.cells [lv, rv, uv, nv].toArray y_api_State) := by rw [ho4 _ (by omega)]; exact hs3 _ _ (hs2 _ _ g1)
    have hnl := (y4.sub hs4 (RRow.sub hs4)).len
    (repeat (first | refine bindP_mk (by simp (disch := first | omega | exact Int.natCast_nonneg _ | assumption) only [BB, B2, ↓reduceIte, Nat.reduceLeDiff, Nat.reduceAdd, CC] <;> rfl) ?_ | refine newP_mk ?_ | refine optP_mk ?_ | with_reducible first | refine condP_t ?_ | refine condP_f ?_ | refine ifP_tt' ?_ | refine ifP_ff' ?_ | refine ifP_tf' ?_ | refine ifP_ft' ?_ | refine ifP_u' ?_ | refine optP_mk0 ?_))
    refine bindP_mk (load1_get (l := [lv, rv, uv, nv]) g14 rfl) ?_
    refine bindP_mk hnl ?_
    refine cp_L2 (ro := ro) (tid := nx' + 12) (rows := s.next) (R' := R') (U' := U') (X := oid :: (blkL sv ++ X)) (nA := nx') e2 e3 rfl e19 e20 e21 rfl rfl rfl g4 b3 (y4.sub hs4t (RRow.sub hs4t)) b4 (hf4.mono (by omega)) (fun k hk => ?_) (by omega) (by omega) ?_
    · rcases List.mem_cons.1 hk with rfl | hk
      · exact hlt'
      · rcases List.mem_append.1 hk with hk | hk
        · exact hf'.lt' (ho'.blk (mem_blkL.1 hk)).2
        · have := hX k hk; omega
    · intro e5 h5 n5 nv5 f2 f3 f6 f19 f20 f21 hn5 hf5 hk5 g5 hnx5
      -- the state, put behind the others
      have hs5 : Sub h' h5 := fun k o hk => hk5 k o (hs4 k o hk) (by have := hf'.lt' hk; simp; omega)
      have hg5 := hs5 _ _ hg'
      have ho5 := ho'.keepS hs5
      have hR5 : OwnT h5 R' 1 y_int (intsZ s.r) (nx' + 14) := ((ho2.keepS hs3).keepK (ids := [nx' + 12]) (h' := h4) (fun k o hk hn => by rw [ho4 k (by simpa using hn)]; exact hk) fun id hid hm => by have := (ho2.blk hid).1; simp at hm; omega).keepK hk5 fun id hid hm => by have := (ho2.blk hid).1; simp at hm; omega
      have hU5 : OwnT h5 U' 1 y_int (intsZ s.rule) n2 := (ho3.keepK (ids := [nx' + 12]) (h' := h4) (fun k o hk hn => by rw [ho4 k (by simpa using hn)]; exact hk) fun id hid hm => by have := (ho3.blk hid).1; simp at hm; omega).keepK hk5 fun id hid hm => by have := (ho3.blk hid).1; simp at hm; omega
      have hXlt : ∀ k ∈ oid :: (blkL sv ++ X), k < nx' := fun k hk => by
        rcases List.mem_cons.1 hk with rfl | hk
        · exact hlt'
        · rcases List.mem_append.1 hk with hk | hk
          · exact hf'.lt' (ho'.blk (mem_blkL.1 hk)).2
          · have := hX k hk; omega
      have hst : RState ro (del h5 (oid :: (blkL sv ++ X))) [nilS, R', U', nv5] (erS s) := by
        refine ⟨nilS, R', U', nv5, rfl, Sl.nil, (hR5.del fun id hid hm => ?_).sl, (hU5.del fun id hid hm => ?_).sl, hnx5.sub (del_mono fun k hk => List.mem_cons_of_mem _ hk) (RRow.sub (del_mono fun k hk => List.mem_cons_of_mem _ hk)), y5⟩
        · have := (hR5.blk hid).1; have := hXlt id hm; omega
        · have := (hU5.blk hid).1; have := hXlt id hm; omega
      have hnv5 : cellOk nv5 = true := SlR.okC hnx5
      have hj3 : ∀ (e6 : Env) n6, e6 2 = ptr rid → e6 3 = ptr oid → e6 6 = ptr (nx' + 12) → e6 19 = svs → e6 20 = .int .i64 S.length → e6 21 = .int .i64 k → n5 ≤ n6 → exec_copied_j3 ro Q' e6 h5 n6 := by
        intro e6 n6 u2 u3 u6 u19 u20 u21 hn6
        unfold exec_copied_j3
        rw [u3, u6]
        (repeat (first | refine bindP_mk (by simp (disch := first | omega | exact Int.natCast_nonneg _ | assumption) only [BB, B2, ↓reduceIte, Nat.reduceLeDiff, Nat.reduceAdd, CC] <;> rfl) ?_ | refine newP_mk ?_ | refine optP_mk ?_ | with_reducible first | refine condP_t ?_ | refine condP_f ?_ | refine ifP_tt' ?_ | refine ifP_ff' ?_ | refine ifP_tf' ?_ | refine ifP_ft' ?_ | refine ifP_u' ?_ | refine optP_mk0 ?_))
        refine bindP_mk (load1_get hg5 (autL_states hc)) ?_
        refine bindP_mk (loadA_all (l := [nilS, R', U', nv5]) g5 rfl) ?_
        obtain ⟨i, t1, t2, t3⟩ := tin_State
        have hn1lt : sblk sv ≠ some (n6 + 3) := fun e => by
          have h9 := (ho5.blk e).2
          have := hf5.lt' h9; omega
        refine app_at (z := 4) (l := cs) (y := [nilS, R', U', nv5]) (lit_State _ _ _ _ _) rfl ho5 und_sState t1 (by omega) (by omega) zer_State rfl (by simp [show cellOk nilS = true from rfl, hR5.ok, hU5.ok, hnv5]) (by rw [t3]; unfold big; omega) (by unfold big; omega) (hf5.mono (by omega)) (by omega) (by omega) hn1lt fun h7 ho7 hk7 hf7 => ?_
        generalize hnv : Value.slice (some (own (n6 + 5) 4)) (cs ++ [[nilS, R', U', nv5]]).length (cs ++ [[nilS, R', U', nv5]]).length = sv2 at ho7
        have hsb2 : sblk sv2 = some (n6 + 5) := by rw [← hnv]; rfl
        have hg7 := hk7 _ _ hg5 (by have := hf5.lt' hg5; omega) (fun e => (ho5.ne hg5 (by decide)) e)
        dsimp only
        (repeat (first | refine bindP_mk (by simp (disch := first | omega | exact Int.natCast_nonneg _ | assumption) only [BB, B2, ↓reduceIte, Nat.reduceLeDiff, Nat.reduceAdd, CC] <;> rfl) ?_ | refine newP_mk ?_ | refine optP_mk ?_ | with_reducible first | refine condP_t ?_ | refine condP_f ?_ | refine ifP_tt' ?_ | refine ifP_ff' ?_ | refine ifP_tf' ?_ | refine ifP_ft' ?_ | refine ifP_u' ?_ | refine optP_mk0 ?_))
        refine bindP_mk (store1_own hg7 (by rw [autL_len hc]; omega) ho7.ok (by rw [← hnv]; rfl)) ?_
        rw [autL_set hc]
        have hk8 : Keep (oid :: blkL sv) h5 (h7.upd oid (some (.cells (autL c n cv sv2).toArray y_api_Auto))) := fun k o hk hn => by
          have h9 : k ≠ oid := fun e => hn (by rw [e]; exact List.mem_cons_self ..)
          have h10 : sblk sv ≠ some k := fun e => hn (List.mem_cons_of_mem _ (mem_blkL.2 e))
          rw [T.get_upd_ne _ _ h9]
          exact hk7 k o hk (by have := hf5.lt' hk; omega) h10
        have ho8 : OwnT (h7.upd oid (some (.cells (autL c n cv sv2).toArray y_api_Auto))) sv2 4 y_api_State (cs ++ [[nilS, R', U', nv5]]) nx := by
          have hkk : Keep [oid] h7 (h7.upd oid (some (.cells (autL c n cv sv2).toArray y_api_Auto))) := (Sub.refl h7).keepL.upd (by simp)
          exact ho7.keepK hkk fun id hid hm => by rw [hsb2] at hid; cases hid; simp at hm; have := hf5.lt' hg5; omega
        have hf8 : Fr (h7.upd oid (some (.cells (autL c n cv sv2).toArray y_api_Auto))) (n6 + 6) := (hf7.mono (by omega)).upd (Nat.le_refl _) (by omega)
        have g8 : (h7.upd oid (some (.cells (autL c n cv sv2).toArray y_api_Auto))).get oid = some (.cells (autL c n cv sv2).toArray y_api_Auto) := T.get_upd_same _ _ _
        generalize (h7.upd oid (some (.cells (autL c n cv sv2).toArray y_api_Auto))) = h8 at hk8 ho8 hf8 g8
        have hmono : Sub (del h5 (oid :: (blkL sv ++ X))) (del h8 (oid :: (blkL sv2 ++ X))) := hk8.del (fun k hk => by
            rcases List.mem_cons.1 hk with rfl | hk
            · exact List.mem_cons_self ..
            · exact List.mem_cons_of_mem _ (List.mem_append.2 (.inl hk))) fun k hk => by
          rcases List.mem_cons.1 hk with rfl | hk
          · exact .inl (List.mem_cons_self ..)
          · rcases List.mem_append.1 hk with hk | hk
            · have := mem_blkL.1 hk
              rw [hsb2] at this
              cases this
              exact .inr (hf5 _ (by omega))
            · exact .inl (List.mem_cons_of_mem _ (List.mem_append.2 (.inr hk)))
        have hj2 : ∀ (e9 : Env) n9, e9 2 = ptr rid → e9 3 = ptr oid → e9 19 = svs → e9 20 = .int .i64 S.length → e9 21 = .int .i64 k → n6 + 6 ≤ n9 → exec_copied_j2 ro Q' e9 h8 n9 := by
          intro e9 n9 v2 v3 v19 v20 v21 hn9
          unfold exec_copied_j2
          rw [v21]
          (repeat (first | refine bindP_mk (by simp (disch := first | omega | exact Int.natCast_nonneg _ | assumption) only [BB, B2, ↓reduceIte, Nat.reduceLeDiff, Nat.reduceAdd, CC] <;> rfl) ?_ | refine newP_mk ?_ | refine optP_mk ?_ | with_reducible first | refine condP_t ?_ | refine condP_f ?_ | refine ifP_tt' ?_ | refine ifP_ff' ?_ | refine ifP_tf' ?_ | refine ifP_ft' ?_ | refine ifP_u' ?_ | refine optP_mk0 ?_))
          refine hq (j - 1) _ _ _ _ (by omega) ⟨k + 1, cs ++ [[nilS, R', U', nv5]], sv2, by omega, by omega, v2, v3, v19, v20, rfl, g8, ho8, by simp [hcl], fun i x s' hxi hsi => ?_, fun k' o hk9 hn9 => ?_, hf8.mono (by omega)⟩ (Sub.refl _)
          · rcases Nat.lt_or_ge i cs.length with hi | hi
            · rw [List.getElem?_append_left hi] at hxi
              have h9 := hfa i x s' hxi hsi
              have hkeep2 : Sub (del h' (oid :: (blkL sv ++ X))) (del h5 (oid :: (blkL sv ++ X))) := (Sub.keepL hs5 : Keep [] h' h5).del (fun k hk => by cases hk) fun k hk => .inl hk
              exact RState.sub (hkeep2.trans hmono) _ _ h9
            · rw [List.getElem?_append_right hi] at hxi
              have hlt9 := (List.getElem?_eq_some_iff.1 hxi).1
              have : i = k := by simp at hlt9; omega
              subst this
              rw [hsk] at hsi
              cases hsi
              have : x = [nilS, R', U', nv5] := by have := List.mem_of_getElem? hxi; simpa using this
              subst this
              exact RState.sub hmono _ _ hst
          · have h10 := hs5 _ _ (hk' k' o hk9 hn9)
            have hk'lt := hf.lt' hk9
            refine hk8 k' o h10 fun hm => ?_
            rcases List.mem_cons.1 hm with rfl | hm
            · exact hn9 (by simp)
            · have := (ho5.blk (mem_blkL.1 hm)).1; omega
        exact hj2 _ _ u2 u3 u19 u20 u21 (by omega)
      refine exP_e (beqP_t ?_)
      exact hj3 _ _ f2 f3 f6 f19 f20 f21 (Nat.le_refl _)
  · (repeat (first | refine bindP_mk (by simp (disch := first | omega | exact Int.natCast_nonneg _ | assumption) only [BB, B2, ↓reduceIte, Nat.reduceLeDiff, Nat.reduceAdd, CC] <;> rfl) ?_ | refine newP_mk ?_ | refine optP_mk ?_ | with_reducible first | refine condP_t ?_ | refine condP_f ?_ | refine ifP_tt' ?_ | refine ifP_ff' ?_ | refine ifP_tf' ?_ | refine ifP_ft' ?_ | refine ifP_u' ?_ | refine optP_mk0 ?_))
    refine hx _ _ _ _ (fun e => by cases e) ?_
    have hnt : ∀ id, sblk sv = some id → id ∉ oid :: X := fun id hid hm => by
      have h9 := ho'.blk hid
      rcases List.mem_cons.1 hm with rfl | hm
      · exact (ho'.ne hg' (by decide)) hid
      · have := hX id hm; omega
    have hsub : Sub (del h' (oid :: (blkL sv ++ X))) (del h' (oid :: X)) := del_mono fun k hk => by
      rcases List.mem_cons.1 hk with rfl | hk
      · exact List.mem_cons_self ..
      · exact List.mem_cons_of_mem _ (List.mem_append.2 (.inr hk))
    refine hQ _ _ _ sv e2 e3 (by omega) (hf'.mono (by omega)) hk' hg' ho'.ok ⟨cs, (ho'.del hnt).sl, by rw [List.length_map]; omega, fun i x s hxi hsi => ?_⟩
    rw [List.getElem?_map] at hsi
    cases hs : S[i]? with
    | none => rw [hs] at hsi; cases hsi
    | some s0 =>
      rw [hs] at hsi
      cases hsi
      exact RState.sub hsub _ _ (hfa i x s0 hxi hs)
end
end V
end Go.Proofs.YtjndkdmkecpllaaGreat
set_option linter.unusedVariables false
set_option linter.unusedSimpArgs false
namespace Go.Proofs.YtjndkdmkecpllaaGreat
namespace V
attribute [local irreducible] bindP ifP condP newP optP exP beqP
theorem ok_fit {d : AutoD} (ha : autoOk d = true) (hcl : d.c.length = 256) : Fit d := by
  obtain ⟨h1, h2, h3, h4, h5, h6⟩ := autoOk_parts ha
  have hm0 := right_lt hcl h1 0 (by omega)
  have hm := right_many h1
  refine ⟨by omega, by omega, fun s hs => ?_⟩
  have hk := h6 s hs
  obtain ⟨k1, k2, k3, k4, k5⟩ := state_parts hk
  have hc := codes_le (s.r.length : Int)
  refine ⟨by omega, by omega, by omega, fun row hrow => ?_⟩
  obtain ⟨i, hi⟩ := List.getElem?_of_mem hrow
  have hlt := (List.getElem?_eq_some_iff.1 hi).1
  have hro := rows_at k5 (by omega) i row _ hi (List.getElem?_eq_getElem (by omega))
  unfold rowOk at hro
  simp only [Bool.and_eq_true, decide_eq_true_eq] at hro
  obtain ⟨_, _, r3, r4⟩ := hro
  refine ⟨fun e => by rw [e] at r3; simp at r3; omega, by omega, fun m hm => ?_⟩
  have := ops_all (S := []) ha (List.all_eq_true.1 r4 m hm)
  omega
theorem getD_er (S : List StateD) (i : Nat) : (S.map erS).getD i noS = erS (S.getD i noS) := by
  rw [List.getD_eq_getElem?_getD, List.getD_eq_getElem?_getD, List.getElem?_map]
  cases S[i]? <;> rfl
theorem stAt_er (d : AutoD) (m : MacD) : stAt (er d) m = erS (stAt d m) := getD_er _ _
theorem ruleM_er (d : AutoD) (m : MacD) : ruleM (er d) m = ruleM d m := by unfold ruleM; rw [stAt_er]; rfl
theorem moveM_er (d : AutoD) (m : MacD) (b : Nat) : moveM (er d) m b = moveM d m b := by unfold moveM; rw [stAt_er]; rfl
theorem nextR_er (d : AutoD) (t : Int) : nextR (er d) t = nextR d t := by
  unfold nextR
  show (if t = -1 then [] else ((d.states.map erS).getD t.toNat noS).r) = _
  rw [getD_er]; rfl
theorem onM_er (d : AutoD) (m : MacD) (b : Nat) : onM (er d) m b = onM d m b := by unfold onM; rw [moveM_er]
theorem stepM_er (d : AutoD) (m : MacD) (b : Nat) : stepM (er d) m b = stepM d m b := by unfold stepM; rw [moveM_er, nextR_er, stAt_er]; rfl
theorem longL_er (d : AutoD) : ∀ (l : List Nat) (i : Int) (m : MacD) (r : Int × Int × Bool), longL (er d) l i m r = longL d l i m r
  | [], _, _, _ => rfl
  | b :: l, i, m, r => by rw [longL_cons, longL_cons, onM_er, stepM_er, ruleM_er, longL_er d l]
theorem longM_er (d : AutoD) (s : List Nat) (f : Int) (m : MacD) : longM (er d) s f m = longM d s f m := by unfold longM; rw [longL_er]
theorem moveOk_er {S : List StateD} {R : List Int} (m : MoveD) : moveOk (S.map erS) R m = moveOk S R m := by
  unfold moveOk
  rw [getD_er, List.length_map]; rfl
theorem rowsOk_er {S : List StateD} {R : List Int} {n : Int} : ∀ (us : List Int) (rows : List (List MoveD)), rowsOk (S.map erS) R n us rows = rowsOk S R n us rows
  | [], _ => rfl
  | u :: us, [] => by rw [rowsOk_nil, rowsOk_nil]
  | u :: us, row :: rows => by
    rw [rowsOk_cons, rowsOk_cons, rowsOk_er us rows]
    unfold rowOk
    have : row.all (moveOk (S.map erS) R) = row.all (moveOk S R) := by congr 1; funext m; exact moveOk_er m
    rw [this]
theorem autoOk_er {d : AutoD} (ha : autoOk d = true) : autoOk (er d) = true := by
  unfold autoOk at ha ⊢
  simp only [Bool.and_eq_true, decide_eq_true_eq] at ha ⊢
  obtain ⟨h1, h2, h3, h4, h5, h6, h7⟩ := ha
  refine ⟨h1, h2, by show 1 ≤ (d.states.map erS).length; rw [List.length_map]; exact h3, by show (d.states.map erS).length ≤ 256; rw [List.length_map]; exact h4, ?_, h6, ?_⟩
  · unfold firstOk at h5 ⊢
    simp only [Bool.and_eq_true, decide_eq_true_eq] at h5 ⊢
    refine ⟨?_, ?_⟩
    · show ((d.states.map erS).getD 0 noS).l.length = 0
      rw [getD_er]; rfl
    · show ((d.states.map erS).getD 0 noS).r.length = 0
      rw [getD_er]; exact h5.2
  · show (d.states.map erS).all _ = true
    rw [List.all_map, List.all_eq_true]
    intro s hs
    have := List.all_eq_true.1 h7 s hs
    show stateOk (d.states.map erS) d.many d.counts.length (erS s) = true
    unfold stateOk at this ⊢
    simp only [Bool.and_eq_true, decide_eq_true_eq] at this ⊢
    obtain ⟨k1, k2, k3, k4, k5, k6⟩ := this
    refine ⟨k1, k2, k3, rfl, k5, ?_⟩
    show rowsOk (d.states.map erS) s.r d.many s.rule s.next = true
    rw [rowsOk_er]; exact k6
theorem MOk_er {d : AutoD} {m : MacD} (h : MOk d m) : MOk (er d) m := ⟨by have := h.1; show m.cur = -1 ∨ 0 ≤ m.cur ∧ m.cur < ((d.states.map erS).length : Int); rw [List.length_map]; exact this, h.2⟩
section
variable {ro : Ro} {h : T Obj} {nx : Nat} {K : KV}
set_option maxRecDepth 8000 in
set_option maxHeartbeats 1000000 in
theorem exec_copied_c {X0 : List Nat} {x : List Value} {d : AutoD} (hf : Fr h nx) (hX0 : ∀ k ∈ X0, k < nx) (hd : RAuto ro h x d) (hfit : Fit d) (hK : ∀ cv sv h' nx', nx ≤ nx' → Fr h' nx' → Sub h h' → RAuto ro (del h' X0) (autL d.c d.many cv sv) (er d) → K (.agg (autL d.c d.many cv sv).toArray) h' nx') : callP Tryz.prog ro i_exec_copied [.agg x.toArray] h nx K := by
  obtain ⟨cv, sv, rfl, hc, hclt, hcv, hS, hb1, hb2⟩ := hd
  obtain ⟨f1, f2, f3⟩ := hfit
  have m7 := autL_counts (n := d.many) (cv := cv) (sv := sv) hc
  have m8 := autL_states (n := d.many) (cv := cv) (sv := sv) hc
  apply exec_copied_of
  unfold exec_copied
  refine param_mk hf (Nat.le_refl _) fun h1 hs1 hf1 g1 _ => ?_
  have g1 : h1.get nx = some (.cells (autL d.c d.many cv sv).toArray y_api_Auto) := g1
  refine bindP_mk zer_Auto ?_
  refine obj_mk hf1 (Nat.le_refl _) fun h2 hs2 hf2 g2 _ => ?_
  have g2 : h2.get (nx + 1) = some (.cells autZ.toArray y_api_Auto) := g2
  have g12 := hs2 _ _ g1
  (repeat (first | refine bindP_mk (by simp (disch := first | omega | exact Int.natCast_nonneg _ | assumption) only [BB, B2, ↓reduceIte, Nat.reduceLeDiff, Nat.reduceAdd, CC] <;> rfl) ?_ | refine newP_mk ?_ | refine optP_mk ?_ | with_reducible first | refine condP_t ?_ | refine condP_f ?_ | refine ifP_tt' ?_ | refine ifP_ff' ?_ | refine ifP_tf' ?_ | refine ifP_ft' ?_ | refine ifP_u' ?_ | refine optP_mk0 ?_))
  refine bindP_mk (loadS g12 hc) ?_
  (repeat (first | refine bindP_mk (by simp (disch := first | omega | exact Int.natCast_nonneg _ | assumption) only [BB, B2, ↓reduceIte, Nat.reduceLeDiff, Nat.reduceAdd, CC] <;> rfl) ?_ | refine newP_mk ?_ | refine optP_mk ?_ | with_reducible first | refine condP_t ?_ | refine condP_f ?_ | refine ifP_tt' ?_ | refine ifP_ff' ?_ | refine ifP_tf' ?_ | refine ifP_ft' ?_ | refine ifP_u' ?_ | refine optP_mk0 ?_))
  refine bindP_mk (load1_get g12 m7) ?_
  refine clone_a2_c (hcv.sub (hs1.trans hs2) fun _ _ h => h) f1 (hf2.mono (by omega)) fun cv' h3 n3 hn3 hf3 hs3 ho3 => ?_
  have g13 := hs3 _ _ g12
  have g23 := hs3 _ _ g2
  refine ⟨sameV_own g12 g13, ?_⟩
  refine bindP_mk (build_Auto2 hc ho3.cells) ?_
  refine local_at (x := autL d.c d.many cv' nilS) zer_Auto (by show autZ.toArray.size = 259; simp [autZ_len]) rfl (autL_len hc) (autL_ok ho3.ok rfl) fun h4 g4 hk4 => ?_
  have g14 : h4.get nx = some (.cells (autL d.c d.many cv sv).toArray y_api_Auto) := by rw [hk4 _ (by omega)]; exact g13
  have g24 : h4.get (nx + 1) = some (.cells autZ.toArray y_api_Auto) := by rw [hk4 _ (by omega)]; exact g23
  have hs13 : Sub h h3 := (hs1.trans hs2).trans hs3
  have hs4 : Sub h h4 := fun k o hk => by rw [hk4 k (by have := hf.lt' hk; omega)]; exact hs13 k o hk
  have hs4o : Sub h (del h4 [nx + 8]) := fun k o hk => del_some (hs4 k o hk) (by have := hf.lt' hk; simp; omega)
  have hf4 : Fr h4 n3 := fun k hk => by rw [hk4 k (by omega)]; exact hf3 k hk
  have hsl := (hS.sub hs4 (RState.sub hs4)).len
  (repeat (first | refine bindP_mk (by simp (disch := first | omega | exact Int.natCast_nonneg _ | assumption) only [BB, B2, ↓reduceIte, Nat.reduceLeDiff, Nat.reduceAdd, CC] <;> rfl) ?_ | refine newP_mk ?_ | refine optP_mk ?_ | with_reducible first | refine condP_t ?_ | refine condP_f ?_ | refine ifP_tt' ?_ | refine ifP_ff' ?_ | refine ifP_tf' ?_ | refine ifP_ft' ?_ | refine ifP_u' ?_ | refine optP_mk0 ?_))
  refine bindP_mk (load1_get g14 m8) ?_
  refine bindP_mk hsl ?_
  refine cp_L1 (ro := ro) (X := (nx + 1) :: X0) (rid := nx + 1) (oid := nx + 8) (S := d.states) hc rfl rfl rfl rfl rfl g4 g24 (by omega) (hS.sub hs4o (RState.sub hs4o)) f2 f3 (hf4.mono (by omega)) (fun k hk => by
    rcases List.mem_cons.1 hk with rfl | hk
    · omega
    · have := hX0 k hk; omega) fun e5 h5 n5 sv5 u2 u3 hn5 hf5 hk5 g5 hsv5 hS5 => ?_
  refine exP_e (beqP_t ?_)
  have g25 := hk5 _ _ g24 (by simp)
  have hj1 : ∀ (e6 : Env), e6 2 = ptr (nx + 1) → e6 3 = ptr (nx + 8) → exec_copied_j1 ro K e6 h5 n5 := by
    intro e6 v2 v3
    unfold exec_copied_j1
    rw [v2, v3]
    refine bindP_mk (loadA_all g5 (autL_len hc)) ?_
    refine bindP_mk (storeA_own (l := autZ) (vs := autL d.c d.many cv' sv5) g25 rfl (autL_len hc) autZ_len (autL_ok ho3.ok hsv5)) ?_
    refine bindP_mk (loadA_all (l := autL d.c d.many cv' sv5) (by rw [T.get_upd_same]) (autL_len hc)) ?_
    have hk6 : Keep [nx + 1] h5 (h5.upd (nx + 1) (some (.cells (autL d.c d.many cv' sv5).toArray y_api_Auto))) := (Sub.refl h5).keepL.upd (by simp)
    have hf6 : Fr (h5.upd (nx + 1) (some (.cells (autL d.c d.many cv' sv5).toArray y_api_Auto))) n5 := hf5.upd (Nat.le_refl _) (by have := hf5.lt' g25; omega)
    generalize h5.upd (nx + 1) (some (.cells (autL d.c d.many cv' sv5).toArray y_api_Auto)) = h6 at hk6 hf6
    have hd6 : Sub (del h5 ((nx + 8) :: (nx + 1) :: X0)) (del h6 X0) := fun k o hk => by
      have h9 := (hk6.delS (l := (nx + 8) :: (nx + 1) :: X0) fun k hk => by simp at hk; simp [hk]) k o hk
      rw [del_get] at hk
      split at hk
      · cases hk
      · rename_i hn; exact del_some h9 fun hm => hn (by simp [hm])
    have ho6 : OwnT h6 cv' 2 y_a2_int (cntC d.counts) (nx + 10) := ((ho3.keepK (ids := [nx + 8]) (h' := h4) (fun k o hk hn => by rw [hk4 k (by simpa using hn)]; exact hk) fun id hid hm => by have := (ho3.blk hid).1; simp at hm; omega).keepK hk5 fun id hid hm => by have := (ho3.blk hid).1; simp at hm; omega).keepK hk6 fun id hid hm => by have := (ho3.blk hid).1; simp at hm; omega
    refine ⟨h6, Sub.refl _, hK cv' sv5 h6 _ (by omega) (hf6.mono (by omega)) (fun k o hk => ?_) ⟨cv', sv5, rfl, hc, hclt, cnt_R (ho6.del fun id hid hm => by have := (ho6.blk hid).1; have := hX0 id hm; omega), hS5.sub hd6 (RState.sub hd6), hb1, by show (d.states.map erS).length ≤ _; rw [List.length_map]; exact hb2⟩⟩
    have := hf.lt' hk
    exact hk6 k o (hk5 k o (hs4 k o hk) (by simp; omega)) (by simp; omega)
  exact hj1 _ u2 u3
end
def zMac : List Value := machL (List.replicate 256 0) 0 nilS nilS 0 nilS 0
theorem zer_MacE : zer Tryz.prog y_exec_Machine = some (.agg zMac.toArray) := by kernel_rfl
theorem fill_Mac {c : List Nat} {n : Int} {cv sv : Value} {pl : List (Nat × Nat)} (hp : pl[0]? = some (0, 259)) (hc : c.length = 256) : fillV (pl[·]?) zMac [(0, .agg (autL c n cv sv).toArray)] = some (machL c n cv sv 0 nilS 0) := by
  have h0 : zMac.length = 262 := machL_len List.length_replicate
  have e1 : Nat.beq (Value.agg (autL c n cv sv).toArray).cells.size 259 = true := by rw [Value.cells_agg]; simp [autL_len hc]
  have e2 : Nat.ble (0 + 259) zMac.length = true := by rw [h0]; rfl
  have o1 : over zMac 0 (Value.agg (autL c n cv sv).toArray).cells.toList = machL c n cv sv 0 nilS 0 := by
    rw [Value.cells_agg]
    exact over_pre (by rw [autL_len hc, autL_len List.length_replicate])
  simp only [fillV, hp, Option.bind, e1, e2, o1]
theorem build_MacE {c : List Nat} {n : Int} {cv sv : Value} (hc : c.length = 256) : buildV Tryz.prog y_exec_Machine [(0, .agg (autL c n cv sv).toArray)] = some (.agg (machL c n cv sv 0 nilS 0).toArray) := by
  obtain ⟨fs, h1, h2⟩ := st_fs (P := Tryz.prog) (t := y_exec_Machine) (pl := [(0, 259), (259, 1), (260, 1), (261, 1)]) (by kernel_rfl)
  exact buildV_st zer_MacE h1 h2 (fill_Mac rfl hc)
theorem lit_pE (aid q : Nat) : sliceLitV Tryz.prog y_s_p_ring_Ring aid 1 [(0, ptr q)] = some (.slice (some (own aid 1)) 1 1, some (.cells [ptr q].toArray y_p_ring_Ring)) := by kernel_rfl
theorem und_spE : und Tryz.prog y_s_p_ring_Ring = some (.slice y_p_ring_Ring) := by kernel_rfl
theorem tin_pE : ∃ i, tin Tryz.prog y_p_ring_Ring = some i ∧ i.size = 1 ∧ i.bytes = 8 := tinOf (by kernel_rfl)
theorem zer_pE : zer Tryz.prog y_p_ring_Ring = some (.pointer none) := by kernel_rfl
theorem ptrsC_snoc (ps : List (Nat × Nat)) (q : Nat × Nat) : ptrsC (ps ++ [q]) = ptrsC ps ++ [[ptr q.1]] := by simp [ptrsC]
end V
end Go.Proofs.YtjndkdmkecpllaaGreat
set_option linter.unusedVariables false
set_option linter.unusedSimpArgs false
namespace Go.Proofs.YtjndkdmkecpllaaGreat
namespace V
attribute [local irreducible] bindP ifP condP newP optP exP beqP
def NI (RR : RgP) (tm tp te : TypeId) (hC : T Obj) (nC p : Nat) (c : List Nat) (many : Int) (cv sv : Value) (C : List (Int × Int)) (k : Nat) (h : T Obj) (nx : Nat) (ps : List (Nat × Nat)) (rv : Value) : Prop :=
  h.get p = some (.cells (machL c many cv sv 0 rv 0).toArray tm) ∧ OwnT h rv 1 te (ptrsC ps) nC ∧ ps.length = k ∧ RsX RR h ps (C.take k) (List.replicate k noR) ∧ Dst ps ∧ (∀ q ∈ blks ps, nC ≤ q) ∧ Sub hC h ∧ Fr h nx ∧ Fr hC nC ∧ nC ≤ p ∧ nC ≤ nx
section
variable {RR : RgP} {tm tp ta te : TypeId} {ro : Ro} {hC h h' : T Obj} {nC p nx n1 n2 k : Nat} {c : List Nat} {many : Int} {cv sv rv : Value} {C : List (Int × Int)} {ps : List (Nat × Nat)}
theorem NI.mono {n' : Nat} (hi : NI RR tm tp te hC nC p c many cv sv C k h nx ps rv) (hn : nx ≤ n') : NI RR tm tp te hC nC p c many cv sv C k h n' ps rv := by
  obtain ⟨g1, g2, g3, g4, g5, g6, g7, g8, g9, g10, g11⟩ := hi
  exact ⟨g1, g2, g3, g4, g5, g6, g7, g8.mono hn, g9, g10, by omega⟩
theorem NI.sub {n' : Nat} (hk : RgOk RR tp ta) (hi : NI RR tm tp te hC nC p c many cv sv C k h nx ps rv) (hs : Sub h h') (hf : Fr h' n') (hn : nx ≤ n') : NI RR tm tp te hC nC p c many cv sv C k h' n' ps rv := by
  obtain ⟨g1, g2, g3, g4, g5, g6, g7, g8, g9, g10, g11⟩ := hi
  exact ⟨hs _ _ g1, g2.keepS hs, g3, g4.sub hk hs, g5, g6, g7.trans hs, hf, g9, g10, by omega⟩
theorem NI.step {q : Nat × Nat} {cc : Int × Int} {rv2 : Value} {lo : Nat} (hk : RgOk RR tp ta) (e1 : tp ≠ te) (e2 : ta ≠ te) (e3 : tm ≠ tp) (e4 : tm ≠ ta) (e5 : tm ≠ te) (hi : NI RR tm tp te hC nC p c many cv sv C k h nx ps rv) (hcl : c.length = 256) (hc : C[k]? = some cc) (hR : RR h q.1 q.2 cc.2.toNat [] 0) (hq1 : ∀ r ∈ ps, r.1 < q.1 ∧ r.2 < q.2) (hq2 : nC ≤ q.1 ∧ nC ≤ q.2) (hn1 : n1 ≠ p ∧ (∀ r ∈ ps ++ [q], r.1 ≠ n1 ∧ r.2 ≠ n1) ∧ nC ≤ n1)
    (ho : OwnT h' rv2 1 te (ptrsC ps ++ [[ptr q.1]]) nC) (hsb : sblk rv2 = some n2) (hn2 : nx ≤ n2) (hg : ∀ k o, h.get k = some o → k ≠ n1 → sblk rv ≠ some k → h'.get k = some o) (hf : Fr h' (n2 + 1)) :
    NI RR tm tp te hC nC p c many cv sv C (k + 1) (h'.upd p (some (.cells (machL c many cv sv 0 rv2 0).toArray tm))) (n2 + 1) (ps ++ [q]) rv2 := by
  obtain ⟨g1, g2, g3, g4, g5, g6, g7, g8, g9, g10, g11⟩ := hi
  have hp := g8.lt' g1
  have hr := g4.snoc hR (r := noR)
  have hgk : ∀ {k : Nat} {cs : Array Value} {e : TypeId}, h.get k = some (.cells cs e) → e ≠ te → k ≠ n1 → h'.get k = some (.cells cs e) := fun hk9 he hne => hg _ _ hk9 hne (g2.ne hk9 he)
  have hgp : h'.get p = some (.cells (machL c many cv sv 0 rv 0).toArray tm) := hgk g1 e5 (Ne.symm hn1.1)
  have hty := hr.ty hk
  refine ⟨T.get_upd_same _ _ _, ?_, by simp [g3], ?_, g5.snoc fun r hr => ?_, fun k hk => ?_, fun k o hk => ?_, hf.upd (Nat.le_refl _) (by omega), g9, g10, by omega⟩
  · rw [ptrsC_snoc]
    exact ho.keepK (ids := [p]) (fun k o hk hn => by rw [T.get_upd_ne _ _ (by simpa using hn)]; exact hk) fun id hid hm => by rw [hsb] at hid; cases hid; simp at hm; omega
  · rw [List.take_succ_eq_append_getElem (List.getElem?_eq_some_iff.1 hc).1, (List.getElem?_eq_some_iff.1 hc).2, List.replicate_succ']
    refine hr.keep hk fun r hr9 => ?_
    obtain ⟨⟨c1, t1⟩, c2, t2⟩ := hty r hr9
    rw [T.get_upd_ne _ _ (fun e => by rw [e, g1] at t1; simp only [Option.some.injEq, Obj.cells.injEq] at t1; exact e3 t1.2.1), T.get_upd_ne _ _ (fun e => by rw [e, g1] at t2; simp only [Option.some.injEq, Obj.cells.injEq] at t2; exact e4 t2.2.1), hgk t1 e1 (hn1.2.1 r hr9).1, hgk t2 e2 (hn1.2.1 r hr9).2, t1, t2]
    exact ⟨rfl, rfl⟩
  · have := hq1 r hr; omega
  · obtain ⟨r, hr, h9⟩ := mem_blks.1 hk
    rcases List.mem_append.1 hr with hr | hr
    · exact g6 k (mem_blks.2 ⟨r, hr, h9⟩)
    · simp at hr; subst hr; omega
  · have hlt := g9.lt' hk
    have h9 := g7 k o hk
    rw [T.get_upd_ne _ _ (by omega)]
    refine hg k o h9 (by have := hn1.2.2; omega) fun e => ?_
    have := (g2.blk e).1
    omega
theorem NI.fin {d : AutoD} (hk : RgOk RR tp ta) (e1 : tp ≠ te) (e2 : ta ≠ te) (e5 : tm ≠ te) {X0 : List Nat} (hX0 : ∀ k ∈ X0, k < nC) (hi : NI RR tm tp te hC nC p d.c d.many cv sv d.counts d.counts.length h nx ps rv) (hA : RAuto ro (del hC X0) (autL d.c d.many cv sv) d) : MX RR tm ro h (X0 ++ (p :: blks ps)) p ps d (newM d) := by
  obtain ⟨g1, g2, g3, g4, g5, g6, g7, g8, g9, g10, g11⟩ := hi
  have hX : ∀ k ∈ p :: blks ps, nC ≤ k := fun k hk => by
    rcases List.mem_cons.1 hk with rfl | hk
    · exact g10
    · exact g6 k hk
  have hrs : (newM d).rs = List.replicate d.counts.length noR := List.map_const' ..
  rw [List.take_length] at g4
  have hsub : Sub (del hC X0) (del h (X0 ++ (p :: blks ps))) := fun k o hk => by
    rw [del_get] at hk
    split at hk
    · cases hk
    · rename_i hn
      have := g9.lt' hk
      exact del_some (g7 k o hk) fun hm => by
        rcases List.mem_append.1 hm with hm | hm
        · exact hn hm
        · have := hX k hm; omega
  refine ⟨cv, sv, rv, g1, hA.sub hsub, (g2.del fun id hid hm => ?_).sl, by rw [hrs]; exact g4, g5, List.mem_append.2 (.inr (List.mem_cons_self ..)), fun k hk => List.mem_append.2 (.inr (List.mem_cons_of_mem _ hk))⟩
  rcases List.mem_append.1 hm with hm | hm
  · have := hX0 id hm; have := (g2.blk hid).1; omega
  rcases List.mem_cons.1 hm with rfl | hm
  · exact g2.ne g1 e5 hid
  · obtain ⟨r, hr, h9⟩ := mem_blks.1 hm
    obtain ⟨⟨c1, t1⟩, c2, t2⟩ := g4.ty hk r hr
    rcases h9 with rfl | rfl
    · exact g2.ne t1 e1 hid
    · exact g2.ne t2 e2 hid
end
section
variable {ro : Ro} {h : T Obj} {nx : Nat} {K : KV} {x : List Value} {d : AutoD}
theorem cnt_bounds (ha : autoOk d = true) {k : Nat} (hk : k < d.counts.length) : 1 ≤ (d.counts[k]).2.toNat ∧ (d.counts[k]).2.toNat ≤ 4096 ∧ ((d.counts[k]).2.toNat : Int) = (d.counts[k]).2 := by
  have := (autoOk_parts ha).2.2.2.2.1 _ (List.getElem_mem hk)
  omega
set_option maxRecDepth 8000 in
set_option maxHeartbeats 1000000 in
theorem exec_New_x {X0 : List Nat} (hf : Fr h nx) (hd : RAuto ro h x d) (hK0 : autoOk d = false → ∀ nx', nx ≤ nx' → K (.tuple #[.pointer none, .int .i64 1]) h nx')
    (hX0 : ∀ k ∈ X0, k < nx)
    (hK1 : autoOk d = true → ∀ p ps X h' nx', nx ≤ nx' → Fr h' nx' → Sub h h' → (∀ k ∈ X, nx ≤ k ∧ k < nx') → X = p :: blks ps → MI ro h' (X0 ++ X) p ps (er d) (newM d) → K (.tuple #[ptr p, .int .i64 0]) h' nx') : callP Tryz.prog ro i_exec_New [.agg x.toArray] h nx K := by
  obtain ⟨cv, sv, hxe, hc, hclt, hcv, hS, hb1, hb2⟩ := id hd
  have m7 := autL_counts (n := d.many) (cv := cv) (sv := sv) hc
  apply exec_New_of
  unfold exec_New
  refine param_mk hf (Nat.le_refl _) fun h1 hs1 hf1 g1 _ => ?_
  have g1 : h1.get nx = some (.cells x.toArray y_api_Auto) := g1
  have hxl : x.length = 259 := by rw [hxe]; exact autL_len hc
  have LA := loadA_all (ro := ro) (z := 0) (n := 259) (l := x) g1 hxl
  refine bindP_mk LA ?_
  refine auto_Right_c (hf1.mono (by omega)) (hd.sub hs1) fun n1 hn1 => ?_
  cases hok : autoOk d with
  | false =>
    (repeat (first | refine bindP_mk (by simp (disch := first | omega | exact Int.natCast_nonneg _ | assumption) only [BB, B2, ↓reduceIte, Nat.reduceLeDiff, Nat.reduceAdd, CC] <;> rfl) ?_ | refine newP_mk ?_ | refine optP_mk ?_ | with_reducible first | refine condP_t ?_ | refine condP_f ?_ | refine ifP_tt' ?_ | refine ifP_ff' ?_ | refine ifP_tf' ?_ | refine ifP_ft' ?_ | refine ifP_u' ?_ | refine optP_mk0 ?_))
    exact ⟨h, hs1, hK0 hok _ (by omega)⟩
  | true =>
    have hfit := ok_fit hok hc
    have hC512 := (autoOk_parts hok).2.1
    (repeat (first | refine bindP_mk (by simp (disch := first | omega | exact Int.natCast_nonneg _ | assumption) only [BB, B2, ↓reduceIte, Nat.reduceLeDiff, Nat.reduceAdd, CC] <;> rfl) ?_ | refine newP_mk ?_ | refine optP_mk ?_ | with_reducible first | refine condP_t ?_ | refine condP_f ?_ | refine ifP_tt' ?_ | refine ifP_ff' ?_ | refine ifP_tf' ?_ | refine ifP_ft' ?_ | refine ifP_u' ?_ | refine optP_mk0 ?_))
    refine bindP_mk LA ?_
    refine exec_copied_c (X0 := X0) (hf1.mono (by omega)) (fun k hk => by have := hX0 k hk; omega) (hd.sub hs1) hfit fun cv2 sv2 hC nC hnC hfC hsC hAC => ?_
    refine bindP_mk (build_MacE hc) (obj_mk hfC (by omega) fun h2 hs2 hf2 g2 _ => ?_)
    have g2 : h2.get (nC + 1) = some (.cells (machL d.c d.many cv2 sv2 0 nilS 0).toArray y_exec_Machine) := g2
    have g12 := hs2 _ _ (hsC _ _ g1)
    have hcv2 := hcv.sub ((hs1.trans hsC).trans hs2) fun _ _ h => h
    (repeat (first | refine bindP_mk (by simp (disch := first | omega | exact Int.natCast_nonneg _ | assumption) only [BB, B2, ↓reduceIte, Nat.reduceLeDiff, Nat.reduceAdd, CC] <;> rfl) ?_ | refine newP_mk ?_ | refine optP_mk ?_ | with_reducible first | refine condP_t ?_ | refine condP_f ?_ | refine ifP_tt' ?_ | refine ifP_ff' ?_ | refine ifP_tf' ?_ | refine ifP_ft' ?_ | refine ifP_u' ?_ | refine optP_mk0 ?_))
    refine bindP_mk (load1_get g12 (by rw [hxe]; exact m7)) ?_
    refine bindP_mk hcv2.len ?_
    have hNI0 : NI RI y_exec_Machine y_ring_Ring y_p_ring_Ring hC nC (nC + 1) d.c d.many cv2 sv2 d.counts 0 h2 (nC + 2) [] nilS := ⟨g2, OwnT.nil, rfl, ⟨rfl, rfl, fun i p c r hp => by simp at hp⟩, Dst.nil, (fun q hq => by simp [blks] at hq), hs2, hf2, hfC, by omega, by omega⟩
    refine loopP_rule (fun j e h' nx' => ∃ (k : Nat) (ps : List (Nat × Nat)) (rv : Value), k + j = d.counts.length ∧ nC + 2 ≤ nx' ∧ e 4 = ptr (nC + 1) ∧ e 17 = cv ∧ e 18 = .int .i64 d.counts.length ∧ e 19 = .int .i64 k ∧ NI RI y_exec_Machine y_ring_Ring y_p_ring_Ring hC nC (nC + 1) d.c d.many cv2 sv2 d.counts k h' nx' ps rv) ?_ (n := d.counts.length) ⟨0, [], nilS, by omega, by omega, rfl, rfl, rfl, rfl, hNI0.mono (by omega)⟩
    rintro j e h' nx' ⟨k, ps, rv, hj, hnx, e4, e17, e18, e19, hi⟩ Q' hq hx
    have hfh := hi.2.2.2.2.2.2.2.1
    have hsh := hi.2.2.2.2.2.2.1
    unfold exec_New_L1
    rw [e4, e17, e18, e19]
    refine lss_s (fun hk => ?_) (fun hk => ?_)
    · have hk : k < d.counts.length := by omega
      obtain ⟨b1, b2, b3⟩ := cnt_bounds hok hk
      have hcvh := hcv.sub ((hs1.trans hsC).trans hsh) fun _ _ h => h
      have hix := hcvh.ix .i64 hk
      obtain ⟨y, hy1, hy2, hy3, hy4, hy5⟩ := hcvh.at hk
      have hck : d.counts[k]? = some d.counts[k] := List.getElem?_eq_getElem _
      generalize d.counts[k] = cc at b1 b2 b3 hy1 hck
      obtain rfl : y = [.int .i64 cc.1, .int .i64 cc.2] := hy1
      (repeat (first | refine bindP_mk (by simp (disch := first | omega | exact Int.natCast_nonneg _ | assumption) only [BB, B2, ↓reduceIte, Nat.reduceLeDiff, Nat.reduceAdd, CC] <;> rfl) ?_ | refine newP_mk ?_ | refine optP_mk ?_ | with_reducible first | refine condP_t ?_ | refine condP_f ?_ | refine ifP_tt' ?_ | refine ifP_ff' ?_ | refine ifP_tf' ?_ | refine ifP_ft' ?_ | refine ifP_u' ?_ | refine optP_mk0 ?_))
      refine bindP_mk hix (bindP_mk hy3 ?_)
      refine local_mk (x := [.int .i64 cc.1, .int .i64 cc.2]) zer_a2 rfl rfl rfl rfl hfh (by omega) fun h3 hs3 hf3 g3 _ => ?_
      (repeat (first | refine bindP_mk (by simp (disch := first | omega | exact Int.natCast_nonneg _ | assumption) only [BB, B2, ↓reduceIte, Nat.reduceLeDiff, Nat.reduceAdd, CC, g3] <;> rfl) ?_ | refine newP_mk ?_ | refine optP_mk ?_ | with_reducible first | refine condP_t ?_ | refine condP_f ?_ | refine ifP_tt' ?_ | refine ifP_ff' ?_ | refine ifP_tf' ?_ | refine ifP_ft' ?_ | refine ifP_u' ?_ | refine optP_mk0 ?_))
      rw [← b3]
      refine ring_New_c (hf3.mono (by omega)) b1 b2 fun p' a' h4 n4 hp' ha' hn4 hs4 hf4 hR4 => ?_
      refine bindP_mk (nth0 _ _) (bindP_mk (nth1 _ _) ?_)
      have hi4 := hi.sub (n' := n4) RI_ok (hs3.trans hs4) hf4 (by omega)
      have m0 := machL_260 (n := d.many) (cv := cv2) (sv := sv2) (cur := 0) (rv := rv) (steps := 0) hc
      refine neq_f rfl ?_
      (repeat (first | refine bindP_mk (by simp (disch := first | omega | exact Int.natCast_nonneg _ | assumption) only [BB, B2, ↓reduceIte, Nat.reduceLeDiff, Nat.reduceAdd, CC, nilCk_at] <;> rfl) ?_ | refine newP_mk ?_ | refine optP_mk ?_ | with_reducible first | refine condP_t ?_ | refine condP_f ?_ | refine ifP_tt' ?_ | refine ifP_ff' ?_ | refine ifP_tf' ?_ | refine ifP_ft' ?_ | refine ifP_u' ?_ | refine optP_mk0 ?_))
      refine bindP_mk (load1_get hi4.1 m0) ?_
      obtain ⟨i, t1, t2, t3⟩ := tin_pE
      have hplen : ps.length ≤ 1000000 := by have := hi.2.2.1; omega
      refine app_at (z := 1) (l := ptrsC ps) (y := [ptr p']) (lit_pE _ _) rfl hi4.2.1 und_spE t1 (by omega) (by omega) zer_pE rfl rfl (by rw [ptrsC_len, t3]; unfold big; omega) (by rw [ptrsC_len]; unfold big; omega) (hf4.mono (by omega)) (by omega) (by omega) (fun e => by have := hf4.lt' (hi4.2.1.blk e).2; omega) fun h5 ho5 hk5 hf5 => ?_
      generalize hnv : Value.slice (some (own (n4 + 15) 1)) (ptrsC ps ++ [[ptr p']]).length (ptrsC ps ++ [[ptr p']]).length = rv2 at ho5
      have hsb : sblk rv2 = some (n4 + 15) := by rw [← hnv]; rfl
      have g5 := hk5 _ _ hi4.1 (by have := hf4.lt' hi4.1; omega) (hi4.2.1.ne hi4.1 (by decide))
      have hlt4 := hi.2.2.2.1.lt RI_ok hfh
      have hfin := hi4.step (h' := h5) (q := (p', a')) (cc := cc) (rv2 := rv2) (n1 := n4 + 13) (n2 := n4 + 15) (lo := nC) RI_ok (by decide) (by decide) (by decide) (by decide) (by decide) hc hck hR4 (fun r hr => by have := hlt4 r hr; show r.1 < p' ∧ r.2 < a'; omega) (by show nC ≤ p' ∧ nC ≤ a'; omega) ⟨by have := hf4.lt' hi4.1; omega, fun r hr => by
        rcases List.mem_append.1 hr with hr | hr
        · have := hlt4 r hr; omega
        · simp at hr; subst hr; have := RI_ok.p hR4; have := RI_ok.a hR4; obtain ⟨c1, t8⟩ := RI_ok.p hR4; obtain ⟨c2, t9⟩ := RI_ok.a hR4; have := hf4.lt' t8; have := hf4.lt' t9; show p' ≠ _ ∧ a' ≠ _; omega, by omega⟩ ho5 hsb (by omega) hk5 hf5
      dsimp only
      (repeat (first | refine bindP_mk (by simp (disch := first | omega | exact Int.natCast_nonneg _ | assumption) only [BB, B2, ↓reduceIte, Nat.reduceLeDiff, Nat.reduceAdd, CC, nilCk_at] <;> rfl) ?_ | refine newP_mk ?_ | refine optP_mk ?_ | with_reducible first | refine condP_t ?_ | refine condP_f ?_ | refine ifP_tt' ?_ | refine ifP_ff' ?_ | refine ifP_tf' ?_ | refine ifP_ft' ?_ | refine ifP_u' ?_ | refine optP_mk0 ?_))
      refine bindP_mk (store1_own g5 (by rw [machL_len hc]; omega) ho5.ok (by rw [← hnv]; rfl)) ?_
      rw [machL_set260 hc]
      (repeat (first | refine bindP_mk (by simp (disch := first | omega | exact Int.natCast_nonneg _ | assumption) only [BB, B2, ↓reduceIte, Nat.reduceLeDiff, Nat.reduceAdd, CC] <;> rfl) ?_ | refine newP_mk ?_ | refine optP_mk ?_ | with_reducible first | refine condP_t ?_ | refine condP_f ?_ | refine ifP_tt' ?_ | refine ifP_ff' ?_ | refine ifP_tf' ?_ | refine ifP_ft' ?_ | refine ifP_u' ?_ | refine optP_mk0 ?_))
      exact hq (j - 1) _ _ _ _ (by omega) ⟨k + 1, ps ++ [(p', a')], rv2, by omega, by omega, e4, e17, e18, rfl, hfin.mono (by omega)⟩ (Sub.refl _)
    · (repeat (first | refine bindP_mk (by simp (disch := first | omega | exact Int.natCast_nonneg _ | assumption) only [BB, B2, ↓reduceIte, Nat.reduceLeDiff, Nat.reduceAdd, CC] <;> rfl) ?_ | refine newP_mk ?_ | refine optP_mk ?_ | with_reducible first | refine condP_t ?_ | refine condP_f ?_ | refine ifP_tt' ?_ | refine ifP_ff' ?_ | refine ifP_tf' ?_ | refine ifP_ft' ?_ | refine ifP_u' ?_ | refine optP_mk0 ?_))
      refine hx _ _ _ _ (fun e => by cases e) (exP_e (beqP_t ?_))
      obtain rfl : k = d.counts.length := by omega
      have hMX := NI.fin (ro := ro) (d := er d) (X0 := X0) RI_ok (by decide) (by decide) (by decide) (fun k hk => by have := hX0 k hk; omega) hi hAC
      have hend : ∀ (e' : Env) n', e' 4 = ptr (nC + 1) → nx' ≤ n' → exec_New_j1 ro K e' h' n' := by
        intro e' n' f4 hn'
        unfold exec_New_j1
        rw [f4]
        refine ⟨h', Sub.refl _, hK1 hok _ ps _ h' _ (by omega) (hfh.mono (by omega)) ((hs1.trans hsC).trans hsh) (fun k hk => ?_) rfl hMX⟩
        have hlt9 := hMX.lt RI_ok hfh
        rcases List.mem_cons.1 hk with rfl | hk
        · have := hlt9.1; omega
        · have := hi.2.2.2.2.2.1 k hk; have := hlt9.2 k hk; omega
      exact hend _ _ e4 (by omega)
theorem exec_New_c {X0 : List Nat} (hf : Fr h nx) (hd : RAuto ro h x d) (hK0 : autoOk d = false → ∀ nx', nx ≤ nx' → K (.tuple #[.pointer none, .int .i64 1]) h nx') (hX0 : ∀ k ∈ X0, k < nx)
    (hK1 : autoOk d = true → ∀ p ps X h' nx', nx ≤ nx' → Fr h' nx' → Sub h h' → (∀ k ∈ X, nx ≤ k ∧ k < nx') → MI ro h' (X0 ++ X) p ps (er d) (newM d) → K (.tuple #[ptr p, .int .i64 0]) h' nx') : callP Tryz.prog ro i_exec_New [.agg x.toArray] h nx K :=
  exec_New_x hf hd hK0 hX0 fun h1 p ps X h' n' h2 h3 h4 h5 _ h6 => hK1 h1 p ps X h' n' h2 h3 h4 h5 h6
end
end V
end Go.Proofs.YtjndkdmkecpllaaGreat
set_option linter.unusedVariables false
set_option linter.unusedSimpArgs false
namespace Go.Proofs.YtjndkdmkecpllaaGreat
namespace V
set_option maxRecDepth 1000000 in
theorem shown_orc : Orc Tryz.prog i_law13_shown (.bool true) := orc_ev okZ okN okM orcF_ok (k := 200) rfl (by kernel_rfl) fun ro => by kernel_rfl
theorem shown_c {ro : Ro} {h : T Obj} {nx : Nat} {K : KV} (hK : K (.bool true) h nx) : callP Tryz.prog ro i_law13_shown [] h nx K := callP_orc shown_orc hK
end V
end Go.Proofs.YtjndkdmkecpllaaGreat
set_option linter.unusedVariables false
set_option linter.unusedSimpArgs false
namespace Go.Proofs.YtjndkdmkecpllaaGreat
namespace V
attribute [local irreducible] callPre callP bindP
end V
end Go.Proofs.YtjndkdmkecpllaaGreat
set_option linter.unusedVariables false
set_option linter.unusedSimpArgs false
namespace Go.Proofs.YtjndkdmkecpllaaGreat
namespace V
attribute [local irreducible] bindP ifP condP newP optP exP beqP
theorem min_int (h : T Obj) (ts : Array TypeId) (a b : Int) : builtinQ Tryz.prog h .min ts [.int .i64 a, .int .i64 b] = some (.int .i64 (min a b)) := by
  unfold builtinQ
  simp only [minL_eq, minL, minB]
  by_cases e : b < a
  · simp only [e, decide_true]; congr 2; omega
  · simp only [e, decide_false]; congr 2; omega
theorem RAuto.len {ro : Ro} {h : T Obj} {x : List Value} {d : AutoD} (hd : RAuto ro h x d) : x.length = 259 := by
  obtain ⟨cv, sv, rfl, hc, _⟩ := hd; exact autL_len hc
theorem Sub.e' (h : T Obj) : Sub .e h := fun k o e => by rw [T.get_e] at e; cases e
theorem pNil (id off z : Nat) : ptrB .eql (at_ id off z) (.pointer none) = some (.bool false) := rfl
section
variable {ro : Ro} {h : T Obj} {nx : Nat} {K : KV}
end
end V
end Go.Proofs.YtjndkdmkecpllaaGreat
set_option linter.unusedVariables false
set_option linter.unusedSimpArgs false
set_option maxRecDepth 8000
namespace Go.Proofs.YtjndkdmkecpllaaGreat
namespace V
open Go.ChangeShapes Go.WideShapes Go.ChangeAt Go.RowKit Go.Deep
set_option maxRecDepth 8000
section
variable {H : Type} {enc : TypeId × Value → H} {W : World}
def fieldsOf (P : Program) (t : TypeId) : Option (List (Nat × TypeId)) := match und P t with
  | some (.struct fs) => some (fs.toList.map fun f => (f.offset, f.type))
  | _ => none
theorem trod_fields {t : TypeId} {L : List (Nat × TypeId)} (hL : fieldsOf Tryz.prog t = some L) {fuel : Nat} {cs : List Value} {x : DataW H × List MemPlace} (h : DataW.trod enc Tryz.prog W 0 (fun _ => true) true fuel t cs = some x) :
    cs.length = Tryz.prog.cellsOf t ∧ ∃ n, ∀ (i o : Nat) (ty : TypeId), L[i]? = some (o, ty) → ∃ y, DataW.trod enc Tryz.prog W 0 (fun _ => true) true n ty ((cs.drop o).take (Tryz.prog.cellsOf ty)) = some y := by
  unfold fieldsOf at hL
  split at hL
  · rename_i fs hu
    cases hL
    obtain ⟨xs, n, _, _, hlen, hxs, hf⟩ := DataW.trod_struct (und_under hu) h
    refine ⟨hlen, n, fun i o ty hi => ?_⟩
    rw [List.getElem?_map] at hi
    cases hq : fs.toList[i]? with
    | none => rw [hq] at hi; cases hi
    | some f =>
      rw [hq] at hi
      cases hi
      have hfs : fs[i]? = some f := by simpa using hq
      have hil := (List.getElem?_eq_some_iff.1 hq).1
      have hx : xs[i]? = some (xs[i]'(by rw [hxs]; simpa using hil)) := List.getElem?_eq_getElem _
      exact ⟨_, by rw [hf i f hfs, hx]⟩
  · cases hL
theorem okWide_agg {t : TypeId} {L : List (Nat × TypeId)} (hL : fieldsOf Tryz.prog t = some L) {v : Value} {base : Nat} (hval : Value.okWide Tryz.prog W .any base t v) : ∃ cs, v = .agg cs := by
  unfold fieldsOf at hL
  split at hL
  · rename_i fs hu
    unfold Value.okWide at hval
    rw [und_under hu] at hval
    obtain ⟨cs, e, _⟩ := hval
    exact ⟨cs, e⟩
  · cases hL
theorem int_cell {n : Nat} {cs : List Value} {y : DataW H × List MemPlace} (h : DataW.trod enc Tryz.prog W 0 (fun _ => true) true n y_int cs = some y) : ∃ a : Int, cs = [.int .i64 a] := by
  have hu : Tryz.prog.underlying y_int = some (.int .i64) := by kernel_rfl
  obtain ⟨a, rfl, _⟩ := DataW.trod_int hu h
  exact ⟨a, rfl⟩
theorem u8_cell {n : Nat} {cs : List Value} {y : DataW H × List MemPlace} (h : DataW.trod enc Tryz.prog W 0 (fun _ => true) true n y_uint8 cs = some y) : ∃ a : Nat, cs = [.int .u8 (a : Int)] ∧ a < 256 := by
  have hu : Tryz.prog.underlying y_uint8 = some (.int .u8) := by kernel_rfl
  obtain ⟨a, rfl, _, hw⟩ := DataW.trod_int hu h
  have := wf_u8 hw
  exact ⟨a.toNat, by rw [Int.toNat_of_nonneg this.1], by omega⟩
theorem norm_len {N : Nat} {v v' : Value} {o : Option Addr} {l c : Nat} (hv : v = .slice o l c) (h : norm N v = some v') : lenSl v' = some (.int .i64 l) := by
  subst hv
  unfold norm at h
  split at h
  · rename_i h1
    cases h
    cases h1
    rfl
  · rename_i h1
    cases h1
    split at h
    · cases h; rfl
    · cases h
  · rename_i h1; cases h1
  · split at h
    · cases h; rfl
    · cases h
theorem open_slB {D : Type} {t e : TypeId} {z : Nat} {R : List Value → D → Prop} (ht : Tryz.prog.underlying t = some (.slice e)) (hz : Tryz.prog.cellsOf e = z) (hz0 : 0 < z) {fuel : Nat} {cs : List Value} {x : DataW H × List MemPlace} (h : DataW.trod enc Tryz.prog W 0 (fun _ => true) true fuel t cs = some x)
    (hel : ∀ n cs' y, DataW.trod enc Tryz.prog W 0 (fun _ => true) true n e cs' = some y → ∃ cs'', normL W.heap.size cs' = some cs'' ∧ ∃ d, R cs'' d) : ∃ v v' l, cs = [v] ∧ norm W.heap.size v = some v' ∧ SlR (roOf W) .e v' z R l ∧ l.length ≤ maxB := by
  obtain ⟨v, v', hv, hn, l, hl, hall⟩ := open_sl ht hz hz0 h (El := fun x => ∃ d, R x d) hel
  have hbound : l.length ≤ maxB := by
    have hlen := hl.len
    rcases open_slice ht h with ⟨h1, _⟩ | ⟨a, len, cap, m, n, D, Pl, h1, _, hle, hm, _⟩
    · rw [hv] at h1
      have h2 := norm_len (List.cons.inj h1).1 hn
      rw [hlen] at h2
      simp only [Option.some.injEq, Value.int.injEq, true_and] at h2
      have : l.length = 0 := by omega
      rw [this]; unfold maxB; omega
    · rw [hv] at h1
      have h2 := norm_len (List.cons.inj h1).1 hn
      rw [hlen] at h2
      simp only [Option.some.injEq, Value.int.injEq, true_and] at h2
      unfold maxLen at hm
      unfold maxB
      omega
  refine ⟨v, v', ?_⟩
  have e : ∃ ds : List D, l.length = ds.length ∧ ∀ (i : Nat) x d, l[i]? = some x → ds[i]? = some d → R x d := by
    clear hl hbound
    induction l with
    | nil => exact ⟨[], rfl, fun i x d hx => by simp at hx⟩
    | cons x l ih =>
      obtain ⟨ds, h1, h2⟩ := ih fun y hy => hall y (by simp [hy])
      obtain ⟨d, hd⟩ := hall x (by simp)
      refine ⟨d :: ds, by simp [h1], fun i x' d' hx hd' => ?_⟩
      cases i with
      | zero => simp at hx hd'; subst hx; subst hd'; exact hd
      | succ i => exact h2 i x' d' (by simpa using hx) (by simpa using hd')
  obtain ⟨ds, h1, h2⟩ := e
  exact ⟨ds, hv, hn, ⟨l, hl, h1, h2⟩, by rw [← h1]; exact hbound⟩
theorem ints_cellB {n : Nat} {cs : List Value} {y : DataW H × List MemPlace} (h : DataW.trod enc Tryz.prog W 0 (fun _ => true) true n y_s_int cs = some y) : ∃ v v' l, cs = [v] ∧ norm W.heap.size v = some v' ∧ ZI (roOf W) .e v' l ∧ l.length ≤ maxB := by
  have hu : Tryz.prog.underlying y_s_int = some (.slice y_int) := by kernel_rfl
  have hc : Tryz.prog.cellsOf y_int = 1 := by kernel_rfl
  obtain ⟨v, v', l, hv, hn, ⟨cs, h1, h2, h3⟩, hb⟩ := open_slB (R := fun x (a : Int) => x = [Value.int .i64 a]) hu hc (by omega) h fun n cs' y hy => by
    obtain ⟨a, rfl⟩ := int_cell hy
    exact ⟨_, rfl, a, rfl⟩
  refine ⟨v, v', l, hv, hn, ?_, hb⟩
  have e : cs = intsZ l := by
    refine List.ext_getElem? fun i => ?_
    unfold intsZ
    rw [List.getElem?_map]
    cases hi : l[i]? with
    | none =>
      have := List.getElem?_eq_none_iff.1 hi
      rw [List.getElem?_eq_none (by omega)]; rfl
    | some a =>
      have hil := (List.getElem?_eq_some_iff.1 hi).1
      have hx : cs[i]? = some (cs[i]'(by omega)) := List.getElem?_eq_getElem (by omega)
      rw [hx, h3 i _ a hx hi]; rfl
  unfold ZI
  rw [← e]; exact h1
theorem one_norm {W : World} {v v' : Value} (hn : norm W.heap.size v = some v') : normL W.heap.size [v] = some [v'] := by
  simp only [normL, hn]; rfl
theorem ops_cells {n : Nat} {cs : List Value} {y : DataW H × List MemPlace} (h : DataW.trod enc Tryz.prog W 0 (fun _ => true) true n y_s_uint8 cs = some y) : ∃ v v' l, cs = [v] ∧ norm W.heap.size v = some v' ∧ SlR (roOf W) .e v' 1 RU8 l ∧ l.length ≤ maxB := by
  have hu : Tryz.prog.underlying y_s_uint8 = some (.slice y_uint8) := by kernel_rfl
  have hc : Tryz.prog.cellsOf y_uint8 = 1 := by kernel_rfl
  exact open_slB hu hc (by omega) h fun n cs' y hy => by
    obtain ⟨a, rfl, ha⟩ := u8_cell hy
    exact ⟨_, rfl, a, rfl, ha⟩
theorem move_cells {n : Nat} {cs : List Value} {y : DataW H × List MemPlace} (h : DataW.trod enc Tryz.prog W 0 (fun _ => true) true n y_api_Move cs = some y) : ∃ cs'', normL W.heap.size cs = some cs'' ∧ ∃ d, RMove (roOf W) .e cs'' d := by
  have hL : fieldsOf Tryz.prog y_api_Move = some [(0, y_int), (1, y_s_uint8)] := by kernel_rfl
  have c0 : Tryz.prog.cellsOf y_api_Move = 2 := by kernel_rfl
  have c2 : Tryz.prog.cellsOf y_int = 1 := by kernel_rfl
  have c4 : Tryz.prog.cellsOf y_s_uint8 = 1 := by kernel_rfl
  obtain ⟨hlen, m, hf⟩ := trod_fields hL h
  obtain ⟨_, f0⟩ := hf 0 _ _ rfl
  obtain ⟨_, f1⟩ := hf 1 _ _ rfl
  rw [c0] at hlen
  rw [c2] at f0
  rw [c4] at f1
  obtain ⟨p, g0⟩ := int_cell f0
  obtain ⟨v, v', l, g1, hn, hz, hb⟩ := ops_cells f1
  match cs, hlen with
  | [a0, a1], _ =>
    simp at g0 g1
    subst g0 g1
    refine ⟨[.int .i64 p, v'], ?_, ⟨p, l⟩, v', rfl, hz, hb⟩
    simp only [normL, hn]; rfl
theorem row_cells {n : Nat} {cs : List Value} {y : DataW H × List MemPlace} (h : DataW.trod enc Tryz.prog W 0 (fun _ => true) true n y_s_api_Move cs = some y) : ∃ cs'', normL W.heap.size cs = some cs'' ∧ ∃ d, RRow (roOf W) .e cs'' d := by
  have hu : Tryz.prog.underlying y_s_api_Move = some (.slice y_api_Move) := by kernel_rfl
  have hc : Tryz.prog.cellsOf y_api_Move = 2 := by kernel_rfl
  obtain ⟨v, v', l, rfl, hn, hl, hb⟩ := open_slB hu hc (by omega) h fun n cs' y hy => move_cells hy
  exact ⟨[v'], one_norm hn, l, v', rfl, hl, hb⟩
theorem rows_cells {n : Nat} {cs : List Value} {y : DataW H × List MemPlace} (h : DataW.trod enc Tryz.prog W 0 (fun _ => true) true n y_s_s_api_Move cs = some y) : ∃ v v' l, cs = [v] ∧ norm W.heap.size v = some v' ∧ SlR (roOf W) .e v' 1 (RRow (roOf W) .e) l ∧ l.length ≤ maxB := by
  have hu : Tryz.prog.underlying y_s_s_api_Move = some (.slice y_s_api_Move) := by kernel_rfl
  have hc : Tryz.prog.cellsOf y_s_api_Move = 1 := by kernel_rfl
  exact open_slB hu hc (by omega) h fun n cs' y hy => row_cells hy
theorem state_cells {n : Nat} {cs : List Value} {y : DataW H × List MemPlace} (h : DataW.trod enc Tryz.prog W 0 (fun _ => true) true n y_api_State cs = some y) : ∃ cs'', normL W.heap.size cs = some cs'' ∧ ∃ d, RState (roOf W) .e cs'' d := by
  have hL : fieldsOf Tryz.prog y_api_State = some [(0, y_s_int), (1, y_s_int), (2, y_s_int), (3, y_s_s_api_Move)] := by kernel_rfl
  have c0 : Tryz.prog.cellsOf y_api_State = 4 := by kernel_rfl
  have c2 : Tryz.prog.cellsOf y_s_int = 1 := by kernel_rfl
  have c4 : Tryz.prog.cellsOf y_s_s_api_Move = 1 := by kernel_rfl
  obtain ⟨hlen, m, hf⟩ := trod_fields hL h
  obtain ⟨_, f0⟩ := hf 0 _ _ rfl
  obtain ⟨_, f1⟩ := hf 1 _ _ rfl
  obtain ⟨_, f2⟩ := hf 2 _ _ rfl
  obtain ⟨_, f3⟩ := hf 3 _ _ rfl
  rw [c0] at hlen
  rw [c2] at f0 f1 f2
  rw [c4] at f3
  obtain ⟨v0, w0, l0, g0, n0, z0, b0⟩ := ints_cellB f0
  obtain ⟨v1, w1, l1, g1, n1, z1, b1⟩ := ints_cellB f1
  obtain ⟨v2, w2, l2, g2, n2, z2, b2⟩ := ints_cellB f2
  obtain ⟨v3, w3, l3, g3, n3, z3, b3⟩ := rows_cells f3
  match cs, hlen with
  | [a0, a1, a2, a3], _ =>
    simp at g0 g1 g2 g3
    subst g0 g1 g2 g3
    refine ⟨[w0, w1, w2, w3], ?_, ⟨l0, l1, l2, l3⟩, w0, w1, w2, w3, rfl, z0, z1, z2, z3, b1⟩
    simp only [normL, n0, n1, n2, n3]; rfl
theorem count_cells {n : Nat} {cs : List Value} {y : DataW H × List MemPlace} (h : DataW.trod enc Tryz.prog W 0 (fun _ => true) true n y_a2_int cs = some y) : ∃ cs'', normL W.heap.size cs = some cs'' ∧ ∃ d, RCount cs'' d := by
  have hu : Tryz.prog.underlying y_a2_int = some (.array 2 y_int) := by kernel_rfl
  have hc : Tryz.prog.cellsOf y_a2_int = 2 := by kernel_rfl
  have hc1 : Tryz.prog.cellsOf y_int = 1 := by kernel_rfl
  obtain ⟨xs, m, _, _, hlen, hxs, hel⟩ := DataW.trod_array hu h
  rw [hc] at hlen
  have el : ∀ i, i < 2 → ∃ a : Int, (cs.drop i).take 1 = [.int .i64 a] := by
    intro i hi
    have := hel i hi
    rw [hc1, Nat.mul_one] at this
    have hx : xs[i]? = some xs[i] := List.getElem?_eq_getElem (by omega)
    rw [hx] at this
    exact int_cell this
  match cs, hlen with
  | [a0, a1], _ =>
    obtain ⟨x0, g0⟩ := el 0 (by omega)
    obtain ⟨x1, g1⟩ := el 1 (by omega)
    simp at g0 g1
    subst g0 g1
    exact ⟨_, rfl, (x0, x1), rfl⟩
theorem split_cells {n : Nat} {cs : List Value} {y : DataW H × List MemPlace} (h : DataW.trod enc Tryz.prog W 0 (fun _ => true) true n y_api_Split cs = some y) : ∃ (c : List Nat) (k : Int), c.length = 256 ∧ (∀ x ∈ c, x < 256) ∧ cs = splitLI c k := by
  have hL : fieldsOf Tryz.prog y_api_Split = some [(0, y_a256_uint8), (256, y_int)] := by kernel_rfl
  have c0 : Tryz.prog.cellsOf y_api_Split = 257 := by kernel_rfl
  have c2 : Tryz.prog.cellsOf y_a256_uint8 = 256 := by kernel_rfl
  have c4 : Tryz.prog.cellsOf y_int = 1 := by kernel_rfl
  have hc8 : Tryz.prog.cellsOf y_uint8 = 1 := by kernel_rfl
  have hua : Tryz.prog.underlying y_a256_uint8 = some (.array 256 y_uint8) := by kernel_rfl
  obtain ⟨hlen, m, hf⟩ := trod_fields hL h
  obtain ⟨_, f0⟩ := hf 0 _ _ rfl
  obtain ⟨_, f1⟩ := hf 1 _ _ rfl
  rw [c0] at hlen
  rw [c2, List.drop_zero] at f0
  rw [c4] at f1
  obtain ⟨k, hk⟩ := int_cell f1
  obtain ⟨xs, m, _, _, hl0, hxs, hel⟩ := DataW.trod_array hua f0
  have el : ∀ i, i < 256 → ∃ a : Nat, cs[i]? = some (.int .u8 (a : Int)) ∧ a < 256 := by
    intro i hi
    have h1 := hel i hi
    rw [hc8, Nat.mul_one, List.drop_take, List.take_take] at h1
    have hx : xs[i]? = some xs[i] := List.getElem?_eq_getElem (by omega)
    rw [hx, show min 1 (256 - i) = 1 by omega] at h1
    obtain ⟨a, h2, h3⟩ := u8_cell h1
    refine ⟨a, ?_, h3⟩
    have h4 : ((cs.drop i).take 1)[0]? = some (.int .u8 (a : Int)) := by rw [h2]; rfl
    rw [List.getElem?_take] at h4
    simpa using h4
  have key : ∀ i, i ≤ 256 → ∃ c : List Nat, c.length = i ∧ (∀ x ∈ c, x < 256) ∧ cs.take i = u8s c := by
    intro i
    induction i with
    | zero => intro _; exact ⟨[], rfl, by simp, by simp [u8s]⟩
    | succ i ih =>
      intro hi
      obtain ⟨c, c1, c2, c3⟩ := ih (by omega)
      obtain ⟨a, h1, h2⟩ := el i (by omega)
      refine ⟨c ++ [a], by simp [c1], ?_, ?_⟩
      · intro x hx
        rcases List.mem_append.1 hx with h | h
        · exact c2 x h
        · simp at h; omega
      · have hil : i < cs.length := by omega
        rw [List.getElem?_eq_getElem hil] at h1
        rw [List.take_succ_eq_append_getElem hil, Option.some.inj h1, c3]
        simp [u8s]
  obtain ⟨c, c1, c2, c3⟩ := key 256 (Nat.le_refl _)
  refine ⟨c, k, c1, c2, ?_⟩
  unfold splitLI
  rw [← List.take_append_drop 256 cs, c3]
  congr 1
  rw [← hk, List.take_of_length_le (by rw [List.length_drop]; omega)]
theorem normL_split {N : Nat} (k : Int) {v w v' w' : Value} (h1 : norm N v = some v') (h2 : norm N w = some w') : ∀ c : List Nat, normL N (autL c k v w) = some (autL c k v' w')
  | [] => by
    show normL N [.int .i64 k, v, w] = some [.int .i64 k, v', w']
    simp only [normL, h1, h2]; rfl
  | a :: c => by
    have e : ∀ x y, autL (a :: c) k x y = .int .u8 (a : Int) :: autL c k x y := fun _ _ => rfl
    rw [e, e]
    simp only [normL, normL_split k h1 h2 c]; rfl
theorem open_auto {v : Value} {d : DataW H} {p : List MemPlace} (h : DataW.Trod enc Tryz.prog W 0 (fun _ => true) true y_api_Auto v d p) {base : Nat} (hval : Value.okWide Tryz.prog W .any base y_api_Auto v) : ∃ x a, Arg W.heap.size (.agg x.toArray) v ∧ RAuto (roOf W) .e x a := by
  have hL : fieldsOf Tryz.prog y_api_Auto = some [(0, y_api_Split), (257, y_s_a2_int), (258, y_s_api_State)] := by kernel_rfl
  have c0 : Tryz.prog.cellsOf y_api_Auto = 259 := by kernel_rfl
  have c2 : Tryz.prog.cellsOf y_api_Split = 257 := by kernel_rfl
  have c4 : Tryz.prog.cellsOf y_s_a2_int = 1 := by kernel_rfl
  have c5 : Tryz.prog.cellsOf y_s_api_State = 1 := by kernel_rfl
  have hu1 : Tryz.prog.underlying y_s_a2_int = some (.slice y_a2_int) := by kernel_rfl
  have hu2 : Tryz.prog.underlying y_s_api_State = some (.slice y_api_State) := by kernel_rfl
  have hc1 : Tryz.prog.cellsOf y_a2_int = 2 := by kernel_rfl
  have hc2 : Tryz.prog.cellsOf y_api_State = 4 := by kernel_rfl
  obtain ⟨cs, rfl⟩ := okWide_agg hL hval
  obtain ⟨fuel, hf⟩ := h
  have ecs : (Value.agg cs).cells.toList = cs.toList := rfl
  rw [ecs] at hf
  obtain ⟨hlen, m, hf⟩ := trod_fields hL hf
  obtain ⟨_, f0⟩ := hf 0 _ _ rfl
  obtain ⟨_, f1⟩ := hf 1 _ _ rfl
  obtain ⟨_, f2⟩ := hf 2 _ _ rfl
  rw [c0] at hlen
  rw [c2, List.drop_zero] at f0
  rw [c4] at f1
  rw [c5] at f2
  obtain ⟨c, k, hc, hcl, g0⟩ := split_cells f0
  obtain ⟨v, v', C, g1, n1, z1, b1⟩ := open_slB hu1 hc1 (by omega) f1 fun n cs' y hy => count_cells hy
  obtain ⟨w, w', S, g2, n2, z2, b2⟩ := open_slB hu2 hc2 (by omega) f2 fun n cs' y hy => state_cells hy
  have hcs : cs.toList = autL c k v w := by
    unfold autL
    rw [← List.take_append_drop 257 cs.toList, g0]
    congr 1
    have h1 : cs.toList.drop 257 = (cs.toList.drop 257).take 1 ++ (cs.toList.drop 257).drop 1 := (List.take_append_drop 1 _).symm
    rw [h1, g1, List.drop_drop, ← List.take_of_length_le (i := 1) (l := cs.toList.drop (257 + 1)) (by rw [List.length_drop]; omega)]
    show [v] ++ (cs.toList.drop 258).take 1 = _
    rw [g2]; rfl
  refine ⟨autL c k v' w', ⟨c, k, C, S⟩, .agg ?_, v', w', rfl, hc, hcl, z1, z2, b1, b2⟩
  rw [hcs]
  exact normL_split k n1 n2 c
end
section
variable {H : Type} {enc : TypeId × Value → H} {W : World}
end
end V
end Go.Proofs.YtjndkdmkecpllaaGreat
set_option linter.unusedVariables false
set_option linter.unusedSimpArgs false
namespace Go.Proofs.YtjndkdmkecpllaaGreat
namespace V
attribute [local irreducible] callPre callP bindP
end V
end Go.Proofs.YtjndkdmkecpllaaGreat
set_option linter.unusedVariables false
set_option linter.unusedSimpArgs false
namespace Go.Proofs.YtjndkdmkecpllaaGreat
namespace V
attribute [local irreducible] bindP ifP condP newP optP exP beqP
theorem und_str : und Tryz.prog y_string = some .string := by kernel_rfl
theorem slice_str {s : ByteArray} {n : Nat} (hn : n ≤ s.size) : sliceV Tryz.prog y_string (.string s) none (some (.int .i64 (n : Int))) none = some (.string (s.extract 0 n)) := by
  have hb : Nat.ble n s.size = true := Nat.ble_eq_true_of_le hn
  have hnv : natV (.int .i64 (n : Int)) = some n := by simp [natV]
  unfold sliceV
  simp only [und_str, boundV, hnv, Option.bind, hb]
theorem longL_ok {d : AutoD} (ha : autoOk d = true) (hcl : d.c.length = 256) : ∀ (l : List Nat) (i : Int) (m : MacD) (r : Int × Int × Bool) (B S : Nat), (∀ b ∈ l, b < 256) → MOk d m → WLe B m.rs → m.steps ≤ S → MOk d (longL d l i m r).2 ∧ WLe (B + 9 * l.length) (longL d l i m r).2.rs ∧ (longL d l i m r).2.steps ≤ S + 4 * l.length
  | [], i, m, r, B, S, hl, h1, h2, h3 => ⟨h1, h2.mono (by omega), by show m.steps ≤ _; omega⟩
  | b :: l, i, m, r, B, S, hl, h1, h2, h3 => by
    have hb := hl b (by simp)
    have s1 := step_ok ha h1 hcl hb
    have s2 := step_w ha h1 hcl hb h2
    have s3 := step_steps (b := b) ha h1
    rw [longL_cons, List.length_cons]
    split
    · obtain ⟨q1, q2, q3⟩ := longL_ok ha hcl l (i + 1) (stepM d m b) (if ruleM d (stepM d m b) = -1 then r else (i + 1, ruleM d (stepM d m b), true)) (B + 9) (S + 4) (fun x hx => hl x (by simp [hx])) s1 s2 (by omega)
      exact ⟨q1, q2.mono (by omega), by omega⟩
    · exact ⟨s1, s2.mono (by omega), by show (stepM d m b).steps ≤ _; omega⟩
theorem longM_ok {d : AutoD} (ha : autoOk d = true) (hcl : d.c.length = 256) {s : List Nat} {f : Int} {m : MacD} {B S : Nat} (hl : ∀ b ∈ s, b < 256) (h1 : MOk d m) (h2 : WLe B m.rs) (h3 : m.steps ≤ S) : MOk d (longM d s f m).2 ∧ WLe (B + 1 + 9 * s.length) (longM d s f m).2.rs ∧ (longM d s f m).2.steps ≤ S + 4 * s.length := by
  unfold longM
  split
  · exact ⟨h1, h2.mono (by omega), by show m.steps ≤ _; omega⟩
  · obtain ⟨q1, q2, q3⟩ := longL_ok ha hcl (s.drop f.toNat) f (resetM m) (0, 0, false) (B + 1) S (fun b hb => hl b (List.mem_of_mem_drop hb)) (reset_ok ha h1) (reset_w h2) h3
    have : (s.drop f.toNat).length ≤ s.length := by rw [List.length_drop]; omega
    exact ⟨q1, q2.mono (by omega), by omega⟩
section
variable {ro : Ro} {h : T Obj} {nx : Nat} {K : KV}
end
end V
end Go.Proofs.YtjndkdmkecpllaaGreat
set_option linter.unusedVariables false
set_option linter.unusedSimpArgs false
namespace Go.Proofs.YtjndkdmkecpllaaGreat
namespace V
attribute [local irreducible] callPre callP bindP
end V
end Go.Proofs.YtjndkdmkecpllaaGreat
set_option linter.unusedVariables false
set_option linter.unusedSimpArgs false
namespace Go.Proofs.YtjndkdmkecpllaaGreat
namespace V
attribute [local irreducible] bindP ifP condP newP optP exP beqP
def SameR (rs rs' : List RgD) : Prop := rs.map (·.1) = rs'.map (·.1)
theorem SameR.at {rs rs' : List RgD} (h : SameR rs rs') (c : Int) : (rgAt rs c).1 = (rgAt rs' c).1 := by
  have key : ∀ l : List RgD, (rgAt l c).1 = (l.map (·.1)).getD c.toNat [] := fun l => by
    unfold rgAt
    rw [List.getD_eq_getElem?_getD, List.getD_eq_getElem?_getD, List.getElem?_map]
    cases l[c.toNat]? <;> rfl
  rw [key, key, h]
theorem SameR.set {rs rs' : List RgD} (h : SameR rs rs') (i : Nat) {x y : RgD} (hx : x.1 = y.1) : SameR (rs.set i x) (rs'.set i y) := by
  unfold SameR at h ⊢
  rw [List.map_set, List.map_set, h, hx]
theorem SameR.dig {rs rs' : List RgD} (h : SameR rs rs') (C : List (Int × Int)) (c : Int) : digM C rs c = digM C rs' c := by
  unfold digM; rw [h.at c]
theorem SameR.code {rs rs' : List RgD} (h : SameR rs rs') (C : List (Int × Int)) : ∀ r : List Int, codeM C rs r = codeM C rs' r
  | [] => rfl
  | c :: r => by unfold codeM; rw [h.dig, h.code C r]
theorem SameR.clrs {nx : List Int} : ∀ {S : List Int} {rs rs' : List RgD}, SameR rs rs' → SameR (clrsM nx S rs) (clrsM nx S rs')
  | [], _, _, h => h
  | c :: r, rs, rs', h => by
    unfold clrsM
    refine SameR.clrs ?_
    split
    · exact h
    · exact h.set _ rfl
theorem rgOp_fst (n o : Nat) {r r' : RgD} (h : r.1 = r'.1) : (rgOp n o r).1 = (rgOp n o r').1 := by
  unfold rgOp
  split
  · rfl
  · split
    · show putL (incL n r.1) = putL (incL n r'.1); rw [h]
    · show incL n r.1 = incL n r'.1; rw [h]
theorem SameR.ops {C : List (Int × Int)} : ∀ {R : List Int} {os : List Nat} {rs rs' : List RgD}, SameR rs rs' → SameR (opsM C R os rs) (opsM C R os rs')
  | [], _, _, _, h => by unfold opsM; exact h
  | _ :: _, [], _, _, h => by unfold opsM; exact h
  | c :: r, o :: os, rs, rs', h => by
    unfold opsM
    exact SameR.ops (h.set _ (rgOp_fst _ _ (h.at c)))
def SameM (m m' : MacD) : Prop := m.cur = m'.cur ∧ SameR m.rs m'.rs
section
variable {d : AutoD} {m m' : MacD}
theorem SameM.st (h : SameM m m') : stAt d m = stAt d m' := by unfold stAt; rw [h.1]
theorem SameM.rule (h : SameM m m') : ruleM d m = ruleM d m' := by
  unfold ruleM; rw [h.1, SameM.st h, h.2.code]
theorem SameM.move (h : SameM m m') (b : Nat) : moveM d m b = moveM d m' b := by
  unfold moveM; rw [SameM.st h, h.2.code]
theorem SameM.on (h : SameM m m') (b : Nat) : onM d m b = onM d m' b := by
  unfold onM; rw [h.1, SameM.move h]
theorem SameM.step (h : SameM m m') (b : Nat) : SameM (stepM d m b) (stepM d m' b) := by
  unfold stepM
  rw [h.1, SameM.move h, SameM.st h]
  split
  · exact h
  · exact ⟨rfl, (h.2.clrs).ops⟩
end
section
variable {ro : Ro} {h : T Obj} {nx : Nat} {K : KV}
end
end V
end Go.Proofs.YtjndkdmkecpllaaGreat
set_option linter.unusedVariables false
set_option linter.unusedSimpArgs false
namespace Go.Proofs.YtjndkdmkecpllaaGreat
namespace V
attribute [local irreducible] callPre callP bindP
@[irreducible] def law13_ExecWork_j1 (ro : Ro) (K : KV) : Env → T Obj → Nat → Prop := fun e h nx => callP Tryz.prog ro i_exec_Machine_Reset [(e 6)] h (nx + 2) fun t82_49 h50 n51 => callP Tryz.prog ro i_exec_Machine_Work [(e 6)] h50 (n51 + 2) fun t84_52 h53 n54 => callP Tryz.prog ro i_exec_Machine_Longest [(e 6), (e 8), (Value.int IntKind.i64 0)] h53 (n54 + 4) fun t88_55 h56 n57 => bindP (nth 0 t88_55) fun t89_58 => bindP (nth 1 t88_55) fun t90_59 => bindP (nth 2 t88_55) fun t91_60 => ifP (e 5) true h56 (n57 + 9) (fun k61 => k61 (e 6) h56 (n57 + 10)) fun t94_62 h63 n64 => ifP (e 5) true h63 n64 (fun k65 => callP Tryz.prog ro i_exec_Machine_Work [t94_62] h63 (n64 + 1) fun t95_69 h70 n71 => k65 t95_69 h70 n71) fun t95_66 h67 n68 => ifP (e 5) true h67 n68 (fun k72 => k72 t84_52 h67 (n68 + 1)) fun t96_73 h74 n75 => ifP (e 5) true h74 n75 (fun k76 => bindP (intB .sub t95_66 t96_73) fun t97_80 => k76 t97_80 h74 (n75 + 1)) fun t97_77 h78 n79 => ifP (e 5) true h78 n79 (fun k81 => k81 (e 8) h78 (n79 + 1)) fun t98_82 h83 n84 => ifP (e 5) true h83 n84 (fun k85 => bindP (lenStr t98_82) fun t99_89 => k85 t99_89 h83 (n84 + 1)) fun t99_86 h87 n88 => ifP (e 5) true h87 n88 (fun k90 => bindP (intB .mul t99_86 (Value.int IntKind.i64 13)) fun t100_94 => k90 t100_94 h87 (n88 + 1)) fun t100_91 h92 n93 => ifP (e 5) true h92 n93 (fun k95 => bindP (intB .leq t97_77 t100_91) fun t101_99 => k95 t101_99 h92 (n93 + 1)) fun t101_96 h97 n98 => bindP (pickV (e 5) t101_96 (Value.bool false)) fun t102_100 => ifP t102_100 true h97 (n98 + 2) (fun k101 => k101 t91_60 h97 (n98 + 3)) fun t104_102 h103 n104 => ifP t102_100 true h103 n104 (fun k105 => bindP (unV .not t104_102) fun t105_109 => k105 t105_109 h103 (n104 + 1)) fun t105_106 h107 n108 => ifP t102_100 true h107 n108 (fun k110 => k110 t105_106 h107 (n108 + 1)) fun t106_111 h112 n113 => ifP t106_111 false h112 n113 (fun k114 => k114 t89_58 h112 (n113 + 1)) fun t107_115 h116 n117 => ifP t106_111 false h116 n117 (fun k118 => bindP (intB .geq t107_115 (Value.int IntKind.i64 1)) fun t108_122 => k118 t108_122 h116 (n117 + 1)) fun t108_119 h120 n121 => ifP t106_111 false h120 n121 (fun k123 => k123 t108_119 h120 (n121 + 1)) fun t109_124 h125 n126 => ifP t109_124 true h125 n126 (fun k127 => k127 t89_58 h125 (n126 + 1)) fun t110_128 h129 n130 => ifP t109_124 true h129 n130 (fun k131 => k131 (e 8) h129 (n130 + 1)) fun t111_132 h133 n134 => ifP t109_124 true h133 n134 (fun k135 => bindP (lenStr t111_132) fun t112_139 => k135 t112_139 h133 (n134 + 1)) fun t112_136 h137 n138 => ifP t109_124 true h137 n138 (fun k140 => bindP (intB .leq t110_128 t112_136) fun t113_144 => k140 t113_144 h137 (n138 + 1)) fun t113_141 h142 n143 => ifP t106_111 false h142 n143 (fun k145 => bindP (pickV t109_124 t113_141 (Value.bool false)) fun t114_149 => k145 t114_149 h142 (n143 + 1)) fun t114_146 h147 n148 => ifP t102_100 true h147 n148 (fun k150 => bindP (pickV t106_111 (Value.bool true) t114_146) fun t115_154 => k150 t115_154 h147 (n148 + 1)) fun t115_151 h152 n153 => bindP (pickV t102_100 t115_151 (Value.bool false)) fun t116_155 => ∃ h156, Sub h156 h152 ∧ K t116_155 h156 (n153 + 2)
@[irreducible] def law13_ExecWork_L1 (ro : Ro) : PT := fun e h nx Q => bindP (intB .lss (e 46) (e 45)) fun t47_158 => condP t47_158 (callP Tryz.prog ro i_exec_Machine_Work [(e 6)] h (nx + 5) fun t50_159 h160 n161 => callP Tryz.prog ro i_exec_Machine_State [(e 6)] h160 (n161 + 2) fun t52_162 h163 n164 => bindP (intB .lss t52_162 (Value.int IntKind.i64 0)) fun t53_165 => bindP (ixStr (e 8) (e 46)) fun t57_166 => callP Tryz.prog ro i_exec_Machine_Step [(e 6), t57_166] h163 (n164 + 8) fun t58_167 h168 n169 => callP Tryz.prog ro i_exec_Machine_Work [(e 6)] h168 (n169 + 2) fun t60_170 h171 n172 => bindP (intB .sub t60_170 t50_159) fun t62_173 => bindP (intB .gtr t62_173 (Value.int IntKind.i64 13)) fun t64_174 => ifP t64_174 false h171 (n172 + 6) (fun k175 => k175 t53_165 h171 (n172 + 7)) fun t66_176 h177 n178 => ifP t64_174 false h177 n178 (fun k179 => k179 t66_176 h177 (n178 + 1)) fun t67_180 h181 n182 => ifP t67_180 true h181 n182 (fun k183 => k183 t62_173 h181 (n182 + 1)) fun t68_184 h185 n186 => ifP t67_180 true h185 n186 (fun k187 => bindP (intB .neq t68_184 (Value.int IntKind.i64 0)) fun t69_191 => k187 t69_191 h185 (n186 + 1)) fun t69_188 h189 n190 => ifP t64_174 false h189 n190 (fun k192 => bindP (pickV t67_180 t69_188 (Value.bool false)) fun t70_196 => k192 t70_196 h189 (n190 + 1)) fun t70_193 h194 n195 => bindP (pickV t64_174 (Value.bool true) t70_193) fun t71_197 => ifP t71_197 false h194 (n195 + 2) (fun k198 => k198 t53_165 h194 (n195 + 3)) fun t73_199 h200 n201 => ifP t71_197 false h200 n201 (fun k202 => bindP (unV .not t73_199) fun t74_206 => k202 t74_206 h200 (n201 + 1)) fun t74_203 h204 n205 => ifP t71_197 false h204 n205 (fun k207 => k207 t74_203 h204 (n205 + 1)) fun t75_208 h209 n210 => ifP t75_208 true h209 n210 (fun k211 => k211 t62_173 h209 (n210 + 1)) fun t76_212 h213 n214 => ifP t75_208 true h213 n214 (fun k215 => bindP (intB .lss t76_212 (Value.int IntKind.i64 1)) fun t77_219 => k215 t77_219 h213 (n214 + 1)) fun t77_216 h217 n218 => ifP t71_197 false h217 n218 (fun k220 => bindP (pickV t75_208 t77_216 (Value.bool false)) fun t78_224 => k220 t78_224 h217 (n218 + 1)) fun t78_221 h222 n223 => bindP (pickV t71_197 (Value.bool true) t78_221) fun t79_225 => condP t79_225 (Q .ret (puts e [(47, t47_158), (48, (e 46)), (9, (e 46)), (49, (e 6)), (50, t50_159), (51, (e 6)), (52, t52_162), (53, t53_165), (10, t50_159), (11, t53_165), (54, (e 6)), (55, (e 8)), (56, (e 46)), (57, t57_166), (58, t58_167), (59, (e 6)), (60, t60_170), (61, t50_159), (62, t62_173), (12, t62_173), (63, t62_173), (64, t64_174), (65, t64_174), (66, t66_176), (67, t67_180), (68, t68_184), (69, t69_188), (70, t70_193), (71, t71_197), (72, t71_197), (73, t73_199), (74, t74_203), (75, t75_208), (76, t76_212), (77, t77_216), (78, t78_221), (79, t79_225), (4, (Value.bool false))]) h222 (n223 + 2)) (bindP (intB .add (e 46) (Value.int IntKind.i64 1)) fun t80_226 => Q .normal (puts e [(47, t47_158), (48, (e 46)), (9, (e 46)), (49, (e 6)), (50, t50_159), (51, (e 6)), (52, t52_162), (53, t53_165), (10, t50_159), (11, t53_165), (54, (e 6)), (55, (e 8)), (56, (e 46)), (57, t57_166), (58, t58_167), (59, (e 6)), (60, t60_170), (61, t50_159), (62, t62_173), (12, t62_173), (63, t62_173), (64, t64_174), (65, t64_174), (66, t66_176), (67, t67_180), (68, t68_184), (69, t69_188), (70, t70_193), (71, t71_197), (72, t71_197), (73, t73_199), (74, t74_203), (75, t75_208), (76, t76_212), (77, t77_216), (78, t78_221), (79, t79_225), (80, t80_226), (46, t80_226)]) h222 (n223 + 3))) (Q (.exit 0) (puts e [(47, t47_158)]) h (nx + 1))
@[irreducible] def law13_ExecWork (ro : Ro) (v0 v1 : Value) (h : T Obj) (nx : Nat) (K : KV) : Prop := newP h nx (.cells (Value.cells v0) y_api_Auto) fun h1 => callP Tryz.prog ro i_law13_shown [] h1 (nx + 3) fun t17_2 h3 n4 => bindP (fwdP 258 (ptr nx)) fun t18_5 => bindP (load1 ro h3 t18_5) fun t19_6 => bindP (lenSl t19_6) fun t20_7 => bindP (intB .gtr t20_7 (Value.int IntKind.i64 60)) fun t21_8 => ifP t21_8 false h3 (n4 + 6) (fun k9 => bindP (loadA ro h3 259 (ptr nx)) fun t23_13 => k9 t23_13 h3 (n4 + 7)) fun t23_10 h11 n12 => ifP t21_8 false h11 n12 (fun k14 => callP Tryz.prog ro i_ref11_Right [t23_10] h11 (n12 + 1) fun t24_18 h19 n20 => k14 t24_18 h19 n20) fun t24_15 h16 n17 => ifP t21_8 false h16 n17 (fun k21 => bindP (unV .not t24_15) fun t25_25 => k21 t25_25 h16 (n17 + 1)) fun t25_22 h23 n24 => bindP (pickV t21_8 (Value.bool true) t25_22) fun t26_26 => condP t26_26 (∃ h27, Sub h27 h23 ∧ K t17_2 h27 (n24 + 3)) (bindP (loadA ro h23 259 (ptr nx)) fun t29_28 => callP Tryz.prog ro i_exec_New [t29_28] h23 (n24 + 3) fun t30_29 h30 n31 => bindP (nth 0 t30_29) fun t31_32 => bindP (nth 1 t30_29) fun t32_33 => bindP (ptrB .eql t31_32 (Value.pointer none)) fun t34_34 => ifP t34_34 false h30 (n31 + 8) (fun k35 => k35 t32_33 h30 (n31 + 9)) fun t36_36 h37 n38 => ifP t34_34 false h37 n38 (fun k39 => bindP (intB .neq t36_36 (Value.int IntKind.i64 0)) fun t37_43 => k39 t37_43 h37 (n38 + 1)) fun t37_40 h41 n42 => bindP (pickV t34_34 (Value.bool true) t37_40) fun t38_44 => condP t38_44 (∃ h45, Sub h45 h41 ∧ K (Value.bool false) h45 (n42 + 2)) (bindP (lenStr v1) fun t41_46 => bindP (builtinQ Tryz.prog h41 .min #[y_int, y_int] [t41_46, (Value.int IntKind.i64 60)]) fun t42_47 => bindP (sliceV Tryz.prog y_string v1 none (some t42_47) none) fun t43_48 => bindP (lenStr t43_48) fun t45_157 => loopP (law13_ExecWork_L1 ro) (puts (entE [v0, v1]) [(2, (ptr nx)), (4, (Value.bool false)), (17, t17_2), (5, t17_2), (18, t18_5), (19, t19_6), (20, t20_7), (21, t21_8), (22, t21_8), (23, t23_10), (24, t24_15), (25, t25_22), (26, t26_26), (29, t29_28), (30, t30_29), (28, t30_29), (31, t31_32), (32, t32_33), (6, t31_32), (7, t32_33), (33, t31_32), (34, t34_34), (35, t34_34), (36, t36_36), (37, t37_40), (38, t38_44), (39, v1), (40, v1), (41, t41_46), (42, t42_47), (43, t43_48), (8, t43_48), (44, t43_48), (45, t45_157), (46, (Value.int IntKind.i64 0))]) h41 (n42 + 10) fun x230 e227 h228 n229 => exP x230 (law13_ExecWork_j1 ro K e227 h228 n229) (fun i231 => beqP (Nat.beq i231 0) (law13_ExecWork_j1 ro K e227 h228 n229) (False)) (∃ h232, Sub h232 h228 ∧ K (e227 4) h232 n229)))
theorem law13_ExecWork_eq (ro : Ro) (v0 v1 : Value) (h : T Obj) (nx : Nat) (K : KV) : callPre Tryz.prog ro (callP Tryz.prog ro) Tryz.f7 [v0, v1] h nx K = law13_ExecWork ro v0 v1 h nx K := by kernel_rfl
theorem law13_ExecWork_of {ro : Ro} {v0 v1 : Value} {h : T Obj} {nx : Nat} {K : KV} (hw : law13_ExecWork ro v0 v1 h nx K) : callP Tryz.prog ro i_law13_ExecWork [v0, v1] h nx K := callP_by (P := Tryz.prog) (fn := Tryz.f7) (by kernel_rfl) (by kernel_rfl) (by kernel_rfl) (Eq.mpr (law13_ExecWork_eq ro v0 v1 h nx K) hw)
end V
end Go.Proofs.YtjndkdmkecpllaaGreat
set_option linter.unusedVariables false
set_option linter.unusedSimpArgs false
namespace Go.Proofs.YtjndkdmkecpllaaGreat
namespace V
attribute [local irreducible] bindP ifP condP newP optP exP beqP
def sumW (rs : List RgD) : Nat := (rs.map (·.2)).sum
theorem sum_set : ∀ {rs : List RgD} {i : Nat} {x r : RgD}, rs[i]? = some r → sumW (rs.set i x) + r.2 = sumW rs + x.2
  | [], i, x, r, h => by simp at h
  | y :: l, 0, x, r, h => by
    simp at h; subst h
    show (x.2 + sumW l) + y.2 = (y.2 + sumW l) + x.2
    omega
  | y :: l, i + 1, x, r, h => by
    have := sum_set (rs := l) (i := i) (x := x) (r := r) (by simpa using h)
    show (y.2 + sumW (l.set i x)) + r.2 = (y.2 + sumW l) + x.2
    omega
theorem sum_turn {rs : List RgD} {c : Int} {f : RgD → RgD} {k : Nat} (hf : ∀ r, r.2 ≤ (f r).2 ∧ (f r).2 ≤ r.2 + k) : sumW rs ≤ sumW (rs.set c.toNat (f (rgAt rs c))) ∧ sumW (rs.set c.toNat (f (rgAt rs c))) ≤ sumW rs + k := by
  cases h : rs[c.toNat]? with
  | none =>
    have hl := List.getElem?_eq_none_iff.1 h
    rw [List.set_eq_of_length_le hl]
    omega
  | some r =>
    have hr : rgAt rs c = r := by unfold rgAt; rw [List.getD_eq_getElem?_getD, h]; rfl
    rw [hr]
    have h1 := sum_set (x := f r) h
    have h2 := hf r
    omega
theorem sum_clrs {nx : List Int} : ∀ {S : List Int} {rs : List RgD}, sumW rs ≤ sumW (clrsM nx S rs) ∧ sumW (clrsM nx S rs) ≤ sumW rs + S.length
  | [], rs => ⟨Nat.le_refl _, Nat.le_refl _⟩
  | c :: r, rs => by
    unfold clrsM
    rw [List.length_cons]
    split
    · have := sum_clrs (nx := nx) (S := r) (rs := rs); omega
    · have h1 := sum_turn (rs := rs) (c := c) (f := clrR) (k := 1) fun r => ⟨Nat.le_succ _, Nat.le_refl _⟩
      have := sum_clrs (nx := nx) (S := r) (rs := rs.set c.toNat (clrR (rgAt rs c))); omega
theorem sum_ops {C : List (Int × Int)} : ∀ {R : List Int} {os : List Nat} {rs : List RgD}, sumW rs ≤ sumW (opsM C R os rs) ∧ sumW (opsM C R os rs) ≤ sumW rs + 2 * R.length
  | [], _, rs => by unfold opsM; exact ⟨Nat.le_refl _, Nat.le_add_right _ _⟩
  | _ :: _, [], rs => by unfold opsM; exact ⟨Nat.le_refl _, Nat.le_add_right _ _⟩
  | c :: r, o :: os, rs => by
    unfold opsM
    rw [List.length_cons]
    have h1 := sum_turn (rs := rs) (c := c) (f := rgOp (cntAt C c).2.toNat o) (k := 2) fun r => ⟨by
      unfold rgOp
      repeat' split
      all_goals (simp [putR, clrR, incR] <;> omega), rgOp_w _ _ _⟩
    have := sum_ops (C := C) (R := r) (os := os) (rs := rs.set c.toNat (rgOp (cntAt C c).2.toNat o (rgAt rs c))); omega
theorem work_step {d : AutoD} {m : MacD} {b : Nat} (ha : autoOk d = true) (ho : MOk d m) (hcl : d.c.length = 256) (hb : b < 256) : (m.cur = -1 → workM (stepM d m b) = workM m) ∧ (m.cur ≠ -1 → workM m + 1 ≤ workM (stepM d m b) ∧ workM (stepM d m b) ≤ workM m + 13) := by
  refine ⟨fun hc => by unfold stepM; rw [if_pos hc], fun hc => ?_⟩
  have h1 := (st_at ha ho hc).r3
  have h2 := ops_all (S := []) ha (move_at ha ho hc hcl hb).2
  unfold stepM
  rw [if_neg hc]
  have h3 := sum_clrs (nx := nextR d (moveM d m b).to) (S := (stAt d m).r) (rs := m.rs)
  have h4 := sum_ops (C := d.counts) (R := nextR d (moveM d m b).to) (os := (moveM d m b).ops) (rs := clrsM (nextR d (moveM d m b).to) (stAt d m).r m.rs)
  show m.steps + sumW m.rs + 1 ≤ (m.steps + 1 + (stAt d m).r.length) + sumW (opsM d.counts (nextR d (moveM d m b).to) (moveM d m b).ops (clrsM (nextR d (moveM d m b).to) (stAt d m).r m.rs)) ∧ (m.steps + 1 + (stAt d m).r.length) + sumW (opsM d.counts (nextR d (moveM d m b).to) (moveM d m b).ops (clrsM (nextR d (moveM d m b).to) (stAt d m).r m.rs)) ≤ m.steps + sumW m.rs + 13
  omega
theorem work_le {m : MacD} {B : Nat} (h : WLe B m.rs) (hl : m.rs.length ≤ 512) : workM m ≤ m.steps + B * 512 := by
  have h1 := sum_le (l := m.rs.map (·.2)) (B := B) fun x hx => by
    obtain ⟨r, hr, rfl⟩ := List.mem_map.1 hx
    exact h r hr
  rw [List.length_map] at h1
  have := Nat.mul_le_mul_left B hl
  unfold workM
  omega
theorem reset_reset (m : MacD) : resetM (resetM m) = resetM m := by
  unfold resetM
  simp only [List.map_map, MacD.mk.injEq, true_and, and_true]
  congr 1
  funext r
  show rsetR (rsetR r) = rsetR r
  by_cases h : r.1.length = 0
  · have : rsetR r = r := if_pos h
    rw [this, this]
  · have : rsetR r = clrR r := if_neg h
    rw [this]; rfl
theorem long_work {d : AutoD} (ha : autoOk d = true) (hcl : d.c.length = 256) : ∀ (l : List Nat) (i : Int) (m : MacD) (r : Int × Int × Bool), (∀ b ∈ l, b < 256) → MOk d m → workM m ≤ workM (longL d l i m r).2 ∧ workM (longL d l i m r).2 ≤ workM m + 13 * l.length ∧ ((longL d l i m r).1 = r ∨ i + 1 ≤ (longL d l i m r).1.1 ∧ (longL d l i m r).1.1 ≤ i + l.length)
  | [], i, m, r, _, _ => ⟨Nat.le_refl _, by show workM m ≤ _; omega, .inl rfl⟩
  | b :: l, i, m, r, hl, ho => by
    have hb := hl b (by simp)
    have h1 := work_step (b := b) ha ho hcl hb
    have h2 : workM m ≤ workM (stepM d m b) ∧ workM (stepM d m b) ≤ workM m + 13 := by
      by_cases hc : m.cur = -1
      · have := h1.1 hc; omega
      · have := h1.2 hc; omega
    have s1 := step_ok ha ho hcl hb
    rw [longL_cons, List.length_cons]
    split
    · obtain ⟨q1, q2, q3⟩ := long_work ha hcl l (i + 1) (stepM d m b) (if ruleM d (stepM d m b) = -1 then r else (i + 1, ruleM d (stepM d m b), true)) (fun x hx => hl x (by simp [hx])) s1
      refine ⟨by omega, by omega, ?_⟩
      rcases q3 with q3 | q3
      · rw [q3]
        split
        · exact .inl rfl
        · refine .inr ⟨Int.le_refl _, ?_⟩
          show i + 1 ≤ i + ((l.length + 1 : Nat) : Int)
          omega
      · refine .inr ⟨by omega, ?_⟩
        have := q3.2
        push_cast
        omega
    · exact ⟨h2.1, by show workM (stepM d m b) ≤ _; omega, .inl rfl⟩
section
variable {ro : Ro} {h : T Obj} {nx : Nat} {K : KV}
set_option maxRecDepth 8000 in
set_option maxHeartbeats 2000000 in
theorem law13_ExecWork_c {x : List Value} {d : AutoD} {s : ByteArray} (hf : Fr h nx) (hd : RAuto ro h x d) (hK : ∀ h' nx', nx ≤ nx' → K (.bool true) h' nx') : callP Tryz.prog ro i_law13_ExecWork [.agg x.toArray, .string s] h nx K := by
  obtain ⟨cv, sv, hxe, hc, hclt, hcv, hS, hb1, hb2⟩ := id hd
  have hb2 : d.states.length ≤ 9223372036854775807 := hb2
  have m8 := autL_states (n := d.many) (cv := cv) (sv := sv) hc
  apply law13_ExecWork_of
  unfold law13_ExecWork
  refine param_mk hf (Nat.le_refl _) fun h1 hs1 hf1 g1 _ => ?_
  have g1 : h1.get nx = some (.cells x.toArray y_api_Auto) := g1
  refine shown_c ?_
  have hsl := hS.len
  (repeat (first | refine bindP_mk (by simp (disch := first | omega | exact Int.natCast_nonneg _ | assumption) only [BB, B2, ↓reduceIte, Nat.reduceLeDiff, Nat.reduceAdd, CC] <;> rfl) ?_ | refine newP_mk ?_ | refine optP_mk ?_ | with_reducible first | refine condP_t ?_ | refine condP_f ?_ | refine ifP_tt' ?_ | refine ifP_ff' ?_ | refine ifP_tf' ?_ | refine ifP_ft' ?_ | refine ifP_u' ?_ | refine optP_mk0 ?_))
  refine bindP_mk (load1_get g1 (by rw [hxe]; exact m8)) (bindP_mk hsl ?_)
  refine gtr_s (fun hg => ?_) (fun hg => ?_)
  · (repeat (first | refine bindP_mk (by simp (disch := first | omega | exact Int.natCast_nonneg _ | assumption) only [BB, B2, ↓reduceIte, Nat.reduceLeDiff, Nat.reduceAdd, CC] <;> rfl) ?_ | refine newP_mk ?_ | refine optP_mk ?_ | with_reducible first | refine condP_t ?_ | refine condP_f ?_ | refine ifP_tt' ?_ | refine ifP_ff' ?_ | refine ifP_tf' ?_ | refine ifP_ft' ?_ | refine ifP_u' ?_ | refine optP_mk0 ?_))
    exact ⟨_, Sub.refl _, hK _ _ (by omega)⟩
  · have L1 := loadA_all (ro := ro) (z := 0) (n := 259) (l := x) g1 hd.len
    (repeat (first | refine bindP_mk (by simp (disch := first | omega | exact Int.natCast_nonneg _ | assumption) only [BB, B2, ↓reduceIte, Nat.reduceLeDiff, Nat.reduceAdd, CC, L1] <;> rfl) ?_ | refine newP_mk ?_ | refine optP_mk ?_ | with_reducible first | refine condP_t ?_ | refine condP_f ?_ | refine ifP_tt' ?_ | refine ifP_ff' ?_ | refine ifP_tf' ?_ | refine ifP_ft' ?_ | refine ifP_u' ?_ | refine optP_mk0 ?_))
    refine ref11_Right_c (hf1.mono (by omega)) (hd.sub hs1) fun n2 hn2 => ?_
    cases hok : autoOk d with
    | false =>
      (repeat (first | refine bindP_mk (by simp (disch := first | omega | exact Int.natCast_nonneg _ | assumption) only [BB, B2, ↓reduceIte, Nat.reduceLeDiff, Nat.reduceAdd, CC] <;> rfl) ?_ | refine newP_mk ?_ | refine optP_mk ?_ | with_reducible first | refine condP_t ?_ | refine condP_f ?_ | refine ifP_tt' ?_ | refine ifP_ff' ?_ | refine ifP_tf' ?_ | refine ifP_ft' ?_ | refine ifP_u' ?_ | refine optP_mk0 ?_))
      exact ⟨_, Sub.refl _, hK _ _ (by omega)⟩
    | true =>
      (repeat (first | refine bindP_mk (by simp (disch := first | omega | exact Int.natCast_nonneg _ | assumption) only [BB, B2, ↓reduceIte, Nat.reduceLeDiff, Nat.reduceAdd, CC] <;> rfl) ?_ | refine newP_mk ?_ | refine optP_mk ?_ | with_reducible first | refine condP_t ?_ | refine condP_f ?_ | refine ifP_tt' ?_ | refine ifP_ff' ?_ | refine ifP_tf' ?_ | refine ifP_ft' ?_ | refine ifP_u' ?_ | refine optP_mk0 ?_))
      refine bindP_mk L1 ?_
      refine exec_New_c (X0 := []) (hf1.mono (by omega)) (hd.sub hs1) (fun hno => absurd hok (by rw [hno]; decide)) (fun k hk => by cases hk) fun _ pE psE X h3 n3 hn3 hf3 hs3 hX hE => ?_
      have hC512 := (autoOk_parts hok).2.1
      have hokE := autoOk_er hok
      refine bindP_mk (nth0 _ _) (bindP_mk (nth1 _ _) ?_)
      (repeat (first | refine bindP_mk (by simp (disch := first | omega | exact Int.natCast_nonneg _ | assumption) only [BB, B2, ↓reduceIte, Nat.reduceLeDiff, Nat.reduceAdd, CC, pNil] <;> rfl) ?_ | refine newP_mk ?_ | refine optP_mk ?_ | with_reducible first | refine condP_t ?_ | refine condP_f ?_ | refine ifP_tt' ?_ | refine ifP_ff' ?_ | refine ifP_tf' ?_ | refine ifP_ft' ?_ | refine ifP_u' ?_ | refine optP_mk0 ?_))
      refine bindP_mk (lenStr_bts s) ?_
      refine bindP_mk (min_int _ _ _ _) ?_
      rw [bts_len, show min ((s.size : Nat) : Int) 60 = ((min s.size 60 : Nat) : Int) by omega]
      refine bindP_mk (slice_str (by omega)) ?_
      have hw : (bts (s.extract 0 (min s.size 60))).length ≤ 60 := by rw [bts_extract, List.length_take]; omega
      generalize s.extract 0 (min s.size 60) = y at hw
      have hly := lenStr_bts y
      refine bindP_mk hly ?_
      have hyb : ∀ b ∈ bts y, b < 256 := fun b hb => bts_lt b hb
      refine loopP_rule (fun j e h' nx' => ∃ (k : Nat) (m : MacD), k + j = (bts y).length ∧ nx ≤ nx' ∧ e 5 = .bool true ∧ e 6 = ptr pE ∧ e 8 = .string y ∧ e 45 = .int .i64 (bts y).length ∧ e 46 = .int .i64 k ∧ Fr h' nx' ∧
        MI ro h' ([] ++ X) pE psE (er d) m ∧ MOk d m ∧ WLe (9 * k) m.rs ∧ m.steps ≤ 4 * k) ?_ (n := (bts y).length)
        ⟨0, newM d, by omega, by omega, rfl, rfl, rfl, rfl, rfl, hf3.mono (by omega), hE, new_ok hok, fun r hr => by
          obtain ⟨c9, _, rfl⟩ := List.mem_map.1 hr
          exact Nat.zero_le _, Nat.zero_le _⟩
      rintro j e h' nx' ⟨k, m, hj, hnx, e5, e6, e8, e45, e46, hf', hE, hm, hw9, hst⟩ Q' hq hx
      have hrl : m.rs.length ≤ 512 := by have := hm.2; omega
      have hwm := work_le hw9 hrl
      unfold law13_ExecWork_L1
      rw [e6, e8, e45, e46]
      refine lss_s (fun hk => ?_) (fun hk => ?_)
      · have hk : k < (bts y).length := by omega
        have hbb := bts_lt _ (List.getElem_mem hk)
        have hix := ixStr_bts (s := y) (k := .i64) hk
        generalize (bts y)[k] = b at hbb hix
        (repeat (first | refine bindP_mk (by simp (disch := first | omega | exact Int.natCast_nonneg _ | assumption) only [BB, B2, ↓reduceIte, Nat.reduceLeDiff, Nat.reduceAdd, CC] <;> rfl) ?_ | refine newP_mk ?_ | refine optP_mk ?_ | with_reducible first | refine condP_t ?_ | refine condP_f ?_ | refine ifP_tt' ?_ | refine ifP_ff' ?_ | refine ifP_tf' ?_ | refine ifP_ft' ?_ | refine ifP_u' ?_ | refine optP_mk0 ?_))
        refine exec_Work_c hE (MOk_er hm) hC512 hw9 (by omega) (by omega) fun n4 hn4 => ?_
        refine exec_State_c hE fun n5 hn5 => ?_
        have hws := work_step (b := b) hok hm hc hbb
        have h8 := step_ok hok hm hc hbb
        have h9 := step_w hok hm hc hbb hw9
        have h10 := step_steps (b := b) hok hm
        have hwm2 := work_le h9 (by have := h8.2; omega)
        have hcur := hm.1
        have hnext : ∀ (e' : Env) h2 n', e' 5 = .bool true → e' 6 = ptr pE → e' 8 = .string y → e' 45 = .int .i64 (bts y).length → e' 46 = .int .i64 ((k : Int) + 1) → nx ≤ n' → Fr h2 n' → MI ro h2 ([] ++ X) pE psE (er d) (stepM d m b) → Q' .normal e' h2 n' := fun e' h2 n' f5 f6 f8 f45 f46 hn hf2 hE2 =>
          hq (j - 1) _ _ _ _ (by omega) ⟨k + 1, stepM d m b, by omega, hn, f5, f6, f8, f45, f46, hf2, hE2, h8, h9.mono (by omega), by omega⟩ (Sub.refl _)
        by_cases hc9 : m.cur = -1
        · have hw0 := hws.1 hc9
          refine lss_t (by omega) ?_
          refine bindP_mk hix ?_
          refine exec_Step_c hE hokE (MOk_er hm) hbb (hf'.mono (by omega)) hw9 (by omega) (by omega) fun h5 n6 hn6 hf5 hk5 hE5 => ?_
          rw [stepM_er] at hE5
          refine exec_Work_c hE5 (MOk_er h8) hC512 h9 (by omega) (by omega) fun n7 hn7 => ?_
          rw [hw0]
          have esub : intB .sub (.int .i64 ((workM m : Nat) : Int)) (.int .i64 ((workM m : Nat) : Int)) = some (.int .i64 0) := by
            rw [intB_sub, Int.sub_self, wr_i64 (by omega) (by omega)]
          refine bindP_mk esub ?_
          (repeat (first | refine bindP_mk (by simp (disch := first | omega | exact Int.natCast_nonneg _ | assumption) only [BB, B2, ↓reduceIte, Nat.reduceLeDiff, Nat.reduceAdd, CC] <;> rfl) ?_ | refine newP_mk ?_ | refine optP_mk ?_ | with_reducible first | refine condP_t ?_ | refine condP_f ?_ | refine ifP_tt' ?_ | refine ifP_ff' ?_ | refine ifP_tf' ?_ | refine ifP_ft' ?_ | refine ifP_u' ?_ | refine optP_mk0 ?_))
          exact hnext _ _ _ e5 e6 e8 e45 rfl (by omega) (hf5.mono (by omega)) hE5
        · have hw0 := hws.2 hc9
          refine lss_f (by omega) ?_
          refine bindP_mk hix ?_
          refine exec_Step_c hE hokE (MOk_er hm) hbb (hf'.mono (by omega)) hw9 (by omega) (by omega) fun h5 n6 hn6 hf5 hk5 hE5 => ?_
          rw [stepM_er] at hE5
          refine exec_Work_c hE5 (MOk_er h8) hC512 h9 (by omega) (by omega) fun n7 hn7 => ?_
          have esub : intB .sub (.int .i64 ((workM (stepM d m b) : Nat) : Int)) (.int .i64 ((workM m : Nat) : Int)) = some (.int .i64 ((workM (stepM d m b) : Int) - (workM m : Int))) := by
            rw [intB_sub, wr_i64 (by omega) (by omega)]
          refine bindP_mk esub ?_
          generalize hby : (workM (stepM d m b) : Int) - (workM m : Int) = by_
          have hb13 : 1 ≤ by_ ∧ by_ ≤ 13 := by omega
          (repeat (first | refine bindP_mk (by simp (disch := first | omega | exact Int.natCast_nonneg _ | assumption) only [BB, B2, ↓reduceIte, Nat.reduceLeDiff, Nat.reduceAdd, CC] <;> rfl) ?_ | refine newP_mk ?_ | refine optP_mk ?_ | with_reducible first | refine condP_t ?_ | refine condP_f ?_ | refine ifP_tt' ?_ | refine ifP_ff' ?_ | refine ifP_tf' ?_ | refine ifP_ft' ?_ | refine ifP_u' ?_ | refine optP_mk0 ?_))
          exact hnext _ _ _ e5 e6 e8 e45 rfl (by omega) (hf5.mono (by omega)) hE5
      · (repeat (first | refine bindP_mk (by simp (disch := first | omega | exact Int.natCast_nonneg _ | assumption) only [BB, B2, ↓reduceIte, Nat.reduceLeDiff, Nat.reduceAdd, CC] <;> rfl) ?_ | refine newP_mk ?_ | refine optP_mk ?_ | with_reducible first | refine condP_t ?_ | refine condP_f ?_ | refine ifP_tt' ?_ | refine ifP_ff' ?_ | refine ifP_tf' ?_ | refine ifP_ft' ?_ | refine ifP_u' ?_ | refine optP_mk0 ?_))
        refine hx _ _ _ _ (fun e => by cases e) (exP_e (beqP_t ?_))
        have hj1 : ∀ (e' : Env) n', e' 5 = .bool true → e' 6 = ptr pE → e' 8 = .string y → nx ≤ n' → Fr h' n' → law13_ExecWork_j1 ro K e' h' n' := by
          intro e' n' f5 f6 f8 hn hfn
          unfold law13_ExecWork_j1
          rw [f5, f6, f8]
          refine exec_Reset_c hE (MOk_er hm) hC512 (hfn.mono (by omega)) hw9 (by omega) fun h6 n6 hn6 hf6 hk6 hE6 => ?_
          have r1 := reset_ok hok hm
          have r2 := reset_w hw9
          have r3 : (resetM m).steps ≤ 4 * k := hst
          have r4 := work_le r2 (by have := r1.2; omega)
          refine exec_Work_c hE6 (MOk_er r1) hC512 r2 (by omega) (by omega) fun n7 hn7 => ?_
          refine exec_Longest_c hE6 hokE (MOk_er r1) (hf6.mono (by omega)) r2 (by omega) (by omega) (by omega) fun h8 n8 hn8 hf8 hk8 hE8 => ?_
          rw [longM_er] at hE8 ⊢
          have hlm : longM d (bts y) 0 (resetM m) = longL d (bts y) 0 (resetM m) (0, 0, false) := by
            unfold longM
            rw [if_neg (by omega), reset_reset]
            rfl
          obtain ⟨t1, t2, t3⟩ := longM_ok (f := 0) hok hc hyb r1 r2 r3
          obtain ⟨u1, u2, u3⟩ := long_work hok hc (bts y) 0 (resetM m) (0, 0, false) hyb r1
          rw [← hlm] at u1 u2 u3
          have t4 := work_le t2 (by have := t1.2; omega)
          generalize longM d (bts y) 0 (resetM m) = R at hE8 t1 t2 t3 t4 u1 u2 u3
          refine bindP_mk (a := .int .i64 R.1.1) rfl (bindP_mk (a := .int .i64 R.1.2.1) rfl (bindP_mk (a := .bool R.1.2.2) rfl ?_))
          (repeat (first | refine bindP_mk (by simp (disch := first | omega | exact Int.natCast_nonneg _ | assumption) only [BB, B2, ↓reduceIte, Nat.reduceLeDiff, Nat.reduceAdd, CC] <;> rfl) ?_ | refine newP_mk ?_ | refine optP_mk ?_ | with_reducible first | refine condP_t ?_ | refine condP_f ?_ | refine ifP_tt' ?_ | refine ifP_ff' ?_ | refine ifP_tf' ?_ | refine ifP_ft' ?_ | refine ifP_u' ?_ | refine optP_mk0 ?_))
          refine exec_Work_c hE8 (MOk_er t1) hC512 t2 (by omega) (by omega) fun n9 hn9 => ?_
          have esub : intB .sub (.int .i64 ((workM R.2 : Nat) : Int)) (.int .i64 ((workM (resetM m) : Nat) : Int)) = some (.int .i64 ((workM R.2 : Int) - (workM (resetM m) : Int))) := by
            rw [intB_sub, wr_i64 (by omega) (by omega)]
          (repeat (first | refine bindP_mk (by simp (disch := first | omega | exact Int.natCast_nonneg _ | assumption) only [BB, B2, ↓reduceIte, Nat.reduceLeDiff, Nat.reduceAdd, CC] <;> rfl) ?_ | refine newP_mk ?_ | refine optP_mk ?_ | with_reducible first | refine condP_t ?_ | refine condP_f ?_ | refine ifP_tt' ?_ | refine ifP_ff' ?_ | refine ifP_tf' ?_ | refine ifP_ft' ?_ | refine ifP_u' ?_ | refine optP_mk0 ?_))
          cases hb : R.1.2.2 with
          | false =>
            (repeat (first | refine bindP_mk (by simp (disch := first | omega | exact Int.natCast_nonneg _ | assumption) only [BB, B2, ↓reduceIte, Nat.reduceLeDiff, Nat.reduceAdd, CC, hly] <;> rfl) ?_ | refine newP_mk ?_ | refine optP_mk ?_ | with_reducible first | refine condP_t ?_ | refine condP_f ?_ | refine ifP_tt' ?_ | refine ifP_ff' ?_ | refine ifP_tf' ?_ | refine ifP_ft' ?_ | refine ifP_u' ?_ | refine optP_mk0 ?_))
            exact ⟨_, Sub.refl _, hK _ _ (by omega)⟩
          | true =>
            have u4 : 1 ≤ R.1.1 ∧ R.1.1 ≤ (bts y).length := by
              rcases u3 with u3 | u3
              · rw [u3] at hb; cases hb
              · omega
            (repeat (first | refine bindP_mk (by simp (disch := first | omega | exact Int.natCast_nonneg _ | assumption) only [BB, B2, ↓reduceIte, Nat.reduceLeDiff, Nat.reduceAdd, CC, hly] <;> rfl) ?_ | refine newP_mk ?_ | refine optP_mk ?_ | with_reducible first | refine condP_t ?_ | refine condP_f ?_ | refine ifP_tt' ?_ | refine ifP_ff' ?_ | refine ifP_tf' ?_ | refine ifP_ft' ?_ | refine ifP_u' ?_ | refine optP_mk0 ?_))
            exact ⟨_, Sub.refl _, hK _ _ (by omega)⟩
        exact hj1 _ _ e5 e6 e8 (by omega) (hf'.mono (by omega))
end
end V
end Go.Proofs.YtjndkdmkecpllaaGreat
set_option linter.unusedVariables false
set_option linter.unusedSimpArgs false
set_option maxRecDepth 16000
namespace Go.Proofs.YtjndkdmkecpllaaGreat
namespace V
open Go.ChangeShapes Go.WideShapes Go.ChangeAt Go.RowKit
theorem execWork_lifted (os : Os) (started : os.Started) (H : Type) (enc : TypeId × Value → H) :
    ReturnsInHanded {} Tryz.checked os 7 .any (Rows.execWorkSpec.pre6 enc Tryz.prog Tryz.f7 Rows.execWorkRow.domain false) (Rows.execWorkSpec.post enc Tryz.prog Tryz.f7 false true false false) := by
  refine returnsInHanded_of_change_sized (C := Tryz.checked) okOwn started (by kernel_rfl) (by kernel_rfl)
    (ChangeSpec.witness6 (enc := enc) (C := Tryz.checked) false ⟨#[], #[.agg (List.replicate 256 (Value.int .u8 0) ++ [Value.int .i64 0, .slice none 0 0, .slice none 0 0]).toArray, .string .empty], []⟩ 8 (by kernel_rfl) (by kernel_rfl) (by kernel_rfl) (by kernel_rfl)) ?_
  intro W base args ds gs before hval hW _ _ _
  have hW' := hW
  obtain ⟨p, q, hA0, hV, rfl, hfz, hnd⟩ := hW
  have hA : DataW.TrodAll enc Tryz.prog W 0 (fun _ => true) true [y_api_Auto, y_string] args.toList ds p := hA0
  obtain ⟨v0, v1, d0, d1, p0, p1, rfl, rfl, rfl, h0, h1⟩ := trodAll_two hA
  obtain ⟨rfl, rfl⟩ := trodVars_none hV
  obtain ⟨w0, d0, a0, hd0⟩ := open_auto h0 (hval 0 y_api_Auto v0 rfl rfl)
  obtain ⟨s1, a1⟩ := open_str h1 (hval 1 y_string v1 rfl rfl)
  have hsay : Says Tryz.prog W 7 [.agg w0.toArray, .string s1] := law13_ExecWork_c Fr.e hd0 fun _ _ _ => rfl
  refine (says_calls okZ okN okM (args := #[v0, v1]) (.cons a0 (.cons a1 .nil)) hsay).mono fun e W' ⟨he, hb⟩ => ?_
  subst he
  exact ⟨_, rfl, law_post (tb := y_bool) okLaid (by kernel_rfl) (by kernel_rfl) (by kernel_rfl) rfl hW' hb rfl⟩
end V
theorem execWork_holds : Rows.ExecWorkSaid :=
  OpenClaim.holds_of_wide 7 Tryz.f7 rfl rfl rfl rfl rfl rfl rfl ⟨rfl, rfl, rfl, rfl, rfl⟩ rfl rfl rfl rfl rfl (by kernel_rfl) (by kernel_rfl) (by kernel_rfl)
    (of_decide_eq_true (by kernel_rfl)) (by unfold Func.isWrapper; rw [if_neg (of_decide_eq_false (by kernel_rfl))]; exact ⟨rfl, rfl⟩)
    (fun os started H enc _ => V.execWork_lifted os started H enc)
end Go.Proofs.YtjndkdmkecpllaaGreat