/- Texts laid one behind the other: GL, YD, LLongest.
   No condition. -/
import Derived.KernelRfl
import Derived.Test.YtjndkdmkecpllaaGreatQL6
set_option linter.unusedVariables false
set_option linter.unusedSimpArgs false
set_option linter.unusedVariables false
set_option linter.unusedSimpArgs false
namespace Go.Proofs.YtjndkdmkecpllaaGreat
namespace V
attribute [local irreducible] callPre callP bindP
@[irreducible] def law13_ExecLongest_j1 (ro : Ro) (K : KV) : Env → T Obj → Nat → Prop := fun e h nx => ∃ h39, Sub h39 h ∧ K (e 9) h39 (nx + 2)
@[irreducible] def law13_ExecLongest_L1 (ro : Ro) : PT := fun e h nx Q => bindP (intB .lss (e 53) (e 52)) fun t54_43 => condP t54_43 (bindP (ixSl 1 (e 51) (e 53)) fun t55_44 => bindP (load1 ro h t55_44) fun t56_45 => callP Tryz.prog ro i_exec_Machine_Longest [(e 12), (e 11), t56_45] h (nx + 8) fun t61_46 h47 n48 => bindP (nth 0 t61_46) fun t62_49 => bindP (nth 1 t61_46) fun t63_50 => bindP (nth 2 t61_46) fun t64_51 => callP Tryz.prog ro i_ref13_Machine_Longest [(e 14), (e 11), t56_45] h47 (n48 + 11) fun t69_52 h53 n54 => bindP (nth 0 t69_52) fun t70_55 => bindP (nth 1 t69_52) fun t71_56 => bindP (nth 2 t69_52) fun t72_57 => bindP (intB .neq t62_49 t70_55) fun t75_58 => ifP t75_58 false h53 (n54 + 36) (fun k59 => k59 t63_50 h53 (n54 + 36)) fun t77_60 h61 n62 => ifP t75_58 false h61 n62 (fun k63 => k63 t71_56 h61 n62) fun t78_64 h65 n66 => ifP t75_58 false h65 n66 (fun k67 => bindP (intB .neq t77_60 t78_64) fun t79_71 => k67 t79_71 h65 n66) fun t79_68 h69 n70 => bindP (pickV t75_58 (Value.bool true) t79_68) fun t80_72 => ifP t80_72 false h69 n70 (fun k73 => k73 t64_51 h69 n70) fun t82_74 h75 n76 => ifP t80_72 false h75 n76 (fun k77 => k77 t72_57 h75 n76) fun t83_78 h79 n80 => ifP t80_72 false h79 n80 (fun k81 => bindP (boolB .neq t82_74 t83_78) fun t84_85 => k81 t84_85 h79 n80) fun t84_82 h83 n84 => bindP (pickV t80_72 (Value.bool true) t84_82) fun t85_86 => ifP t85_86 false h83 n84 (fun k87 => k87 (e 12) h83 n84) fun t87_88 h89 n90 => ifP t85_86 false h89 n90 (fun k91 => callP Tryz.prog ro i_exec_Machine_Work [t87_88] h89 n90 fun t88_95 h96 n97 => k91 t88_95 h96 n97) fun t88_92 h93 n94 => ifP t85_86 false h93 n94 (fun k98 => k98 (e 14) h93 n94) fun t89_99 h100 n101 => ifP t85_86 false h100 n101 (fun k102 => callP Tryz.prog ro i_ref13_Machine_Work [t89_99] h100 n101 fun t90_106 h107 n108 => k102 t90_106 h107 n108) fun t90_103 h104 n105 => ifP t85_86 false h104 n105 (fun k109 => bindP (intB .neq t88_92 t90_103) fun t91_113 => k109 t91_113 h104 n105) fun t91_110 h111 n112 => bindP (pickV t85_86 (Value.bool true) t91_110) fun t92_114 => ifP t92_114 false h111 n112 (fun k115 => k115 (e 12) h111 n112) fun t94_116 h117 n118 => ifP t92_114 false h117 n118 (fun k119 => callP Tryz.prog ro i_exec_Machine_State [t94_116] h117 n118 fun t95_123 h124 n125 => k119 t95_123 h124 n125) fun t95_120 h121 n122 => ifP t92_114 false h121 n122 (fun k126 => k126 (e 14) h121 n122) fun t96_127 h128 n129 => ifP t92_114 false h128 n129 (fun k130 => bindP (nilCk t96_127) fun t97_134 => k130 t97_134 h128 n129) fun t97_131 h132 n133 => ifP t92_114 false h132 n133 (fun k135 => bindP (fwdP 259 t97_131) fun t98_139 => k135 t98_139 h132 n133) fun t98_136 h137 n138 => ifP t92_114 false h137 n138 (fun k140 => bindP (load1 ro h137 t98_136) fun t99_144 => (onP (some (t92_114, false)) (sameV t98_136 h117 h121)) ∧ (k140 t99_144 h137 n138)) fun t99_141 h142 n143 => ifP t92_114 false h142 n143 (fun k145 => bindP (intB .neq t95_120 t99_141) fun t100_149 => k145 t100_149 h142 n143) fun t100_146 h147 n148 => bindP (pickV t92_114 (Value.bool true) t100_146) fun t101_150 => condP t101_150 (Q .ret (puts e [(54, t54_43), (55, t55_44), (56, t56_45), (17, t56_45), (58, (e 12)), (59, (e 11)), (60, t56_45), (61, t61_46), (57, t61_46), (62, t62_49), (63, t63_50), (64, t64_51), (18, t62_49), (19, t63_50), (20, t64_51), (66, (e 14)), (67, (e 11)), (68, t56_45), (69, t69_52), (65, t69_52), (70, t70_55), (71, t71_56), (72, t72_57), (21, t70_55), (22, t71_56), (23, t72_57), (73, t62_49), (74, t70_55), (75, t75_58), (76, t75_58), (77, t77_60), (78, t78_64), (79, t79_68), (80, t80_72), (81, t80_72), (82, t82_74), (83, t83_78), (84, t84_82), (85, t85_86), (86, t85_86), (87, t87_88), (88, t88_92), (89, t89_99), (90, t90_103), (91, t91_110), (92, t92_114), (93, t92_114), (94, t94_116), (95, t95_120), (96, t96_127), (97, t97_131), (98, t98_136), (99, t99_141), (100, t100_146), (101, t101_150), (8, (Value.bool false))]) h147 (n148 + 1)) (bindP (intB .add (e 53) (Value.int IntKind.i64 1)) fun t102_151 => Q .normal (puts e [(54, t54_43), (55, t55_44), (56, t56_45), (17, t56_45), (58, (e 12)), (59, (e 11)), (60, t56_45), (61, t61_46), (57, t61_46), (62, t62_49), (63, t63_50), (64, t64_51), (18, t62_49), (19, t63_50), (20, t64_51), (66, (e 14)), (67, (e 11)), (68, t56_45), (69, t69_52), (65, t69_52), (70, t70_55), (71, t71_56), (72, t72_57), (21, t70_55), (22, t71_56), (23, t72_57), (73, t62_49), (74, t70_55), (75, t75_58), (76, t75_58), (77, t77_60), (78, t78_64), (79, t79_68), (80, t80_72), (81, t80_72), (82, t82_74), (83, t83_78), (84, t84_82), (85, t85_86), (86, t85_86), (87, t87_88), (88, t88_92), (89, t89_99), (90, t90_103), (91, t91_110), (92, t92_114), (93, t92_114), (94, t94_116), (95, t95_120), (96, t96_127), (97, t97_131), (98, t98_136), (99, t99_141), (100, t100_146), (101, t101_150), (102, t102_151), (53, t102_151)]) h147 (n148 + 2))) (Q (.exit 0) (puts e [(54, t54_43)]) h (nx + 1))
@[irreducible] def law13_ExecLongest (ro : Ro) (v0 v1 v2 v3 : Value) (h : T Obj) (nx : Nat) (K : KV) : Prop := newP h nx (.cells (Value.cells v0) y_api_Auto) fun h1 => callP Tryz.prog ro i_law13_shown [] h1 (nx + 3) fun t24_2 h3 n4 => bindP (loadA ro h3 259 (ptr nx)) fun t25_5 => callP Tryz.prog ro i_law13_few [t25_5] h3 (n4 + 11) fun t26_6 h7 n8 => bindP (lenStr v1) fun t29_9 => bindP (builtinQ Tryz.prog h7 .min #[y_int, y_int] [t29_9, (Value.int IntKind.i64 60)]) fun t30_10 => bindP (sliceV Tryz.prog y_string v1 none (some t30_10) none) fun t31_11 => bindP (zer Tryz.prog y_api_Auto) fun z12 => newP h7 (n4 + 8) (.cells z12.cells y_api_Auto) fun h13 => bindP (storeN 259 h13 (ptr (n4 + 8)) t26_6) fun h14 => bindP (loadA ro h14 259 (ptr (n4 + 8))) fun t33_15 => callP Tryz.prog ro i_exec_New [t33_15] h14 (n8 + 2) fun t34_16 h17 n18 => bindP (nth 0 t34_16) fun t35_19 => bindP (nth 1 t34_16) fun t36_20 => bindP (loadA ro h17 259 (ptr (n4 + 8))) fun t38_21 => callP Tryz.prog ro i_ref13_New [t38_21] h17 (n18 + 7) fun t39_22 h23 n24 => bindP (nth 0 t39_22) fun t40_25 => bindP (nth 1 t39_22) fun t41_26 => bindP (ptrB .eql t40_25 (Value.pointer none)) fun t43_27 => condP t43_27 (ifP t24_2 true h23 (n24 + 9) (fun k28 => k28 t35_19 h23 (n24 + 10)) fun t46_29 h30 n31 => ifP t24_2 true h30 n31 (fun k32 => bindP (ptrB .eql t46_29 (Value.pointer none)) fun t47_36 => k32 t47_36 h30 (n31 + 1)) fun t47_33 h34 n35 => bindP (pickV t24_2 t47_33 (Value.bool false)) fun t48_37 => ∃ h38, Sub h38 h34 ∧ K t48_37 h38 (n35 + 2)) (bindP (sliceLitV Tryz.prog y_s_int (n24 + 9) 2 [(0, v2), (1, v3)]) fun r40 => optP h23 (n24 + 9) r40.2 fun h41 => bindP (lenSl r40.1) fun t52_42 => loopP (law13_ExecLongest_L1 ro) (puts (entE [v0, v1, v2, v3]) [(4, (ptr nx)), (8, (Value.bool false)), (24, t24_2), (9, t24_2), (25, t25_5), (26, t26_6), (27, v1), (28, v1), (29, t29_9), (30, t30_10), (31, t31_11), (10, (ptr (n4 + 8))), (11, t31_11), (33, t33_15), (34, t34_16), (32, t34_16), (35, t35_19), (36, t36_20), (12, t35_19), (13, t36_20), (38, t38_21), (39, t39_22), (37, t39_22), (40, t40_25), (41, t41_26), (14, t40_25), (15, t41_26), (42, t40_25), (43, t43_27), (49, v2), (50, v3), (51, r40.1), (52, t52_42), (53, (Value.int IntKind.i64 0))]) h41 (n24 + 12) fun x155 e152 h153 n154 => exP x155 (law13_ExecLongest_j1 ro K e152 h153 n154) (fun i156 => beqP (Nat.beq i156 0) (law13_ExecLongest_j1 ro K e152 h153 n154) (False)) (∃ h157, Sub h157 h153 ∧ K (e152 8) h157 n154))
theorem law13_ExecLongest_eq (ro : Ro) (v0 v1 v2 v3 : Value) (h : T Obj) (nx : Nat) (K : KV) : callPre Tryz.prog ro (callP Tryz.prog ro) Tryz.f6 [v0, v1, v2, v3] h nx K = law13_ExecLongest ro v0 v1 v2 v3 h nx K := by kernel_rfl
theorem law13_ExecLongest_of {ro : Ro} {v0 v1 v2 v3 : Value} {h : T Obj} {nx : Nat} {K : KV} (hw : law13_ExecLongest ro v0 v1 v2 v3 h nx K) : callP Tryz.prog ro i_law13_ExecLongest [v0, v1, v2, v3] h nx K := callP_by (P := Tryz.prog) (fn := Tryz.f6) (by kernel_rfl) (by kernel_rfl) (by kernel_rfl) (Eq.mpr (law13_ExecLongest_eq ro v0 v1 v2 v3 h nx K) hw)
end V
end Go.Proofs.YtjndkdmkecpllaaGreat
set_option linter.unusedVariables false
set_option linter.unusedSimpArgs false
namespace Go.Proofs.YtjndkdmkecpllaaGreat
namespace V
attribute [local irreducible] bindP ifP condP newP optP exP beqP
theorem und_str : und Tryz.prog y_string = some .string := by kernel_rfl
theorem slice_str {s : ByteArray} {n : Nat} (hn : n ≤ s.size) : sliceV Tryz.prog y_string (.string s) none (some (.int .i64 (n : Int))) none = some (.string (s.extract 0 n)) := by
  have hb : Nat.ble n s.size = true := Nat.ble_eq_true_of_le hn
  have hnv : natV (.int .i64 (n : Int)) = some n := by simp [natV]
  unfold sliceV
  simp only [und_str, boundV, hnv, Option.bind, hb]
theorem lit_two (aid : Nat) (a b : Int) : sliceLitV Tryz.prog y_s_int aid 2 [(0, .int .i64 a), (1, .int .i64 b)] = some (.slice (some (own aid 1)) 2 2, some (.cells [Value.int .i64 a, .int .i64 b].toArray y_int)) := by kernel_rfl
theorem longL_ok {d : AutoD} (ha : autoOk d = true) (hcl : d.c.length = 256) : ∀ (l : List Nat) (i : Int) (m : MacD) (r : Int × Int × Bool) (B S : Nat), (∀ b ∈ l, b < 256) → MOk d m → WLe B m.rs → m.steps ≤ S → MOk d (longL d l i m r).2 ∧ WLe (B + 9 * l.length) (longL d l i m r).2.rs ∧ (longL d l i m r).2.steps ≤ S + 4 * l.length
  | [], i, m, r, B, S, hl, h1, h2, h3 => ⟨h1, h2.mono (by omega), by show m.steps ≤ _; omega⟩
  | b :: l, i, m, r, B, S, hl, h1, h2, h3 => by
    have hb := hl b (by simp)
    have s1 := step_ok ha h1 hcl hb
    have s2 := step_w ha h1 hcl hb h2
    have s3 := step_steps (b := b) ha h1
    rw [longL_cons, List.length_cons]
    split
    · obtain ⟨q1, q2, q3⟩ := longL_ok ha hcl l (i + 1) (stepM d m b) (if ruleM d (stepM d m b) = -1 then r else (i + 1, ruleM d (stepM d m b), true)) (B + 9) (S + 4) (fun x hx => hl x (by simp [hx])) s1 s2 (by omega)
      exact ⟨q1, q2.mono (by omega), by omega⟩
    · exact ⟨s1, s2.mono (by omega), by show (stepM d m b).steps ≤ _; omega⟩
theorem longM_ok {d : AutoD} (ha : autoOk d = true) (hcl : d.c.length = 256) {s : List Nat} {f : Int} {m : MacD} {B S : Nat} (hl : ∀ b ∈ s, b < 256) (h1 : MOk d m) (h2 : WLe B m.rs) (h3 : m.steps ≤ S) : MOk d (longM d s f m).2 ∧ WLe (B + 1 + 9 * s.length) (longM d s f m).2.rs ∧ (longM d s f m).2.steps ≤ S + 4 * s.length := by
  unfold longM
  split
  · exact ⟨h1, h2.mono (by omega), by show m.steps ≤ _; omega⟩
  · obtain ⟨q1, q2, q3⟩ := longL_ok ha hcl (s.drop f.toNat) f (resetM m) (0, 0, false) (B + 1) S (fun b hb => hl b (List.mem_of_mem_drop hb)) (reset_ok ha h1) (reset_w h2) h3
    have : (s.drop f.toNat).length ≤ s.length := by rw [List.length_drop]; omega
    exact ⟨q1, q2.mono (by omega), by omega⟩
section
variable {ro : Ro} {h : T Obj} {nx : Nat} {K : KV}
set_option maxRecDepth 8000 in
set_option maxHeartbeats 2000000 in
theorem law13_ExecLongest_c {x : List Value} {d : AutoD} {s : ByteArray} {from_ then_ : Int} (hf : Fr h nx) (hd : RAuto ro h x d) (hK : ∀ h' nx', nx ≤ nx' → K (.bool true) h' nx') : callP Tryz.prog ro i_law13_ExecLongest [.agg x.toArray, .string s, .int .i64 from_, .int .i64 then_] h nx K := by
  apply law13_ExecLongest_of
  unfold law13_ExecLongest
  refine param_mk hf (Nat.le_refl _) fun h1 hs1 hf1 g1 _ => ?_
  have g1 : h1.get nx = some (.cells x.toArray y_api_Auto) := g1
  refine shown_c ?_
  refine bindP_mk (loadA_all g1 hd.len) ?_
  refine law13_few_c (hf1.mono (by omega)) (hd.sub hs1) fun x' n2 hn2 hd2 => ?_
  generalize fewA d = d' at hd2
  refine bindP_mk (lenStr_bts s) ?_
  refine bindP_mk (min_int _ _ _ _) ?_
  rw [bts_len, show min ((s.size : Nat) : Int) 60 = ((min s.size 60 : Nat) : Int) by omega]
  refine bindP_mk (slice_str (by omega)) ?_
  have hw : (bts (s.extract 0 (min s.size 60))).length ≤ 60 := by rw [bts_extract, List.length_take]; omega
  generalize s.extract 0 (min s.size 60) = y at hw
  refine local_mk (x := x') zer_Auto (by show autZ.toArray.size = 259; simp [autZ_len]) rfl hd2.len hd2.okL hf1 (by omega) fun h2 hs2 hf2 g2 _ => ?_
  have hd3 := hd2.sub hs2
  have L2 := loadA_all (ro := ro) (z := 0) (n := 259) (l := x') g2 hd2.len
  refine bindP_mk L2 ?_
  refine exec_New_c (X0 := []) (hf2.mono (by omega)) hd3 (fun hno n3 hn3 => ?_) (fun k hk => by cases hk) fun hok pE psE X1 h3 n3 hn3 hf3 hs3 hX1 hE => ?_
  · refine bindP_mk (nth0 _ _) (bindP_mk (nth1 _ _) ?_)
    refine bindP_mk L2 ?_
    refine ref13_New_c (X0 := []) (hf2.mono (by omega)) hd3 (fun _ n4 hn4 => ?_) (fun k hk => by cases hk) fun hok => absurd hok (by rw [hno]; decide)
    refine bindP_mk (nth0 _ _) (bindP_mk (nth1 _ _) ?_)
    (repeat (first | refine bindP_mk (by simp (disch := first | omega | exact Int.natCast_nonneg _ | assumption) only [BB, B2, ↓reduceIte, Nat.reduceLeDiff, Nat.reduceAdd, CC, pNil0] <;> rfl) ?_ | refine newP_mk ?_ | refine optP_mk ?_ | with_reducible first | refine condP_t ?_ | refine condP_f ?_ | refine ifP_tt' ?_ | refine ifP_ff' ?_ | refine ifP_tf' ?_ | refine ifP_ft' ?_ | refine ifP_u' ?_ | refine optP_mk0 ?_))
    exact ⟨_, Sub.refl _, hK _ _ (by omega)⟩
  · refine bindP_mk (nth0 _ _) (bindP_mk (nth1 _ _) ?_)
    have g3 := hs3 _ _ g2
    refine bindP_mk (loadA_all (l := x') g3 hd2.len) ?_
    have hd4 : RAuto ro (del h3 X1) x' d' := hd3.sub (hs3.delN (hf2.mono (Nat.le_refl _)) fun k hk => by have := (hX1 k hk).1; omega)
    refine ref13_New_c (X0 := X1) (hf3.mono (by omega)) hd4 (fun hno => absurd hok (by rw [hno]; decide)) (fun k hk => by have := hX1 k hk; omega) fun _ pR psR X2 h4 n4 hn4 hf4 hs4 hX2 hR => ?_
    have hE4 : MI ro h4 (X1 ++ X2) pE psE (er d') (newM d') := hE.sub RI_ok hs4 (fun k hk => by
      rcases List.mem_append.1 hk with h9 | h9
      · exact .inl (by simpa using h9)
      · exact .inr (hf3 _ (by have := hX2 k h9; omega))) fun k hk => List.mem_append.2 (.inl (by simpa using hk))
    have hC512 := (autoOk_parts hok).2.1
    have hc : d'.c.length = 256 := by obtain ⟨cv', sv', _, hc, _⟩ := id hd3; exact hc
    have hokE := autoOk_er hok
    have hyb : ∀ b ∈ bts y, b < 256 := fun b hb => bts_lt b hb
    refine bindP_mk (nth0 _ _) (bindP_mk (nth1 _ _) ?_)
    (repeat (first | refine bindP_mk (by simp (disch := first | omega | exact Int.natCast_nonneg _ | assumption) only [BB, B2, ↓reduceIte, Nat.reduceLeDiff, Nat.reduceAdd, CC, pNil] <;> rfl) ?_ | refine newP_mk ?_ | refine optP_mk ?_ | with_reducible first | refine condP_t ?_ | refine condP_f ?_ | refine ifP_tt' ?_ | refine ifP_ff' ?_ | refine ifP_tf' ?_ | refine ifP_ft' ?_ | refine ifP_u' ?_ | refine optP_mk0 ?_))
    refine bindP_mk (lit_two _ _ _) (optP_mk ?_)
    have hs5 : Sub h4 (h4.upd (n4 + 9) (some (.cells [Value.int .i64 from_, .int .i64 then_].toArray y_int))) := (Sub.refl h4).new hf4 (by omega)
    have hf5 : Fr (h4.upd (n4 + 9) (some (.cells [Value.int .i64 from_, .int .i64 then_].toArray y_int))) (n4 + 10) := (hf4.mono (by omega)).upd (Nat.le_refl _) (by omega)
    have g5 : (h4.upd (n4 + 9) (some (.cells [Value.int .i64 from_, .int .i64 then_].toArray y_int))).get (n4 + 9) = some (.cells [Value.int .i64 from_, .int .i64 then_].toArray y_int) := T.get_upd_same _ _ _
    generalize (h4.upd (n4 + 9) (some (.cells [Value.int .i64 from_, .int .i64 then_].toArray y_int))) = h5 at hs5 hf5 g5
    have hlX : n4 + 9 ∉ X1 ++ X2 := fun hm => by
      rcases List.mem_append.1 hm with h9 | h9
      · have := hX1 _ h9; omega
      · have := hX2 _ h9; omega
    refine bindP_mk (a := .int .i64 ((2 : Nat) : Int)) rfl ?_
    refine loopP_rule (fun j e h' nx' => ∃ (k : Nat) (m : MacD) (X : List Nat) (psR' : List (Nat × Nat)), k + j = 2 ∧ nx ≤ nx' ∧ e 9 = .bool true ∧ e 11 = .string y ∧ e 12 = ptr pE ∧ e 14 = ptr pR ∧ e 51 = .slice (some (own (n4 + 9) 1)) 2 2 ∧ e 52 = .int .i64 ((2 : Nat) : Int) ∧ e 53 = .int .i64 k ∧ Fr h' nx' ∧
      h'.get (n4 + 9) = some (.cells [Value.int .i64 from_, .int .i64 then_].toArray y_int) ∧ n4 + 9 ∉ X ∧ MI ro h' X pE psE (er d') m ∧ MW ro h' X pR psR' d' m ∧ MOk d' m ∧ WLe (1000 * k) m.rs ∧ m.steps ≤ 1000 * k) ?_ (n := 2)
      ⟨0, newM d', X1 ++ X2, psR, by omega, by omega, rfl, rfl, rfl, rfl, rfl, rfl, rfl, hf5.mono (by omega), g5, hlX, hE4.subX RI_ok hs5, hR.subX WJ_ok hs5, new_ok hok, fun r hr => by
        obtain ⟨c9, _, rfl⟩ := List.mem_map.1 hr
        exact Nat.zero_le _, Nat.zero_le _⟩
    rintro j e h' nx' ⟨k, m, X, psR', hj, hnx, e9, e11, e12, e14, e51, e52, e53, hf', gl, hlX, hE, hR, hm, hw9, hst⟩ Q' hq hx
    unfold law13_ExecLongest_L1
    rw [e11, e12, e14, e51, e52, e53]
    refine lss_s (fun hk => ?_) (fun hk => ?_)
    · have hk : k < 2 := by omega
      have hsl : Sl ro h' (.slice (some (own (n4 + 9) 1)) 2 2) 1 (intsZ [from_, then_]) := Sl.own (l := intsZ [from_, then_]) (e := y_int) (f := (0, 0)) gl (by simp [intsZ]) (Nat.le_refl _)
      have hix := hsl.ix .i64 (i := k) (by rw [intsZ_len]; exact hk)
      have hld := hsl.load1 (intsZ_get (l := [from_, then_]) (i := k) hk)
      generalize [from_, then_][k] = at_ at hld
      (repeat (first | refine bindP_mk (by simp (disch := first | omega | exact Int.natCast_nonneg _ | assumption) only [BB, B2, ↓reduceIte, Nat.reduceLeDiff, Nat.reduceAdd, CC, hix, hld] <;> rfl) ?_ | refine newP_mk ?_ | refine optP_mk ?_ | with_reducible first | refine condP_t ?_ | refine condP_f ?_ | refine ifP_tt' ?_ | refine ifP_ff' ?_ | refine ifP_tf' ?_ | refine ifP_ft' ?_ | refine ifP_u' ?_ | refine optP_mk0 ?_))
      refine exec_Longest_c hE hokE (MOk_er hm) (hf'.mono (by omega)) hw9 (by omega) (by omega) (by omega) fun h6 n6 hn6 hf6 hk6 hE6 => ?_
      rw [longM_er] at hE6 ⊢
      have hR6 := two_exec hE hR hk6
      have gl6 := hk6 _ _ gl fun hm => hlX (hE.inX _ hm)
      refine bindP_mk (a := .int .i64 (longM d' (bts y) at_ m).1.1) rfl (bindP_mk (a := .int .i64 (longM d' (bts y) at_ m).1.2.1) rfl (bindP_mk (a := .bool (longM d' (bts y) at_ m).1.2.2) rfl ?_))
      refine ref13_Longest_c hR6 hok hm (hf6.mono (by omega)) hw9 (by omega) (by omega) (by omega) fun h7 n7 X7 ps7 hL7 => ?_
      refine bindP_mk (a := .int .i64 (longM d' (bts y) at_ m).1.1) rfl (bindP_mk (a := .int .i64 (longM d' (bts y) at_ m).1.2.1) rfl (bindP_mk (a := .bool (longM d' (bts y) at_ m).1.2.2) rfl ?_))
      have hE7 := two_ref hE6 hR6 hL7
      obtain ⟨l1, l2, l3, l4, l5, l6, hR7⟩ := hL7
      have gl7 := l3 _ _ gl6 fun hm => hlX (hR6.inX _ hm)
      have hlX7 : n4 + 9 ∉ X7 := fun hm => by
        rcases l4 _ hm with h9 | h9
        · exact hlX h9
        · rw [h9] at gl6; cases gl6
      obtain ⟨o1, o2, o3⟩ := longM_ok (f := at_) hok hc hyb hm hw9 hst
      generalize (longM d' (bts y) at_ m).2 = m7 at hE7 hR7 o1 o2 o3
      generalize (longM d' (bts y) at_ m).1 = R
      have gq : ∃ cv9 sv9 rv9, h7.get pR = some (.cells (machL d'.c d'.many cv9 sv9 m7.cur rv9 m7.steps).toArray y_raddleref13_Machine) := by
        obtain ⟨cv9, sv9, rv9, g9, _⟩ := id hR7
        exact ⟨cv9, sv9, rv9, g9⟩
      obtain ⟨cv9, sv9, rv9, gq⟩ := gq
      have m99 := machL_259 (n := d'.many) (cv := cv9) (sv := sv9) (cur := m7.cur) (rv := rv9) (steps := m7.steps) hc
      (repeat (first | refine bindP_mk (by simp (disch := first | omega | exact Int.natCast_nonneg _ | assumption) only [BB, B2, ↓reduceIte, Nat.reduceLeDiff, Nat.reduceAdd, CC] <;> rfl) ?_ | refine newP_mk ?_ | refine optP_mk ?_ | with_reducible first | refine condP_t ?_ | refine condP_f ?_ | refine ifP_tt' ?_ | refine ifP_ff' ?_ | refine ifP_tf' ?_ | refine ifP_ft' ?_ | refine ifP_u' ?_ | refine optP_mk0 ?_))
      simp only [beq_self_eq_true, Bool.not_true]
      (repeat (first | refine bindP_mk (by simp (disch := first | omega | exact Int.natCast_nonneg _ | assumption) only [BB, B2, ↓reduceIte, Nat.reduceLeDiff, Nat.reduceAdd, CC] <;> rfl) ?_ | refine newP_mk ?_ | refine optP_mk ?_ | with_reducible first | refine condP_t ?_ | refine condP_f ?_ | refine ifP_tt' ?_ | refine ifP_ff' ?_ | refine ifP_tf' ?_ | refine ifP_ft' ?_ | refine ifP_u' ?_ | refine optP_mk0 ?_))
      refine exec_Work_c hE7 (MOk_er o1) hC512 o2 (by omega) (by omega) fun n8 hn8 => ?_
      (repeat (first | refine bindP_mk (by simp (disch := first | omega | exact Int.natCast_nonneg _ | assumption) only [BB, B2, ↓reduceIte, Nat.reduceLeDiff, Nat.reduceAdd, CC] <;> rfl) ?_ | refine newP_mk ?_ | refine optP_mk ?_ | with_reducible first | refine condP_t ?_ | refine condP_f ?_ | refine ifP_tt' ?_ | refine ifP_ff' ?_ | refine ifP_tf' ?_ | refine ifP_ft' ?_ | refine ifP_u' ?_ | refine optP_mk0 ?_))
      refine ref13_Work_c hR7 o1 hC512 o2 (by omega) (by omega) fun n9 hn9 => ?_
      (repeat (first | refine bindP_mk (by simp (disch := first | omega | exact Int.natCast_nonneg _ | assumption) only [BB, B2, ↓reduceIte, Nat.reduceLeDiff, Nat.reduceAdd, CC] <;> rfl) ?_ | refine newP_mk ?_ | refine optP_mk ?_ | with_reducible first | refine condP_t ?_ | refine condP_f ?_ | refine ifP_tt' ?_ | refine ifP_ff' ?_ | refine ifP_tf' ?_ | refine ifP_ft' ?_ | refine ifP_u' ?_ | refine optP_mk0 ?_))
      refine exec_State_c hE7 fun n10 hn10 => ?_
      (repeat (first | refine bindP_mk (by simp (disch := first | omega | exact Int.natCast_nonneg _ | assumption) only [BB, B2, ↓reduceIte, Nat.reduceLeDiff, Nat.reduceAdd, CC, nilCk_at, gq, m99] <;> rfl) ?_ | refine newP_mk ?_ | refine optP_mk ?_ | with_reducible first | refine condP_t ?_ | refine condP_f ?_ | refine ifP_tt' ?_ | refine ifP_ff' ?_ | refine ifP_tf' ?_ | refine ifP_ft' ?_ | refine ifP_u' ?_ | refine optP_mk0 ?_))
      refine ⟨fun _ => sameV_own gq gq, ?_⟩
      (repeat (first | refine bindP_mk (by simp (disch := first | omega | exact Int.natCast_nonneg _ | assumption) only [BB, B2, ↓reduceIte, Nat.reduceLeDiff, Nat.reduceAdd, CC] <;> rfl) ?_ | refine newP_mk ?_ | refine optP_mk ?_ | with_reducible first | refine condP_t ?_ | refine condP_f ?_ | refine ifP_tt' ?_ | refine ifP_ff' ?_ | refine ifP_tf' ?_ | refine ifP_ft' ?_ | refine ifP_u' ?_ | refine optP_mk0 ?_))
      exact hq (j - 1) _ _ _ _ (by omega) ⟨k + 1, m7, X7, ps7, by omega, by omega, e9, e11, e12, e14, e51, e52, rfl, l2.mono (by omega), gl7, hlX7, hE7, hR7, o1, o2.mono (by omega), by omega⟩ (Sub.refl _)
    · (repeat (first | refine bindP_mk (by simp (disch := first | omega | exact Int.natCast_nonneg _ | assumption) only [BB, B2, ↓reduceIte, Nat.reduceLeDiff, Nat.reduceAdd, CC] <;> rfl) ?_ | refine newP_mk ?_ | refine optP_mk ?_ | with_reducible first | refine condP_t ?_ | refine condP_f ?_ | refine ifP_tt' ?_ | refine ifP_ff' ?_ | refine ifP_tf' ?_ | refine ifP_ft' ?_ | refine ifP_u' ?_ | refine optP_mk0 ?_))
      refine hx _ _ _ _ (fun e => by cases e) (exP_e (beqP_t ?_))
      have hend : ∀ (e' : Env) n', e' 9 = .bool true → nx ≤ n' → law13_ExecLongest_j1 ro K e' h' n' := by
        intro e' n' f9 hn
        unfold law13_ExecLongest_j1
        rw [f9]
        exact ⟨h', Sub.refl _, hK _ _ (by omega)⟩
      exact hend _ _ e9 (by omega)
end
end V
end Go.Proofs.YtjndkdmkecpllaaGreat
set_option linter.unusedVariables false
set_option linter.unusedSimpArgs false
set_option maxRecDepth 16000
namespace Go.Proofs.YtjndkdmkecpllaaGreat
namespace V
open Go.ChangeShapes Go.WideShapes Go.ChangeAt Go.RowKit
theorem execLongest_lifted (os : Os) (started : os.Started) (H : Type) (enc : TypeId × Value → H) :
    ReturnsInHanded {} Tryz.checked os 6 .any (Rows.execLongestSpec.pre6 enc Tryz.prog Tryz.f6 Rows.execLongestRow.domain false) (Rows.execLongestSpec.post enc Tryz.prog Tryz.f6 false true false false) := by
  refine returnsInHanded_of_change_sized (C := Tryz.checked) okOwn started (by kernel_rfl) (by kernel_rfl)
    (ChangeSpec.witness6 (enc := enc) (C := Tryz.checked) false ⟨#[], #[.agg (List.replicate 256 (Value.int .u8 0) ++ [Value.int .i64 0, .slice none 0 0, .slice none 0 0]).toArray, .string .empty, .int .i64 0, .int .i64 0], []⟩ 8 (by kernel_rfl) (by kernel_rfl) (by kernel_rfl) (by kernel_rfl)) ?_
  intro W base args ds gs before hval hW _ _ _
  have hW' := hW
  obtain ⟨p, q, hA0, hV, rfl, hfz, hnd⟩ := hW
  have hA : DataW.TrodAll enc Tryz.prog W 0 (fun _ => true) true [y_api_Auto, y_string, y_int, y_int] args.toList ds p := hA0
  obtain ⟨v0, v1, v2, v3, d0, d1, d2, d3, p0, p1, p2, p3, rfl, rfl, rfl, h0, h1, h2, h3⟩ := trodAll_four hA
  obtain ⟨rfl, rfl⟩ := trodVars_none hV
  obtain ⟨w0, d0, a0, hd0⟩ := open_auto h0 (hval 0 y_api_Auto v0 rfl rfl)
  obtain ⟨s1, a1⟩ := open_str h1 (hval 1 y_string v1 rfl rfl)
  obtain ⟨x2, a2⟩ := open_i64 h2 (hval 2 y_int v2 rfl rfl)
  obtain ⟨x3, a3⟩ := open_i64 h3 (hval 3 y_int v3 rfl rfl)
  have hsay : Says Tryz.prog W 6 [.agg w0.toArray, .string s1, .int .i64 x2, .int .i64 x3] := law13_ExecLongest_c Fr.e hd0 fun _ _ _ => rfl
  refine (says_calls okZ okN okM (args := #[v0, v1, v2, v3]) (.cons a0 (.cons a1 (.cons a2 (.cons a3 .nil)))) hsay).mono fun e W' ⟨he, hb⟩ => ?_
  subst he
  exact ⟨_, rfl, law_post (tb := y_bool) okLaid (by kernel_rfl) (by kernel_rfl) (by kernel_rfl) rfl hW' hb rfl⟩
end V
theorem execLongest_holds : Rows.ExecLongestSaid :=
  OpenClaim.holds_of_wide 6 Tryz.f6 rfl rfl rfl rfl rfl rfl rfl ⟨rfl, rfl, rfl, rfl, rfl⟩ rfl rfl rfl rfl rfl (by kernel_rfl) (by kernel_rfl) (by kernel_rfl)
    (of_decide_eq_true (by kernel_rfl)) (by unfold Func.isWrapper; rw [if_neg (of_decide_eq_false (by kernel_rfl))]; exact ⟨rfl, rfl⟩)
    (fun os started H enc _ => V.execLongest_lifted os started H enc)
end Go.Proofs.YtjndkdmkecpllaaGreat