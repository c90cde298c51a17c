/- What find (of auto's builder) hands back.
   No condition. -/
import Derived.Test.YtmmdcdjkmakgpaaBE
set_option linter.unusedVariables false
set_option linter.unusedSimpArgs false
namespace Go.Proofs.Ytmmdcdjkmakgpaa
namespace V
open PA
attribute [local irreducible] bindP ifP condP newP optP exP beqP
abbrev nilS : Value := .slice none 0 0
/-- The map of known states. -/
def KOk (S : List StateD) (f : List UInt8 → Option Value) : Prop := ∀ l, l ≠ [] → (∀ x ∈ l, 0 ≤ x ∧ x < 512) → f (keyZ l) = (S.findIdx? (isL l)).map fun k => .int .i64 (k : Int)
/-- A builder, in memory. -/
structure Bd (h : T Obj) (g : GlD) (bid nid kid eid yid sid : Nat) (av bv fv : Value) (c : List Nat) (n : Int) (cv : Value) (S : List StateD) (cs : List (List Value)) : Prop where
  hc : c.length = 256
  blk : h.get bid = some (.cells (bldL av bv (.map (some nid)) fv c n cv (.slice (some (own sid 4)) cs.length cs.length) (.map (some kid)) (.map (some eid)) (.map (some yid))).toArray y_auto_builder)
  num : ∃ f, MapG injI h nid f ∧ NOk g f
  known : ∃ f, MapG injS h kid f ∧ KOk S f
  row : h.get sid = some (.cells cs.flatten.toArray y_api_State)
  z4 : ∀ x ∈ cs, x.length = 4
  len : cs.length = S.length
  few : S.length ≤ 256
  pos : 0 < S.length
  nk : nid ≠ kid
/-- A new state's cells. -/
def NewSt (h : T Obj) (lo : Nat) (x : List Value) (s : StateD) : Prop := ∃ lv rv, x = [lv, rv, nilS, nilS] ∧ OwnT h lv 1 y_int (intsZ s.l) lo ∧ OwnT h rv 1 y_int (intsZ s.r) lo ∧ s.rule = [] ∧ s.next = []
/-- States that are new. -/
def Grow (h : T Obj) (lo : Nat) (cs cs' : List (List Value)) (S S' : List StateD) : Prop := ∃ ds T, cs' = cs ++ ds ∧ S' = S ++ T ∧ ds.length = T.length ∧ ∀ (i : Nat) x s, ds[i]? = some x → T[i]? = some s → NewSt h lo x s
theorem Grow.refl {h : T Obj} {lo : Nat} {cs : List (List Value)} {S : List StateD} : Grow h lo cs cs S S := ⟨[], [], by simp, by simp, rfl, fun i x s hx => by simp at hx⟩
section
variable {h h' : T Obj} {g : GlD} {bid nid kid eid yid sid : Nat} {av bv fv : Value} {c : List Nat} {n : Int} {cv : Value} {S : List StateD} {cs : List (List Value)}
theorem Bd.sub (hB : Bd h g bid nid kid eid yid sid av bv fv c n cv S cs) (hs : Sub h h') : Bd h' g bid nid kid eid yid sid av bv fv c n cv S cs := by
  obtain ⟨f1, n1, n2⟩ := hB.num
  obtain ⟨f2, k1, k2⟩ := hB.known
  exact ⟨hB.hc, hs _ _ hB.blk, ⟨f1, n1.sub hs, n2⟩, ⟨f2, k1.sub hs, k2⟩, hs _ _ hB.row, hB.z4, hB.len, hB.few, hB.pos, hB.nk⟩
theorem Bd.ids (hB : Bd h g bid nid kid eid yid sid av bv fv c n cv S cs) : bid ≠ sid ∧ bid ≠ kid ∧ bid ≠ nid ∧ sid ≠ kid ∧ sid ≠ nid := by
  obtain ⟨f1, n1, n2⟩ := hB.num
  obtain ⟨f2, k1, k2⟩ := hB.known
  obtain ⟨a1, a2, a3⟩ := n1.obj
  obtain ⟨b1, b2, b3⟩ := k1.obj
  have h1 := hB.blk
  have h2 := hB.row
  refine ⟨fun e => ?_, fun e => ?_, fun e => ?_, fun e => ?_, fun e => ?_⟩ <;> subst e
  · rw [h1] at h2
    simp only [Option.some.injEq, Obj.cells.injEq] at h2
    exact absurd h2.2.1 (by decide)
  · rw [h1] at b3; cases b3
  · rw [h1] at a3; cases a3
  · rw [h2] at b3; cases b3
  · rw [h2] at a3; cases a3
theorem Bd.own (hB : Bd h g bid nid kid eid yid sid av bv fv c n cv S cs) : OwnT h (.slice (some (own sid 4)) cs.length cs.length) 4 y_api_State cs 0 := .inr ⟨sid, Nat.zero_le _, rfl, hB.z4, hB.row⟩
end
theorem lit_int (aid : Nat) (b : Int) : sliceLitV Try.prog y_s_int aid 1 [(0, .int .i64 b)] = some (.slice (some (own aid 1)) 1 1, some (.cells [Value.int .i64 b].toArray y_int)) := by kernel_rfl
theorem und_sint : und Try.prog y_s_int = some (.slice y_int) := by kernel_rfl
theorem tin_sint : ∃ i, tin Try.prog y_int = some i ∧ i.size = 1 ∧ i.bytes = 8 := tinOf (by kernel_rfl)
/-- A number appended. -/
theorem app_int {ro : Ro} {h : T Obj} {v : Value} {nx n1 n2 lo : Nat} {l : List Int} {b : Int} {K : Value × Option Obj → T Obj → Value × T Obj × Nat → Prop} (ho : OwnT h v 1 y_int (intsZ l) lo) (hl : l.length ≤ 1000000) (hf : Fr h nx) (hlo : lo ≤ nx) (hn1 : nx ≤ n1) (hn2 : n1 < n2)
    (hK : ∀ h' w, OwnT h' w 1 y_int (intsZ (l ++ [b])) lo → w = .slice (some (own n2 1)) (l.length + 1) (l.length + 1) → Kp v h h' → Fr h' (n2 + 1) → K (.slice (some (own n1 1)) 1 1, some (.cells [Value.int .i64 b].toArray y_int)) (h.upd n1 (some (.cells [Value.int .i64 b].toArray y_int))) (w, h', n2 + 1)) :
    bindP (sliceLitV Try.prog y_s_int n1 1 [(0, .int .i64 b)]) fun r => optP h n1 r.2 fun h' => bindP (appendV Try.prog ro h' n2 #[y_s_int, y_s_int] [v, r.1]) (K r h') := by
  obtain ⟨i, g1, g2, g3⟩ := tin_sint
  have e : intsZ l ++ [[Value.int .i64 b]] = intsZ (l ++ [b]) := by simp [intsZ]
  have el := intsZ_len l
  refine append_lit (z := 1) (l := intsZ l) (y := [.int .i64 b]) (lit_int _ _) rfl ho und_sint g1 g2 (by omega) zerI rfl rfl (by rw [el, g3]; unfold big; omega) (by rw [el]; unfold big; omega) hf hlo hn1 hn2 fun h' q1 q2 q3 => ?_
  rw [e] at q1 ⊢
  refine hK h' _ q1 ?_ q2 q3
  rw [intsZ_len, List.length_append]; rfl
theorem zer_State : zer Try.prog y_api_State = some (.agg #[nilS, nilS, nilS, nilS]) := by kernel_rfl
theorem lit_State (aid : Nat) (a b c d : Value) : sliceLitV Try.prog y_s_api_State aid 1 [(0, .agg #[a, b, c, d])] = some (.slice (some (own aid 4)) 1 1, some (.cells [a, b, c, d].toArray y_api_State)) := by kernel_rfl
theorem und_sState : und Try.prog y_s_api_State = some (.slice y_api_State) := by kernel_rfl
theorem tin_State : ∃ i, tin Try.prog y_api_State = some i ∧ i.size = 4 ∧ i.bytes = 96 := tinOf (by kernel_rfl)
theorem app_State {ro : Ro} {h : T Obj} {v a b c d : Value} {nx n1 n2 lo : Nat} {l : List (List Value)} {K : Value × Option Obj → T Obj → Value × T Obj × Nat → Prop} (ha : cellOk a = true) (hb : cellOk b = true) (hc : cellOk c = true) (hd : cellOk d = true) (ho : OwnT h v 4 y_api_State l lo) (hl : l.length ≤ 1000000) (hf : Fr h nx) (hlo : lo ≤ nx) (hn1 : nx ≤ n1) (hn2 : n1 < n2)
    (hK : ∀ h' w, OwnT h' w 4 y_api_State (l ++ [[a, b, c, d]]) lo → w = .slice (some (own n2 4)) (l ++ [[a, b, c, d]]).length (l ++ [[a, b, c, d]]).length → Kp v h h' → Fr h' (n2 + 1) → K (.slice (some (own n1 4)) 1 1, some (.cells [a, b, c, d].toArray y_api_State)) (h.upd n1 (some (.cells [a, b, c, d].toArray y_api_State))) (w, h', n2 + 1)) :
    bindP (sliceLitV Try.prog y_s_api_State n1 1 [(0, .agg #[a, b, c, d])]) fun r => optP h n1 r.2 fun h' => bindP (appendV Try.prog ro h' n2 #[y_s_api_State, y_s_api_State] [v, r.1]) (K r h') := by
  obtain ⟨i, g1, g2, g3⟩ := tin_State
  exact append_lit (z := 4) (l := l) (y := [a, b, c, d]) (lit_State _ _ _ _ _) rfl ho und_sState g1 g2 (by omega) zer_State rfl (by simp [ha, hb, hc, hd]) (by rw [g3]; unfold big; omega) (by unfold big; omega) hf hlo hn1 hn2 fun h' q1 q2 q3 => hK h' _ q1 rfl q2 q3
theorem build_State (a b : Value) (ha : a.cells = #[a]) (hb : b.cells = #[b]) : buildV Try.prog y_api_State [(0, a), (1, b)] = some (.agg #[a, b, nilS, nilS]) := by
  have hz := zer_State
  have hp : (match und Try.prog y_api_State with | some (.struct fs) => placesV Try.prog fs.toList | _ => none) = some [(0, 1), (1, 1), (2, 1), (3, 1)] := by kernel_rfl
  unfold buildV
  rw [hz]
  simp only [Option.bind]
  cases hu : und Try.prog y_api_State with
  | none => rw [hu] at hp; cases hp
  | some d =>
    rw [hu] at hp
    cases d <;> try (cases hp; done)
    rename_i fs
    simp only at hp ⊢
    rw [hp]
    simp only [fillV, ha, hb]
    rfl
theorem cells_of_ok {v : Value} (h : cellOk v = true) : v.cells = #[v] := by
  cases v <;> first | rfl | (cases h; done)
theorem regsZ_snoc (g : GlD) (l : List Int) (x : Int) : regsZ g (l ++ [x]) = if ctd g x then regsZ g l ++ [numZ g x] else regsZ g l := by
  unfold regsZ
  rw [List.filter_append]
  cases h : ctd g x <;> simp [h]
theorem findIdx_snoc {S : List StateD} {s : StateD} {l m : List Int} (hs : s.l = l) (hn : S.findIdx? (isL l) = none) : (S ++ [s]).findIdx? (isL m) = if m = l then some S.length else S.findIdx? (isL m) := by
  rw [List.findIdx?_append]
  by_cases h : m = l
  · subst h
    rw [if_pos rfl, hn]
    simp [List.findIdx?_cons, isL, hs]
  · rw [if_neg h]
    have : isL m s = false := by unfold isL; rw [hs]; exact decide_eq_false (Ne.symm h)
    simp [List.findIdx?_cons, this]
set_option maxRecDepth 8000 in
set_option maxHeartbeats 1000000 in
theorem auto_find_c {ro : Ro} {g : GlD} {bid nid kid eid yid sid : Nat} {av bv fv cv lv : Value} {c : List Nat} {n : Int} {S : List StateD} {cs : List (List Value)} {l : List Int} {lo : Nat} (hg : g.p.length ≤ 512) (hz : rz (-1) g.p.length l = true) (hll : l.length ≤ 512) (hne : l ≠ [])
    {h : T Obj} {nx : Nat} {K : KV} (hf : Fr h nx) (hB : Bd h g bid nid kid eid yid sid av bv fv c n cv S cs) (hl : OwnT h lv 1 y_int (intsZ l) lo) (hlo : lo ≤ nx) (hlb : bid < lo)
    (hK : ∀ h' nx' sid' cs', nx ≤ nx' → Fr h' nx' → Keep [bid, kid, sid] h h' → (sid' = sid ∨ nx ≤ sid') → Bd h' g bid nid kid eid yid sid' av bv fv c n cv (findZ g S l).2.2 cs' → Grow h' lo cs cs' S (findZ g S l).2.2 → K (.tuple #[.int .i64 (findZ g S l).1, .int .i64 (findZ g S l).2.1]) h' nx') :
    callP Try.prog ro i_auto_builder_find [ptr bid, lv] h nx K := by
  apply auto_builder_find_of
  unfold auto_builder_find
  have hrange : ∀ x ∈ l, 0 ≤ x ∧ x < 512 := fun x hx => by have := rz_mem hz x hx; omega
  have hzl : ZI ro h lv l := hl.sl
  have hb := hB.blk
  have b263 := bldL_263 (av := av) (bv := bv) (nv := .map (some nid)) (fv := fv) (n := n) (cv := cv) (sv := .slice (some (own sid 4)) cs.length cs.length) (kv := .map (some kid)) (ev := .map (some eid)) (yv := .map (some yid)) hB.hc
  obtain ⟨fk, hk1, hk2⟩ := hB.known
  have hlk := look_si hk1 (keyZ l)
  rw [hk2 l hne hrange] at hlk
  (repeat (first | refine bindP_mk (by simp (disch := first | omega | exact Int.natCast_nonneg _ | assumption) only [BB, B2, ↓reduceIte, Nat.reduceLeDiff, Nat.reduceAdd, CC, nilCk_at, hb, b263] <;> rfl) ?_ | refine newP_mk ?_ | refine optP_mk ?_ | with_reducible first | refine condP_t ?_ | refine condP_f ?_ | refine ifP_tt' ?_ | refine ifP_ff' ?_ | refine ifP_tf' ?_ | refine ifP_ft' ?_ | refine ifP_u' ?_ | refine optP_mk0 ?_))
  refine auto_key_c (by omega) hne hrange (hf.mono (by omega)) hzl fun n1 hn1 => ?_
  refine ⟨sameV_own hb hb, ?_⟩
  cases hfi : S.findIdx? (isL l) with
  | some k =>
    have hfz : findZ g S l = ((k : Int), 0, S) := by unfold findZ; rw [hfi]
    rw [hfz] at hK
    rw [hfi] at hlk
    simp only [Option.map_some, Option.getD_some, Option.isSome_some] at hlk
    (repeat (first | refine bindP_mk (by simp (disch := first | omega | exact Int.natCast_nonneg _ | assumption) only [BB, B2, ↓reduceIte, Nat.reduceLeDiff, Nat.reduceAdd, CC, hlk, nth0, nth1] <;> rfl) ?_ | refine newP_mk ?_ | refine optP_mk ?_ | with_reducible first | refine condP_t ?_ | refine condP_f ?_ | refine ifP_tt' ?_ | refine ifP_ff' ?_ | refine ifP_tf' ?_ | refine ifP_ft' ?_ | refine ifP_u' ?_ | refine optP_mk0 ?_))
    exact ⟨h, Sub.refl _, hK h _ sid cs (by omega) (hf.mono (by omega)) (Sub.refl h).keepL (.inl rfl) hB Grow.refl⟩
  | none =>
    have hfz : findZ g S l = if 3 < (regsZ g l).length then ((0 : Int), (110 : Int), S) else if 256 ≤ S.length then ((0 : Int), (3 : Int), S) else (((S.length : Nat) : Int), (0 : Int), S ++ [⟨l, regsZ g l, [], []⟩]) := by unfold findZ; rw [hfi]
    rw [hfz] at hK
    rw [hfi] at hlk
    simp only [Option.map_none, Option.getD_none, Option.isSome_none] at hlk
    have hlen := hzl.len
    (repeat (first | refine bindP_mk (by simp (disch := first | omega | exact Int.natCast_nonneg _ | assumption) only [BB, B2, ↓reduceIte, Nat.reduceLeDiff, Nat.reduceAdd, CC, hlk, nth0, nth1, hlen] <;> rfl) ?_ | refine newP_mk ?_ | refine optP_mk ?_ | with_reducible first | refine condP_t ?_ | refine condP_f ?_ | refine ifP_tt' ?_ | refine ifP_ff' ?_ | refine ifP_tf' ?_ | refine ifP_ft' ?_ | refine ifP_u' ?_ | refine optP_mk0 ?_))
    refine loopP_rule (fun j e h' nx' => ∃ (k : Nat), k + j = l.length ∧ nx ≤ nx' ∧ Sub h h' ∧ Fr h' nx' ∧ e 0 = ptr bid ∧ e 1 = lv ∧ e 26 = lv ∧ e 27 = .int .i64 l.length ∧ e 28 = .int .i64 k ∧ OwnT h' (e 8) 1 y_int (intsZ (regsZ g (l.take k))) nx) ?_ (n := l.length) ⟨0, by omega, by omega, Sub.refl h, hf.mono (by omega), rfl, rfl, rfl, rfl, rfl, OwnT.nil⟩
    rintro j e h' nx' ⟨k, hj, hnx, hs, hf', e0, e1, e26, e27, e28, ho⟩ Q' hq hx
    have hB' := hB.sub hs
    obtain ⟨fn, hm1, hm2⟩ := hB'.num
    have hb' := hB'.blk
    unfold auto_builder_find_L1
    rw [e0, e26, e27, e28]
    refine lss_s (fun hk => ?_) (fun hk => ?_)
    · have hk : k < l.length := by omega
      have hld := (hzl.sub hs).load hk
      have hxr := hrange _ (List.getElem_mem hk)
      have hrs : regsZ g (l.take (k + 1)) = if ctd g l[k] then regsZ g (l.take k) ++ [numZ g l[k]] else regsZ g (l.take k) := by rw [List.take_succ_eq_append_getElem hk, regsZ_snoc]
      generalize l[k] = x at hld hxr hrs
      have hlx := look_ii hm1 x
      rw [hm2 x hxr.1] at hlx
      have bn := bldL_2 (av := av) (bv := bv) (nv := .map (some nid)) (fv := fv) (c := c) (n := n) (cv := cv) (sv := .slice (some (own sid 4)) cs.length cs.length) (kv := .map (some kid)) (ev := .map (some eid)) (yv := .map (some yid))
      refine condP_t (bindP_mk (hzl.ix _ hk) (bindP_mk hld ?_))
      (repeat (first | refine bindP_mk (by simp (disch := first | omega | exact Int.natCast_nonneg _ | assumption) only [BB, B2, ↓reduceIte, Nat.reduceLeDiff, Nat.reduceAdd, CC, nilCk_at, hb', bn, hlx, nth0, nth1] <;> rfl) ?_ | refine newP_mk ?_ | refine optP_mk ?_ | with_reducible first | refine condP_t ?_ | refine condP_f ?_ | refine ifP_tt' ?_ | refine ifP_ff' ?_ | refine ifP_tf' ?_ | refine ifP_ft' ?_ | refine ifP_u' ?_ | refine optP_mk0 ?_))
      have hj2 : ∀ (e : Env) (h3 : T Obj) (n3 : Nat), nx' ≤ n3 → Sub h h3 → Fr h3 n3 → e 0 = ptr bid → e 1 = lv → e 26 = lv → e 27 = .int .i64 l.length → e 28 = .int .i64 k → OwnT h3 (e 8) 1 y_int (intsZ (regsZ g (l.take (k + 1)))) nx → auto_builder_find_j2 ro Q' e h3 n3 := by
        intro e h3 n3 hn3 s1 s2 e0 e1 e26 e27 e28 o3
        unfold auto_builder_find_j2
        rw [e28]
        (repeat (first | refine bindP_mk (by simp (disch := first | omega | exact Int.natCast_nonneg _ | assumption) only [BB, B2, ↓reduceIte, Nat.reduceLeDiff, Nat.reduceAdd, CC] <;> rfl) ?_ | refine newP_mk ?_ | refine optP_mk ?_ | with_reducible first | refine condP_t ?_ | refine condP_f ?_ | refine ifP_tt' ?_ | refine ifP_ff' ?_ | refine ifP_tf' ?_ | refine ifP_ft' ?_ | refine ifP_u' ?_ | refine optP_mk0 ?_))
        exact hq (j - 1) _ _ _ _ (by omega) ⟨k + 1, by omega, by omega, s1, s2.mono (by omega), e0, e1, e26, e27, rfl, o3⟩ (Sub.refl _)
      have hrl : (regsZ g (l.take k)).length ≤ 1000000 := by
        unfold regsZ
        rw [List.length_map]
        have := List.length_filter_le (ctd g) (l.take k)
        rw [List.length_take] at this
        omega
      cases hct : ctd g x with
      | true =>
        rw [hct, if_pos rfl] at hrs
        simp only [if_true, Option.isSome_some, Option.getD_some]
        (repeat (first | refine bindP_mk (by simp (disch := first | omega | exact Int.natCast_nonneg _ | assumption) only [BB, B2, ↓reduceIte, Nat.reduceLeDiff, Nat.reduceAdd, CC] <;> rfl) ?_ | refine newP_mk ?_ | refine optP_mk ?_ | with_reducible first | refine condP_t ?_ | refine condP_f ?_ | refine ifP_tt' ?_ | refine ifP_ff' ?_ | refine ifP_tf' ?_ | refine ifP_ft' ?_ | refine ifP_u' ?_ | refine optP_mk0 ?_))
        refine app_int ho hrl hf' (by omega) (by omega) (by omega) fun h3 w q1 q2 q3 q4 => ?_
        dsimp only
        refine hj2 _ _ _ (by omega) (ho.sub q3 hf (Nat.le_refl _) hs) (q4.mono (by omega)) e0 e1 e26 e27 e28 ?_
        rw [hrs]; exact q1
      | false =>
        rw [hct, if_neg (by decide)] at hrs
        simp only [Bool.false_eq_true, if_false, Option.isSome_none]
        (repeat (first | refine bindP_mk (by simp (disch := first | omega | exact Int.natCast_nonneg _ | assumption) only [BB, B2, ↓reduceIte, Nat.reduceLeDiff, Nat.reduceAdd, CC] <;> rfl) ?_ | refine newP_mk ?_ | refine optP_mk ?_ | with_reducible first | refine condP_t ?_ | refine condP_f ?_ | refine ifP_tt' ?_ | refine ifP_ff' ?_ | refine ifP_tf' ?_ | refine ifP_ft' ?_ | refine ifP_u' ?_ | refine optP_mk0 ?_))
        refine hj2 _ _ _ (by omega) hs (hf'.mono (by omega)) e0 e1 e26 e27 e28 ?_
        rw [hrs]; exact ho
    · (repeat (first | refine bindP_mk (by simp (disch := first | omega | exact Int.natCast_nonneg _ | assumption) only [BB, B2, ↓reduceIte, Nat.reduceLeDiff, Nat.reduceAdd, CC] <;> rfl) ?_ | refine newP_mk ?_ | refine optP_mk ?_ | with_reducible first | refine condP_t ?_ | refine condP_f ?_ | refine ifP_tt' ?_ | refine ifP_ff' ?_ | refine ifP_tf' ?_ | refine ifP_ft' ?_ | refine ifP_u' ?_ | refine optP_mk0 ?_))
      refine hx _ _ _ _ (fun e => by cases e) (exP_e (beqP_t ?_))
      rw [List.take_of_length_le (by omega)] at ho
      have hrl : (regsZ g l).length ≤ 512 := by
        unfold regsZ
        rw [List.length_map]
        have := List.length_filter_le (ctd g) l
        omega
      have fin : ∀ (e' : Env) n', e' 0 = ptr bid → e' 1 = lv → OwnT h' (e' 8) 1 y_int (intsZ (regsZ g l)) nx → nx' ≤ n' → auto_builder_find_j1 ro K e' h' n' := by
        intro e' n' f0 f1 ho hn'
        unfold auto_builder_find_j1
        rw [f0, f1]
        generalize e' 8 = rv at ho
        have hrn := (ho.sl (ro := ro)).len
        rw [intsZ_len] at hrn
        have hb262 := bldL_262 (av := av) (bv := bv) (nv := .map (some nid)) (fv := fv) (n := n) (cv := cv) (sv := .slice (some (own sid 4)) cs.length cs.length) (kv := .map (some kid)) (ev := .map (some eid)) (yv := .map (some yid)) hB.hc
        refine bindP_mk hrn ?_
        refine gtr_s (fun u1 => ?_) (fun u1 => ?_)
        · (repeat (first | refine bindP_mk (by simp (disch := first | omega | exact Int.natCast_nonneg _ | assumption) only [BB, B2, ↓reduceIte, Nat.reduceLeDiff, Nat.reduceAdd, CC] <;> rfl) ?_ | refine newP_mk ?_ | refine optP_mk ?_ | with_reducible first | refine condP_t ?_ | refine condP_f ?_ | refine ifP_tt' ?_ | refine ifP_ff' ?_ | refine ifP_tf' ?_ | refine ifP_ft' ?_ | refine ifP_u' ?_ | refine optP_mk0 ?_))
          rw [if_pos (by omega)] at hK
          exact ⟨h, hs, hK h _ sid cs (by omega) (hf.mono (by omega)) (Sub.refl h).keepL (.inl rfl) hB Grow.refl⟩
        · rw [if_neg (by omega)] at hK
          (repeat (first | refine bindP_mk (by simp (disch := first | omega | exact Int.natCast_nonneg _ | assumption) only [BB, B2, ↓reduceIte, Nat.reduceLeDiff, Nat.reduceAdd, CC, nilCk_at, hb', hb262] <;> rfl) ?_ | refine newP_mk ?_ | refine optP_mk ?_ | with_reducible first | refine condP_t ?_ | refine condP_f ?_ | refine ifP_tt' ?_ | refine ifP_ff' ?_ | refine ifP_tf' ?_ | refine ifP_ft' ?_ | refine ifP_u' ?_ | refine optP_mk0 ?_))
          refine geq_s (fun u2 => ?_) (fun u2 => ?_)
          · (repeat (first | refine bindP_mk (by simp (disch := first | omega | exact Int.natCast_nonneg _ | assumption) only [BB, B2, ↓reduceIte, Nat.reduceLeDiff, Nat.reduceAdd, CC] <;> rfl) ?_ | refine newP_mk ?_ | refine optP_mk ?_ | with_reducible first | refine condP_t ?_ | refine condP_f ?_ | refine ifP_tt' ?_ | refine ifP_ff' ?_ | refine ifP_tf' ?_ | refine ifP_ft' ?_ | refine ifP_u' ?_ | refine optP_mk0 ?_))
            rw [if_pos (by have := hB.len; omega)] at hK
            exact ⟨h, hs, hK h _ sid cs (by omega) (hf.mono (by omega)) (Sub.refl h).keepL (.inl rfl) hB Grow.refl⟩
          · rw [if_neg (by have := hB.len; omega)] at hK
            (repeat (first | refine bindP_mk (by simp (disch := first | omega | exact Int.natCast_nonneg _ | assumption) only [BB, B2, ↓reduceIte, Nat.reduceLeDiff, Nat.reduceAdd, CC, nilCk_at, hb', hb262, b263] <;> rfl) ?_ | refine newP_mk ?_ | refine optP_mk ?_ | with_reducible first | refine condP_t ?_ | refine condP_f ?_ | refine ifP_tt' ?_ | refine ifP_ff' ?_ | refine ifP_tf' ?_ | refine ifP_ft' ?_ | refine ifP_u' ?_ | refine optP_mk0 ?_))
            refine auto_key_c (by omega) hne hrange (hf'.mono (by omega)) (hzl.sub hs) fun n2 hn2 => ?_
            refine ⟨sameV_own hb' hb', ?_⟩
            obtain ⟨fk', hk1', hk2'⟩ := hB'.known
            obtain ⟨i1, i2, i3, i4, i5⟩ := hB'.ids
            obtain ⟨es, ec, p1, p2⟩ := put_si hk1' (keyZ l) (.int .i64 cs.length)
            refine bindP_mk p1 ?_
            have hkf : kid < nx' := by obtain ⟨_, _, q⟩ := hk1'.obj; exact hf'.lt' q
            have hbf : bid < nx' := hf'.lt' hb'
            have hsf : sid < nx' := hf'.lt' hB'.row
            have hf2 : Fr (h'.upd kid (some (.map es ec))) nx' := hf'.upd (Nat.le_refl _) hkf
            have hb2 : (h'.upd kid (some (.map es ec))).get bid = _ := (T.get_upd_ne _ _ i2).trans hb'
            have ho2 : OwnT (h'.upd kid (some (.map es ec))) (.slice (some (own sid 4)) cs.length cs.length) 4 y_api_State cs 0 := .inr ⟨sid, Nat.zero_le _, rfl, hB.z4, by rw [T.get_upd_ne _ _ i4]; exact hB'.row⟩
            have hk0 : Keep [bid, kid, sid] h (h'.upd kid (some (.map es ec))) := (hs.keepL).upd (by simp)
            have hmap := p2 (h'.upd kid (some (.map es ec))) (by rw [T.get_upd_same])
            have hor : OwnT (h'.upd kid (some (.map es ec))) rv 1 y_int (intsZ (regsZ g l)) nx := by
              rcases ho with ho | ⟨id, o1, rfl, o4, o5⟩
              · exact .inl ho
              · refine .inr ⟨id, o1, rfl, o4, ?_⟩
                rw [T.get_upd_ne _ _ (by rintro rfl; obtain ⟨_, _, q⟩ := hk1'.obj; rw [q] at o5; cases o5)]; exact o5
            have hgf : (h'.upd kid (some (.map es ec))).get kid = some (.map es ec) := T.get_upd_same _ _ _
            generalize h'.upd kid (some (.map es ec)) = h3 at hf2 hb2 ho2 hk0 hmap hor hgf
            (repeat (first | refine bindP_mk (by simp (disch := first | omega | exact Int.natCast_nonneg _ | assumption) only [BB, B2, ↓reduceIte, Nat.reduceLeDiff, Nat.reduceAdd, CC, nilCk_at, hb2, hb262] <;> rfl) ?_ | refine newP_mk ?_ | refine optP_mk ?_ | with_reducible first | refine condP_t ?_ | refine condP_f ?_ | refine ifP_tt' ?_ | refine ifP_ff' ?_ | refine ifP_tf' ?_ | refine ifP_ft' ?_ | refine ifP_u' ?_ | refine optP_mk0 ?_))
            have hlvok := hl.ok
            have hrvok := ho.ok
            refine bindP_mk (build_State _ _ (cells_of_ok hlvok) (cells_of_ok hrvok)) ?_
            refine app_State hlvok hrvok rfl rfl ho2 (by have := hB.len; have := hB.few; omega) hf2 (Nat.zero_le _) (by omega) (by omega) fun h4 w q1 q2 q3 q4 => ?_
            dsimp only
            have hb4 : h4.get bid = _ := q3 bid _ hb2 (by intro e; exact i1 (Option.some.inj e).symm)
            (repeat (first | refine bindP_mk (by simp (disch := first | omega | exact Int.natCast_nonneg _ | assumption) only [BB, B2, ↓reduceIte, Nat.reduceLeDiff, Nat.reduceAdd, CC, nilCk_at] <;> rfl) ?_ | refine newP_mk ?_ | refine optP_mk ?_ | with_reducible first | refine condP_t ?_ | refine condP_f ?_ | refine ifP_tt' ?_ | refine ifP_ff' ?_ | refine ifP_tf' ?_ | refine ifP_ft' ?_ | refine ifP_u' ?_ | refine optP_mk0 ?_))
            refine bindP_mk (store1_own (l := bldL av bv (.map (some nid)) fv c n cv (.slice (some (own sid 4)) cs.length cs.length) (.map (some kid)) (.map (some eid)) (.map (some yid))) hb4 (by rw [bldL_len hB.hc]; omega) (by rw [q2]; rfl) (by rw [q2]; rfl)) ?_
            rw [bldL_set262 hB.hc]
            refine ⟨_, Sub.refl _, ?_⟩
            have hkp : Keep [bid, kid, sid] h h4 := hk0.trans (q3.keepL fun id hid => by have : sid = id := Option.some.inj hid; subst this; simp)
            have hfin : Keep [bid, kid, sid] h (h4.upd bid (some (.cells (bldL av bv (.map (some nid)) fv c n cv w (.map (some kid)) (.map (some eid)) (.map (some yid))).toArray y_auto_builder))) := hkp.upd (by simp)
            have hcl : ((cs.length : Nat) : Int) = (S.length : Nat) := by rw [hB.len]
            rw [hcl]
            subst q2
            have ht : ∀ k o, h3.get k = some o → k ≠ sid → k ≠ bid → (h4.upd bid (some (.cells (bldL av bv (.map (some nid)) fv c n cv (.slice (some (own (n2 + 11) 4)) (cs ++ [[lv, rv, nilS, nilS]]).length (cs ++ [[lv, rv, nilS, nilS]]).length) (.map (some kid)) (.map (some eid)) (.map (some yid))).toArray y_auto_builder))).get k = some o := fun k o h1 h2 h3 => by
              rw [T.get_upd_ne _ _ h3]
              exact q3 k o h1 fun e => h2 (Option.some.inj e).symm
            have hf4 : Fr (h4.upd bid (some (.cells (bldL av bv (.map (some nid)) fv c n cv (.slice (some (own (n2 + 11) 4)) (cs ++ [[lv, rv, nilS, nilS]]).length (cs ++ [[lv, rv, nilS, nilS]]).length) (.map (some kid)) (.map (some eid)) (.map (some yid))).toArray y_auto_builder))) (n2 + 11 + 1) := q4.upd (Nat.le_refl _) (by omega)
            refine hK _ _ (n2 + 11) (cs ++ [[lv, rv, nilS, nilS]]) (by omega) (hf4.mono (by omega)) hfin (.inr (by omega)) ⟨hB.hc, by rw [T.get_upd_same], ?_, ?_, ?_, ?_, ?_, ?_, ?_, hB.nk⟩ ?_
            · obtain ⟨_, _, q⟩ := hm1.obj
              obtain ⟨es9, c9, ps9, r1, r2, r3⟩ := hm1
              refine ⟨fn, ⟨es9, c9, ps9, ?_, r2, r3⟩, hm2⟩
              have hn3 : h3.get nid = some (.map es9 c9) := hk0 nid _ (by
                obtain ⟨f8, w1, w2⟩ := hB.num
                obtain ⟨es8, c8, ps8, w3, w4, w5⟩ := w1
                have := hs _ _ w3
                rw [r1] at this
                rw [w3, ← this]) (by simp; exact ⟨i3.symm, hB.nk, i5.symm⟩)
              exact ht _ _ hn3 i5.symm i3.symm
            · obtain ⟨es9, c9, ps9, r1, r2, r3⟩ := hmap
              refine ⟨_, ⟨es9, c9, ps9, ht _ _ r1 i4.symm i2.symm, r2, r3⟩, ?_⟩
              intro m hm0 hm1
              show (if keyZ m = keyZ l then _ else fk' (keyZ m)) = _
              rw [findIdx_snoc (l := l) rfl hfi]
              by_cases hml : m = l
              · subst hml; rw [if_pos rfl, if_pos rfl, hB.len]; rfl
              · rw [if_neg (fun e => hml (keyZ_inj hm1 hrange e)), if_neg hml]; exact hk2' m hm0 hm1
            · rcases q1 with ⟨h9, _⟩ | ⟨id, r1, r2, r3, r4⟩
              · cases h9
              · have : n2 + 11 = id := by
                  simp only [Value.slice.injEq, Option.some.injEq, own, Addr.mk.injEq] at r2
                  exact r2.1.1
                subst this
                rw [T.get_upd_ne _ _ (by omega)]; exact r4
            · intro x hx
              rcases List.mem_append.1 hx with hx | hx
              · exact hB.z4 x hx
              · simp at hx; rw [hx]; rfl
            · simp [hB.len]
            · have := hB.len; simp; omega
            · simp
            · refine ⟨[[lv, rv, nilS, nilS]], [⟨l, regsZ g l, [], []⟩], rfl, rfl, rfl, ?_⟩
              intro i x s hx hs9
              cases i with
              | succ i => simp at hx
              | zero =>
                simp at hx hs9
                subst hx; subst hs9
                refine ⟨lv, rv, rfl, ?_, ?_, rfl, rfl⟩
                · refine hl.keepK hfin fun id hid => ?_
                  obtain ⟨b1, b2⟩ := hl.blk hid
                  have hn1 : id ≠ bid := by omega
                  have hn2 : id ≠ kid := by
                    rintro rfl
                    obtain ⟨_, _, q⟩ := hk1.obj
                    rw [q] at b2; cases b2
                  have hn3 : id ≠ sid := by
                    rintro rfl
                    have := hB.row
                    rw [this] at b2
                    simp only [Option.some.injEq, Obj.cells.injEq] at b2
                    exact absurd b2.2.1 (by decide)
                  simp; exact ⟨hn1, hn2, hn3⟩
                · rcases hor with hor | ⟨id, o1, rfl, o4, o5⟩
                  · exact .inl hor
                  · refine .inr ⟨id, by omega, rfl, o4, ht _ _ o5 ?_ ?_⟩
                    · have := hf.lt' hB.row; omega
                    · have := hf.lt' hB.blk; omega
      exact fin _ _ e0 e1 ho (by omega)
end V
end Go.Proofs.Ytmmdcdjkmakgpaa
