/- Texts laid one behind the other: BL, BN, DB, DE, DG, DL, DO, DP, BO, BP, ES, EF, GR, AB.
   No condition. -/
import Derived.KernelRfl
import Derived.Test.YtmmdcdjkmakgpaaQB4
set_option linter.unusedVariables false
set_option linter.unusedSimpArgs false
namespace Go.Proofs.Ytmmdcdjkmakgpaa
namespace V
open PA
attribute [local irreducible] bindP ifP condP newP optP exP beqP
def SOk (g : GlD) (S : List StateD) : Prop := ∀ s ∈ S, rz (-1) g.p.length s.l = true ∧ s.r = regsZ g s.l ∧ s.r.length ≤ 3
theorem findZ_ok {g : GlD} {S : List StateD} {l : List Int} (hS : SOk g S) (hl : rz (-1) g.p.length l = true) : SOk g (findZ g S l).2.2 := by
  unfold findZ
  split
  · exact hS
  · split
    · exact hS
    · split
      · exact hS
      · intro s hs
        rcases List.mem_append.1 hs with hs | hs
        · exact hS s hs
        · simp at hs; subst hs
          exact ⟨hl, rfl, by show (regsZ g l).length ≤ 3; omega⟩
theorem goesZ_ok {g : GlD} {en st : Int → Bool} {b : Nat} {S : List StateD} (hS : SOk g S) : SOk g (goesZ g en st b S).2.2 := by
  by_cases h : lZ g en st b = []
  · rw [goesZ_nil h]; exact hS
  · rw [goesZ_ne h]; exact findZ_ok hS (lZ_rz _ _ _ _)
theorem rowZ_ok {g : GlD} {en st : Int → Bool} : ∀ {B : List Nat} {S : List StateD}, SOk g S → SOk g (rowZ g en st B S).2.2
  | [], S, hS => hS
  | b :: r, S, hS => by
    rw [rowZ_cons]
    split
    · exact rowZ_ok (goesZ_ok hS)
    · exact hS
theorem opZ_lt (en st : Int → Bool) (q : Int) : opZ en st q < 256 := by
  unfold opZ
  split
  · split <;> omega
  · omega
theorem goesZ_ops {g : GlD} (hg : g.p.length ≤ 512) {en st : Int → Bool} {b : Nat} {S : List StateD} : (∀ o ∈ (goesZ g en st b S).1.ops, o < 256) ∧ (goesZ g en st b S).1.ops.length ≤ 512 := by
  by_cases h : lZ g en st b = []
  · rw [goesZ_nil h]; exact ⟨fun o ho => (by cases ho), by simp⟩
  · rw [goesZ_ne h]
    refine ⟨fun o ho => ?_, ?_⟩
    · have ho : o ∈ opsZ g en st (lZ g en st b) := ho
      unfold opsZ at ho
      obtain ⟨q, _, rfl⟩ := List.mem_map.1 ho
      exact opZ_lt _ _ _
    · have h1 := opsZ_len g en st (lZ g en st b)
      have h2 := lZ_len g en st b
      show (opsZ g en st (lZ g en st b)).length ≤ 512
      omega
theorem rowZ_ops {g : GlD} (hg : g.p.length ≤ 512) {en st : Int → Bool} : ∀ {B : List Nat} {S : List StateD}, (∀ m ∈ (rowZ g en st B S).2.1, (∀ o ∈ m.ops, o < 256) ∧ m.ops.length ≤ 512) ∧ (rowZ g en st B S).2.1.length ≤ B.length
  | [], S => ⟨fun m hm => (by cases hm), Nat.le_refl _⟩
  | b :: r, S => by
    rw [rowZ_cons]
    split
    · obtain ⟨h1, h2⟩ := rowZ_ops hg (en := en) (st := st) (B := r) (S := (goesZ g en st b S).2.2)
      refine ⟨fun m hm => ?_, ?_⟩
      · rcases List.mem_cons.1 hm with rfl | hm
        · exact goesZ_ops hg
        · exact h1 m hm
      · simp only [List.length_cons]; omega
    · exact ⟨fun m hm => (by cases hm), Nat.zero_le _⟩
theorem modify_ok {g : GlD} {S : List StateD} (hS : SOk g S) (k : Nat) (rule : Int) (row : List MoveD) : SOk g (S.modify k (addRow rule row)) := by
  intro s hs
  obtain ⟨i, hi⟩ := List.mem_iff_getElem?.1 hs
  rw [List.getElem?_modify] at hi
  cases hq : S[i]? with
  | none => rw [hq] at hi; cases hi
  | some t =>
    rw [hq] at hi
    have ht := hS t (List.mem_of_getElem? hq)
    have hi := Option.some.inj hi
    split at hi
    · rw [← hi]; exact ht
    · have hi : t = s := hi
      rw [← hi]; exact ht
theorem codeZ_ok {g : GlD} {B : List Nat} {k : Nat} {c : Int} {S : List StateD} (hS : SOk g S) : SOk g (codeZ g B k c S).2 := by
  unfold codeZ
  dsimp only
  split
  · exact modify_ok (rowZ_ok hS) _ _ _
  · exact hS
theorem modify_ne {S : List StateD} {f : StateD → StateD} {i k : Nat} (h : i ≠ k) : (S.modify k f)[i]? = S[i]? := by
  rw [List.getElem?_modify]
  cases S[i]? with
  | none => rfl
  | some t => show some (if k = i then f t else t) = some t; rw [if_neg (Ne.symm h)]
theorem modify_self {S : List StateD} {f : StateD → StateD} {k : Nat} : (S.modify k f)[k]? = (S[k]?).map f := by
  rw [List.getElem?_modify]
  cases S[k]? with
  | none => rfl
  | some t => show some (if k = k then f t else t) = some (f t); rw [if_pos rfl]
theorem OwnT.updLo {h : T Obj} {v : Value} {z i : Nat} {e : TypeId} {l : List (List Value)} {lo : Nat} {o : Option Obj} (ho : OwnT h v z e l lo) (hi : i < lo) : OwnT (h.upd i o) v z e l lo := by
  rcases ho with ho | ⟨id, h1, rfl, h4, h5⟩
  · exact .inl ho
  · exact .inr ⟨id, h1, rfl, h4, by rw [T.get_upd_ne _ _ (by omega)]; exact h5⟩
structure StR (ro : Ro) (h : T Obj) (X : List Nat) (k : Nat) (uv wv lv rv : Value) (S : List StateD) (cs : List (List Value)) (s : StateD) (ws : List Value) : Prop where
  other : ∀ (i : Nat) x t, i ≠ k → cs[i]? = some x → S[i]? = some t → RState ro (del h X) x t
  tail : ∀ (i : Nat) x t, k < i → cs[i]? = some x → S[i]? = some t → (∃ lv rv, x = [lv, rv, nilS, nilS]) ∧ t.rule = [] ∧ t.next = []
  hx : cs[k]? = some [lv, rv, uv, wv]
  hs : S[k]? = some s
  l : ZI ro (del h X) lv s.l
  r : ZI ro (del h X) rv s.r
  u : OwnT h uv 1 y_int (intsZ s.rule) 0
  w : OwnT h wv 1 y_s_api_Move (onesC ws) 0
  rl : ws.length = s.next.length
  rows : ∀ (i : Nat) v row, ws[i]? = some v → s.next[i]? = some row → RRow ro (del h X) [v] row
theorem ops_R {ro : Ro} {h : T Obj} {v : Value} {l : List Nat} {lo : Nat} (ho : OwnT h v 1 y_uint8 (opsC l) lo) (hl : ∀ o ∈ l, o < 256) : SlR ro h v 1 RU8 l := ⟨opsC l, ho.sl, opsC_len l, fun i x d hx hd => by
  unfold opsC at hx
  rw [List.getElem?_map, hd] at hx
  exact ⟨(Option.some.inj hx).symm, hl d (List.mem_of_getElem? hd)⟩⟩
theorem row_R {ro : Ro} {h : T Obj} {v : Value} {lo : Nat} {mcs : List (List Value)} {row : List MoveD} (ho : OwnT h v 2 y_api_Move mcs lo) (hr : RowOwn h lo mcs row) (hl : ∀ m ∈ row, (∀ o ∈ m.ops, o < 256) ∧ m.ops.length ≤ 512) (hb : row.length ≤ 1000000) : RRow ro h [v] row :=
  ⟨v, rfl, ⟨mcs, ho.sl, hr.1, fun i x m hx hm => by
    obtain ⟨ov, h1, h2⟩ := hr.2 i x m hx hm
    obtain ⟨h3, h4⟩ := hl m (List.mem_of_getElem? hm)
    exact ⟨ov, h1, ops_R h2 h3, by unfold maxB; omega⟩⟩, by unfold maxB; omega⟩
theorem new_R {ro : Ro} {h : T Obj} {x : List Value} {t : StateD} {lo : Nat} (hn : NewSt h lo x t) (hr : t.r.length ≤ 3) : RState ro h x t := by
  obtain ⟨lv, rv, h1, h2, h3, h4, h5⟩ := hn
  refine ⟨lv, rv, nilS, nilS, h1, h2.sl, h3.sl, ?_, ?_, by unfold maxB; omega⟩
  · rw [h4]; exact Sl.nil
  · rw [h5]; exact SlR.nil
section
variable {ro : Ro} {g : GlD} {bid nid kid eid yid sid k : Nat} {av bv fv cv lv rv uv wv : Value} {c : List Nat} {n : Int} {S : List StateD} {cs : List (List Value)} {s : StateD} {ws : List Value}
set_option maxHeartbeats 1000000 in
theorem StR.step {h h' : T Obj} {nx sid' rid : Nat} {uv' wv' rowv : Value} {S' : List StateD} {cs' mcs : List (List Value)} {rule : Int} {row : List MoveD} (hrid : rid < nx) (hSR : StR ro h (rid :: XL bid kid eid yid sid uv wv) k uv wv lv rv S cs s ws) (hf : Fr h nx) (hk : Keep (XL bid kid eid yid sid uv wv) h h') (hsd : sid' = sid ∨ nx ≤ sid') (hlen : cs.length = S.length)
    (hg : Grow (del h' (XL bid kid eid yid sid' uv' wv')) nx cs cs' S S') (hu : OwnT h' uv' 1 y_int (intsZ (s.rule ++ [rule])) nx) (hw : OwnT h' wv' 1 y_s_api_Move (onesC (ws ++ [rowv])) nx) (hro : OwnT (del h' (XL bid kid eid yid sid' uv' wv')) rowv 2 y_api_Move mcs nx) (hrw : RowOwn (del h' (XL bid kid eid yid sid' uv' wv')) nx mcs row)
    (hok : ∀ t ∈ S', t.r.length ≤ 3) (hops : ∀ m ∈ row, (∀ o ∈ m.ops, o < 256) ∧ m.ops.length ≤ 512) (hrl : row.length ≤ 1000000) :
    Sub (del h (rid :: XL bid kid eid yid sid uv wv)) (del h' (rid :: XL bid kid eid yid sid' uv' wv')) ∧ StR ro h' (rid :: XL bid kid eid yid sid' uv' wv') k uv' wv' lv rv (S'.modify k (addRow rule row)) (cs'.set k [lv, rv, uv', wv']) (addRow rule row s) (ws ++ [rowv]) := by
  have hg : Grow (del h' (rid :: XL bid kid eid yid sid' uv' wv')) nx cs cs' S S' := by
    obtain ⟨ds, T, a1, a2, a3, a4⟩ := hg
    refine ⟨ds, T, a1, a2, a3, fun i x t hx ht => ?_⟩
    obtain ⟨lv, rv, h1, h2, h3, h4⟩ := a4 i x t hx ht
    exact ⟨lv, rv, h1, h2.updLo hrid, h3.updLo hrid, h4⟩
  have hro : OwnT (del h' (rid :: XL bid kid eid yid sid' uv' wv')) rowv 2 y_api_Move mcs nx := hro.updLo hrid
  have hrw : RowOwn (del h' (rid :: XL bid kid eid yid sid' uv' wv')) nx mcs row := ⟨hrw.1, fun i x m hx hm => by
    obtain ⟨ov, h1, h2⟩ := hrw.2 i x m hx hm
    exact ⟨ov, h1, h2.updLo hrid⟩⟩
  have hsub : Sub (del h (rid :: XL bid kid eid yid sid uv wv)) (del h' (rid :: XL bid kid eid yid sid' uv' wv')) := hk.del (fun _ h => List.mem_cons_of_mem _ h) fun q hq => by
    rcases List.mem_cons.1 hq with hq | hq
    · exact .inl (List.mem_cons.2 (.inl hq))
    unfold XL at hq
    simp only [List.mem_append, List.mem_cons, List.not_mem_nil, or_false, Option.mem_toList] at hq
    have hin : ∀ q, (q = bid ∨ q = kid ∨ q = eid ∨ q = yid ∨ q = sid) → q ∈ rid :: XL bid kid eid yid sid uv wv := fun q hq => by
      refine List.mem_cons_of_mem _ ?_
      unfold XL
      simp only [List.mem_append, List.mem_cons, List.not_mem_nil, or_false]
      exact .inl hq
    rcases hq with (hq | hq | hq | hq | hq) | hq | hq
    · exact .inl (hin _ (.inl hq))
    · exact .inl (hin _ (.inr (.inl hq)))
    · exact .inl (hin _ (.inr (.inr (.inl hq))))
    · exact .inl (hin _ (.inr (.inr (.inr (.inl hq)))))
    · rcases hsd with hsd | hsd
      · exact .inl (hin _ (.inr (.inr (.inr (.inr (hq.trans hsd))))))
      · exact .inr (hf q (by omega))
    · exact .inr (hf q (hu.blk hq).1)
    · exact .inr (hf q (hw.blk hq).1)
  refine ⟨hsub, ?_⟩
  have hkl := (List.getElem?_eq_some_iff.1 hSR.hx).1
  have hgg := hg
  obtain ⟨ds, T, a1, a2, a3, a4⟩ := hgg
  have hS'k : S'[k]? = some s := by rw [a2, List.getElem?_append_left (by omega)]; exact hSR.hs
  refine ⟨fun i x t hi hx ht => ?_, fun i x t hi hx ht => ?_, ?_, ?_, hSR.l.sub hsub, hSR.r.sub hsub, hu.mono (Nat.zero_le _), hw.mono (Nat.zero_le _), ?_, fun i v r9 hv hr9 => ?_⟩
  · rw [List.getElem?_set_ne (Ne.symm hi)] at hx
    rw [modify_ne hi] at ht
    rcases Nat.lt_or_ge i cs.length with hil | hil
    · rw [a1, List.getElem?_append_left hil] at hx
      rw [a2, List.getElem?_append_left (by omega)] at ht
      exact RState.sub hsub _ _ (hSR.other i x t hi hx ht)
    · have htm := List.mem_of_getElem? ht
      rw [a1, List.getElem?_append_right hil] at hx
      rw [a2, List.getElem?_append_right (by omega), ← hlen] at ht
      exact new_R (a4 _ x t hx ht) (hok t htm)
  · rw [List.getElem?_set_ne (by omega)] at hx
    rw [modify_ne (by omega)] at ht
    rcases Nat.lt_or_ge i cs.length with hil | hil
    · rw [a1, List.getElem?_append_left hil] at hx
      rw [a2, List.getElem?_append_left (by omega)] at ht
      exact hSR.tail i x t hi hx ht
    · rw [a1, List.getElem?_append_right hil] at hx
      rw [a2, List.getElem?_append_right (by omega), ← hlen] at ht
      obtain ⟨lv, rv, q1, q2, q3, q4, q5⟩ := a4 _ x t hx ht
      exact ⟨⟨lv, rv, q1⟩, q4, q5⟩
  · rw [List.getElem?_set_self (by rw [a1]; simp; omega)]
  · rw [modify_self, hS'k]; rfl
  · have := hSR.rl
    show (ws ++ [rowv]).length = (s.next ++ [row]).length
    simp [this]
  · have hr9 : (s.next ++ [row])[i]? = some r9 := hr9
    rcases Nat.lt_or_ge i ws.length with hil | hil
    · rw [List.getElem?_append_left hil] at hv
      rw [List.getElem?_append_left (by have := hSR.rl; omega)] at hr9
      exact RRow.sub hsub _ _ (hSR.rows i v r9 hv hr9)
    · rw [List.getElem?_append_right hil] at hv
      rw [List.getElem?_append_right (by have := hSR.rl; omega), ← hSR.rl] at hr9
      generalize i - ws.length = j at hv hr9
      cases j with
      | succ j => simp at hv
      | zero =>
        simp at hv hr9
        subst hv; subst hr9
        exact row_R hro hrw hops hrl
theorem Bd.modS {h : T Obj} {S' : List StateD} (hB : Bd h g bid nid kid eid yid sid av bv fv c n cv S cs) (hl : S'.length = S.length) (hi : ∀ l, S'.findIdx? (isL l) = S.findIdx? (isL l)) : Bd h g bid nid kid eid yid sid av bv fv c n cv S' cs := by
  obtain ⟨f2, k1, k2⟩ := hB.known
  exact ⟨hB.hc, hB.blk, hB.num, ⟨f2, k1, fun l h1 h2 => by rw [hi]; exact k2 l h1 h2⟩, hB.row, hB.z4, by rw [hl]; exact hB.len, by rw [hl]; exact hB.few, by rw [hl]; exact hB.pos, hB.nk⟩
theorem findIdx_modify (k : Nat) (f : StateD → StateD) (l : List Int) (hf : ∀ s, isL l (f s) = isL l s) : ∀ (S : List StateD), (S.modify k f).findIdx? (isL l) = S.findIdx? (isL l) := by
  intro S
  induction S generalizing k with
  | nil => cases k <;> simp
  | cons s S ih =>
    cases k with
    | zero => rw [List.modify_zero_cons, List.findIdx?_cons, List.findIdx?_cons, hf]
    | succ k => rw [List.modify_succ_cons, List.findIdx?_cons, List.findIdx?_cons, ih]
theorem XL5 : XL bid kid eid yid sid nilS nilS = [bid, kid, eid, yid, sid] := rfl
set_option maxHeartbeats 1000000 in
theorem code_SR {B : List Nat} {code : Int} {en0 st0 : Int → Bool} {hb : T Obj} {rid : Nat} {ra : Array Value} (hr : rightD g = true) (hBl : B.length ≤ 256) (hc0 : 0 ≤ code) (hc1 : code ≤ 255) (hey : eid ≠ yid) (hen : eid ≠ nid) (hek : eid ≠ kid) (hyn : yid ≠ nid) (hyk : yid ≠ kid)
    {h : T Obj} {nx : Nat} {K : KV} (hf : Fr h nx) (hB : Bd h g bid nid kid eid yid sid av bv fv c n cv S cs) (hE : BMap h eid en0) (hY : BMap h yid st0) (hri : h.get rid = some (.cells ra y_api_Auto)) (hbs : Sub hb (del h (rid :: XL bid kid eid yid sid uv wv)))
    (hP : SlR ro hb bv 9 (RPos ro hb) g.p) (ha : ZI ro hb av g.first) (hfv : SlR ro hb fv 1 RU8 B) (hSR : StR ro h (rid :: XL bid kid eid yid sid uv wv) k uv wv lv rv S cs s ws) (hOk : SOk g S) (hrl : s.rule.length ≤ 1000000) (hwl : ws.length ≤ 1000000)
    (hKe : (codeZ g B k code S).1 ≠ 0 → ∀ h' nx', nx ≤ nx' → Fr h' nx' → Sub hb h' → h'.get rid = some (.cells ra y_api_Auto) → K (.int .i64 (codeZ g B k code S).1) h' nx')
    (hK : (codeZ g B k code S).1 = 0 → ∀ h' nx' sid' cs' uv' wv' ws' s' en st, nx ≤ nx' → Fr h' nx' → h'.get rid = some (.cells ra y_api_Auto) → Sub hb (del h' (rid :: XL bid kid eid yid sid' uv' wv')) → Bd h' g bid nid kid eid yid sid' av bv fv c n cv (codeZ g B k code S).2 cs' → StR ro h' (rid :: XL bid kid eid yid sid' uv' wv') k uv' wv' lv rv (codeZ g B k code S).2 cs' s' ws' →
      s'.l = s.l → s'.rule.length = s.rule.length + 1 → ws'.length = ws.length + 1 → BMap h' eid en → BMap h' yid st → K (.int .i64 0) h' nx') :
    callP Try.prog ro i_auto_builder_code [ptr bid, .int .i64 (k : Int), .int .i64 code] h nx K := by
  obtain ⟨hgl, hfr, hmay⟩ := right_parts hr
  have hbs0 : Sub hb (del h (XL bid kid eid yid sid uv wv)) := hbs.trans (del_mono fun q hq => List.mem_cons_of_mem _ hq)
  have hd0 : Sub (del h (rid :: XL bid kid eid yid sid uv wv)) (del h (XL bid kid eid yid sid uv wv)) := del_mono fun q hq => List.mem_cons_of_mem _ hq
  have hrn : rid ∉ XL bid kid eid yid sid uv wv := by
    have m4 := hB.blk
    have m5 := hB.row
    obtain ⟨_, _, m1⟩ := hE.obj
    obtain ⟨_, _, m2⟩ := hY.obj
    obtain ⟨f2, k1, k2⟩ := hB.known
    obtain ⟨_, _, m3⟩ := k1.obj
    unfold XL
    simp only [List.mem_append, List.mem_cons, List.not_mem_nil, or_false, Option.mem_toList, not_or]
    refine ⟨⟨?_, ?_, ?_, ?_, ?_⟩, ?_, ?_⟩
    · rintro rfl
      rw [hri] at m4
      simp only [Option.some.injEq, Obj.cells.injEq] at m4
      exact absurd m4.2.1 (by decide)
    · rintro rfl; rw [hri] at m3; cases m3
    · rintro rfl; rw [hri] at m1; cases m1
    · rintro rfl; rw [hri] at m2; cases m2
    · rintro rfl
      rw [hri] at m5
      simp only [Option.some.injEq, Obj.cells.injEq] at m5
      exact absurd m5.2.1 (by decide)
    · exact hSR.u.neB hri (by intro c f e; simp only [Obj.cells.injEq] at e; exact absurd e.2.1 (by decide))
    · exact hSR.w.neB hri (by intro c f e; simp only [Obj.cells.injEq] at e; exact absurd e.2.1 (by decide))
  have hsm := List.mem_of_getElem? hSR.hs
  have hlk : lAt S k = s.l := by unfold lAt; rw [List.getD_eq_getElem?_getD, hSR.hs]; rfl
  have hcz : codeZ g B k code S = if (rowZ g (entersZ g k (digs g s.l code)) (staysZ (digs g s.l code)) B S).1 = 0 then (0, (rowZ g (entersZ g k (digs g s.l code)) (staysZ (digs g s.l code)) B S).2.2.modify k (addRow (ruleZ g (-1) (digs g s.l code)) (rowZ g (entersZ g k (digs g s.l code)) (staysZ (digs g s.l code)) B S).2.1)) else ((rowZ g (entersZ g k (digs g s.l code)) (staysZ (digs g s.l code)) B S).1, S) := by
    unfold codeZ; rw [hlk]
  have hrk := rowZ_ok (en := entersZ g k (digs g s.l code)) (st := staysZ (digs g s.l code)) (B := B) hOk
  have hop := rowZ_ops hgl (en := entersZ g k (digs g s.l code)) (st := staysZ (digs g s.l code)) (B := B) (S := S)
  refine auto_code_c hr hBl hc0 hc1 hey hen hek hyn hyk hf hB hE hY (hP.sub hbs0 (RPos.sub hbs0)) (ha.sub hbs0) (hfv.sub hbs0 fun _ _ h => h) hSR.hx hSR.hs (hSR.l.sub hd0) (hSR.r.sub hd0) (hOk s hsm).1 hSR.u hSR.w hrl hwl (fun hz h' nx' q1 q2 q3 => ?_) fun hz h' nx' sid' cs' uv' wv' rowv mcs en st q1 q2 q3 q4 q5 q6 q7 q8 q9 q10 q11 q12 => ?_
  · rw [hcz, if_neg hz] at hKe
    refine hKe hz h' nx' q1 q2 (hbs0.trans (q3.delS fun q hq => ?_)) (q3 _ _ hri fun hm => hrn ?_)
    · unfold XL
      exact List.mem_append.2 (.inl hq)
    · unfold XL
      exact List.mem_append.2 (.inl hm)
  · rw [hcz, if_pos hz] at hK
    generalize rowZ g (entersZ g k (digs g s.l code)) (staysZ (digs g s.l code)) B S = Z at *
    obtain ⟨r1, r2⟩ := StR.step (rid := rid) (rule := ruleZ g (-1) (digs g s.l code)) (row := Z.2.1) (hf.lt' hri) hSR hf q3 q4 hB.len q6 q7 q8 q9 q10 (fun t ht => (hrk t ht).2.2) hop.1 (by have := hop.2; omega)
    refine hK rfl h' nx' sid' _ uv' wv' _ _ en st q1 q2 (q3 _ _ hri hrn) (hbs.trans r1) (q5.modS (by simp) fun l => findIdx_modify k (addRow (ruleZ g (-1) (digs g s.l code)) Z.2.1) l (fun _ => rfl) _) r2 rfl (by show (s.rule ++ [_]).length = _; simp) (by simp) q11 q12
end
end V
end Go.Proofs.Ytmmdcdjkmakgpaa
set_option linter.unusedVariables false
set_option linter.unusedSimpArgs false
namespace Go.Proofs.Ytmmdcdjkmakgpaa
namespace V
open PA
attribute [local irreducible] bindP ifP condP newP optP exP beqP
def autZ : List Value := autL (List.replicate 256 0) 0 nilS nilS
theorem zer_Auto : zer Try.prog y_api_Auto = some (.agg autZ.toArray) := by kernel_rfl
theorem build_Auto0 : buildV Try.prog y_api_Auto [] = some (.agg autZ.toArray) := by kernel_rfl
theorem autZ_len : autZ.length = 259 := autL_len List.length_replicate
theorem autZ_ok : autZ.all cellOk = true := autL_ok rfl rfl
theorem codesZ_succ (g : GlD) (B : List Nat) (k m : Nat) (c : Int) (S : List StateD) : codesZ g B k (m + 1) c S = if (codeZ g B k c S).1 = 0 then codesZ g B k m (c + 1) (codeZ g B k c S).2 else ((codeZ g B k c S).1, S) := rfl
theorem allZ_succ (g : GlD) (B : List Nat) (m k : Nat) (S : List StateD) : allZ g B (m + 1) k S = if k < S.length then (if (codesZ g B k (codesD (S.getD k noS).r.length).toNat 0 S).1 = 0 then allZ g B m (k + 1) (codesZ g B k (codesD (S.getD k noS).r.length).toNat 0 S).2 else ((codesZ g B k (codesD (S.getD k noS).r.length).toNat 0 S).1, S)) else (0, S) := rfl
structure Fz (ro : Ro) (h : T Obj) (X : List Nat) (k : Nat) (S : List StateD) (cs : List (List Value)) : Prop where
  all : ∀ (i : Nat) x t, cs[i]? = some x → S[i]? = some t → RState ro (del h X) x t
  tail : ∀ (i : Nat) x t, k ≤ i → cs[i]? = some x → S[i]? = some t → (∃ lv rv, x = [lv, rv, nilS, nilS]) ∧ t.rule = [] ∧ t.next = []
section
variable {ro : Ro} {g : GlD} {bid nid kid eid yid k rid : Nat} {av bv fv cv : Value} {c : List Nat} {n : Int} {B : List Nat} {hb : T Obj}
set_option maxRecDepth 8000 in
set_option maxHeartbeats 1000000 in
theorem Of_L2_c {sid : Nat} {uv wv lv rv : Value} {S : List StateD} {cs : List (List Value)} {s : StateD} {ws : List Value} {en0 st0 : Int → Bool} {e : Env} {N : Nat} (hr : rightD g = true) (hBl : B.length ≤ 256) (hN : N ≤ 27) (hey : eid ≠ yid) (hen : eid ≠ nid) (hek : eid ≠ kid) (hyn : yid ≠ nid) (hyk : yid ≠ kid)
    (hP : SlR ro hb bv 9 (RPos ro hb) g.p) (ha : ZI ro hb av g.first) (hfv : SlR ro hb fv 1 RU8 B) 
    {h : T Obj} {nx : Nat} {Q : KE} (hf : Fr h nx) (hrid : h.get rid = some (.cells autZ.toArray y_api_Auto)) (hB : Bd h g bid nid kid eid yid sid av bv fv c n cv S cs) (hE : BMap h eid en0) (hY : BMap h yid st0) (hbs : Sub hb (del h (rid :: XL bid kid eid yid sid uv wv)))
    (hSR : StR ro h (rid :: XL bid kid eid yid sid uv wv) k uv wv lv rv S cs s ws) (hOk : SOk g S) (hrl : s.rule.length ≤ 1000) (hwl : ws.length ≤ 1000)
    (e2 : e 2 = ptr rid) (e4 : e 4 = ptr bid) (e8 : e 8 = .int .i64 (k : Int)) (e107 : e 107 = .int .i64 (N : Int)) (e108 : e 108 = .int .i64 0)
    (hQe : (codesZ g B k N 0 S).1 ≠ 0 → ∀ e' h' nx', nx ≤ nx' → Fr h' nx' → Sub hb h' → h'.get rid = some (.cells autZ.toArray y_api_Auto) → e' 2 = ptr rid → e' 3 = .int .i64 (codesZ g B k N 0 S).1 → Q .ret e' h' nx')
    (hQ : (codesZ g B k N 0 S).1 = 0 → ∀ e' h' nx' sid' cs' uv' wv' ws' s' en st, nx ≤ nx' → Fr h' nx' → h'.get rid = some (.cells autZ.toArray y_api_Auto) → Sub hb (del h' (rid :: XL bid kid eid yid sid' uv' wv')) → Bd h' g bid nid kid eid yid sid' av bv fv c n cv (codesZ g B k N 0 S).2 cs' → StR ro h' (rid :: XL bid kid eid yid sid' uv' wv') k uv' wv' lv rv (codesZ g B k N 0 S).2 cs' s' ws' → SOk g (codesZ g B k N 0 S).2 →
      BMap h' eid en → BMap h' yid st → e' 2 = ptr rid → e' 4 = ptr bid → e' 8 = .int .i64 (k : Int) → Q (.exit 4) e' h' nx') :
    loopP (auto_Of_L2 ro) e h nx Q := by
  generalize hZ : codesZ g B k N 0 S = Z at hQe hQ
  refine loopP_rule (fun j e h' nx' => ∃ (i sid' : Nat) (S' : List StateD) (cs' : List (List Value)) (uv' wv' : Value) (ws' : List Value) (s' : StateD) (en st : Int → Bool), i + j = N ∧ nx ≤ nx' ∧ Fr h' nx' ∧ h'.get rid = some (.cells autZ.toArray y_api_Auto) ∧ Sub hb (del h' (rid :: XL bid kid eid yid sid' uv' wv')) ∧ Bd h' g bid nid kid eid yid sid' av bv fv c n cv S' cs' ∧
    StR ro h' (rid :: XL bid kid eid yid sid' uv' wv') k uv' wv' lv rv S' cs' s' ws' ∧ SOk g S' ∧ s'.rule.length ≤ 1000 + i ∧ ws'.length ≤ 1000 + i ∧ BMap h' eid en ∧ BMap h' yid st ∧ e 2 = ptr rid ∧ e 4 = ptr bid ∧ e 8 = .int .i64 (k : Int) ∧ e 107 = .int .i64 (N : Int) ∧ e 108 = .int .i64 i ∧ codesZ g B k j i S' = Z) ?_ (n := N)
    ⟨0, sid, S, cs, uv, wv, ws, s, en0, st0, by omega, by omega, hf, hrid, hbs, hB, hSR, hOk, by omega, by omega, hE, hY, e2, e4, e8, e107, e108, hZ⟩
  rintro j e' h' nx' ⟨i, sid', S', cs', uv', wv', ws', s', en, st, hj, hnx, hf', hri', hbs', hB', hSR', hOk', hrl', hwl', hE', hY', f2, f4, f8, f107, f108, hrz⟩ Q' hq hx
  unfold auto_Of_L2
  rw [f4, f8, f107, f108]
  refine lss_s (fun hi => ?_) (fun hi => ?_)
  · obtain ⟨j, rfl⟩ : ∃ j', j = j' + 1 := ⟨j - 1, by omega⟩
    rw [codesZ_succ] at hrz
    refine condP_t ?_
    refine code_SR hr hBl (by omega) (by omega) hey hen hek hyn hyk (hf'.mono (show nx' ≤ nx' + 7 by omega)) hB' hE' hY' hri' hbs' hP ha hfv hSR' hOk' (by omega) (by omega) (fun hz h3 n3 q1 q2 q3 hg3 => ?_) fun hz h3 n3 sid3 cs3 uv3 wv3 ws3 s3 en3 st3 q1 q2 qri q3 q4 q5 q6 q7 q8 q9 q10 => ?_
    · rw [if_neg hz] at hrz
      have hz1 : Z.1 = (codeZ g B k i S').1 := by rw [← hrz]
      refine neq_t hz (condP_t (bindP_mk build_Auto0 ?_))
      show bindP (storeN 259 h3 (e' 2) _) _
      rw [f2]
      refine bindP_mk (storeA_own (l := autZ) (vs := autZ) hg3 rfl autZ_len autZ_len autZ_ok) ?_
      refine hx _ _ _ _ (fun e => by cases e) ?_
      refine hQe (by rw [hz1]; exact hz) _ _ _ (by omega) ((q2.mono (show n3 ≤ n3 + 7 by omega)).upd (Nat.le_refl _) (by have := q2.lt' hg3; omega)) (fun i o hi => ?_) (by rw [T.get_upd_same]) f2 (by rw [hz1]; rfl)
      have hi3 := q3 _ _ hi
      by_cases hir : i = rid
      · subst hir
        rw [T.get_upd_same, ← hg3, hi3]
      · rw [T.get_upd_ne _ _ hir]; exact hi3
    · rw [if_pos hz] at hrz
      have hok3 := codeZ_ok (B := B) (k := k) (c := (i : Int)) hOk'
      generalize (codeZ g B k (i : Int) S').2 = S3 at hrz q4 q5 hok3
      refine neq_f rfl (condP_f (bindP_mk (intB_add _ _ _) ?_))
      rw [wr_i64 (by omega) (by omega)]
      exact hq j _ _ _ _ (by omega) ⟨i + 1, sid3, S3, cs3, uv3, wv3, ws3, s3, en3, st3, by omega, by omega, q2.mono (by omega), qri, q3, q4, q5, hok3, by omega, by omega, q9, q10, f2, f4, f8, f107, rfl, hrz⟩ (Sub.refl _)
  · obtain rfl : j = 0 := by omega
    have hrz : ((0 : Int), S') = Z := hrz
    subst hrz
    refine condP_f (hx _ _ _ _ (fun e => by cases e) ?_)
    exact hQ rfl _ _ _ sid' cs' uv' wv' ws' s' en st (by omega) (hf'.mono (by omega)) hri' hbs' hB' hSR' hOk' hE' hY' f2 f4 f8
theorem StR.fz {h : T Obj} {sid : Nat} {uv wv lv rv : Value} {S : List StateD} {cs : List (List Value)} {s : StateD} {ws : List Value} {en st : Int → Bool} (hri : h.get rid = some (.cells autZ.toArray y_api_Auto)) (hSR : StR ro h (rid :: XL bid kid eid yid sid uv wv) k uv wv lv rv S cs s ws) (hB : Bd h g bid nid kid eid yid sid av bv fv c n cv S cs) (hE : BMap h eid en) (hY : BMap h yid st) (hOk : SOk g S) : Fz ro h [rid, bid, kid, eid, yid, sid] (k + 1) S cs := by
  have hsub : Sub (del h (rid :: XL bid kid eid yid sid uv wv)) (del h [rid, bid, kid, eid, yid, sid]) := del_mono fun q hq => by
    rcases List.mem_cons.1 hq with hq | hq
    · exact List.mem_cons.2 (.inl hq)
    · unfold XL; exact List.mem_cons_of_mem _ (List.mem_append.2 (.inl hq))
  have hnot : ∀ {v : Value} {z lo : Nat} {e : TypeId} {l : List (List Value)}, e ≠ y_auto_builder → e ≠ y_api_State → e ≠ y_api_Auto → OwnT h v z e l lo → OwnT (del h [rid, bid, kid, eid, yid, sid]) v z e l lo := fun he1 he2 he3 ho => ho.del fun id hid => by
    obtain ⟨_, z⟩ := ho.blk hid
    obtain ⟨_, _, m1⟩ := hE.obj
    obtain ⟨_, _, m2⟩ := hY.obj
    obtain ⟨f2, k1, k2⟩ := hB.known
    obtain ⟨_, _, m3⟩ := k1.obj
    have m4 := hB.blk
    have m5 := hB.row
    simp only [List.mem_cons, List.not_mem_nil, or_false, not_or]
    refine ⟨?_, ?_, ?_, ?_, ?_, ?_⟩ <;> rintro rfl
    · rw [z] at hri
      simp only [Option.some.injEq, Obj.cells.injEq] at hri
      exact he3 hri.2.1
    · rw [z] at m4
      simp only [Option.some.injEq, Obj.cells.injEq] at m4
      exact he1 m4.2.1
    · rw [z] at m3; cases m3
    · rw [z] at m1; cases m1
    · rw [z] at m2; cases m2
    · rw [z] at m5
      simp only [Option.some.injEq, Obj.cells.injEq] at m5
      exact he2 m5.2.1
  refine ⟨fun i x t hx ht => ?_, fun i x t hi hx ht => hSR.tail i x t (by omega) hx ht⟩
  by_cases hik : i = k
  · subst hik
    rw [hSR.hx] at hx
    rw [hSR.hs] at ht
    cases hx; cases ht
    refine ⟨lv, rv, uv, wv, rfl, hSR.l.sub hsub, hSR.r.sub hsub, (hnot (by decide) (by decide) (by decide) hSR.u).sl, ⟨onesC ws, (hnot (by decide) (by decide) (by decide) hSR.w).sl, by rw [onesC_len]; exact hSR.rl, fun i x d hx hd => ?_⟩, ?_⟩
    · unfold onesC at hx
      rw [List.getElem?_map] at hx
      cases hq : ws[i]? with
      | none => rw [hq] at hx; cases hx
      | some v =>
        rw [hq] at hx
        cases hx
        exact RRow.sub hsub _ _ (hSR.rows i v d hq hd)
    · have := (hOk _ (List.mem_of_getElem? hSR.hs)).2.2
      unfold maxB; omega
  · exact RState.sub hsub _ _ (hSR.other i x t hik hx ht)
set_option maxRecDepth 8000 in
set_option maxHeartbeats 1000000 in
theorem Of_L1_c {sid : Nat} {S : List StateD} {cs : List (List Value)} {en0 st0 : Int → Bool} {e : Env} (hr : rightD g = true) (hBl : B.length ≤ 256) (hey : eid ≠ yid) (hen : eid ≠ nid) (hek : eid ≠ kid) (hyn : yid ≠ nid) (hyk : yid ≠ kid)
    (hP : SlR ro hb bv 9 (RPos ro hb) g.p) (ha : ZI ro hb av g.first) (hfv : SlR ro hb fv 1 RU8 B) 
    {h : T Obj} {nx : Nat} {Q : KE} (hf : Fr h nx) (hrid : h.get rid = some (.cells autZ.toArray y_api_Auto)) (hB : Bd h g bid nid kid eid yid sid av bv fv c n cv S cs) (hE : BMap h eid en0) (hY : BMap h yid st0) (hbs : Sub hb (del h [rid, bid, kid, eid, yid, sid]))
    (hFz : Fz ro h [rid, bid, kid, eid, yid, sid] 0 S cs) (hOk : SOk g S) (e2 : e 2 = ptr rid) (e4 : e 4 = ptr bid) (e8 : e 8 = .int .i64 0)
    (hQe : (allZ g B 256 0 S).1 ≠ 0 → ∀ e' h' nx', nx ≤ nx' → Fr h' nx' → Sub hb h' → h'.get rid = some (.cells autZ.toArray y_api_Auto) → e' 2 = ptr rid → e' 3 = .int .i64 (allZ g B 256 0 S).1 → Q .ret e' h' nx')
    (hQ : (allZ g B 256 0 S).1 = 0 → ∀ e' h' nx' sid' cs', nx ≤ nx' → Fr h' nx' → h'.get rid = some (.cells autZ.toArray y_api_Auto) → Sub hb (del h' [rid, bid, kid, eid, yid, sid']) → Bd h' g bid nid kid eid yid sid' av bv fv c n cv (allZ g B 256 0 S).2 cs' → (∀ (i : Nat) x t, cs'[i]? = some x → (allZ g B 256 0 S).2[i]? = some t → RState ro (del h' [rid, bid, kid, eid, yid, sid']) x t) → SOk g (allZ g B 256 0 S).2 → e' 2 = ptr rid → e' 4 = ptr bid → Q (.exit 2) e' h' nx') :
    loopP (auto_Of_L1 ro) e h nx Q := by
  generalize hZ : allZ g B 256 0 S = Z at hQe hQ
  refine loopP_rule (fun j e h' nx' => ∃ (k sid' : Nat) (S' : List StateD) (cs' : List (List Value)) (en st : Int → Bool), k + j = 256 ∧ nx ≤ nx' ∧ Fr h' nx' ∧ h'.get rid = some (.cells autZ.toArray y_api_Auto) ∧ Sub hb (del h' [rid, bid, kid, eid, yid, sid']) ∧ Bd h' g bid nid kid eid yid sid' av bv fv c n cv S' cs' ∧
    Fz ro h' [rid, bid, kid, eid, yid, sid'] k S' cs' ∧ SOk g S' ∧ BMap h' eid en ∧ BMap h' yid st ∧ e 2 = ptr rid ∧ e 4 = ptr bid ∧ e 8 = .int .i64 (k : Int) ∧ allZ g B j k S' = Z) ?_ (n := 256)
    ⟨0, sid, S, cs, en0, st0, by omega, by omega, hf, hrid, hbs, hB, hFz, hOk, hE, hY, e2, e4, e8, hZ⟩
  rintro j e' h' nx' ⟨k, sid', S', cs', en, st, hj, hnx, hf', hri', hbs', hB', hFz', hOk', hE', hY', f2, f4, f8, hrz⟩ Q' hq hx
  unfold auto_Of_L1
  rw [f4, f8]
  have hbk := hB'.blk
  have b262 := bldL_262 (av := av) (bv := bv) (nv := .map (some nid)) (fv := fv) (n := n) (cv := cv) (sv := .slice (some (own sid' 4)) cs'.length cs'.length) (kv := .map (some kid)) (ev := .map (some eid)) (yv := .map (some yid)) hB'.hc
  have hlen := hB'.len
  have hfew := hB'.few
  (repeat (first | refine bindP_mk (by simp (disch := first | omega | exact Int.natCast_nonneg _ | assumption) only [BB, B2, ↓reduceIte, Nat.reduceLeDiff, Nat.reduceAdd, CC, nilCk_at, hbk, b262] <;> rfl) ?_ | refine newP_mk ?_ | refine optP_mk ?_ | with_reducible first | refine condP_t ?_ | refine condP_f ?_ | refine ifP_tt' ?_ | refine ifP_ff' ?_ | refine ifP_tf' ?_ | refine ifP_ft' ?_ | refine ifP_u' ?_ | refine optP_mk0 ?_))
  refine lss_s (fun hi => ?_) (fun hi => ?_)
  · obtain ⟨j, rfl⟩ : ∃ j', j = j' + 1 := ⟨j - 1, by omega⟩
    have hkl : k < cs'.length := by omega
    rw [allZ_succ, if_pos (by omega)] at hrz
    obtain ⟨x, hxk⟩ : ∃ x, cs'[k]? = some x := ⟨_, List.getElem?_eq_getElem hkl⟩
    obtain ⟨s, hsk⟩ : ∃ s, S'[k]? = some s := ⟨_, List.getElem?_eq_getElem (by omega)⟩
    obtain ⟨⟨lv, rv, rfl⟩, ht1, ht2⟩ := hFz'.tail k x s (Nat.le_refl _) hxk hsk
    obtain ⟨lv2, rv2, uv2, nv2, hx1, hx2, hx3, hx4, hx5, hx6⟩ := hFz'.all k _ s hxk hsk
    simp only [List.cons.injEq, and_true] at hx1
    obtain ⟨rfl, rfl, rfl, rfl⟩ := hx1
    have hix := ixSl_own' (id := sid') (z := 4) (cap := cs'.length) hkl
    have hrow := hB'.row
    have q1 := flat4_get (j := 1) hB'.z4 hxk (by omega)
    have q1 : cs'.flatten[k * 4 + 1]? = some rv := q1
    have hrn := (hx3.sub (del_sub _ _)).len
    have hSR : StR ro h' (rid :: XL bid kid eid yid sid' nilS nilS) k nilS nilS lv rv S' cs' s [] := ⟨fun i x t _ hx ht => by rw [XL5]; exact hFz'.all i x t hx ht, fun i x t hi hx ht => hFz'.tail i x t (by omega) hx ht, hxk, hsk, by rw [XL5]; exact hx2, by rw [XL5]; exact hx3, by rw [ht1]; exact OwnT.nil, OwnT.nil, by rw [ht2]; rfl, fun i v row hv => by simp at hv⟩
    have hgd : S'.getD k noS = s := by rw [List.getD_eq_getElem?_getD, hsk]; rfl
    rw [hgd] at hrz
    have hcl := codes_le s.r.length
    (repeat (first | refine bindP_mk (by simp (disch := first | omega | exact Int.natCast_nonneg _ | assumption) only [BB, B2, ↓reduceIte, Nat.reduceLeDiff, Nat.reduceAdd, CC, nilCk_at, hbk, b262, hix, hrow, q1, hrn] <;> rfl) ?_ | refine newP_mk ?_ | refine optP_mk ?_ | with_reducible first | refine condP_t ?_ | refine condP_f ?_ | refine ifP_tt' ?_ | refine ifP_ff' ?_ | refine ifP_tf' ?_ | refine ifP_ft' ?_ | refine ifP_u' ?_ | refine optP_mk0 ?_))
    refine auto_Codes_c fun n5 hn5 => ?_
    have hcn : codesD (s.r.length : Int) = (((codesD (s.r.length : Int)).toNat : Nat) : Int) := by omega
    refine Of_L2_c (N := (codesD (s.r.length : Int)).toNat) (k := k) hr hBl (by omega) hey hen hek hyn hyk hP ha hfv (hf'.mono (show nx' ≤ n5 + 1 by omega)) hri' hB' hE' hY' (by rw [XL5]; exact hbs') hSR hOk' (by rw [ht1]; exact Nat.zero_le _) (Nat.zero_le _) ?_ ?_ ?_ ?_ ?_ ?_ ?_
    · exact f2
    · exact f4
    · exact f8
    · show Value.int _ _ = _
      rw [← hcn]
    · rfl
    · intro hz e3 h3 n3 p1 p2 p3 pri p4 p5
      rw [if_neg hz] at hrz
      have hz1 : Z.1 = (codesZ g B k (codesD (s.r.length : Int)).toNat 0 S').1 := by rw [← hrz]
      refine exP_r (hx _ _ _ _ (fun e => by cases e) ?_)
      exact hQe (by rw [hz1]; exact hz) _ _ _ (by omega) p2 p3 pri p4 (by rw [hz1]; exact p5)
    · intro hz e3 h3 n3 sid3 cs3 uv3 wv3 ws3 s3 en3 st3 p1 p2 pri p3 p4 p5 p6 p7 p8 p9 p10 p11
      rw [if_pos hz] at hrz
      refine exP_e (beqP_t ?_)
      unfold auto_Of_j3
      rw [p11]
      (repeat (first | refine bindP_mk (by simp (disch := first | omega | exact Int.natCast_nonneg _ | assumption) only [BB, B2, ↓reduceIte, Nat.reduceLeDiff, Nat.reduceAdd, CC] <;> rfl) ?_ | refine newP_mk ?_ | refine optP_mk ?_ | with_reducible first | refine condP_t ?_ | refine condP_f ?_ | refine ifP_tt' ?_ | refine ifP_ff' ?_ | refine ifP_tf' ?_ | refine ifP_ft' ?_ | refine ifP_u' ?_ | refine optP_mk0 ?_))
      refine hq j _ _ _ _ (by omega) ⟨k + 1, sid3, _, cs3, en3, st3, by omega, by omega, p2.mono (by omega), pri, p3.trans (del_mono fun q hq => ?_), p4, p5.fz pri p4 p7 p8 p6, p6, p7, p8, p9, p10, rfl, hrz⟩ (Sub.refl _)
      rcases List.mem_cons.1 hq with hq | hq
      · exact List.mem_cons.2 (.inl hq)
      · unfold XL; exact List.mem_cons_of_mem _ (List.mem_append.2 (.inl hq))
  · have hrz : ((0 : Int), S') = Z := by
      cases j with
      | zero => exact hrz
      | succ j => rw [allZ_succ, if_neg (by omega)] at hrz; exact hrz
    subst hrz
    refine condP_f (hx _ _ _ _ (fun e => by cases e) ?_)
    exact hQ rfl _ _ _ sid' cs' (by omega) (hf'.mono (by omega)) hri' hbs' hB' hFz'.all hOk' f2 f4
end
end V
end Go.Proofs.Ytmmdcdjkmakgpaa
set_option linter.unusedVariables false
set_option linter.unusedSimpArgs false
namespace Go.Proofs.Ytmmdcdjkmakgpaa
set_option maxRecDepth 20000
namespace V
open PA
theorem zer_Set_mk {K : Value → Prop} (k : K (setV 0)) : bindP (zer Try.prog y_api_Set) K := by rw [zer_Set]; exact k
section
attribute [local irreducible] bindP ifP condP newP optP exP beqP
end
end V
end Go.Proofs.Ytmmdcdjkmakgpaa
set_option linter.unusedVariables false
set_option linter.unusedSimpArgs false
namespace Go.Proofs.Ytmmdcdjkmakgpaa
set_option maxRecDepth 20000
namespace V
open PA
def bytesC (l : List Nat) : List (List Value) := l.map fun b : Nat => [Value.int .u8 (b : Int)]
theorem bytesC_len (l : List Nat) : (bytesC l).length = l.length := by simp [bytesC]
end V
end Go.Proofs.Ytmmdcdjkmakgpaa
set_option linter.unusedVariables false
set_option linter.unusedSimpArgs false
namespace Go.Proofs.Ytmmdcdjkmakgpaa
set_option maxRecDepth 20000
namespace V
open PA
def splitL (c : List Nat) (m : Nat) : List Value := u8s c ++ [.int .i64 (m : Int)]
def splitV (c : List Nat) (m : Nat) : Value := .agg (splitL c m).toArray
theorem splitL_len {c : List Nat} {m : Nat} (hc : c.length = 256) : (splitL c m).length = 257 := by simp [splitL, u8s_len, hc]
theorem splitL_ok (c : List Nat) (m : Nat) : (splitL c m).all cellOk = true := by simp [splitL, u8s, cellOk]
theorem splitL_get {c : List Nat} {m i : Nat} (hi : i < c.length) : (splitL c m)[i]? = some (.int .u8 (c[i] : Nat)) := by
  unfold splitL
  rw [List.getElem?_append_left (by rw [u8s_len]; exact hi)]
  simp [u8s, hi]
theorem splitL_set {c : List Nat} {m i : Nat} (v : Nat) (hi : i < c.length) : (splitL c m).set i (.int .u8 (v : Int)) = splitL (c.set i v) m := by
  unfold splitL
  rw [List.set_append_left _ _ (by rw [u8s_len]; exact hi)]
  simp [u8s, List.map_set]
theorem splitL_setM {c : List Nat} {m : Nat} (v : Nat) (hc : c.length = 256) : (splitL c m).set 256 (.int .i64 (v : Int)) = splitL c v := by
  unfold splitL
  rw [List.set_append_right _ _ (by rw [u8s_len]; omega)]
  simp [u8s_len, hc]
theorem splitV_cells (c : List Nat) (m : Nat) : (splitV c m).cells = (splitL c m).toArray := rfl
theorem zer_Split : zer Try.prog y_api_Split = some (splitV (List.replicate 256 0) 0) := by kernel_rfl
theorem zer_Split_mk {K : Value → Prop} (k : K (splitV (List.replicate 256 0) 0)) : bindP (zer Try.prog y_api_Split) K := by rw [zer_Split]; exact k
theorem rep_len : (List.replicate 256 0 : List Nat).length = 256 := List.length_replicate
def pairL (p : Nat × Bool) : List Value := [.int .u8 (p.1 : Int), .bool p.2]
def pairV (p : Nat × Bool) : Value := .agg (pairL p).toArray
theorem buildV_pair (a b : Value) (ha : a.cells = #[a]) (hb : b.cells = #[b]) : buildV Try.prog y_split_pair [(0, a), (1, b)] = some (.agg #[a, b]) := by
  have h1 : zer Try.prog y_split_pair = some (.agg #[.int .u8 0, .bool false]) := by kernel_rfl
  have h2 : ((und Try.prog y_split_pair).bind fun d => match d with
    | .struct fs => placesV Try.prog fs.toList
    | _ => none) = some [(0, 1), (1, 1)] := by kernel_rfl
  obtain ⟨d, h2, h3⟩ := bind_some' h2
  cases d <;> try (cases h3; done)
  rename_i fs
  simp only at h3
  unfold buildV
  rw [h1]
  simp only [Option.bind, h2, h3]
  simp [fillV, ha, hb, over, Value.cells_agg]
theorem zer_pair_mk {K : Value → Prop} (k : K (pairV (0, false))) : bindP (zer Try.prog y_split_pair) K := by
  have : zer Try.prog y_split_pair = some (pairV (0, false)) := by kernel_rfl
  rw [this]; exact k
def ents : Nat → List (Nat × Bool) → List MapEntry
  | _, [] => []
  | k, p :: r => ({ key := pairV p, val := .int .u8 (k : Int), born := k } : MapEntry) :: ents (k + 1) r
theorem ents_append (k : Nat) (s : List (Nat × Bool)) (p : Nat × Bool) : ents k (s ++ [p]) = ents k s ++ [({ key := pairV p, val := .int .u8 ((k + s.length : Nat) : Int), born := k + s.length } : MapEntry)] := by
  induction s generalizing k with
  | nil => rfl
  | cons q s ih => simp only [List.cons_append, ents, ih, List.length_cons]; rw [show k + 1 + s.length = k + (s.length + 1) by omega]
theorem ents_length (k : Nat) (s : List (Nat × Bool)) : (ents k s).length = s.length := by
  induction s generalizing k with
  | nil => rfl
  | cons q s ih => simp [ents, ih]
theorem pair_eq (p q : Nat × Bool) : keyEq Try.prog y_split_pair (pairV p) (pairV q) = some (decide (p = q)) := by
  have h1 : isAgg Try.prog y_split_pair = some true := by kernel_rfl
  have h2 : plainTy Try.prog 20 y_split_pair = some [1, 0] := by kernel_rfl
  unfold keyEq pairV
  simp only [h1, h2, Option.bind]
  obtain ⟨a, b⟩ := p
  obtain ⟨c, d⟩ := q
  simp only [pairL, eqCells, eqCell, Option.bind]
  by_cases h : a = c <;> cases b <;> cases d <;> simp [h] <;> omega
theorem find_pair (p : Nat × Bool) : ∀ (s : List (Nat × Bool)) (k i : Nat), findV Try.prog y_split_pair (pairV p) (ents k s) i = some (if p ∈ s then some (i + pos s p, .int .u8 ((k + pos s p : Nat) : Int)) else none) := by
  intro s
  induction s with
  | nil => intro k i; simp [ents, findV]
  | cons q s ih =>
    intro k i
    simp only [ents, findV, pair_eq]
    by_cases h : p = q
    · subst h; simp [pos_self]
    · simp only [h, decide_false]
      rw [ih]
      have e : ¬ q = p := fun e => h e.symm
      by_cases hm : p ∈ s
      · rw [if_pos hm, if_pos (by simp [hm]), pos_ne e]; simp; omega
      · rw [if_neg hm, if_neg (by simp [hm, h])]
theorem und_map : ∃ et, und Try.prog y_map_split_pair_uint8 = some (.map y_split_pair et) ∧ zer Try.prog et = some (.int .u8 0) := by
  refine ⟨y_uint8, ?_, ?_⟩ <;> kernel_rfl
theorem pair_ok (p : Nat × Bool) : keyOk Try.prog y_split_pair (pairV p) = true := by
  have h1 : ((und Try.prog y_split_pair).bind fun d => match d with
    | .struct fs => some true
    | _ => none) = some true := by kernel_rfl
  have h2 : plainTy Try.prog 2 y_split_pair = some [1, 0] := by kernel_rfl
  obtain ⟨d, h1, h3⟩ := bind_some' h1
  cases d <;> try (cases h3; done)
  unfold keyOk pairV
  simp only [h1, h2, pairL]
  simp [eqCells, eqCell]
theorem look_pair {h : T Obj} {id c : Nat} {s : List (Nat × Bool)} {p : Nat × Bool} (hg : h.get id = some (.map (ents 0 s).toArray c)) :
    lookV Try.prog h y_map_split_pair_uint8 (.map (some id)) (pairV p) true = some (.tuple #[.int .u8 ((if p ∈ s then pos s p else 0 : Nat) : Int), .bool (decide (p ∈ s))]) := by
  obtain ⟨et, h1, h2⟩ := und_map
  unfold lookV
  simp only [h1, pair_ok, mapAt, entriesAt, hg, Option.bind, lookIn, find_pair]
  by_cases hm : p ∈ s
  · simp [hm, gotV, outV]
  · simp [hm, gotV, outV, h2]
theorem put_pair {h : T Obj} {id : Nat} {s : List (Nat × Bool)} {p : Nat × Bool} (hg : h.get id = some (.map (ents 0 s).toArray s.length)) (hm : ¬ p ∈ s) :
    mapPutV Try.prog h y_map_split_pair_uint8 (.map (some id)) (pairV p) (.int .u8 (s.length : Int)) = some (h.upd id (some (.map (ents 0 (s ++ [p])).toArray (s ++ [p]).length))) := by
  obtain ⟨et, h1, h2⟩ := und_map
  unfold mapPutV
  simp only [h1, pair_ok, entriesAt, hg, Option.bind, find_pair, if_neg hm]
  rw [ents_append]
  simp
theorem len_pair {h : T Obj} {id c : Nat} {s : List (Nat × Bool)} (hg : h.get id = some (.map (ents 0 s).toArray c)) : lenV Try.prog h y_map_split_pair_uint8 (.map (some id)) = some (.int .i64 (s.length : Int)) := by
  obtain ⟨et, h1, h2⟩ := und_map
  unfold lenV
  simp only [h1, entriesAt, hg, Option.bind]
  simp [ents_length]
end V
end Go.Proofs.Ytmmdcdjkmakgpaa
set_option linter.unusedVariables false
set_option linter.unusedSimpArgs false
namespace Go.Proofs.Ytmmdcdjkmakgpaa
set_option maxRecDepth 20000
namespace V
open PA
theorem pairs_length (c : List Nat) (x : Nat) : (pairs c x).length = 256 := by rw [pairs, List.length_map, bs_length]
theorem pairs_get {c : List Nat} {x i : Nat} (hi : i < 256) : (pairs c x)[i]? = some (c.getD i 0, x.testBit i) := by rw [pairs, List.getElem?_map, bs_get hi]; rfl
def part (l : List Nat) (i : Nat) : List Nat := l.take i ++ List.replicate (256 - i) 0
theorem part_len {l : List Nat} (hl : l.length = 256) {i : Nat} (hi : i ≤ 256) : (part l i).length = 256 := by simp [part, hl]; omega
theorem part_set {l : List Nat} (hl : l.length = 256) {i : Nat} (hi : i < 256) : (part l i).set i (l[i]'(by omega)) = part l (i + 1) := by
  unfold part
  rw [List.set_append_right _ _ (by simp; omega)]
  have e : 256 - i = (256 - (i + 1)) + 1 := by omega
  rw [e, List.replicate_succ]
  have e2 : i - (List.take i l).length = 0 := by simp; omega
  rw [e2, List.set_cons_zero, List.take_succ_eq_append_getElem (by omega), List.append_assoc]
  rfl
theorem part_all {l : List Nat} (hl : l.length = 256) : part l 256 = l := by
  unfold part
  rw [List.take_of_length_le (by omega)]; simp
theorem split_cut_end {ro : Ro} {c : List Nat} {s : List (Nat × Bool)} {e : Env} {h h0 : T Obj} {id nx nx0 : Nat} {K : KV} (hc : c.length = 256)
    (e4 : e 4 = at_ (id + 2) 0 0) (e5 : e 5 = at_ (id + 3) 0 0) (e6 : e 6 = .map (some (id + 4)))
    (g3 : h.get (id + 2) = some (.cells (splitL (List.replicate 256 0) 0).toArray y_api_Split)) (g4 : h.get (id + 3) = some (.cells (splitL c 0).toArray y_api_Split)) (g5 : h.get (id + 4) = some (.map (ents 0 s).toArray s.length))
    (hf : Fr h0 nx0) (hs : Sub h0 h) (hid : nx0 ≤ id) (hK : K (splitV c s.length) h0 (nx + 6)) : split_cut_j1 ro K e h nx := by
  unfold split_cut_j1
  rw [e4, e5, e6]
  refine bindP_mk (len_pair g5) ?_
  (repeat (first | refine bindP_mk (by simp (disch := first | omega | exact Int.natCast_nonneg _ | assumption) only [BB, B2, ↓reduceIte, Nat.reduceLeDiff, Nat.reduceAdd, intB_eql, intB_neq, intB_lss, intB_leq, intB_gtr, intB_geq] <;> rfl) ?_ | refine newP_mk ?_ | refine optP_mk ?_ | with_reducible first | refine condP_t ?_ | refine condP_f ?_ | refine ifP_tt' ?_ | refine ifP_ff' ?_ | refine ifP_tf' ?_ | refine ifP_ft' ?_ | refine ifP_u' ?_ | refine optP_mk0 ?_))
  refine bindP_mk (store1_own g4 (by rw [splitL_len hc]; omega) rfl rfl) ?_
  rw [splitL_setM _ hc]
  refine bindP_mk (loadA_all (by rw [T.get_upd_same]) (splitL_len hc)) ?_
  refine bindP_mk (storeA_own (l := splitL (List.replicate 256 0) 0) (vs := splitL c s.length) (e := y_api_Split) (f := (0, 0)) (by simp (disch := first | omega | exact Int.natCast_nonneg _ | assumption) only [BB, B2, ↓reduceIte, Nat.reduceLeDiff, Nat.reduceAdd, intB_eql, intB_neq, intB_lss, intB_leq, intB_gtr, intB_geq, g3]) rfl (splitL_len hc) (splitL_len rep_len) (splitL_ok _ _)) ?_
  refine bindP_mk (loadA_all (by rw [T.get_upd_same]) (splitL_len hc)) ?_
  exact ⟨h0, (hs.new hf (by omega)).new hf (by omega), hK⟩
set_option maxRecDepth 4000 in
theorem split_cut_c {ro : Ro} {c : List Nat} {m x : Nat} (hc : c.length = 256) {h : T Obj} {nx : Nat} {K : KV} (hf : Fr h nx)
    (hK : ∀ nx', nx ≤ nx' → K (splitV (num (pairs c x)) (dd (pairs c x)).length) h nx') : callP Try.prog ro i_split_cut [splitV c m, setV x] h nx K := by
  apply split_cut_of
  unfold split_cut
  refine newP_mk (newP_mk (zer_Split_mk (newP_mk (zer_Split_mk (newP_mk (newP_mk ?_))))))
  have hN : (num (pairs c x)).length = 256 := by rw [num_length, pairs_length]
  refine loopP_rule (fun n e h' nx' => ∃ i : Nat, i + n = 256 ∧ nx + 5 ≤ nx' ∧ e 2 = ptr nx ∧ e 3 = ptr (nx + 1) ∧ e 4 = ptr (nx + 2) ∧ e 5 = ptr (nx + 3) ∧ e 6 = .map (some (nx + 4)) ∧ e 12 = .int .i64 i ∧ Sub h h' ∧ Fr h' nx' ∧
    h'.get nx = some (.cells (splitL c m).toArray y_api_Split) ∧ h'.get (nx + 1) = some (.cells (setL x).toArray y_api_Set) ∧ h'.get (nx + 2) = some (.cells (splitL (List.replicate 256 0) 0).toArray y_api_Split) ∧
    h'.get (nx + 3) = some (.cells (splitL (part (num (pairs c x)) i) 0).toArray y_api_Split) ∧ h'.get (nx + 4) = some (.map (ents 0 (dd ((pairs c x).take i))).toArray (dd ((pairs c x).take i)).length)) ?_ (n := 256)
    ⟨0, by omega, by omega, rfl, rfl, rfl, rfl, rfl, rfl, ?_, ?_, ?_, ?_, ?_, ?_, ?_⟩
  · rintro n e h' nx' ⟨i, hin, hnx, e2, e3, e4, e5, e6, e12, hs, hf', g1, g2, g3, g4, g5⟩ Q' hq hx
    unfold split_cut_L1
    rw [e2, e3, e6, e12]
    (repeat (first | refine bindP_mk (by simp (disch := first | omega | exact Int.natCast_nonneg _ | assumption) only [BB, B2, ↓reduceIte, Nat.reduceLeDiff, Nat.reduceAdd, intB_eql, intB_neq, intB_lss, intB_leq, intB_gtr, intB_geq] <;> rfl) ?_ | refine newP_mk ?_ | refine optP_mk ?_ | with_reducible first | refine condP_t ?_ | refine condP_f ?_ | refine ifP_tt' ?_ | refine ifP_ff' ?_ | refine ifP_tf' ?_ | refine ifP_ft' ?_ | refine ifP_u' ?_ | refine optP_mk0 ?_))
    by_cases hi : i < 256
    · refine condP_tr (by simp; omega) ?_
      have hic : i < c.length := by omega
      have hg := splitL_get (m := m) hic
      (repeat (first | refine bindP_mk (by simp (disch := first | omega | exact Int.natCast_nonneg _ | assumption) only [BB, B2, ↓reduceIte, Nat.reduceLeDiff, Nat.reduceAdd, intB_eql, intB_neq, intB_lss, intB_leq, intB_gtr, intB_geq, g1, hg] <;> rfl) ?_ | refine newP_mk ?_ | refine optP_mk ?_ | with_reducible first | refine condP_t ?_ | refine condP_f ?_ | refine ifP_tt' ?_ | refine ifP_ff' ?_ | refine ifP_tf' ?_ | refine ifP_ft' ?_ | refine ifP_u' ?_ | refine optP_mk0 ?_))
      refine bindP_mk (loadA_all g2 rfl) ?_
      (repeat (first | refine bindP_mk (by simp (disch := first | omega | exact Int.natCast_nonneg _ | assumption) only [BB, B2, ↓reduceIte, Nat.reduceLeDiff, Nat.reduceAdd, intB_eql, intB_neq, intB_lss, intB_leq, intB_gtr, intB_geq] <;> rfl) ?_ | refine newP_mk ?_ | refine optP_mk ?_ | with_reducible first | refine condP_t ?_ | refine condP_f ?_ | refine ifP_tt' ?_ | refine ifP_ff' ?_ | refine ifP_tf' ?_ | refine ifP_ft' ?_ | refine ifP_u' ?_ | refine optP_mk0 ?_))
      refine bset_Has_c hi (hf'.mono (by omega)) fun n1 hn1 => ?_
      refine ⟨sameV_own g1 g1, ?_⟩
      refine bindP_mk (buildV_pair _ _ rfl rfl) ?_
      refine zer_pair_mk (newP_mk ?_)
      refine bindP_mk (storeA_own (l := pairL (0, false)) (vs := pairL (c[i], x.testBit i)) (e := y_split_pair) (f := (0, 0)) (by rw [T.get_upd_same]; rfl) rfl rfl rfl rfl) ?_
      refine bindP_mk (loadA_all (by rw [T.get_upd_same]) rfl) ?_
      generalize hp : (c[i], x.testBit i) = p
      have hpi : (pairs c x)[i]? = some p := by rw [pairs_get hi, ← hp, List.getD_eq_getElem?_getD, List.getElem?_eq_getElem hic]; rfl
      have hpl : i < (pairs c x).length := by rw [pairs_length]; exact hi
      have hpe : (pairs c x)[i] = p := by rw [List.getElem?_eq_getElem hpl] at hpi; exact Option.some.inj hpi
      have htake : (pairs c x).take (i + 1) = (pairs c x).take i ++ [p] := by rw [List.take_succ_eq_append_getElem hpl, hpe]
      have hdd : dd ((pairs c x).take (i + 1)) = addN (dd ((pairs c x).take i)) p := by rw [htake, dd_append]
      have hNi : (num (pairs c x))[i]'(by omega) = ix ((pairs c x).take (i + 1)) p := by
        have h1 := num_get (l := pairs c x) hpl
        rw [hpe, List.getElem?_eq_getElem (by omega)] at h1
        rw [Option.some.inj h1]
        have h2 := idx_stable (l := (pairs c x).take (i + 1)) (m := (pairs c x).drop (i + 1)) (p := p) (by rw [htake]; simp)
        rw [List.take_append_drop] at h2
        exact h2
      have hval : ∀ v : Nat, v = ix ((pairs c x).take (i + 1)) p → ∀ (e : Env) (h1 : T Obj) (n2 : Nat), nx' ≤ n2 → e 2 = ptr nx → e 3 = ptr (nx + 1) → e 4 = ptr (nx + 2) → e 5 = ptr (nx + 3) → e 6 = .map (some (nx + 4)) → e 12 = .int .i64 i → e 7 = .int .i64 i → e 9 = .int .u8 (v : Int) →
          Sub h h1 → Fr h1 n2 → h1.get nx = some (.cells (splitL c m).toArray y_api_Split) → h1.get (nx + 1) = some (.cells (setL x).toArray y_api_Set) → h1.get (nx + 2) = some (.cells (splitL (List.replicate 256 0) 0).toArray y_api_Split) →
          h1.get (nx + 3) = some (.cells (splitL (part (num (pairs c x)) i) 0).toArray y_api_Split) → h1.get (nx + 4) = some (.map (ents 0 (dd ((pairs c x).take (i + 1)))).toArray (dd ((pairs c x).take (i + 1))).length) → split_cut_j3 ro Q' e h1 n2 := by
        intro v hv e h1 n2 hn2 e2 e3 e4 e5 e6 e12 e7 e9 hs1 hf1 g1 g2 g3 g4 g5
        unfold split_cut_j3
        rw [e5, e7, e9]
        (repeat (first | refine bindP_mk (by simp (disch := first | omega | exact Int.natCast_nonneg _ | assumption) only [BB, B2, ↓reduceIte, Nat.reduceLeDiff, Nat.reduceAdd, intB_eql, intB_neq, intB_lss, intB_leq, intB_gtr, intB_geq] <;> rfl) ?_ | refine newP_mk ?_ | refine optP_mk ?_ | with_reducible first | refine condP_t ?_ | refine condP_f ?_ | refine ifP_tt' ?_ | refine ifP_ff' ?_ | refine ifP_tf' ?_ | refine ifP_ft' ?_ | refine ifP_u' ?_ | refine optP_mk0 ?_))
        have hpl2 : (part (num (pairs c x)) i).length = 256 := part_len hN (by omega)
        refine bindP_mk (store1_own g4 (by rw [splitL_len hpl2]; omega) rfl rfl) ?_
        rw [splitL_set _ (by omega), hv, ← hNi, part_set hN hi]
        unfold split_cut_j2
        show bindP (intB .add (e 12) _) _
        rw [e12]
        (repeat (first | refine bindP_mk (by simp (disch := first | omega | exact Int.natCast_nonneg _ | assumption) only [BB, B2, ↓reduceIte, Nat.reduceLeDiff, Nat.reduceAdd, intB_eql, intB_neq, intB_lss, intB_leq, intB_gtr, intB_geq] <;> rfl) ?_ | refine newP_mk ?_ | refine optP_mk ?_ | with_reducible first | refine condP_t ?_ | refine condP_f ?_ | refine ifP_tt' ?_ | refine ifP_ff' ?_ | refine ifP_tf' ?_ | refine ifP_ft' ?_ | refine ifP_u' ?_ | refine optP_mk0 ?_))
        refine hq (n - 1) _ _ _ _ (by omega) ⟨i + 1, by omega, ?_, e2, e3, e4, e5, e6, rfl, hs1.new hf (by omega), (hf1.mono (by omega)).upd (Nat.le_refl _) (by omega), ?_, ?_, ?_, ?_, ?_⟩ (Sub.refl _)
        · omega
        · simp (disch := first | omega | exact Int.natCast_nonneg _ | assumption) only [BB, B2, ↓reduceIte, Nat.reduceLeDiff, Nat.reduceAdd, intB_eql, intB_neq, intB_lss, intB_leq, intB_gtr, intB_geq, g1]
        · simp (disch := first | omega | exact Int.natCast_nonneg _ | assumption) only [BB, B2, ↓reduceIte, Nat.reduceLeDiff, Nat.reduceAdd, intB_eql, intB_neq, intB_lss, intB_leq, intB_gtr, intB_geq, g2]
        · simp (disch := first | omega | exact Int.natCast_nonneg _ | assumption) only [BB, B2, ↓reduceIte, Nat.reduceLeDiff, Nat.reduceAdd, intB_eql, intB_neq, intB_lss, intB_leq, intB_gtr, intB_geq, g3]
        · rw [T.get_upd_same]
        · simp (disch := first | omega | exact Int.natCast_nonneg _ | assumption) only [BB, B2, ↓reduceIte, Nat.reduceLeDiff, Nat.reduceAdd, intB_eql, intB_neq, intB_lss, intB_leq, intB_gtr, intB_geq, g5]
      have hnew : ∀ k, k ≠ nx' + 12 → ((h'.upd (nx' + 12) (some (.cells (Value.cells (pairV (0, false))) y_split_pair))).upd (nx' + 12) (some (.cells (pairL p).toArray y_split_pair))).get k = h'.get k := fun k hk => by
        rw [T.get_upd_ne _ _ hk, T.get_upd_ne _ _ hk]
      generalize hH : (h'.upd (nx' + 12) (some (.cells (Value.cells (pairV (0, false))) y_split_pair))).upd (nx' + 12) (some (.cells (pairL p).toArray y_split_pair)) = H at hnew
      have hHs : Sub h H := by rw [← hH]; exact (hs.new hf (by omega)).new hf (by omega)
      have hHf : Fr H n1 := by rw [← hH]; exact ((hf'.mono (by omega)).upd (Nat.le_refl _) (by omega)).upd (Nat.le_refl _) (by omega)
      have hHk : H.get (nx' + 12) = some (.cells (pairL p).toArray y_split_pair) := by rw [← hH, T.get_upd_same]
      generalize hS : dd ((pairs c x).take i) = s at hdd g5
      have hsl : s.length ≤ i := by
        rw [← hS]
        refine Nat.le_trans (dd_length _) ?_
        rw [List.length_take]; omega
      have g5' : H.get (nx + 4) = some (.map (ents 0 s).toArray s.length) := by rw [hnew _ (by omega)]; exact g5
      refine bindP_mk (look_pair (p := p) g5') ?_
      refine bindP_mk rfl ?_
      refine bindP_mk rfl ?_
      (repeat (first | refine bindP_mk (by simp (disch := first | omega | exact Int.natCast_nonneg _ | assumption) only [BB, B2, ↓reduceIte, Nat.reduceLeDiff, Nat.reduceAdd, intB_eql, intB_neq, intB_lss, intB_leq, intB_gtr, intB_geq] <;> rfl) ?_ | refine newP_mk ?_ | refine optP_mk ?_ | with_reducible first | refine condP_t ?_ | refine condP_f ?_ | refine ifP_tt' ?_ | refine ifP_ff' ?_ | refine ifP_tf' ?_ | refine ifP_ft' ?_ | refine ifP_u' ?_ | refine optP_mk0 ?_))
      by_cases hm : p ∈ s
      · refine condP_fa (by simp [hm]) ?_
        have hix : (if p ∈ s then pos s p else 0) = ix ((pairs c x).take (i + 1)) p := by
          rw [if_pos hm]; unfold ix; rw [hdd]; unfold addN; rw [if_pos hm]
        refine hval _ hix _ _ _ (by omega) e2 e3 e4 e5 e6 e12 rfl rfl hHs (hHf.mono (by omega)) ?_ ?_ ?_ ?_ ?_
        · rw [hnew _ (by omega)]; exact g1
        · rw [hnew _ (by omega)]; exact g2
        · rw [hnew _ (by omega)]; exact g3
        · rw [hnew _ (by omega)]; exact g4
        · rw [hdd, g5']; unfold addN; rw [if_pos hm]
      · refine condP_tr (by simp [hm]) ?_
        refine bindP_mk (len_pair g5') ?_
        (repeat (first | refine bindP_mk (by simp (disch := first | omega | exact Int.natCast_nonneg _ | assumption) only [BB, B2, ↓reduceIte, Nat.reduceLeDiff, Nat.reduceAdd, intB_eql, intB_neq, intB_lss, intB_leq, intB_gtr, intB_geq] <;> rfl) ?_ | refine newP_mk ?_ | refine optP_mk ?_ | with_reducible first | refine condP_t ?_ | refine condP_f ?_ | refine ifP_tt' ?_ | refine ifP_ff' ?_ | refine ifP_tf' ?_ | refine ifP_ft' ?_ | refine ifP_u' ?_ | refine optP_mk0 ?_))
        refine bindP_mk (loadA_all hHk rfl) ?_
        refine bindP_mk (put_pair g5' hm) ?_
        have hix : s.length = ix ((pairs c x).take (i + 1)) p := by
          rw [htake, ix_new (by rw [hS]; exact hm), hS]
        refine hval _ hix _ _ _ (by omega) e2 e3 e4 e5 e6 e12 rfl rfl (hHs.new hf (by omega)) ((hHf.mono (by omega)).upd (Nat.le_refl _) (by omega)) ?_ ?_ ?_ ?_ ?_
        · rw [T.get_upd_ne _ _ (by omega), hnew _ (by omega)]; exact g1
        · rw [T.get_upd_ne _ _ (by omega), hnew _ (by omega)]; exact g2
        · rw [T.get_upd_ne _ _ (by omega), hnew _ (by omega)]; exact g3
        · rw [T.get_upd_ne _ _ (by omega), hnew _ (by omega)]; exact g4
        · rw [hdd, T.get_upd_same]; unfold addN; rw [if_neg hm]
    · refine condP_fa (by simp; omega) ?_
      refine hx _ _ _ _ (fun e => by cases e) ?_
      show exP _ _ _ _
      rw [exP_exit]
      show split_cut_j1 ro K _ _ _
      have hi2 : i = 256 := by omega
      subst hi2
      have ht : (pairs c x).take 256 = pairs c x := List.take_of_length_le (by rw [pairs_length]; omega)
      rw [part_all hN] at g4
      rw [ht] at g5
      exact split_cut_end (id := nx) hN e4 e5 e6 g3 g4 g5 hf hs (Nat.le_refl _) (hK _ (by omega))
  · exact (((((Sub.refl h).new hf (Nat.le_refl _)).new hf (by omega)).new hf (by omega)).new hf (by omega)).new hf (by omega)
  · exact ((((hf.upd (m := nx + 7) (by omega) (by omega)).upd (Nat.le_refl _) (by omega)).upd (Nat.le_refl _) (by omega)).upd (Nat.le_refl _) (by omega)).upd (Nat.le_refl _) (by omega)
  · simp (disch := first | omega | exact Int.natCast_nonneg _ | assumption) only [BB, B2, ↓reduceIte, Nat.reduceLeDiff, Nat.reduceAdd, intB_eql, intB_neq, intB_lss, intB_leq, intB_gtr, intB_geq, splitV_cells]
  · simp (disch := first | omega | exact Int.natCast_nonneg _ | assumption) only [BB, B2, ↓reduceIte, Nat.reduceLeDiff, Nat.reduceAdd, intB_eql, intB_neq, intB_lss, intB_leq, intB_gtr, intB_geq, setV_cells]
  · simp (disch := first | omega | exact Int.natCast_nonneg _ | assumption) only [BB, B2, ↓reduceIte, Nat.reduceLeDiff, Nat.reduceAdd, intB_eql, intB_neq, intB_lss, intB_leq, intB_gtr, intB_geq, splitV_cells]
  · simp (disch := first | omega | exact Int.natCast_nonneg _ | assumption) only [BB, B2, ↓reduceIte, Nat.reduceLeDiff, Nat.reduceAdd, intB_eql, intB_neq, intB_lss, intB_leq, intB_gtr, intB_geq, splitV_cells]
    rfl
  · simp (disch := first | omega | exact Int.natCast_nonneg _ | assumption) only [BB, B2, ↓reduceIte, Nat.reduceLeDiff, Nat.reduceAdd, intB_eql, intB_neq, intB_lss, intB_leq, intB_gtr, intB_geq]
    rfl
end V
end Go.Proofs.Ytmmdcdjkmakgpaa
set_option linter.unusedVariables false
set_option linter.unusedSimpArgs false
namespace Go.Proofs.Ytmmdcdjkmakgpaa
set_option maxRecDepth 20000
namespace V
open PA
def setsC (l : List Nat) : List (List Value) := l.map setL
theorem setsC_len (l : List Nat) : (setsC l).length = l.length := by simp [setsC]
theorem setsC_get {l : List Nat} {i : Nat} (hi : i < l.length) : (setsC l)[i]? = some (setL l[i]) := by simp [setsC, hi]
theorem buildV_Split1 : buildV Try.prog y_api_Split [(1, .int .i64 1)] = some (splitV (List.replicate 256 0) 1) := by kernel_rfl
set_option maxRecDepth 4000 in
theorem split_Of_c {ro : Ro} {v : Value} {l : List Nat} (hlen : l.length ≤ 1000000) {h : T Obj} {nx : Nat} {K : KV} (hf : Fr h nx) (hv : Sl ro h v 4 (setsC l)) (hK : ∀ nx', nx ≤ nx' → K (splitV (cls l) (many l)) h nx') : callP Try.prog ro i_split_Of [v] h nx K := by
  apply split_Of_of
  unfold split_Of
  refine zer_Split_mk (newP_mk (bindP_mk buildV_Split1 (zer_Split_mk (newP_mk ?_))))
  refine bindP_mk (storeA_own (l := splitL (List.replicate 256 0) 0) (vs := splitL (List.replicate 256 0) 1) (by rw [T.get_upd_same]; rfl) rfl (splitL_len rep_len) (splitL_len rep_len) (splitL_ok _ _)) ?_
  have hs2 : Sub h ((((h.upd nx (some (.cells (Value.cells (splitV (List.replicate 256 0) 0)) y_api_Split))).upd (nx + 2) (some (.cells (Value.cells (splitV (List.replicate 256 0) 0)) y_api_Split)))).upd (nx + 2) (some (.cells (splitL (List.replicate 256 0) 1).toArray y_api_Split))) := (((Sub.refl h).new hf (Nat.le_refl _)).new hf (by omega)).new hf (by omega)
  have hlenv := (hv.sub hs2).len
  rw [setsC_len] at hlenv
  refine bindP_mk hlenv ?_
  refine loopP_rule (fun n e h' nx' => ∃ i : Nat, i + n = l.length ∧ nx + 3 ≤ nx' ∧ e 7 = v ∧ e 8 = .int .i64 (l.length : Nat) ∧ e 2 = ptr nx ∧ e 3 = ptr (nx + 2) ∧ e 9 = .int .i64 i ∧ Sub h h' ∧ Fr h' nx' ∧
    h'.get nx = some (.cells (splitL (List.replicate 256 0) 0).toArray y_api_Split) ∧ h'.get (nx + 2) = some (.cells (splitL (cls (l.take i)) (many (l.take i))).toArray y_api_Split)) ?_ (n := l.length) ⟨0, by omega, by omega, rfl, rfl, rfl, rfl, rfl, hs2, ?_, ?_, ?_⟩
  · rintro n e h' nx' ⟨i, hin, hnx, e7, e8, e2, e3, e9, hs, hf', g1, g2⟩ Q' hc hx
    unfold split_Of_L1
    rw [e7, e8, e3, e9]
    (repeat (first | refine bindP_mk (by simp (disch := first | omega | exact Int.natCast_nonneg _ | assumption) only [BB, B2, ↓reduceIte, Nat.reduceLeDiff, Nat.reduceAdd, intB_eql, intB_neq, intB_lss, intB_leq, intB_gtr, intB_geq] <;> rfl) ?_ | refine newP_mk ?_ | refine optP_mk ?_ | with_reducible first | refine condP_t ?_ | refine condP_f ?_ | refine ifP_tt' ?_ | refine ifP_ff' ?_ | refine ifP_tf' ?_ | refine ifP_ft' ?_ | refine ifP_u' ?_ | refine optP_mk0 ?_))
    by_cases hi : i < l.length
    · refine condP_tr (by simp; omega) ?_
      refine bindP_mk ((hv.sub hs).ix _ (by rw [setsC_len]; exact hi)) ?_
      refine bindP_mk ((hv.sub hs).loadA (setsC_get hi)) ?_
      refine zer_Set_mk (newP_mk ?_)
      refine bindP_mk (storeA_own (l := setL 0) (vs := setL l[i]) (e := y_api_Set) (f := (0, 0)) (by rw [T.get_upd_same]; rfl) rfl rfl rfl rfl) ?_
      refine bindP_mk (loadA_all (l := splitL (cls (l.take i)) (many (l.take i))) (e := y_api_Split) (f := (0, 0)) (by simp (disch := first | omega | exact Int.natCast_nonneg _ | assumption) only [BB, B2, ↓reduceIte, Nat.reduceLeDiff, Nat.reduceAdd, intB_eql, intB_neq, intB_lss, intB_leq, intB_gtr, intB_geq, g2]) (splitL_len (cls_length _))) ?_
      refine bindP_mk (loadA_all (l := setL l[i]) (by rw [T.get_upd_same]) rfl) ?_
      refine split_cut_c (m := many (l.take i)) (cls_length _) (((hf'.mono (by omega)).upd (n := nx' + 8) (Nat.le_refl _) (by omega)).upd (Nat.le_refl _) (by omega)) fun n1 hn1 => ?_
      obtain ⟨q1, q2⟩ := cls_step (l.take i) l[i]
      have ht : l.take i ++ [l[i]] = l.take (i + 1) := (List.take_succ_eq_append_getElem hi).symm
      rw [ht] at q1 q2
      rw [q1, q2]
      refine bindP_mk (storeA_own (l := splitL (cls (l.take i)) (many (l.take i))) (vs := splitL (cls (l.take (i + 1))) (many (l.take (i + 1)))) (e := y_api_Split) (f := (0, 0)) (by simp (disch := first | omega | exact Int.natCast_nonneg _ | assumption) only [BB, B2, ↓reduceIte, Nat.reduceLeDiff, Nat.reduceAdd, intB_eql, intB_neq, intB_lss, intB_leq, intB_gtr, intB_geq, g2]) rfl (splitL_len (cls_length _)) (splitL_len (cls_length _)) (splitL_ok _ _)) ?_
      (repeat (first | refine bindP_mk (by simp (disch := first | omega | exact Int.natCast_nonneg _ | assumption) only [BB, B2, ↓reduceIte, Nat.reduceLeDiff, Nat.reduceAdd, intB_eql, intB_neq, intB_lss, intB_leq, intB_gtr, intB_geq] <;> rfl) ?_ | refine newP_mk ?_ | refine optP_mk ?_ | with_reducible first | refine condP_t ?_ | refine condP_f ?_ | refine ifP_tt' ?_ | refine ifP_ff' ?_ | refine ifP_tf' ?_ | refine ifP_ft' ?_ | refine ifP_u' ?_ | refine optP_mk0 ?_))
      refine hc (n - 1) _ _ _ _ (by omega) ⟨i + 1, by omega, ?_, e7, e8, e2, e3, rfl, ((hs.new hf (by omega)).new hf (by omega)).new hf (by omega), (((hf'.mono (by omega)).upd (Nat.le_refl _) (by omega)).upd (Nat.le_refl _) (by omega)).upd (Nat.le_refl _) (by omega), ?_, ?_⟩ (Sub.refl _)
      · omega
      · simp (disch := first | omega | exact Int.natCast_nonneg _ | assumption) only [BB, B2, ↓reduceIte, Nat.reduceLeDiff, Nat.reduceAdd, intB_eql, intB_neq, intB_lss, intB_leq, intB_gtr, intB_geq, g1]
      · rw [T.get_upd_same]
    · refine condP_fa (by simp; omega) ?_
      refine hx _ _ _ _ (fun e => by cases e) (exP_e (beqP_t ?_))
      unfold split_Of_j1
      have ht : l.take i = l := List.take_of_length_le (by omega)
      rw [ht] at g2
      show bindP (loadA ro h' 257 (e 3)) _
      rw [e3]
      show bindP _ fun t => bindP (storeN 257 h' (e 2) t) fun h8 => bindP (loadA ro h8 257 (e 2)) _
      rw [e2]
      exact ret_copy g2 g1 (splitL_len (cls_length _)) (splitL_len rep_len) (splitL_ok _ _) hf hs (Nat.le_refl _) (hK _ (by omega))
  · exact ((hf.upd (m := nx + 7) (by omega) (by omega)).upd (Nat.le_refl _) (by omega)).upd (Nat.le_refl _) (by omega)
  · simp (disch := first | omega | exact Int.natCast_nonneg _ | assumption) only [BB, B2, ↓reduceIte, Nat.reduceLeDiff, Nat.reduceAdd, intB_eql, intB_neq, intB_lss, intB_leq, intB_gtr, intB_geq, splitV_cells]
  · rw [T.get_upd_same, List.take_zero, cls_nil, many_nil]
end V
end Go.Proofs.Ytmmdcdjkmakgpaa
set_option linter.unusedVariables false
set_option linter.unusedSimpArgs false
namespace Go.Proofs.Ytmmdcdjkmakgpaa
set_option maxRecDepth 20000
namespace V
open PA
theorem und_u8s : und Try.prog y_s_uint8 = some (.slice y_uint8) := by kernel_rfl
theorem tin_u8 : ∃ i, tin Try.prog y_uint8 = some i ∧ i.size = 1 ∧ i.bytes = 1 := by
  have h : (tin Try.prog y_uint8).map (fun i => (i.size, i.bytes)) = some (1, 1) := by kernel_rfl
  cases hi : tin Try.prog y_uint8 with
  | none => rw [hi] at h; cases h
  | some i => rw [hi] at h; simp at h; exact ⟨i, rfl, h.1, h.2⟩
theorem zer_u8 : zer Try.prog y_uint8 = some (.int .u8 0) := by kernel_rfl
end V
end Go.Proofs.Ytmmdcdjkmakgpaa
set_option linter.unusedVariables false
set_option linter.unusedSimpArgs false
namespace Go.Proofs.Ytmmdcdjkmakgpaa
set_option maxRecDepth 20000
namespace V
open PA
end V
end Go.Proofs.Ytmmdcdjkmakgpaa
set_option linter.unusedVariables false
set_option linter.unusedSimpArgs false
namespace Go.Proofs.Ytmmdcdjkmakgpaa
set_option maxRecDepth 20000
namespace V
open PA
open PA
theorem splitI_nat (c : List Nat) (m : Nat) : splitV c m = splitI c (m : Int) := rfl
end V
end Go.Proofs.Ytmmdcdjkmakgpaa
set_option linter.unusedVariables false
set_option linter.unusedSimpArgs false
namespace Go.Proofs.Ytmmdcdjkmakgpaa
set_option maxRecDepth 20000
namespace V
open PA
open PA
end V
end Go.Proofs.Ytmmdcdjkmakgpaa
set_option linter.unusedVariables false
set_option linter.unusedSimpArgs false
namespace Go.Proofs.Ytmmdcdjkmakgpaa
set_option maxRecDepth 20000
namespace V
open PA
def lb (c : List Nat) (k i : Nat) : Nat := ((List.range' i (256 - i)).find? fun b => decide (c.getD b 0 = k)).getD 0
theorem lb_end (c : List Nat) (k : Nat) : lb c k 256 = 0 := rfl
theorem lb_step {c : List Nat} {k i : Nat} (hi : i < 256) : lb c k i = if c.getD i 0 = k then i else lb c k (i + 1) := by
  unfold lb
  rw [show 256 - i = (256 - (i + 1)) + 1 by omega, List.range'_succ, List.find?_cons]
  by_cases h : c.getD i 0 = k
  · rw [if_pos h, decide_eq_true h]; rfl
  · rw [if_neg h, decide_eq_false h]
def firstZ (c : List Nat) (n : Int) : List Nat := if n < 1 ∨ 256 < n then [] else (List.range n.toNat).map fun k => lb c k 0
theorem ixSl_own {id z len cap i : Nat} (k : IntKind) (hi : i < len) : ixSl z (.slice (some (own id z)) len cap) (.int k (i : Int)) = some (at_ id (i * z) 0) := by
  have hn : natV (.int k (i : Int)) = some i := by simp [natV]
  have hb : Nat.blt i len = true := by simp [Nat.blt]; omega
  unfold ixSl
  rw [hn]
  simp only [Option.bind_some, hb, own, Nat.beq_refl]
  simp [elt]
theorem zerosV_u8 : ∀ n : Nat, zerosV [.int .u8 0] n = u8s (List.replicate n 0)
  | 0 => rfl
  | n + 1 => by
    have := zerosV_u8 n
    simp only [zerosV, this, u8s, List.replicate_succ, List.map_cons]; rfl
theorem make_u8 {aid n : Nat} (h0 : 1 ≤ n) (h1 : n ≤ 1000000) : makeV Try.prog y_s_uint8 aid (.int .i64 (n : Int)) (.int .i64 (n : Int)) = some (.slice (some (own aid 1)) n n, some (.cells (u8s (List.replicate n 0)).toArray y_uint8)) := by
  obtain ⟨i, g1, g2, g3⟩ := tin_u8
  have hb : Nat.ble n big = true := Nat.ble_eq_true_of_le (by unfold big; omega)
  have e1 : decide ((0 : Int) ≤ (n : Int)) = true := by simp
  have e2 : decide ((n : Int) ≤ (n : Int)) = true := by simp
  have e3 : decide ((n : Int) ≤ 70368744177664) = true := by simp; omega
  have hz : zrow Try.prog y_uint8 n = some (u8s (List.replicate n 0)) := by
    obtain ⟨m, rfl⟩ : ∃ m, n = m + 1 := ⟨n - 1, by omega⟩
    have hs : siz Try.prog y_uint8 = some 1 := by kernel_rfl
    unfold zrow
    simp only [zer_u8, hs, Option.bind_some]
    have h3 : Nat.beq (Value.cells (.int .u8 0)).size 1 = true := rfl
    have h4 : Nat.blt 0 1 = true := rfl
    rw [h3, h4]
    simp only
    rw [← zerosV_u8]; rfl
  unfold makeV
  simp only [und_u8s, e1, e2, g1, Option.bind_some, g3, Nat.mul_one, Int.toNat_natCast, hb, e3, hz, g2]
theorem flat_bytesC (l : List Nat) : (bytesC l).flatten = u8s l := by
  induction l with
  | nil => rfl
  | cons a l ih => simp only [bytesC, u8s, List.map_cons, List.flatten_cons] at ih ⊢; rw [ih]; rfl
theorem u8s_set {l : List Nat} {i v : Nat} : (u8s l).set i (.int .u8 (v : Int)) = u8s (l.set i v) := by simp [u8s, List.map_set]
set_option maxRecDepth 4000 in
theorem split_First_c {ro : Ro} {c : List Nat} {n : Int} (hc : c.length = 256) (hcl : ∀ x ∈ c, x < 256) {h : T Obj} {nx : Nat} {K : KV} (hf : Fr h nx) (hK : ∀ r h' nx', nx ≤ nx' → Sub h h' → Fr h' nx' → Own h' r 1 y_uint8 (bytesC (firstZ c n)) nx nx' → K r h' nx') : callP Try.prog ro i_split_First [splitI c n] h nx K := by
  apply split_First_of
  unfold split_First
  refine newP_mk ?_
  have hg := splitLI_many (n := n) hc
  have g0 : (h.upd nx (some (.cells (Value.cells (splitI c n)) y_api_Split))).get nx = some (.cells (splitLI c n).toArray y_api_Split) := by rw [T.get_upd_same]; rfl
  have hs0 : Sub h (h.upd nx (some (.cells (Value.cells (splitI c n)) y_api_Split))) := (Sub.refl h).new hf (Nat.le_refl _)
  have hf0 : Fr (h.upd nx (some (.cells (Value.cells (splitI c n)) y_api_Split))) (nx + 1) := (hf.mono (Nat.le_succ _)).upd (Nat.le_refl _) (by omega)
  generalize (h.upd nx (some (.cells (Value.cells (splitI c n)) y_api_Split))) = h0 at g0 hs0 hf0
  (repeat (first | refine bindP_mk (by simp (disch := first | omega | exact Int.natCast_nonneg _ | assumption) only [BB, B2, ↓reduceIte, Nat.reduceLeDiff, Nat.reduceAdd, intB_eql, intB_neq, intB_lss, intB_leq, intB_gtr, intB_geq, g0, hg] <;> rfl) ?_ | refine newP_mk ?_ | refine optP_mk ?_ | with_reducible first | refine condP_t ?_ | refine condP_f ?_ | refine ifP_tt' ?_ | refine ifP_ff' ?_ | refine ifP_tf' ?_ | refine ifP_ft' ?_ | refine ifP_u' ?_ | refine optP_mk0 ?_))
  by_cases h1 : n < 1
  · rw [decide_eq_true h1]
    (repeat (first | refine bindP_mk (by simp (disch := first | omega | exact Int.natCast_nonneg _ | assumption) only [BB, B2, ↓reduceIte, Nat.reduceLeDiff, Nat.reduceAdd, intB_eql, intB_neq, intB_lss, intB_leq, intB_gtr, intB_geq, g0, hg] <;> rfl) ?_ | refine newP_mk ?_ | refine optP_mk ?_ | with_reducible first | refine condP_t ?_ | refine condP_f ?_ | refine ifP_tt' ?_ | refine ifP_ff' ?_ | refine ifP_tf' ?_ | refine ifP_ft' ?_ | refine ifP_u' ?_ | refine optP_mk0 ?_))
    exact ⟨h0, Sub.refl _, hK _ _ _ (by omega) hs0 (hf0.mono (by omega)) (by unfold firstZ; rw [if_pos (.inl h1)]; exact Own.nil)⟩
  rw [decide_eq_false h1]
  (repeat (first | refine bindP_mk (by simp (disch := first | omega | exact Int.natCast_nonneg _ | assumption) only [BB, B2, ↓reduceIte, Nat.reduceLeDiff, Nat.reduceAdd, intB_eql, intB_neq, intB_lss, intB_leq, intB_gtr, intB_geq, g0, hg] <;> rfl) ?_ | refine newP_mk ?_ | refine optP_mk ?_ | with_reducible first | refine condP_t ?_ | refine condP_f ?_ | refine ifP_tt' ?_ | refine ifP_ff' ?_ | refine ifP_tf' ?_ | refine ifP_ft' ?_ | refine ifP_u' ?_ | refine optP_mk0 ?_))
  by_cases h2 : 256 < n
  · rw [decide_eq_true h2]
    (repeat (first | refine bindP_mk (by simp (disch := first | omega | exact Int.natCast_nonneg _ | assumption) only [BB, B2, ↓reduceIte, Nat.reduceLeDiff, Nat.reduceAdd, intB_eql, intB_neq, intB_lss, intB_leq, intB_gtr, intB_geq, g0, hg] <;> rfl) ?_ | refine newP_mk ?_ | refine optP_mk ?_ | with_reducible first | refine condP_t ?_ | refine condP_f ?_ | refine ifP_tt' ?_ | refine ifP_ff' ?_ | refine ifP_tf' ?_ | refine ifP_ft' ?_ | refine ifP_u' ?_ | refine optP_mk0 ?_))
    exact ⟨h0, Sub.refl _, hK _ _ _ (by omega) hs0 (hf0.mono (by omega)) (by unfold firstZ; rw [if_pos (.inr h2)]; exact Own.nil)⟩
  rw [decide_eq_false h2]
  obtain ⟨k0, rfl⟩ : ∃ k0 : Nat, n = (k0 : Int) := ⟨n.toNat, by omega⟩
  (repeat (first | refine bindP_mk (by simp (disch := first | omega | exact Int.natCast_nonneg _ | assumption) only [BB, B2, ↓reduceIte, Nat.reduceLeDiff, Nat.reduceAdd, intB_eql, intB_neq, intB_lss, intB_leq, intB_gtr, intB_geq, g0, hg] <;> rfl) ?_ | refine newP_mk ?_ | refine optP_mk ?_ | with_reducible first | refine condP_t ?_ | refine condP_f ?_ | refine ifP_tt' ?_ | refine ifP_ff' ?_ | refine ifP_tf' ?_ | refine ifP_ft' ?_ | refine ifP_u' ?_ | refine optP_mk0 ?_))
  refine bindP_mk (make_u8 (by omega) (by omega)) (optP_mk ?_)
  generalize hN : nx + 7 + 1 + 1 + 3 = ob
  refine loopP_rule (fun j e h' nx' => ∃ i : Nat, i = j ∧ i ≤ 256 ∧ ob + 1 ≤ nx' ∧ e 1 = ptr nx ∧ e 3 = .slice (some (own ob 1)) k0 k0 ∧ e 4 = .int .i64 ((i : Int) - 1) ∧ Sub h h' ∧ Fr h' nx' ∧
    h'.get nx = some (.cells (splitLI c k0).toArray y_api_Split) ∧ h'.get ob = some (.cells (u8s ((List.range k0).map fun k => lb c k i)).toArray y_uint8)) ?_ (n := 256) ⟨256, rfl, by omega, by omega, rfl, rfl, rfl, ?_, ?_, ?_, ?_⟩
  · rintro j e h' nx' ⟨i, rfl, hi, hnx, e1, e3, e4, hs, hf', g0, g1⟩ Q' hq hx
    unfold split_First_L1
    rw [e1, e3, e4]
    (repeat (first | refine bindP_mk (by simp (disch := first | omega | exact Int.natCast_nonneg _ | assumption) only [BB, B2, ↓reduceIte, Nat.reduceLeDiff, Nat.reduceAdd, intB_eql, intB_neq, intB_lss, intB_leq, intB_gtr, intB_geq] <;> rfl) ?_ | refine newP_mk ?_ | refine optP_mk ?_ | with_reducible first | refine condP_t ?_ | refine condP_f ?_ | refine ifP_tt' ?_ | refine ifP_ff' ?_ | refine ifP_tf' ?_ | refine ifP_ft' ?_ | refine ifP_u' ?_ | refine optP_mk0 ?_))
    by_cases hi0 : 0 < i
    · refine condP_tr (by simp; omega) ?_
      obtain ⟨b, rfl⟩ : ∃ b, i = b + 1 := ⟨i - 1, by omega⟩
      have hbb : (((b + 1 : Nat) : Int) - 1) = (b : Int) := by omega
      rw [hbb] at e4 ⊢
      have hbc : b < c.length := by omega
      have hcb := hcl _ (List.getElem_mem hbc)
      have hgb := splitLI_get (n := (k0 : Int)) hbc
      have hgd : c.getD b 0 = c[b] := by rw [List.getD_eq_getElem?_getD, List.getElem?_eq_getElem hbc]; rfl
      (repeat (first | refine bindP_mk (by simp (disch := first | omega | exact Int.natCast_nonneg _ | assumption) only [BB, B2, ↓reduceIte, Nat.reduceLeDiff, Nat.reduceAdd, intB_eql, intB_neq, intB_lss, intB_leq, intB_gtr, intB_geq, g0, hg, hgb] <;> rfl) ?_ | refine newP_mk ?_ | refine optP_mk ?_ | with_reducible first | refine condP_t ?_ | refine condP_f ?_ | refine ifP_tt' ?_ | refine ifP_ff' ?_ | refine ifP_tf' ?_ | refine ifP_ft' ?_ | refine ifP_u' ?_ | refine optP_mk0 ?_))
      have hj2 : ∀ (e : Env) (h2 : T Obj) (n2 : Nat), nx' ≤ n2 → e 1 = ptr nx → e 3 = .slice (some (own ob 1)) k0 k0 → e 4 = .int .i64 (b : Int) → Sub h h2 → Fr h2 n2 → h2.get nx = some (.cells (splitLI c k0).toArray y_api_Split) →
          h2.get ob = some (.cells (u8s ((List.range k0).map fun k => lb c k b)).toArray y_uint8) → split_First_j2 ro Q' e h2 n2 := by
        intro e h2 n2 hn2 e1 e3 e4 hs2 hf2 g0 g1
        unfold split_First_j2
        rw [e4]
        (repeat (first | refine bindP_mk (by simp (disch := first | omega | exact Int.natCast_nonneg _ | assumption) only [BB, B2, ↓reduceIte, Nat.reduceLeDiff, Nat.reduceAdd, intB_eql, intB_neq, intB_lss, intB_leq, intB_gtr, intB_geq] <;> rfl) ?_ | refine newP_mk ?_ | refine optP_mk ?_ | with_reducible first | refine condP_t ?_ | refine condP_f ?_ | refine ifP_tt' ?_ | refine ifP_ff' ?_ | refine ifP_tf' ?_ | refine ifP_ft' ?_ | refine ifP_u' ?_ | refine optP_mk0 ?_))
        exact hq b _ _ _ _ (by omega) ⟨b, rfl, by omega, by omega, e1, e3, rfl, hs2, hf2.mono (by omega), g0, g1⟩ (Sub.refl _)
      have hlb : ∀ k, lb c k b = if c[b] = k then b else lb c k (b + 1) := fun k => by rw [lb_step (by omega), hgd]
      by_cases hlt : c[b] < k0
      · refine condP_tr (by simp; omega) ?_
        (repeat (first | refine bindP_mk (by simp (disch := first | omega | exact Int.natCast_nonneg _ | assumption) only [BB, B2, ↓reduceIte, Nat.reduceLeDiff, Nat.reduceAdd, intB_eql, intB_neq, intB_lss, intB_leq, intB_gtr, intB_geq] <;> rfl) ?_ | refine newP_mk ?_ | refine optP_mk ?_ | with_reducible first | refine condP_t ?_ | refine condP_f ?_ | refine ifP_tt' ?_ | refine ifP_ff' ?_ | refine ifP_tf' ?_ | refine ifP_ft' ?_ | refine ifP_u' ?_ | refine optP_mk0 ?_))
        refine bindP_mk (ixSl_own _ hlt) ?_
        have hul : (u8s ((List.range k0).map fun k => lb c k (b + 1))).length = k0 := by rw [u8s_len, List.length_map, List.length_range]
        refine bindP_mk (store1_own g1 (by rw [hul]; omega) rfl rfl) ?_
        refine hj2 _ _ _ (by omega) e1 e3 e4 (hs.new hf (by omega)) ((hf'.mono (by omega)).upd (Nat.le_refl _) (by omega)) ?_ ?_
        · simp (disch := first | omega | exact Int.natCast_nonneg _ | assumption) only [BB, B2, ↓reduceIte, Nat.reduceLeDiff, Nat.reduceAdd, intB_eql, intB_neq, intB_lss, intB_leq, intB_gtr, intB_geq, g0]
        · rw [T.get_upd_same, Nat.mul_one, u8s_set]
          congr 4
          apply List.ext_getElem
          · simp
          · intro q h5 h6
            simp only [List.getElem_set, List.getElem_map, List.getElem_range, hlb]
      · refine condP_fa (by simp; omega) ?_
        refine hj2 _ _ _ (by omega) e1 e3 e4 hs (hf'.mono (by omega)) g0 ?_
        rw [g1]
        congr 4
        apply List.map_congr_left
        intro k hk
        have hk := List.mem_range.1 hk
        rw [hlb, if_neg (by omega)]
    · refine condP_fa (by simp; omega) ?_
      refine hx _ _ _ _ (fun e => by cases e) (exP_e (beqP_t ?_))
      have hi2 : i = 0 := by omega
      subst hi2
      unfold split_First_j1
      have f3 : ∀ a b, Env.put (Env.put e 17 a) 18 b 3 = .slice (some (own ob 1)) k0 k0 := fun a b => e3
      simp only [puts, f3]
      have hfz : firstZ c (k0 : Int) = (List.range k0).map fun k => lb c k 0 := by unfold firstZ; rw [if_neg (by omega)]; simp
      refine ⟨h', Sub.refl _, hK _ _ _ (by omega) hs (hf'.mono (by omega)) ?_⟩
      rw [hfz]
      refine .inr ⟨ob, by omega, by omega, ?_, by simp [bytesC], by rw [flat_bytesC]; exact g1⟩
      rw [bytesC_len, List.length_map, List.length_range]
  · exact hs0.new hf (by omega)
  · exact (hf0.mono (by omega)).upd (Nat.le_refl _) (by omega)
  · simp (disch := first | omega | exact Int.natCast_nonneg _ | assumption) only [BB, B2, ↓reduceIte, Nat.reduceLeDiff, Nat.reduceAdd, intB_eql, intB_neq, intB_lss, intB_leq, intB_gtr, intB_geq, g0]
  · rw [T.get_upd_same]
    congr 4
    apply List.ext_getElem
    · simp
    · intro q h5 h6
      simp [lb_end]
end V
end Go.Proofs.Ytmmdcdjkmakgpaa
set_option linter.unusedVariables false
set_option linter.unusedSimpArgs false
namespace Go.Proofs.Ytmmdcdjkmakgpaa
set_option maxRecDepth 20000
namespace V
open PA
theorem cls_getD {l : List Nat} {b : Nat} (hb : b < 256) : (cls l).getD b 0 = ix (sigs l) (sig l b) := by
  rw [List.getD_eq_getElem?_getD, cls_get hb]; rfl
theorem cls_many {l : List Nat} {b : Nat} (hb : b < 256) : (cls l).getD b 0 < many l := by rw [cls_getD hb]; exact cls_lt hb
theorem cls_bound {l : List Nat} : ∀ x ∈ cls l, x < 256 := by
  intro x hx
  obtain ⟨i, hi⟩ := List.mem_iff_getElem?.1 hx
  have hlt := (List.getElem?_eq_some_iff.1 hi).1
  rw [cls_length] at hlt
  rw [cls_get hlt] at hi
  have := cls_lt (l := l) hlt
  have := many_le l
  have := Option.some.inj hi
  omega
theorem cls_le_ahead {l : List Nat} {i : Nat} (hi : i < 256) : (cls l).getD i 0 ≤ (dd ((sigs l).take i)).length := by
  have hsl : i < (sigs l).length := by rw [sigs_length]; exact hi
  have hse : (sigs l)[i] = sig l i := by have := sigs_get (l := l) hi; rw [List.getElem?_eq_getElem hsl] at this; exact Option.some.inj this
  have htake : (sigs l).take (i + 1) = (sigs l).take i ++ [sig l i] := by rw [List.take_succ_eq_append_getElem hsl, hse]
  have h2 := idx_stable (l := (sigs l).take (i + 1)) (m := (sigs l).drop (i + 1)) (p := sig l i) (by rw [htake]; simp)
  rw [List.take_append_drop] at h2
  rw [cls_getD hi, h2]
  have h3 := idx_lt (l := (sigs l).take (i + 1)) (p := sig l i) (by rw [htake]; simp)
  have h4 : (dd ((sigs l).take (i + 1))).length ≤ (dd ((sigs l).take i)).length + 1 := by rw [htake, dd_append]; exact addN_length _ _
  omega
theorem many_pos (l : List Nat) : 0 < many l := by
  have := cls_many (l := l) (b := 0) (by omega)
  omega
theorem firstZ_cls (l : List Nat) : firstZ (cls l) (many l : Int) = (List.range (many l)).map fun k => lb (cls l) k 0 := by
  unfold firstZ
  have h1 := many_pos l
  have h2 := many_le l
  rw [if_neg (by omega)]; simp
theorem rt_cls (l : List Nat) : ∀ i, i ≤ 256 → rt (cls l) i = some (dd ((sigs l).take i)).length := by
  intro i
  induction i with
  | zero => intro _; rfl
  | succ i ih =>
    intro hi
    simp only [rt, ih (by omega), Option.bind_some]
    have h1 := cls_le_ahead (l := l) (i := i) (by omega)
    rw [if_neg (by omega)]
    have hsl : i < (sigs l).length := by rw [sigs_length]; omega
    have hse : (sigs l)[i] = sig l i := by have := sigs_get (l := l) (b := i) (by omega); rw [List.getElem?_eq_getElem hsl] at this; exact Option.some.inj this
    have htake : (sigs l).take (i + 1) = (sigs l).take i ++ [sig l i] := by rw [List.take_succ_eq_append_getElem hsl, hse]
    rw [htake, dd_append]
    by_cases hm : sig l i ∈ dd ((sigs l).take i)
    · have h2 : (cls l).getD i 0 < (dd ((sigs l).take i)).length := by
        have h4 := idx_stable (l := (sigs l).take i) (m := (sigs l).drop i) (p := sig l i) (mem_dd.1 hm)
        rw [List.take_append_drop] at h4
        rw [cls_getD (by omega), h4]
        exact idx_lt (mem_dd.1 hm)
      rw [if_neg (by omega)]
      unfold addN; rw [if_pos hm]
    · have h2 : (cls l).getD i 0 = (dd ((sigs l).take i)).length := by
        have h4 := idx_stable (l := (sigs l).take (i + 1)) (m := (sigs l).drop (i + 1)) (p := sig l i) (by rw [htake]; simp)
        rw [List.take_append_drop] at h4
        rw [cls_getD (by omega), h4, htake, ix_new hm]
      rw [if_pos h2]
      unfold addN; rw [if_neg hm]; simp
theorem right_cls (l : List Nat) : rightB (cls l) (many l : Int) = true := by
  unfold rightB
  rw [rt_cls l 256 (Nat.le_refl _), List.take_of_length_le (by rw [sigs_length]; omega)]
  simp [many]
end V
end Go.Proofs.Ytmmdcdjkmakgpaa
set_option linter.unusedVariables false
set_option linter.unusedSimpArgs false
namespace Go.Proofs.Ytmmdcdjkmakgpaa
namespace V
open PA
attribute [local irreducible] bindP ifP condP newP optP exP beqP
theorem build_bld (a b : Value) (i1 i4 i5 i6 : Nat) : buildV Try.prog y_auto_builder [(0, .agg #[a, b]), (1, .map (some i1)), (4, .map (some i4)), (5, .map (some i5)), (6, .map (some i6))] = some (.agg (bldL a b (.map (some i1)) nilS (List.replicate 256 0) 0 nilS nilS (.map (some i4)) (.map (some i5)) (.map (some i6))).toArray) := by kernel_rfl
theorem lit_Set (aid x : Nat) : sliceLitV Try.prog y_s_api_Set aid 1 [(0, setV x)] = some (.slice (some (own aid 4)) 1 1, some (.cells (setL x).toArray y_api_Set)) := by kernel_rfl
theorem und_sSet : und Try.prog y_s_api_Set = some (.slice y_api_Set) := by kernel_rfl
theorem tin_Set : ∃ i, tin Try.prog y_api_Set = some i ∧ i.size = 4 ∧ i.bytes = 32 := tinOf (by kernel_rfl)
theorem app_Set {ro : Ro} {h : T Obj} {v : Value} {nx n1 n2 lo : Nat} {l : List Nat} {m : Nat} {K : Value × Option Obj → T Obj → Value × T Obj × Nat → Prop} (ho : OwnT h v 4 y_api_Set (setsC l) lo) (hl : l.length ≤ 1000000) (hf : Fr h nx) (hlo : lo ≤ nx) (hn1 : nx ≤ n1) (hn2 : n1 < n2)
    (hK : ∀ h' w, OwnT h' w 4 y_api_Set (setsC (l ++ [m])) lo → Kp v h h' → Fr h' (n2 + 1) → K (.slice (some (own n1 4)) 1 1, some (.cells (setL m).toArray y_api_Set)) (h.upd n1 (some (.cells (setL m).toArray y_api_Set))) (w, h', n2 + 1)) :
    bindP (sliceLitV Try.prog y_s_api_Set n1 1 [(0, setV m)]) fun r => optP h n1 r.2 fun h' => bindP (appendV Try.prog ro h' n2 #[y_s_api_Set, y_s_api_Set] [v, r.1]) (K r h') := by
  obtain ⟨i, g1, g2, g3⟩ := tin_Set
  have e : setsC l ++ [setL m] = setsC (l ++ [m]) := by simp [setsC]
  have el := setsC_len l
  refine append_lit (z := 4) (l := setsC l) (y := setL m) (lit_Set _ _) rfl ho und_sSet g1 g2 (by omega) zer_Set rfl rfl (by rw [el, g3]; unfold big; omega) (by rw [el]; unfold big; omega) hf hlo hn1 hn2 fun h' q1 q2 q3 => ?_
  rw [e] at q1 ⊢
  exact hK h' _ q1 q2 q3
def cntC (l : List (Int × Int)) : List (List Value) := l.map fun p => [Value.int .i64 p.1, Value.int .i64 p.2]
theorem cntC_len (l : List (Int × Int)) : (cntC l).length = l.length := by simp [cntC]
theorem lit_cnt (aid : Nat) (a b : Value) : sliceLitV Try.prog y_s_a2_int aid 1 [(0, .agg #[a, b])] = some (.slice (some (own aid 2)) 1 1, some (.cells [a, b].toArray y_a2_int)) := by kernel_rfl
theorem build_cnt (a b : Int) : buildV Try.prog y_a2_int [(0, .int .i64 a), (1, .int .i64 b)] = some (.agg #[.int .i64 a, .int .i64 b]) := by kernel_rfl
theorem und_scnt : und Try.prog y_s_a2_int = some (.slice y_a2_int) := by kernel_rfl
theorem tin_cnt : ∃ i, tin Try.prog y_a2_int = some i ∧ i.size = 2 ∧ i.bytes = 16 := tinOf (by kernel_rfl)
theorem zer_cnt : zer Try.prog y_a2_int = some (.agg #[.int .i64 0, .int .i64 0]) := by kernel_rfl
theorem app_cnt {ro : Ro} {h : T Obj} {v : Value} {nx n1 n2 lo : Nat} {l : List (Int × Int)} {a b : Int} {K : Value × Option Obj → T Obj → Value × T Obj × Nat → Prop} (ho : OwnT h v 2 y_a2_int (cntC l) lo) (hl : l.length ≤ 1000000) (hf : Fr h nx) (hlo : lo ≤ nx) (hn1 : nx ≤ n1) (hn2 : n1 < n2)
    (hK : ∀ h' w, OwnT h' w 2 y_a2_int (cntC (l ++ [(a, b)])) lo → Kp v h h' → Fr h' (n2 + 1) → K (.slice (some (own n1 2)) 1 1, some (.cells [Value.int .i64 a, Value.int .i64 b].toArray y_a2_int)) (h.upd n1 (some (.cells [Value.int .i64 a, Value.int .i64 b].toArray y_a2_int))) (w, h', n2 + 1)) :
    bindP (sliceLitV Try.prog y_s_a2_int n1 1 [(0, .agg #[.int .i64 a, .int .i64 b])]) fun r => optP h n1 r.2 fun h' => bindP (appendV Try.prog ro h' n2 #[y_s_a2_int, y_s_a2_int] [v, r.1]) (K r h') := by
  obtain ⟨i, g1, g2, g3⟩ := tin_cnt
  have e : cntC l ++ [[Value.int .i64 a, Value.int .i64 b]] = cntC (l ++ [(a, b)]) := by simp [cntC]
  have el := cntC_len l
  refine append_lit (z := 2) (l := cntC l) (y := [.int .i64 a, .int .i64 b]) (lit_cnt _ _ _) rfl ho und_scnt g1 g2 (by omega) zer_cnt rfl rfl (by rw [el, g3]; unfold big; omega) (by rw [el]; unfold big; omega) hf hlo hn1 hn2 fun h' q1 q2 q3 => ?_
  rw [e] at q1 ⊢
  exact hK h' _ q1 q2 q3
theorem cntsL_snoc (l : List PosD) (p : PosD) : cntsL (l ++ [p]) = if 1 < p.hi then cntsL l ++ [(p.lo, p.hi)] else cntsL l := by
  unfold cntsL
  rw [List.filter_append]
  by_cases h : 1 < p.hi
  · rw [if_pos h, List.filter_cons_of_pos (by unfold ctdP; exact decide_eq_true h)]; simp
  · rw [if_neg h, List.filter_cons_of_neg (by unfold ctdP; simpa using h)]; simp
theorem numZ_cnts {g : GlD} (k : Nat) : numZ g (k : Int) = ((cntsL (g.p.take k)).length : Nat) := by
  unfold numZ cntsL
  rw [Int.toNat_natCast, List.length_map]
theorem cntsL_len (l : List PosD) : (cntsL l).length ≤ l.length := by
  unfold cntsL
  rw [List.length_map]; exact List.length_filter_le _ _
section
variable {ro : Ro} {g : GlD} {bid nid rid gid : Nat} {av bv : Value}
set_option maxRecDepth 8000 in
set_option maxHeartbeats 1000000 in
theorem Of_L3_c {kid eid yid : Nat} {e : Env} (hr : rightD g = true) {h : T Obj} {nx : Nat} {Q : KE} (hf : Fr h nx) (hP : SlR ro (del h [bid, nid]) bv 9 (RPos ro (del h [bid, nid])) g.p)
    (hb : h.get bid = some (.cells (bldL av bv (.map (some nid)) nilS (List.replicate 256 0) 0 nilS nilS (.map (some kid)) (.map (some eid)) (.map (some yid))).toArray y_auto_builder)) (hn : h.get nid = some (.map #[] 0))
    (e1 : e 1 = ptr gid) (e2 : e 2 = ptr rid) (e4 : e 4 = ptr bid) (e5 : e 5 = nilS) (e23 : e 23 = bv) (e24 : e 24 = .int .i64 g.p.length) (e25 : e 25 = .int .i64 0)
    (hQ : ∀ e' h' nx' sv cv f, nx ≤ nx' → Fr h' nx' → Keep [bid, nid] h h' → h'.get bid = some (.cells (bldL av bv (.map (some nid)) nilS (List.replicate 256 0) 0 cv nilS (.map (some kid)) (.map (some eid)) (.map (some yid))).toArray y_auto_builder) → MapG injI h' nid f → NOk g f → OwnT h' sv 4 y_api_Set (setsC (setsL g.p)) nx → OwnT h' cv 2 y_a2_int (cntC (cntsL g.p)) nx →
      e' 2 = ptr rid → e' 4 = ptr bid → e' 5 = sv → Q (.exit 0) e' h' nx') :
    loopP (auto_Of_L3 ro) e h nx Q := by
  obtain ⟨hgl, hfr, hmay⟩ := right_parts hr
  have hbl := hf.lt' hb
  have hnl := hf.lt' hn
  have hbn : bid ≠ nid := by rintro rfl; rw [hb] at hn; cases hn
  refine loopP_rule (fun j e h' nx' => ∃ (k : Nat) (cv : Value) (f : Int → Option Value), k + j = g.p.length ∧ nx ≤ nx' ∧ Fr h' nx' ∧ Keep [bid, nid] h h' ∧ h'.get bid = some (.cells (bldL av bv (.map (some nid)) nilS (List.replicate 256 0) 0 cv nilS (.map (some kid)) (.map (some eid)) (.map (some yid))).toArray y_auto_builder) ∧
    MapG injI h' nid f ∧ (∀ q, 0 ≤ q → f q = if (decide (q < k) && ctd g q) = true then some (.int .i64 (numZ g q)) else none) ∧ OwnT h' (e 5) 4 y_api_Set (setsC (setsL (g.p.take k))) nx ∧ OwnT h' cv 2 y_a2_int (cntC (cntsL (g.p.take k))) nx ∧
    e 1 = ptr gid ∧ e 2 = ptr rid ∧ e 4 = ptr bid ∧ e 23 = bv ∧ e 24 = .int .i64 g.p.length ∧ e 25 = .int .i64 k) ?_ (n := g.p.length)
    ⟨0, nilS, fun _ => none, by omega, by omega, hf, (Sub.refl h).keepL, hb, MapG.new hn, fun q hq => by rw [decide_eq_false (by omega)]; rfl, by rw [e5]; exact OwnT.nil, OwnT.nil, e1, e2, e4, e23, e24, e25⟩
  rintro j e' h' nx' ⟨k, cv, f, hj, hnx, hf', hkp, hb', hm', hfo, hsv, hcv, f1, f2, f4, f23, f24, f25⟩ Q' hq hx
  unfold auto_Of_L3
  rw [f4, f23, f24, f25]
  have hsub : Sub (del h [bid, nid]) h' := hkp.delS fun _ h => h
  refine lss_s (fun hk => ?_) (fun hk => ?_)
  · have hk : k < g.p.length := by omega
    have hP' : SlR ro h' bv 9 (RPos ro h') g.p := hP.sub hsub (RPos.sub hsub)
    obtain ⟨x, ⟨nv, rfl, y1, y2⟩, x2, x3, x4, x5⟩ := hP'.at hk
    have hat := at_nat hk
    have htk : g.p.take (k + 1) = g.p.take k ++ [g.p[k]] := List.take_succ_eq_append_getElem hk
    have hcd : ctd g (k : Int) = decide (1 < g.p[k].hi) := by unfold ctd; rw [hat]
    have hnum := numZ_cnts (g := g) k
    have hst : setsL (g.p.take (k + 1)) = setsL (g.p.take k) ++ [g.p[k].s] := by rw [htk]; unfold setsL; rw [List.map_append]; rfl
    have hct := cntsL_snoc (g.p.take k) g.p[k]
    rw [← htk] at hct
    have hsl : (setsL (g.p.take k)).length ≤ 512 := by unfold setsL; rw [List.length_map, List.length_take]; omega
    have hcl : (cntsL (g.p.take k)).length ≤ 512 := by have := cntsL_len (g.p.take k); rw [List.length_take] at this; omega
    -- the end of a round
    have hj4 : ∀ (e : Env) (h4 : T Obj) (n4 : Nat) (cv' : Value) (f' : Int → Option Value), nx' ≤ n4 → Fr h4 n4 → Keep [bid, nid] h h4 → h4.get bid = some (.cells (bldL av bv (.map (some nid)) nilS (List.replicate 256 0) 0 cv' nilS (.map (some kid)) (.map (some eid)) (.map (some yid))).toArray y_auto_builder) →
        MapG injI h4 nid f' → (∀ q, 0 ≤ q → f' q = if (decide (q < ((k + 1 : Nat) : Int)) && ctd g q) = true then some (.int .i64 (numZ g q)) else none) → OwnT h4 (e 5) 4 y_api_Set (setsC (setsL (g.p.take (k + 1)))) nx → OwnT h4 cv' 2 y_a2_int (cntC (cntsL (g.p.take (k + 1)))) nx →
        e 1 = ptr gid → e 2 = ptr rid → e 4 = ptr bid → e 23 = bv → e 24 = .int .i64 g.p.length → e 25 = .int .i64 k → auto_Of_j4 ro Q' e h4 n4 := by
      intro e h4 n4 cv' f' hn4 s1 s2 s3 s4 s5 s6 s7 f1 f2 f4 f23 f24 f25
      unfold auto_Of_j4
      rw [f25]
      (repeat (first | refine bindP_mk (by simp (disch := first | omega | exact Int.natCast_nonneg _ | assumption) only [BB, B2, ↓reduceIte, Nat.reduceLeDiff, Nat.reduceAdd, CC] <;> rfl) ?_ | refine newP_mk ?_ | refine optP_mk ?_ | with_reducible first | refine condP_t ?_ | refine condP_f ?_ | refine ifP_tt' ?_ | refine ifP_ff' ?_ | refine ifP_tf' ?_ | refine ifP_ft' ?_ | refine ifP_u' ?_ | refine optP_mk0 ?_))
      exact hq (j - 1) _ _ _ _ (by omega) ⟨k + 1, cv', f', by omega, by omega, s1.mono (by omega), s2, s3, s4, s5, s6, s7, f1, f2, f4, f23, f24, rfl⟩ (Sub.refl _)
    refine condP_t (bindP_mk (hP'.ix _ hk) (bindP_mk x3 ?_))
    refine local_mk zer_PosZ rfl (x := posL g.p[k] nv) rfl rfl (posL_ok y1.ok) hf' (show nx' ≤ nx' + 4 by omega) fun h3 hs3 hf3 g3 _ => ?_
    have hld : loadA ro h3 4 (at_ (nx' + 4) 0 0) = some (setV g.p[k].s) := by
      rw [loadA_own, g3, cellsIn_some]
      simp only [Option.bind_some, tl]
      rw [if_pos (by show 0 + 4 ≤ 9; omega)]; rfl
    (repeat (first | refine bindP_mk (by simp (disch := first | omega | exact Int.natCast_nonneg _ | assumption) only [BB, B2, ↓reduceIte, Nat.reduceLeDiff, Nat.reduceAdd, CC, hld] <;> rfl) ?_ | refine newP_mk ?_ | refine optP_mk ?_ | with_reducible first | refine condP_t ?_ | refine condP_f ?_ | refine ifP_tt' ?_ | refine ifP_ff' ?_ | refine ifP_tf' ?_ | refine ifP_ft' ?_ | refine ifP_u' ?_ | refine optP_mk0 ?_))
    refine app_Set (hsv.keepS hs3) (by omega) (hf3.mono (show nx' + 4 + 1 ≤ nx' + 10 by omega)) (by omega) (by omega) (by omega) fun h4 w q1 q2 q3 => ?_
    dsimp only
    have hsv3 := hsv.keepS hs3
    have hne : ∀ i o, h3.get i = some o → (∀ c f, o ≠ .cells c y_api_Set f) → h4.get i = some o := fun i o hi hty => q2 i o hi (hsv3.neB hi hty)
    have hb4 := hne _ _ (hs3 _ _ hb') (by intro c f e; simp only [Obj.cells.injEq] at e; exact absurd e.2.1 (by decide))
    have g4 := hne _ _ g3 (by intro c f e; simp only [Obj.cells.injEq] at e; exact absurd e.2.1 (by decide))
    have hm4 : MapG injI h4 nid f := by
      obtain ⟨es, c9, ps, a1, a2, a3⟩ := hm'
      exact ⟨es, c9, ps, hne _ _ (hs3 _ _ a1) (by intro c f e; cases e), a2, a3⟩
    have hk4 : Keep [bid, nid] h h4 := fun i o hi hn9 => by
      have := hf.lt' hi
      refine q2 i o (hs3 _ _ (hkp i o hi hn9)) fun e => ?_
      have := (hsv3.blk e).1
      omega
    have hcv4 : OwnT h4 cv 2 y_a2_int (cntC (cntsL (g.p.take k))) nx := (hcv.keepS hs3).keep q2 fun id hid => by
      obtain ⟨_, z⟩ := (hcv.keepS hs3).blk hid
      exact hsv3.neB z (by intro c f e; simp only [Obj.cells.injEq] at e; exact absurd e.2.1 (by decide))
    rw [← hst] at q1
    have p5 : (posL g.p[k] nv)[5]? = some (.int .i64 g.p[k].hi) := rfl
    have p4 : (posL g.p[k] nv)[4]? = some (.int .i64 g.p[k].lo) := rfl
    (repeat (first | refine bindP_mk (by simp (disch := first | omega | exact Int.natCast_nonneg _ | assumption) only [BB, B2, ↓reduceIte, Nat.reduceLeDiff, Nat.reduceAdd, CC, g4, p5] <;> rfl) ?_ | refine newP_mk ?_ | refine optP_mk ?_ | with_reducible first | refine condP_t ?_ | refine condP_f ?_ | refine ifP_tt' ?_ | refine ifP_ff' ?_ | refine ifP_tf' ?_ | refine ifP_ft' ?_ | refine ifP_u' ?_ | refine optP_mk0 ?_))
    refine gtr_s (fun u1 => ?_) (fun u1 => ?_)
    · rw [if_pos u1] at hct
      rw [decide_eq_true u1] at hcd
      have b2 := bldL_2 (av := av) (bv := bv) (nv := .map (some nid)) (fv := nilS) (c := List.replicate 256 0) (n := 0) (cv := cv) (sv := nilS) (kv := .map (some kid)) (ev := .map (some eid)) (yv := .map (some yid))
      have b261 := bldL_261 (av := av) (bv := bv) (nv := .map (some nid)) (fv := nilS) (c := List.replicate 256 0) (n := 0) (cv := cv) (sv := nilS) (kv := .map (some kid)) (ev := .map (some eid)) (yv := .map (some yid)) List.length_replicate
      have hcn := (hcv4.sl (ro := ro)).len
      rw [cntC_len] at hcn
      obtain ⟨es, ec, r1, r2⟩ := put_ii hm4 (k : Int) (.int .i64 (cntsL (g.p.take k)).length)
      (repeat (first | refine bindP_mk (by simp (disch := first | omega | exact Int.natCast_nonneg _ | assumption) only [BB, B2, ↓reduceIte, Nat.reduceLeDiff, Nat.reduceAdd, CC, nilCk_at, hb4, b2, b261, hcn, r1] <;> rfl) ?_ | refine newP_mk ?_ | refine optP_mk ?_ | with_reducible first | refine condP_t ?_ | refine condP_f ?_ | refine ifP_tt' ?_ | refine ifP_ff' ?_ | refine ifP_tf' ?_ | refine ifP_ft' ?_ | refine ifP_u' ?_ | refine optP_mk0 ?_))
      have hb5 : (h4.upd nid (some (.map es ec))).get bid = _ := (T.get_upd_ne _ _ hbn).trans hb4
      have hm5 := r2 (h4.upd nid (some (.map es ec))) (by rw [T.get_upd_same])
      have hnn : ∀ {v : Value} {z lo : Nat} {e : TypeId} {l : List (List Value)}, OwnT h4 v z e l lo → OwnT (h4.upd nid (some (.map es ec))) v z e l lo := fun ho => by
        rcases ho with ho | ⟨id, o1, rfl, o4, o5⟩
        · exact .inl ho
        · refine .inr ⟨id, o1, rfl, o4, ?_⟩
          rw [T.get_upd_ne _ _ (by rintro rfl; obtain ⟨_, _, q⟩ := hm4.obj; rw [q] at o5; cases o5)]; exact o5
      have hcv5 := hnn hcv4
      have hsv5 := hnn q1
      have g5 : (h4.upd nid (some (.map es ec))).get (nx' + 4) = _ := (T.get_upd_ne _ _ (by omega)).trans g4
      have hk5 : Keep [bid, nid] h (h4.upd nid (some (.map es ec))) := hk4.upd (by simp)
      have hf5 : Fr (h4.upd nid (some (.map es ec))) (nx' + 12 + 1) := q3.upd (Nat.le_refl _) (by omega)
      have hn5 : (h4.upd nid (some (.map es ec))).get nid = some (.map es ec) := T.get_upd_same _ _ _
      generalize h4.upd nid (some (.map es ec)) = h5 at hb5 hm5 hcv5 hsv5 g5 hk5 hf5 hn5
      (repeat (first | refine bindP_mk (by simp (disch := first | omega | exact Int.natCast_nonneg _ | assumption) only [BB, B2, ↓reduceIte, Nat.reduceLeDiff, Nat.reduceAdd, CC, nilCk_at, hb5, b261, g5, p4, p5] <;> rfl) ?_ | refine newP_mk ?_ | refine optP_mk ?_ | with_reducible first | refine condP_t ?_ | refine condP_f ?_ | refine ifP_tt' ?_ | refine ifP_ff' ?_ | refine ifP_tf' ?_ | refine ifP_ft' ?_ | refine ifP_u' ?_ | refine optP_mk0 ?_))
      refine bindP_mk (build_cnt _ _) ?_
      refine app_cnt hcv5 (by omega) (hf5.mono (show nx' + 12 + 1 ≤ nx' + 12 + 1 + 27 by omega)) (by omega) (by omega) (by omega) fun h6 w6 s1 s2 s3 => ?_
      dsimp only
      rw [← hct] at s1
      have hne6 : ∀ i o, h5.get i = some o → (∀ c f, o ≠ .cells c y_a2_int f) → h6.get i = some o := fun i o hi hty => s2 i o hi (hcv5.neB hi hty)
      have hb6 := hne6 _ _ hb5 (by intro c f e; simp only [Obj.cells.injEq] at e; exact absurd e.2.1 (by decide))
      have hn6 := hne6 _ _ hn5 (by intro c f e; cases e)
      have hm6 : MapG injI h6 nid fun b => if b = (k : Int) then some (.int .i64 ((cntsL (g.p.take k)).length : Nat)) else f b := hm5.keep (by rw [hn6, hn5])
      have hsv6 : OwnT h6 w 4 y_api_Set (setsC (setsL (g.p.take (k + 1)))) nx := hsv5.keep s2 fun id hid => by
        obtain ⟨_, z⟩ := hsv5.blk hid
        exact hcv5.neB z (by intro c f e; simp only [Obj.cells.injEq] at e; exact absurd e.2.1 (by decide))
      have hwok := s1.ok
      (repeat (first | refine bindP_mk (by simp (disch := first | omega | exact Int.natCast_nonneg _ | assumption) only [BB, B2, ↓reduceIte, Nat.reduceLeDiff, Nat.reduceAdd, CC, nilCk_at] <;> rfl) ?_ | refine newP_mk ?_ | refine optP_mk ?_ | with_reducible first | refine condP_t ?_ | refine condP_f ?_ | refine ifP_tt' ?_ | refine ifP_ff' ?_ | refine ifP_tf' ?_ | refine ifP_ft' ?_ | refine ifP_u' ?_ | refine optP_mk0 ?_))
      refine bindP_mk (store1_own (l := bldL av bv (.map (some nid)) nilS (List.replicate 256 0) 0 cv nilS (.map (some kid)) (.map (some eid)) (.map (some yid))) hb6 (by rw [bldL_len List.length_replicate]; omega) hwok (cells_of_ok hwok)) ?_
      rw [bldL_set261 List.length_replicate]
      refine hj4 _ _ _ w6 _ (by omega) ((s3.mono (show _ ≤ nx' + 12 + 1 + 33 + 1 by omega)).upd (Nat.le_refl _) (by omega)) ?_ (by rw [T.get_upd_same]) (hm6.keep (T.get_upd_ne _ _ hbn.symm)) ?_ ?_ ?_ f1 f2 f4 f23 f24 f25
      · refine Keep.upd (fun i o hi hn9 => ?_) (by simp)
        have := hf.lt' hi
        refine s2 i o (hk5 i o hi hn9) fun e => ?_
        have := (hcv5.blk e).1
        omega
      · intro q hq9
        show (if q = (k : Int) then _ else f q) = _
        by_cases hqk : q = (k : Int)
        · subst hqk
          rw [if_pos rfl, decide_eq_true (by omega), Bool.true_and, hcd, if_pos rfl, hnum]
        · rw [if_neg hqk, hfo q hq9]
          have : decide (q < ((k + 1 : Nat) : Int)) = decide (q < (k : Int)) := by
            rw [decide_eq_decide]; omega
          rw [this]
      · exact hsv6.updNe hb6 (by decide)
      · exact s1.updNe hb6 (by decide)
    · rw [if_neg (by omega)] at hct
      rw [decide_eq_false (by omega)] at hcd
      (repeat (first | refine bindP_mk (by simp (disch := first | omega | exact Int.natCast_nonneg _ | assumption) only [BB, B2, ↓reduceIte, Nat.reduceLeDiff, Nat.reduceAdd, CC] <;> rfl) ?_ | refine newP_mk ?_ | refine optP_mk ?_ | with_reducible first | refine condP_t ?_ | refine condP_f ?_ | refine ifP_tt' ?_ | refine ifP_ff' ?_ | refine ifP_tf' ?_ | refine ifP_ft' ?_ | refine ifP_u' ?_ | refine optP_mk0 ?_))
      refine hj4 _ _ _ cv f (by omega) (q3.mono (by omega)) hk4 hb4 hm4 ?_ q1 (by rw [hct]; exact hcv4) f1 f2 f4 f23 f24 f25
      intro q hq9
      rw [hfo q hq9]
      by_cases hqk : q = (k : Int)
      · subst hqk
        rw [hcd, Bool.and_false, Bool.and_false]
      · have : decide (q < ((k + 1 : Nat) : Int)) = decide (q < (k : Int)) := by
          rw [decide_eq_decide]; omega
        rw [this]
  · have hkl : k = g.p.length := by omega
    subst hkl
    rw [List.take_length] at hsv hcv
    refine condP_f (hx _ _ _ _ (fun e => by cases e) ?_)
    refine hQ _ _ _ _ cv f (by omega) (hf'.mono (by omega)) hkp hb' hm' (fun q hq9 => ?_) hsv hcv f2 f4 rfl
    rw [hfo q hq9]
    by_cases hqk : q < (g.p.length : Int)
    · rw [decide_eq_true hqk, Bool.true_and]
    · have : ctd g q = false := by
        unfold ctd GlD.at
        rw [List.getD_eq_getElem?_getD, List.getElem?_eq_none (by omega)]
        rfl
      rw [decide_eq_false hqk, this]; rfl
end
end V
end Go.Proofs.Ytmmdcdjkmakgpaa
set_option linter.unusedVariables false
set_option linter.unusedSimpArgs false
namespace Go.Proofs.Ytmmdcdjkmakgpaa
namespace V
open PA
attribute [local irreducible] bindP ifP condP newP optP exP beqP
def autD0 : AutoD := ⟨List.replicate 256 0, 0, [], []⟩
def ofB (g : GlD) : List Nat := firstZ (cls (setsL g.p)) (many (setsL g.p) : Int)
def ofD (g : GlD) (S : List StateD) : AutoD := ⟨cls (setsL g.p), (many (setsL g.p) : Int), cntsL g.p, S⟩
def ofZ (g : GlD) : Int × AutoD := if rightD g = true then (if (allZ g (ofB g) 256 0 [noS]).1 = 0 then (0, ofD g (allZ g (ofB g) 256 0 [noS]).2) else ((allZ g (ofB g) 256 0 [noS]).1, autD0)) else (1, autD0)
theorem Sub.delN {h h' : T Obj} {ids : List Nat} {n : Nat} (hs : Sub h h') (hf : Fr h n) (hi : ∀ i ∈ ids, n ≤ i) : Sub h (V.del h' ids) := fun k o hk => del_some (hs k o hk) fun hm => by
  have := hf.lt' hk
  have := hi k hm
  omega
theorem autD0_R {ro : Ro} {h : T Obj} : RAuto ro h autZ autD0 := ⟨nilS, nilS, rfl, List.length_replicate, fun x hx => by
  have := List.eq_of_mem_replicate hx
  omega, SlR.nil, SlR.nil, Nat.zero_le _, Nat.zero_le _⟩
theorem build_State0 : buildV Try.prog y_api_State [] = some (.agg #[nilS, nilS, nilS, nilS]) := by kernel_rfl
section
variable {av bv nv fv : Value} {c c' : List Nat} {n n' : Int} {cv sv kv ev yv : Value}
theorem bldL_drop4 : (bldL av bv nv fv c n cv sv kv ev yv).drop 4 = splitLI c n ++ [cv, sv, kv, ev, yv] := by
  show autL c n cv sv ++ [kv, ev, yv] = _
  unfold autL
  rw [List.append_assoc]; rfl
theorem bldL_over4 (hc : c.length = 256) (hc' : c'.length = 256) : over (bldL av bv nv fv c n cv sv kv ev yv) 4 (splitLI c' n') = bldL av bv nv fv c' n' cv sv kv ev yv := by
  unfold over
  rw [← List.drop_drop, bldL_drop4, splitLI_len hc', show 257 = (splitLI c n).length from (splitLI_len hc).symm, List.drop_left]
  show [av, bv, nv, fv] ++ splitLI c' n' ++ [cv, sv, kv, ev, yv] = _
  unfold bldL autL
  simp
theorem store_split {h : T Obj} {bid : Nat} {e : TypeId} {f : Nat × Nat} (hc : c.length = 256) (hc' : c'.length = 256) (hg : h.get bid = some (.cells (bldL av bv nv fv c n cv sv kv ev yv).toArray e f)) : storeN 257 h (at_ bid 4 0) (splitI c' n') = some (h.upd bid (some (.cells (bldL av bv nv fv c' n' cv sv kv ev yv).toArray e f))) := by
  rw [storeN_own, splitI_cells, hg]
  have h1 := splitLI_len (n := n') hc'
  have h2 := bldL_len (av := av) (bv := bv) (nv := nv) (fv := fv) (n := n) (cv := cv) (sv := sv) (kv := kv) (ev := ev) (yv := yv) hc
  rw [if_pos (by rw [ts]; exact h1), putIn_cells (by rw [tl, ts, h1, h2]; omega) (by rw [tl]; exact splitLI_ok _ _)]
  rw [tl, tl, bldL_over4 hc hc']; rfl
theorem load_split {ro : Ro} {h : T Obj} {bid : Nat} {e : TypeId} {f : Nat × Nat} (hc : c.length = 256) (hg : h.get bid = some (.cells (bldL av bv nv fv c n cv sv kv ev yv).toArray e f)) : loadA ro h 257 (at_ bid 4 0) = some (splitI c n) := by
  rw [loadA_own, hg, cellsIn_some]
  simp only [Option.bind_some, tl]
  rw [if_pos (by rw [bldL_len hc]; omega), bldL_drop4, List.take_append_of_le_length (by rw [splitLI_len hc]; omega), List.take_of_length_le (by rw [splitLI_len hc]; omega)]
  rfl
theorem load_auto {ro : Ro} {h : T Obj} {bid : Nat} {e : TypeId} {f : Nat × Nat} (hc : c.length = 256) (hg : h.get bid = some (.cells (bldL av bv nv fv c n cv sv kv ev yv).toArray e f)) : loadA ro h 259 (at_ bid 4 0) = some (.agg (autL c n cv sv).toArray) := by
  rw [loadA_own, hg, cellsIn_some]
  simp only [Option.bind_some, tl]
  rw [if_pos (by rw [bldL_len hc]; omega)]
  have : (bldL av bv nv fv c n cv sv kv ev yv).drop 4 = autL c n cv sv ++ [kv, ev, yv] := rfl
  rw [this, List.take_append_of_le_length (by rw [autL_len hc]; omega), List.take_of_length_le (by rw [autL_len hc]; omega)]
end
theorem cnt_R {ro : Ro} {h : T Obj} {v : Value} {l : List (Int × Int)} {lo : Nat} (ho : OwnT h v 2 y_a2_int (cntC l) lo) : SlR ro h v 2 RCount l := ⟨cntC l, ho.sl, cntC_len l, fun i x d hx hd => by
  unfold cntC at hx
  rw [List.getElem?_map, hd] at hx
  exact (Option.some.inj hx).symm⟩
theorem first_lt {c : List Nat} {n : Int} : ∀ b ∈ firstZ c n, b < 256 := by
  intro b hb
  unfold firstZ at hb
  split at hb
  · cases hb
  · obtain ⟨k, _, rfl⟩ := List.mem_map.1 hb
    unfold lb
    cases hq : (List.range' 0 (256 - 0)).find? fun b => decide (c.getD b 0 = k) with
    | none => simp
    | some q =>
      have := List.mem_of_find?_eq_some hq
      simp [List.mem_range'] at this
      simp; omega
theorem first_len {c : List Nat} {n : Int} : (firstZ c n).length ≤ 256 := by
  unfold firstZ
  split
  · simp
  · rw [List.length_map, List.length_range]; omega
theorem first_R {ro : Ro} {h : T Obj} {v : Value} {l : List Nat} {lo : Nat} (ho : OwnT h v 1 y_uint8 (bytesC l) lo) (hl : ∀ b ∈ l, b < 256) : SlR ro h v 1 RU8 l := ⟨bytesC l, ho.sl, bytesC_len l, fun i x d hx hd => by
  unfold bytesC at hx
  rw [List.getElem?_map, hd] at hx
  exact ⟨(Option.some.inj hx).symm, hl d (List.mem_of_getElem? hd)⟩⟩
theorem Own.toT {h : T Obj} {v : Value} {z : Nat} {e : TypeId} {l : List (List Value)} {lo hi : Nat} (ho : Own h v z e l lo hi) : OwnT h v z e l lo := by
  rcases ho with ho | ⟨id, h1, h2, h3, h4, h5⟩
  · exact .inl ho
  · exact .inr ⟨id, h1, h3, h4, h5⟩
set_option maxRecDepth 8000 in
set_option maxHeartbeats 2000000 in
theorem auto_Of_c {ro : Ro} {v : Value} {g : GlD} {h : T Obj} {nx : Nat} {K : KV} (hf : Fr h nx) (hg : RG ro h v g)
    (hK : ∀ h' nx' x, nx ≤ nx' → Sub h h' → Fr h' nx' → RAuto ro h' x (ofZ g).2 → K (.tuple #[.agg x.toArray, .int .i64 (ofZ g).1]) h' nx') : callP Try.prog ro i_auto_Of [v] h nx K := by
  obtain ⟨a, b, rfl, ha, hb⟩ := hg
  apply auto_Of_of
  unfold auto_Of
  refine param_mk hf (Nat.le_refl _) fun h1 hs1 hf1 g1 _ => ?_
  have g1 : h1.get nx = some (.cells [a, b].toArray y_api_Glush) := g1
  refine bindP_mk zer_Auto (obj_mk hf1 (Nat.le_refl _) fun h2 hs2 hf2 g2 _ => ?_)
  have g2 : h2.get (nx + 1) = some (.cells autZ.toArray y_api_Auto) := g2
  have g1 := hs2 _ _ g1
  have hs := hs1.trans hs2
  refine bindP_mk (loadA_all (l := [a, b]) g1 rfl) ?_
  refine glush_Right_c (hf2.mono (show nx + 1 + 1 ≤ nx + 5 by omega)) ⟨a, b, rfl, ha.sub hs, hb.sub hs (RPos.sub hs)⟩ fun n7 hn7 => ?_
  cases hr : rightD g with
  | false =>
    have hz : ofZ g = (1, autD0) := by unfold ofZ; rw [hr]; rfl
    rw [hz] at hK
    (repeat (first | refine bindP_mk (by simp (disch := first | omega | exact Int.natCast_nonneg _ | assumption) only [BB, B2, ↓reduceIte, Nat.reduceLeDiff, Nat.reduceAdd, CC] <;> rfl) ?_ | refine newP_mk ?_ | refine optP_mk ?_ | with_reducible first | refine condP_t ?_ | refine condP_f ?_ | refine ifP_tt' ?_ | refine ifP_ff' ?_ | refine ifP_tf' ?_ | refine ifP_ft' ?_ | refine ifP_u' ?_ | refine optP_mk0 ?_))
    refine bindP_mk build_Auto0 ?_
    refine bindP_mk (storeA_own (l := autZ) (vs := autZ) g2 rfl autZ_len autZ_len autZ_ok) ?_
    refine bindP_mk (loadA_all (l := autZ) (by rw [T.get_upd_same]) autZ_len) ?_
    exact ⟨h, hs.new hf (by omega), hK h _ autZ (by omega) (Sub.refl _) (hf.mono (by omega)) autD0_R⟩
  | true =>
    have hz : ofZ g = if (allZ g (ofB g) 256 0 [noS]).1 = 0 then (0, ofD g (allZ g (ofB g) 256 0 [noS]).2) else ((allZ g (ofB g) 256 0 [noS]).1, autD0) := by unfold ofZ; rw [hr]; rfl
    obtain ⟨hgl, hfr, hmay⟩ := right_parts hr
    have hgs : (setsL g.p).length ≤ 1000000 := by unfold setsL; rw [List.length_map]; omega
    (repeat (first | refine bindP_mk (by simp (disch := first | omega | exact Int.natCast_nonneg _ | assumption) only [BB, B2, ↓reduceIte, Nat.reduceLeDiff, Nat.reduceAdd, CC] <;> rfl) ?_ | refine newP_mk ?_ | refine optP_mk ?_ | with_reducible first | refine condP_t ?_ | refine condP_f ?_ | refine ifP_tt' ?_ | refine ifP_ff' ?_ | refine ifP_tf' ?_ | refine ifP_ft' ?_ | refine ifP_u' ?_ | refine optP_mk0 ?_))
    refine bindP_mk (loadA_all (l := [a, b]) g1 rfl) ?_
    refine obj_mk hf2 (show nx + 1 + 1 ≤ n7 + 2 by omega) fun h3 hs3 hf3 g3 _ => ?_
    refine obj_mk hf3 (show n7 + 2 + 1 ≤ n7 + 3 by omega) fun h4 hs4 hf4 g4 _ => ?_
    refine obj_mk hf4 (show n7 + 3 + 1 ≤ n7 + 4 by omega) fun h5 hs5 hf5 g5 _ => ?_
    refine obj_mk hf5 (show n7 + 4 + 1 ≤ n7 + 5 by omega) fun h6 hs6 hf6 g6 _ => ?_
    refine bindP_mk (build_bld _ _ _ _ _ _) ?_
    refine param_mk hf6 (show n7 + 5 + 1 ≤ n7 + 7 by omega) fun h7 hs7 hf7 g7 _ => ?_
    have g7 : h7.get (n7 + 7) = some (.cells (bldL a b (.map (some (n7 + 2))) nilS (List.replicate 256 0) 0 nilS nilS (.map (some (n7 + 3))) (.map (some (n7 + 4))) (.map (some (n7 + 5)))).toArray y_auto_builder) := g7
    have g3 := hs7 _ _ (hs6 _ _ (hs5 _ _ (hs4 _ _ g3)))
    have g4 := hs7 _ _ (hs6 _ _ (hs5 _ _ g4))
    have g5 := hs7 _ _ (hs6 _ _ g5)
    have g6 := hs7 _ _ g6
    have hs27 := (((hs3.trans hs4).trans hs5).trans hs6).trans hs7
    have g1 := hs27 _ _ g1
    have g2 := hs27 _ _ g2
    have hs := hs.trans hs27
    have hbl := (hb.sub hs (RPos.sub hs)).len
    have e1 : ([a, b] : List Value)[1]? = some b := rfl
    (repeat (first | refine bindP_mk (by simp (disch := first | omega | exact Int.natCast_nonneg _ | assumption) only [BB, B2, ↓reduceIte, Nat.reduceLeDiff, Nat.reduceAdd, CC, g1, e1, hbl] <;> rfl) ?_ | refine newP_mk ?_ | refine optP_mk ?_ | with_reducible first | refine condP_t ?_ | refine condP_f ?_ | refine ifP_tt' ?_ | refine ifP_ff' ?_ | refine ifP_tf' ?_ | refine ifP_ft' ?_ | refine ifP_u' ?_ | refine optP_mk0 ?_))
    refine Of_L3_c (gid := nx) (rid := nx + 1) (kid := n7 + 3) (eid := n7 + 4) (yid := n7 + 5) hr (hf7.mono (show n7 + 7 + 1 ≤ n7 + 14 by omega)) (hb.sub (hs.delN hf (by simp; omega)) (RPos.sub (hs.delN hf (by simp; omega)))) g7 g3 ?_ ?_ ?_ ?_ ?_ ?_ ?_ ?_
    · rfl
    · rfl
    · rfl
    · rfl
    · rfl
    · rfl
    · rfl
    intro e' h8 n8 sv cv fn hn8 hf8 hk8 g8 hm8 hno8 hsv hcv f2 f4 f5
    refine exP_e (beqP_t ?_)
    unfold auto_Of_j1
    rw [f4, f5]
    refine split_Of_c hgs (hf8.mono (show n8 ≤ n8 + 3 by omega)) hsv.sl fun n9 hn9 => ?_
    have hc := cls_length (setsL g.p)
    have hcb := cls_bound (l := setsL g.p)
    rw [splitI_nat]
    (repeat (first | refine bindP_mk (by simp (disch := first | omega | exact Int.natCast_nonneg _ | assumption) only [BB, B2, ↓reduceIte, Nat.reduceLeDiff, Nat.reduceAdd, CC, nilCk_at] <;> rfl) ?_ | refine newP_mk ?_ | refine optP_mk ?_ | with_reducible first | refine condP_t ?_ | refine condP_f ?_ | refine ifP_tt' ?_ | refine ifP_ff' ?_ | refine ifP_tf' ?_ | refine ifP_ft' ?_ | refine ifP_u' ?_ | refine optP_mk0 ?_))
    refine bindP_mk (store_split List.length_replicate hc g8) ?_
    have hf9 : Fr (h8.upd (n7 + 7) (some (.cells (bldL a b (.map (some (n7 + 2))) nilS (cls (setsL g.p)) (many (setsL g.p) : Int) cv nilS (.map (some (n7 + 3))) (.map (some (n7 + 4))) (.map (some (n7 + 5)))).toArray y_auto_builder))) n8 := hf8.upd (Nat.le_refl _) (by omega)
    have g9 : (h8.upd (n7 + 7) (some (.cells (bldL a b (.map (some (n7 + 2))) nilS (cls (setsL g.p)) (many (setsL g.p) : Int) cv nilS (.map (some (n7 + 3))) (.map (some (n7 + 4))) (.map (some (n7 + 5)))).toArray y_auto_builder))).get (n7 + 7) = _ := T.get_upd_same _ _ _
    have hk9 : Keep [n7 + 7, n7 + 2] h7 (h8.upd (n7 + 7) (some (.cells (bldL a b (.map (some (n7 + 2))) nilS (cls (setsL g.p)) (many (setsL g.p) : Int) cv nilS (.map (some (n7 + 3))) (.map (some (n7 + 4))) (.map (some (n7 + 5)))).toArray y_auto_builder))) := hk8.upd (by simp)
    have hm9 : MapG injI (h8.upd (n7 + 7) (some (.cells (bldL a b (.map (some (n7 + 2))) nilS (cls (setsL g.p)) (many (setsL g.p) : Int) cv nilS (.map (some (n7 + 3))) (.map (some (n7 + 4))) (.map (some (n7 + 5)))).toArray y_auto_builder))) (n7 + 2) fn := hm8.keep (T.get_upd_ne _ _ (by omega))
    have hcv9 : OwnT (h8.upd (n7 + 7) (some (.cells (bldL a b (.map (some (n7 + 2))) nilS (cls (setsL g.p)) (many (setsL g.p) : Int) cv nilS (.map (some (n7 + 3))) (.map (some (n7 + 4))) (.map (some (n7 + 5)))).toArray y_auto_builder))) cv 2 y_a2_int (cntC (cntsL g.p)) (n7 + 14) := hcv.updNe g8 (by decide)
    generalize h8.upd (n7 + 7) (some (.cells (bldL a b (.map (some (n7 + 2))) nilS (cls (setsL g.p)) (many (setsL g.p) : Int) cv nilS (.map (some (n7 + 3))) (.map (some (n7 + 4))) (.map (some (n7 + 5)))).toArray y_auto_builder)) = h9 at hf9 g9 hk9 hm9 hcv9
    (repeat (first | refine bindP_mk (by simp (disch := first | omega | exact Int.natCast_nonneg _ | assumption) only [BB, B2, ↓reduceIte, Nat.reduceLeDiff, Nat.reduceAdd, CC, nilCk_at] <;> rfl) ?_ | refine newP_mk ?_ | refine optP_mk ?_ | with_reducible first | refine condP_t ?_ | refine condP_f ?_ | refine ifP_tt' ?_ | refine ifP_ff' ?_ | refine ifP_tf' ?_ | refine ifP_ft' ?_ | refine ifP_u' ?_ | refine optP_mk0 ?_))
    refine bindP_mk (load_split hc g9) ?_
    refine split_First_c hc hcb (hf9.mono (show n8 ≤ n9 + 11 by omega)) fun r h10 n10 hn10 hs10 hf10 hr10 => ?_
    have hr10 := hr10.toT
    have hrok := hr10.ok
    have g10 := hs10 _ _ g9
    (repeat (first | refine bindP_mk (by simp (disch := first | omega | exact Int.natCast_nonneg _ | assumption) only [BB, B2, ↓reduceIte, Nat.reduceLeDiff, Nat.reduceAdd, CC, nilCk_at] <;> rfl) ?_ | refine newP_mk ?_ | refine optP_mk ?_ | with_reducible first | refine condP_t ?_ | refine condP_f ?_ | refine ifP_tt' ?_ | refine ifP_ff' ?_ | refine ifP_tf' ?_ | refine ifP_ft' ?_ | refine ifP_u' ?_ | refine optP_mk0 ?_))
    refine bindP_mk (store1_own (l := bldL a b (.map (some (n7 + 2))) nilS (cls (setsL g.p)) (many (setsL g.p) : Int) cv nilS (.map (some (n7 + 3))) (.map (some (n7 + 4))) (.map (some (n7 + 5)))) g10 (by rw [bldL_len hc]; omega) hrok (cells_of_ok hrok)) ?_
    rw [bldL_set3]
    refine bindP_mk build_State0 (bindP_mk (lit_State _ _ _ _ _) (optP_mk ?_))
    have hbd := hf10.lt' g10
    -- memory as the states' loop finds it
    have hf11 : Fr ((h10.upd (n7 + 7) (some (.cells (bldL a b (.map (some (n7 + 2))) r (cls (setsL g.p)) (many (setsL g.p) : Int) cv nilS (.map (some (n7 + 3))) (.map (some (n7 + 4))) (.map (some (n7 + 5)))).toArray y_auto_builder))).upd (n10 + 5) (some (.cells [nilS, nilS, nilS, nilS].toArray y_api_State))) (n10 + 6) := ((hf10.mono (show n10 ≤ n10 + 6 by omega)).upd (Nat.le_refl _) (by omega)).upd (Nat.le_refl _) (by omega)
    have g11 : ((h10.upd (n7 + 7) (some (.cells (bldL a b (.map (some (n7 + 2))) r (cls (setsL g.p)) (many (setsL g.p) : Int) cv nilS (.map (some (n7 + 3))) (.map (some (n7 + 4))) (.map (some (n7 + 5)))).toArray y_auto_builder))).upd (n10 + 5) (some (.cells [nilS, nilS, nilS, nilS].toArray y_api_State))).get (n7 + 7) = _ := (T.get_upd_ne _ _ (by omega)).trans (T.get_upd_same _ _ _)
    have gs11 : ((h10.upd (n7 + 7) (some (.cells (bldL a b (.map (some (n7 + 2))) r (cls (setsL g.p)) (many (setsL g.p) : Int) cv nilS (.map (some (n7 + 3))) (.map (some (n7 + 4))) (.map (some (n7 + 5)))).toArray y_auto_builder))).upd (n10 + 5) (some (.cells [nilS, nilS, nilS, nilS].toArray y_api_State))).get (n10 + 5) = _ := T.get_upd_same _ _ _
    have hk11 : Keep [n7 + 7, n7 + 2] h7 ((h10.upd (n7 + 7) (some (.cells (bldL a b (.map (some (n7 + 2))) r (cls (setsL g.p)) (many (setsL g.p) : Int) cv nilS (.map (some (n7 + 3))) (.map (some (n7 + 4))) (.map (some (n7 + 5)))).toArray y_auto_builder))).upd (n10 + 5) (some (.cells [nilS, nilS, nilS, nilS].toArray y_api_State))) := (((hk9.trans hs10.keepL).upd (by simp))).updN hf7 (by omega)
    have hm11 : MapG injI ((h10.upd (n7 + 7) (some (.cells (bldL a b (.map (some (n7 + 2))) r (cls (setsL g.p)) (many (setsL g.p) : Int) cv nilS (.map (some (n7 + 3))) (.map (some (n7 + 4))) (.map (some (n7 + 5)))).toArray y_auto_builder))).upd (n10 + 5) (some (.cells [nilS, nilS, nilS, nilS].toArray y_api_State))) (n7 + 2) fn := (hm9.sub hs10).keep (by rw [T.get_upd_ne _ _ (by omega), T.get_upd_ne _ _ (by omega)])
    have hcv11 : OwnT ((h10.upd (n7 + 7) (some (.cells (bldL a b (.map (some (n7 + 2))) r (cls (setsL g.p)) (many (setsL g.p) : Int) cv nilS (.map (some (n7 + 3))) (.map (some (n7 + 4))) (.map (some (n7 + 5)))).toArray y_auto_builder))).upd (n10 + 5) (some (.cells [nilS, nilS, nilS, nilS].toArray y_api_State))) cv 2 y_a2_int (cntC (cntsL g.p)) (n7 + 14) := ((hcv9.keepS hs10).updNe g10 (by decide)).keepS ((Sub.refl _).upd (by rw [T.get_upd_ne _ _ (by omega)]; exact hf10 _ (by omega)))
    have hr11 : OwnT ((h10.upd (n7 + 7) (some (.cells (bldL a b (.map (some (n7 + 2))) r (cls (setsL g.p)) (many (setsL g.p) : Int) cv nilS (.map (some (n7 + 3))) (.map (some (n7 + 4))) (.map (some (n7 + 5)))).toArray y_auto_builder))).upd (n10 + 5) (some (.cells [nilS, nilS, nilS, nilS].toArray y_api_State))) r 1 y_uint8 (bytesC (ofB g)) (n9 + 11) := (hr10.updNe g10 (by decide)).keepS ((Sub.refl _).upd (by rw [T.get_upd_ne _ _ (by omega)]; exact hf10 _ (by omega)))
    generalize (h10.upd (n7 + 7) (some (.cells (bldL a b (.map (some (n7 + 2))) r (cls (setsL g.p)) (many (setsL g.p) : Int) cv nilS (.map (some (n7 + 3))) (.map (some (n7 + 4))) (.map (some (n7 + 5)))).toArray y_auto_builder))).upd (n10 + 5) (some (.cells [nilS, nilS, nilS, nilS].toArray y_api_State)) = h11 at hf11 g11 gs11 hk11 hm11 hcv11 hr11
    (repeat (first | refine bindP_mk (by simp (disch := first | omega | exact Int.natCast_nonneg _ | assumption) only [BB, B2, ↓reduceIte, Nat.reduceLeDiff, Nat.reduceAdd, CC, nilCk_at] <;> rfl) ?_ | refine newP_mk ?_ | refine optP_mk ?_ | with_reducible first | refine condP_t ?_ | refine condP_f ?_ | refine ifP_tt' ?_ | refine ifP_ff' ?_ | refine ifP_tf' ?_ | refine ifP_ft' ?_ | refine ifP_u' ?_ | refine optP_mk0 ?_))
    refine bindP_mk (store1_own (l := bldL a b (.map (some (n7 + 2))) r (cls (setsL g.p)) (many (setsL g.p) : Int) cv nilS (.map (some (n7 + 3))) (.map (some (n7 + 4))) (.map (some (n7 + 5)))) g11 (by rw [bldL_len hc]; omega) rfl rfl) ?_
    rw [bldL_set262 hc]
    have hf12 : Fr (h11.upd (n7 + 7) (some (.cells (bldL a b (.map (some (n7 + 2))) r (cls (setsL g.p)) (many (setsL g.p) : Int) cv (.slice (some (own (n10 + 5) 4)) 1 1) (.map (some (n7 + 3))) (.map (some (n7 + 4))) (.map (some (n7 + 5)))).toArray y_auto_builder))) (n10 + 6) := hf11.upd (Nat.le_refl _) (by omega)
    have g12 : (h11.upd (n7 + 7) (some (.cells (bldL a b (.map (some (n7 + 2))) r (cls (setsL g.p)) (many (setsL g.p) : Int) cv (.slice (some (own (n10 + 5) 4)) 1 1) (.map (some (n7 + 3))) (.map (some (n7 + 4))) (.map (some (n7 + 5)))).toArray y_auto_builder))).get (n7 + 7) = _ := T.get_upd_same _ _ _
    have gs12 : (h11.upd (n7 + 7) (some (.cells (bldL a b (.map (some (n7 + 2))) r (cls (setsL g.p)) (many (setsL g.p) : Int) cv (.slice (some (own (n10 + 5) 4)) 1 1) (.map (some (n7 + 3))) (.map (some (n7 + 4))) (.map (some (n7 + 5)))).toArray y_auto_builder))).get (n10 + 5) = _ := (T.get_upd_ne _ _ (by omega)).trans gs11
    have hk12 : Keep [n7 + 7, n7 + 2] h7 (h11.upd (n7 + 7) (some (.cells (bldL a b (.map (some (n7 + 2))) r (cls (setsL g.p)) (many (setsL g.p) : Int) cv (.slice (some (own (n10 + 5) 4)) 1 1) (.map (some (n7 + 3))) (.map (some (n7 + 4))) (.map (some (n7 + 5)))).toArray y_auto_builder))) := hk11.upd (by simp)
    have hm12 : MapG injI (h11.upd (n7 + 7) (some (.cells (bldL a b (.map (some (n7 + 2))) r (cls (setsL g.p)) (many (setsL g.p) : Int) cv (.slice (some (own (n10 + 5) 4)) 1 1) (.map (some (n7 + 3))) (.map (some (n7 + 4))) (.map (some (n7 + 5)))).toArray y_auto_builder))) (n7 + 2) fn := hm11.keep (T.get_upd_ne _ _ (by omega))
    have hcv12 : OwnT (h11.upd (n7 + 7) (some (.cells (bldL a b (.map (some (n7 + 2))) r (cls (setsL g.p)) (many (setsL g.p) : Int) cv (.slice (some (own (n10 + 5) 4)) 1 1) (.map (some (n7 + 3))) (.map (some (n7 + 4))) (.map (some (n7 + 5)))).toArray y_auto_builder))) cv 2 y_a2_int (cntC (cntsL g.p)) (n7 + 14) := hcv11.updNe g11 (by decide)
    have hr12 : OwnT (h11.upd (n7 + 7) (some (.cells (bldL a b (.map (some (n7 + 2))) r (cls (setsL g.p)) (many (setsL g.p) : Int) cv (.slice (some (own (n10 + 5) 4)) 1 1) (.map (some (n7 + 3))) (.map (some (n7 + 4))) (.map (some (n7 + 5)))).toArray y_auto_builder))) r 1 y_uint8 (bytesC (ofB g)) (n9 + 11) := hr11.updNe g11 (by decide)
    generalize h11.upd (n7 + 7) (some (.cells (bldL a b (.map (some (n7 + 2))) r (cls (setsL g.p)) (many (setsL g.p) : Int) cv (.slice (some (own (n10 + 5) 4)) 1 1) (.map (some (n7 + 3))) (.map (some (n7 + 4))) (.map (some (n7 + 5)))).toArray y_auto_builder)) = h12 at hf12 g12 gs12 hk12 hm12 hcv12 hr12
    have k4 := hk12 _ _ g4 (by simp)
    have k5 := hk12 _ _ g5 (by simp)
    have k6 := hk12 _ _ g6 (by simp)
    have k2 := hk12 _ _ g2 (by simp; omega)
    have hs12 : Sub h h12 := fun i o hi => hk12 i o (hs _ _ hi) (by have := hf.lt' hi; simp; omega)
    have hB12 : Bd h12 g (n7 + 7) (n7 + 2) (n7 + 3) (n7 + 4) (n7 + 5) (n10 + 5) a b r (cls (setsL g.p)) (many (setsL g.p) : Int) cv [noS] [[nilS, nilS, nilS, nilS]] :=
      ⟨hc, g12, ⟨fn, hm12, hno8⟩, ⟨_, MapG.new k4, fun l hl _ => by
        have : isL l noS = false := decide_eq_false fun e => hl e.symm
        simp [List.findIdx?_cons, this]⟩, gs12, fun x hx => by simp at hx; rw [hx]; rfl, rfl, by simp, by simp, by omega⟩
    have hge : ∀ i ∈ [nx + 1, n7 + 7, n7 + 3, n7 + 4, n7 + 5, n10 + 5], nx ≤ i := by
      intro i hi
      simp only [List.mem_cons, List.not_mem_nil, or_false] at hi
      omega
    have hsd : Sub h (del h12 [nx + 1, n7 + 7, n7 + 3, n7 + 4, n7 + 5, n10 + 5]) := hs12.delN hf hge
    have hnot : ∀ {v : Value} {z lo : Nat} {e : TypeId} {l : List (List Value)}, e ≠ y_auto_builder → e ≠ y_api_State → e ≠ y_api_Auto → OwnT h12 v z e l lo → OwnT (del h12 [nx + 1, n7 + 7, n7 + 3, n7 + 4, n7 + 5, n10 + 5]) v z e l lo := fun he1 he2 he3 ho => ho.del fun id hid => by
      obtain ⟨_, z⟩ := ho.blk hid
      simp only [List.mem_cons, List.not_mem_nil, or_false, not_or]
      refine ⟨?_, ?_, ?_, ?_, ?_, ?_⟩ <;> rintro rfl
      · rw [z] at k2
        simp only [Option.some.injEq, Obj.cells.injEq] at k2
        exact he3 k2.2.1
      · rw [z] at g12
        simp only [Option.some.injEq, Obj.cells.injEq] at g12
        exact he1 g12.2.1
      · rw [z] at k4; cases k4
      · rw [z] at k5; cases k5
      · rw [z] at k6; cases k6
      · rw [z] at gs12
        simp only [Option.some.injEq, Obj.cells.injEq] at gs12
        exact he2 gs12.2.1
    have hcvd := hnot (by decide) (by decide) (by decide) hcv12
    refine Of_L1_c (hb := del h12 [nx + 1, n7 + 7, n7 + 3, n7 + 4, n7 + 5, n10 + 5]) (B := ofB g) (rid := nx + 1) hr first_len (by omega) (by omega) (by omega) (by omega) (by omega) (hb.sub hsd (RPos.sub hsd)) (ha.sub hsd) (first_R (hnot (by decide) (by decide) (by decide) hr12) first_lt) (hf12.mono (show n10 + 6 ≤ n10 + 11 by omega)) k2 hB12 (BMap.new k5) (BMap.new k6) (Sub.refl _) ⟨fun i x t hx ht => ?_, fun i x t hi hx ht => ?_⟩ (fun s hs => ?_) ?_ ?_ ?_ ?_ ?_
    · cases i with
      | succ i => simp at hx
      | zero =>
        simp at hx ht
        subst hx; subst ht
        exact ⟨nilS, nilS, nilS, nilS, rfl, Sl.nil, Sl.nil, Sl.nil, SlR.nil, Nat.zero_le _⟩
    · cases i with
      | succ i => simp at hx
      | zero =>
        simp at hx ht
        subst hx; subst ht
        exact ⟨⟨nilS, nilS, rfl⟩, rfl, rfl⟩
    · simp at hs; subst hs
      exact ⟨rfl, rfl, Nat.zero_le _⟩
    · exact f2
    · exact f4
    · rfl
    · intro hz9 e9 h13 n13 p1 p2 p3 p4 p5 p6
      rw [if_neg hz9] at hz
      rw [hz] at hK
      refine exP_r ?_
      rw [p5, p6]
      refine bindP_mk (loadA_all (l := autZ) p4 autZ_len) ?_
      exact ⟨h, hsd.trans p3, hK h _ autZ (by omega) (Sub.refl _) (hf.mono (by omega)) autD0_R⟩
    · intro hz9 e9 h13 n13 sid' cs' p1 p2 p3 p4 p5 p6 p7 p8 p9
      rw [if_pos hz9] at hz
      rw [hz] at hK
      refine exP_e (beqP_t ?_)
      unfold auto_Of_j2
      rw [p8, p9]
      have hb13 := p5.blk
      (repeat (first | refine bindP_mk (by simp (disch := first | omega | exact Int.natCast_nonneg _ | assumption) only [BB, B2, ↓reduceIte, Nat.reduceLeDiff, Nat.reduceAdd, CC, nilCk_at] <;> rfl) ?_ | refine newP_mk ?_ | refine optP_mk ?_ | with_reducible first | refine condP_t ?_ | refine condP_f ?_ | refine ifP_tt' ?_ | refine ifP_ff' ?_ | refine ifP_tf' ?_ | refine ifP_ft' ?_ | refine ifP_u' ?_ | refine optP_mk0 ?_))
      refine bindP_mk (load_auto hc hb13) ?_
      have hsvok : cellOk (.slice (some (own sid' 4)) cs'.length cs'.length) = true := rfl
      have hcvok := hcv12.ok
      refine bindP_mk (storeA_own (l := autZ) (vs := autL (cls (setsL g.p)) (many (setsL g.p) : Int) cv (.slice (some (own sid' 4)) cs'.length cs'.length)) p3 rfl (autL_len hc) autZ_len (autL_ok hcvok rfl)) ?_
      refine bindP_mk (loadA_all (l := autL (cls (setsL g.p)) (many (setsL g.p) : Int) cv (.slice (some (own sid' 4)) cs'.length cs'.length)) (by rw [T.get_upd_same]) (autL_len hc)) ?_
      refine ⟨_, Sub.refl _, ?_⟩
      have hfin : Sub (del h13 [nx + 1, n7 + 7, n7 + 3, n7 + 4, n7 + 5, sid']) (h13.upd (nx + 1) (some (.cells (autL (cls (setsL g.p)) (many (setsL g.p) : Int) cv (.slice (some (own sid' 4)) cs'.length cs'.length)).toArray y_api_Auto))) := fun i o hi => by
        rw [del_get] at hi
        split at hi
        · cases hi
        · rename_i hn
          rw [T.get_upd_ne _ _ (by rintro rfl; exact hn (by simp))]; exact hi
      have hrs : sid' ≠ nx + 1 := by
        rintro rfl
        have := p5.row
        rw [p3] at this
        simp only [Option.some.injEq, Obj.cells.injEq] at this
        exact absurd this.2.1 (by decide)
      refine hK _ _ _ (by omega) ((hsd.trans p4).trans hfin) ((p2.mono (show n13 ≤ n13 + 6 by omega)).upd (Nat.le_refl _) (by omega)) ⟨cv, _, rfl, hc, hcb, ?_, ⟨cs', ?_, p5.len, fun i x t hx ht => RState.sub hfin _ _ (p6 i x t hx ht)⟩, ?_, ?_⟩
      · exact cnt_R ((hcvd.keepS p4).keepS hfin)
      · refine OwnT.sl (h := h13.upd (nx + 1) _) (lo := 0) (e := y_api_State) (.inr ⟨sid', Nat.zero_le _, rfl, p5.z4, ?_⟩)
        rw [T.get_upd_ne _ _ hrs]; exact p5.row
      · have := cntsL_len g.p
        show (cntsL g.p).length ≤ maxB
        unfold maxB; omega
      · have := p5.few
        show (allZ g (ofB g) 256 0 [noS]).2.length ≤ maxB
        unfold maxB; omega
end V
end Go.Proofs.Ytmmdcdjkmakgpaa
set_option linter.unusedVariables false
set_option linter.unusedSimpArgs false
namespace Go.Proofs.Ytmmdcdjkmakgpaa
namespace V
open PA
structure Base (g : GlD) (S : List StateD) : Prop where
  ok : SOk g S
  few : S.length ≤ 256
  zero : ∃ s, S[0]? = some s ∧ s.l = []
  pos : ∀ (i : Nat) s, 0 < i → S[i]? = some s → s.l ≠ []
  dist : ∀ (i j : Nat) s t, S[i]? = some s → S[j]? = some t → s.l = t.l → i = j
def MvOk (g : GlD) (en st : Int → Bool) (b : Nat) (S : List StateD) (m : MoveD) : Prop :=
  (lZ g en st b = [] ∧ m.to = -1 ∧ m.ops = []) ∨ (lZ g en st b ≠ [] ∧ ∃ (k : Nat) (t : StateD), m.to = (k : Int) ∧ S[k]? = some t ∧ t.l = lZ g en st b ∧ m.ops = opsZ g en st (lZ g en st b))
def Ext (S S' : List StateD) : Prop := ∃ T, S' = S ++ T ∧ ∀ t ∈ T, t.rule = [] ∧ t.next = []
theorem Ext.refl (S : List StateD) : Ext S S := ⟨[], by simp, fun t ht => by cases ht⟩
theorem Ext.trans {a b c : List StateD} (h1 : Ext a b) (h2 : Ext b c) : Ext a c := by
  obtain ⟨T, rfl, h3⟩ := h1
  obtain ⟨U, rfl, h4⟩ := h2
  refine ⟨T ++ U, by rw [List.append_assoc], fun t ht => ?_⟩
  rcases List.mem_append.1 ht with ht | ht
  · exact h3 t ht
  · exact h4 t ht
def Grows (S S' : List StateD) : Prop := ∀ (i : Nat) s, S[i]? = some s → ∃ s', S'[i]? = some s' ∧ s'.l = s.l
theorem Grows.refl (S : List StateD) : Grows S S := fun i s h => ⟨s, h, rfl⟩
theorem Grows.trans {a b c : List StateD} (h1 : Grows a b) (h2 : Grows b c) : Grows a c := fun i s h => by
  obtain ⟨s1, h3, h4⟩ := h1 i s h
  obtain ⟨s2, h5, h6⟩ := h2 i s1 h3
  exact ⟨s2, h5, h6.trans h4⟩
theorem Ext.grows {S S' : List StateD} (h : Ext S S') : Grows S S' := fun i s hs => by
  obtain ⟨T, rfl, _⟩ := h
  have := (List.getElem?_eq_some_iff.1 hs).1
  exact ⟨s, by rw [List.getElem?_append_left this]; exact hs, rfl⟩
theorem MvOk.mono {g : GlD} {en st : Int → Bool} {b : Nat} {S S' : List StateD} {m : MoveD} (h : MvOk g en st b S m) (hg : Grows S S') : MvOk g en st b S' m := by
  rcases h with h | ⟨h1, k, t, h2, h3, h4, h5⟩
  · exact .inl h
  · obtain ⟨t', h6, h7⟩ := hg k t h3
    exact .inr ⟨h1, k, t', h2, h6, h7.trans h4, h5⟩
theorem goesZ_spec {g : GlD} {en st : Int → Bool} {b : Nat} {S : List StateD} (hb : Base g S) (h0 : (goesZ g en st b S).2.1 = 0) : Base g (goesZ g en st b S).2.2 ∧ Ext S (goesZ g en st b S).2.2 ∧ MvOk g en st b (goesZ g en st b S).2.2 (goesZ g en st b S).1 := by
  by_cases hl : lZ g en st b = []
  · rw [goesZ_nil hl]
    exact ⟨hb, Ext.refl _, .inl ⟨hl, rfl, rfl⟩⟩
  · have hrz := lZ_rz g en st b
    rw [goesZ_ne hl] at h0 ⊢
    dsimp only at h0 ⊢
    generalize hlz : lZ g en st b = l at hl h0 hrz
    unfold findZ at h0 ⊢
    cases hf : S.findIdx? (isL l) with
    | some k =>
      rw [hf] at h0
      obtain ⟨hk, h1, _⟩ := List.findIdx?_eq_some_iff_getElem.1 hf
      have h1 : (S[k]).l = l := of_decide_eq_true h1
      exact ⟨hb, Ext.refl _, .inr ⟨by rw [hlz]; exact hl, k, S[k], rfl, List.getElem?_eq_getElem hk, by rw [hlz]; exact h1, by rw [hlz]⟩⟩
    | none =>
      rw [hf] at h0
      dsimp only at h0 ⊢
      have hn := List.findIdx?_eq_none_iff.1 hf
      by_cases h3 : 3 < (regsZ g l).length
      · rw [if_pos h3] at h0; exact absurd h0 (by show ¬ (110 : Int) = 0; decide)
      · rw [if_neg h3] at h0 ⊢
        by_cases h4 : 256 ≤ S.length
        · rw [if_pos h4] at h0; exact absurd h0 (by show ¬ (3 : Int) = 0; decide)
        · rw [if_neg h4]
          have hne : ∀ s ∈ S, s.l ≠ l := fun s hs e => by
            have := hn s hs
            unfold isL at this
            exact absurd e (of_decide_eq_false this)
          have hget : ∀ (i : Nat) s, (S ++ [(⟨l, regsZ g l, [], []⟩ : StateD)])[i]? = some s → (S[i]? = some s) ∨ (i = S.length ∧ s = ⟨l, regsZ g l, [], []⟩) := fun i s hs => by
            rcases Nat.lt_or_ge i S.length with hi | hi
            · rw [List.getElem?_append_left hi] at hs; exact .inl hs
            · rw [List.getElem?_append_right hi] at hs
              generalize hq : i - S.length = q at hs
              cases q with
              | zero => simp at hs; exact .inr ⟨by omega, hs.symm⟩
              | succ q => simp at hs
          refine ⟨⟨fun s hs => ?_, by simp; omega, ?_, fun i s hi hs => ?_, fun i j s t hs ht he => ?_⟩, ⟨[⟨l, regsZ g l, [], []⟩], rfl, fun t ht => ?_⟩, .inr ⟨by rw [hlz]; exact hl, S.length, ⟨l, regsZ g l, [], []⟩, rfl, by simp, by rw [hlz], by rw [hlz]⟩⟩
          · rcases List.mem_append.1 hs with hs | hs
            · exact hb.ok s hs
            · simp at hs; subst hs; exact ⟨hrz, rfl, by show (regsZ g l).length ≤ 3; omega⟩
          · obtain ⟨s, h5, h6⟩ := hb.zero
            exact ⟨s, by rw [List.getElem?_append_left (List.getElem?_eq_some_iff.1 h5).1]; exact h5, h6⟩
          · rcases hget i s hs with hs | ⟨_, rfl⟩
            · exact hb.pos i s hi hs
            · exact hl
          · rcases hget i s hs with hs | ⟨hi, rfl⟩
            · rcases hget j t ht with ht | ⟨hj, rfl⟩
              · exact hb.dist i j s t hs ht he
              · exact absurd he (hne s (List.mem_of_getElem? hs))
            · rcases hget j t ht with ht | ⟨hj, rfl⟩
              · exact absurd he.symm (hne t (List.mem_of_getElem? ht))
              · omega
          · simp at ht; subst ht; exact ⟨rfl, rfl⟩
theorem rowZ_spec {g : GlD} {en st : Int → Bool} : ∀ {B : List Nat} {S : List StateD}, Base g S → (rowZ g en st B S).1 = 0 → Base g (rowZ g en st B S).2.2 ∧ Ext S (rowZ g en st B S).2.2 ∧ (rowZ g en st B S).2.1.length = B.length ∧ ∀ (j : Nat) b m, B[j]? = some b → (rowZ g en st B S).2.1[j]? = some m → MvOk g en st b (rowZ g en st B S).2.2 m
  | [], S, hb, _ => ⟨hb, Ext.refl _, rfl, fun j b m hj => by simp at hj⟩
  | b :: r, S, hb, h0 => by
    rw [rowZ_cons] at h0 ⊢
    by_cases h1 : (goesZ g en st b S).2.1 = 0
    · rw [if_pos h1] at h0 ⊢
      obtain ⟨g1, g2, g3⟩ := goesZ_spec hb h1
      obtain ⟨r1, r2, r3, r4⟩ := rowZ_spec (B := r) g1 h0
      refine ⟨r1, g2.trans r2, by simp [r3], fun j b' m hj hm => ?_⟩
      cases j with
      | zero => simp at hj hm; subst hj; subst hm; exact g3.mono r2.grows
      | succ j => exact r4 j b' m (by simpa using hj) (by simpa using hm)
    · rw [if_neg h1] at h0; exact absurd h0 h1
def doneZ (k c i : Nat) (s : StateD) : Nat := if i < k then (codesD (s.r.length : Int)).toNat else if i = k then c else 0
structure Made (g : GlD) (B : List Nat) (S : List StateD) (k c : Nat) : Prop where
  base : Base g S
  cnt : ∀ (i : Nat) s, S[i]? = some s → s.rule.length = doneZ k c i s ∧ s.next.length = doneZ k c i s
  rule : ∀ (i : Nat) s (q : Nat) ru, S[i]? = some s → s.rule[q]? = some ru → ru = ruleZ g (-1) (digs g s.l q)
  next : ∀ (i : Nat) s (q : Nat) row, S[i]? = some s → s.next[q]? = some row → row.length = B.length ∧ ∀ (j : Nat) b m, B[j]? = some b → row[j]? = some m → MvOk g (entersZ g i (digs g s.l q)) (staysZ (digs g s.l q)) b S m
theorem Base.modify {g : GlD} {S : List StateD} (hb : Base g S) (k : Nat) (rule : Int) (row : List MoveD) : Base g (S.modify k (addRow rule row)) ∧ Grows S (S.modify k (addRow rule row)) := by
  have hget : ∀ (i : Nat) s, (S.modify k (addRow rule row))[i]? = some s → ∃ t, S[i]? = some t ∧ t.l = s.l := fun i s hs => by
    by_cases hi : i = k
    · subst hi
      rw [modify_self] at hs
      cases hq : S[i]? with
      | none => rw [hq] at hs; cases hs
      | some t => rw [hq] at hs; cases hs; exact ⟨t, rfl, rfl⟩
    · rw [modify_ne hi] at hs; exact ⟨s, hs, rfl⟩
  have hgr : Grows S (S.modify k (addRow rule row)) := fun i s hs => by
    by_cases hi : i = k
    · subst hi; exact ⟨addRow rule row s, by rw [modify_self, hs]; rfl, rfl⟩
    · exact ⟨s, by rw [modify_ne hi]; exact hs, rfl⟩
  refine ⟨⟨modify_ok hb.ok _ _ _, by rw [List.length_modify]; exact hb.few, ?_, fun i s hi hs => ?_, fun i j s t hs ht he => ?_⟩, hgr⟩
  · obtain ⟨s, h1, h2⟩ := hb.zero
    obtain ⟨s', h3, h4⟩ := hgr 0 s h1
    exact ⟨s', h3, h4.trans h2⟩
  · obtain ⟨t, h1, h2⟩ := hget i s hs
    rw [← h2]; exact hb.pos i t hi h1
  · obtain ⟨s1, h1, h2⟩ := hget i s hs
    obtain ⟨t1, h3, h4⟩ := hget j t ht
    exact hb.dist i j s1 t1 h1 h3 (by rw [h2, h4, he])
theorem codeZ_spec {g : GlD} {B : List Nat} {S : List StateD} {k c : Nat} (hm : Made g B S k c) (hk : k < S.length) (h0 : (codeZ g B k (c : Int) S).1 = 0) : Made g B (codeZ g B k (c : Int) S).2 k (c + 1) ∧ Grows S (codeZ g B k (c : Int) S).2 := by
  obtain ⟨s, hs⟩ : ∃ s, S[k]? = some s := ⟨_, List.getElem?_eq_getElem hk⟩
  have hlk : lAt S k = s.l := by unfold lAt; rw [List.getD_eq_getElem?_getD, hs]; rfl
  have hcz : codeZ g B k (c : Int) S = if (rowZ g (entersZ g k (digs g s.l c)) (staysZ (digs g s.l c)) B S).1 = 0 then (0, (rowZ g (entersZ g k (digs g s.l c)) (staysZ (digs g s.l c)) B S).2.2.modify k (addRow (ruleZ g (-1) (digs g s.l c)) (rowZ g (entersZ g k (digs g s.l c)) (staysZ (digs g s.l c)) B S).2.1)) else ((rowZ g (entersZ g k (digs g s.l c)) (staysZ (digs g s.l c)) B S).1, S) := by
    unfold codeZ; rw [hlk]
  rw [hcz] at h0 ⊢
  by_cases h1 : (rowZ g (entersZ g k (digs g s.l c)) (staysZ (digs g s.l c)) B S).1 = 0
  · rw [if_pos h1]
    obtain ⟨r1, r2, r3, r4⟩ := rowZ_spec hm.base h1
    generalize rowZ g (entersZ g k (digs g s.l c)) (staysZ (digs g s.l c)) B S = Z at r1 r2 r3 r4
    dsimp only
    obtain ⟨b1, b2⟩ := r1.modify k (ruleZ g (-1) (digs g s.l c)) Z.2.1
    have hgr := r2.grows.trans b2
    obtain ⟨T, hT, hT2⟩ := r2
    have hZk : Z.2.2[k]? = some s := by rw [hT, List.getElem?_append_left hk]; exact hs
    have hget : ∀ (i : Nat) t, (Z.2.2.modify k (addRow (ruleZ g (-1) (digs g s.l c)) Z.2.1))[i]? = some t → (i = k ∧ t = addRow (ruleZ g (-1) (digs g s.l c)) Z.2.1 s) ∨ (i ≠ k ∧ i < S.length ∧ S[i]? = some t) ∨ (S.length ≤ i ∧ t.rule = [] ∧ t.next = []) := fun i t ht => by
      by_cases hi : i = k
      · subst hi
        rw [modify_self, hZk] at ht
        cases ht; exact .inl ⟨rfl, rfl⟩
      · rw [modify_ne hi, hT] at ht
        rcases Nat.lt_or_ge i S.length with hil | hil
        · rw [List.getElem?_append_left hil] at ht; exact .inr (.inl ⟨hi, hil, ht⟩)
        · rw [List.getElem?_append_right hil] at ht
          exact .inr (.inr ⟨hil, hT2 t (List.mem_of_getElem? ht)⟩)
    refine ⟨⟨b1, fun i t ht => ?_, fun i t q ru ht hq => ?_, fun i t q row ht hq => ?_⟩, hgr⟩
    · rcases hget i t ht with ⟨rfl, rfl⟩ | ⟨h2, h3, h4⟩ | ⟨h2, h3, h4⟩
      · have := hm.cnt i s hs
        unfold doneZ at this ⊢
        rw [if_neg (by omega), if_pos rfl] at this ⊢
        show (s.rule ++ [_]).length = _ ∧ (s.next ++ [_]).length = _
        simp [this.1, this.2]
      · have := hm.cnt i t h4
        unfold doneZ at this ⊢
        by_cases hik : i < k
        · rw [if_pos hik] at this ⊢; exact this
        · rw [if_neg hik, if_neg h2] at this ⊢; exact this
      · unfold doneZ
        rw [if_neg (by omega), if_neg (by omega), h3, h4]; exact ⟨rfl, rfl⟩
    · rcases hget i t ht with ⟨rfl, rfl⟩ | ⟨h2, h3, h4⟩ | ⟨h2, h3, h4⟩
      · have hq : (s.rule ++ [ruleZ g (-1) (digs g s.l c)])[q]? = some ru := hq
        have hc := hm.cnt i s hs
        unfold doneZ at hc
        rw [if_neg (by omega), if_pos rfl] at hc
        rcases Nat.lt_or_ge q s.rule.length with hql | hql
        · rw [List.getElem?_append_left hql] at hq; exact hm.rule i s q ru hs hq
        · rw [List.getElem?_append_right hql] at hq
          have hqc : q = c := by
            have := (List.getElem?_eq_some_iff.1 hq).1
            simp at this; omega
          subst hqc
          rw [hc.1, Nat.sub_self] at hq
          simp at hq; exact hq.symm
      · exact hm.rule i t q ru h4 hq
      · rw [h3] at hq; simp at hq
    · rcases hget i t ht with ⟨rfl, rfl⟩ | ⟨h2, h3, h4⟩ | ⟨h2, h3, h4⟩
      · have hq2 : (s.next ++ [Z.2.1])[q]? = some row := hq
        have hc := hm.cnt i s hs
        unfold doneZ at hc
        rw [if_neg (by omega), if_pos rfl] at hc
        rcases Nat.lt_or_ge q s.next.length with hql | hql
        · rw [List.getElem?_append_left hql] at hq2
          obtain ⟨n1, n2⟩ := hm.next i s q row hs hq2
          exact ⟨n1, fun j b m hj hm9 => (n2 j b m hj hm9).mono hgr⟩
        · rw [List.getElem?_append_right hql] at hq2
          have hqc : q = c := by
            have := (List.getElem?_eq_some_iff.1 hq2).1
            simp at this; omega
          subst hqc
          rw [hc.2, Nat.sub_self] at hq2
          simp at hq2; subst hq2
          exact ⟨r3, fun j b m hj hm9 => (r4 j b m hj hm9).mono b2⟩
      · obtain ⟨n1, n2⟩ := hm.next i t q row h4 hq
        exact ⟨n1, fun j b m hj hm9 => (n2 j b m hj hm9).mono hgr⟩
      · rw [h4] at hq; simp at hq
  · rw [if_neg h1] at h0; exact absurd h0 h1
theorem codesZ_spec {g : GlD} {B : List Nat} {k : Nat} : ∀ {n c : Nat} {S : List StateD}, Made g B S k c → k < S.length → (codesZ g B k n (c : Int) S).1 = 0 → Made g B (codesZ g B k n (c : Int) S).2 k (c + n) ∧ Grows S (codesZ g B k n (c : Int) S).2
  | 0, c, S, hm, _, _ => ⟨hm, Grows.refl _⟩
  | n + 1, c, S, hm, hk, h0 => by
    rw [codesZ_succ] at h0 ⊢
    by_cases h1 : (codeZ g B k (c : Int) S).1 = 0
    · rw [if_pos h1] at h0 ⊢
      obtain ⟨c1, c2⟩ := codeZ_spec hm hk h1
      have hk2 : k < (codeZ g B k (c : Int) S).2.length := by
        obtain ⟨s', h3, _⟩ := c2 k _ (List.getElem?_eq_getElem hk)
        exact (List.getElem?_eq_some_iff.1 h3).1
      obtain ⟨d1, d2⟩ := codesZ_spec (n := n) (c := c + 1) c1 hk2 h0
      refine ⟨?_, c2.trans d2⟩
      rw [show c + (n + 1) = c + 1 + n by omega]; exact d1
    · rw [if_neg h1] at h0; exact absurd h0 h1
theorem Grows.len {S S' : List StateD} (h : Grows S S') : S.length ≤ S'.length := by
  rcases Nat.lt_or_ge S'.length S.length with hl | hl
  · obtain ⟨s', h1, _⟩ := h S'.length _ (List.getElem?_eq_getElem hl)
    rw [List.getElem?_eq_none (Nat.le_refl _)] at h1; cases h1
  · exact hl
theorem Made.next' {g : GlD} {B : List Nat} {S : List StateD} {k : Nat} {s : StateD} (hs : S[k]? = some s) (hm : Made g B S k (codesD (s.r.length : Int)).toNat) : Made g B S (k + 1) 0 := by
  refine ⟨hm.base, fun i t ht => ?_, hm.rule, hm.next⟩
  have := hm.cnt i t ht
  unfold doneZ at this ⊢
  by_cases h1 : i < k
  · rw [if_pos h1] at this; rw [if_pos (by omega)]; exact this
  · by_cases h2 : i = k
    · subst h2
      rw [if_neg h1, if_pos rfl] at this
      rw [if_pos (by omega)]
      rw [hs] at ht; cases ht; exact this
    · rw [if_neg h1, if_neg h2] at this
      rw [if_neg (by omega)]
      by_cases h3 : i = k + 1
      · rw [if_pos h3]; exact this
      · rw [if_neg h3]; exact this
theorem allZ_spec {g : GlD} {B : List Nat} : ∀ {n k : Nat} {S : List StateD}, Made g B S k 0 → k ≤ S.length → k + n = 256 → (allZ g B n k S).1 = 0 → Made g B (allZ g B n k S).2 (allZ g B n k S).2.length 0 ∧ Grows S (allZ g B n k S).2
  | 0, k, S, hm, hk, hn, h0 => by
    have : k = S.length := by have := hm.base.few; omega
    exact ⟨by rw [this] at hm; exact hm, Grows.refl _⟩
  | n + 1, k, S, hm, hk, hn, h0 => by
    rw [allZ_succ] at h0 ⊢
    by_cases h1 : k < S.length
    · rw [if_pos h1] at h0 ⊢
      obtain ⟨s, hs⟩ : ∃ s, S[k]? = some s := ⟨_, List.getElem?_eq_getElem h1⟩
      have hgd : S.getD k noS = s := by rw [List.getD_eq_getElem?_getD, hs]; rfl
      rw [hgd] at h0 ⊢
      by_cases h2 : (codesZ g B k (codesD (s.r.length : Int)).toNat 0 S).1 = 0
      · rw [if_pos h2] at h0 ⊢
        obtain ⟨c1, c2⟩ := codesZ_spec (c := 0) hm h1 h2
        have hz : ((0 : Nat) : Int) = 0 := rfl
        rw [hz, Nat.zero_add] at c1
        rw [hz] at c2
        obtain ⟨s', h3, h4⟩ := c2 k s hs
        have hr : s'.r = s.r := by
          rw [(hm.base.ok s (List.mem_of_getElem? hs)).2.1, (c1.base.ok s' (List.mem_of_getElem? h3)).2.1, h4]
        have c3 := Made.next' h3 (by rw [hr]; exact c1)
        obtain ⟨d1, d2⟩ := allZ_spec (n := n) c3 (by have := (List.getElem?_eq_some_iff.1 h3).1; omega) (by omega) h0
        exact ⟨d1, c2.trans d2⟩
      · rw [if_neg h2] at h0; exact absurd h0 h2
    · rw [if_neg h1]
      have : k = S.length := by omega
      exact ⟨by rw [this] at hm; exact hm, Grows.refl _⟩
theorem made0 (g : GlD) (B : List Nat) : Made g B [noS] 0 0 := by
  have h1 : ∀ (i : Nat) s, [noS][i]? = some s → i = 0 ∧ s = noS := fun i s h => by
    cases i with
    | zero => simp at h; exact ⟨rfl, h.symm⟩
    | succ i => simp at h
  refine ⟨⟨fun s hs => ?_, by simp, ⟨noS, rfl, rfl⟩, fun i s hi hs => ?_, fun i j s t hs ht _ => ?_⟩, fun i s hs => ?_, fun i s q ru hs hq => ?_, fun i s q row hs hq => ?_⟩
  · simp at hs; subst hs; exact ⟨rfl, rfl, Nat.zero_le _⟩
  · have := (h1 i s hs).1; omega
  · rw [(h1 i s hs).1, (h1 j t ht).1]
  · obtain ⟨rfl, rfl⟩ := h1 i s hs; exact ⟨rfl, rfl⟩
  · obtain ⟨rfl, rfl⟩ := h1 i s hs; simp [noS] at hq
  · obtain ⟨rfl, rfl⟩ := h1 i s hs; simp [noS] at hq
theorem all_made {g : GlD} {B : List Nat} (h0 : (allZ g B 256 0 [noS]).1 = 0) : Made g B (allZ g B 256 0 [noS]).2 (allZ g B 256 0 [noS]).2.length 0 := (allZ_spec (made0 g B) (Nat.zero_le _) rfl h0).1
theorem Made.codes {g : GlD} {B : List Nat} {S : List StateD} (hm : Made g B S S.length 0) {i : Nat} {s : StateD} (hs : S[i]? = some s) : s.rule.length = (codesD (s.r.length : Int)).toNat ∧ s.next.length = (codesD (s.r.length : Int)).toNat := by
  have := hm.cnt i s hs
  unfold doneZ at this
  rw [if_pos (List.getElem?_eq_some_iff.1 hs).1] at this
  exact this
end V
end Go.Proofs.Ytmmdcdjkmakgpaa
set_option linter.unusedVariables false
set_option linter.unusedSimpArgs false
namespace Go.Proofs.Ytmmdcdjkmakgpaa
namespace V
open PA
theorem ofZ_ok {g : GlD} (h : (ofZ g).1 = 0) : rightD g = true ∧ ∃ S, (ofZ g).2 = ofD g S ∧ Made g (ofB g) S S.length 0 ∧ (allZ g (ofB g) 256 0 [noS]) = (0, S) := by
  unfold ofZ at h ⊢
  cases hr : rightD g with
  | false => rw [hr, if_neg (by decide)] at h; exact absurd h (by show ¬ (1 : Int) = 0; decide)
  | true =>
    rw [hr, if_pos rfl] at h
    rw [if_pos rfl]
    by_cases hz : (allZ g (ofB g) 256 0 [noS]).1 = 0
    · rw [if_pos hz]
      exact ⟨rfl, _, rfl, all_made hz, by rw [← hz]⟩
    · rw [if_neg hz] at h; exact absurd h hz
theorem ofB_many (g : GlD) : (ofB g).length = many (setsL g.p) := by
  unfold ofB
  rw [firstZ_cls, List.length_map, List.length_range]
end V
end Go.Proofs.Ytmmdcdjkmakgpaa
set_option linter.unusedVariables false
set_option linter.unusedSimpArgs false
namespace Go.Proofs.Ytmmdcdjkmakgpaa
namespace V
attribute [local irreducible] callPre callP bindP
abbrev i_slices_ContainsFunc_api_State_api_State : FuncId := 42
abbrev i_auto_checker_state : FuncId := 44
abbrev i_slices_IndexFunc_api_State_api_State : FuncId := 76
abbrev i_slices_ContainsFunc_api_Move_api_Move : FuncId := 78
abbrev i_auto_checker_state_1 : FuncId := 79
abbrev i_auto_checker_move : FuncId := 80
abbrev i_slices_IndexFunc_api_Move_api_Move : FuncId := 99
abbrev i_slices_Contains_int_int : FuncId := 100
abbrev i_slices_Index_int_int : FuncId := 108
@[irreducible] def ref11_Right_j2 (ro : Ro) (K : KV) : Env → T Obj → Nat → Prop := fun e h nx => ∃ h144, Sub h144 h ∧ K (Value.bool true) h144 (nx + 1)
@[irreducible] def ref11_Right_L1 (ro : Ro) : PT := fun e h nx Q => bindP (fwdP 258 (e 1)) fun t79_145 => bindP (load1 ro h t79_145) fun t80_146 => bindP (lenSl t80_146) fun t81_147 => bindP (intB .lss (e 5) t81_147) fun t82_148 => condP t82_148 (bindP (loadA ro h 259 (e 1)) fun t85_149 => bindP (fwdP 258 (e 1)) fun t86_150 => bindP (load1 ro h t86_150) fun t87_151 => bindP (ixSl 4 t87_151 (e 5)) fun t89_152 => bindP (loadA ro h 4 t89_152) fun t90_153 => callP Try.prog ro i_ref11_state [t85_149, t90_153] h (nx + 13) fun t91_154 h155 n156 => bindP (unV .not t91_154) fun t92_157 => condP t92_157 (Q .ret (puts e [(78, (e 5)), (79, t79_145), (80, t80_146), (81, t81_147), (82, t82_148), (85, t85_149), (86, t86_150), (87, t87_151), (88, (e 5)), (89, t89_152), (90, t90_153), (91, t91_154), (92, t92_157), (2, (Value.bool false))]) h155 (n156 + 1)) (bindP (intB .add (e 5) (Value.int IntKind.i64 1)) fun t84_158 => Q .normal (puts e [(78, (e 5)), (79, t79_145), (80, t80_146), (81, t81_147), (82, t82_148), (85, t85_149), (86, t86_150), (87, t87_151), (88, (e 5)), (89, t89_152), (90, t90_153), (91, t91_154), (92, t92_157), (83, (e 5)), (84, t84_158), (5, t84_158)]) h155 (n156 + 3))) (Q (.exit 2) (puts e [(78, (e 5)), (79, t79_145), (80, t80_146), (81, t81_147), (82, t82_148)]) h (nx + 5))
@[irreducible] def ref11_Right_j1 (ro : Ro) (K : KV) : Env → T Obj → Nat → Prop := fun e h nx => loopP (ref11_Right_L1 ro) (puts e [(5, (Value.int IntKind.i64 0))]) h (nx + 1) fun x162 e159 h160 n161 => exP x162 (ref11_Right_j2 ro K e159 h160 n161) (fun i163 => beqP (Nat.beq i163 2) (ref11_Right_j2 ro K e159 h160 n161) (False)) (∃ h164, Sub h164 h160 ∧ K (e159 2) h164 n161)
@[irreducible] def ref11_Right_L2 (ro : Ro) : PT := fun e h nx Q => bindP (fwdP 257 (e 1)) fun t47_165 => bindP (load1 ro h t47_165) fun t48_166 => bindP (lenSl t48_166) fun t49_167 => bindP (intB .lss (e 3) t49_167) fun t50_168 => condP t50_168 (bindP (fwdP 257 (e 1)) fun t53_169 => bindP (load1 ro h t53_169) fun t54_170 => bindP (ixSl 2 t54_170 (e 3)) fun t56_171 => bindP (loadA ro h 2 t56_171) fun t57_172 => bindP (zer Try.prog y_a2_int) fun z173 => newP h (nx + 10) (.cells z173.cells y_a2_int) fun h174 => bindP (storeN 2 h174 (ptr (nx + 10)) t57_172) fun h175 => bindP (ixArr 2 1 (ptr (nx + 10)) (Value.int IntKind.i64 0)) fun t58_176 => bindP (load1 ro h175 t58_176) fun t59_177 => bindP (intB .lss t59_177 (Value.int IntKind.i64 1)) fun t60_178 => ifP t60_178 false h175 (nx + 16) (fun k179 => bindP (ixArr 2 1 (ptr (nx + 10)) (Value.int IntKind.i64 0)) fun t62_183 => k179 t62_183 h175 (nx + 17)) fun t62_180 h181 n182 => ifP t60_178 false h181 n182 (fun k184 => bindP (load1 ro h181 t62_180) fun t63_188 => k184 t63_188 h181 (n182 + 1)) fun t63_185 h186 n187 => ifP t60_178 false h186 n187 (fun k189 => bindP (ixArr 2 1 (ptr (nx + 10)) (Value.int IntKind.i64 1)) fun t64_193 => k189 t64_193 h186 (n187 + 1)) fun t64_190 h191 n192 => ifP t60_178 false h191 n192 (fun k194 => bindP (load1 ro h191 t64_190) fun t65_198 => k194 t65_198 h191 (n192 + 1)) fun t65_195 h196 n197 => ifP t60_178 false h196 n197 (fun k199 => bindP (intB .gtr t63_185 t65_195) fun t66_203 => k199 t66_203 h196 (n197 + 1)) fun t66_200 h201 n202 => bindP (pickV t60_178 (Value.bool true) t66_200) fun t67_204 => ifP t67_204 false h201 (n202 + 2) (fun k205 => bindP (ixArr 2 1 (ptr (nx + 10)) (Value.int IntKind.i64 1)) fun t69_209 => k205 t69_209 h201 (n202 + 3)) fun t69_206 h207 n208 => ifP t67_204 false h207 n208 (fun k210 => bindP (load1 ro h207 t69_206) fun t70_214 => k210 t70_214 h207 (n208 + 1)) fun t70_211 h212 n213 => ifP t67_204 false h212 n213 (fun k215 => bindP (intB .lss t70_211 (Value.int IntKind.i64 2)) fun t71_219 => k215 t71_219 h212 (n213 + 1)) fun t71_216 h217 n218 => bindP (pickV t67_204 (Value.bool true) t71_216) fun t72_220 => ifP t72_220 false h217 (n218 + 2) (fun k221 => bindP (ixArr 2 1 (ptr (nx + 10)) (Value.int IntKind.i64 1)) fun t74_225 => k221 t74_225 h217 (n218 + 3)) fun t74_222 h223 n224 => ifP t72_220 false h223 n224 (fun k226 => bindP (load1 ro h223 t74_222) fun t75_230 => k226 t75_230 h223 (n224 + 1)) fun t75_227 h228 n229 => ifP t72_220 false h228 n229 (fun k231 => bindP (intB .gtr t75_227 (Value.int IntKind.i64 4096)) fun t76_235 => k231 t76_235 h228 (n229 + 1)) fun t76_232 h233 n234 => bindP (pickV t72_220 (Value.bool true) t76_232) fun t77_236 => condP t77_236 (Q .ret (puts e [(46, (e 3)), (47, t47_165), (48, t48_166), (49, t49_167), (50, t50_168), (53, t53_169), (54, t54_170), (55, (e 3)), (56, t56_171), (57, t57_172), (4, (ptr (nx + 10))), (58, t58_176), (59, t59_177), (60, t60_178), (61, t60_178), (62, t62_180), (63, t63_185), (64, t64_190), (65, t65_195), (66, t66_200), (67, t67_204), (68, t67_204), (69, t69_206), (70, t70_211), (71, t71_216), (72, t72_220), (73, t72_220), (74, t74_222), (75, t75_227), (76, t76_232), (77, t77_236), (2, (Value.bool false))]) h233 (n234 + 2)) (bindP (intB .add (e 3) (Value.int IntKind.i64 1)) fun t52_237 => Q .normal (puts e [(46, (e 3)), (47, t47_165), (48, t48_166), (49, t49_167), (50, t50_168), (53, t53_169), (54, t54_170), (55, (e 3)), (56, t56_171), (57, t57_172), (4, (ptr (nx + 10))), (58, t58_176), (59, t59_177), (60, t60_178), (61, t60_178), (62, t62_180), (63, t63_185), (64, t64_190), (65, t65_195), (66, t66_200), (67, t67_204), (68, t67_204), (69, t69_206), (70, t70_211), (71, t71_216), (72, t72_220), (73, t72_220), (74, t74_222), (75, t75_227), (76, t76_232), (77, t77_236), (51, (e 3)), (52, t52_237), (3, t52_237)]) h233 (n234 + 4))) (Q (.exit 0) (puts e [(46, (e 3)), (47, t47_165), (48, t48_166), (49, t49_167), (50, t50_168)]) h (nx + 5))
@[irreducible] def ref11_Right (ro : Ro) (v0 : Value) (h : T Obj) (nx : Nat) (K : KV) : Prop := newP h nx (.cells (Value.cells v0) y_api_Auto) fun h1 => bindP (fwdP 0 (ptr nx)) fun t6_2 => bindP (loadA ro h1 257 t6_2) fun t7_3 => callP Try.prog ro i_ref02_Right [t7_3] h1 (nx + 5) fun t8_4 h5 n6 => bindP (unV .not t8_4) fun t9_7 => ifP t9_7 false h5 (n6 + 2) (fun k8 => bindP (fwdP 257 (ptr nx)) fun t11_12 => k8 t11_12 h5 (n6 + 3)) fun t11_9 h10 n11 => ifP t9_7 false h10 n11 (fun k13 => bindP (load1 ro h10 t11_9) fun t12_17 => k13 t12_17 h10 (n11 + 1)) fun t12_14 h15 n16 => ifP t9_7 false h15 n16 (fun k18 => bindP (lenSl t12_14) fun t13_22 => k18 t13_22 h15 (n16 + 1)) fun t13_19 h20 n21 => ifP t9_7 false h20 n21 (fun k23 => bindP (intB .gtr t13_19 (Value.int IntKind.i64 512)) fun t14_27 => k23 t14_27 h20 (n21 + 1)) fun t14_24 h25 n26 => bindP (pickV t9_7 (Value.bool true) t14_24) fun t15_28 => ifP t15_28 false h25 (n26 + 2) (fun k29 => bindP (fwdP 258 (ptr nx)) fun t17_33 => k29 t17_33 h25 (n26 + 3)) fun t17_30 h31 n32 => ifP t15_28 false h31 n32 (fun k34 => bindP (load1 ro h31 t17_30) fun t18_38 => k34 t18_38 h31 (n32 + 1)) fun t18_35 h36 n37 => ifP t15_28 false h36 n37 (fun k39 => bindP (lenSl t18_35) fun t19_43 => k39 t19_43 h36 (n37 + 1)) fun t19_40 h41 n42 => ifP t15_28 false h41 n42 (fun k44 => bindP (intB .lss t19_40 (Value.int IntKind.i64 1)) fun t20_48 => k44 t20_48 h41 (n42 + 1)) fun t20_45 h46 n47 => bindP (pickV t15_28 (Value.bool true) t20_45) fun t21_49 => ifP t21_49 false h46 (n47 + 2) (fun k50 => bindP (fwdP 258 (ptr nx)) fun t23_54 => k50 t23_54 h46 (n47 + 3)) fun t23_51 h52 n53 => ifP t21_49 false h52 n53 (fun k55 => bindP (load1 ro h52 t23_51) fun t24_59 => k55 t24_59 h52 (n53 + 1)) fun t24_56 h57 n58 => ifP t21_49 false h57 n58 (fun k60 => bindP (lenSl t24_56) fun t25_64 => k60 t25_64 h57 (n58 + 1)) fun t25_61 h62 n63 => ifP t21_49 false h62 n63 (fun k65 => bindP (intB .gtr t25_61 (Value.int IntKind.i64 256)) fun t26_69 => k65 t26_69 h62 (n63 + 1)) fun t26_66 h67 n68 => bindP (pickV t21_49 (Value.bool true) t26_66) fun t27_70 => ifP t27_70 false h67 (n68 + 2) (fun k71 => bindP (fwdP 258 (ptr nx)) fun t29_75 => k71 t29_75 h67 (n68 + 3)) fun t29_72 h73 n74 => ifP t27_70 false h73 n74 (fun k76 => bindP (load1 ro h73 t29_72) fun t30_80 => k76 t30_80 h73 (n74 + 1)) fun t30_77 h78 n79 => ifP t27_70 false h78 n79 (fun k81 => bindP (ixSl 4 t30_77 (Value.int IntKind.i64 0)) fun t31_85 => k81 t31_85 h78 (n79 + 1)) fun t31_82 h83 n84 => ifP t27_70 false h83 n84 (fun k86 => bindP (fwdP 0 t31_82) fun t32_90 => k86 t32_90 h83 (n84 + 1)) fun t32_87 h88 n89 => ifP t27_70 false h88 n89 (fun k91 => bindP (load1 ro h88 t32_87) fun t33_95 => k91 t33_95 h88 (n89 + 1)) fun t33_92 h93 n94 => ifP t27_70 false h93 n94 (fun k96 => bindP (lenSl t33_92) fun t34_100 => k96 t34_100 h93 (n94 + 1)) fun t34_97 h98 n99 => ifP t27_70 false h98 n99 (fun k101 => bindP (intB .gtr t34_97 (Value.int IntKind.i64 0)) fun t35_105 => k101 t35_105 h98 (n99 + 1)) fun t35_102 h103 n104 => bindP (pickV t27_70 (Value.bool true) t35_102) fun t36_106 => ifP t36_106 false h103 (n104 + 2) (fun k107 => bindP (fwdP 258 (ptr nx)) fun t38_111 => k107 t38_111 h103 (n104 + 3)) fun t38_108 h109 n110 => ifP t36_106 false h109 n110 (fun k112 => bindP (load1 ro h109 t38_108) fun t39_116 => k112 t39_116 h109 (n110 + 1)) fun t39_113 h114 n115 => ifP t36_106 false h114 n115 (fun k117 => bindP (ixSl 4 t39_113 (Value.int IntKind.i64 0)) fun t40_121 => k117 t40_121 h114 (n115 + 1)) fun t40_118 h119 n120 => ifP t36_106 false h119 n120 (fun k122 => bindP (fwdP 1 t40_118) fun t41_126 => k122 t41_126 h119 (n120 + 1)) fun t41_123 h124 n125 => ifP t36_106 false h124 n125 (fun k127 => bindP (load1 ro h124 t41_123) fun t42_131 => k127 t42_131 h124 (n125 + 1)) fun t42_128 h129 n130 => ifP t36_106 false h129 n130 (fun k132 => bindP (lenSl t42_128) fun t43_136 => k132 t43_136 h129 (n130 + 1)) fun t43_133 h134 n135 => ifP t36_106 false h134 n135 (fun k137 => bindP (intB .gtr t43_133 (Value.int IntKind.i64 0)) fun t44_141 => k137 t44_141 h134 (n135 + 1)) fun t44_138 h139 n140 => bindP (pickV t36_106 (Value.bool true) t44_138) fun t45_142 => condP t45_142 (∃ h143, Sub h143 h139 ∧ K (Value.bool false) h143 (n140 + 2)) (loopP (ref11_Right_L2 ro) (puts (entE [v0]) [(1, (ptr nx)), (2, (Value.bool false)), (6, t6_2), (7, t7_3), (8, t8_4), (9, t9_7), (10, t9_7), (11, t11_9), (12, t12_14), (13, t13_19), (14, t14_24), (15, t15_28), (16, t15_28), (17, t17_30), (18, t18_35), (19, t19_40), (20, t20_45), (21, t21_49), (22, t21_49), (23, t23_51), (24, t24_56), (25, t25_61), (26, t26_66), (27, t27_70), (28, t27_70), (29, t29_72), (30, t30_77), (31, t31_82), (32, t32_87), (33, t33_92), (34, t34_97), (35, t35_102), (36, t36_106), (37, t36_106), (38, t38_108), (39, t39_113), (40, t40_118), (41, t41_123), (42, t42_128), (43, t43_133), (44, t44_138), (45, t45_142), (3, (Value.int IntKind.i64 0))]) h139 (n140 + 2) fun x241 e238 h239 n240 => exP x241 (ref11_Right_j1 ro K e238 h239 n240) (fun i242 => beqP (Nat.beq i242 0) (ref11_Right_j1 ro K e238 h239 n240) (False)) (∃ h243, Sub h243 h239 ∧ K (e238 2) h243 n240))
theorem ref11_Right_eq (ro : Ro) (v0 : Value) (h : T Obj) (nx : Nat) (K : KV) : callPre Try.prog ro (callP Try.prog ro) Try.f17 [v0] h nx K = ref11_Right ro v0 h nx K := by kernel_rfl
theorem ref11_Right_of {ro : Ro} {v0 : Value} {h : T Obj} {nx : Nat} {K : KV} (hw : ref11_Right ro v0 h nx K) : callP Try.prog ro i_ref11_Right [v0] h nx K := callP_by (P := Try.prog) (fn := Try.f17) (by kernel_rfl) (by kernel_rfl) (by kernel_rfl) (Eq.mpr (ref11_Right_eq ro v0 h nx K) hw)
@[irreducible] def auto_Right_j1 (ro : Ro) (K : KV) : Env → T Obj → Nat → Prop := fun e h nx => bindP (loadA ro h 259 (e 1)) fun t72_143 => bindP (buildV Try.prog y_auto_checker [(0, t72_143)]) fun t73_144 => bindP (zer Try.prog y_auto_checker) fun z145 => newP h (nx + 2) (.cells z145.cells y_auto_checker) fun h146 => bindP (storeN 259 h146 (ptr (nx + 2)) t73_144) fun h147 => bindP (fwdP 258 (e 1)) fun t74_148 => bindP (load1 ro h147 t74_148) fun t75_149 => callP Try.prog ro i_slices_ContainsFunc_api_State_api_State [t75_149, (.func (.func i_auto_Right_1) #[] #[(ptr (nx + 2))])] h147 (nx + 8) fun t77_150 h151 n152 => bindP (unV .not t77_150) fun t78_153 => ∃ h154, Sub h154 h151 ∧ K t78_153 h154 (n152 + 2)
@[irreducible] def auto_Right_L1 (ro : Ro) : PT := fun e h nx Q => bindP (intB .lss (e 47) (e 46)) fun t48_158 => condP t48_158 (bindP (ixSl 2 (e 45) (e 47)) fun t49_159 => bindP (loadA ro h 2 t49_159) fun t50_160 => bindP (zer Try.prog y_a2_int) fun z161 => newP h (nx + 3) (.cells z161.cells y_a2_int) fun h162 => bindP (storeN 2 h162 (ptr (nx + 3)) t50_160) fun h163 => bindP (ixArr 2 1 (ptr (nx + 3)) (Value.int IntKind.i64 0)) fun t51_164 => bindP (load1 ro h163 t51_164) fun t52_165 => bindP (intB .lss t52_165 (Value.int IntKind.i64 1)) fun t53_166 => ifP t53_166 false h163 (nx + 9) (fun k167 => bindP (ixArr 2 1 (ptr (nx + 3)) (Value.int IntKind.i64 0)) fun t55_171 => k167 t55_171 h163 (nx + 10)) fun t55_168 h169 n170 => ifP t53_166 false h169 n170 (fun k172 => bindP (load1 ro h169 t55_168) fun t56_176 => k172 t56_176 h169 (n170 + 1)) fun t56_173 h174 n175 => ifP t53_166 false h174 n175 (fun k177 => bindP (ixArr 2 1 (ptr (nx + 3)) (Value.int IntKind.i64 1)) fun t57_181 => k177 t57_181 h174 (n175 + 1)) fun t57_178 h179 n180 => ifP t53_166 false h179 n180 (fun k182 => bindP (load1 ro h179 t57_178) fun t58_186 => k182 t58_186 h179 (n180 + 1)) fun t58_183 h184 n185 => ifP t53_166 false h184 n185 (fun k187 => bindP (intB .gtr t56_173 t58_183) fun t59_191 => k187 t59_191 h184 (n185 + 1)) fun t59_188 h189 n190 => bindP (pickV t53_166 (Value.bool true) t59_188) fun t60_192 => ifP t60_192 false h189 (n190 + 2) (fun k193 => bindP (ixArr 2 1 (ptr (nx + 3)) (Value.int IntKind.i64 1)) fun t62_197 => k193 t62_197 h189 (n190 + 3)) fun t62_194 h195 n196 => ifP t60_192 false h195 n196 (fun k198 => bindP (load1 ro h195 t62_194) fun t63_202 => k198 t63_202 h195 (n196 + 1)) fun t63_199 h200 n201 => ifP t60_192 false h200 n201 (fun k203 => bindP (intB .lss t63_199 (Value.int IntKind.i64 2)) fun t64_207 => k203 t64_207 h200 (n201 + 1)) fun t64_204 h205 n206 => bindP (pickV t60_192 (Value.bool true) t64_204) fun t65_208 => ifP t65_208 false h205 (n206 + 2) (fun k209 => bindP (ixArr 2 1 (ptr (nx + 3)) (Value.int IntKind.i64 1)) fun t67_213 => k209 t67_213 h205 (n206 + 3)) fun t67_210 h211 n212 => ifP t65_208 false h211 n212 (fun k214 => bindP (load1 ro h211 t67_210) fun t68_218 => k214 t68_218 h211 (n212 + 1)) fun t68_215 h216 n217 => ifP t65_208 false h216 n217 (fun k219 => bindP (intB .gtr t68_215 (Value.int IntKind.i64 4096)) fun t69_223 => k219 t69_223 h216 (n217 + 1)) fun t69_220 h221 n222 => bindP (pickV t65_208 (Value.bool true) t69_220) fun t70_224 => condP t70_224 (Q .ret (puts e [(48, t48_158), (49, t49_159), (50, t50_160), (4, (ptr (nx + 3))), (51, t51_164), (52, t52_165), (53, t53_166), (54, t53_166), (55, t55_168), (56, t56_173), (57, t57_178), (58, t58_183), (59, t59_188), (60, t60_192), (61, t60_192), (62, t62_194), (63, t63_199), (64, t64_204), (65, t65_208), (66, t65_208), (67, t67_210), (68, t68_215), (69, t69_220), (70, t70_224), (2, (Value.bool false))]) h221 (n222 + 2)) (bindP (intB .add (e 47) (Value.int IntKind.i64 1)) fun t71_225 => Q .normal (puts e [(48, t48_158), (49, t49_159), (50, t50_160), (4, (ptr (nx + 3))), (51, t51_164), (52, t52_165), (53, t53_166), (54, t53_166), (55, t55_168), (56, t56_173), (57, t57_178), (58, t58_183), (59, t59_188), (60, t60_192), (61, t60_192), (62, t62_194), (63, t63_199), (64, t64_204), (65, t65_208), (66, t65_208), (67, t67_210), (68, t68_215), (69, t69_220), (70, t70_224), (71, t71_225), (47, t71_225)]) h221 (n222 + 3))) (Q (.exit 0) (puts e [(48, t48_158)]) h (nx + 1))
@[irreducible] def auto_Right (ro : Ro) (v0 : Value) (h : T Obj) (nx : Nat) (K : KV) : Prop := newP h nx (.cells (Value.cells v0) y_api_Auto) fun h1 => bindP (fwdP 0 (ptr nx)) fun t6_2 => bindP (loadA ro h1 257 t6_2) fun t7_3 => callP Try.prog ro i_split_Right [t7_3] h1 (nx + 40) fun t8_4 h5 n6 => bindP (unV .not t8_4) fun t9_7 => ifP t9_7 false h5 n6 (fun k8 => bindP (fwdP 257 (ptr nx)) fun t11_12 => k8 t11_12 h5 n6) fun t11_9 h10 n11 => ifP t9_7 false h10 n11 (fun k13 => bindP (load1 ro h10 t11_9) fun t12_17 => k13 t12_17 h10 n11) fun t12_14 h15 n16 => ifP t9_7 false h15 n16 (fun k18 => bindP (lenSl t12_14) fun t13_22 => k18 t13_22 h15 n16) fun t13_19 h20 n21 => ifP t9_7 false h20 n21 (fun k23 => bindP (intB .gtr t13_19 (Value.int IntKind.i64 512)) fun t14_27 => k23 t14_27 h20 n21) fun t14_24 h25 n26 => bindP (pickV t9_7 (Value.bool true) t14_24) fun t15_28 => ifP t15_28 false h25 n26 (fun k29 => bindP (fwdP 258 (ptr nx)) fun t17_33 => k29 t17_33 h25 n26) fun t17_30 h31 n32 => ifP t15_28 false h31 n32 (fun k34 => bindP (load1 ro h31 t17_30) fun t18_38 => k34 t18_38 h31 n32) fun t18_35 h36 n37 => ifP t15_28 false h36 n37 (fun k39 => bindP (lenSl t18_35) fun t19_43 => k39 t19_43 h36 n37) fun t19_40 h41 n42 => ifP t15_28 false h41 n42 (fun k44 => bindP (intB .lss t19_40 (Value.int IntKind.i64 1)) fun t20_48 => k44 t20_48 h41 n42) fun t20_45 h46 n47 => bindP (pickV t15_28 (Value.bool true) t20_45) fun t21_49 => ifP t21_49 false h46 n47 (fun k50 => bindP (fwdP 258 (ptr nx)) fun t23_54 => k50 t23_54 h46 n47) fun t23_51 h52 n53 => ifP t21_49 false h52 n53 (fun k55 => bindP (load1 ro h52 t23_51) fun t24_59 => k55 t24_59 h52 n53) fun t24_56 h57 n58 => ifP t21_49 false h57 n58 (fun k60 => bindP (lenSl t24_56) fun t25_64 => k60 t25_64 h57 n58) fun t25_61 h62 n63 => ifP t21_49 false h62 n63 (fun k65 => bindP (intB .gtr t25_61 (Value.int IntKind.i64 256)) fun t26_69 => k65 t26_69 h62 n63) fun t26_66 h67 n68 => bindP (pickV t21_49 (Value.bool true) t26_66) fun t27_70 => ifP t27_70 false h67 n68 (fun k71 => bindP (fwdP 258 (ptr nx)) fun t29_75 => k71 t29_75 h67 n68) fun t29_72 h73 n74 => ifP t27_70 false h73 n74 (fun k76 => bindP (load1 ro h73 t29_72) fun t30_80 => k76 t30_80 h73 n74) fun t30_77 h78 n79 => ifP t27_70 false h78 n79 (fun k81 => bindP (ixSl 4 t30_77 (Value.int IntKind.i64 0)) fun t31_85 => k81 t31_85 h78 n79) fun t31_82 h83 n84 => ifP t27_70 false h83 n84 (fun k86 => bindP (fwdP 0 t31_82) fun t32_90 => k86 t32_90 h83 n84) fun t32_87 h88 n89 => ifP t27_70 false h88 n89 (fun k91 => bindP (load1 ro h88 t32_87) fun t33_95 => k91 t33_95 h88 n89) fun t33_92 h93 n94 => ifP t27_70 false h93 n94 (fun k96 => bindP (lenSl t33_92) fun t34_100 => k96 t34_100 h93 n94) fun t34_97 h98 n99 => ifP t27_70 false h98 n99 (fun k101 => bindP (fwdP 258 (ptr nx)) fun t35_105 => k101 t35_105 h98 n99) fun t35_102 h103 n104 => ifP t27_70 false h103 n104 (fun k106 => bindP (load1 ro h103 t35_102) fun t36_110 => k106 t36_110 h103 n104) fun t36_107 h108 n109 => ifP t27_70 false h108 n109 (fun k111 => bindP (ixSl 4 t36_107 (Value.int IntKind.i64 0)) fun t37_115 => k111 t37_115 h108 n109) fun t37_112 h113 n114 => ifP t27_70 false h113 n114 (fun k116 => bindP (fwdP 1 t37_112) fun t38_120 => k116 t38_120 h113 n114) fun t38_117 h118 n119 => ifP t27_70 false h118 n119 (fun k121 => bindP (load1 ro h118 t38_117) fun t39_125 => k121 t39_125 h118 n119) fun t39_122 h123 n124 => ifP t27_70 false h123 n124 (fun k126 => bindP (lenSl t39_122) fun t40_130 => k126 t40_130 h123 n124) fun t40_127 h128 n129 => ifP t27_70 false h128 n129 (fun k131 => bindP (intB .add t34_97 t40_127) fun t41_135 => k131 t41_135 h128 n129) fun t41_132 h133 n134 => ifP t27_70 false h133 n134 (fun k136 => bindP (intB .gtr t41_132 (Value.int IntKind.i64 0)) fun t42_140 => k136 t42_140 h133 n134) fun t42_137 h138 n139 => bindP (pickV t27_70 (Value.bool true) t42_137) fun t43_141 => condP t43_141 (∃ h142, Sub h142 h138 ∧ K (Value.bool false) h142 (n139 + 1)) (bindP (fwdP 257 (ptr nx)) fun t44_155 => bindP (load1 ro h138 t44_155) fun t45_156 => bindP (lenSl t45_156) fun t46_157 => loopP (auto_Right_L1 ro) (puts (entE [v0]) [(1, (ptr nx)), (2, (Value.bool false)), (6, t6_2), (7, t7_3), (8, t8_4), (9, t9_7), (10, t9_7), (11, t11_9), (12, t12_14), (13, t13_19), (14, t14_24), (15, t15_28), (16, t15_28), (17, t17_30), (18, t18_35), (19, t19_40), (20, t20_45), (21, t21_49), (22, t21_49), (23, t23_51), (24, t24_56), (25, t25_61), (26, t26_66), (27, t27_70), (28, t27_70), (29, t29_72), (30, t30_77), (31, t31_82), (32, t32_87), (33, t33_92), (34, t34_97), (35, t35_102), (36, t36_107), (37, t37_112), (38, t38_117), (39, t39_122), (40, t40_127), (41, t41_132), (42, t42_137), (43, t43_141), (44, t44_155), (45, t45_156), (46, t46_157), (47, (Value.int IntKind.i64 0))]) h138 (n139 + 4) fun x229 e226 h227 n228 => exP x229 (auto_Right_j1 ro K e226 h227 n228) (fun i230 => beqP (Nat.beq i230 0) (auto_Right_j1 ro K e226 h227 n228) (False)) (∃ h231, Sub h231 h227 ∧ K (e226 2) h231 n228))
theorem auto_Right_eq (ro : Ro) (v0 : Value) (h : T Obj) (nx : Nat) (K : KV) : callPre Try.prog ro (callP Try.prog ro) Try.f22 [v0] h nx K = auto_Right ro v0 h nx K := by kernel_rfl
theorem auto_Right_of {ro : Ro} {v0 : Value} {h : T Obj} {nx : Nat} {K : KV} (hw : auto_Right ro v0 h nx K) : callP Try.prog ro i_auto_Right [v0] h nx K := callP_by (P := Try.prog) (fn := Try.f22) (by kernel_rfl) (by kernel_rfl) (by kernel_rfl) (Eq.mpr (auto_Right_eq ro v0 h nx K) hw)
@[irreducible] def ref09_Right_j1 (ro : Ro) (K : KV) : Env → T Obj → Nat → Prop := fun e h nx => ∃ h45, Sub h45 h ∧ K (Value.bool true) h45 (nx + 1)
@[irreducible] def ref09_Right_L1 (ro : Ro) : PT := fun e h nx Q => bindP (fwdP 1 (e 1)) fun t19_46 => bindP (load1 ro h t19_46) fun t20_47 => bindP (lenSl t20_47) fun t21_48 => bindP (intB .lss (e 3) t21_48) fun t22_49 => condP t22_49 (bindP (fwdP 1 (e 1)) fun t25_50 => bindP (load1 ro h t25_50) fun t26_51 => bindP (ixSl 9 t26_51 (e 3)) fun t28_52 => bindP (loadA ro h 9 t28_52) fun t29_53 => bindP (zer Try.prog y_api_Pos) fun z54 => newP h (nx + 10) (.cells z54.cells y_api_Pos) fun h55 => bindP (storeN 9 h55 (ptr (nx + 10)) t29_53) fun h56 => bindP (fwdP 0 (ptr (nx + 10))) fun t30_57 => bindP (loadA ro h56 4 t30_57) fun t31_58 => bindP (buildV Try.prog y_api_Set []) fun t32_59 => bindP (plainTy Try.prog 20 y_api_Set) fun ks60 => bindP (aggB ks60 .eql t31_58 t32_59) fun t33_61 => ifP t33_61 false h56 (nx + 17) (fun k62 => bindP (fwdP 4 (ptr (nx + 10))) fun t35_66 => k62 t35_66 h56 (nx + 18)) fun t35_63 h64 n65 => ifP t33_61 false h64 n65 (fun k67 => bindP (load1 ro h64 t35_63) fun t36_71 => k67 t36_71 h64 (n65 + 1)) fun t36_68 h69 n70 => ifP t33_61 false h69 n70 (fun k72 => bindP (intB .lss t36_68 (Value.int IntKind.i64 1)) fun t37_76 => k72 t37_76 h69 (n70 + 1)) fun t37_73 h74 n75 => bindP (pickV t33_61 (Value.bool true) t37_73) fun t38_77 => ifP t38_77 false h74 (n75 + 2) (fun k78 => bindP (fwdP 4 (ptr (nx + 10))) fun t40_82 => k78 t40_82 h74 (n75 + 3)) fun t40_79 h80 n81 => ifP t38_77 false h80 n81 (fun k83 => bindP (load1 ro h80 t40_79) fun t41_87 => k83 t41_87 h80 (n81 + 1)) fun t41_84 h85 n86 => ifP t38_77 false h85 n86 (fun k88 => bindP (fwdP 5 (ptr (nx + 10))) fun t42_92 => k88 t42_92 h85 (n86 + 1)) fun t42_89 h90 n91 => ifP t38_77 false h90 n91 (fun k93 => bindP (load1 ro h90 t42_89) fun t43_97 => k93 t43_97 h90 (n91 + 1)) fun t43_94 h95 n96 => ifP t38_77 false h95 n96 (fun k98 => bindP (intB .gtr t41_84 t43_94) fun t44_102 => k98 t44_102 h95 (n96 + 1)) fun t44_99 h100 n101 => bindP (pickV t38_77 (Value.bool true) t44_99) fun t45_103 => ifP t45_103 false h100 (n101 + 2) (fun k104 => bindP (fwdP 5 (ptr (nx + 10))) fun t47_108 => k104 t47_108 h100 (n101 + 3)) fun t47_105 h106 n107 => ifP t45_103 false h106 n107 (fun k109 => bindP (load1 ro h106 t47_105) fun t48_113 => k109 t48_113 h106 (n107 + 1)) fun t48_110 h111 n112 => ifP t45_103 false h111 n112 (fun k114 => bindP (intB .gtr t48_110 (Value.int IntKind.i64 4096)) fun t49_118 => k114 t49_118 h111 (n112 + 1)) fun t49_115 h116 n117 => bindP (pickV t45_103 (Value.bool true) t49_115) fun t50_119 => ifP t50_119 false h116 (n117 + 2) (fun k120 => bindP (fwdP 6 (ptr (nx + 10))) fun t52_124 => k120 t52_124 h116 (n117 + 3)) fun t52_121 h122 n123 => ifP t50_119 false h122 n123 (fun k125 => bindP (load1 ro h122 t52_121) fun t53_129 => k125 t53_129 h122 (n123 + 1)) fun t53_126 h127 n128 => ifP t50_119 false h127 n128 (fun k130 => bindP (intB .lss t53_126 (Value.int IntKind.i64 0)) fun t54_134 => k130 t54_134 h127 (n128 + 1)) fun t54_131 h132 n133 => bindP (pickV t50_119 (Value.bool true) t54_131) fun t55_135 => ifP t55_135 false h132 (n133 + 2) (fun k136 => bindP (fwdP 6 (ptr (nx + 10))) fun t57_140 => k136 t57_140 h132 (n133 + 3)) fun t57_137 h138 n139 => ifP t55_135 false h138 n139 (fun k141 => bindP (load1 ro h138 t57_137) fun t58_145 => k141 t58_145 h138 (n139 + 1)) fun t58_142 h143 n144 => ifP t55_135 false h143 n144 (fun k146 => bindP (intB .geq t58_142 (Value.int IntKind.i64 512)) fun t59_150 => k146 t59_150 h143 (n144 + 1)) fun t59_147 h148 n149 => bindP (pickV t55_135 (Value.bool true) t59_147) fun t60_151 => ifP t60_151 false h148 (n149 + 2) (fun k152 => bindP (fwdP 8 (ptr (nx + 10))) fun t62_156 => k152 t62_156 h148 (n149 + 3)) fun t62_153 h154 n155 => ifP t60_151 false h154 n155 (fun k157 => bindP (load1 ro h154 t62_153) fun t63_161 => k157 t63_161 h154 (n155 + 1)) fun t63_158 h159 n160 => ifP t60_151 false h159 n160 (fun k162 => bindP (fwdP 1 (e 1)) fun t64_166 => k162 t64_166 h159 (n160 + 1)) fun t64_163 h164 n165 => ifP t60_151 false h164 n165 (fun k167 => bindP (load1 ro h164 t64_163) fun t65_171 => k167 t65_171 h164 (n165 + 1)) fun t65_168 h169 n170 => ifP t60_151 false h169 n170 (fun k172 => bindP (lenSl t65_168) fun t66_176 => k172 t66_176 h169 (n170 + 1)) fun t66_173 h174 n175 => ifP t60_151 false h174 n175 (fun k177 => callP Try.prog ro i_ref09_rises [t63_158, t66_173] h174 (n175 + 1) fun t67_181 h182 n183 => k177 t67_181 h182 n183) fun t67_178 h179 n180 => ifP t60_151 false h179 n180 (fun k184 => bindP (unV .not t67_178) fun t68_188 => k184 t68_188 h179 (n180 + 1)) fun t68_185 h186 n187 => bindP (pickV t60_151 (Value.bool true) t68_185) fun t69_189 => condP t69_189 (Q .ret (puts e [(18, (e 3)), (19, t19_46), (20, t20_47), (21, t21_48), (22, t22_49), (25, t25_50), (26, t26_51), (27, (e 3)), (28, t28_52), (29, t29_53), (4, (ptr (nx + 10))), (30, t30_57), (31, t31_58), (32, t32_59), (33, t33_61), (34, t33_61), (35, t35_63), (36, t36_68), (37, t37_73), (38, t38_77), (39, t38_77), (40, t40_79), (41, t41_84), (42, t42_89), (43, t43_94), (44, t44_99), (45, t45_103), (46, t45_103), (47, t47_105), (48, t48_110), (49, t49_115), (50, t50_119), (51, t50_119), (52, t52_121), (53, t53_126), (54, t54_131), (55, t55_135), (56, t55_135), (57, t57_137), (58, t58_142), (59, t59_147), (60, t60_151), (61, t60_151), (62, t62_153), (63, t63_158), (64, t64_163), (65, t65_168), (66, t66_173), (67, t67_178), (68, t68_185), (69, t69_189), (2, (Value.bool false))]) h186 (n187 + 2)) (bindP (intB .add (e 3) (Value.int IntKind.i64 1)) fun t24_190 => Q .normal (puts e [(18, (e 3)), (19, t19_46), (20, t20_47), (21, t21_48), (22, t22_49), (25, t25_50), (26, t26_51), (27, (e 3)), (28, t28_52), (29, t29_53), (4, (ptr (nx + 10))), (30, t30_57), (31, t31_58), (32, t32_59), (33, t33_61), (34, t33_61), (35, t35_63), (36, t36_68), (37, t37_73), (38, t38_77), (39, t38_77), (40, t40_79), (41, t41_84), (42, t42_89), (43, t43_94), (44, t44_99), (45, t45_103), (46, t45_103), (47, t47_105), (48, t48_110), (49, t49_115), (50, t50_119), (51, t50_119), (52, t52_121), (53, t53_126), (54, t54_131), (55, t55_135), (56, t55_135), (57, t57_137), (58, t58_142), (59, t59_147), (60, t60_151), (61, t60_151), (62, t62_153), (63, t63_158), (64, t64_163), (65, t65_168), (66, t66_173), (67, t67_178), (68, t68_185), (69, t69_189), (23, (e 3)), (24, t24_190), (3, t24_190)]) h186 (n187 + 4))) (Q (.exit 0) (puts e [(18, (e 3)), (19, t19_46), (20, t20_47), (21, t21_48), (22, t22_49)]) h (nx + 5))
@[irreducible] def ref09_Right (ro : Ro) (v0 : Value) (h : T Obj) (nx : Nat) (K : KV) : Prop := newP h nx (.cells (Value.cells v0) y_api_Glush) fun h1 => bindP (fwdP 1 (ptr nx)) fun t5_2 => bindP (load1 ro h1 t5_2) fun t6_3 => bindP (lenSl t6_3) fun t7_4 => bindP (intB .gtr t7_4 (Value.int IntKind.i64 512)) fun t8_5 => ifP t8_5 false h1 (nx + 7) (fun k6 => bindP (fwdP 0 (ptr nx)) fun t10_10 => k6 t10_10 h1 (nx + 8)) fun t10_7 h8 n9 => ifP t8_5 false h8 n9 (fun k11 => bindP (load1 ro h8 t10_7) fun t11_15 => k11 t11_15 h8 (n9 + 1)) fun t11_12 h13 n14 => ifP t8_5 false h13 n14 (fun k16 => bindP (fwdP 1 (ptr nx)) fun t12_20 => k16 t12_20 h13 (n14 + 1)) fun t12_17 h18 n19 => ifP t8_5 false h18 n19 (fun k21 => bindP (load1 ro h18 t12_17) fun t13_25 => k21 t13_25 h18 (n19 + 1)) fun t13_22 h23 n24 => ifP t8_5 false h23 n24 (fun k26 => bindP (lenSl t13_22) fun t14_30 => k26 t14_30 h23 (n24 + 1)) fun t14_27 h28 n29 => ifP t8_5 false h28 n29 (fun k31 => callP Try.prog ro i_ref09_rises [t11_12, t14_27] h28 (n29 + 1) fun t15_35 h36 n37 => k31 t15_35 h36 n37) fun t15_32 h33 n34 => ifP t8_5 false h33 n34 (fun k38 => bindP (unV .not t15_32) fun t16_42 => k38 t16_42 h33 (n34 + 1)) fun t16_39 h40 n41 => bindP (pickV t8_5 (Value.bool true) t16_39) fun t17_43 => condP t17_43 (∃ h44, Sub h44 h40 ∧ K (Value.bool false) h44 (n41 + 2)) (loopP (ref09_Right_L1 ro) (puts (entE [v0]) [(1, (ptr nx)), (2, (Value.bool false)), (5, t5_2), (6, t6_3), (7, t7_4), (8, t8_5), (9, t8_5), (10, t10_7), (11, t11_12), (12, t12_17), (13, t13_22), (14, t14_27), (15, t15_32), (16, t16_39), (17, t17_43), (3, (Value.int IntKind.i64 0))]) h40 (n41 + 2) fun x194 e191 h192 n193 => exP x194 (ref09_Right_j1 ro K e191 h192 n193) (fun i195 => beqP (Nat.beq i195 0) (ref09_Right_j1 ro K e191 h192 n193) (False)) (∃ h196, Sub h196 h192 ∧ K (e191 2) h196 n193))
theorem ref09_Right_eq (ro : Ro) (v0 : Value) (h : T Obj) (nx : Nat) (K : KV) : callPre Try.prog ro (callP Try.prog ro) Try.f23 [v0] h nx K = ref09_Right ro v0 h nx K := by kernel_rfl
theorem ref09_Right_of {ro : Ro} {v0 : Value} {h : T Obj} {nx : Nat} {K : KV} (hw : ref09_Right ro v0 h nx K) : callP Try.prog ro i_ref09_Right [v0] h nx K := callP_by (P := Try.prog) (fn := Try.f23) (by kernel_rfl) (by kernel_rfl) (by kernel_rfl) (Eq.mpr (ref09_Right_eq ro v0 h nx K) hw)
@[irreducible] def ref11_state_j1 (ro : Ro) (K : KV) : Env → T Obj → Nat → Prop := fun e h nx => ∃ h122, Sub h122 h ∧ K (Value.bool true) h122 (nx + 1)
@[irreducible] def ref11_state_j2 (ro : Ro) (Q : KE) : Env → T Obj → Nat → Prop := fun e h nx => bindP (intB .add (e 6) (Value.int IntKind.i64 1)) fun t47_124 => Q .normal (puts e [(46, (e 6)), (47, t47_124), (6, t47_124)]) h (nx + 3)
@[irreducible] def ref11_state_L2 (ro : Ro) : PT := fun e h nx Q => bindP (fwdP 3 (e 3)) fun t75_210 => bindP (load1 ro h t75_210) fun t76_211 => bindP (ixSl 1 t76_211 (e 6)) fun t78_212 => bindP (load1 ro h t78_212) fun t79_213 => bindP (lenSl t79_213) fun t80_214 => bindP (intB .lss (e 7) t80_214) fun t81_215 => condP t81_215 (bindP (loadA ro h 259 (e 2)) fun t84_216 => bindP (loadA ro h 4 (e 3)) fun t85_217 => bindP (fwdP 3 (e 3)) fun t86_218 => bindP (load1 ro h t86_218) fun t87_219 => bindP (ixSl 1 t87_219 (e 6)) fun t89_220 => bindP (load1 ro h t89_220) fun t90_221 => bindP (ixSl 2 t90_221 (e 7)) fun t92_222 => bindP (loadA ro h 2 t92_222) fun t93_223 => callP Try.prog ro i_ref11_move [t84_216, t85_217, t93_223] h (nx + 20) fun t94_224 h225 n226 => bindP (unV .not t94_224) fun t95_227 => condP t95_227 (Q .ret (puts e [(74, (e 7)), (75, t75_210), (76, t76_211), (77, (e 6)), (78, t78_212), (79, t79_213), (80, t80_214), (81, t81_215), (84, t84_216), (85, t85_217), (86, t86_218), (87, t87_219), (88, (e 6)), (89, t89_220), (90, t90_221), (91, (e 7)), (92, t92_222), (93, t93_223), (94, t94_224), (95, t95_227), (4, (Value.bool false))]) h225 (n226 + 1)) (bindP (intB .add (e 7) (Value.int IntKind.i64 1)) fun t83_228 => Q .normal (puts e [(74, (e 7)), (75, t75_210), (76, t76_211), (77, (e 6)), (78, t78_212), (79, t79_213), (80, t80_214), (81, t81_215), (84, t84_216), (85, t85_217), (86, t86_218), (87, t87_219), (88, (e 6)), (89, t89_220), (90, t90_221), (91, (e 7)), (92, t92_222), (93, t93_223), (94, t94_224), (95, t95_227), (82, (e 7)), (83, t83_228), (7, t83_228)]) h225 (n226 + 3))) (Q (.exit 2) (puts e [(74, (e 7)), (75, t75_210), (76, t76_211), (77, (e 6)), (78, t78_212), (79, t79_213), (80, t80_214), (81, t81_215)]) h (nx + 8))
@[irreducible] def ref11_state_L1 (ro : Ro) : PT := fun e h nx Q => bindP (intB .lss (e 6) (e 5)) fun t45_123 => condP t45_123 (bindP (fwdP 2 (e 3)) fun t48_125 => bindP (load1 ro h t48_125) fun t49_126 => bindP (ixSl 1 t49_126 (e 6)) fun t51_127 => bindP (load1 ro h t51_127) fun t52_128 => bindP (intB .lss t52_128 (Value.int IntKind.i64 (-1))) fun t53_129 => ifP t53_129 false h (nx + 29) (fun k130 => bindP (fwdP 2 (e 3)) fun t55_134 => k130 t55_134 h (nx + 29)) fun t55_131 h132 n133 => ifP t53_129 false h132 n133 (fun k135 => bindP (load1 ro h132 t55_131) fun t56_139 => k135 t56_139 h132 n133) fun t56_136 h137 n138 => ifP t53_129 false h137 n138 (fun k140 => k140 (e 6) h137 n138) fun t57_141 h142 n143 => ifP t53_129 false h142 n143 (fun k144 => bindP (ixSl 1 t56_136 t57_141) fun t58_148 => k144 t58_148 h142 n143) fun t58_145 h146 n147 => ifP t53_129 false h146 n147 (fun k149 => bindP (load1 ro h146 t58_145) fun t59_153 => k149 t59_153 h146 n147) fun t59_150 h151 n152 => ifP t53_129 false h151 n152 (fun k154 => bindP (intB .geq t59_150 (Value.int IntKind.i64 512)) fun t60_158 => k154 t60_158 h151 n152) fun t60_155 h156 n157 => bindP (pickV t53_129 (Value.bool true) t60_155) fun t61_159 => ifP t61_159 false h156 n157 (fun k160 => bindP (fwdP 3 (e 3)) fun t63_164 => k160 t63_164 h156 n157) fun t63_161 h162 n163 => ifP t61_159 false h162 n163 (fun k165 => bindP (load1 ro h162 t63_161) fun t64_169 => k165 t64_169 h162 n163) fun t64_166 h167 n168 => ifP t61_159 false h167 n168 (fun k170 => k170 (e 6) h167 n168) fun t65_171 h172 n173 => ifP t61_159 false h172 n173 (fun k174 => bindP (ixSl 1 t64_166 t65_171) fun t66_178 => k174 t66_178 h172 n173) fun t66_175 h176 n177 => ifP t61_159 false h176 n177 (fun k179 => bindP (load1 ro h176 t66_175) fun t67_183 => k179 t67_183 h176 n177) fun t67_180 h181 n182 => ifP t61_159 false h181 n182 (fun k184 => bindP (lenSl t67_180) fun t68_188 => k184 t68_188 h181 n182) fun t68_185 h186 n187 => ifP t61_159 false h186 n187 (fun k189 => bindP (fwdP 0 (e 2)) fun t69_193 => k189 t69_193 h186 n187) fun t69_190 h191 n192 => ifP t61_159 false h191 n192 (fun k194 => bindP (fwdP 256 t69_190) fun t70_198 => k194 t70_198 h191 n192) fun t70_195 h196 n197 => ifP t61_159 false h196 n197 (fun k199 => bindP (load1 ro h196 t70_195) fun t71_203 => k199 t71_203 h196 n197) fun t71_200 h201 n202 => ifP t61_159 false h201 n202 (fun k204 => bindP (intB .neq t68_185 t71_200) fun t72_208 => k204 t72_208 h201 n202) fun t72_205 h206 n207 => bindP (pickV t61_159 (Value.bool true) t72_205) fun t73_209 => condP t73_209 (Q .ret (puts e [(43, (e 6)), (44, (e 5)), (45, t45_123), (48, t48_125), (49, t49_126), (50, (e 6)), (51, t51_127), (52, t52_128), (53, t53_129), (54, t53_129), (55, t55_131), (56, t56_136), (57, t57_141), (58, t58_145), (59, t59_150), (60, t60_155), (61, t61_159), (62, t61_159), (63, t63_161), (64, t64_166), (65, t65_171), (66, t66_175), (67, t67_180), (68, t68_185), (69, t69_190), (70, t70_195), (71, t71_200), (72, t72_205), (73, t73_209), (4, (Value.bool false))]) h206 (n207 + 1)) (loopP (ref11_state_L2 ro) (puts e [(43, (e 6)), (44, (e 5)), (45, t45_123), (48, t48_125), (49, t49_126), (50, (e 6)), (51, t51_127), (52, t52_128), (53, t53_129), (54, t53_129), (55, t55_131), (56, t56_136), (57, t57_141), (58, t58_145), (59, t59_150), (60, t60_155), (61, t61_159), (62, t61_159), (63, t63_161), (64, t64_166), (65, t65_171), (66, t66_175), (67, t67_180), (68, t68_185), (69, t69_190), (70, t70_195), (71, t71_200), (72, t72_205), (73, t73_209), (7, (Value.int IntKind.i64 0))]) h206 (n207 + 1) fun x232 e229 h230 n231 => exP x232 (ref11_state_j2 ro Q e229 h230 n231) (fun i233 => beqP (Nat.beq i233 2) (ref11_state_j2 ro Q e229 h230 n231) (beqP (Nat.beq i233 1) (ref11_state_j2 ro Q e229 h230 n231) (Q (.exit i233) e229 h230 n231))) (Q .ret e229 h230 n231))) (Q (.exit 0) (puts e [(43, (e 6)), (44, (e 5)), (45, t45_123)]) h (nx + 3))
@[irreducible] def ref11_state (ro : Ro) (v0 v1 : Value) (h : T Obj) (nx : Nat) (K : KV) : Prop := newP h nx (.cells (Value.cells v0) y_api_Auto) fun h1 => newP h1 (nx + 1) (.cells (Value.cells v1) y_api_State) fun h2 => bindP (fwdP 1 (ptr (nx + 1))) fun t8_3 => bindP (load1 ro h2 t8_3) fun t9_4 => bindP (lenSl t9_4) fun t10_5 => callP Try.prog ro i_ref11_Codes [t10_5] h2 (nx + 7) fun t11_6 h7 n8 => bindP (intB .eql t11_6 (Value.int IntKind.i64 0)) fun t13_9 => ifP t13_9 false h7 (n8 + 4) (fun k10 => bindP (fwdP 0 (ptr (nx + 1))) fun t15_14 => k10 t15_14 h7 (n8 + 5)) fun t15_11 h12 n13 => ifP t13_9 false h12 n13 (fun k15 => bindP (load1 ro h12 t15_11) fun t16_19 => k15 t16_19 h12 (n13 + 1)) fun t16_16 h17 n18 => ifP t13_9 false h17 n18 (fun k20 => callP Try.prog ro i_ref11_rises [t16_16, (Value.int IntKind.i64 512)] h17 (n18 + 1) fun t17_24 h25 n26 => k20 t17_24 h25 n26) fun t17_21 h22 n23 => ifP t13_9 false h22 n23 (fun k27 => bindP (unV .not t17_21) fun t18_31 => k27 t18_31 h22 (n23 + 1)) fun t18_28 h29 n30 => bindP (pickV t13_9 (Value.bool true) t18_28) fun t19_32 => ifP t19_32 false h29 (n30 + 2) (fun k33 => bindP (fwdP 1 (ptr (nx + 1))) fun t21_37 => k33 t21_37 h29 (n30 + 3)) fun t21_34 h35 n36 => ifP t19_32 false h35 n36 (fun k38 => bindP (load1 ro h35 t21_34) fun t22_42 => k38 t22_42 h35 (n36 + 1)) fun t22_39 h40 n41 => ifP t19_32 false h40 n41 (fun k43 => bindP (fwdP 257 (ptr nx)) fun t23_47 => k43 t23_47 h40 (n41 + 1)) fun t23_44 h45 n46 => ifP t19_32 false h45 n46 (fun k48 => bindP (load1 ro h45 t23_44) fun t24_52 => k48 t24_52 h45 (n46 + 1)) fun t24_49 h50 n51 => ifP t19_32 false h50 n51 (fun k53 => bindP (lenSl t24_49) fun t25_57 => k53 t25_57 h50 (n51 + 1)) fun t25_54 h55 n56 => ifP t19_32 false h55 n56 (fun k58 => callP Try.prog ro i_ref11_rises [t22_39, t25_54] h55 (n56 + 1) fun t26_62 h63 n64 => k58 t26_62 h63 n64) fun t26_59 h60 n61 => ifP t19_32 false h60 n61 (fun k65 => bindP (unV .not t26_59) fun t27_69 => k65 t27_69 h60 (n61 + 1)) fun t27_66 h67 n68 => bindP (pickV t19_32 (Value.bool true) t27_66) fun t28_70 => ifP t28_70 false h67 (n68 + 2) (fun k71 => bindP (fwdP 2 (ptr (nx + 1))) fun t30_75 => k71 t30_75 h67 (n68 + 3)) fun t30_72 h73 n74 => ifP t28_70 false h73 n74 (fun k76 => bindP (load1 ro h73 t30_72) fun t31_80 => k76 t31_80 h73 (n74 + 1)) fun t31_77 h78 n79 => ifP t28_70 false h78 n79 (fun k81 => bindP (lenSl t31_77) fun t32_85 => k81 t32_85 h78 (n79 + 1)) fun t32_82 h83 n84 => ifP t28_70 false h83 n84 (fun k86 => k86 t11_6 h83 (n84 + 1)) fun t33_87 h88 n89 => ifP t28_70 false h88 n89 (fun k90 => bindP (intB .neq t32_82 t33_87) fun t34_94 => k90 t34_94 h88 (n89 + 1)) fun t34_91 h92 n93 => bindP (pickV t28_70 (Value.bool true) t34_91) fun t35_95 => ifP t35_95 false h92 (n93 + 2) (fun k96 => bindP (fwdP 3 (ptr (nx + 1))) fun t37_100 => k96 t37_100 h92 (n93 + 3)) fun t37_97 h98 n99 => ifP t35_95 false h98 n99 (fun k101 => bindP (load1 ro h98 t37_97) fun t38_105 => k101 t38_105 h98 (n99 + 1)) fun t38_102 h103 n104 => ifP t35_95 false h103 n104 (fun k106 => bindP (lenSl t38_102) fun t39_110 => k106 t39_110 h103 (n104 + 1)) fun t39_107 h108 n109 => ifP t35_95 false h108 n109 (fun k111 => k111 t11_6 h108 (n109 + 1)) fun t40_112 h113 n114 => ifP t35_95 false h113 n114 (fun k115 => bindP (intB .neq t39_107 t40_112) fun t41_119 => k115 t41_119 h113 (n114 + 1)) fun t41_116 h117 n118 => bindP (pickV t35_95 (Value.bool true) t41_116) fun t42_120 => condP t42_120 (∃ h121, Sub h121 h117 ∧ K (Value.bool false) h121 (n118 + 2)) (loopP (ref11_state_L1 ro) (puts (entE [v0, v1]) [(2, (ptr nx)), (3, (ptr (nx + 1))), (4, (Value.bool false)), (8, t8_3), (9, t9_4), (10, t10_5), (11, t11_6), (5, t11_6), (12, t11_6), (13, t13_9), (14, t13_9), (15, t15_11), (16, t16_16), (17, t17_21), (18, t18_28), (19, t19_32), (20, t19_32), (21, t21_34), (22, t22_39), (23, t23_44), (24, t24_49), (25, t25_54), (26, t26_59), (27, t27_66), (28, t28_70), (29, t28_70), (30, t30_72), (31, t31_77), (32, t32_82), (33, t33_87), (34, t34_91), (35, t35_95), (36, t35_95), (37, t37_97), (38, t38_102), (39, t39_107), (40, t40_112), (41, t41_116), (42, t42_120), (6, (Value.int IntKind.i64 0))]) h117 (n118 + 2) fun x237 e234 h235 n236 => exP x237 (ref11_state_j1 ro K e234 h235 n236) (fun i238 => beqP (Nat.beq i238 0) (ref11_state_j1 ro K e234 h235 n236) (False)) (∃ h239, Sub h239 h235 ∧ K (e234 4) h239 n236))
theorem ref11_state_eq (ro : Ro) (v0 v1 : Value) (h : T Obj) (nx : Nat) (K : KV) : callPre Try.prog ro (callP Try.prog ro) Try.f35 [v0, v1] h nx K = ref11_state ro v0 v1 h nx K := by kernel_rfl
theorem ref11_state_of {ro : Ro} {v0 v1 : Value} {h : T Obj} {nx : Nat} {K : KV} (hw : ref11_state ro v0 v1 h nx K) : callP Try.prog ro i_ref11_state [v0, v1] h nx K := callP_by (P := Try.prog) (fn := Try.f35) (by kernel_rfl) (by kernel_rfl) (by kernel_rfl) (Eq.mpr (ref11_state_eq ro v0 v1 h nx K) hw)
@[irreducible] def slices_ContainsFunc_api_State_api_State (ro : Ro) (v0 v1 : Value) (h : T Obj) (nx : Nat) (K : KV) : Prop := callP Try.prog ro i_slices_IndexFunc_api_State_api_State [v0, v1] h (nx + 4) fun t7_1 h2 n3 => bindP (intB .geq t7_1 (Value.int IntKind.i64 0)) fun t8_4 => ∃ h5, Sub h5 h2 ∧ K t8_4 h5 (n3 + 2)
theorem slices_ContainsFunc_api_State_api_State_eq (ro : Ro) (v0 v1 : Value) (h : T Obj) (nx : Nat) (K : KV) : callPre Try.prog ro (callP Try.prog ro) Try.f42 [v0, v1] h nx K = slices_ContainsFunc_api_State_api_State ro v0 v1 h nx K := by kernel_rfl
theorem slices_ContainsFunc_api_State_api_State_of {ro : Ro} {v0 v1 : Value} {h : T Obj} {nx : Nat} {K : KV} (hw : slices_ContainsFunc_api_State_api_State ro v0 v1 h nx K) : callP Try.prog ro i_slices_ContainsFunc_api_State_api_State [v0, v1] h nx K := callP_by (P := Try.prog) (fn := Try.f42) (by kernel_rfl) (by kernel_rfl) (by kernel_rfl) (Eq.mpr (slices_ContainsFunc_api_State_api_State_eq ro v0 v1 h nx K) hw)
@[irreducible] def auto_Right_1 (ro : Ro) (v0 v1 : Value) (h : T Obj) (nx : Nat) (K : KV) : Prop := newP h nx (.cells (Value.cells v0) y_api_State) fun h1 => bindP (loadA ro h1 259 v1) fun t4_2 => bindP (loadA ro h1 4 (ptr nx)) fun t5_3 => callP Try.prog ro i_auto_checker_state [t4_2, t5_3] h1 (nx + 5) fun t6_4 h5 n6 => bindP (unV .not t6_4) fun t7_7 => ∃ h8, Sub h8 h5 ∧ K t7_7 h8 (n6 + 2)
theorem auto_Right_1_eq (ro : Ro) (v0 v1 : Value) (h : T Obj) (nx : Nat) (K : KV) : callPre Try.prog ro (callP Try.prog ro) Try.f43 [v0, v1] h nx K = auto_Right_1 ro v0 v1 h nx K := by kernel_rfl
theorem auto_Right_1_of {ro : Ro} {v0 v1 : Value} {h : T Obj} {nx : Nat} {K : KV} (hw : auto_Right_1 ro v0 v1 h nx K) : callP Try.prog ro i_auto_Right_1 [v0, v1] h nx K := callP_by (P := Try.prog) (fn := Try.f43) (by kernel_rfl) (by kernel_rfl) (by kernel_rfl) (Eq.mpr (auto_Right_1_eq ro v0 v1 h nx K) hw)
@[irreducible] def auto_checker_state_j1 (ro : Ro) (K : KV) : Env → T Obj → Nat → Prop := fun e h nx => ∃ h127, Sub h127 h ∧ K (Value.bool true) h127 (nx + 1)
@[irreducible] def auto_checker_state_L1 (ro : Ro) : PT := fun e h nx Q => bindP (intB .lss (e 47) (e 46)) fun t48_131 => condP t48_131 (bindP (ixSl 1 (e 45) (e 47)) fun t50_132 => bindP (load1 ro h t50_132) fun t51_133 => bindP (fwdP 2 (e 3)) fun t52_134 => bindP (load1 ro h t52_134) fun t53_135 => bindP (ixSl 1 t53_135 (e 47)) fun t55_136 => bindP (load1 ro h t55_136) fun t56_137 => bindP (intB .lss t56_137 (Value.int IntKind.i64 (-1))) fun t57_138 => ifP t57_138 false h (nx + 13) (fun k139 => bindP (fwdP 2 (e 3)) fun t59_143 => k139 t59_143 h (nx + 14)) fun t59_140 h141 n142 => ifP t57_138 false h141 n142 (fun k144 => bindP (load1 ro h141 t59_140) fun t60_148 => k144 t60_148 h141 (n142 + 1)) fun t60_145 h146 n147 => ifP t57_138 false h146 n147 (fun k149 => k149 (e 47) h146 (n147 + 1)) fun t61_150 h151 n152 => ifP t57_138 false h151 n152 (fun k153 => bindP (ixSl 1 t60_145 t61_150) fun t62_157 => k153 t62_157 h151 (n152 + 1)) fun t62_154 h155 n156 => ifP t57_138 false h155 n156 (fun k158 => bindP (load1 ro h155 t62_154) fun t63_162 => k158 t63_162 h155 (n156 + 1)) fun t63_159 h160 n161 => ifP t57_138 false h160 n161 (fun k163 => bindP (intB .geq t63_159 (Value.int IntKind.i64 512)) fun t64_167 => k163 t64_167 h160 (n161 + 1)) fun t64_164 h165 n166 => bindP (pickV t57_138 (Value.bool true) t64_164) fun t65_168 => ifP t65_168 false h165 (n166 + 2) (fun k169 => k169 t51_133 h165 (n166 + 3)) fun t67_170 h171 n172 => ifP t65_168 false h171 n172 (fun k173 => bindP (lenSl t67_170) fun t68_177 => k173 t68_177 h171 (n172 + 1)) fun t68_174 h175 n176 => ifP t65_168 false h175 n176 (fun k178 => bindP (fwdP 0 (e 2)) fun t69_182 => k178 t69_182 h175 (n176 + 1)) fun t69_179 h180 n181 => ifP t65_168 false h180 n181 (fun k183 => bindP (fwdP 0 t69_179) fun t70_187 => k183 t70_187 h180 (n181 + 1)) fun t70_184 h185 n186 => ifP t65_168 false h185 n186 (fun k188 => bindP (fwdP 256 t70_184) fun t71_192 => k188 t71_192 h185 (n186 + 1)) fun t71_189 h190 n191 => ifP t65_168 false h190 n191 (fun k193 => bindP (load1 ro h190 t71_189) fun t72_197 => k193 t72_197 h190 (n191 + 1)) fun t72_194 h195 n196 => ifP t65_168 false h195 n196 (fun k198 => bindP (intB .neq t68_174 t72_194) fun t73_202 => k198 t73_202 h195 (n196 + 1)) fun t73_199 h200 n201 => bindP (pickV t65_168 (Value.bool true) t73_199) fun t74_203 => condP t74_203 (Q .ret (puts e [(48, t48_131), (49, (e 47)), (50, t50_132), (51, t51_133), (6, (e 47)), (7, t51_133), (52, t52_134), (53, t53_135), (54, (e 47)), (55, t55_136), (56, t56_137), (57, t57_138), (58, t57_138), (59, t59_140), (60, t60_145), (61, t61_150), (62, t62_154), (63, t63_159), (64, t64_164), (65, t65_168), (66, t65_168), (67, t67_170), (68, t68_174), (69, t69_179), (70, t70_184), (71, t71_189), (72, t72_194), (73, t73_199), (74, t74_203), (4, (Value.bool false))]) h200 (n201 + 2)) (callP Try.prog ro i_slices_ContainsFunc_api_Move_api_Move [t51_133, (.func (.func i_auto_checker_state_1) #[] #[(e 2), (e 3)])] h200 (n201 + 4) fun t77_204 h205 n206 => condP t77_204 (Q .ret (puts e [(48, t48_131), (49, (e 47)), (50, t50_132), (51, t51_133), (6, (e 47)), (7, t51_133), (52, t52_134), (53, t53_135), (54, (e 47)), (55, t55_136), (56, t56_137), (57, t57_138), (58, t57_138), (59, t59_140), (60, t60_145), (61, t61_150), (62, t62_154), (63, t63_159), (64, t64_164), (65, t65_168), (66, t65_168), (67, t67_170), (68, t68_174), (69, t69_179), (70, t70_184), (71, t71_189), (72, t72_194), (73, t73_199), (74, t74_203), (75, t51_133), (76, (.func (.func i_auto_checker_state_1) #[] #[(e 2), (e 3)])), (77, t77_204), (4, (Value.bool false))]) h205 (n206 + 1)) (bindP (intB .add (e 47) (Value.int IntKind.i64 1)) fun t78_207 => Q .normal (puts e [(48, t48_131), (49, (e 47)), (50, t50_132), (51, t51_133), (6, (e 47)), (7, t51_133), (52, t52_134), (53, t53_135), (54, (e 47)), (55, t55_136), (56, t56_137), (57, t57_138), (58, t57_138), (59, t59_140), (60, t60_145), (61, t61_150), (62, t62_154), (63, t63_159), (64, t64_164), (65, t65_168), (66, t65_168), (67, t67_170), (68, t68_174), (69, t69_179), (70, t70_184), (71, t71_189), (72, t72_194), (73, t73_199), (74, t74_203), (75, t51_133), (76, (.func (.func i_auto_checker_state_1) #[] #[(e 2), (e 3)])), (77, t77_204), (78, t78_207), (47, t78_207)]) h205 (n206 + 2)))) (Q (.exit 0) (puts e [(48, t48_131)]) h (nx + 1))
@[irreducible] def auto_checker_state (ro : Ro) (v0 v1 : Value) (h : T Obj) (nx : Nat) (K : KV) : Prop := newP h nx (.cells (Value.cells v0) y_auto_checker) fun h1 => newP h1 (nx + 1) (.cells (Value.cells v1) y_api_State) fun h2 => bindP (fwdP 1 (ptr (nx + 1))) fun t8_3 => bindP (load1 ro h2 t8_3) fun t9_4 => bindP (lenSl t9_4) fun t10_5 => callP Try.prog ro i_auto_Codes [t10_5] h2 (nx + 7) fun t11_6 h7 n8 => bindP (intB .eql t11_6 (Value.int IntKind.i64 0)) fun t13_9 => ifP t13_9 false h7 (n8 + 4) (fun k10 => bindP (fwdP 2 (ptr (nx + 1))) fun t15_14 => k10 t15_14 h7 (n8 + 5)) fun t15_11 h12 n13 => ifP t13_9 false h12 n13 (fun k15 => bindP (load1 ro h12 t15_11) fun t16_19 => k15 t16_19 h12 (n13 + 1)) fun t16_16 h17 n18 => ifP t13_9 false h17 n18 (fun k20 => bindP (lenSl t16_16) fun t17_24 => k20 t17_24 h17 (n18 + 1)) fun t17_21 h22 n23 => ifP t13_9 false h22 n23 (fun k25 => k25 t11_6 h22 (n23 + 1)) fun t18_26 h27 n28 => ifP t13_9 false h27 n28 (fun k29 => bindP (intB .neq t17_21 t18_26) fun t19_33 => k29 t19_33 h27 (n28 + 1)) fun t19_30 h31 n32 => bindP (pickV t13_9 (Value.bool true) t19_30) fun t20_34 => ifP t20_34 false h31 (n32 + 2) (fun k35 => bindP (fwdP 3 (ptr (nx + 1))) fun t22_39 => k35 t22_39 h31 (n32 + 3)) fun t22_36 h37 n38 => ifP t20_34 false h37 n38 (fun k40 => bindP (load1 ro h37 t22_36) fun t23_44 => k40 t23_44 h37 (n38 + 1)) fun t23_41 h42 n43 => ifP t20_34 false h42 n43 (fun k45 => bindP (lenSl t23_41) fun t24_49 => k45 t24_49 h42 (n43 + 1)) fun t24_46 h47 n48 => ifP t20_34 false h47 n48 (fun k50 => k50 t11_6 h47 (n48 + 1)) fun t25_51 h52 n53 => ifP t20_34 false h52 n53 (fun k54 => bindP (intB .neq t24_46 t25_51) fun t26_58 => k54 t26_58 h52 (n53 + 1)) fun t26_55 h56 n57 => bindP (pickV t20_34 (Value.bool true) t26_55) fun t27_59 => ifP t27_59 false h56 (n57 + 2) (fun k60 => bindP (fwdP 0 (ptr (nx + 1))) fun t29_64 => k60 t29_64 h56 (n57 + 3)) fun t29_61 h62 n63 => ifP t27_59 false h62 n63 (fun k65 => bindP (load1 ro h62 t29_61) fun t30_69 => k65 t30_69 h62 (n63 + 1)) fun t30_66 h67 n68 => ifP t27_59 false h67 n68 (fun k70 => callP Try.prog ro i_auto_rises [t30_66, (Value.int IntKind.i64 512)] h67 (n68 + 1) fun t31_74 h75 n76 => k70 t31_74 h75 n76) fun t31_71 h72 n73 => ifP t27_59 false h72 n73 (fun k77 => bindP (unV .not t31_71) fun t32_81 => k77 t32_81 h72 (n73 + 1)) fun t32_78 h79 n80 => bindP (pickV t27_59 (Value.bool true) t32_78) fun t33_82 => ifP t33_82 false h79 (n80 + 2) (fun k83 => bindP (fwdP 1 (ptr (nx + 1))) fun t35_87 => k83 t35_87 h79 (n80 + 3)) fun t35_84 h85 n86 => ifP t33_82 false h85 n86 (fun k88 => bindP (load1 ro h85 t35_84) fun t36_92 => k88 t36_92 h85 (n86 + 1)) fun t36_89 h90 n91 => ifP t33_82 false h90 n91 (fun k93 => bindP (fwdP 0 (ptr nx)) fun t37_97 => k93 t37_97 h90 (n91 + 1)) fun t37_94 h95 n96 => ifP t33_82 false h95 n96 (fun k98 => bindP (fwdP 257 t37_94) fun t38_102 => k98 t38_102 h95 (n96 + 1)) fun t38_99 h100 n101 => ifP t33_82 false h100 n101 (fun k103 => bindP (load1 ro h100 t38_99) fun t39_107 => k103 t39_107 h100 (n101 + 1)) fun t39_104 h105 n106 => ifP t33_82 false h105 n106 (fun k108 => bindP (lenSl t39_104) fun t40_112 => k108 t40_112 h105 (n106 + 1)) fun t40_109 h110 n111 => ifP t33_82 false h110 n111 (fun k113 => callP Try.prog ro i_auto_rises [t36_89, t40_109] h110 (n111 + 1) fun t41_117 h118 n119 => k113 t41_117 h118 n119) fun t41_114 h115 n116 => ifP t33_82 false h115 n116 (fun k120 => bindP (unV .not t41_114) fun t42_124 => k120 t42_124 h115 (n116 + 1)) fun t42_121 h122 n123 => bindP (pickV t33_82 (Value.bool true) t42_121) fun t43_125 => condP t43_125 (∃ h126, Sub h126 h122 ∧ K (Value.bool false) h126 (n123 + 2)) (bindP (fwdP 3 (ptr (nx + 1))) fun t44_128 => bindP (load1 ro h122 t44_128) fun t45_129 => bindP (lenSl t45_129) fun t46_130 => loopP (auto_checker_state_L1 ro) (puts (entE [v0, v1]) [(2, (ptr nx)), (3, (ptr (nx + 1))), (4, (Value.bool false)), (8, t8_3), (9, t9_4), (10, t10_5), (11, t11_6), (5, t11_6), (12, t11_6), (13, t13_9), (14, t13_9), (15, t15_11), (16, t16_16), (17, t17_21), (18, t18_26), (19, t19_30), (20, t20_34), (21, t20_34), (22, t22_36), (23, t23_41), (24, t24_46), (25, t25_51), (26, t26_55), (27, t27_59), (28, t27_59), (29, t29_61), (30, t30_66), (31, t31_71), (32, t32_78), (33, t33_82), (34, t33_82), (35, t35_84), (36, t36_89), (37, t37_94), (38, t38_99), (39, t39_104), (40, t40_109), (41, t41_114), (42, t42_121), (43, t43_125), (44, t44_128), (45, t45_129), (46, t46_130), (47, (Value.int IntKind.i64 0))]) h122 (n123 + 5) fun x211 e208 h209 n210 => exP x211 (auto_checker_state_j1 ro K e208 h209 n210) (fun i212 => beqP (Nat.beq i212 0) (auto_checker_state_j1 ro K e208 h209 n210) (False)) (∃ h213, Sub h213 h209 ∧ K (e208 4) h213 n210))
theorem auto_checker_state_eq (ro : Ro) (v0 v1 : Value) (h : T Obj) (nx : Nat) (K : KV) : callPre Try.prog ro (callP Try.prog ro) Try.f44 [v0, v1] h nx K = auto_checker_state ro v0 v1 h nx K := by kernel_rfl
theorem auto_checker_state_of {ro : Ro} {v0 v1 : Value} {h : T Obj} {nx : Nat} {K : KV} (hw : auto_checker_state ro v0 v1 h nx K) : callP Try.prog ro i_auto_checker_state [v0, v1] h nx K := callP_by (P := Try.prog) (fn := Try.f44) (by kernel_rfl) (by kernel_rfl) (by kernel_rfl) (Eq.mpr (auto_checker_state_eq ro v0 v1 h nx K) hw)
@[irreducible] def ref09_rises_j1 (ro : Ro) (K : KV) : Env → T Obj → Nat → Prop := fun e h nx => ∃ h1, Sub h1 h ∧ K (Value.bool true) h1 (nx + 1)
@[irreducible] def ref09_rises_L1 (ro : Ro) : PT := fun e h nx Q => bindP (lenSl (e 0)) fun t8_2 => bindP (intB .lss (e 5) t8_2) fun t9_3 => condP t9_3 (bindP (ixSl 1 (e 0) (e 5)) fun t14_4 => bindP (load1 ro h t14_4) fun t15_5 => bindP (intB .lss t15_5 (Value.int IntKind.i64 0)) fun t16_6 => ifP t16_6 false h (nx + 33) (fun k7 => k7 (e 0) h (nx + 33)) fun t18_8 h9 n10 => ifP t16_6 false h9 n10 (fun k11 => k11 (e 5) h9 n10) fun t19_12 h13 n14 => ifP t16_6 false h13 n14 (fun k15 => bindP (ixSl 1 t18_8 t19_12) fun t20_19 => k15 t20_19 h13 n14) fun t20_16 h17 n18 => ifP t16_6 false h17 n18 (fun k20 => bindP (load1 ro h17 t20_16) fun t21_24 => k20 t21_24 h17 n18) fun t21_21 h22 n23 => ifP t16_6 false h22 n23 (fun k25 => k25 (e 1) h22 n23) fun t22_26 h27 n28 => ifP t16_6 false h27 n28 (fun k29 => bindP (intB .geq t21_21 t22_26) fun t23_33 => k29 t23_33 h27 n28) fun t23_30 h31 n32 => bindP (pickV t16_6 (Value.bool true) t23_30) fun t24_34 => ifP t24_34 false h31 n32 (fun k35 => k35 (e 5) h31 n32) fun t26_36 h37 n38 => ifP t24_34 false h37 n38 (fun k39 => bindP (intB .gtr t26_36 (Value.int IntKind.i64 0)) fun t27_43 => k39 t27_43 h37 n38) fun t27_40 h41 n42 => ifP t24_34 false h41 n42 (fun k44 => k44 t27_40 h41 n42) fun t28_45 h46 n47 => ifP t28_45 true h46 n47 (fun k48 => k48 (e 0) h46 n47) fun t29_49 h50 n51 => ifP t28_45 true h50 n51 (fun k52 => k52 (e 5) h50 n51) fun t30_53 h54 n55 => ifP t28_45 true h54 n55 (fun k56 => bindP (intB .sub t30_53 (Value.int IntKind.i64 1)) fun t31_60 => k56 t31_60 h54 n55) fun t31_57 h58 n59 => ifP t28_45 true h58 n59 (fun k61 => bindP (ixSl 1 t29_49 t31_57) fun t32_65 => k61 t32_65 h58 n59) fun t32_62 h63 n64 => ifP t28_45 true h63 n64 (fun k66 => bindP (load1 ro h63 t32_62) fun t33_70 => k66 t33_70 h63 n64) fun t33_67 h68 n69 => ifP t28_45 true h68 n69 (fun k71 => k71 (e 0) h68 n69) fun t34_72 h73 n74 => ifP t28_45 true h73 n74 (fun k75 => k75 (e 5) h73 n74) fun t35_76 h77 n78 => ifP t28_45 true h77 n78 (fun k79 => bindP (ixSl 1 t34_72 t35_76) fun t36_83 => k79 t36_83 h77 n78) fun t36_80 h81 n82 => ifP t28_45 true h81 n82 (fun k84 => bindP (load1 ro h81 t36_80) fun t37_88 => k84 t37_88 h81 n82) fun t37_85 h86 n87 => ifP t28_45 true h86 n87 (fun k89 => bindP (intB .geq t33_67 t37_85) fun t38_93 => k89 t38_93 h86 n87) fun t38_90 h91 n92 => ifP t24_34 false h91 n92 (fun k94 => bindP (pickV t28_45 t38_90 (Value.bool false)) fun t39_98 => k94 t39_98 h91 n92) fun t39_95 h96 n97 => bindP (pickV t24_34 (Value.bool true) t39_95) fun t40_99 => condP t40_99 (Q .ret (puts e [(6, (e 5)), (7, (e 0)), (8, t8_2), (9, t9_3), (12, (e 0)), (13, (e 5)), (14, t14_4), (15, t15_5), (16, t16_6), (17, t16_6), (18, t18_8), (19, t19_12), (20, t20_16), (21, t21_21), (22, t22_26), (23, t23_30), (24, t24_34), (25, t24_34), (26, t26_36), (27, t27_40), (28, t28_45), (29, t29_49), (30, t30_53), (31, t31_57), (32, t32_62), (33, t33_67), (34, t34_72), (35, t35_76), (36, t36_80), (37, t37_85), (38, t38_90), (39, t39_95), (40, t40_99), (4, (Value.bool false))]) h96 (n97 + 1)) (bindP (intB .add (e 5) (Value.int IntKind.i64 1)) fun t11_100 => Q .normal (puts e [(6, (e 5)), (7, (e 0)), (8, t8_2), (9, t9_3), (12, (e 0)), (13, (e 5)), (14, t14_4), (15, t15_5), (16, t16_6), (17, t16_6), (18, t18_8), (19, t19_12), (20, t20_16), (21, t21_21), (22, t22_26), (23, t23_30), (24, t24_34), (25, t24_34), (26, t26_36), (27, t27_40), (28, t28_45), (29, t29_49), (30, t30_53), (31, t31_57), (32, t32_62), (33, t33_67), (34, t34_72), (35, t35_76), (36, t36_80), (37, t37_85), (38, t38_90), (39, t39_95), (40, t40_99), (10, (e 5)), (11, t11_100), (5, t11_100)]) h96 (n97 + 3))) (Q (.exit 0) (puts e [(6, (e 5)), (7, (e 0)), (8, t8_2), (9, t9_3)]) h (nx + 4))
@[irreducible] def ref09_rises (ro : Ro) (v0 v1 : Value) (h : T Obj) (nx : Nat) (K : KV) : Prop := loopP (ref09_rises_L1 ro) (puts (entE [v0, v1]) [(4, (Value.bool false)), (5, (Value.int IntKind.i64 0))]) h (nx + 2) fun x104 e101 h102 n103 => exP x104 (ref09_rises_j1 ro K e101 h102 n103) (fun i105 => beqP (Nat.beq i105 0) (ref09_rises_j1 ro K e101 h102 n103) (False)) (∃ h106, Sub h106 h102 ∧ K (e101 4) h106 n103)
theorem ref09_rises_eq (ro : Ro) (v0 v1 : Value) (h : T Obj) (nx : Nat) (K : KV) : callPre Try.prog ro (callP Try.prog ro) Try.f45 [v0, v1] h nx K = ref09_rises ro v0 v1 h nx K := by kernel_rfl
theorem ref09_rises_of {ro : Ro} {v0 v1 : Value} {h : T Obj} {nx : Nat} {K : KV} (hw : ref09_rises ro v0 v1 h nx K) : callP Try.prog ro i_ref09_rises [v0, v1] h nx K := callP_by (P := Try.prog) (fn := Try.f45) (by kernel_rfl) (by kernel_rfl) (by kernel_rfl) (Eq.mpr (ref09_rises_eq ro v0 v1 h nx K) hw)
@[irreducible] def ref11_rises_j1 (ro : Ro) (K : KV) : Env → T Obj → Nat → Prop := fun e h nx => ∃ h1, Sub h1 h ∧ K (Value.bool true) h1 (nx + 1)
@[irreducible] def ref11_rises_L1 (ro : Ro) : PT := fun e h nx Q => bindP (lenSl (e 0)) fun t8_2 => bindP (intB .lss (e 5) t8_2) fun t9_3 => condP t9_3 (bindP (ixSl 1 (e 0) (e 5)) fun t14_4 => bindP (load1 ro h t14_4) fun t15_5 => bindP (intB .lss t15_5 (Value.int IntKind.i64 0)) fun t16_6 => ifP t16_6 false h (nx + 33) (fun k7 => k7 (e 0) h (nx + 33)) fun t18_8 h9 n10 => ifP t16_6 false h9 n10 (fun k11 => k11 (e 5) h9 n10) fun t19_12 h13 n14 => ifP t16_6 false h13 n14 (fun k15 => bindP (ixSl 1 t18_8 t19_12) fun t20_19 => k15 t20_19 h13 n14) fun t20_16 h17 n18 => ifP t16_6 false h17 n18 (fun k20 => bindP (load1 ro h17 t20_16) fun t21_24 => k20 t21_24 h17 n18) fun t21_21 h22 n23 => ifP t16_6 false h22 n23 (fun k25 => k25 (e 1) h22 n23) fun t22_26 h27 n28 => ifP t16_6 false h27 n28 (fun k29 => bindP (intB .geq t21_21 t22_26) fun t23_33 => k29 t23_33 h27 n28) fun t23_30 h31 n32 => bindP (pickV t16_6 (Value.bool true) t23_30) fun t24_34 => ifP t24_34 false h31 n32 (fun k35 => k35 (e 5) h31 n32) fun t26_36 h37 n38 => ifP t24_34 false h37 n38 (fun k39 => bindP (intB .gtr t26_36 (Value.int IntKind.i64 0)) fun t27_43 => k39 t27_43 h37 n38) fun t27_40 h41 n42 => ifP t24_34 false h41 n42 (fun k44 => k44 t27_40 h41 n42) fun t28_45 h46 n47 => ifP t28_45 true h46 n47 (fun k48 => k48 (e 0) h46 n47) fun t29_49 h50 n51 => ifP t28_45 true h50 n51 (fun k52 => k52 (e 5) h50 n51) fun t30_53 h54 n55 => ifP t28_45 true h54 n55 (fun k56 => bindP (intB .sub t30_53 (Value.int IntKind.i64 1)) fun t31_60 => k56 t31_60 h54 n55) fun t31_57 h58 n59 => ifP t28_45 true h58 n59 (fun k61 => bindP (ixSl 1 t29_49 t31_57) fun t32_65 => k61 t32_65 h58 n59) fun t32_62 h63 n64 => ifP t28_45 true h63 n64 (fun k66 => bindP (load1 ro h63 t32_62) fun t33_70 => k66 t33_70 h63 n64) fun t33_67 h68 n69 => ifP t28_45 true h68 n69 (fun k71 => k71 (e 0) h68 n69) fun t34_72 h73 n74 => ifP t28_45 true h73 n74 (fun k75 => k75 (e 5) h73 n74) fun t35_76 h77 n78 => ifP t28_45 true h77 n78 (fun k79 => bindP (ixSl 1 t34_72 t35_76) fun t36_83 => k79 t36_83 h77 n78) fun t36_80 h81 n82 => ifP t28_45 true h81 n82 (fun k84 => bindP (load1 ro h81 t36_80) fun t37_88 => k84 t37_88 h81 n82) fun t37_85 h86 n87 => ifP t28_45 true h86 n87 (fun k89 => bindP (intB .geq t33_67 t37_85) fun t38_93 => k89 t38_93 h86 n87) fun t38_90 h91 n92 => ifP t24_34 false h91 n92 (fun k94 => bindP (pickV t28_45 t38_90 (Value.bool false)) fun t39_98 => k94 t39_98 h91 n92) fun t39_95 h96 n97 => bindP (pickV t24_34 (Value.bool true) t39_95) fun t40_99 => condP t40_99 (Q .ret (puts e [(6, (e 5)), (7, (e 0)), (8, t8_2), (9, t9_3), (12, (e 0)), (13, (e 5)), (14, t14_4), (15, t15_5), (16, t16_6), (17, t16_6), (18, t18_8), (19, t19_12), (20, t20_16), (21, t21_21), (22, t22_26), (23, t23_30), (24, t24_34), (25, t24_34), (26, t26_36), (27, t27_40), (28, t28_45), (29, t29_49), (30, t30_53), (31, t31_57), (32, t32_62), (33, t33_67), (34, t34_72), (35, t35_76), (36, t36_80), (37, t37_85), (38, t38_90), (39, t39_95), (40, t40_99), (4, (Value.bool false))]) h96 (n97 + 1)) (bindP (intB .add (e 5) (Value.int IntKind.i64 1)) fun t11_100 => Q .normal (puts e [(6, (e 5)), (7, (e 0)), (8, t8_2), (9, t9_3), (12, (e 0)), (13, (e 5)), (14, t14_4), (15, t15_5), (16, t16_6), (17, t16_6), (18, t18_8), (19, t19_12), (20, t20_16), (21, t21_21), (22, t22_26), (23, t23_30), (24, t24_34), (25, t24_34), (26, t26_36), (27, t27_40), (28, t28_45), (29, t29_49), (30, t30_53), (31, t31_57), (32, t32_62), (33, t33_67), (34, t34_72), (35, t35_76), (36, t36_80), (37, t37_85), (38, t38_90), (39, t39_95), (40, t40_99), (10, (e 5)), (11, t11_100), (5, t11_100)]) h96 (n97 + 3))) (Q (.exit 0) (puts e [(6, (e 5)), (7, (e 0)), (8, t8_2), (9, t9_3)]) h (nx + 4))
@[irreducible] def ref11_rises (ro : Ro) (v0 v1 : Value) (h : T Obj) (nx : Nat) (K : KV) : Prop := loopP (ref11_rises_L1 ro) (puts (entE [v0, v1]) [(4, (Value.bool false)), (5, (Value.int IntKind.i64 0))]) h (nx + 2) fun x104 e101 h102 n103 => exP x104 (ref11_rises_j1 ro K e101 h102 n103) (fun i105 => beqP (Nat.beq i105 0) (ref11_rises_j1 ro K e101 h102 n103) (False)) (∃ h106, Sub h106 h102 ∧ K (e101 4) h106 n103)
theorem ref11_rises_eq (ro : Ro) (v0 v1 : Value) (h : T Obj) (nx : Nat) (K : KV) : callPre Try.prog ro (callP Try.prog ro) Try.f69 [v0, v1] h nx K = ref11_rises ro v0 v1 h nx K := by kernel_rfl
theorem ref11_rises_of {ro : Ro} {v0 v1 : Value} {h : T Obj} {nx : Nat} {K : KV} (hw : ref11_rises ro v0 v1 h nx K) : callP Try.prog ro i_ref11_rises [v0, v1] h nx K := callP_by (P := Try.prog) (fn := Try.f69) (by kernel_rfl) (by kernel_rfl) (by kernel_rfl) (Eq.mpr (ref11_rises_eq ro v0 v1 h nx K) hw)
@[irreducible] def ref11_move_j1 (ro : Ro) (K : KV) : Env → T Obj → Nat → Prop := fun e h nx => ∃ h108, Sub h108 h ∧ K (Value.bool true) h108 (nx + 1)
@[irreducible] def ref11_move_L1 (ro : Ro) : PT := fun e h nx Q => bindP (fwdP 1 (e 5)) fun t41_109 => bindP (load1 ro h t41_109) fun t42_110 => bindP (lenSl t42_110) fun t43_111 => bindP (intB .lss (e 7) t43_111) fun t44_112 => condP t44_112 (bindP (fwdP 1 (e 5)) fun t47_113 => bindP (load1 ro h t47_113) fun t48_114 => bindP (ixSl 1 t48_114 (e 7)) fun t50_115 => bindP (load1 ro h t50_115) fun t51_116 => bindP (intB .lss t51_116 (Value.int IntKind.u8 1)) fun t52_117 => ifP t52_117 false h (nx + 43) (fun k118 => bindP (fwdP 1 (e 5)) fun t54_122 => k118 t54_122 h (nx + 43)) fun t54_119 h120 n121 => ifP t52_117 false h120 n121 (fun k123 => bindP (load1 ro h120 t54_119) fun t55_127 => k123 t55_127 h120 n121) fun t55_124 h125 n126 => ifP t52_117 false h125 n126 (fun k128 => k128 (e 7) h125 n126) fun t56_129 h130 n131 => ifP t52_117 false h130 n131 (fun k132 => bindP (ixSl 1 t55_124 t56_129) fun t57_136 => k132 t57_136 h130 n131) fun t57_133 h134 n135 => ifP t52_117 false h134 n135 (fun k137 => bindP (load1 ro h134 t57_133) fun t58_141 => k137 t58_141 h134 n135) fun t58_138 h139 n140 => ifP t52_117 false h139 n140 (fun k142 => bindP (intB .gtr t58_138 (Value.int IntKind.u8 3)) fun t59_146 => k142 t59_146 h139 n140) fun t59_143 h144 n145 => bindP (pickV t52_117 (Value.bool true) t59_143) fun t60_147 => ifP t60_147 false h144 n145 (fun k148 => bindP (fwdP 1 (e 5)) fun t62_152 => k148 t62_152 h144 n145) fun t62_149 h150 n151 => ifP t60_147 false h150 n151 (fun k153 => bindP (load1 ro h150 t62_149) fun t63_157 => k153 t63_157 h150 n151) fun t63_154 h155 n156 => ifP t60_147 false h155 n156 (fun k158 => k158 (e 7) h155 n156) fun t64_159 h160 n161 => ifP t60_147 false h160 n161 (fun k162 => bindP (ixSl 1 t63_154 t64_159) fun t65_166 => k162 t65_166 h160 n161) fun t65_163 h164 n165 => ifP t60_147 false h164 n165 (fun k167 => bindP (load1 ro h164 t65_163) fun t66_171 => k167 t66_171 h164 n165) fun t66_168 h169 n170 => ifP t60_147 false h169 n170 (fun k172 => bindP (intB .neq t66_168 (Value.int IntKind.u8 3)) fun t67_176 => k172 t67_176 h169 n170) fun t67_173 h174 n175 => ifP t60_147 false h174 n175 (fun k177 => k177 t67_173 h174 n175) fun t68_178 h179 n180 => ifP t68_178 true h179 n180 (fun k181 => bindP (fwdP 1 (e 4)) fun t69_185 => k181 t69_185 h179 n180) fun t69_182 h183 n184 => ifP t68_178 true h183 n184 (fun k186 => bindP (load1 ro h183 t69_182) fun t70_190 => k186 t70_190 h183 n184) fun t70_187 h188 n189 => ifP t68_178 true h188 n189 (fun k191 => bindP (fwdP 258 (e 3)) fun t71_195 => k191 t71_195 h188 n189) fun t71_192 h193 n194 => ifP t68_178 true h193 n194 (fun k196 => bindP (load1 ro h193 t71_192) fun t72_200 => k196 t72_200 h193 n194) fun t72_197 h198 n199 => ifP t68_178 true h198 n199 (fun k201 => bindP (fwdP 0 (e 5)) fun t73_205 => k201 t73_205 h198 n199) fun t73_202 h203 n204 => ifP t68_178 true h203 n204 (fun k206 => bindP (load1 ro h203 t73_202) fun t74_210 => k206 t74_210 h203 n204) fun t74_207 h208 n209 => ifP t68_178 true h208 n209 (fun k211 => bindP (ixSl 4 t72_197 t74_207) fun t75_215 => k211 t75_215 h208 n209) fun t75_212 h213 n214 => ifP t68_178 true h213 n214 (fun k216 => bindP (fwdP 1 t75_212) fun t76_220 => k216 t76_220 h213 n214) fun t76_217 h218 n219 => ifP t68_178 true h218 n219 (fun k221 => bindP (load1 ro h218 t76_217) fun t77_225 => k221 t77_225 h218 n219) fun t77_222 h223 n224 => ifP t68_178 true h223 n224 (fun k226 => k226 (e 7) h223 n224) fun t78_227 h228 n229 => ifP t68_178 true h228 n229 (fun k230 => bindP (ixSl 1 t77_222 t78_227) fun t79_234 => k230 t79_234 h228 n229) fun t79_231 h232 n233 => ifP t68_178 true h232 n233 (fun k235 => bindP (load1 ro h232 t79_231) fun t80_239 => k235 t80_239 h232 n233) fun t80_236 h237 n238 => ifP t68_178 true h237 n238 (fun k240 => callP Try.prog ro i_ref11_in [t70_187, t80_236] h237 n238 fun t81_244 h245 n246 => k240 t81_244 h245 n246) fun t81_241 h242 n243 => ifP t68_178 true h242 n243 (fun k247 => bindP (unV .not t81_241) fun t82_251 => k247 t82_251 h242 n243) fun t82_248 h249 n250 => ifP t60_147 false h249 n250 (fun k252 => bindP (pickV t68_178 t82_248 (Value.bool false)) fun t83_256 => k252 t83_256 h249 n250) fun t83_253 h254 n255 => bindP (pickV t60_147 (Value.bool true) t83_253) fun t84_257 => condP t84_257 (Q .ret (puts e [(40, (e 7)), (41, t41_109), (42, t42_110), (43, t43_111), (44, t44_112), (47, t47_113), (48, t48_114), (49, (e 7)), (50, t50_115), (51, t51_116), (52, t52_117), (53, t52_117), (54, t54_119), (55, t55_124), (56, t56_129), (57, t57_133), (58, t58_138), (59, t59_143), (60, t60_147), (61, t60_147), (62, t62_149), (63, t63_154), (64, t64_159), (65, t65_163), (66, t66_168), (67, t67_173), (68, t68_178), (69, t69_182), (70, t70_187), (71, t71_192), (72, t72_197), (73, t73_202), (74, t74_207), (75, t75_212), (76, t76_217), (77, t77_222), (78, t78_227), (79, t79_231), (80, t80_236), (81, t81_241), (82, t82_248), (83, t83_253), (84, t84_257), (6, (Value.bool false))]) h254 (n255 + 1)) (bindP (intB .add (e 7) (Value.int IntKind.i64 1)) fun t46_258 => Q .normal (puts e [(40, (e 7)), (41, t41_109), (42, t42_110), (43, t43_111), (44, t44_112), (47, t47_113), (48, t48_114), (49, (e 7)), (50, t50_115), (51, t51_116), (52, t52_117), (53, t52_117), (54, t54_119), (55, t55_124), (56, t56_129), (57, t57_133), (58, t58_138), (59, t59_143), (60, t60_147), (61, t60_147), (62, t62_149), (63, t63_154), (64, t64_159), (65, t65_163), (66, t66_168), (67, t67_173), (68, t68_178), (69, t69_182), (70, t70_187), (71, t71_192), (72, t72_197), (73, t73_202), (74, t74_207), (75, t75_212), (76, t76_217), (77, t77_222), (78, t78_227), (79, t79_231), (80, t80_236), (81, t81_241), (82, t82_248), (83, t83_253), (84, t84_257), (45, (e 7)), (46, t46_258), (7, t46_258)]) h254 (n255 + 3))) (Q (.exit 0) (puts e [(40, (e 7)), (41, t41_109), (42, t42_110), (43, t43_111), (44, t44_112)]) h (nx + 5))
@[irreducible] def ref11_move (ro : Ro) (v0 v1 v2 : Value) (h : T Obj) (nx : Nat) (K : KV) : Prop := newP h nx (.cells (Value.cells v0) y_api_Auto) fun h1 => newP h1 (nx + 1) (.cells (Value.cells v1) y_api_State) fun h2 => newP h2 (nx + 2) (.cells (Value.cells v2) y_api_Move) fun h3 => bindP (fwdP 0 (ptr (nx + 2))) fun t8_4 => bindP (load1 ro h3 t8_4) fun t9_5 => bindP (intB .eql t9_5 (Value.int IntKind.i64 (-1))) fun t10_6 => condP t10_6 (bindP (fwdP 1 (ptr (nx + 2))) fun t11_7 => bindP (load1 ro h3 t11_7) fun t12_8 => bindP (lenSl t12_8) fun t13_9 => bindP (intB .eql t13_9 (Value.int IntKind.i64 0)) fun t14_10 => ∃ h11, Sub h11 h3 ∧ K t14_10 h11 (nx + 12)) (bindP (fwdP 0 (ptr (nx + 2))) fun t15_12 => bindP (load1 ro h3 t15_12) fun t16_13 => bindP (intB .lss t16_13 (Value.int IntKind.i64 1)) fun t17_14 => ifP t17_14 false h3 (nx + 32) (fun k15 => bindP (fwdP 0 (ptr (nx + 2))) fun t19_19 => k15 t19_19 h3 (nx + 32)) fun t19_16 h17 n18 => ifP t17_14 false h17 n18 (fun k20 => bindP (load1 ro h17 t19_16) fun t20_24 => k20 t20_24 h17 n18) fun t20_21 h22 n23 => ifP t17_14 false h22 n23 (fun k25 => bindP (fwdP 258 (ptr nx)) fun t21_29 => k25 t21_29 h22 n23) fun t21_26 h27 n28 => ifP t17_14 false h27 n28 (fun k30 => bindP (load1 ro h27 t21_26) fun t22_34 => k30 t22_34 h27 n28) fun t22_31 h32 n33 => ifP t17_14 false h32 n33 (fun k35 => bindP (lenSl t22_31) fun t23_39 => k35 t23_39 h32 n33) fun t23_36 h37 n38 => ifP t17_14 false h37 n38 (fun k40 => bindP (intB .geq t20_21 t23_36) fun t24_44 => k40 t24_44 h37 n38) fun t24_41 h42 n43 => bindP (pickV t17_14 (Value.bool true) t24_41) fun t25_45 => ifP t25_45 false h42 n43 (fun k46 => bindP (fwdP 1 (ptr (nx + 2))) fun t27_50 => k46 t27_50 h42 n43) fun t27_47 h48 n49 => ifP t25_45 false h48 n49 (fun k51 => bindP (load1 ro h48 t27_47) fun t28_55 => k51 t28_55 h48 n49) fun t28_52 h53 n54 => ifP t25_45 false h53 n54 (fun k56 => bindP (lenSl t28_52) fun t29_60 => k56 t29_60 h53 n54) fun t29_57 h58 n59 => ifP t25_45 false h58 n59 (fun k61 => bindP (fwdP 258 (ptr nx)) fun t30_65 => k61 t30_65 h58 n59) fun t30_62 h63 n64 => ifP t25_45 false h63 n64 (fun k66 => bindP (load1 ro h63 t30_62) fun t31_70 => k66 t31_70 h63 n64) fun t31_67 h68 n69 => ifP t25_45 false h68 n69 (fun k71 => bindP (fwdP 0 (ptr (nx + 2))) fun t32_75 => k71 t32_75 h68 n69) fun t32_72 h73 n74 => ifP t25_45 false h73 n74 (fun k76 => bindP (load1 ro h73 t32_72) fun t33_80 => k76 t33_80 h73 n74) fun t33_77 h78 n79 => ifP t25_45 false h78 n79 (fun k81 => bindP (ixSl 4 t31_67 t33_77) fun t34_85 => k81 t34_85 h78 n79) fun t34_82 h83 n84 => ifP t25_45 false h83 n84 (fun k86 => bindP (fwdP 1 t34_82) fun t35_90 => k86 t35_90 h83 n84) fun t35_87 h88 n89 => ifP t25_45 false h88 n89 (fun k91 => bindP (load1 ro h88 t35_87) fun t36_95 => k91 t36_95 h88 n89) fun t36_92 h93 n94 => ifP t25_45 false h93 n94 (fun k96 => bindP (lenSl t36_92) fun t37_100 => k96 t37_100 h93 n94) fun t37_97 h98 n99 => ifP t25_45 false h98 n99 (fun k101 => bindP (intB .neq t29_57 t37_97) fun t38_105 => k101 t38_105 h98 n99) fun t38_102 h103 n104 => bindP (pickV t25_45 (Value.bool true) t38_102) fun t39_106 => condP t39_106 (∃ h107, Sub h107 h103 ∧ K (Value.bool false) h107 (n104 + 1)) (loopP (ref11_move_L1 ro) (puts (entE [v0, v1, v2]) [(3, (ptr nx)), (4, (ptr (nx + 1))), (5, (ptr (nx + 2))), (6, (Value.bool false)), (8, t8_4), (9, t9_5), (10, t10_6), (15, t15_12), (16, t16_13), (17, t17_14), (18, t17_14), (19, t19_16), (20, t20_21), (21, t21_26), (22, t22_31), (23, t23_36), (24, t24_41), (25, t25_45), (26, t25_45), (27, t27_47), (28, t28_52), (29, t29_57), (30, t30_62), (31, t31_67), (32, t32_72), (33, t33_77), (34, t34_82), (35, t35_87), (36, t36_92), (37, t37_97), (38, t38_102), (39, t39_106), (7, (Value.int IntKind.i64 0))]) h103 (n104 + 1) fun x262 e259 h260 n261 => exP x262 (ref11_move_j1 ro K e259 h260 n261) (fun i263 => beqP (Nat.beq i263 0) (ref11_move_j1 ro K e259 h260 n261) (False)) (∃ h264, Sub h264 h260 ∧ K (e259 6) h264 n261)))
theorem ref11_move_eq (ro : Ro) (v0 v1 v2 : Value) (h : T Obj) (nx : Nat) (K : KV) : callPre Try.prog ro (callP Try.prog ro) Try.f70 [v0, v1, v2] h nx K = ref11_move ro v0 v1 v2 h nx K := by kernel_rfl
theorem ref11_move_of {ro : Ro} {v0 v1 v2 : Value} {h : T Obj} {nx : Nat} {K : KV} (hw : ref11_move ro v0 v1 v2 h nx K) : callP Try.prog ro i_ref11_move [v0, v1, v2] h nx K := callP_by (P := Try.prog) (fn := Try.f70) (by kernel_rfl) (by kernel_rfl) (by kernel_rfl) (Eq.mpr (ref11_move_eq ro v0 v1 v2 h nx K) hw)
@[irreducible] def slices_IndexFunc_api_State_api_State_j1 (ro : Ro) (K : KV) : Env → T Obj → Nat → Prop := fun e h nx => ∃ h1, Sub h1 h ∧ K (Value.int IntKind.i64 (-1)) h1 (nx + 1)
@[irreducible] def slices_IndexFunc_api_State_api_State_L1 (ro : Ro) : PT := fun e h nx Q => bindP (intB .lss (e 8) (e 7)) fun t9_3 => condP t9_3 (bindP (ixSl 4 (e 0) (e 8)) fun t14_4 => bindP (loadA ro h 4 t14_4) fun t15_5 => callF (callP Try.prog ro) (e 1) [t15_5] h (nx + 9) fun t16_6 h7 n8 => condP t16_6 (Q .ret (puts e [(9, t9_3), (10, (e 8)), (5, (e 8)), (11, (e 1)), (12, (e 0)), (13, (e 8)), (14, t14_4), (15, t15_5), (16, t16_6), (17, (e 8)), (4, (e 8))]) h7 (n8 + 2)) (bindP (intB .add (e 8) (Value.int IntKind.i64 1)) fun t18_9 => Q .normal (puts e [(9, t9_3), (10, (e 8)), (5, (e 8)), (11, (e 1)), (12, (e 0)), (13, (e 8)), (14, t14_4), (15, t15_5), (16, t16_6), (18, t18_9), (8, t18_9)]) h7 (n8 + 2))) (Q (.exit 0) (puts e [(9, t9_3)]) h (nx + 1))
@[irreducible] def slices_IndexFunc_api_State_api_State (ro : Ro) (v0 v1 : Value) (h : T Obj) (nx : Nat) (K : KV) : Prop := bindP (lenSl v0) fun t7_2 => loopP (slices_IndexFunc_api_State_api_State_L1 ro) (puts (entE [v0, v1]) [(4, (Value.int IntKind.i64 0)), (6, v0), (7, t7_2), (8, (Value.int IntKind.i64 0))]) h (nx + 4) fun x13 e10 h11 n12 => exP x13 (slices_IndexFunc_api_State_api_State_j1 ro K e10 h11 n12) (fun i14 => beqP (Nat.beq i14 0) (slices_IndexFunc_api_State_api_State_j1 ro K e10 h11 n12) (False)) (∃ h15, Sub h15 h11 ∧ K (e10 4) h15 n12)
theorem slices_IndexFunc_api_State_api_State_eq (ro : Ro) (v0 v1 : Value) (h : T Obj) (nx : Nat) (K : KV) : callPre Try.prog ro (callP Try.prog ro) Try.f76 [v0, v1] h nx K = slices_IndexFunc_api_State_api_State ro v0 v1 h nx K := by kernel_rfl
theorem slices_IndexFunc_api_State_api_State_of {ro : Ro} {v0 v1 : Value} {h : T Obj} {nx : Nat} {K : KV} (hw : slices_IndexFunc_api_State_api_State ro v0 v1 h nx K) : callP Try.prog ro i_slices_IndexFunc_api_State_api_State [v0, v1] h nx K := callP_by (P := Try.prog) (fn := Try.f76) (by kernel_rfl) (by kernel_rfl) (by kernel_rfl) (Eq.mpr (slices_IndexFunc_api_State_api_State_eq ro v0 v1 h nx K) hw)
@[irreducible] def auto_rises_j1 (ro : Ro) (K : KV) : Env → T Obj → Nat → Prop := fun e h nx => ∃ h1, Sub h1 h ∧ K (Value.bool true) h1 (nx + 1)
@[irreducible] def auto_rises_L1 (ro : Ro) : PT := fun e h nx Q => bindP (intB .lss (e 10) (e 9)) fun t11_3 => condP t11_3 (bindP (ixSl 1 (e 8) (e 10)) fun t12_4 => bindP (load1 ro h t12_4) fun t13_5 => bindP (intB .leq t13_5 (e 5)) fun t16_6 => ifP t16_6 false h (nx + 8) (fun k7 => k7 t13_5 h (nx + 9)) fun t18_8 h9 n10 => ifP t16_6 false h9 n10 (fun k11 => k11 (e 1) h9 (n10 + 1)) fun t19_12 h13 n14 => ifP t16_6 false h13 n14 (fun k15 => bindP (intB .geq t18_8 t19_12) fun t20_19 => k15 t20_19 h13 (n14 + 1)) fun t20_16 h17 n18 => bindP (pickV t16_6 (Value.bool true) t20_16) fun t21_20 => condP t21_20 (Q .ret (puts e [(11, t11_3), (12, t12_4), (13, t13_5), (7, t13_5), (14, t13_5), (15, (e 5)), (16, t16_6), (17, t16_6), (18, t18_8), (19, t19_12), (20, t20_16), (21, t21_20), (4, (Value.bool false))]) h17 (n18 + 2)) (bindP (intB .add (e 10) (Value.int IntKind.i64 1)) fun t23_21 => Q .normal (puts e [(11, t11_3), (12, t12_4), (13, t13_5), (7, t13_5), (14, t13_5), (15, (e 5)), (16, t16_6), (17, t16_6), (18, t18_8), (19, t19_12), (20, t20_16), (21, t21_20), (22, t13_5), (5, t13_5), (23, t23_21), (10, t23_21)]) h17 (n18 + 5))) (Q (.exit 0) (puts e [(11, t11_3)]) h (nx + 1))
@[irreducible] def auto_rises (ro : Ro) (v0 v1 : Value) (h : T Obj) (nx : Nat) (K : KV) : Prop := bindP (lenSl v0) fun t9_2 => loopP (auto_rises_L1 ro) (puts (entE [v0, v1]) [(4, (Value.bool false)), (5, (Value.int IntKind.i64 (-1))), (8, v0), (9, t9_2), (10, (Value.int IntKind.i64 0))]) h (nx + 5) fun x25 e22 h23 n24 => exP x25 (auto_rises_j1 ro K e22 h23 n24) (fun i26 => beqP (Nat.beq i26 0) (auto_rises_j1 ro K e22 h23 n24) (False)) (∃ h27, Sub h27 h23 ∧ K (e22 4) h27 n24)
theorem auto_rises_eq (ro : Ro) (v0 v1 : Value) (h : T Obj) (nx : Nat) (K : KV) : callPre Try.prog ro (callP Try.prog ro) Try.f77 [v0, v1] h nx K = auto_rises ro v0 v1 h nx K := by kernel_rfl
theorem auto_rises_of {ro : Ro} {v0 v1 : Value} {h : T Obj} {nx : Nat} {K : KV} (hw : auto_rises ro v0 v1 h nx K) : callP Try.prog ro i_auto_rises [v0, v1] h nx K := callP_by (P := Try.prog) (fn := Try.f77) (by kernel_rfl) (by kernel_rfl) (by kernel_rfl) (Eq.mpr (auto_rises_eq ro v0 v1 h nx K) hw)
@[irreducible] def slices_ContainsFunc_api_Move_api_Move (ro : Ro) (v0 v1 : Value) (h : T Obj) (nx : Nat) (K : KV) : Prop := callP Try.prog ro i_slices_IndexFunc_api_Move_api_Move [v0, v1] h (nx + 4) fun t7_1 h2 n3 => bindP (intB .geq t7_1 (Value.int IntKind.i64 0)) fun t8_4 => ∃ h5, Sub h5 h2 ∧ K t8_4 h5 (n3 + 2)
theorem slices_ContainsFunc_api_Move_api_Move_eq (ro : Ro) (v0 v1 : Value) (h : T Obj) (nx : Nat) (K : KV) : callPre Try.prog ro (callP Try.prog ro) Try.f78 [v0, v1] h nx K = slices_ContainsFunc_api_Move_api_Move ro v0 v1 h nx K := by kernel_rfl
theorem slices_ContainsFunc_api_Move_api_Move_of {ro : Ro} {v0 v1 : Value} {h : T Obj} {nx : Nat} {K : KV} (hw : slices_ContainsFunc_api_Move_api_Move ro v0 v1 h nx K) : callP Try.prog ro i_slices_ContainsFunc_api_Move_api_Move [v0, v1] h nx K := callP_by (P := Try.prog) (fn := Try.f78) (by kernel_rfl) (by kernel_rfl) (by kernel_rfl) (Eq.mpr (slices_ContainsFunc_api_Move_api_Move_eq ro v0 v1 h nx K) hw)
@[irreducible] def auto_checker_state_1 (ro : Ro) (v0 v1 v2 : Value) (h : T Obj) (nx : Nat) (K : KV) : Prop := newP h nx (.cells (Value.cells v0) y_api_Move) fun h1 => bindP (loadA ro h1 259 v1) fun t5_2 => bindP (loadA ro h1 4 v2) fun t6_3 => bindP (loadA ro h1 2 (ptr nx)) fun t7_4 => callP Try.prog ro i_auto_checker_move [t5_2, t6_3, t7_4] h1 (nx + 6) fun t8_5 h6 n7 => bindP (unV .not t8_5) fun t9_8 => ∃ h9, Sub h9 h6 ∧ K t9_8 h9 (n7 + 2)
theorem auto_checker_state_1_eq (ro : Ro) (v0 v1 v2 : Value) (h : T Obj) (nx : Nat) (K : KV) : callPre Try.prog ro (callP Try.prog ro) Try.f79 [v0, v1, v2] h nx K = auto_checker_state_1 ro v0 v1 v2 h nx K := by kernel_rfl
theorem auto_checker_state_1_of {ro : Ro} {v0 v1 v2 : Value} {h : T Obj} {nx : Nat} {K : KV} (hw : auto_checker_state_1 ro v0 v1 v2 h nx K) : callP Try.prog ro i_auto_checker_state_1 [v0, v1, v2] h nx K := callP_by (P := Try.prog) (fn := Try.f79) (by kernel_rfl) (by kernel_rfl) (by kernel_rfl) (Eq.mpr (auto_checker_state_1_eq ro v0 v1 v2 h nx K) hw)
@[irreducible] def auto_checker_move_j1 (ro : Ro) (K : KV) : Env → T Obj → Nat → Prop := fun e h nx => ∃ h118, Sub h118 h ∧ K (Value.bool true) h118 (nx + 1)
@[irreducible] def auto_checker_move_L1 (ro : Ro) : PT := fun e h nx Q => bindP (intB .lss (e 46) (e 45)) fun t47_122 => condP t47_122 (bindP (ixSl 1 (e 44) (e 46)) fun t49_123 => bindP (load1 ro h t49_123) fun t50_124 => bindP (intB .lss t50_124 (Value.int IntKind.u8 1)) fun t52_125 => ifP t52_125 false h (nx + 33) (fun k126 => k126 t50_124 h (nx + 33)) fun t54_127 h128 n129 => ifP t52_125 false h128 n129 (fun k130 => bindP (intB .gtr t54_127 (Value.int IntKind.u8 3)) fun t55_134 => k130 t55_134 h128 n129) fun t55_131 h132 n133 => bindP (pickV t52_125 (Value.bool true) t55_131) fun t56_135 => ifP t56_135 false h132 n133 (fun k136 => k136 t50_124 h132 n133) fun t58_137 h138 n139 => ifP t56_135 false h138 n139 (fun k140 => bindP (intB .neq t58_137 (Value.int IntKind.u8 3)) fun t59_144 => k140 t59_144 h138 n139) fun t59_141 h142 n143 => ifP t56_135 false h142 n143 (fun k145 => k145 t59_141 h142 n143) fun t60_146 h147 n148 => ifP t60_146 true h147 n148 (fun k149 => bindP (fwdP 1 (e 4)) fun t61_153 => k149 t61_153 h147 n148) fun t61_150 h151 n152 => ifP t60_146 true h151 n152 (fun k154 => bindP (load1 ro h151 t61_150) fun t62_158 => k154 t62_158 h151 n152) fun t62_155 h156 n157 => ifP t60_146 true h156 n157 (fun k159 => bindP (fwdP 0 (e 3)) fun t63_163 => k159 t63_163 h156 n157) fun t63_160 h161 n162 => ifP t60_146 true h161 n162 (fun k164 => bindP (fwdP 258 t63_160) fun t64_168 => k164 t64_168 h161 n162) fun t64_165 h166 n167 => ifP t60_146 true h166 n167 (fun k169 => bindP (load1 ro h166 t64_165) fun t65_173 => k169 t65_173 h166 n167) fun t65_170 h171 n172 => ifP t60_146 true h171 n172 (fun k174 => bindP (fwdP 0 (e 5)) fun t66_178 => k174 t66_178 h171 n172) fun t66_175 h176 n177 => ifP t60_146 true h176 n177 (fun k179 => bindP (load1 ro h176 t66_175) fun t67_183 => k179 t67_183 h176 n177) fun t67_180 h181 n182 => ifP t60_146 true h181 n182 (fun k184 => bindP (ixSl 4 t65_170 t67_180) fun t68_188 => k184 t68_188 h181 n182) fun t68_185 h186 n187 => ifP t60_146 true h186 n187 (fun k189 => bindP (fwdP 1 t68_185) fun t69_193 => k189 t69_193 h186 n187) fun t69_190 h191 n192 => ifP t60_146 true h191 n192 (fun k194 => bindP (load1 ro h191 t69_190) fun t70_198 => k194 t70_198 h191 n192) fun t70_195 h196 n197 => ifP t60_146 true h196 n197 (fun k199 => k199 (e 46) h196 n197) fun t71_200 h201 n202 => ifP t60_146 true h201 n202 (fun k203 => bindP (ixSl 1 t70_195 t71_200) fun t72_207 => k203 t72_207 h201 n202) fun t72_204 h205 n206 => ifP t60_146 true h205 n206 (fun k208 => bindP (load1 ro h205 t72_204) fun t73_212 => k208 t73_212 h205 n206) fun t73_209 h210 n211 => ifP t60_146 true h210 n211 (fun k213 => callP Try.prog ro i_slices_Contains_int_int [t62_155, t73_209] h210 n211 fun t74_217 h218 n219 => k213 t74_217 h218 n219) fun t74_214 h215 n216 => ifP t60_146 true h215 n216 (fun k220 => bindP (unV .not t74_214) fun t75_224 => k220 t75_224 h215 n216) fun t75_221 h222 n223 => ifP t56_135 false h222 n223 (fun k225 => bindP (pickV t60_146 t75_221 (Value.bool false)) fun t76_229 => k225 t76_229 h222 n223) fun t76_226 h227 n228 => bindP (pickV t56_135 (Value.bool true) t76_226) fun t77_230 => condP t77_230 (Q .ret (puts e [(47, t47_122), (48, (e 46)), (49, t49_123), (50, t50_124), (7, (e 46)), (8, t50_124), (51, t50_124), (52, t52_125), (53, t52_125), (54, t54_127), (55, t55_131), (56, t56_135), (57, t56_135), (58, t58_137), (59, t59_141), (60, t60_146), (61, t61_150), (62, t62_155), (63, t63_160), (64, t64_165), (65, t65_170), (66, t66_175), (67, t67_180), (68, t68_185), (69, t69_190), (70, t70_195), (71, t71_200), (72, t72_204), (73, t73_209), (74, t74_214), (75, t75_221), (76, t76_226), (77, t77_230), (6, (Value.bool false))]) h227 (n228 + 1)) (bindP (intB .add (e 46) (Value.int IntKind.i64 1)) fun t78_231 => Q .normal (puts e [(47, t47_122), (48, (e 46)), (49, t49_123), (50, t50_124), (7, (e 46)), (8, t50_124), (51, t50_124), (52, t52_125), (53, t52_125), (54, t54_127), (55, t55_131), (56, t56_135), (57, t56_135), (58, t58_137), (59, t59_141), (60, t60_146), (61, t61_150), (62, t62_155), (63, t63_160), (64, t64_165), (65, t65_170), (66, t66_175), (67, t67_180), (68, t68_185), (69, t69_190), (70, t70_195), (71, t71_200), (72, t72_204), (73, t73_209), (74, t74_214), (75, t75_221), (76, t76_226), (77, t77_230), (78, t78_231), (46, t78_231)]) h227 (n228 + 2))) (Q (.exit 0) (puts e [(47, t47_122)]) h (nx + 1))
@[irreducible] def auto_checker_move (ro : Ro) (v0 v1 v2 : Value) (h : T Obj) (nx : Nat) (K : KV) : Prop := newP h nx (.cells (Value.cells v0) y_auto_checker) fun h1 => newP h1 (nx + 1) (.cells (Value.cells v1) y_api_State) fun h2 => newP h2 (nx + 2) (.cells (Value.cells v2) y_api_Move) fun h3 => bindP (fwdP 0 (ptr (nx + 2))) fun t9_4 => bindP (load1 ro h3 t9_4) fun t10_5 => bindP (intB .eql t10_5 (Value.int IntKind.i64 (-1))) fun t11_6 => condP t11_6 (bindP (fwdP 1 (ptr (nx + 2))) fun t12_7 => bindP (load1 ro h3 t12_7) fun t13_8 => bindP (lenSl t13_8) fun t14_9 => bindP (intB .eql t14_9 (Value.int IntKind.i64 0)) fun t15_10 => ∃ h11, Sub h11 h3 ∧ K t15_10 h11 (nx + 12)) (bindP (fwdP 0 (ptr (nx + 2))) fun t16_12 => bindP (load1 ro h3 t16_12) fun t17_13 => bindP (intB .lss t17_13 (Value.int IntKind.i64 1)) fun t18_14 => ifP t18_14 false h3 (nx + 34) (fun k15 => bindP (fwdP 0 (ptr (nx + 2))) fun t20_19 => k15 t20_19 h3 (nx + 34)) fun t20_16 h17 n18 => ifP t18_14 false h17 n18 (fun k20 => bindP (load1 ro h17 t20_16) fun t21_24 => k20 t21_24 h17 n18) fun t21_21 h22 n23 => ifP t18_14 false h22 n23 (fun k25 => bindP (fwdP 0 (ptr nx)) fun t22_29 => k25 t22_29 h22 n23) fun t22_26 h27 n28 => ifP t18_14 false h27 n28 (fun k30 => bindP (fwdP 258 t22_26) fun t23_34 => k30 t23_34 h27 n28) fun t23_31 h32 n33 => ifP t18_14 false h32 n33 (fun k35 => bindP (load1 ro h32 t23_31) fun t24_39 => k35 t24_39 h32 n33) fun t24_36 h37 n38 => ifP t18_14 false h37 n38 (fun k40 => bindP (lenSl t24_36) fun t25_44 => k40 t25_44 h37 n38) fun t25_41 h42 n43 => ifP t18_14 false h42 n43 (fun k45 => bindP (intB .geq t21_21 t25_41) fun t26_49 => k45 t26_49 h42 n43) fun t26_46 h47 n48 => bindP (pickV t18_14 (Value.bool true) t26_46) fun t27_50 => ifP t27_50 false h47 n48 (fun k51 => bindP (fwdP 1 (ptr (nx + 2))) fun t29_55 => k51 t29_55 h47 n48) fun t29_52 h53 n54 => ifP t27_50 false h53 n54 (fun k56 => bindP (load1 ro h53 t29_52) fun t30_60 => k56 t30_60 h53 n54) fun t30_57 h58 n59 => ifP t27_50 false h58 n59 (fun k61 => bindP (lenSl t30_57) fun t31_65 => k61 t31_65 h58 n59) fun t31_62 h63 n64 => ifP t27_50 false h63 n64 (fun k66 => bindP (fwdP 0 (ptr nx)) fun t32_70 => k66 t32_70 h63 n64) fun t32_67 h68 n69 => ifP t27_50 false h68 n69 (fun k71 => bindP (fwdP 258 t32_67) fun t33_75 => k71 t33_75 h68 n69) fun t33_72 h73 n74 => ifP t27_50 false h73 n74 (fun k76 => bindP (load1 ro h73 t33_72) fun t34_80 => k76 t34_80 h73 n74) fun t34_77 h78 n79 => ifP t27_50 false h78 n79 (fun k81 => bindP (fwdP 0 (ptr (nx + 2))) fun t35_85 => k81 t35_85 h78 n79) fun t35_82 h83 n84 => ifP t27_50 false h83 n84 (fun k86 => bindP (load1 ro h83 t35_82) fun t36_90 => k86 t36_90 h83 n84) fun t36_87 h88 n89 => ifP t27_50 false h88 n89 (fun k91 => bindP (ixSl 4 t34_77 t36_87) fun t37_95 => k91 t37_95 h88 n89) fun t37_92 h93 n94 => ifP t27_50 false h93 n94 (fun k96 => bindP (fwdP 1 t37_92) fun t38_100 => k96 t38_100 h93 n94) fun t38_97 h98 n99 => ifP t27_50 false h98 n99 (fun k101 => bindP (load1 ro h98 t38_97) fun t39_105 => k101 t39_105 h98 n99) fun t39_102 h103 n104 => ifP t27_50 false h103 n104 (fun k106 => bindP (lenSl t39_102) fun t40_110 => k106 t40_110 h103 n104) fun t40_107 h108 n109 => ifP t27_50 false h108 n109 (fun k111 => bindP (intB .neq t31_62 t40_107) fun t41_115 => k111 t41_115 h108 n109) fun t41_112 h113 n114 => bindP (pickV t27_50 (Value.bool true) t41_112) fun t42_116 => condP t42_116 (∃ h117, Sub h117 h113 ∧ K (Value.bool false) h117 (n114 + 1)) (bindP (fwdP 1 (ptr (nx + 2))) fun t43_119 => bindP (load1 ro h113 t43_119) fun t44_120 => bindP (lenSl t44_120) fun t45_121 => loopP (auto_checker_move_L1 ro) (puts (entE [v0, v1, v2]) [(3, (ptr nx)), (4, (ptr (nx + 1))), (5, (ptr (nx + 2))), (6, (Value.bool false)), (9, t9_4), (10, t10_5), (11, t11_6), (16, t16_12), (17, t17_13), (18, t18_14), (19, t18_14), (20, t20_16), (21, t21_21), (22, t22_26), (23, t23_31), (24, t24_36), (25, t25_41), (26, t26_46), (27, t27_50), (28, t27_50), (29, t29_52), (30, t30_57), (31, t31_62), (32, t32_67), (33, t33_72), (34, t34_77), (35, t35_82), (36, t36_87), (37, t37_92), (38, t38_97), (39, t39_102), (40, t40_107), (41, t41_112), (42, t42_116), (43, t43_119), (44, t44_120), (45, t45_121), (46, (Value.int IntKind.i64 0))]) h113 (n114 + 4) fun x235 e232 h233 n234 => exP x235 (auto_checker_move_j1 ro K e232 h233 n234) (fun i236 => beqP (Nat.beq i236 0) (auto_checker_move_j1 ro K e232 h233 n234) (False)) (∃ h237, Sub h237 h233 ∧ K (e232 6) h237 n234)))
theorem auto_checker_move_eq (ro : Ro) (v0 v1 v2 : Value) (h : T Obj) (nx : Nat) (K : KV) : callPre Try.prog ro (callP Try.prog ro) Try.f80 [v0, v1, v2] h nx K = auto_checker_move ro v0 v1 v2 h nx K := by kernel_rfl
theorem auto_checker_move_of {ro : Ro} {v0 v1 v2 : Value} {h : T Obj} {nx : Nat} {K : KV} (hw : auto_checker_move ro v0 v1 v2 h nx K) : callP Try.prog ro i_auto_checker_move [v0, v1, v2] h nx K := callP_by (P := Try.prog) (fn := Try.f80) (by kernel_rfl) (by kernel_rfl) (by kernel_rfl) (Eq.mpr (auto_checker_move_eq ro v0 v1 v2 h nx K) hw)
@[irreducible] def ref11_in_j1 (ro : Ro) (K : KV) : Env → T Obj → Nat → Prop := fun e h nx => ∃ h1, Sub h1 h ∧ K (Value.bool false) h1 (nx + 1)
@[irreducible] def ref11_in_L1 (ro : Ro) : PT := fun e h nx Q => bindP (lenSl (e 0)) fun t8_2 => bindP (intB .lss (e 5) t8_2) fun t9_3 => condP t9_3 (bindP (ixSl 1 (e 0) (e 5)) fun t14_4 => bindP (load1 ro h t14_4) fun t15_5 => bindP (intB .eql t15_5 (e 1)) fun t17_6 => condP t17_6 (Q .ret (puts e [(6, (e 5)), (7, (e 0)), (8, t8_2), (9, t9_3), (12, (e 0)), (13, (e 5)), (14, t14_4), (15, t15_5), (16, (e 1)), (17, t17_6), (4, (Value.bool true))]) h (nx + 11)) (bindP (intB .add (e 5) (Value.int IntKind.i64 1)) fun t11_7 => Q .normal (puts e [(6, (e 5)), (7, (e 0)), (8, t8_2), (9, t9_3), (12, (e 0)), (13, (e 5)), (14, t14_4), (15, t15_5), (16, (e 1)), (17, t17_6), (10, (e 5)), (11, t11_7), (5, t11_7)]) h (nx + 13))) (Q (.exit 0) (puts e [(6, (e 5)), (7, (e 0)), (8, t8_2), (9, t9_3)]) h (nx + 4))
@[irreducible] def ref11_in (ro : Ro) (v0 v1 : Value) (h : T Obj) (nx : Nat) (K : KV) : Prop := loopP (ref11_in_L1 ro) (puts (entE [v0, v1]) [(4, (Value.bool false)), (5, (Value.int IntKind.i64 0))]) h (nx + 2) fun x11 e8 h9 n10 => exP x11 (ref11_in_j1 ro K e8 h9 n10) (fun i12 => beqP (Nat.beq i12 0) (ref11_in_j1 ro K e8 h9 n10) (False)) (∃ h13, Sub h13 h9 ∧ K (e8 4) h13 n10)
theorem ref11_in_eq (ro : Ro) (v0 v1 : Value) (h : T Obj) (nx : Nat) (K : KV) : callPre Try.prog ro (callP Try.prog ro) Try.f87 [v0, v1] h nx K = ref11_in ro v0 v1 h nx K := by kernel_rfl
theorem ref11_in_of {ro : Ro} {v0 v1 : Value} {h : T Obj} {nx : Nat} {K : KV} (hw : ref11_in ro v0 v1 h nx K) : callP Try.prog ro i_ref11_in [v0, v1] h nx K := callP_by (P := Try.prog) (fn := Try.f87) (by kernel_rfl) (by kernel_rfl) (by kernel_rfl) (Eq.mpr (ref11_in_eq ro v0 v1 h nx K) hw)
@[irreducible] def slices_IndexFunc_api_Move_api_Move_j1 (ro : Ro) (K : KV) : Env → T Obj → Nat → Prop := fun e h nx => ∃ h1, Sub h1 h ∧ K (Value.int IntKind.i64 (-1)) h1 (nx + 1)
@[irreducible] def slices_IndexFunc_api_Move_api_Move_L1 (ro : Ro) : PT := fun e h nx Q => bindP (intB .lss (e 8) (e 7)) fun t9_3 => condP t9_3 (bindP (ixSl 2 (e 0) (e 8)) fun t14_4 => bindP (loadA ro h 2 t14_4) fun t15_5 => callF (callP Try.prog ro) (e 1) [t15_5] h (nx + 9) fun t16_6 h7 n8 => condP t16_6 (Q .ret (puts e [(9, t9_3), (10, (e 8)), (5, (e 8)), (11, (e 1)), (12, (e 0)), (13, (e 8)), (14, t14_4), (15, t15_5), (16, t16_6), (17, (e 8)), (4, (e 8))]) h7 (n8 + 2)) (bindP (intB .add (e 8) (Value.int IntKind.i64 1)) fun t18_9 => Q .normal (puts e [(9, t9_3), (10, (e 8)), (5, (e 8)), (11, (e 1)), (12, (e 0)), (13, (e 8)), (14, t14_4), (15, t15_5), (16, t16_6), (18, t18_9), (8, t18_9)]) h7 (n8 + 2))) (Q (.exit 0) (puts e [(9, t9_3)]) h (nx + 1))
@[irreducible] def slices_IndexFunc_api_Move_api_Move (ro : Ro) (v0 v1 : Value) (h : T Obj) (nx : Nat) (K : KV) : Prop := bindP (lenSl v0) fun t7_2 => loopP (slices_IndexFunc_api_Move_api_Move_L1 ro) (puts (entE [v0, v1]) [(4, (Value.int IntKind.i64 0)), (6, v0), (7, t7_2), (8, (Value.int IntKind.i64 0))]) h (nx + 4) fun x13 e10 h11 n12 => exP x13 (slices_IndexFunc_api_Move_api_Move_j1 ro K e10 h11 n12) (fun i14 => beqP (Nat.beq i14 0) (slices_IndexFunc_api_Move_api_Move_j1 ro K e10 h11 n12) (False)) (∃ h15, Sub h15 h11 ∧ K (e10 4) h15 n12)
theorem slices_IndexFunc_api_Move_api_Move_eq (ro : Ro) (v0 v1 : Value) (h : T Obj) (nx : Nat) (K : KV) : callPre Try.prog ro (callP Try.prog ro) Try.f99 [v0, v1] h nx K = slices_IndexFunc_api_Move_api_Move ro v0 v1 h nx K := by kernel_rfl
theorem slices_IndexFunc_api_Move_api_Move_of {ro : Ro} {v0 v1 : Value} {h : T Obj} {nx : Nat} {K : KV} (hw : slices_IndexFunc_api_Move_api_Move ro v0 v1 h nx K) : callP Try.prog ro i_slices_IndexFunc_api_Move_api_Move [v0, v1] h nx K := callP_by (P := Try.prog) (fn := Try.f99) (by kernel_rfl) (by kernel_rfl) (by kernel_rfl) (Eq.mpr (slices_IndexFunc_api_Move_api_Move_eq ro v0 v1 h nx K) hw)
@[irreducible] def slices_Contains_int_int (ro : Ro) (v0 v1 : Value) (h : T Obj) (nx : Nat) (K : KV) : Prop := callP Try.prog ro i_slices_Index_int_int [v0, v1] h (nx + 4) fun t7_1 h2 n3 => bindP (intB .geq t7_1 (Value.int IntKind.i64 0)) fun t8_4 => ∃ h5, Sub h5 h2 ∧ K t8_4 h5 (n3 + 2)
theorem slices_Contains_int_int_eq (ro : Ro) (v0 v1 : Value) (h : T Obj) (nx : Nat) (K : KV) : callPre Try.prog ro (callP Try.prog ro) Try.f100 [v0, v1] h nx K = slices_Contains_int_int ro v0 v1 h nx K := by kernel_rfl
theorem slices_Contains_int_int_of {ro : Ro} {v0 v1 : Value} {h : T Obj} {nx : Nat} {K : KV} (hw : slices_Contains_int_int ro v0 v1 h nx K) : callP Try.prog ro i_slices_Contains_int_int [v0, v1] h nx K := callP_by (P := Try.prog) (fn := Try.f100) (by kernel_rfl) (by kernel_rfl) (by kernel_rfl) (Eq.mpr (slices_Contains_int_int_eq ro v0 v1 h nx K) hw)
@[irreducible] def slices_Index_int_int_j1 (ro : Ro) (K : KV) : Env → T Obj → Nat → Prop := fun e h nx => ∃ h1, Sub h1 h ∧ K (Value.int IntKind.i64 (-1)) h1 (nx + 1)
@[irreducible] def slices_Index_int_int_L1 (ro : Ro) : PT := fun e h nx Q => bindP (intB .lss (e 8) (e 7)) fun t9_3 => condP t9_3 (bindP (ixSl 1 (e 0) (e 8)) fun t14_4 => bindP (load1 ro h t14_4) fun t15_5 => bindP (intB .eql (e 1) t15_5) fun t16_6 => condP t16_6 (Q .ret (puts e [(9, t9_3), (10, (e 8)), (5, (e 8)), (11, (e 1)), (12, (e 0)), (13, (e 8)), (14, t14_4), (15, t15_5), (16, t16_6), (17, (e 8)), (4, (e 8))]) h (nx + 11)) (bindP (intB .add (e 8) (Value.int IntKind.i64 1)) fun t18_7 => Q .normal (puts e [(9, t9_3), (10, (e 8)), (5, (e 8)), (11, (e 1)), (12, (e 0)), (13, (e 8)), (14, t14_4), (15, t15_5), (16, t16_6), (18, t18_7), (8, t18_7)]) h (nx + 11))) (Q (.exit 0) (puts e [(9, t9_3)]) h (nx + 1))
@[irreducible] def slices_Index_int_int (ro : Ro) (v0 v1 : Value) (h : T Obj) (nx : Nat) (K : KV) : Prop := bindP (lenSl v0) fun t7_2 => loopP (slices_Index_int_int_L1 ro) (puts (entE [v0, v1]) [(4, (Value.int IntKind.i64 0)), (6, v0), (7, t7_2), (8, (Value.int IntKind.i64 0))]) h (nx + 4) fun x11 e8 h9 n10 => exP x11 (slices_Index_int_int_j1 ro K e8 h9 n10) (fun i12 => beqP (Nat.beq i12 0) (slices_Index_int_int_j1 ro K e8 h9 n10) (False)) (∃ h13, Sub h13 h9 ∧ K (e8 4) h13 n10)
theorem slices_Index_int_int_eq (ro : Ro) (v0 v1 : Value) (h : T Obj) (nx : Nat) (K : KV) : callPre Try.prog ro (callP Try.prog ro) Try.f108 [v0, v1] h nx K = slices_Index_int_int ro v0 v1 h nx K := by kernel_rfl
theorem slices_Index_int_int_of {ro : Ro} {v0 v1 : Value} {h : T Obj} {nx : Nat} {K : KV} (hw : slices_Index_int_int ro v0 v1 h nx K) : callP Try.prog ro i_slices_Index_int_int [v0, v1] h nx K := callP_by (P := Try.prog) (fn := Try.f108) (by kernel_rfl) (by kernel_rfl) (by kernel_rfl) (Eq.mpr (slices_Index_int_int_eq ro v0 v1 h nx K) hw)
end V
end Go.Proofs.Ytmmdcdjkmakgpaa
set_option linter.unusedVariables false
set_option linter.unusedSimpArgs false
namespace Go.Proofs.Ytmmdcdjkmakgpaa
namespace V
attribute [local irreducible] bindP ifP condP newP optP exP beqP
set_option maxRecDepth 4000 in
theorem auto_rises_c {ro : Ro} {v : Value} {l : List Int} {many : Int} (hm : many ≤ 1000000) {h : T Obj} {nx : Nat} {K : KV} (hv : ZI ro h v l) (hK : ∀ nx', nx ≤ nx' → K (.bool (rz (-1) many l)) h nx') : callP Try.prog ro i_auto_rises [v, .int .i64 many] h nx K := by
  apply auto_rises_of
  unfold auto_rises
  generalize hR : rz (-1) many l = R at hK
  refine bindP_mk hv.len ?_
  refine loopP_rule (fun j e h' nx' => ∃ (k : Nat) (last : Int), k + j = l.length ∧ nx ≤ nx' ∧ h' = h ∧ e 1 = .int .i64 many ∧ e 5 = .int .i64 last ∧ e 8 = v ∧ e 9 = .int .i64 l.length ∧ e 10 = .int .i64 k ∧ (k : Int) ≤ last + 1 ∧ rz last many (l.drop k) = R) ?_ (n := l.length) ⟨0, -1, by omega, by omega, rfl, rfl, rfl, rfl, rfl, rfl, by omega, hR⟩
  rintro j e h' nx' ⟨k, last, hj, hnx, rfl, e1, e5, e8, e9, e10, hk1, hr⟩ Q' hq hx
  unfold auto_rises_L1
  rw [e1, e5, e8, e9, e10]
  (repeat (first | refine bindP_mk (by simp (disch := first | omega | exact Int.natCast_nonneg _ | assumption) only [BB, B2, ↓reduceIte, Nat.reduceLeDiff, Nat.reduceAdd, intB_eql, intB_neq, intB_lss, intB_leq, intB_gtr, intB_geq] <;> rfl) ?_ | refine newP_mk ?_ | refine optP_mk ?_ | with_reducible first | refine condP_t ?_ | refine condP_f ?_ | refine ifP_tt' ?_ | refine ifP_ff' ?_ | refine ifP_tf' ?_ | refine ifP_ft' ?_ | refine ifP_u' ?_ | refine optP_mk0 ?_))
  refine condP_d (fun hk => ?_) (fun hk => ?_)
  · have hk : k < l.length := by omega
    rw [drop_cons hk, rz_cons] at hr
    refine bindP_mk (hv.ix _ hk) (bindP_mk (hv.load hk) ?_)
    generalize l[k] = x at hr
    (repeat (first | refine bindP_mk (by simp (disch := first | omega | exact Int.natCast_nonneg _ | assumption) only [BB, B2, ↓reduceIte, Nat.reduceLeDiff, Nat.reduceAdd, intB_eql, intB_neq, intB_lss, intB_leq, intB_gtr, intB_geq] <;> rfl) ?_ | refine newP_mk ?_ | refine optP_mk ?_ | with_reducible first | refine condP_t ?_ | refine condP_f ?_ | refine ifP_tt' ?_ | refine ifP_ff' ?_ | refine ifP_tf' ?_ | refine ifP_ft' ?_ | refine ifP_u' ?_ | refine optP_mk0 ?_))
    by_cases h1 : x ≤ last
    · rw [decide_eq_true h1]
      (repeat (first | refine bindP_mk (by simp (disch := first | omega | exact Int.natCast_nonneg _ | assumption) only [BB, B2, ↓reduceIte, Nat.reduceLeDiff, Nat.reduceAdd, intB_eql, intB_neq, intB_lss, intB_leq, intB_gtr, intB_geq] <;> rfl) ?_ | refine newP_mk ?_ | refine optP_mk ?_ | with_reducible first | refine condP_t ?_ | refine condP_f ?_ | refine ifP_tt' ?_ | refine ifP_ff' ?_ | refine ifP_tf' ?_ | refine ifP_ft' ?_ | refine ifP_u' ?_ | refine optP_mk0 ?_))
      refine hx _ _ _ _ (fun e => by cases e) (exP_r ?_)
      refine ⟨_, Sub.refl _, kb hK ?_ (by omega)⟩
      rw [← hr, decide_eq_false (by omega)]; rfl
    · rw [decide_eq_false h1]
      (repeat (first | refine bindP_mk (by simp (disch := first | omega | exact Int.natCast_nonneg _ | assumption) only [BB, B2, ↓reduceIte, Nat.reduceLeDiff, Nat.reduceAdd, intB_eql, intB_neq, intB_lss, intB_leq, intB_gtr, intB_geq] <;> rfl) ?_ | refine newP_mk ?_ | refine optP_mk ?_ | with_reducible first | refine condP_t ?_ | refine condP_f ?_ | refine ifP_tt' ?_ | refine ifP_ff' ?_ | refine ifP_tf' ?_ | refine ifP_ft' ?_ | refine ifP_u' ?_ | refine optP_mk0 ?_))
      by_cases h2 : many ≤ x
      · rw [decide_eq_true h2]
        (repeat (first | refine bindP_mk (by simp (disch := first | omega | exact Int.natCast_nonneg _ | assumption) only [BB, B2, ↓reduceIte, Nat.reduceLeDiff, Nat.reduceAdd, intB_eql, intB_neq, intB_lss, intB_leq, intB_gtr, intB_geq] <;> rfl) ?_ | refine newP_mk ?_ | refine optP_mk ?_ | with_reducible first | refine condP_t ?_ | refine condP_f ?_ | refine ifP_tt' ?_ | refine ifP_ff' ?_ | refine ifP_tf' ?_ | refine ifP_ft' ?_ | refine ifP_u' ?_ | refine optP_mk0 ?_))
        refine hx _ _ _ _ (fun e => by cases e) (exP_r ?_)
        refine ⟨_, Sub.refl _, kb hK ?_ (by omega)⟩
        rw [← hr, decide_eq_false (show ¬ x < many by omega)]; simp
      · rw [decide_eq_false h2]
        (repeat (first | refine bindP_mk (by simp (disch := first | omega | exact Int.natCast_nonneg _ | assumption) only [BB, B2, ↓reduceIte, Nat.reduceLeDiff, Nat.reduceAdd, intB_eql, intB_neq, intB_lss, intB_leq, intB_gtr, intB_geq] <;> rfl) ?_ | refine newP_mk ?_ | refine optP_mk ?_ | with_reducible first | refine condP_t ?_ | refine condP_f ?_ | refine ifP_tt' ?_ | refine ifP_ff' ?_ | refine ifP_tf' ?_ | refine ifP_ft' ?_ | refine ifP_u' ?_ | refine optP_mk0 ?_))
        refine hq (j - 1) _ _ _ _ (by omega) ⟨k + 1, x, by omega, by omega, rfl, e1, rfl, e8, e9, rfl, by omega, ?_⟩ (Sub.refl _)
        rw [← hr, decide_eq_true (show last < x by omega), decide_eq_true (show x < many by omega)]; rfl
  · refine hx _ _ _ _ (fun e => by cases e) (exP_e (beqP_t ?_))
    unfold auto_rises_j1
    rw [drop_all (by omega)] at hr
    exact ⟨_, Sub.refl _, kb hK hr.symm (by omega)⟩
set_option maxRecDepth 4000 in
theorem ref11_rises_c {ro : Ro} {v : Value} {l : List Int} {many : Int} (hm : many ≤ 1000000) {h : T Obj} {nx : Nat} {K : KV} (hv : ZI ro h v l) (hK : ∀ nx', nx ≤ nx' → K (.bool (rz (-1) many l)) h nx') : callP Try.prog ro i_ref11_rises [v, .int .i64 many] h nx K := by
  apply ref11_rises_of
  unfold ref11_rises
  generalize hR : rz (-1) many l = R at hK
  refine loopP_rule (fun j e h' nx' => ∃ (k : Nat) (last : Int), k + j = l.length ∧ nx ≤ nx' ∧ h' = h ∧ e 0 = v ∧ e 1 = .int .i64 many ∧ e 5 = .int .i64 k ∧ (k : Int) ≤ last + 1 ∧ last ≤ 1000000 ∧ (k = 0 → last = -1) ∧ (∀ q, q + 1 = k → l[q]? = some last) ∧ rz last many (l.drop k) = R) ?_ (n := l.length) ⟨0, -1, by omega, by omega, rfl, rfl, rfl, rfl, by omega, by omega, fun _ => rfl, fun q hq => by omega, hR⟩
  rintro j e h' nx' ⟨k, last, hj, hnx, rfl, e0, e1, e5, hk1, hk2, hk0, hkp, hr⟩ Q' hq hx
  unfold ref11_rises_L1
  rw [e0, e1, e5]
  refine bindP_mk hv.len ?_
  refine lss_s (fun hk => ?_) (fun hk => ?_)
  · have hk : k < l.length := by omega
    have hxk : l[k]? = some l[k] := List.getElem?_eq_getElem hk
    rw [drop_cons hk, rz_cons] at hr
    (repeat (first | refine bindP_mk (by simp (disch := first | omega | exact Int.natCast_nonneg _ | assumption) only [BB, B2, ↓reduceIte, Nat.reduceLeDiff, Nat.reduceAdd, CC] <;> rfl) ?_ | refine newP_mk ?_ | refine optP_mk ?_ | with_reducible first | refine condP_t ?_ | refine condP_f ?_ | refine ifP_tt' ?_ | refine ifP_ff' ?_ | refine ifP_tf' ?_ | refine ifP_ft' ?_ | refine ifP_u' ?_ | refine optP_mk0 ?_))
    refine bindP_mk (hv.ix _ hk) (bindP_mk (hv.load hk) ?_)
    generalize l[k] = x at hr hxk
    have hfin : ∀ (e' : Env) n, e' 4 = .bool false → (¬ last < x ∨ ¬ x < many) → nx ≤ n → Q' .ret e' h' n := fun e' n h4 hc hn => by
      refine hx _ _ _ _ (fun e => by cases e) (exP_r ?_)
      rw [h4]
      refine ⟨_, Sub.refl _, kb hK ?_ hn⟩
      rw [← hr]
      rcases hc with hc | hc
      · rw [decide_eq_false hc]; rfl
      · rw [decide_eq_false hc]; simp
    have hok : ∀ (e' : Env) n, e' 0 = v → e' 1 = .int .i64 many → e' 5 = .int .i64 ((k : Int) + 1) → last < x → x < many → nx ≤ n → Q' .normal e' h' n := fun e' n g0 g1 g5 hc1 hc2 hn => by
      refine hq (j - 1) _ _ _ _ (by omega) ⟨k + 1, x, by omega, hn, rfl, g0, g1, g5, by omega, by omega, fun h => by omega, fun q hq => ?_, ?_⟩ (Sub.refl _)
      · have : q = k := by omega
        subst this; exact hxk
      · rw [← hr, decide_eq_true hc1, decide_eq_true hc2]; rfl
    (first | refine lss_s (fun hb => ?_) (fun hb => ?_) | refine leq_s (fun hb => ?_) (fun hb => ?_) | refine gtr_s (fun hb => ?_) (fun hb => ?_) | refine geq_s (fun hb => ?_) (fun hb => ?_) | refine eql_s (fun hb => ?_) (fun hb => ?_) | refine neq_s (fun hb => ?_) (fun hb => ?_))
    · (repeat (first | refine bindP_mk (by simp (disch := first | omega | exact Int.natCast_nonneg _ | assumption) only [BB, B2, ↓reduceIte, Nat.reduceLeDiff, Nat.reduceAdd, CC] <;> rfl) ?_ | refine newP_mk ?_ | refine optP_mk ?_ | with_reducible first | refine condP_t ?_ | refine condP_f ?_ | refine ifP_tt' ?_ | refine ifP_ff' ?_ | refine ifP_tf' ?_ | refine ifP_ft' ?_ | refine ifP_u' ?_ | refine optP_mk0 ?_))
      exact hfin _ _ rfl (.inl (by omega)) (by omega)
    · (repeat (first | refine bindP_mk (by simp (disch := first | omega | exact Int.natCast_nonneg _ | assumption) only [BB, B2, ↓reduceIte, Nat.reduceLeDiff, Nat.reduceAdd, CC] <;> rfl) ?_ | refine newP_mk ?_ | refine optP_mk ?_ | with_reducible first | refine condP_t ?_ | refine condP_f ?_ | refine ifP_tt' ?_ | refine ifP_ff' ?_ | refine ifP_tf' ?_ | refine ifP_ft' ?_ | refine ifP_u' ?_ | refine optP_mk0 ?_))
      refine bindP_mk (hv.ix _ hk) ?_
      (repeat (first | refine bindP_mk (by simp (disch := first | omega | exact Int.natCast_nonneg _ | assumption) only [BB, B2, ↓reduceIte, Nat.reduceLeDiff, Nat.reduceAdd, CC] <;> rfl) ?_ | refine newP_mk ?_ | refine optP_mk ?_ | with_reducible first | refine condP_t ?_ | refine condP_f ?_ | refine ifP_tt' ?_ | refine ifP_ff' ?_ | refine ifP_tf' ?_ | refine ifP_ft' ?_ | refine ifP_u' ?_ | refine optP_mk0 ?_))
      refine bindP_mk (hv.load' hxk) ?_
      (repeat (first | refine bindP_mk (by simp (disch := first | omega | exact Int.natCast_nonneg _ | assumption) only [BB, B2, ↓reduceIte, Nat.reduceLeDiff, Nat.reduceAdd, CC] <;> rfl) ?_ | refine newP_mk ?_ | refine optP_mk ?_ | with_reducible first | refine condP_t ?_ | refine condP_f ?_ | refine ifP_tt' ?_ | refine ifP_ff' ?_ | refine ifP_tf' ?_ | refine ifP_ft' ?_ | refine ifP_u' ?_ | refine optP_mk0 ?_))
      (first | refine lss_s (fun hb => ?_) (fun hb => ?_) | refine leq_s (fun hb => ?_) (fun hb => ?_) | refine gtr_s (fun hb => ?_) (fun hb => ?_) | refine geq_s (fun hb => ?_) (fun hb => ?_) | refine eql_s (fun hb => ?_) (fun hb => ?_) | refine neq_s (fun hb => ?_) (fun hb => ?_))
      · (repeat (first | refine bindP_mk (by simp (disch := first | omega | exact Int.natCast_nonneg _ | assumption) only [BB, B2, ↓reduceIte, Nat.reduceLeDiff, Nat.reduceAdd, CC] <;> rfl) ?_ | refine newP_mk ?_ | refine optP_mk ?_ | with_reducible first | refine condP_t ?_ | refine condP_f ?_ | refine ifP_tt' ?_ | refine ifP_ff' ?_ | refine ifP_tf' ?_ | refine ifP_ft' ?_ | refine ifP_u' ?_ | refine optP_mk0 ?_))
        exact hfin _ _ rfl (.inr (by omega)) (by omega)
      · (repeat (first | refine bindP_mk (by simp (disch := first | omega | exact Int.natCast_nonneg _ | assumption) only [BB, B2, ↓reduceIte, Nat.reduceLeDiff, Nat.reduceAdd, CC] <;> rfl) ?_ | refine newP_mk ?_ | refine optP_mk ?_ | with_reducible first | refine condP_t ?_ | refine condP_f ?_ | refine ifP_tt' ?_ | refine ifP_ff' ?_ | refine ifP_tf' ?_ | refine ifP_ft' ?_ | refine ifP_u' ?_ | refine optP_mk0 ?_))
        (first | refine lss_s (fun hb => ?_) (fun hb => ?_) | refine leq_s (fun hb => ?_) (fun hb => ?_) | refine gtr_s (fun hb => ?_) (fun hb => ?_) | refine geq_s (fun hb => ?_) (fun hb => ?_) | refine eql_s (fun hb => ?_) (fun hb => ?_) | refine neq_s (fun hb => ?_) (fun hb => ?_))
        · have h2 := hkp (k - 1) (by omega)
          have h3 := (List.getElem?_eq_some_iff.1 h2).1
          have h4 : ((k : Int) - 1).toNat = k - 1 := by omega
          (repeat (first | refine bindP_mk (by simp (disch := first | omega | exact Int.natCast_nonneg _ | assumption) only [BB, B2, ↓reduceIte, Nat.reduceLeDiff, Nat.reduceAdd, CC] <;> rfl) ?_ | refine newP_mk ?_ | refine optP_mk ?_ | with_reducible first | refine condP_t ?_ | refine condP_f ?_ | refine ifP_tt' ?_ | refine ifP_ff' ?_ | refine ifP_tf' ?_ | refine ifP_ft' ?_ | refine ifP_u' ?_ | refine optP_mk0 ?_))
          refine bindP_mk (hv.ixI _ (by omega) (by omega)) ?_
          rw [h4]
          (repeat (first | refine bindP_mk (by simp (disch := first | omega | exact Int.natCast_nonneg _ | assumption) only [BB, B2, ↓reduceIte, Nat.reduceLeDiff, Nat.reduceAdd, CC] <;> rfl) ?_ | refine newP_mk ?_ | refine optP_mk ?_ | with_reducible first | refine condP_t ?_ | refine condP_f ?_ | refine ifP_tt' ?_ | refine ifP_ff' ?_ | refine ifP_tf' ?_ | refine ifP_ft' ?_ | refine ifP_u' ?_ | refine optP_mk0 ?_))
          refine bindP_mk (hv.load' h2) ?_
          (repeat (first | refine bindP_mk (by simp (disch := first | omega | exact Int.natCast_nonneg _ | assumption) only [BB, B2, ↓reduceIte, Nat.reduceLeDiff, Nat.reduceAdd, CC] <;> rfl) ?_ | refine newP_mk ?_ | refine optP_mk ?_ | with_reducible first | refine condP_t ?_ | refine condP_f ?_ | refine ifP_tt' ?_ | refine ifP_ff' ?_ | refine ifP_tf' ?_ | refine ifP_ft' ?_ | refine ifP_u' ?_ | refine optP_mk0 ?_))
          refine bindP_mk (hv.ix _ hk) ?_
          (repeat (first | refine bindP_mk (by simp (disch := first | omega | exact Int.natCast_nonneg _ | assumption) only [BB, B2, ↓reduceIte, Nat.reduceLeDiff, Nat.reduceAdd, CC] <;> rfl) ?_ | refine newP_mk ?_ | refine optP_mk ?_ | with_reducible first | refine condP_t ?_ | refine condP_f ?_ | refine ifP_tt' ?_ | refine ifP_ff' ?_ | refine ifP_tf' ?_ | refine ifP_ft' ?_ | refine ifP_u' ?_ | refine optP_mk0 ?_))
          refine bindP_mk (hv.load' hxk) ?_
          (repeat (first | refine bindP_mk (by simp (disch := first | omega | exact Int.natCast_nonneg _ | assumption) only [BB, B2, ↓reduceIte, Nat.reduceLeDiff, Nat.reduceAdd, CC] <;> rfl) ?_ | refine newP_mk ?_ | refine optP_mk ?_ | with_reducible first | refine condP_t ?_ | refine condP_f ?_ | refine ifP_tt' ?_ | refine ifP_ff' ?_ | refine ifP_tf' ?_ | refine ifP_ft' ?_ | refine ifP_u' ?_ | refine optP_mk0 ?_))
          (first | refine lss_s (fun hb => ?_) (fun hb => ?_) | refine leq_s (fun hb => ?_) (fun hb => ?_) | refine gtr_s (fun hb => ?_) (fun hb => ?_) | refine geq_s (fun hb => ?_) (fun hb => ?_) | refine eql_s (fun hb => ?_) (fun hb => ?_) | refine neq_s (fun hb => ?_) (fun hb => ?_))
          · (repeat (first | refine bindP_mk (by simp (disch := first | omega | exact Int.natCast_nonneg _ | assumption) only [BB, B2, ↓reduceIte, Nat.reduceLeDiff, Nat.reduceAdd, CC] <;> rfl) ?_ | refine newP_mk ?_ | refine optP_mk ?_ | with_reducible first | refine condP_t ?_ | refine condP_f ?_ | refine ifP_tt' ?_ | refine ifP_ff' ?_ | refine ifP_tf' ?_ | refine ifP_ft' ?_ | refine ifP_u' ?_ | refine optP_mk0 ?_))
            exact hfin _ _ rfl (.inl (by omega)) (by omega)
          · (repeat (first | refine bindP_mk (by simp (disch := first | omega | exact Int.natCast_nonneg _ | assumption) only [BB, B2, ↓reduceIte, Nat.reduceLeDiff, Nat.reduceAdd, CC] <;> rfl) ?_ | refine newP_mk ?_ | refine optP_mk ?_ | with_reducible first | refine condP_t ?_ | refine condP_f ?_ | refine ifP_tt' ?_ | refine ifP_ff' ?_ | refine ifP_tf' ?_ | refine ifP_ft' ?_ | refine ifP_u' ?_ | refine optP_mk0 ?_))
            exact hok _ _ e0 e1 rfl (by omega) (by omega) (by omega)
        · (repeat (first | refine bindP_mk (by simp (disch := first | omega | exact Int.natCast_nonneg _ | assumption) only [BB, B2, ↓reduceIte, Nat.reduceLeDiff, Nat.reduceAdd, CC] <;> rfl) ?_ | refine newP_mk ?_ | refine optP_mk ?_ | with_reducible first | refine condP_t ?_ | refine condP_f ?_ | refine ifP_tt' ?_ | refine ifP_ff' ?_ | refine ifP_tf' ?_ | refine ifP_ft' ?_ | refine ifP_u' ?_ | refine optP_mk0 ?_))
          exact hok _ _ e0 e1 rfl (by omega) (by omega) (by omega)
  · (repeat (first | refine bindP_mk (by simp (disch := first | omega | exact Int.natCast_nonneg _ | assumption) only [BB, B2, ↓reduceIte, Nat.reduceLeDiff, Nat.reduceAdd, CC] <;> rfl) ?_ | refine newP_mk ?_ | refine optP_mk ?_ | with_reducible first | refine condP_t ?_ | refine condP_f ?_ | refine ifP_tt' ?_ | refine ifP_ff' ?_ | refine ifP_tf' ?_ | refine ifP_ft' ?_ | refine ifP_u' ?_ | refine optP_mk0 ?_))
    refine hx _ _ _ _ (fun e => by cases e) (exP_e (beqP_t ?_))
    unfold ref11_rises_j1
    rw [drop_all (by omega)] at hr
    exact ⟨_, Sub.refl _, kb hK hr.symm (by omega)⟩
theorem ref11_in_c {ro : Ro} {v : Value} {l : List Int} {p : Int} (hlen : l.length ≤ 1000000) {h : T Obj} {nx : Nat} {K : KV} (hv : ZI ro h v l) (hK : ∀ nx', nx ≤ nx' → K (.bool (l.contains p)) h nx') : callP Try.prog ro i_ref11_in [v, .int .i64 p] h nx K := by
  apply ref11_in_of
  unfold ref11_in
  generalize hR : l.contains p = R at hK
  refine loopP_rule (fun j e h' nx' => ∃ (k : Nat), k + j = l.length ∧ nx ≤ nx' ∧ h' = h ∧ e 0 = v ∧ e 1 = .int .i64 p ∧ e 5 = .int .i64 k ∧ (l.drop k).contains p = R) ?_ (n := l.length) ⟨0, by omega, by omega, rfl, rfl, rfl, rfl, hR⟩
  rintro j e h' nx' ⟨k, hj, hnx, rfl, e0, e1, e5, hr⟩ Q' hq hx
  unfold ref11_in_L1
  rw [e0, e1, e5]
  refine bindP_mk hv.len ?_
  refine lss_s (fun hk => ?_) (fun hk => ?_)
  · have hk : k < l.length := by omega
    rw [drop_cons hk] at hr
    (repeat (first | refine bindP_mk (by simp (disch := first | omega | exact Int.natCast_nonneg _ | assumption) only [BB, B2, ↓reduceIte, Nat.reduceLeDiff, Nat.reduceAdd, CC] <;> rfl) ?_ | refine newP_mk ?_ | refine optP_mk ?_ | with_reducible first | refine condP_t ?_ | refine condP_f ?_ | refine ifP_tt' ?_ | refine ifP_ff' ?_ | refine ifP_tf' ?_ | refine ifP_ft' ?_ | refine ifP_u' ?_ | refine optP_mk0 ?_))
    refine bindP_mk (hv.ix _ hk) (bindP_mk (hv.load hk) ?_)
    generalize l[k] = x at hr
    refine eql_s (fun he => ?_) (fun he => ?_)
    · (repeat (first | refine bindP_mk (by simp (disch := first | omega | exact Int.natCast_nonneg _ | assumption) only [BB, B2, ↓reduceIte, Nat.reduceLeDiff, Nat.reduceAdd, CC] <;> rfl) ?_ | refine newP_mk ?_ | refine optP_mk ?_ | with_reducible first | refine condP_t ?_ | refine condP_f ?_ | refine ifP_tt' ?_ | refine ifP_ff' ?_ | refine ifP_tf' ?_ | refine ifP_ft' ?_ | refine ifP_u' ?_ | refine optP_mk0 ?_))
      refine hx _ _ _ _ (fun e => by cases e) (exP_r ?_)
      exact ⟨_, Sub.refl _, kb hK (by rw [← hr, he]; simp) (by omega)⟩
    · (repeat (first | refine bindP_mk (by simp (disch := first | omega | exact Int.natCast_nonneg _ | assumption) only [BB, B2, ↓reduceIte, Nat.reduceLeDiff, Nat.reduceAdd, CC] <;> rfl) ?_ | refine newP_mk ?_ | refine optP_mk ?_ | with_reducible first | refine condP_t ?_ | refine condP_f ?_ | refine ifP_tt' ?_ | refine ifP_ff' ?_ | refine ifP_tf' ?_ | refine ifP_ft' ?_ | refine ifP_u' ?_ | refine optP_mk0 ?_))
      refine hq (j - 1) _ _ _ _ (by omega) ⟨k + 1, by omega, by omega, rfl, e0, e1, rfl, ?_⟩ (Sub.refl _)
      rw [← hr, List.contains_cons, beq_eq_false_iff_ne.2 (Ne.symm he), Bool.false_or]
  · (repeat (first | refine bindP_mk (by simp (disch := first | omega | exact Int.natCast_nonneg _ | assumption) only [BB, B2, ↓reduceIte, Nat.reduceLeDiff, Nat.reduceAdd, CC] <;> rfl) ?_ | refine newP_mk ?_ | refine optP_mk ?_ | with_reducible first | refine condP_t ?_ | refine condP_f ?_ | refine ifP_tt' ?_ | refine ifP_ff' ?_ | refine ifP_tf' ?_ | refine ifP_ft' ?_ | refine ifP_u' ?_ | refine optP_mk0 ?_))
    refine hx _ _ _ _ (fun e => by cases e) (exP_e (beqP_t ?_))
    unfold ref11_in_j1
    rw [drop_all (by omega)] at hr
    exact ⟨_, Sub.refl _, kb hK hr.symm (by omega)⟩
theorem slices_Contains_c {ro : Ro} {v : Value} {l : List Int} {p : Int} (hlen : l.length ≤ 1000000) {h : T Obj} {nx : Nat} {K : KV} (hv : ZI ro h v l) (hK : ∀ nx', nx ≤ nx' → K (.bool (l.contains p)) h nx') : callP Try.prog ro i_slices_Contains_int_int [v, .int .i64 p] h nx K := by
  apply slices_Contains_int_int_of
  unfold slices_Contains_int_int
  apply slices_Index_int_int_of
  unfold slices_Index_int_int
  refine bindP_mk hv.len ?_
  have hyes : ∀ (k : Nat) n, p ∈ l → nx ≤ n → bindP (intB .geq (.int .i64 (k : Int)) (.int .i64 0)) fun t8_4 => ∃ h5, Sub h5 h ∧ K t8_4 h5 (n + 2) := fun k n hp hn => by
    refine geq_s (fun hg => ?_) (fun hg => by omega)
    exact ⟨_, Sub.refl _, kb hK (by simpa using hp) (by omega)⟩
  generalize hR : l.contains p = R at hK
  refine loopP_rule (fun j e h' nx' => ∃ (k : Nat), k + j = l.length ∧ nx ≤ nx' ∧ h' = h ∧ e 0 = v ∧ e 1 = .int .i64 p ∧ e 7 = .int .i64 l.length ∧ e 8 = .int .i64 k ∧ (l.drop k).contains p = R) ?_ (n := l.length) ⟨0, by omega, by omega, rfl, rfl, rfl, rfl, rfl, hR⟩
  rintro j e h' nx' ⟨k, hj, hnx, rfl, e0, e1, e7, e8, hr⟩ Q' hq hx
  unfold slices_Index_int_int_L1
  rw [e0, e1, e7, e8]
  refine lss_s (fun hk => ?_) (fun hk => ?_)
  · have hk : k < l.length := by omega
    have hmem : l[k] ∈ l := List.getElem_mem hk
    rw [drop_cons hk] at hr
    (repeat (first | refine bindP_mk (by simp (disch := first | omega | exact Int.natCast_nonneg _ | assumption) only [BB, B2, ↓reduceIte, Nat.reduceLeDiff, Nat.reduceAdd, CC] <;> rfl) ?_ | refine newP_mk ?_ | refine optP_mk ?_ | with_reducible first | refine condP_t ?_ | refine condP_f ?_ | refine ifP_tt' ?_ | refine ifP_ff' ?_ | refine ifP_tf' ?_ | refine ifP_ft' ?_ | refine ifP_u' ?_ | refine optP_mk0 ?_))
    refine bindP_mk (hv.ix _ hk) (bindP_mk (hv.load hk) ?_)
    generalize l[k] = x at hr hmem
    refine eql_s (fun he => ?_) (fun he => ?_)
    · (repeat (first | refine bindP_mk (by simp (disch := first | omega | exact Int.natCast_nonneg _ | assumption) only [BB, B2, ↓reduceIte, Nat.reduceLeDiff, Nat.reduceAdd, CC] <;> rfl) ?_ | refine newP_mk ?_ | refine optP_mk ?_ | with_reducible first | refine condP_t ?_ | refine condP_f ?_ | refine ifP_tt' ?_ | refine ifP_ff' ?_ | refine ifP_tf' ?_ | refine ifP_ft' ?_ | refine ifP_u' ?_ | refine optP_mk0 ?_))
      refine hx _ _ _ _ (fun e => by cases e) (exP_r ?_)
      refine ⟨_, Sub.refl _, hyes _ _ (by rw [he]; exact hmem) (by omega)⟩
    · (repeat (first | refine bindP_mk (by simp (disch := first | omega | exact Int.natCast_nonneg _ | assumption) only [BB, B2, ↓reduceIte, Nat.reduceLeDiff, Nat.reduceAdd, CC] <;> rfl) ?_ | refine newP_mk ?_ | refine optP_mk ?_ | with_reducible first | refine condP_t ?_ | refine condP_f ?_ | refine ifP_tt' ?_ | refine ifP_ff' ?_ | refine ifP_tf' ?_ | refine ifP_ft' ?_ | refine ifP_u' ?_ | refine optP_mk0 ?_))
      refine hq (j - 1) _ _ _ _ (by omega) ⟨k + 1, by omega, by omega, rfl, e0, e1, e7, rfl, ?_⟩ (Sub.refl _)
      rw [← hr, List.contains_cons, beq_eq_false_iff_ne.2 he, Bool.false_or]
  · (repeat (first | refine bindP_mk (by simp (disch := first | omega | exact Int.natCast_nonneg _ | assumption) only [BB, B2, ↓reduceIte, Nat.reduceLeDiff, Nat.reduceAdd, CC] <;> rfl) ?_ | refine newP_mk ?_ | refine optP_mk ?_ | with_reducible first | refine condP_t ?_ | refine condP_f ?_ | refine ifP_tt' ?_ | refine ifP_ff' ?_ | refine ifP_tf' ?_ | refine ifP_ft' ?_ | refine ifP_u' ?_ | refine optP_mk0 ?_))
    refine hx _ _ _ _ (fun e => by cases e) (exP_e (beqP_t ?_))
    unfold slices_Index_int_int_j1
    rw [drop_all (by omega)] at hr
    refine ⟨_, Sub.refl _, ?_⟩
    refine geq_s (fun hg => by omega) (fun hg => ?_)
    exact ⟨_, Sub.refl _, kb hK hr.symm (by omega)⟩
end V
end Go.Proofs.Ytmmdcdjkmakgpaa