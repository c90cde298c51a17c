/- The builder's states, in memory; one more code.
   No condition. -/
import Derived.Test.YtmmdcdjkmakgpaaBK
set_option linter.unusedVariables false
set_option linter.unusedSimpArgs false
namespace Go.Proofs.Ytmmdcdjkmakgpaa
namespace V
open PA
attribute [local irreducible] bindP ifP condP newP optP exP beqP
/-! ### What is computed may be so -/
def SOk (g : GlD) (S : List StateD) : Prop := ∀ s ∈ S, rz (-1) g.p.length s.l = true ∧ s.r = regsZ g s.l ∧ s.r.length ≤ 3
theorem findZ_ok {g : GlD} {S : List StateD} {l : List Int} (hS : SOk g S) (hl : rz (-1) g.p.length l = true) : SOk g (findZ g S l).2.2 := by
  unfold findZ
  split
  · exact hS
  · split
    · exact hS
    · split
      · exact hS
      · intro s hs
        rcases List.mem_append.1 hs with hs | hs
        · exact hS s hs
        · simp at hs; subst hs
          exact ⟨hl, rfl, by show (regsZ g l).length ≤ 3; omega⟩
theorem goesZ_ok {g : GlD} {en st : Int → Bool} {b : Nat} {S : List StateD} (hS : SOk g S) : SOk g (goesZ g en st b S).2.2 := by
  by_cases h : lZ g en st b = []
  · rw [goesZ_nil h]; exact hS
  · rw [goesZ_ne h]; exact findZ_ok hS (lZ_rz _ _ _ _)
theorem rowZ_ok {g : GlD} {en st : Int → Bool} : ∀ {B : List Nat} {S : List StateD}, SOk g S → SOk g (rowZ g en st B S).2.2
  | [], S, hS => hS
  | b :: r, S, hS => by
    rw [rowZ_cons]
    split
    · exact rowZ_ok (goesZ_ok hS)
    · exact hS
theorem opZ_lt (en st : Int → Bool) (q : Int) : opZ en st q < 256 := by
  unfold opZ
  split
  · split <;> omega
  · omega
theorem goesZ_ops {g : GlD} (hg : g.p.length ≤ 512) {en st : Int → Bool} {b : Nat} {S : List StateD} : (∀ o ∈ (goesZ g en st b S).1.ops, o < 256) ∧ (goesZ g en st b S).1.ops.length ≤ 512 := by
  by_cases h : lZ g en st b = []
  · rw [goesZ_nil h]; exact ⟨fun o ho => (by cases ho), by simp⟩
  · rw [goesZ_ne h]
    refine ⟨fun o ho => ?_, ?_⟩
    · have ho : o ∈ opsZ g en st (lZ g en st b) := ho
      unfold opsZ at ho
      obtain ⟨q, _, rfl⟩ := List.mem_map.1 ho
      exact opZ_lt _ _ _
    · have h1 := opsZ_len g en st (lZ g en st b)
      have h2 := lZ_len g en st b
      show (opsZ g en st (lZ g en st b)).length ≤ 512
      omega
theorem rowZ_ops {g : GlD} (hg : g.p.length ≤ 512) {en st : Int → Bool} : ∀ {B : List Nat} {S : List StateD}, (∀ m ∈ (rowZ g en st B S).2.1, (∀ o ∈ m.ops, o < 256) ∧ m.ops.length ≤ 512) ∧ (rowZ g en st B S).2.1.length ≤ B.length
  | [], S => ⟨fun m hm => (by cases hm), Nat.le_refl _⟩
  | b :: r, S => by
    rw [rowZ_cons]
    split
    · obtain ⟨h1, h2⟩ := rowZ_ops hg (en := en) (st := st) (B := r) (S := (goesZ g en st b S).2.2)
      refine ⟨fun m hm => ?_, ?_⟩
      · rcases List.mem_cons.1 hm with rfl | hm
        · exact goesZ_ops hg
        · exact h1 m hm
      · simp only [List.length_cons]; omega
    · exact ⟨fun m hm => (by cases hm), Nat.zero_le _⟩
theorem modify_ok {g : GlD} {S : List StateD} (hS : SOk g S) (k : Nat) (rule : Int) (row : List MoveD) : SOk g (S.modify k (addRow rule row)) := by
  intro s hs
  obtain ⟨i, hi⟩ := List.mem_iff_getElem?.1 hs
  rw [List.getElem?_modify] at hi
  cases hq : S[i]? with
  | none => rw [hq] at hi; cases hi
  | some t =>
    rw [hq] at hi
    have ht := hS t (List.mem_of_getElem? hq)
    have hi := Option.some.inj hi
    split at hi
    · rw [← hi]; exact ht
    · have hi : t = s := hi
      rw [← hi]; exact ht
theorem codeZ_ok {g : GlD} {B : List Nat} {k : Nat} {c : Int} {S : List StateD} (hS : SOk g S) : SOk g (codeZ g B k c S).2 := by
  unfold codeZ
  dsimp only
  split
  · exact modify_ok (rowZ_ok hS) _ _ _
  · exact hS
theorem modify_ne {S : List StateD} {f : StateD → StateD} {i k : Nat} (h : i ≠ k) : (S.modify k f)[i]? = S[i]? := by
  rw [List.getElem?_modify]
  cases S[i]? with
  | none => rfl
  | some t => show some (if k = i then f t else t) = some t; rw [if_neg (Ne.symm h)]
theorem modify_self {S : List StateD} {f : StateD → StateD} {k : Nat} : (S.modify k f)[k]? = (S[k]?).map f := by
  rw [List.getElem?_modify]
  cases S[k]? with
  | none => rfl
  | some t => show some (if k = k then f t else t) = some (f t); rw [if_pos rfl]
theorem OwnT.updLo {h : T Obj} {v : Value} {z i : Nat} {e : TypeId} {l : List (List Value)} {lo : Nat} {o : Option Obj} (ho : OwnT h v z e l lo) (hi : i < lo) : OwnT (h.upd i o) v z e l lo := by
  rcases ho with ho | ⟨id, h1, rfl, h4, h5⟩
  · exact .inl ho
  · exact .inr ⟨id, h1, rfl, h4, by rw [T.get_upd_ne _ _ (by omega)]; exact h5⟩
/-! ### In memory -/
/-- States, one of which is worked at. -/
structure StR (ro : Ro) (h : T Obj) (X : List Nat) (k : Nat) (uv wv lv rv : Value) (S : List StateD) (cs : List (List Value)) (s : StateD) (ws : List Value) : Prop where
  other : ∀ (i : Nat) x t, i ≠ k → cs[i]? = some x → S[i]? = some t → RState ro (del h X) x t
  tail : ∀ (i : Nat) x t, k < i → cs[i]? = some x → S[i]? = some t → (∃ lv rv, x = [lv, rv, nilS, nilS]) ∧ t.rule = [] ∧ t.next = []
  hx : cs[k]? = some [lv, rv, uv, wv]
  hs : S[k]? = some s
  l : ZI ro (del h X) lv s.l
  r : ZI ro (del h X) rv s.r
  u : OwnT h uv 1 y_int (intsZ s.rule) 0
  w : OwnT h wv 1 y_s_api_Move (onesC ws) 0
  rl : ws.length = s.next.length
  rows : ∀ (i : Nat) v row, ws[i]? = some v → s.next[i]? = some row → RRow ro (del h X) [v] row
theorem OwnT.zi {ro : Ro} {h : T Obj} {v : Value} {l : List Int} {lo : Nat} (ho : OwnT h v 1 y_int (intsZ l) lo) : ZI ro h v l := ho.sl
theorem ops_R {ro : Ro} {h : T Obj} {v : Value} {l : List Nat} {lo : Nat} (ho : OwnT h v 1 y_uint8 (opsC l) lo) (hl : ∀ o ∈ l, o < 256) : SlR ro h v 1 RU8 l := ⟨opsC l, ho.sl, opsC_len l, fun i x d hx hd => by
  unfold opsC at hx
  rw [List.getElem?_map, hd] at hx
  exact ⟨(Option.some.inj hx).symm, hl d (List.mem_of_getElem? hd)⟩⟩
theorem row_R {ro : Ro} {h : T Obj} {v : Value} {lo : Nat} {mcs : List (List Value)} {row : List MoveD} (ho : OwnT h v 2 y_api_Move mcs lo) (hr : RowOwn h lo mcs row) (hl : ∀ m ∈ row, (∀ o ∈ m.ops, o < 256) ∧ m.ops.length ≤ 512) (hb : row.length ≤ 1000000) : RRow ro h [v] row :=
  ⟨v, rfl, ⟨mcs, ho.sl, hr.1, fun i x m hx hm => by
    obtain ⟨ov, h1, h2⟩ := hr.2 i x m hx hm
    obtain ⟨h3, h4⟩ := hl m (List.mem_of_getElem? hm)
    exact ⟨ov, h1, ops_R h2 h3, by unfold maxB; omega⟩⟩, by unfold maxB; omega⟩
theorem new_R {ro : Ro} {h : T Obj} {x : List Value} {t : StateD} {lo : Nat} (hn : NewSt h lo x t) (hr : t.r.length ≤ 3) : RState ro h x t := by
  obtain ⟨lv, rv, h1, h2, h3, h4, h5⟩ := hn
  refine ⟨lv, rv, nilS, nilS, h1, h2.sl, h3.sl, ?_, ?_, by unfold maxB; omega⟩
  · rw [h4]; exact Sl.nil
  · rw [h5]; exact SlR.nil
section
variable {ro : Ro} {g : GlD} {bid nid kid eid yid sid k : Nat} {av bv fv cv lv rv uv wv : Value} {c : List Nat} {n : Int} {S : List StateD} {cs : List (List Value)} {s : StateD} {ws : List Value}
set_option maxHeartbeats 1000000 in
/-- One more code. -/
theorem StR.step {h h' : T Obj} {nx sid' rid : Nat} {uv' wv' rowv : Value} {S' : List StateD} {cs' mcs : List (List Value)} {rule : Int} {row : List MoveD} (hrid : rid < nx) (hSR : StR ro h (rid :: XL bid kid eid yid sid uv wv) k uv wv lv rv S cs s ws) (hf : Fr h nx) (hk : Keep (XL bid kid eid yid sid uv wv) h h') (hsd : sid' = sid ∨ nx ≤ sid') (hlen : cs.length = S.length)
    (hg : Grow (del h' (XL bid kid eid yid sid' uv' wv')) nx cs cs' S S') (hu : OwnT h' uv' 1 y_int (intsZ (s.rule ++ [rule])) nx) (hw : OwnT h' wv' 1 y_s_api_Move (onesC (ws ++ [rowv])) nx) (hro : OwnT (del h' (XL bid kid eid yid sid' uv' wv')) rowv 2 y_api_Move mcs nx) (hrw : RowOwn (del h' (XL bid kid eid yid sid' uv' wv')) nx mcs row)
    (hok : ∀ t ∈ S', t.r.length ≤ 3) (hops : ∀ m ∈ row, (∀ o ∈ m.ops, o < 256) ∧ m.ops.length ≤ 512) (hrl : row.length ≤ 1000000) :
    Sub (del h (rid :: XL bid kid eid yid sid uv wv)) (del h' (rid :: XL bid kid eid yid sid' uv' wv')) ∧ StR ro h' (rid :: XL bid kid eid yid sid' uv' wv') k uv' wv' lv rv (S'.modify k (addRow rule row)) (cs'.set k [lv, rv, uv', wv']) (addRow rule row s) (ws ++ [rowv]) := by
  have hg : Grow (del h' (rid :: XL bid kid eid yid sid' uv' wv')) nx cs cs' S S' := by
    obtain ⟨ds, T, a1, a2, a3, a4⟩ := hg
    refine ⟨ds, T, a1, a2, a3, fun i x t hx ht => ?_⟩
    obtain ⟨lv, rv, h1, h2, h3, h4⟩ := a4 i x t hx ht
    exact ⟨lv, rv, h1, h2.updLo hrid, h3.updLo hrid, h4⟩
  have hro : OwnT (del h' (rid :: XL bid kid eid yid sid' uv' wv')) rowv 2 y_api_Move mcs nx := hro.updLo hrid
  have hrw : RowOwn (del h' (rid :: XL bid kid eid yid sid' uv' wv')) nx mcs row := ⟨hrw.1, fun i x m hx hm => by
    obtain ⟨ov, h1, h2⟩ := hrw.2 i x m hx hm
    exact ⟨ov, h1, h2.updLo hrid⟩⟩
  have hsub : Sub (del h (rid :: XL bid kid eid yid sid uv wv)) (del h' (rid :: XL bid kid eid yid sid' uv' wv')) := hk.del (fun _ h => List.mem_cons_of_mem _ h) fun q hq => by
    rcases List.mem_cons.1 hq with hq | hq
    · exact .inl (List.mem_cons.2 (.inl hq))
    unfold XL at hq
    simp only [List.mem_append, List.mem_cons, List.not_mem_nil, or_false, Option.mem_toList] at hq
    have hin : ∀ q, (q = bid ∨ q = kid ∨ q = eid ∨ q = yid ∨ q = sid) → q ∈ rid :: XL bid kid eid yid sid uv wv := fun q hq => by
      refine List.mem_cons_of_mem _ ?_
      unfold XL
      simp only [List.mem_append, List.mem_cons, List.not_mem_nil, or_false]
      exact .inl hq
    rcases hq with (hq | hq | hq | hq | hq) | hq | hq
    · exact .inl (hin _ (.inl hq))
    · exact .inl (hin _ (.inr (.inl hq)))
    · exact .inl (hin _ (.inr (.inr (.inl hq))))
    · exact .inl (hin _ (.inr (.inr (.inr (.inl hq)))))
    · rcases hsd with hsd | hsd
      · exact .inl (hin _ (.inr (.inr (.inr (.inr (hq.trans hsd))))))
      · exact .inr (hf q (by omega))
    · exact .inr (hf q (hu.blk hq).1)
    · exact .inr (hf q (hw.blk hq).1)
  refine ⟨hsub, ?_⟩
  have hkl := (List.getElem?_eq_some_iff.1 hSR.hx).1
  have hgg := hg
  obtain ⟨ds, T, a1, a2, a3, a4⟩ := hgg
  have hS'k : S'[k]? = some s := by rw [a2, List.getElem?_append_left (by omega)]; exact hSR.hs
  refine ⟨fun i x t hi hx ht => ?_, fun i x t hi hx ht => ?_, ?_, ?_, hSR.l.sub hsub, hSR.r.sub hsub, hu.mono (Nat.zero_le _), hw.mono (Nat.zero_le _), ?_, fun i v r9 hv hr9 => ?_⟩
  · rw [List.getElem?_set_ne (Ne.symm hi)] at hx
    rw [modify_ne hi] at ht
    rcases Nat.lt_or_ge i cs.length with hil | hil
    · rw [a1, List.getElem?_append_left hil] at hx
      rw [a2, List.getElem?_append_left (by omega)] at ht
      exact RState.sub hsub _ _ (hSR.other i x t hi hx ht)
    · have htm := List.mem_of_getElem? ht
      rw [a1, List.getElem?_append_right hil] at hx
      rw [a2, List.getElem?_append_right (by omega), ← hlen] at ht
      exact new_R (a4 _ x t hx ht) (hok t htm)
  · rw [List.getElem?_set_ne (by omega)] at hx
    rw [modify_ne (by omega)] at ht
    rcases Nat.lt_or_ge i cs.length with hil | hil
    · rw [a1, List.getElem?_append_left hil] at hx
      rw [a2, List.getElem?_append_left (by omega)] at ht
      exact hSR.tail i x t hi hx ht
    · rw [a1, List.getElem?_append_right hil] at hx
      rw [a2, List.getElem?_append_right (by omega), ← hlen] at ht
      obtain ⟨lv, rv, q1, q2, q3, q4, q5⟩ := a4 _ x t hx ht
      exact ⟨⟨lv, rv, q1⟩, q4, q5⟩
  · rw [List.getElem?_set_self (by rw [a1]; simp; omega)]
  · rw [modify_self, hS'k]; rfl
  · have := hSR.rl
    show (ws ++ [rowv]).length = (s.next ++ [row]).length
    simp [this]
  · have hr9 : (s.next ++ [row])[i]? = some r9 := hr9
    rcases Nat.lt_or_ge i ws.length with hil | hil
    · rw [List.getElem?_append_left hil] at hv
      rw [List.getElem?_append_left (by have := hSR.rl; omega)] at hr9
      exact RRow.sub hsub _ _ (hSR.rows i v r9 hv hr9)
    · rw [List.getElem?_append_right hil] at hv
      rw [List.getElem?_append_right (by have := hSR.rl; omega), ← hSR.rl] at hr9
      generalize i - ws.length = j at hv hr9
      cases j with
      | succ j => simp at hv
      | zero =>
        simp at hv hr9
        subst hv; subst hr9
        exact row_R hro hrw hops hrl
theorem Bd.modS {h : T Obj} {S' : List StateD} (hB : Bd h g bid nid kid eid yid sid av bv fv c n cv S cs) (hl : S'.length = S.length) (hi : ∀ l, S'.findIdx? (isL l) = S.findIdx? (isL l)) : Bd h g bid nid kid eid yid sid av bv fv c n cv S' cs := by
  obtain ⟨f2, k1, k2⟩ := hB.known
  exact ⟨hB.hc, hB.blk, hB.num, ⟨f2, k1, fun l h1 h2 => by rw [hi]; exact k2 l h1 h2⟩, hB.row, hB.z4, by rw [hl]; exact hB.len, by rw [hl]; exact hB.few, by rw [hl]; exact hB.pos, hB.nk⟩
theorem findIdx_modify (k : Nat) (f : StateD → StateD) (l : List Int) (hf : ∀ s, isL l (f s) = isL l s) : ∀ (S : List StateD), (S.modify k f).findIdx? (isL l) = S.findIdx? (isL l) := by
  intro S
  induction S generalizing k with
  | nil => cases k <;> simp
  | cons s S ih =>
    cases k with
    | zero => rw [List.modify_zero_cons, List.findIdx?_cons, List.findIdx?_cons, hf]
    | succ k => rw [List.modify_succ_cons, List.findIdx?_cons, List.findIdx?_cons, ih]
theorem XL5 : XL bid kid eid yid sid nilS nilS = [bid, kid, eid, yid, sid] := rfl
set_option maxHeartbeats 1000000 in
/-- One more code, of the state that is worked at. -/
theorem code_SR {B : List Nat} {code : Int} {en0 st0 : Int → Bool} {hb : T Obj} {rid : Nat} {ra : Array Value} (hr : rightD g = true) (hBl : B.length ≤ 256) (hc0 : 0 ≤ code) (hc1 : code ≤ 255) (hey : eid ≠ yid) (hen : eid ≠ nid) (hek : eid ≠ kid) (hyn : yid ≠ nid) (hyk : yid ≠ kid)
    {h : T Obj} {nx : Nat} {K : KV} (hf : Fr h nx) (hB : Bd h g bid nid kid eid yid sid av bv fv c n cv S cs) (hE : BMap h eid en0) (hY : BMap h yid st0) (hri : h.get rid = some (.cells ra y_api_Auto)) (hbs : Sub hb (del h (rid :: XL bid kid eid yid sid uv wv)))
    (hP : SlR ro hb bv 9 (RPos ro hb) g.p) (ha : ZI ro hb av g.first) (hfv : SlR ro hb fv 1 RU8 B) (hSR : StR ro h (rid :: XL bid kid eid yid sid uv wv) k uv wv lv rv S cs s ws) (hOk : SOk g S) (hrl : s.rule.length ≤ 1000000) (hwl : ws.length ≤ 1000000)
    (hKe : (codeZ g B k code S).1 ≠ 0 → ∀ h' nx', nx ≤ nx' → Fr h' nx' → Sub hb h' → h'.get rid = some (.cells ra y_api_Auto) → K (.int .i64 (codeZ g B k code S).1) h' nx')
    (hK : (codeZ g B k code S).1 = 0 → ∀ h' nx' sid' cs' uv' wv' ws' s' en st, nx ≤ nx' → Fr h' nx' → h'.get rid = some (.cells ra y_api_Auto) → Sub hb (del h' (rid :: XL bid kid eid yid sid' uv' wv')) → Bd h' g bid nid kid eid yid sid' av bv fv c n cv (codeZ g B k code S).2 cs' → StR ro h' (rid :: XL bid kid eid yid sid' uv' wv') k uv' wv' lv rv (codeZ g B k code S).2 cs' s' ws' →
      s'.l = s.l → s'.rule.length = s.rule.length + 1 → ws'.length = ws.length + 1 → BMap h' eid en → BMap h' yid st → K (.int .i64 0) h' nx') :
    callP Try.prog ro i_auto_builder_code [ptr bid, .int .i64 (k : Int), .int .i64 code] h nx K := by
  obtain ⟨hgl, hfr, hmay⟩ := right_parts hr
  have hbs0 : Sub hb (del h (XL bid kid eid yid sid uv wv)) := hbs.trans (del_mono fun q hq => List.mem_cons_of_mem _ hq)
  have hd0 : Sub (del h (rid :: XL bid kid eid yid sid uv wv)) (del h (XL bid kid eid yid sid uv wv)) := del_mono fun q hq => List.mem_cons_of_mem _ hq
  have hrn : rid ∉ XL bid kid eid yid sid uv wv := by
    have m4 := hB.blk
    have m5 := hB.row
    obtain ⟨_, _, m1⟩ := hE.obj
    obtain ⟨_, _, m2⟩ := hY.obj
    obtain ⟨f2, k1, k2⟩ := hB.known
    obtain ⟨_, _, m3⟩ := k1.obj
    unfold XL
    simp only [List.mem_append, List.mem_cons, List.not_mem_nil, or_false, Option.mem_toList, not_or]
    refine ⟨⟨?_, ?_, ?_, ?_, ?_⟩, ?_, ?_⟩
    · rintro rfl
      rw [hri] at m4
      simp only [Option.some.injEq, Obj.cells.injEq] at m4
      exact absurd m4.2.1 (by decide)
    · rintro rfl; rw [hri] at m3; cases m3
    · rintro rfl; rw [hri] at m1; cases m1
    · rintro rfl; rw [hri] at m2; cases m2
    · rintro rfl
      rw [hri] at m5
      simp only [Option.some.injEq, Obj.cells.injEq] at m5
      exact absurd m5.2.1 (by decide)
    · exact hSR.u.neB hri (by intro c f e; simp only [Obj.cells.injEq] at e; exact absurd e.2.1 (by decide))
    · exact hSR.w.neB hri (by intro c f e; simp only [Obj.cells.injEq] at e; exact absurd e.2.1 (by decide))
  have hsm := List.mem_of_getElem? hSR.hs
  have hlk : lAt S k = s.l := by unfold lAt; rw [List.getD_eq_getElem?_getD, hSR.hs]; rfl
  have hcz : codeZ g B k code S = if (rowZ g (entersZ g k (digs g s.l code)) (staysZ (digs g s.l code)) B S).1 = 0 then (0, (rowZ g (entersZ g k (digs g s.l code)) (staysZ (digs g s.l code)) B S).2.2.modify k (addRow (ruleZ g (-1) (digs g s.l code)) (rowZ g (entersZ g k (digs g s.l code)) (staysZ (digs g s.l code)) B S).2.1)) else ((rowZ g (entersZ g k (digs g s.l code)) (staysZ (digs g s.l code)) B S).1, S) := by
    unfold codeZ; rw [hlk]
  have hrk := rowZ_ok (en := entersZ g k (digs g s.l code)) (st := staysZ (digs g s.l code)) (B := B) hOk
  have hop := rowZ_ops hgl (en := entersZ g k (digs g s.l code)) (st := staysZ (digs g s.l code)) (B := B) (S := S)
  refine auto_code_c hr hBl hc0 hc1 hey hen hek hyn hyk hf hB hE hY (hP.sub hbs0 (RPos.sub hbs0)) (ha.sub hbs0) (hfv.sub hbs0 fun _ _ h => h) hSR.hx hSR.hs (hSR.l.sub hd0) (hSR.r.sub hd0) (hOk s hsm).1 hSR.u hSR.w hrl hwl (fun hz h' nx' q1 q2 q3 => ?_) fun hz h' nx' sid' cs' uv' wv' rowv mcs en st q1 q2 q3 q4 q5 q6 q7 q8 q9 q10 q11 q12 => ?_
  · rw [hcz, if_neg hz] at hKe
    refine hKe hz h' nx' q1 q2 (hbs0.trans (q3.delS fun q hq => ?_)) (q3 _ _ hri fun hm => hrn ?_)
    · unfold XL
      exact List.mem_append.2 (.inl hq)
    · unfold XL
      exact List.mem_append.2 (.inl hm)
  · rw [hcz, if_pos hz] at hK
    generalize rowZ g (entersZ g k (digs g s.l code)) (staysZ (digs g s.l code)) B S = Z at *
    obtain ⟨r1, r2⟩ := StR.step (rid := rid) (rule := ruleZ g (-1) (digs g s.l code)) (row := Z.2.1) (hf.lt' hri) hSR hf q3 q4 hB.len q6 q7 q8 q9 q10 (fun t ht => (hrk t ht).2.2) hop.1 (by have := hop.2; omega)
    refine hK rfl h' nx' sid' _ uv' wv' _ _ en st q1 q2 (q3 _ _ hri hrn) (hbs.trans r1) (q5.modS (by simp) fun l => findIdx_modify k (addRow (ruleZ g (-1) (digs g s.l code)) Z.2.1) l (fun _ => rfl) _) r2 rfl (by show (s.rule ++ [_]).length = _; simp) (by simp) q11 q12
end
end V
end Go.Proofs.Ytmmdcdjkmakgpaa
