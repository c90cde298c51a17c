/- What digits (of auto's builder) hands back.
   No condition. -/
import Derived.Test.YtmmdcdjkmakgpaaBD
set_option linter.unusedVariables false
set_option linter.unusedSimpArgs false
namespace Go.Proofs.Ytmmdcdjkmakgpaa
namespace V
open PA
attribute [local irreducible] bindP ifP condP newP optP exP beqP
/-- The map of numbers. -/
def NOk (g : GlD) (f : Int → Option Value) : Prop := ∀ q, 0 ≤ q → f q = if ctd g q = true then some (.int .i64 (numZ g q)) else none
def DOk (f : Int → Option Value) (D : List (Int × Int)) : Prop := ∀ d ∈ D, f d.1 = if d.2 = -1 then none else some (.int .u8 d.2)
theorem digs_cons (g : GlD) (p : Int) (r : List Int) (c : Int) : digs g (p :: r) c = if ctd g p then (p, c % 3) :: digs g r (c / 3) else (p, -1) :: digs g r c := rfl
set_option maxRecDepth 8000 in
theorem auto_digits_c {ro : Ro} {g : GlD} {av bv fv cv sv kv ev yv lv rv uv wv : Value} {c : List Nat} {n : Int} {e0 : TypeId} {bid nid : Nat} {f : Int → Option Value} {l : List Int} {code many : Int} (hmany : many ≤ 512) (hz : rz (-1) many l = true) (hll : l.length ≤ 512) (hc0 : 0 ≤ code) (hc1 : code ≤ 255)
    {h : T Obj} {nx : Nat} {K : KV} (hf : Fr h nx) (hb : h.get bid = some (.cells (bldL av bv (.map (some nid)) fv c n cv sv kv ev yv).toArray e0)) (hm : MapG injI h nid f) (hn : NOk g f) (hl : ZI ro h lv l)
    (hK : ∀ h' nx' did f', nx ≤ nx' → Sub h h' → Fr h' nx' → nx ≤ did → did < nx' → MapG injI h' did f' → DOk f' (digs g l code) → K (.map (some did)) h' nx') : callP Try.prog ro i_auto_builder_digits [ptr bid, .agg #[lv, rv, uv, wv], .int .i64 code] h nx K := by
  apply auto_builder_digits_of
  unfold auto_builder_digits
  refine param_mk hf (Nat.le_refl _) fun h1 hs1 hf1 g1 _ => ?_
  have g1 : h1.get nx = some (.cells #[lv, rv, uv, wv] y_api_State) := g1
  refine obj_mk hf1 (show nx + 1 ≤ nx + 2 by omega) fun h2 hs2 hf2 g2 _ => ?_
  have hs := hs1.trans hs2
  have g1 := hs2 _ _ g1
  have hlen := hl.len
  (repeat (first | refine bindP_mk (by simp (disch := first | omega | exact Int.natCast_nonneg _ | assumption) only [BB, B2, ↓reduceIte, Nat.reduceLeDiff, Nat.reduceAdd, CC, g1, hlen] <;> rfl) ?_ | refine newP_mk ?_ | refine optP_mk ?_ | with_reducible first | refine condP_t ?_ | refine condP_f ?_ | refine ifP_tt' ?_ | refine ifP_ff' ?_ | refine ifP_tf' ?_ | refine ifP_ft' ?_ | refine ifP_u' ?_ | refine optP_mk0 ?_))
  generalize hD : digs g l code = D at hK
  refine loopP_rule (fun j e h' nx' => ∃ (k : Nat) (D0 : List (Int × Int)) (cd last : Int) (f' : Int → Option Value), k + j = l.length ∧ nx + 8 ≤ nx' ∧ Sub h h' ∧ Fr h' nx' ∧ e 0 = ptr bid ∧ e 2 = .int .i64 cd ∧ e 7 = .map (some (nx + 2)) ∧ e 14 = lv ∧ e 15 = .int .i64 l.length ∧ e 16 = .int .i64 k ∧
    MapG injI h' (nx + 2) f' ∧ 0 ≤ cd ∧ cd ≤ 255 ∧ -1 ≤ last ∧ rz last many (l.drop k) = true ∧ D0 ++ digs g (l.drop k) cd = D ∧ (∀ d ∈ D0, d.1 ≤ last) ∧ (∀ q, last < q → f' q = none) ∧ DOk f' D0) ?_ (n := l.length) ⟨0, [], code, -1, fun _ => none, by omega, by omega, hs, hf2.mono (by omega), rfl, rfl, rfl, rfl, rfl, rfl, MapG.new g2, hc0, hc1, by omega, hz, hD, by simp, fun _ _ => rfl, by intro d hd; cases hd⟩
  rintro j e h' nx' ⟨k, D0, cd, last, f', hj, hnx, hs', hf', e0', e2, e7, e14, e15, e16, hm', hcd0, hcd1, hlast, hrz, hDD, hle, hnone, hok⟩ Q' hq hx
  unfold auto_builder_digits_L1
  rw [e0', e2, e7, e14, e15, e16]
  have hb' := hs' _ _ hb
  have hmn := hm.sub hs'
  refine lss_s (fun hk => ?_) (fun hk => ?_)
  · have hk : k < l.length := by omega
    have hld := (hl.sub hs').load hk
    rw [drop_cons hk, rz_cons] at hrz
    rw [drop_cons hk, digs_cons] at hDD
    simp only [Bool.and_eq_true, decide_eq_true_eq] at hrz
    generalize l[k] = x at hld hrz hDD
    have hnx0 : f x = if ctd g x = true then some (.int .i64 (numZ g x)) else none := hn x (by omega)
    have hlk := look_ii hmn x
    rw [hnx0] at hlk
    have hbn := bldL_2 (av := av) (bv := bv) (nv := .map (some nid)) (fv := fv) (c := c) (n := n) (cv := cv) (sv := sv) (kv := kv) (ev := ev) (yv := yv)
    refine condP_t (bindP_mk (hl.ix _ hk) (bindP_mk hld ?_))
    (repeat (first | refine bindP_mk (by simp (disch := first | omega | exact Int.natCast_nonneg _ | assumption) only [BB, B2, ↓reduceIte, Nat.reduceLeDiff, Nat.reduceAdd, CC, nilCk_at, hb', hbn, hlk, nth0, nth1] <;> rfl) ?_ | refine newP_mk ?_ | refine optP_mk ?_ | with_reducible first | refine condP_t ?_ | refine condP_f ?_ | refine ifP_tt' ?_ | refine ifP_ff' ?_ | refine ifP_tf' ?_ | refine ifP_ft' ?_ | refine ifP_u' ?_ | refine optP_mk0 ?_))
    have hj2 : ∀ (e : Env) (h3 : T Obj) (n3 : Nat) (D1 : List (Int × Int)) (cd' : Int) (f3 : Int → Option Value), nx' ≤ n3 → Sub h h3 → Fr h3 n3 → e 0 = ptr bid → e 2 = .int .i64 cd' → e 7 = .map (some (nx + 2)) → e 14 = lv → e 15 = .int .i64 l.length → e 16 = .int .i64 k →
        MapG injI h3 (nx + 2) f3 → 0 ≤ cd' → cd' ≤ 255 → D1 ++ digs g (l.drop (k + 1)) cd' = D → (∀ d ∈ D1, d.1 ≤ x) → (∀ q, x < q → f3 q = none) → DOk f3 D1 → auto_builder_digits_j2 ro Q' e h3 n3 := by
      intro e h3 n3 D1 cd' f3 hn3 s1 s2 e0 e2 e7 e14 e15 e16 m3 c0 c1 d1 d2 d3 d4
      unfold auto_builder_digits_j2
      rw [e16]
      (repeat (first | refine bindP_mk (by simp (disch := first | omega | exact Int.natCast_nonneg _ | assumption) only [BB, B2, ↓reduceIte, Nat.reduceLeDiff, Nat.reduceAdd, CC] <;> rfl) ?_ | refine newP_mk ?_ | refine optP_mk ?_ | with_reducible first | refine condP_t ?_ | refine condP_f ?_ | refine ifP_tt' ?_ | refine ifP_ff' ?_ | refine ifP_tf' ?_ | refine ifP_ft' ?_ | refine ifP_u' ?_ | refine optP_mk0 ?_))
      exact hq (j - 1) _ _ _ _ (by omega) ⟨k + 1, D1, cd', x, f3, by omega, by omega, s1, s2.mono (by omega), e0, e2, e7, e14, e15, rfl, m3, c0, c1, by omega, hrz.2.2, d1, d2, d3, d4⟩ (Sub.refl _)
    cases hct : ctd g x with
    | true =>
      rw [hct, if_pos rfl] at hDD
      simp only [if_true, Option.isSome_some]
      obtain ⟨es, ec, p1, p2⟩ := put_iu hm' x (.int .u8 (cd % 3))
      (repeat (first | refine bindP_mk (by simp (disch := first | omega | exact Int.natCast_nonneg _ | assumption) only [BB, B2, ↓reduceIte, Nat.reduceLeDiff, Nat.reduceAdd, CC, p1] <;> rfl) ?_ | refine newP_mk ?_ | refine optP_mk ?_ | with_reducible first | refine condP_t ?_ | refine condP_f ?_ | refine ifP_tt' ?_ | refine ifP_ff' ?_ | refine ifP_tf' ?_ | refine ifP_ft' ?_ | refine ifP_u' ?_ | refine optP_mk0 ?_))
      refine hj2 _ _ _ (D0 ++ [(x, cd % 3)]) (cd / 3) _ (by omega) (hs'.new hf (by omega)) ((hf'.mono (by omega)).upd (Nat.le_refl _) (by omega)) e0' rfl e7 e14 e15 e16 (p2 _ (by rw [T.get_upd_same])) (by omega) (by omega) (by rw [← hDD]; simp) ?_ ?_ ?_
      · intro d hd
        rcases List.mem_append.1 hd with hd | hd
        · have := hle d hd; omega
        · simp at hd; rw [hd]; exact Int.le_refl _
      · intro q hq
        show (if q = x then _ else f' q) = none
        rw [if_neg (by omega)]; exact hnone q (by omega)
      · intro d hd
        rcases List.mem_append.1 hd with hd | hd
        · have := hle d hd
          show (if d.1 = x then _ else f' d.1) = _
          rw [if_neg (by omega)]; exact hok d hd
        · simp at hd; rw [hd]
          show (if x = x then _ else f' x) = _
          rw [if_pos rfl, if_neg (by show ¬ cd % 3 = -1; omega)]
    | false =>
      rw [hct, if_neg (by decide)] at hDD
      simp only [Bool.false_eq_true, if_false, Option.isSome_none]
      (repeat (first | refine bindP_mk (by simp (disch := first | omega | exact Int.natCast_nonneg _ | assumption) only [BB, B2, ↓reduceIte, Nat.reduceLeDiff, Nat.reduceAdd, CC] <;> rfl) ?_ | refine newP_mk ?_ | refine optP_mk ?_ | with_reducible first | refine condP_t ?_ | refine condP_f ?_ | refine ifP_tt' ?_ | refine ifP_ff' ?_ | refine ifP_tf' ?_ | refine ifP_ft' ?_ | refine ifP_u' ?_ | refine optP_mk0 ?_))
      refine hj2 _ _ _ (D0 ++ [(x, -1)]) cd _ (by omega) hs' (hf'.mono (by omega)) e0' e2 e7 e14 e15 e16 hm' hcd0 hcd1 (by rw [← hDD]; simp) ?_ ?_ ?_
      · intro d hd
        rcases List.mem_append.1 hd with hd | hd
        · have := hle d hd; omega
        · simp at hd; rw [hd]; exact Int.le_refl _
      · intro q hq; exact hnone q (by omega)
      · intro d hd
        rcases List.mem_append.1 hd with hd | hd
        · exact hok d hd
        · simp at hd; rw [hd]
          exact hnone x (by omega)
  · (repeat (first | refine bindP_mk (by simp (disch := first | omega | exact Int.natCast_nonneg _ | assumption) only [BB, B2, ↓reduceIte, Nat.reduceLeDiff, Nat.reduceAdd, CC] <;> rfl) ?_ | refine newP_mk ?_ | refine optP_mk ?_ | with_reducible first | refine condP_t ?_ | refine condP_f ?_ | refine ifP_tt' ?_ | refine ifP_ff' ?_ | refine ifP_tf' ?_ | refine ifP_ft' ?_ | refine ifP_u' ?_ | refine optP_mk0 ?_))
    refine hx _ _ _ _ (fun e => by cases e) (exP_e (beqP_t ?_))
    unfold auto_builder_digits_j1
    rw [drop_all (by omega)] at hDD
    have hDD : D0 = D := by simpa [digs] using hDD
    have f7 : ∀ (e' : Env), e' 7 = .map (some (nx + 2)) → ∃ h3, Sub h3 h' ∧ K (e' 7) h3 (nx' + 1 + 2) := fun e' h7 => by
      rw [h7]
      exact ⟨h', Sub.refl _, hK _ _ _ f' (by omega) hs' (hf'.mono (by omega)) (by omega) (by omega) hm' (by rw [← hDD]; exact hok)⟩
    exact f7 _ e7
end V
end Go.Proofs.Ytmmdcdjkmakgpaa
