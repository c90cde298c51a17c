/- Texts laid one behind the other: XB, XF, XS, XQ, XK, GE, XR.
   No condition. -/
import Derived.Test.YtjndkdmkecpllaaGreatRows
import Derived.OpenShut
import Derived.ChangeMaps5
import Derived.KernelRfl
import Derived.Test.YtjndkdmkecpllaaGreatQS3
set_option linter.unusedVariables false
set_option linter.unusedSimpArgs false
set_option linter.unusedVariables false
set_option linter.unusedSimpArgs false
namespace Go.Proofs.YtjndkdmkecpllaaGreat
namespace V
attribute [local irreducible] bindP ifP condP newP optP exP beqP
def word (m i : Nat) : Nat := m / 2 ^ (64 * i) % 2 ^ 64
theorem word_lt (m i : Nat) : word m i < 18446744073709551616 := by unfold word; exact Nat.mod_lt _ (by decide)
theorem testBit_word (m i j : Nat) : (word m i).testBit j = (decide (j < 64) && m.testBit (64 * i + j)) := by
  unfold word
  rw [Nat.testBit_mod_two_pow, Nat.testBit_div_two_pow, Nat.add_comm]
theorem word_has (m b : Nat) : (word m (b / 64) / 2 ^ (b % 64) % 2 = 1) ↔ m.testBit b = true := by
  have h := testBit_word m (b / 64) (b % 64)
  rw [Nat.testBit_eq_decide_div_mod_eq] at h
  have h1 : b % 64 < 64 := Nat.mod_lt _ (by decide)
  rw [Nat.div_add_mod] at h
  simp only [h1, decide_true, Bool.true_and] at h
  rw [← h]; simp
section
variable {α β : Type} [DecidableEq α] [DecidableEq β]
def addN (s : List α) (p : α) : List α := if p ∈ s then s else s ++ [p]
def dd (l : List α) : List α := l.foldl addN []
def pos (s : List α) (p : α) : Nat := s.idxOf p
def ix (l : List α) (p : α) : Nat := pos (dd l) p
end
@[irreducible] def bs : List Nat := List.range 256
def sig (l : List Nat) (b : Nat) : List Bool := l.map fun s => s.testBit b
def sigs (l : List Nat) : List (List Bool) := bs.map (sig l)
def many (l : List Nat) : Nat := (dd (sigs l)).length
def setL (m : Nat) : List Value := [.int .u64 (word m 0), .int .u64 (word m 1), .int .u64 (word m 2), .int .u64 (word m 3)]
def setV (m : Nat) : Value := .agg #[.int .u64 (word m 0), .int .u64 (word m 1), .int .u64 (word m 2), .int .u64 (word m 3)]
theorem setV_cells (m : Nat) : Value.cells (setV m) = (setL m).toArray := rfl
theorem setL_get {m i : Nat} (hi : i < 4) : (setL m)[i]? = some (.int .u64 (word m i)) := by
  match i, hi with
  | 0, _ => rfl
  | 1, _ => rfl
  | 2, _ => rfl
  | 3, _ => rfl
theorem cast_le {q : Nat} (h : q < 18446744073709551616) : (q : Int) ≤ 18446744073709551615 := by omega
theorem ref01_Has_c {ro : Ro} {m b : Nat} (hb : b < 256) {h : T Obj} {nx : Nat} {K : KV} (hf : Fr h nx) (hK : ∀ nx', nx ≤ nx' → K (.bool (m.testBit b)) h nx') : callP Tryz.prog ro i_ref01_Has [setV m, .int .u8 b] h nx K := by
  apply ref01_Has_of
  unfold ref01_Has
  have h1 : ((b:Int) / 64).toNat = b / 64 := by omega
  have h2 : ((b:Int) % 64).toNat = b % 64 := by omega
  have h3 := word_lt m (b / 64)
  have h4 : b / 64 < 4 := by omega
  have h5 := setL_get (m := m) h4
  have h6 : word m (b / 64) / 2 ^ (b % 64) ≤ word m (b / 64) := Nat.div_le_self _ _
  have h7 : ((word m (b / 64) / 2 ^ (b % 64) : Nat) : Int) ≤ 18446744073709551615 := cast_le (Nat.lt_of_le_of_lt h6 h3)
  simp (disch := first | omega | exact Int.natCast_nonneg _ | assumption) only [newP_eq, setV_cells, bindP_some', intB_quo, intB_rem, intB_shr_u64, intB_eql, wr_u8, wr_u64, ptr_at, ixArr_at, load1_own, T.get_upd_same, cellsIn_some, Option.bind, h1, h2, Nat.zero_add, Nat.mul_one, h5]
  refine ⟨h, (Sub.refl h).new hf (Nat.le_refl _), ?_⟩
  have e : (decide ((((word m (b / 64) / 2 ^ (b % 64) : Nat) : Int) % 2) = 1)) = m.testBit b := by
    have h9 := word_has m b
    cases hm : m.testBit b with
    | true => rw [hm] at h9; have := h9.2 rfl; apply decide_eq_true; omega
    | false =>
      rw [hm] at h9
      have : ¬ (word m (b / 64) / 2 ^ (b % 64) % 2 = 1) := fun e => by have := h9.1 e; cases this
      apply decide_eq_false; omega
  rw [e]
  exact hK _ (by omega)
structure PosD where
  s : Nat
  lo : Int
  hi : Int
  rule : Int
  last : Bool
  next : List Int
structure GlD where
  first : List Int
  p : List PosD
def rz (last many : Int) : List Int → Bool
  | [] => true
  | x :: r => decide (last < x) && (decide (x < many) && rz x many r)
def dummy : PosD := ⟨0, 0, 0, 0, false, []⟩
def GlD.at (g : GlD) (i : Int) : PosD := g.p.getD i.toNat dummy
theorem rz_cons (a m x : Int) (r : List Int) : rz a m (x :: r) = (decide (a < x) && (decide (x < m) && rz x m r)) := rfl
theorem rz_mem : ∀ {l : List Int} {a m : Int}, rz a m l = true → ∀ x ∈ l, a < x ∧ x < m
  | [], a, m, h, x, hx => by cases hx
  | y :: r, a, m, h, x, hx => by
    simp only [rz, Bool.and_eq_true, decide_eq_true_eq] at h
    rcases List.mem_cons.1 hx with rfl | hx
    · exact ⟨h.1, h.2.1⟩
    · have := rz_mem h.2.2 x hx; omega
def posL (p : PosD) (nv : Value) : List Value := setL p.s ++ [.int .i64 p.lo, .int .i64 p.hi, .int .i64 p.rule, .bool p.last, nv]
def RPos (ro : Ro) (h : T Obj) (x : List Value) (p : PosD) : Prop := ∃ nv, x = posL p nv ∧ ZI ro h nv p.next ∧ p.s < 2 ^ 256
theorem RPos.sub {ro : Ro} {h h' : T Obj} (hs : Sub h h') : ∀ x d, RPos ro h x d → RPos ro h' x d := fun x d ⟨nv, h1, h2, h3⟩ => ⟨nv, h1, h2.sub hs, h3⟩
def RG (ro : Ro) (h : T Obj) (v : Value) (g : GlD) : Prop := ∃ a b, v = .agg #[a, b] ∧ ZI ro h a g.first ∧ SlR ro h b 9 (RPos ro h) g.p
theorem RG.sub {ro : Ro} {h h' : T Obj} {v : Value} {g : GlD} (hs : Sub h h') (hg : RG ro h v g) : RG ro h' v g := by
  obtain ⟨a, b, h1, h2, h3⟩ := hg
  exact ⟨a, b, h1, h2.sub hs, h3.sub hs (RPos.sub hs)⟩
def findI {D : Type} (q : D → Bool) (k : Int) : List D → Int
  | [] => -1
  | x :: r => if q x then k else findI q (k + 1) r
theorem findI_cons {D : Type} (q : D → Bool) (k : Int) (x : D) (r : List D) : findI q k (x :: r) = if q x then k else findI q (k + 1) r := rfl
theorem findI_any {D : Type} (q : D → Bool) : ∀ (l : List D) (k : Int), 0 ≤ k → decide (0 ≤ findI q k l) = l.any q
  | [], k, hk => rfl
  | x :: r, k, hk => by
    rw [findI_cons, List.any_cons]
    by_cases h : q x = true
    · rw [if_pos h, h]; simp [hk]
    · rw [if_neg h, findI_any q r (k + 1) (by omega)]; simp [h]
theorem all_not {D : Type} (q : D → Bool) (l : List D) : (!(l.any fun x => !q x)) = l.all q := by
  induction l with
  | nil => rfl
  | cons x r ih => rw [List.any_cons, List.all_cons, Bool.not_or, ih, Bool.not_not]
def u8s (l : List Nat) : List Value := l.map fun b : Nat => Value.int .u8 (b : Int)
theorem u8s_len (l : List Nat) : (u8s l).length = l.length := by simp [u8s]
def splitLI (c : List Nat) (n : Int) : List Value := u8s c ++ [.int .i64 n]
def splitI (c : List Nat) (n : Int) : Value := .agg (splitLI c n).toArray
theorem splitI_cells (c : List Nat) (n : Int) : (splitI c n).cells = (splitLI c n).toArray := rfl
theorem splitLI_len {c : List Nat} {n : Int} (hc : c.length = 256) : (splitLI c n).length = 257 := by simp [splitLI, u8s_len, hc]
theorem splitLI_ok (c : List Nat) (n : Int) : (splitLI c n).all cellOk = true := by simp [splitLI, u8s, cellOk]
theorem splitLI_get {c : List Nat} {n : Int} {i : Nat} (hi : i < c.length) : (splitLI c n)[i]? = some (.int .u8 (c[i] : Nat)) := by
  unfold splitLI
  rw [List.getElem?_append_left (by rw [u8s_len]; exact hi)]
  simp [u8s, hi]
theorem splitLI_many {c : List Nat} {n : Int} (hc : c.length = 256) : (splitLI c n)[256]? = some (.int .i64 n) := by
  unfold splitLI
  rw [List.getElem?_append_right (by rw [u8s_len]; omega)]
  simp [u8s_len, hc]
theorem loadA_of {ro : Ro} {h : T Obj} {id z n : Nat} {c : List Nat} {m : Int} {e : TypeId} {f : Nat × Nat} (hg : h.get id = some (.cells (splitLI c m).toArray e f)) (hc : c.length = 256) : loadA ro h 256 (at_ id 0 z) = some (.agg (u8s c).toArray) := by
  rw [loadA_own, hg, cellsIn_some]
  simp only [Option.bind_some, tl]
  rw [if_pos (by rw [splitLI_len hc]; omega), List.drop_zero]
  unfold splitLI
  rw [List.take_append_of_le_length (by rw [u8s_len]; omega), List.take_of_length_le (by rw [u8s_len]; omega)]
theorem ixA1_u8s {c : List Nat} {i : Nat} (k : IntKind) (hi : i < c.length) (hc : c.length = 256) : ixA1 256 1 (.agg (u8s c).toArray) (.int k (i : Int)) = some (.int .u8 (c[i] : Nat)) := by
  have hn : natV (.int k (i : Int)) = some i := by simp [natV]
  have hb : Nat.blt i 256 = true := by simp [Nat.blt]; omega
  unfold ixA1
  rw [hn]
  simp only [Option.bind_some, asAgg, hb, Nat.mul_one, List.getElem?_toArray]
  simp [u8s, hi]
def rt (c : List Nat) : Nat → Option Nat
  | 0 => some 0
  | i + 1 => (rt c i).bind fun m => if m < c.getD i 0 then none else if c.getD i 0 = m then some (m + 1) else some m
def rightB (c : List Nat) (n : Int) : Bool := match rt c 256 with
  | some m => decide ((m : Int) = n)
  | none => false
theorem rt_le {c : List Nat} : ∀ {i m : Nat}, rt c i = some m → m ≤ i
  | 0, m, h => by cases h; exact Nat.le_refl _
  | i + 1, m, h => by
    obtain ⟨m0, h1, h2⟩ := bind_some' h
    have := rt_le h1
    split at h2
    · cases h2
    · split at h2 <;> cases h2 <;> omega
theorem rt_none {c : List Nat} {i : Nat} (h : rt c i = none) : ∀ j, i ≤ j → rt c j = none := by
  intro j hj
  induction hj with
  | refl => exact h
  | step _ ih => simp only [rt, ih, Option.bind]
set_option maxRecDepth 4000 in
theorem split_Right_c {ro : Ro} {c : List Nat} {n : Int} (hc : c.length = 256) (hcl : ∀ x ∈ c, x < 256) {h : T Obj} {nx : Nat} {K : KV} (hf : Fr h nx) (hK : ∀ nx', nx ≤ nx' → K (.bool (rightB c n)) h nx') : callP Tryz.prog ro i_split_Right [splitI c n] h nx K := by
  apply split_Right_of
  unfold split_Right
  refine newP_mk ?_
  (repeat (first | refine bindP_mk (by simp (disch := first | omega | exact Int.natCast_nonneg _ | assumption) only [BB, B2, ↓reduceIte, Nat.reduceLeDiff, Nat.reduceAdd, intB_eql, intB_neq, intB_lss, intB_leq, intB_gtr, intB_geq] <;> rfl) ?_ | refine newP_mk ?_ | refine optP_mk ?_ | with_reducible first | refine condP_t ?_ | refine condP_f ?_ | refine ifP_tt' ?_ | refine ifP_ff' ?_ | refine ifP_tf' ?_ | refine ifP_ft' ?_ | refine ifP_u' ?_ | refine optP_mk0 ?_))
  refine bindP_mk (loadA_of (n := 0) (c := c) (m := n) (e := y_api_Split) (f := (0, 0)) (by simp (disch := first | omega | exact Int.natCast_nonneg _ | assumption) only [BB, B2, ↓reduceIte, Nat.reduceLeDiff, Nat.reduceAdd, intB_eql, intB_neq, intB_lss, intB_leq, intB_gtr, intB_geq, splitI_cells]) hc) ?_
  refine loopP_rule (fun j e h' nx' => ∃ (i m : Nat), i + j = 256 ∧ nx + 1 ≤ nx' ∧ e 1 = ptr nx ∧ e 3 = .int .i64 m ∧ e 7 = .agg (u8s c).toArray ∧ e 8 = .int .i64 i ∧ Sub h h' ∧ Fr h' nx' ∧
    h'.get nx = some (.cells (splitLI c n).toArray y_api_Split) ∧ rt c i = some m) ?_ (n := 256) ⟨0, 0, by omega, by omega, rfl, rfl, rfl, rfl, ?_, ?_, ?_, rfl⟩
  · rintro j e h' nx' ⟨i, m, hij, hnx, e1, e3, e7, e8, hs, hf', g0, hr⟩ Q' hq hx
    have hm := rt_le hr
    unfold split_Right_L1
    rw [e3, e7, e8]
    (repeat (first | refine bindP_mk (by simp (disch := first | omega | exact Int.natCast_nonneg _ | assumption) only [BB, B2, ↓reduceIte, Nat.reduceLeDiff, Nat.reduceAdd, intB_eql, intB_neq, intB_lss, intB_leq, intB_gtr, intB_geq] <;> rfl) ?_ | refine newP_mk ?_ | refine optP_mk ?_ | with_reducible first | refine condP_t ?_ | refine condP_f ?_ | refine ifP_tt' ?_ | refine ifP_ff' ?_ | refine ifP_tf' ?_ | refine ifP_ft' ?_ | refine ifP_u' ?_ | refine optP_mk0 ?_))
    by_cases hi : i < 256
    · refine condP_tr (by simp; omega) ?_
      have hic : i < c.length := by omega
      refine bindP_mk (ixA1_u8s _ hic hc) ?_
      have hci := hcl _ (List.getElem_mem hic)
      have hgd : c.getD i 0 = c[i] := by rw [List.getD_eq_getElem?_getD, List.getElem?_eq_getElem hic]; rfl
      have hrs : rt c (i + 1) = if m < c[i] then none else if c[i] = m then some (m + 1) else some m := by simp only [rt, hr, Option.bind_some, hgd]
      (repeat (first | refine bindP_mk (by simp (disch := first | omega | exact Int.natCast_nonneg _ | assumption) only [BB, B2, ↓reduceIte, Nat.reduceLeDiff, Nat.reduceAdd, intB_eql, intB_neq, intB_lss, intB_leq, intB_gtr, intB_geq] <;> rfl) ?_ | refine newP_mk ?_ | refine optP_mk ?_ | with_reducible first | refine condP_t ?_ | refine condP_f ?_ | refine ifP_tt' ?_ | refine ifP_ff' ?_ | refine ifP_tf' ?_ | refine ifP_ft' ?_ | refine ifP_u' ?_ | refine optP_mk0 ?_))
      by_cases h1 : m < c[i]
      · refine condP_tr (by simp; omega) ?_
        refine hx _ _ _ _ (fun e => by cases e) (exP_r ?_)
        refine ⟨h, hs, ?_⟩
        have hn : rt c 256 = none := rt_none (i := i + 1) (by rw [hrs, if_pos h1]) 256 (by omega)
        have := hK (nx' + 9) (by omega)
        unfold rightB at this
        rw [hn] at this
        exact this
      · refine condP_fa (by simp; omega) ?_
        rw [if_neg h1] at hrs
        (repeat (first | refine bindP_mk (by simp (disch := first | omega | exact Int.natCast_nonneg _ | assumption) only [BB, B2, ↓reduceIte, Nat.reduceLeDiff, Nat.reduceAdd, intB_eql, intB_neq, intB_lss, intB_leq, intB_gtr, intB_geq] <;> rfl) ?_ | refine newP_mk ?_ | refine optP_mk ?_ | with_reducible first | refine condP_t ?_ | refine condP_f ?_ | refine ifP_tt' ?_ | refine ifP_ff' ?_ | refine ifP_tf' ?_ | refine ifP_ft' ?_ | refine ifP_u' ?_ | refine optP_mk0 ?_))
        have hj2 : ∀ (e : Env) (n2 m' : Nat), nx' ≤ n2 → e 1 = ptr nx → e 3 = .int .i64 m' → e 7 = .agg (u8s c).toArray → e 8 = .int .i64 i → rt c (i + 1) = some m' → split_Right_j2 ro Q' e h' n2 := by
          intro e n2 m' hn2 e1 e3 e7 e8 hr'
          unfold split_Right_j2
          rw [e8]
          (repeat (first | refine bindP_mk (by simp (disch := first | omega | exact Int.natCast_nonneg _ | assumption) only [BB, B2, ↓reduceIte, Nat.reduceLeDiff, Nat.reduceAdd, intB_eql, intB_neq, intB_lss, intB_leq, intB_gtr, intB_geq] <;> rfl) ?_ | refine newP_mk ?_ | refine optP_mk ?_ | with_reducible first | refine condP_t ?_ | refine condP_f ?_ | refine ifP_tt' ?_ | refine ifP_ff' ?_ | refine ifP_tf' ?_ | refine ifP_ft' ?_ | refine ifP_u' ?_ | refine optP_mk0 ?_))
          exact hq (j - 1) _ _ _ _ (by omega) ⟨i + 1, m', by omega, by omega, e1, e3, e7, rfl, hs, hf'.mono (by omega), g0, hr'⟩ (Sub.refl _)
        by_cases h2 : c[i] = m
        · refine condP_tr (by simp; omega) ?_
          (repeat (first | refine bindP_mk (by simp (disch := first | omega | exact Int.natCast_nonneg _ | assumption) only [BB, B2, ↓reduceIte, Nat.reduceLeDiff, Nat.reduceAdd, intB_eql, intB_neq, intB_lss, intB_leq, intB_gtr, intB_geq] <;> rfl) ?_ | refine newP_mk ?_ | refine optP_mk ?_ | with_reducible first | refine condP_t ?_ | refine condP_f ?_ | refine ifP_tt' ?_ | refine ifP_ff' ?_ | refine ifP_tf' ?_ | refine ifP_ft' ?_ | refine ifP_u' ?_ | refine optP_mk0 ?_))
          rw [if_pos h2] at hrs
          exact hj2 _ _ (m + 1) (by omega) e1 rfl e7 e8 hrs
        · refine condP_fa (by simp; omega) ?_
          rw [if_neg h2] at hrs
          exact hj2 _ _ m (by omega) e1 e3 e7 e8 hrs
    · refine condP_fa (by simp; omega) ?_
      refine hx _ _ _ _ (fun e => by cases e) (exP_e (beqP_t ?_))
      have hi2 : i = 256 := by omega
      subst hi2
      unfold split_Right_j1
      have f1 : ∀ a, Env.put e 9 a 1 = ptr nx := fun a => e1
      have f3 : ∀ a, Env.put e 9 a 3 = .int .i64 m := fun a => e3
      simp only [puts, f1, f3]
      have hg := splitLI_many (n := n) hc
      (repeat (first | refine bindP_mk (by simp (disch := first | omega | exact Int.natCast_nonneg _ | assumption) only [BB, B2, ↓reduceIte, Nat.reduceLeDiff, Nat.reduceAdd, intB_eql, intB_neq, intB_lss, intB_leq, intB_gtr, intB_geq, g0, hg] <;> rfl) ?_ | refine newP_mk ?_ | refine optP_mk ?_ | with_reducible first | refine condP_t ?_ | refine condP_f ?_ | refine ifP_tt' ?_ | refine ifP_ff' ?_ | refine ifP_tf' ?_ | refine ifP_ft' ?_ | refine ifP_u' ?_ | refine optP_mk0 ?_))
      refine ⟨h, hs, ?_⟩
      have := hK (nx' + 1 + 5) (by omega)
      unfold rightB at this
      rw [hr] at this
      exact this
  · exact (Sub.refl h).new hf (Nat.le_refl _)
  · exact hf.upd (m := nx + 6) (by omega) (by omega)
  · simp (disch := first | omega | exact Int.natCast_nonneg _ | assumption) only [BB, B2, ↓reduceIte, Nat.reduceLeDiff, Nat.reduceAdd, intB_eql, intB_neq, intB_lss, intB_leq, intB_gtr, intB_geq, splitI_cells]
def codesD (m : Int) : Int := if m = 0 then 1 else if m = 1 then 3 else if m = 2 then 9 else if m = 3 then 27 else 0
theorem codes_of {m p : Int} (h : m = 0 ∧ p = 1 ∨ m = 1 ∧ p = 3 ∨ m = 2 ∧ p = 9 ∨ m = 3 ∧ p = 27) : codesD m = p := by
  unfold codesD
  rcases h with ⟨h, rfl⟩ | ⟨h, rfl⟩ | ⟨h, rfl⟩ | ⟨h, rfl⟩ <;> subst h <;> rfl
theorem codes_no {m : Int} (h : m < 0 ∨ 3 < m) : codesD m = 0 := by
  unfold codesD
  rw [if_neg (by omega), if_neg (by omega), if_neg (by omega), if_neg (by omega)]
theorem codes_le (m : Int) : 0 ≤ codesD m ∧ codesD m ≤ 27 := by
  unfold codesD
  repeat' split
  all_goals omega
theorem codes_few {m : Int} (h : codesD m ≠ 0) : 0 ≤ m ∧ m ≤ 3 := by
  rcases Int.lt_or_le m 0 with h1 | h1
  · exact absurd (codes_no (.inl h1)) h
  · rcases Int.lt_or_le 3 m with h2 | h2
    · exact absurd (codes_no (.inr h2)) h
    · exact ⟨h1, h2⟩
set_option maxRecDepth 4000 in
theorem auto_Codes_c {ro : Ro} {m : Int} {h : T Obj} {nx : Nat} {K : KV} (hK : ∀ nx', nx ≤ nx' → K (.int .i64 (codesD m)) h nx') : callP Tryz.prog ro i_auto_Codes [.int .i64 m] h nx K := by
  apply auto_Codes_of
  unfold auto_Codes
  refine lss_s (fun h1 => ?_) (fun h1 => ?_)
  · (repeat (first | refine bindP_mk (by simp (disch := first | omega | exact Int.natCast_nonneg _ | assumption) only [BB, B2, ↓reduceIte, Nat.reduceLeDiff, Nat.reduceAdd, CC] <;> rfl) ?_ | refine newP_mk ?_ | refine optP_mk ?_ | with_reducible first | refine condP_t ?_ | refine condP_f ?_ | refine ifP_tt' ?_ | refine ifP_ff' ?_ | refine ifP_tf' ?_ | refine ifP_ft' ?_ | refine ifP_u' ?_ | refine optP_mk0 ?_))
    exact ⟨_, Sub.refl _, ki hK (codes_no (.inl h1)) (by omega)⟩
  · (repeat (first | refine bindP_mk (by simp (disch := first | omega | exact Int.natCast_nonneg _ | assumption) only [BB, B2, ↓reduceIte, Nat.reduceLeDiff, Nat.reduceAdd, CC] <;> rfl) ?_ | refine newP_mk ?_ | refine optP_mk ?_ | with_reducible first | refine condP_t ?_ | refine condP_f ?_ | refine ifP_tt' ?_ | refine ifP_ff' ?_ | refine ifP_tf' ?_ | refine ifP_ft' ?_ | refine ifP_u' ?_ | refine optP_mk0 ?_))
    refine gtr_s (fun h2 => ?_) (fun h2 => ?_)
    · (repeat (first | refine bindP_mk (by simp (disch := first | omega | exact Int.natCast_nonneg _ | assumption) only [BB, B2, ↓reduceIte, Nat.reduceLeDiff, Nat.reduceAdd, CC] <;> rfl) ?_ | refine newP_mk ?_ | refine optP_mk ?_ | with_reducible first | refine condP_t ?_ | refine condP_f ?_ | refine ifP_tt' ?_ | refine ifP_ff' ?_ | refine ifP_tf' ?_ | refine ifP_ft' ?_ | refine ifP_u' ?_ | refine optP_mk0 ?_))
      exact ⟨_, Sub.refl _, ki hK (codes_no (.inr h2)) (by omega)⟩
    · (repeat (first | refine bindP_mk (by simp (disch := first | omega | exact Int.natCast_nonneg _ | assumption) only [BB, B2, ↓reduceIte, Nat.reduceLeDiff, Nat.reduceAdd, CC] <;> rfl) ?_ | refine newP_mk ?_ | refine optP_mk ?_ | with_reducible first | refine condP_t ?_ | refine condP_f ?_ | refine ifP_tt' ?_ | refine ifP_ff' ?_ | refine ifP_tf' ?_ | refine ifP_ft' ?_ | refine ifP_u' ?_ | refine optP_mk0 ?_))
      refine loopP_rule (fun j e h' nx' => ∃ (k : Nat) (p : Int), (k : Int) + j = m ∧ nx ≤ nx' ∧ h' = h ∧ e 3 = .int .i64 p ∧ e 10 = .int .i64 m ∧ e 11 = .int .i64 k ∧ (k = 0 ∧ p = 1 ∨ k = 1 ∧ p = 3 ∨ k = 2 ∧ p = 9 ∨ k = 3 ∧ p = 27)) ?_ (n := m.toNat) ⟨0, 1, by omega, by omega, rfl, rfl, rfl, rfl, by omega⟩
      rintro j e h' nx' ⟨k, p, hj, hnx, rfl, e3, e10, e11, hp⟩ Q' hq hx
      unfold auto_Codes_L1
      rw [e3, e10, e11]
      refine lss_s (fun hk => ?_) (fun hk => ?_)
      · (repeat (first | refine bindP_mk (by simp (disch := first | omega | exact Int.natCast_nonneg _ | assumption) only [BB, B2, ↓reduceIte, Nat.reduceLeDiff, Nat.reduceAdd, CC] <;> rfl) ?_ | refine newP_mk ?_ | refine optP_mk ?_ | with_reducible first | refine condP_t ?_ | refine condP_f ?_ | refine ifP_tt' ?_ | refine ifP_ff' ?_ | refine ifP_tf' ?_ | refine ifP_ft' ?_ | refine ifP_u' ?_ | refine optP_mk0 ?_))
        exact hq (j - 1) _ _ _ _ (by omega) ⟨k + 1, p * 3, by omega, by omega, rfl, rfl, e10, rfl, by omega⟩ (Sub.refl _)
      · (repeat (first | refine bindP_mk (by simp (disch := first | omega | exact Int.natCast_nonneg _ | assumption) only [BB, B2, ↓reduceIte, Nat.reduceLeDiff, Nat.reduceAdd, CC] <;> rfl) ?_ | refine newP_mk ?_ | refine optP_mk ?_ | with_reducible first | refine condP_t ?_ | refine condP_f ?_ | refine ifP_tt' ?_ | refine ifP_ff' ?_ | refine ifP_tf' ?_ | refine ifP_ft' ?_ | refine ifP_u' ?_ | refine optP_mk0 ?_))
        refine hx _ _ _ _ (fun e => by cases e) (exP_e (beqP_t ?_))
        unfold auto_Codes_j1
        have f3 : ∀ (e' : Env) n, e' 3 = .int .i64 p → nx ≤ n → ∃ h13, Sub h13 h' ∧ K (e' 3) h13 n := fun e' n h3 hn => by
          rw [h3]
          exact ⟨_, Sub.refl _, ki hK (codes_of (by omega)) hn⟩
        exact f3 _ _ e3 (by omega)
structure MoveD where
  to : Int
  ops : List Nat
structure StateD where
  l : List Int
  r : List Int
  rule : List Int
  next : List (List MoveD)
structure AutoD where
  c : List Nat
  many : Int
  counts : List (Int × Int)
  states : List StateD
def noS : StateD := ⟨[], [], [], []⟩
def opOk (R : List Int) (o : Nat) (r : Int) : Bool := decide (1 ≤ o) && (decide (o ≤ 3) && (decide (o = 3) || R.contains r))
def opsOk (R : List Int) : List Nat → List Int → Bool
  | o :: os, r :: rs => opOk R o r && opsOk R os rs
  | _, _ => true
def moveOk (S : List StateD) (R : List Int) (m : MoveD) : Bool :=
  if m.to = -1 then decide (m.ops.length = 0) else decide (1 ≤ m.to) && (decide (m.to < S.length) && (decide (m.ops.length = (S.getD m.to.toNat noS).r.length) && opsOk R m.ops (S.getD m.to.toNat noS).r))
def maxB : Nat := 9223372036854775807
def RU8 (x : List Value) (d : Nat) : Prop := x = [.int .u8 (d : Int)] ∧ d < 256
def RMove (ro : Ro) (h : T Obj) (x : List Value) (d : MoveD) : Prop := ∃ ov, x = [.int .i64 d.to, ov] ∧ SlR ro h ov 1 RU8 d.ops ∧ d.ops.length ≤ maxB
def RRow (ro : Ro) (h : T Obj) (x : List Value) (d : List MoveD) : Prop := ∃ w, x = [w] ∧ SlR ro h w 2 (RMove ro h) d ∧ d.length ≤ maxB
def RState (ro : Ro) (h : T Obj) (x : List Value) (d : StateD) : Prop := ∃ lv rv uv nv, x = [lv, rv, uv, nv] ∧ ZI ro h lv d.l ∧ ZI ro h rv d.r ∧ ZI ro h uv d.rule ∧ SlR ro h nv 1 (RRow ro h) d.next ∧ d.r.length ≤ maxB
def RCount (x : List Value) (d : Int × Int) : Prop := x = [.int .i64 d.1, .int .i64 d.2]
theorem RMove.sub {ro : Ro} {h h' : T Obj} (hs : Sub h h') : ∀ x d, RMove ro h x d → RMove ro h' x d := fun x d ⟨ov, h1, h2, h3⟩ => ⟨ov, h1, h2.sub hs fun _ _ h => h, h3⟩
theorem RRow.sub {ro : Ro} {h h' : T Obj} (hs : Sub h h') : ∀ x d, RRow ro h x d → RRow ro h' x d := fun x d ⟨ov, h1, h2, h3⟩ => ⟨ov, h1, h2.sub hs (RMove.sub hs), h3⟩
theorem RState.sub {ro : Ro} {h h' : T Obj} (hs : Sub h h') : ∀ x d, RState ro h x d → RState ro h' x d := fun x d ⟨lv, rv, uv, nv, h1, h2, h3, h4, h5, h6⟩ => ⟨lv, rv, uv, nv, h1, h2.sub hs, h3.sub hs, h4.sub hs, h5.sub hs (RRow.sub hs), h6⟩
def autL (c : List Nat) (n : Int) (cv sv : Value) : List Value := splitLI c n ++ [cv, sv]
section
variable {c : List Nat} {n : Int} {cv sv : Value}
theorem autL_len (hc : c.length = 256) : (autL c n cv sv).length = 259 := by simp [autL, splitLI_len hc]
theorem autL_many (hc : c.length = 256) : (autL c n cv sv)[256]? = some (.int .i64 n) := by
  unfold autL
  rw [List.getElem?_append_left (by rw [splitLI_len hc]; omega)]
  exact splitLI_many hc
theorem autL_counts (hc : c.length = 256) : (autL c n cv sv)[257]? = some cv := by
  unfold autL
  rw [List.getElem?_append_right (by rw [splitLI_len hc]; omega), splitLI_len hc]; rfl
theorem autL_states (hc : c.length = 256) : (autL c n cv sv)[258]? = some sv := by
  unfold autL
  rw [List.getElem?_append_right (by rw [splitLI_len hc]; omega), splitLI_len hc]; rfl
theorem autL_ok (h1 : cellOk cv = true) (h2 : cellOk sv = true) : (autL c n cv sv).all cellOk = true := by
  unfold autL
  rw [List.all_append, splitLI_ok, Bool.true_and]
  simp [h1, h2]
theorem loadS {ro : Ro} {h : T Obj} {id z : Nat} {e : TypeId} {f : Nat × Nat} (hg : h.get id = some (.cells (autL c n cv sv).toArray e f)) (hc : c.length = 256) : loadA ro h 257 (at_ id 0 z) = some (splitI c n) := by
  rw [loadA_own, hg, cellsIn_some]
  simp only [Option.bind_some, tl]
  rw [if_pos (by rw [autL_len hc]; omega), List.drop_zero]
  unfold autL
  rw [List.take_append_of_le_length (by rw [splitLI_len hc]; omega), List.take_of_length_le (by rw [splitLI_len hc]; omega)]
  rfl
end
def RAuto (ro : Ro) (h : T Obj) (x : List Value) (d : AutoD) : Prop := ∃ cv sv, x = autL d.c d.many cv sv ∧ d.c.length = 256 ∧ (∀ x ∈ d.c, x < 256) ∧ SlR ro h cv 2 RCount d.counts ∧ SlR ro h sv 4 (RState ro h) d.states ∧ d.counts.length ≤ maxB ∧ d.states.length ≤ maxB
theorem opsOk_cons (R : List Int) (o : Nat) (os : List Nat) (r : Int) (rs : List Int) : opsOk R (o :: os) (r :: rs) = (opOk R o r && opsOk R os rs) := rfl
theorem opsOk_nil (R : List Int) (rs : List Int) : opsOk R [] rs = true := by cases rs <;> rfl
set_option maxRecDepth 4000 in
theorem auto_rises_c {ro : Ro} {v : Value} {l : List Int} {many : Int} (hm : many ≤ 1000000) {h : T Obj} {nx : Nat} {K : KV} (hv : ZI ro h v l) (hK : ∀ nx', nx ≤ nx' → K (.bool (rz (-1) many l)) h nx') : callP Tryz.prog ro i_auto_rises [v, .int .i64 many] h nx K := by
  apply auto_rises_of
  unfold auto_rises
  generalize hR : rz (-1) many l = R at hK
  refine bindP_mk hv.len ?_
  refine loopP_rule (fun j e h' nx' => ∃ (k : Nat) (last : Int), k + j = l.length ∧ nx ≤ nx' ∧ h' = h ∧ e 1 = .int .i64 many ∧ e 5 = .int .i64 last ∧ e 8 = v ∧ e 9 = .int .i64 l.length ∧ e 10 = .int .i64 k ∧ (k : Int) ≤ last + 1 ∧ rz last many (l.drop k) = R) ?_ (n := l.length) ⟨0, -1, by omega, by omega, rfl, rfl, rfl, rfl, rfl, rfl, by omega, hR⟩
  rintro j e h' nx' ⟨k, last, hj, hnx, rfl, e1, e5, e8, e9, e10, hk1, hr⟩ Q' hq hx
  unfold auto_rises_L1
  rw [e1, e5, e8, e9, e10]
  (repeat (first | refine bindP_mk (by simp (disch := first | omega | exact Int.natCast_nonneg _ | assumption) only [BB, B2, ↓reduceIte, Nat.reduceLeDiff, Nat.reduceAdd, intB_eql, intB_neq, intB_lss, intB_leq, intB_gtr, intB_geq] <;> rfl) ?_ | refine newP_mk ?_ | refine optP_mk ?_ | with_reducible first | refine condP_t ?_ | refine condP_f ?_ | refine ifP_tt' ?_ | refine ifP_ff' ?_ | refine ifP_tf' ?_ | refine ifP_ft' ?_ | refine ifP_u' ?_ | refine optP_mk0 ?_))
  refine condP_d (fun hk => ?_) (fun hk => ?_)
  · have hk : k < l.length := by omega
    rw [drop_cons hk, rz_cons] at hr
    refine bindP_mk (hv.ix _ hk) (bindP_mk (hv.load hk) ?_)
    generalize l[k] = x at hr
    (repeat (first | refine bindP_mk (by simp (disch := first | omega | exact Int.natCast_nonneg _ | assumption) only [BB, B2, ↓reduceIte, Nat.reduceLeDiff, Nat.reduceAdd, intB_eql, intB_neq, intB_lss, intB_leq, intB_gtr, intB_geq] <;> rfl) ?_ | refine newP_mk ?_ | refine optP_mk ?_ | with_reducible first | refine condP_t ?_ | refine condP_f ?_ | refine ifP_tt' ?_ | refine ifP_ff' ?_ | refine ifP_tf' ?_ | refine ifP_ft' ?_ | refine ifP_u' ?_ | refine optP_mk0 ?_))
    by_cases h1 : x ≤ last
    · rw [decide_eq_true h1]
      (repeat (first | refine bindP_mk (by simp (disch := first | omega | exact Int.natCast_nonneg _ | assumption) only [BB, B2, ↓reduceIte, Nat.reduceLeDiff, Nat.reduceAdd, intB_eql, intB_neq, intB_lss, intB_leq, intB_gtr, intB_geq] <;> rfl) ?_ | refine newP_mk ?_ | refine optP_mk ?_ | with_reducible first | refine condP_t ?_ | refine condP_f ?_ | refine ifP_tt' ?_ | refine ifP_ff' ?_ | refine ifP_tf' ?_ | refine ifP_ft' ?_ | refine ifP_u' ?_ | refine optP_mk0 ?_))
      refine hx _ _ _ _ (fun e => by cases e) (exP_r ?_)
      refine ⟨_, Sub.refl _, kb hK ?_ (by omega)⟩
      rw [← hr, decide_eq_false (by omega)]; rfl
    · rw [decide_eq_false h1]
      (repeat (first | refine bindP_mk (by simp (disch := first | omega | exact Int.natCast_nonneg _ | assumption) only [BB, B2, ↓reduceIte, Nat.reduceLeDiff, Nat.reduceAdd, intB_eql, intB_neq, intB_lss, intB_leq, intB_gtr, intB_geq] <;> rfl) ?_ | refine newP_mk ?_ | refine optP_mk ?_ | with_reducible first | refine condP_t ?_ | refine condP_f ?_ | refine ifP_tt' ?_ | refine ifP_ff' ?_ | refine ifP_tf' ?_ | refine ifP_ft' ?_ | refine ifP_u' ?_ | refine optP_mk0 ?_))
      by_cases h2 : many ≤ x
      · rw [decide_eq_true h2]
        (repeat (first | refine bindP_mk (by simp (disch := first | omega | exact Int.natCast_nonneg _ | assumption) only [BB, B2, ↓reduceIte, Nat.reduceLeDiff, Nat.reduceAdd, intB_eql, intB_neq, intB_lss, intB_leq, intB_gtr, intB_geq] <;> rfl) ?_ | refine newP_mk ?_ | refine optP_mk ?_ | with_reducible first | refine condP_t ?_ | refine condP_f ?_ | refine ifP_tt' ?_ | refine ifP_ff' ?_ | refine ifP_tf' ?_ | refine ifP_ft' ?_ | refine ifP_u' ?_ | refine optP_mk0 ?_))
        refine hx _ _ _ _ (fun e => by cases e) (exP_r ?_)
        refine ⟨_, Sub.refl _, kb hK ?_ (by omega)⟩
        rw [← hr, decide_eq_false (show ¬ x < many by omega)]; simp
      · rw [decide_eq_false h2]
        (repeat (first | refine bindP_mk (by simp (disch := first | omega | exact Int.natCast_nonneg _ | assumption) only [BB, B2, ↓reduceIte, Nat.reduceLeDiff, Nat.reduceAdd, intB_eql, intB_neq, intB_lss, intB_leq, intB_gtr, intB_geq] <;> rfl) ?_ | refine newP_mk ?_ | refine optP_mk ?_ | with_reducible first | refine condP_t ?_ | refine condP_f ?_ | refine ifP_tt' ?_ | refine ifP_ff' ?_ | refine ifP_tf' ?_ | refine ifP_ft' ?_ | refine ifP_u' ?_ | refine optP_mk0 ?_))
        refine hq (j - 1) _ _ _ _ (by omega) ⟨k + 1, x, by omega, by omega, rfl, e1, rfl, e8, e9, rfl, by omega, ?_⟩ (Sub.refl _)
        rw [← hr, decide_eq_true (show last < x by omega), decide_eq_true (show x < many by omega)]; rfl
  · refine hx _ _ _ _ (fun e => by cases e) (exP_e (beqP_t ?_))
    unfold auto_rises_j1
    rw [drop_all (by omega)] at hr
    exact ⟨_, Sub.refl _, kb hK hr.symm (by omega)⟩
theorem slices_Contains_c {ro : Ro} {v : Value} {l : List Int} {p : Int} (hlen : l.length ≤ 1000000) {h : T Obj} {nx : Nat} {K : KV} (hv : ZI ro h v l) (hK : ∀ nx', nx ≤ nx' → K (.bool (l.contains p)) h nx') : callP Tryz.prog ro i_slices_Contains_int_int [v, .int .i64 p] h nx K := by
  apply slices_Contains_int_int_of
  unfold slices_Contains_int_int
  apply slices_Index_int_int_of
  unfold slices_Index_int_int
  refine bindP_mk hv.len ?_
  have hyes : ∀ (k : Nat) n, p ∈ l → nx ≤ n → bindP (intB .geq (.int .i64 (k : Int)) (.int .i64 0)) fun t8_4 => ∃ h5, Sub h5 h ∧ K t8_4 h5 (n + 2) := fun k n hp hn => by
    refine geq_s (fun hg => ?_) (fun hg => by omega)
    exact ⟨_, Sub.refl _, kb hK (by simpa using hp) (by omega)⟩
  generalize hR : l.contains p = R at hK
  refine loopP_rule (fun j e h' nx' => ∃ (k : Nat), k + j = l.length ∧ nx ≤ nx' ∧ h' = h ∧ e 0 = v ∧ e 1 = .int .i64 p ∧ e 7 = .int .i64 l.length ∧ e 8 = .int .i64 k ∧ (l.drop k).contains p = R) ?_ (n := l.length) ⟨0, by omega, by omega, rfl, rfl, rfl, rfl, rfl, hR⟩
  rintro j e h' nx' ⟨k, hj, hnx, rfl, e0, e1, e7, e8, hr⟩ Q' hq hx
  unfold slices_Index_int_int_L1
  rw [e0, e1, e7, e8]
  refine lss_s (fun hk => ?_) (fun hk => ?_)
  · have hk : k < l.length := by omega
    have hmem : l[k] ∈ l := List.getElem_mem hk
    rw [drop_cons hk] at hr
    (repeat (first | refine bindP_mk (by simp (disch := first | omega | exact Int.natCast_nonneg _ | assumption) only [BB, B2, ↓reduceIte, Nat.reduceLeDiff, Nat.reduceAdd, CC] <;> rfl) ?_ | refine newP_mk ?_ | refine optP_mk ?_ | with_reducible first | refine condP_t ?_ | refine condP_f ?_ | refine ifP_tt' ?_ | refine ifP_ff' ?_ | refine ifP_tf' ?_ | refine ifP_ft' ?_ | refine ifP_u' ?_ | refine optP_mk0 ?_))
    refine bindP_mk (hv.ix _ hk) (bindP_mk (hv.load hk) ?_)
    generalize l[k] = x at hr hmem
    refine eql_s (fun he => ?_) (fun he => ?_)
    · (repeat (first | refine bindP_mk (by simp (disch := first | omega | exact Int.natCast_nonneg _ | assumption) only [BB, B2, ↓reduceIte, Nat.reduceLeDiff, Nat.reduceAdd, CC] <;> rfl) ?_ | refine newP_mk ?_ | refine optP_mk ?_ | with_reducible first | refine condP_t ?_ | refine condP_f ?_ | refine ifP_tt' ?_ | refine ifP_ff' ?_ | refine ifP_tf' ?_ | refine ifP_ft' ?_ | refine ifP_u' ?_ | refine optP_mk0 ?_))
      refine hx _ _ _ _ (fun e => by cases e) (exP_r ?_)
      refine ⟨_, Sub.refl _, hyes _ _ (by rw [he]; exact hmem) (by omega)⟩
    · (repeat (first | refine bindP_mk (by simp (disch := first | omega | exact Int.natCast_nonneg _ | assumption) only [BB, B2, ↓reduceIte, Nat.reduceLeDiff, Nat.reduceAdd, CC] <;> rfl) ?_ | refine newP_mk ?_ | refine optP_mk ?_ | with_reducible first | refine condP_t ?_ | refine condP_f ?_ | refine ifP_tt' ?_ | refine ifP_ff' ?_ | refine ifP_tf' ?_ | refine ifP_ft' ?_ | refine ifP_u' ?_ | refine optP_mk0 ?_))
      refine hq (j - 1) _ _ _ _ (by omega) ⟨k + 1, by omega, by omega, rfl, e0, e1, e7, rfl, ?_⟩ (Sub.refl _)
      rw [← hr, List.contains_cons, beq_eq_false_iff_ne.2 he, Bool.false_or]
  · (repeat (first | refine bindP_mk (by simp (disch := first | omega | exact Int.natCast_nonneg _ | assumption) only [BB, B2, ↓reduceIte, Nat.reduceLeDiff, Nat.reduceAdd, CC] <;> rfl) ?_ | refine newP_mk ?_ | refine optP_mk ?_ | with_reducible first | refine condP_t ?_ | refine condP_f ?_ | refine ifP_tt' ?_ | refine ifP_ff' ?_ | refine ifP_tf' ?_ | refine ifP_ft' ?_ | refine ifP_u' ?_ | refine optP_mk0 ?_))
    refine hx _ _ _ _ (fun e => by cases e) (exP_e (beqP_t ?_))
    unfold slices_Index_int_int_j1
    rw [drop_all (by omega)] at hr
    refine ⟨_, Sub.refl _, ?_⟩
    refine geq_s (fun hg => by omega) (fun hg => ?_)
    exact ⟨_, Sub.refl _, kb hK hr.symm (by omega)⟩
set_option maxRecDepth 8000 in
set_option maxHeartbeats 1000000 in
theorem checker_move_c {ro : Ro} {c : List Nat} {n : Int} {cv sv lv rv uv nv ov : Value} {S : List StateD} {R : List Int} {m : MoveD} (hc : c.length = 256) (hSl : S.length ≤ 256) (hR : R.length ≤ 3) (hmo : m.ops.length ≤ maxB) {h : T Obj} {nx : Nat} {K : KV} (hf : Fr h nx)
    (hS : SlR ro h sv 4 (RState ro h) S) (hrv : ZI ro h rv R) (hov : SlR ro h ov 1 RU8 m.ops) (hK : ∀ nx', nx ≤ nx' → K (.bool (moveOk S R m)) h nx') : callP Tryz.prog ro i_auto_checker_move [.agg (autL c n cv sv).toArray, .agg #[lv, rv, uv, nv], .agg #[.int .i64 m.to, ov]] h nx K := by
  apply auto_checker_move_of
  unfold auto_checker_move
  refine param_mk hf (Nat.le_refl _) fun h1 hs1 hf1 g1 _ => ?_
  refine param_mk hf1 (Nat.le_refl _) fun h2 hs2 hf2 g2 _ => ?_
  refine param_mk hf2 (Nat.le_refl _) fun h3 hs3 hf3 g3 _ => ?_
  have g1 : h3.get nx = some (.cells (autL c n cv sv).toArray y_auto_checker) := hs3 _ _ (hs2 _ _ g1)
  have g2 : h3.get (nx + 1) = some (.cells #[lv, rv, uv, nv] y_api_State) := hs3 _ _ g2
  have g3 : h3.get (nx + 2) = some (.cells #[.int .i64 m.to, ov] y_api_Move) := g3
  have hs := (hs1.trans hs2).trans hs3
  have hS := hS.sub hs (RState.sub hs)
  have hrv := hrv.sub hs
  have hov := hov.sub hs fun _ _ h => h
  have hsg := autL_states (n := n) (cv := cv) (sv := sv) hc
  have hol := hov.len
  have hsl := hS.len
  have hmb : m.ops.length ≤ 9223372036854775807 := hmo
  have hno : ∀ n, moveOk S R m = false → nx ≤ n → ∃ h', Sub h' h3 ∧ K (.bool false) h' n := fun n e hn => ⟨h, hs, kb hK e hn⟩
  (repeat (first | refine bindP_mk (by simp (disch := first | omega | exact Int.natCast_nonneg _ | assumption) only [BB, B2, ↓reduceIte, Nat.reduceLeDiff, Nat.reduceAdd, CC, g3] <;> rfl) ?_ | refine newP_mk ?_ | refine optP_mk ?_ | with_reducible first | refine condP_t ?_ | refine condP_f ?_ | refine ifP_tt' ?_ | refine ifP_ff' ?_ | refine ifP_tf' ?_ | refine ifP_ft' ?_ | refine ifP_u' ?_ | refine optP_mk0 ?_))
  refine eql_s (fun ht => ?_) (fun ht => ?_)
  · (repeat (first | refine bindP_mk (by simp (disch := first | omega | exact Int.natCast_nonneg _ | assumption) only [BB, B2, ↓reduceIte, Nat.reduceLeDiff, Nat.reduceAdd, CC, g3, hol] <;> rfl) ?_ | refine newP_mk ?_ | refine optP_mk ?_ | with_reducible first | refine condP_t ?_ | refine condP_f ?_ | refine ifP_tt' ?_ | refine ifP_ff' ?_ | refine ifP_tf' ?_ | refine ifP_ft' ?_ | refine ifP_u' ?_ | refine optP_mk0 ?_))
    refine bindP_mk (intB_eql _ _ _) ?_
    refine ⟨h, hs, kb hK ?_ (by omega)⟩
    unfold moveOk
    rw [if_pos ht, decide_eq_decide]
    omega
  · unfold moveOk at hno hK
    rw [if_neg ht] at hno hK
    (repeat (first | refine bindP_mk (by simp (disch := first | omega | exact Int.natCast_nonneg _ | assumption) only [BB, B2, ↓reduceIte, Nat.reduceLeDiff, Nat.reduceAdd, CC, g3] <;> rfl) ?_ | refine newP_mk ?_ | refine optP_mk ?_ | with_reducible first | refine condP_t ?_ | refine condP_f ?_ | refine ifP_tt' ?_ | refine ifP_ff' ?_ | refine ifP_tf' ?_ | refine ifP_ft' ?_ | refine ifP_u' ?_ | refine optP_mk0 ?_))
    refine lss_s (fun h1 => ?_) (fun h1 => ?_)
    · (repeat (first | refine bindP_mk (by simp (disch := first | omega | exact Int.natCast_nonneg _ | assumption) only [BB, B2, ↓reduceIte, Nat.reduceLeDiff, Nat.reduceAdd, CC] <;> rfl) ?_ | refine newP_mk ?_ | refine optP_mk ?_ | with_reducible first | refine condP_t ?_ | refine condP_f ?_ | refine ifP_tt' ?_ | refine ifP_ff' ?_ | refine ifP_tf' ?_ | refine ifP_ft' ?_ | refine ifP_u' ?_ | refine optP_mk0 ?_))
      exact hno _ (by rw [decide_eq_false (by omega)]; rfl) (by omega)
    · rw [decide_eq_true h1, Bool.true_and] at hno hK
      (repeat (first | refine bindP_mk (by simp (disch := first | omega | exact Int.natCast_nonneg _ | assumption) only [BB, B2, ↓reduceIte, Nat.reduceLeDiff, Nat.reduceAdd, CC, g1, g3, hsg, hsl] <;> rfl) ?_ | refine newP_mk ?_ | refine optP_mk ?_ | with_reducible first | refine condP_t ?_ | refine condP_f ?_ | refine ifP_tt' ?_ | refine ifP_ff' ?_ | refine ifP_tf' ?_ | refine ifP_ft' ?_ | refine ifP_u' ?_ | refine optP_mk0 ?_))
      refine geq_s (fun h2 => ?_) (fun h2 => ?_)
      · (repeat (first | refine bindP_mk (by simp (disch := first | omega | exact Int.natCast_nonneg _ | assumption) only [BB, B2, ↓reduceIte, Nat.reduceLeDiff, Nat.reduceAdd, CC] <;> rfl) ?_ | refine newP_mk ?_ | refine optP_mk ?_ | with_reducible first | refine condP_t ?_ | refine condP_f ?_ | refine ifP_tt' ?_ | refine ifP_ff' ?_ | refine ifP_tf' ?_ | refine ifP_ft' ?_ | refine ifP_u' ?_ | refine optP_mk0 ?_))
        exact hno _ (by rw [decide_eq_false (by omega)]; rfl) (by omega)
      · rw [decide_eq_true h2, Bool.true_and] at hno hK
        have hti : m.to.toNat < S.length := by omega
        have hgd : S.getD m.to.toNat noS = S[m.to.toNat] := by rw [List.getD_eq_getElem?_getD, List.getElem?_eq_getElem hti]; rfl
        rw [hgd] at hno hK
        have hix := hS.ixI .i64 (i := m.to) (by omega) h2
        obtain ⟨x, ⟨lv', rv', uv', nv', rfl, y1, y2, y3, y4, y5⟩, hx2, hx3, hx4, hx5⟩ := hS.at hti
        have hx1 := hx5 1 rv' rfl
        have hrl := y2.len
        generalize S[m.to.toNat] = s at hno hK y1 y2 y3 y4 y5 hrl
        have y5 : s.r.length ≤ 9223372036854775807 := y5
        (repeat (first | refine bindP_mk (by simp (disch := first | omega | exact Int.natCast_nonneg _ | assumption) only [BB, B2, ↓reduceIte, Nat.reduceLeDiff, Nat.reduceAdd, CC, g1, g3, hsg, hol, hix, hx4, hx1, hrl] <;> rfl) ?_ | refine newP_mk ?_ | refine optP_mk ?_ | with_reducible first | refine condP_t ?_ | refine condP_f ?_ | refine ifP_tt' ?_ | refine ifP_ff' ?_ | refine ifP_tf' ?_ | refine ifP_ft' ?_ | refine ifP_u' ?_ | refine optP_mk0 ?_))
        refine neq_s (fun u9 => ?_) (fun u9 => ?_)
        · (repeat (first | refine bindP_mk (by simp (disch := first | omega | exact Int.natCast_nonneg _ | assumption) only [BB, B2, ↓reduceIte, Nat.reduceLeDiff, Nat.reduceAdd, CC] <;> rfl) ?_ | refine newP_mk ?_ | refine optP_mk ?_ | with_reducible first | refine condP_t ?_ | refine condP_f ?_ | refine ifP_tt' ?_ | refine ifP_ff' ?_ | refine ifP_tf' ?_ | refine ifP_ft' ?_ | refine ifP_u' ?_ | refine optP_mk0 ?_))
          exact hno _ (by rw [decide_eq_false (by omega)]; rfl) (by omega)
        · have u9 : m.ops.length = s.r.length := by omega
          rw [decide_eq_true u9, Bool.true_and] at hno hK
          (repeat (first | refine bindP_mk (by simp (disch := first | omega | exact Int.natCast_nonneg _ | assumption) only [BB, B2, ↓reduceIte, Nat.reduceLeDiff, Nat.reduceAdd, CC, g3, hol] <;> rfl) ?_ | refine newP_mk ?_ | refine optP_mk ?_ | with_reducible first | refine condP_t ?_ | refine condP_f ?_ | refine ifP_tt' ?_ | refine ifP_ff' ?_ | refine ifP_tf' ?_ | refine ifP_ft' ?_ | refine ifP_u' ?_ | refine optP_mk0 ?_))
          generalize hB : opsOk R m.ops s.r = B at hno hK
          refine loopP_rule (fun j e h' nx' => ∃ (k : Nat), k + j = m.ops.length ∧ nx ≤ nx' ∧ h' = h3 ∧ e 3 = ptr nx ∧ e 4 = ptr (nx + 1) ∧ e 5 = ptr (nx + 2) ∧ e 44 = ov ∧ e 45 = .int .i64 m.ops.length ∧ e 46 = .int .i64 k ∧ opsOk R (m.ops.drop k) (s.r.drop k) = B) ?_ (n := m.ops.length) ⟨0, by omega, by omega, rfl, rfl, rfl, rfl, rfl, rfl, rfl, hB⟩
          rintro j e h' nx' ⟨k, hj, hnx, rfl, e3, e4, e5, e44, e45, e46, hr⟩ Q' hq hx
          unfold auto_checker_move_L1
          rw [e3, e4, e5, e44, e45, e46]
          refine lss_s (fun hk => ?_) (fun hk => ?_)
          · have hk : k < m.ops.length := by omega
            have hk2 : k < s.r.length := by omega
            rw [drop_cons hk, drop_cons hk2, opsOk_cons] at hr
            have oix := hov.ix .i64 hk
            obtain ⟨w, ⟨ow, olt⟩, o1⟩ := hov.at1 hk
            simp only [List.cons.injEq, and_true] at ow
            subst ow
            have rix := y2.ix .i64 hk2
            have rld := y2.load hk2
            generalize m.ops[k] = o at hr o1 olt
            generalize s.r[k] = r at hr rld
            have hfin : ∀ (e' : Env) n, e' 6 = .bool false → opOk R o r = false → nx ≤ n → Q' .ret e' h' n := fun e' n h6 hc hn => by
              refine hx _ _ _ _ (fun e => by cases e) (exP_r ?_)
              rw [h6]
              refine ⟨h, hs, kb hK ?_ hn⟩
              rw [← hr, hc]; rfl
            have hok : ∀ (e' : Env) n, e' 3 = ptr nx → e' 4 = ptr (nx + 1) → e' 5 = ptr (nx + 2) → e' 44 = ov → e' 45 = .int .i64 m.ops.length → e' 46 = .int .i64 ((k : Int) + 1) → opOk R o r = true → nx ≤ n → Q' .normal e' h' n := fun e' n f3 f4 f5 f44 f45 f46 hc hn =>
              hq (j - 1) _ _ _ _ (by omega) ⟨k + 1, by omega, hn, rfl, f3, f4, f5, f44, f45, f46, by rw [← hr, hc]; rfl⟩ (Sub.refl _)
            unfold opOk at hfin hok
            (repeat (first | refine bindP_mk (by simp (disch := first | omega | exact Int.natCast_nonneg _ | assumption) only [BB, B2, ↓reduceIte, Nat.reduceLeDiff, Nat.reduceAdd, CC, oix, o1] <;> rfl) ?_ | refine newP_mk ?_ | refine optP_mk ?_ | with_reducible first | refine condP_t ?_ | refine condP_f ?_ | refine ifP_tt' ?_ | refine ifP_ff' ?_ | refine ifP_tf' ?_ | refine ifP_ft' ?_ | refine ifP_u' ?_ | refine optP_mk0 ?_))
            refine lss_s (fun u1 => ?_) (fun u1 => ?_)
            · (repeat (first | refine bindP_mk (by simp (disch := first | omega | exact Int.natCast_nonneg _ | assumption) only [BB, B2, ↓reduceIte, Nat.reduceLeDiff, Nat.reduceAdd, CC] <;> rfl) ?_ | refine newP_mk ?_ | refine optP_mk ?_ | with_reducible first | refine condP_t ?_ | refine condP_f ?_ | refine ifP_tt' ?_ | refine ifP_ff' ?_ | refine ifP_tf' ?_ | refine ifP_ft' ?_ | refine ifP_u' ?_ | refine optP_mk0 ?_))
              exact hfin _ _ rfl (by rw [decide_eq_false (by omega)]; rfl) (by omega)
            · rw [decide_eq_true (by omega), Bool.true_and] at hfin hok
              (repeat (first | refine bindP_mk (by simp (disch := first | omega | exact Int.natCast_nonneg _ | assumption) only [BB, B2, ↓reduceIte, Nat.reduceLeDiff, Nat.reduceAdd, CC] <;> rfl) ?_ | refine newP_mk ?_ | refine optP_mk ?_ | with_reducible first | refine condP_t ?_ | refine condP_f ?_ | refine ifP_tt' ?_ | refine ifP_ff' ?_ | refine ifP_tf' ?_ | refine ifP_ft' ?_ | refine ifP_u' ?_ | refine optP_mk0 ?_))
              refine gtr_s (fun u2 => ?_) (fun u2 => ?_)
              · (repeat (first | refine bindP_mk (by simp (disch := first | omega | exact Int.natCast_nonneg _ | assumption) only [BB, B2, ↓reduceIte, Nat.reduceLeDiff, Nat.reduceAdd, CC] <;> rfl) ?_ | refine newP_mk ?_ | refine optP_mk ?_ | with_reducible first | refine condP_t ?_ | refine condP_f ?_ | refine ifP_tt' ?_ | refine ifP_ff' ?_ | refine ifP_tf' ?_ | refine ifP_ft' ?_ | refine ifP_u' ?_ | refine optP_mk0 ?_))
                exact hfin _ _ rfl (by rw [decide_eq_false (by omega)]; rfl) (by omega)
              · rw [decide_eq_true (by omega), Bool.true_and] at hfin hok
                (repeat (first | refine bindP_mk (by simp (disch := first | omega | exact Int.natCast_nonneg _ | assumption) only [BB, B2, ↓reduceIte, Nat.reduceLeDiff, Nat.reduceAdd, CC] <;> rfl) ?_ | refine newP_mk ?_ | refine optP_mk ?_ | with_reducible first | refine condP_t ?_ | refine condP_f ?_ | refine ifP_tt' ?_ | refine ifP_ff' ?_ | refine ifP_tf' ?_ | refine ifP_ft' ?_ | refine ifP_u' ?_ | refine optP_mk0 ?_))
                refine neq_s (fun u3 => ?_) (fun u3 => ?_)
                · rw [decide_eq_false (by omega), Bool.false_or] at hfin hok
                  (repeat (first | refine bindP_mk (by simp (disch := first | omega | exact Int.natCast_nonneg _ | assumption) only [BB, B2, ↓reduceIte, Nat.reduceLeDiff, Nat.reduceAdd, CC, g1, g2, g3, hsg, hix, hx4, hx1, rix, rld] <;> rfl) ?_ | refine newP_mk ?_ | refine optP_mk ?_ | with_reducible first | refine condP_t ?_ | refine condP_f ?_ | refine ifP_tt' ?_ | refine ifP_ff' ?_ | refine ifP_tf' ?_ | refine ifP_ft' ?_ | refine ifP_u' ?_ | refine optP_mk0 ?_))
                  refine slices_Contains_c (by omega) hrv fun n9 hn9 => ?_
                  cases hcn : R.contains r with
                  | true =>
                    rw [hcn] at hok
                    (repeat (first | refine bindP_mk (by simp (disch := first | omega | exact Int.natCast_nonneg _ | assumption) only [BB, B2, ↓reduceIte, Nat.reduceLeDiff, Nat.reduceAdd, CC] <;> rfl) ?_ | refine newP_mk ?_ | refine optP_mk ?_ | with_reducible first | refine condP_t ?_ | refine condP_f ?_ | refine ifP_tt' ?_ | refine ifP_ff' ?_ | refine ifP_tf' ?_ | refine ifP_ft' ?_ | refine ifP_u' ?_ | refine optP_mk0 ?_))
                    exact hok _ _ e3 e4 e5 e44 e45 rfl rfl (by omega)
                  | false =>
                    rw [hcn] at hfin
                    (repeat (first | refine bindP_mk (by simp (disch := first | omega | exact Int.natCast_nonneg _ | assumption) only [BB, B2, ↓reduceIte, Nat.reduceLeDiff, Nat.reduceAdd, CC] <;> rfl) ?_ | refine newP_mk ?_ | refine optP_mk ?_ | with_reducible first | refine condP_t ?_ | refine condP_f ?_ | refine ifP_tt' ?_ | refine ifP_ff' ?_ | refine ifP_tf' ?_ | refine ifP_ft' ?_ | refine ifP_u' ?_ | refine optP_mk0 ?_))
                    exact hfin _ _ rfl rfl (by omega)
                · rw [decide_eq_true (by omega), Bool.true_or] at hfin hok
                  (repeat (first | refine bindP_mk (by simp (disch := first | omega | exact Int.natCast_nonneg _ | assumption) only [BB, B2, ↓reduceIte, Nat.reduceLeDiff, Nat.reduceAdd, CC] <;> rfl) ?_ | refine newP_mk ?_ | refine optP_mk ?_ | with_reducible first | refine condP_t ?_ | refine condP_f ?_ | refine ifP_tt' ?_ | refine ifP_ff' ?_ | refine ifP_tf' ?_ | refine ifP_ft' ?_ | refine ifP_u' ?_ | refine optP_mk0 ?_))
                  exact hok _ _ e3 e4 e5 e44 e45 rfl rfl (by omega)
          · (repeat (first | refine bindP_mk (by simp (disch := first | omega | exact Int.natCast_nonneg _ | assumption) only [BB, B2, ↓reduceIte, Nat.reduceLeDiff, Nat.reduceAdd, CC] <;> rfl) ?_ | refine newP_mk ?_ | refine optP_mk ?_ | with_reducible first | refine condP_t ?_ | refine condP_f ?_ | refine ifP_tt' ?_ | refine ifP_ff' ?_ | refine ifP_tf' ?_ | refine ifP_ft' ?_ | refine ifP_u' ?_ | refine optP_mk0 ?_))
            refine hx _ _ _ _ (fun e => by cases e) (exP_e (beqP_t ?_))
            unfold auto_checker_move_j1
            rw [drop_all (by omega), opsOk_nil] at hr
            exact ⟨h, hs, kb hK hr.symm (by omega)⟩
def rowOk (S : List StateD) (R : List Int) (many ru : Int) (row : List MoveD) : Bool := decide (-1 ≤ ru) && (decide (ru < 512) && (decide ((row.length : Int) = many) && row.all (moveOk S R)))
def rowsOk (S : List StateD) (R : List Int) (many : Int) : List Int → List (List MoveD) → Bool
  | ru :: rus, row :: rows => rowOk S R many ru row && rowsOk S R many rus rows
  | _, _ => true
def stateOk (S : List StateD) (many : Int) (cn : Nat) (s : StateD) : Bool := decide (codesD s.r.length ≠ 0) && (decide ((s.rule.length : Int) = codesD s.r.length) && (decide ((s.next.length : Int) = codesD s.r.length) && (rz (-1) 512 s.l && (rz (-1) cn s.r && rowsOk S s.r many s.rule s.next))))
theorem rowsOk_cons (S : List StateD) (R : List Int) (many ru : Int) (row : List MoveD) (rus : List Int) (rows : List (List MoveD)) : rowsOk S R many (ru :: rus) (row :: rows) = (rowOk S R many ru row && rowsOk S R many rus rows) := rfl
theorem rowsOk_nil (S : List StateD) (R : List Int) (many : Int) (l : List Int) : rowsOk S R many l [] = true := by cases l <;> rfl
theorem move_IndexFunc_c {ro : Ro} {v f : Value} {D : Type} {l : List D} {R : List Value → D → Prop} {q : D → Bool} (hlen : l.length ≤ 1000000) {h : T Obj} {nx : Nat} {K : KV} (hv : SlR ro h v 2 R l)
    (hf : ∀ (i : Nat) (hi : i < l.length) x n K', R x l[i] → nx ≤ n → (∀ n', n ≤ n' → K' (.bool (q l[i])) h n') → callF (callP Tryz.prog ro) f [.agg x.toArray] h n K')
    (hK : ∀ nx', nx ≤ nx' → K (.int .i64 (findI q 0 l)) h nx') : callP Tryz.prog ro i_slices_IndexFunc_api_Move_api_Move [v, f] h nx K := by
  apply slices_IndexFunc_api_Move_api_Move_of
  unfold slices_IndexFunc_api_Move_api_Move
  generalize hR : findI q 0 l = r at hK
  refine bindP_mk hv.len ?_
  refine loopP_rule (fun j e h' nx' => ∃ (k : Nat), k + j = l.length ∧ nx ≤ nx' ∧ h' = h ∧ e 0 = v ∧ e 1 = f ∧ e 7 = .int .i64 l.length ∧ e 8 = .int .i64 k ∧ findI q k (l.drop k) = r) ?_ (n := l.length) ⟨0, by omega, by omega, rfl, rfl, rfl, rfl, rfl, hR⟩
  rintro j e h' nx' ⟨k, hj, hnx, rfl, e0, e1, e7, e8, hr⟩ Q' hq hx
  unfold slices_IndexFunc_api_Move_api_Move_L1
  rw [e0, e1, e7, e8]
  refine lss_s (fun hk => ?_) (fun hk => ?_)
  · have hk : k < l.length := by omega
    rw [drop_cons hk, findI_cons] at hr
    obtain ⟨x, hx1, hx2, hx3, hx4, hx5⟩ := hv.at hk
    (repeat (first | refine bindP_mk (by simp (disch := first | omega | exact Int.natCast_nonneg _ | assumption) only [BB, B2, ↓reduceIte, Nat.reduceLeDiff, Nat.reduceAdd, CC] <;> rfl) ?_ | refine newP_mk ?_ | refine optP_mk ?_ | with_reducible first | refine condP_t ?_ | refine condP_f ?_ | refine ifP_tt' ?_ | refine ifP_ff' ?_ | refine ifP_tf' ?_ | refine ifP_ft' ?_ | refine ifP_u' ?_ | refine optP_mk0 ?_))
    refine bindP_mk (hv.ix _ hk) (bindP_mk hx3 ?_)
    refine hf k hk x _ _ hx1 (by omega) fun n hn => ?_
    cases hc : q l[k] with
    | true =>
      rw [hc, if_pos rfl] at hr
      (repeat (first | refine bindP_mk (by simp (disch := first | omega | exact Int.natCast_nonneg _ | assumption) only [BB, B2, ↓reduceIte, Nat.reduceLeDiff, Nat.reduceAdd, CC] <;> rfl) ?_ | refine newP_mk ?_ | refine optP_mk ?_ | with_reducible first | refine condP_t ?_ | refine condP_f ?_ | refine ifP_tt' ?_ | refine ifP_ff' ?_ | refine ifP_tf' ?_ | refine ifP_ft' ?_ | refine ifP_u' ?_ | refine optP_mk0 ?_))
      refine hx _ _ _ _ (fun e => by cases e) (exP_r ?_)
      exact ⟨_, Sub.refl _, ki hK hr.symm (by omega)⟩
    | false =>
      rw [hc, if_neg (by decide)] at hr
      (repeat (first | refine bindP_mk (by simp (disch := first | omega | exact Int.natCast_nonneg _ | assumption) only [BB, B2, ↓reduceIte, Nat.reduceLeDiff, Nat.reduceAdd, CC] <;> rfl) ?_ | refine newP_mk ?_ | refine optP_mk ?_ | with_reducible first | refine condP_t ?_ | refine condP_f ?_ | refine ifP_tt' ?_ | refine ifP_ff' ?_ | refine ifP_tf' ?_ | refine ifP_ft' ?_ | refine ifP_u' ?_ | refine optP_mk0 ?_))
      exact hq (j - 1) _ _ _ _ (by omega) ⟨k + 1, by omega, by omega, rfl, e0, e1, e7, rfl, hr⟩ (Sub.refl _)
  · (repeat (first | refine bindP_mk (by simp (disch := first | omega | exact Int.natCast_nonneg _ | assumption) only [BB, B2, ↓reduceIte, Nat.reduceLeDiff, Nat.reduceAdd, CC] <;> rfl) ?_ | refine newP_mk ?_ | refine optP_mk ?_ | with_reducible first | refine condP_t ?_ | refine condP_f ?_ | refine ifP_tt' ?_ | refine ifP_ff' ?_ | refine ifP_tf' ?_ | refine ifP_ft' ?_ | refine ifP_u' ?_ | refine optP_mk0 ?_))
    refine hx _ _ _ _ (fun e => by cases e) (exP_e (beqP_t ?_))
    unfold slices_IndexFunc_api_Move_api_Move_j1
    rw [drop_all (by omega)] at hr
    exact ⟨_, Sub.refl _, ki hK hr.symm (by omega)⟩
theorem move_ContainsFunc_c {ro : Ro} {v f : Value} {D : Type} {l : List D} {R : List Value → D → Prop} {q : D → Bool} (hlen : l.length ≤ 1000000) {h : T Obj} {nx : Nat} {K : KV} (hv : SlR ro h v 2 R l)
    (hf : ∀ (i : Nat) (hi : i < l.length) x n K', R x l[i] → nx ≤ n → (∀ n', n ≤ n' → K' (.bool (q l[i])) h n') → callF (callP Tryz.prog ro) f [.agg x.toArray] h n K')
    (hK : ∀ nx', nx ≤ nx' → K (.bool (l.any q)) h nx') : callP Tryz.prog ro i_slices_ContainsFunc_api_Move_api_Move [v, f] h nx K := by
  apply slices_ContainsFunc_api_Move_api_Move_of
  unfold slices_ContainsFunc_api_Move_api_Move
  refine move_IndexFunc_c hlen hv (fun i hi x n K' hx hn hk => hf i hi x n K' hx (by omega) hk) fun n hn => ?_
  rw [← findI_any q l 0 (by omega)] at hK
  (first | refine lss_s (fun hb => ?_) (fun hb => ?_) | refine leq_s (fun hb => ?_) (fun hb => ?_) | refine gtr_s (fun hb => ?_) (fun hb => ?_) | refine geq_s (fun hb => ?_) (fun hb => ?_) | refine eql_s (fun hb => ?_) (fun hb => ?_) | refine neq_s (fun hb => ?_) (fun hb => ?_))
  · exact ⟨_, Sub.refl _, kb hK (decide_eq_true hb) (by omega)⟩
  · exact ⟨_, Sub.refl _, kb hK (decide_eq_false (by omega)) (by omega)⟩
theorem state_IndexFunc_c {ro : Ro} {v f : Value} {D : Type} {l : List D} {R : List Value → D → Prop} {q : D → Bool} (hlen : l.length ≤ 1000000) {h : T Obj} {nx : Nat} {K : KV} (hv : SlR ro h v 4 R l)
    (hf : ∀ (i : Nat) (hi : i < l.length) x n K', R x l[i] → nx ≤ n → (∀ n', n ≤ n' → K' (.bool (q l[i])) h n') → callF (callP Tryz.prog ro) f [.agg x.toArray] h n K')
    (hK : ∀ nx', nx ≤ nx' → K (.int .i64 (findI q 0 l)) h nx') : callP Tryz.prog ro i_slices_IndexFunc_api_State_api_State [v, f] h nx K := by
  apply slices_IndexFunc_api_State_api_State_of
  unfold slices_IndexFunc_api_State_api_State
  generalize hR : findI q 0 l = r at hK
  refine bindP_mk hv.len ?_
  refine loopP_rule (fun j e h' nx' => ∃ (k : Nat), k + j = l.length ∧ nx ≤ nx' ∧ h' = h ∧ e 0 = v ∧ e 1 = f ∧ e 7 = .int .i64 l.length ∧ e 8 = .int .i64 k ∧ findI q k (l.drop k) = r) ?_ (n := l.length) ⟨0, by omega, by omega, rfl, rfl, rfl, rfl, rfl, hR⟩
  rintro j e h' nx' ⟨k, hj, hnx, rfl, e0, e1, e7, e8, hr⟩ Q' hq hx
  unfold slices_IndexFunc_api_State_api_State_L1
  rw [e0, e1, e7, e8]
  refine lss_s (fun hk => ?_) (fun hk => ?_)
  · have hk : k < l.length := by omega
    rw [drop_cons hk, findI_cons] at hr
    obtain ⟨x, hx1, hx2, hx3, hx4, hx5⟩ := hv.at hk
    (repeat (first | refine bindP_mk (by simp (disch := first | omega | exact Int.natCast_nonneg _ | assumption) only [BB, B2, ↓reduceIte, Nat.reduceLeDiff, Nat.reduceAdd, CC] <;> rfl) ?_ | refine newP_mk ?_ | refine optP_mk ?_ | with_reducible first | refine condP_t ?_ | refine condP_f ?_ | refine ifP_tt' ?_ | refine ifP_ff' ?_ | refine ifP_tf' ?_ | refine ifP_ft' ?_ | refine ifP_u' ?_ | refine optP_mk0 ?_))
    refine bindP_mk (hv.ix _ hk) (bindP_mk hx3 ?_)
    refine hf k hk x _ _ hx1 (by omega) fun n hn => ?_
    cases hc : q l[k] with
    | true =>
      rw [hc, if_pos rfl] at hr
      (repeat (first | refine bindP_mk (by simp (disch := first | omega | exact Int.natCast_nonneg _ | assumption) only [BB, B2, ↓reduceIte, Nat.reduceLeDiff, Nat.reduceAdd, CC] <;> rfl) ?_ | refine newP_mk ?_ | refine optP_mk ?_ | with_reducible first | refine condP_t ?_ | refine condP_f ?_ | refine ifP_tt' ?_ | refine ifP_ff' ?_ | refine ifP_tf' ?_ | refine ifP_ft' ?_ | refine ifP_u' ?_ | refine optP_mk0 ?_))
      refine hx _ _ _ _ (fun e => by cases e) (exP_r ?_)
      exact ⟨_, Sub.refl _, ki hK hr.symm (by omega)⟩
    | false =>
      rw [hc, if_neg (by decide)] at hr
      (repeat (first | refine bindP_mk (by simp (disch := first | omega | exact Int.natCast_nonneg _ | assumption) only [BB, B2, ↓reduceIte, Nat.reduceLeDiff, Nat.reduceAdd, CC] <;> rfl) ?_ | refine newP_mk ?_ | refine optP_mk ?_ | with_reducible first | refine condP_t ?_ | refine condP_f ?_ | refine ifP_tt' ?_ | refine ifP_ff' ?_ | refine ifP_tf' ?_ | refine ifP_ft' ?_ | refine ifP_u' ?_ | refine optP_mk0 ?_))
      exact hq (j - 1) _ _ _ _ (by omega) ⟨k + 1, by omega, by omega, rfl, e0, e1, e7, rfl, hr⟩ (Sub.refl _)
  · (repeat (first | refine bindP_mk (by simp (disch := first | omega | exact Int.natCast_nonneg _ | assumption) only [BB, B2, ↓reduceIte, Nat.reduceLeDiff, Nat.reduceAdd, CC] <;> rfl) ?_ | refine newP_mk ?_ | refine optP_mk ?_ | with_reducible first | refine condP_t ?_ | refine condP_f ?_ | refine ifP_tt' ?_ | refine ifP_ff' ?_ | refine ifP_tf' ?_ | refine ifP_ft' ?_ | refine ifP_u' ?_ | refine optP_mk0 ?_))
    refine hx _ _ _ _ (fun e => by cases e) (exP_e (beqP_t ?_))
    unfold slices_IndexFunc_api_State_api_State_j1
    rw [drop_all (by omega)] at hr
    exact ⟨_, Sub.refl _, ki hK hr.symm (by omega)⟩
theorem state_ContainsFunc_c {ro : Ro} {v f : Value} {D : Type} {l : List D} {R : List Value → D → Prop} {q : D → Bool} (hlen : l.length ≤ 1000000) {h : T Obj} {nx : Nat} {K : KV} (hv : SlR ro h v 4 R l)
    (hf : ∀ (i : Nat) (hi : i < l.length) x n K', R x l[i] → nx ≤ n → (∀ n', n ≤ n' → K' (.bool (q l[i])) h n') → callF (callP Tryz.prog ro) f [.agg x.toArray] h n K')
    (hK : ∀ nx', nx ≤ nx' → K (.bool (l.any q)) h nx') : callP Tryz.prog ro i_slices_ContainsFunc_api_State_api_State [v, f] h nx K := by
  apply slices_ContainsFunc_api_State_api_State_of
  unfold slices_ContainsFunc_api_State_api_State
  refine state_IndexFunc_c hlen hv (fun i hi x n K' hx hn hk => hf i hi x n K' hx (by omega) hk) fun n hn => ?_
  rw [← findI_any q l 0 (by omega)] at hK
  (first | refine lss_s (fun hb => ?_) (fun hb => ?_) | refine leq_s (fun hb => ?_) (fun hb => ?_) | refine gtr_s (fun hb => ?_) (fun hb => ?_) | refine geq_s (fun hb => ?_) (fun hb => ?_) | refine eql_s (fun hb => ?_) (fun hb => ?_) | refine neq_s (fun hb => ?_) (fun hb => ?_))
  · exact ⟨_, Sub.refl _, kb hK (decide_eq_true hb) (by omega)⟩
  · exact ⟨_, Sub.refl _, kb hK (decide_eq_false (by omega)) (by omega)⟩
set_option maxRecDepth 8000 in
theorem checker_state_1_c {ro : Ro} {c : List Nat} {n : Int} {cv sv lv rv uv nv ov : Value} {S : List StateD} {R : List Int} {m : MoveD} {i1 i2 : Nat} (hc : c.length = 256) (hSl : S.length ≤ 256) (hR : R.length ≤ 3) (hmo : m.ops.length ≤ maxB) {h : T Obj} {nx : Nat} {K : KV} (hf : Fr h nx)
    (g1 : h.get i1 = some (.cells (autL c n cv sv).toArray y_auto_checker)) (g2 : h.get i2 = some (.cells #[lv, rv, uv, nv] y_api_State)) (hS : SlR ro h sv 4 (RState ro h) S) (hrv : ZI ro h rv R) (hov : SlR ro h ov 1 RU8 m.ops) (hK : ∀ nx', nx ≤ nx' → K (.bool (!moveOk S R m)) h nx') : callP Tryz.prog ro i_auto_checker_state_1 [.agg #[.int .i64 m.to, ov], ptr i1, ptr i2] h nx K := by
  apply auto_checker_state_1_of
  unfold auto_checker_state_1
  refine param_mk hf (Nat.le_refl _) fun h1 hs1 hf1 g3 _ => ?_
  have g3 : h1.get nx = some (.cells #[.int .i64 m.to, ov] y_api_Move) := g3
  refine bindP_mk (loadA_all (hs1 _ _ g1) (autL_len hc)) ?_
  refine bindP_mk (loadA_all (l := [lv, rv, uv, nv]) (hs1 _ _ g2) rfl) ?_
  refine bindP_mk (loadA_all (l := [.int .i64 m.to, ov]) g3 rfl) ?_
  refine checker_move_c hc hSl hR hmo (hf1.mono (by omega)) (hS.sub hs1 (RState.sub hs1)) (hrv.sub hs1) (hov.sub hs1 fun _ _ h => h) fun n hn => ?_
  (repeat (first | refine bindP_mk (by simp (disch := first | omega | exact Int.natCast_nonneg _ | assumption) only [BB, B2, ↓reduceIte, Nat.reduceLeDiff, Nat.reduceAdd, CC] <;> rfl) ?_ | refine newP_mk ?_ | refine optP_mk ?_ | with_reducible first | refine condP_t ?_ | refine condP_f ?_ | refine ifP_tt' ?_ | refine ifP_ff' ?_ | refine ifP_tf' ?_ | refine ifP_ft' ?_ | refine ifP_u' ?_ | refine optP_mk0 ?_))
  exact ⟨h, hs1, hK _ (by omega)⟩
set_option maxRecDepth 8000 in
set_option maxHeartbeats 1000000 in
theorem checker_state_c {ro : Ro} {c : List Nat} {n : Int} {cv sv lv rv uv nv : Value} {S : List StateD} {C : List (Int × Int)} {s : StateD} (hc : c.length = 256) (hn : n ≤ 256) (hSl : S.length ≤ 256) (hC : C.length ≤ 512) (hsr : s.r.length ≤ maxB) {h : T Obj} {nx : Nat} {K : KV} (hf : Fr h nx)
    (hcv : SlR ro h cv 2 RCount C) (hS : SlR ro h sv 4 (RState ro h) S) (h1 : ZI ro h lv s.l) (h2 : ZI ro h rv s.r) (h3 : ZI ro h uv s.rule) (h4 : SlR ro h nv 1 (RRow ro h) s.next)
    (hK : ∀ nx', nx ≤ nx' → K (.bool (stateOk S n C.length s)) h nx') : callP Tryz.prog ro i_auto_checker_state [.agg (autL c n cv sv).toArray, .agg #[lv, rv, uv, nv]] h nx K := by
  apply auto_checker_state_of
  unfold auto_checker_state
  refine param_mk hf (Nat.le_refl _) fun p1 hs1 hf1 g1 _ => ?_
  refine param_mk hf1 (Nat.le_refl _) fun p2 hs2 hf2 g2 _ => ?_
  have g1 : p2.get nx = some (.cells (autL c n cv sv).toArray y_auto_checker) := hs2 _ _ g1
  have g2 : p2.get (nx + 1) = some (.cells #[lv, rv, uv, nv] y_api_State) := g2
  have hs := hs1.trans hs2
  have hS := hS.sub hs (RState.sub hs)
  have hcv := hcv.sub hs fun _ _ h => h
  have h1 := h1.sub hs
  have h2 := h2.sub hs
  have h3 := h3.sub hs
  have h4 := h4.sub hs (RRow.sub hs)
  have hsg := autL_states (n := n) (cv := cv) (sv := sv) hc
  have hcg := autL_counts (n := n) (cv := cv) (sv := sv) hc
  have hmg := autL_many (n := n) (cv := cv) (sv := sv) hc
  have l1 := h1.len
  have l2 := h2.len
  have l3 := h3.len
  have l4 := h4.len
  have lc := hcv.len
  have hno : ∀ n', stateOk S n C.length s = false → nx ≤ n' → ∃ h', Sub h' p2 ∧ K (.bool false) h' n' := fun n' e hn => ⟨h, hs, kb hK e hn⟩
  unfold stateOk at hno hK
  (repeat (first | refine bindP_mk (by simp (disch := first | omega | exact Int.natCast_nonneg _ | assumption) only [BB, B2, ↓reduceIte, Nat.reduceLeDiff, Nat.reduceAdd, CC, g2, l2] <;> rfl) ?_ | refine newP_mk ?_ | refine optP_mk ?_ | with_reducible first | refine condP_t ?_ | refine condP_f ?_ | refine ifP_tt' ?_ | refine ifP_ff' ?_ | refine ifP_tf' ?_ | refine ifP_ft' ?_ | refine ifP_u' ?_ | refine optP_mk0 ?_))
  refine auto_Codes_c fun n1 hn1 => ?_
  have hcl := codes_le s.r.length
  have hcf := codes_few (m := s.r.length)
  generalize codesD s.r.length = cd at hno hK hcl hcf
  refine eql_s (fun u1 => ?_) (fun u1 => ?_)
  · (repeat (first | refine bindP_mk (by simp (disch := first | omega | exact Int.natCast_nonneg _ | assumption) only [BB, B2, ↓reduceIte, Nat.reduceLeDiff, Nat.reduceAdd, CC] <;> rfl) ?_ | refine newP_mk ?_ | refine optP_mk ?_ | with_reducible first | refine condP_t ?_ | refine condP_f ?_ | refine ifP_tt' ?_ | refine ifP_ff' ?_ | refine ifP_tf' ?_ | refine ifP_ft' ?_ | refine ifP_u' ?_ | refine optP_mk0 ?_))
    exact hno _ (by rw [decide_eq_false (by omega)]; rfl) (by omega)
  · rw [decide_eq_true u1, Bool.true_and] at hno hK
    have hcf := hcf u1
    (repeat (first | refine bindP_mk (by simp (disch := first | omega | exact Int.natCast_nonneg _ | assumption) only [BB, B2, ↓reduceIte, Nat.reduceLeDiff, Nat.reduceAdd, CC, g2, l3] <;> rfl) ?_ | refine newP_mk ?_ | refine optP_mk ?_ | with_reducible first | refine condP_t ?_ | refine condP_f ?_ | refine ifP_tt' ?_ | refine ifP_ff' ?_ | refine ifP_tf' ?_ | refine ifP_ft' ?_ | refine ifP_u' ?_ | refine optP_mk0 ?_))
    refine neq_s (fun u2 => ?_) (fun u2 => ?_)
    · (repeat (first | refine bindP_mk (by simp (disch := first | omega | exact Int.natCast_nonneg _ | assumption) only [BB, B2, ↓reduceIte, Nat.reduceLeDiff, Nat.reduceAdd, CC] <;> rfl) ?_ | refine newP_mk ?_ | refine optP_mk ?_ | with_reducible first | refine condP_t ?_ | refine condP_f ?_ | refine ifP_tt' ?_ | refine ifP_ff' ?_ | refine ifP_tf' ?_ | refine ifP_ft' ?_ | refine ifP_u' ?_ | refine optP_mk0 ?_))
      exact hno _ (by rw [decide_eq_false (by omega)]; rfl) (by omega)
    · rw [decide_eq_true u2, Bool.true_and] at hno hK
      (repeat (first | refine bindP_mk (by simp (disch := first | omega | exact Int.natCast_nonneg _ | assumption) only [BB, B2, ↓reduceIte, Nat.reduceLeDiff, Nat.reduceAdd, CC, g2, l4] <;> rfl) ?_ | refine newP_mk ?_ | refine optP_mk ?_ | with_reducible first | refine condP_t ?_ | refine condP_f ?_ | refine ifP_tt' ?_ | refine ifP_ff' ?_ | refine ifP_tf' ?_ | refine ifP_ft' ?_ | refine ifP_u' ?_ | refine optP_mk0 ?_))
      refine neq_s (fun u3 => ?_) (fun u3 => ?_)
      · (repeat (first | refine bindP_mk (by simp (disch := first | omega | exact Int.natCast_nonneg _ | assumption) only [BB, B2, ↓reduceIte, Nat.reduceLeDiff, Nat.reduceAdd, CC] <;> rfl) ?_ | refine newP_mk ?_ | refine optP_mk ?_ | with_reducible first | refine condP_t ?_ | refine condP_f ?_ | refine ifP_tt' ?_ | refine ifP_ff' ?_ | refine ifP_tf' ?_ | refine ifP_ft' ?_ | refine ifP_u' ?_ | refine optP_mk0 ?_))
        exact hno _ (by rw [decide_eq_false (by omega)]; rfl) (by omega)
      · rw [decide_eq_true u3, Bool.true_and] at hno hK
        (repeat (first | refine bindP_mk (by simp (disch := first | omega | exact Int.natCast_nonneg _ | assumption) only [BB, B2, ↓reduceIte, Nat.reduceLeDiff, Nat.reduceAdd, CC, g2] <;> rfl) ?_ | refine newP_mk ?_ | refine optP_mk ?_ | with_reducible first | refine condP_t ?_ | refine condP_f ?_ | refine ifP_tt' ?_ | refine ifP_ff' ?_ | refine ifP_tf' ?_ | refine ifP_ft' ?_ | refine ifP_u' ?_ | refine optP_mk0 ?_))
        refine auto_rises_c (by omega) h1 fun n2 hn2 => ?_
        cases u4 : rz (-1) 512 s.l with
        | false =>
          (repeat (first | refine bindP_mk (by simp (disch := first | omega | exact Int.natCast_nonneg _ | assumption) only [BB, B2, ↓reduceIte, Nat.reduceLeDiff, Nat.reduceAdd, CC] <;> rfl) ?_ | refine newP_mk ?_ | refine optP_mk ?_ | with_reducible first | refine condP_t ?_ | refine condP_f ?_ | refine ifP_tt' ?_ | refine ifP_ff' ?_ | refine ifP_tf' ?_ | refine ifP_ft' ?_ | refine ifP_u' ?_ | refine optP_mk0 ?_))
          exact hno _ (by rw [u4]; rfl) (by omega)
        | true =>
          rw [u4, Bool.true_and] at hno hK
          (repeat (first | refine bindP_mk (by simp (disch := first | omega | exact Int.natCast_nonneg _ | assumption) only [BB, B2, ↓reduceIte, Nat.reduceLeDiff, Nat.reduceAdd, CC, g1, g2, hcg, lc] <;> rfl) ?_ | refine newP_mk ?_ | refine optP_mk ?_ | with_reducible first | refine condP_t ?_ | refine condP_f ?_ | refine ifP_tt' ?_ | refine ifP_ff' ?_ | refine ifP_tf' ?_ | refine ifP_ft' ?_ | refine ifP_u' ?_ | refine optP_mk0 ?_))
          refine auto_rises_c (by omega) h2 fun n3 hn3 => ?_
          cases u5 : rz (-1) C.length s.r with
          | false =>
            (repeat (first | refine bindP_mk (by simp (disch := first | omega | exact Int.natCast_nonneg _ | assumption) only [BB, B2, ↓reduceIte, Nat.reduceLeDiff, Nat.reduceAdd, CC] <;> rfl) ?_ | refine newP_mk ?_ | refine optP_mk ?_ | with_reducible first | refine condP_t ?_ | refine condP_f ?_ | refine ifP_tt' ?_ | refine ifP_ff' ?_ | refine ifP_tf' ?_ | refine ifP_ft' ?_ | refine ifP_u' ?_ | refine optP_mk0 ?_))
            exact hno _ (by rw [u5]; rfl) (by omega)
          | true =>
            rw [u5, Bool.true_and] at hno hK
            (repeat (first | refine bindP_mk (by simp (disch := first | omega | exact Int.natCast_nonneg _ | assumption) only [BB, B2, ↓reduceIte, Nat.reduceLeDiff, Nat.reduceAdd, CC, g2, l4] <;> rfl) ?_ | refine newP_mk ?_ | refine optP_mk ?_ | with_reducible first | refine condP_t ?_ | refine condP_f ?_ | refine ifP_tt' ?_ | refine ifP_ff' ?_ | refine ifP_tf' ?_ | refine ifP_ft' ?_ | refine ifP_u' ?_ | refine optP_mk0 ?_))
            generalize hB : rowsOk S s.r n s.rule s.next = B at hno hK
            refine loopP_rule (fun j e h' nx' => ∃ (k : Nat), k + j = s.next.length ∧ n3 ≤ nx' ∧ h' = p2 ∧ e 2 = ptr nx ∧ e 3 = ptr (nx + 1) ∧ e 45 = nv ∧ e 46 = .int .i64 s.next.length ∧ e 47 = .int .i64 k ∧ rowsOk S s.r n (s.rule.drop k) (s.next.drop k) = B) ?_ (n := s.next.length) ⟨0, by omega, by omega, rfl, rfl, rfl, rfl, rfl, rfl, hB⟩
            rintro j e h' nx' ⟨k, hj, hnx, rfl, e2, e3, e45, e46, e47, hr⟩ Q' hq hx
            unfold auto_checker_state_L1
            rw [e2, e3, e45, e46, e47]
            refine lss_s (fun hk => ?_) (fun hk => ?_)
            · have hk : k < s.next.length := by omega
              have hk2 : k < s.rule.length := by omega
              rw [drop_cons hk, drop_cons hk2, rowsOk_cons] at hr
              have nix := h4.ix .i64 hk
              obtain ⟨w, ⟨w', ow, orow, olen⟩, o1⟩ := h4.at1 hk
              simp only [List.cons.injEq, and_true] at ow
              subst ow
              have uix := h3.ix .i64 hk2
              have uld := h3.load hk2
              generalize s.next[k] = row at hr o1 orow olen
              generalize s.rule[k] = ru at hr uld
              have rl := orow.len
              have hfin : ∀ (e' : Env) n', e' 4 = .bool false → rowOk S s.r n ru row = false → nx ≤ n' → Q' .ret e' h' n' := fun e' n' h6 hc hn => by
                refine hx _ _ _ _ (fun e => by cases e) (exP_r ?_)
                rw [h6]
                refine ⟨h, hs, kb hK ?_ hn⟩
                rw [← hr, hc]; rfl
              have hok : ∀ (e' : Env) n', e' 2 = ptr nx → e' 3 = ptr (nx + 1) → e' 45 = nv → e' 46 = .int .i64 s.next.length → e' 47 = .int .i64 ((k : Int) + 1) → rowOk S s.r n ru row = true → n3 ≤ n' → Q' .normal e' h' n' := fun e' n' f2 f3 f45 f46 f47 hc hn =>
                hq (j - 1) _ _ _ _ (by omega) ⟨k + 1, by omega, hn, rfl, f2, f3, f45, f46, f47, by rw [← hr, hc]; rfl⟩ (Sub.refl _)
              unfold rowOk at hfin hok
              (repeat (first | refine bindP_mk (by simp (disch := first | omega | exact Int.natCast_nonneg _ | assumption) only [BB, B2, ↓reduceIte, Nat.reduceLeDiff, Nat.reduceAdd, CC, g2, nix, o1, uix, uld] <;> rfl) ?_ | refine newP_mk ?_ | refine optP_mk ?_ | with_reducible first | refine condP_t ?_ | refine condP_f ?_ | refine ifP_tt' ?_ | refine ifP_ff' ?_ | refine ifP_tf' ?_ | refine ifP_ft' ?_ | refine ifP_u' ?_ | refine optP_mk0 ?_))
              refine lss_s (fun v1 => ?_) (fun v1 => ?_)
              · (repeat (first | refine bindP_mk (by simp (disch := first | omega | exact Int.natCast_nonneg _ | assumption) only [BB, B2, ↓reduceIte, Nat.reduceLeDiff, Nat.reduceAdd, CC] <;> rfl) ?_ | refine newP_mk ?_ | refine optP_mk ?_ | with_reducible first | refine condP_t ?_ | refine condP_f ?_ | refine ifP_tt' ?_ | refine ifP_ff' ?_ | refine ifP_tf' ?_ | refine ifP_ft' ?_ | refine ifP_u' ?_ | refine optP_mk0 ?_))
                exact hfin _ _ rfl (by rw [decide_eq_false (by omega)]; rfl) (by omega)
              · rw [decide_eq_true v1, Bool.true_and] at hfin hok
                (repeat (first | refine bindP_mk (by simp (disch := first | omega | exact Int.natCast_nonneg _ | assumption) only [BB, B2, ↓reduceIte, Nat.reduceLeDiff, Nat.reduceAdd, CC, g2, uix, uld] <;> rfl) ?_ | refine newP_mk ?_ | refine optP_mk ?_ | with_reducible first | refine condP_t ?_ | refine condP_f ?_ | refine ifP_tt' ?_ | refine ifP_ff' ?_ | refine ifP_tf' ?_ | refine ifP_ft' ?_ | refine ifP_u' ?_ | refine optP_mk0 ?_))
                refine geq_s (fun v2 => ?_) (fun v2 => ?_)
                · (repeat (first | refine bindP_mk (by simp (disch := first | omega | exact Int.natCast_nonneg _ | assumption) only [BB, B2, ↓reduceIte, Nat.reduceLeDiff, Nat.reduceAdd, CC] <;> rfl) ?_ | refine newP_mk ?_ | refine optP_mk ?_ | with_reducible first | refine condP_t ?_ | refine condP_f ?_ | refine ifP_tt' ?_ | refine ifP_ff' ?_ | refine ifP_tf' ?_ | refine ifP_ft' ?_ | refine ifP_u' ?_ | refine optP_mk0 ?_))
                  exact hfin _ _ rfl (by rw [decide_eq_false (by omega)]; rfl) (by omega)
                · rw [decide_eq_true v2, Bool.true_and] at hfin hok
                  (repeat (first | refine bindP_mk (by simp (disch := first | omega | exact Int.natCast_nonneg _ | assumption) only [BB, B2, ↓reduceIte, Nat.reduceLeDiff, Nat.reduceAdd, CC, g1, rl, hmg] <;> rfl) ?_ | refine newP_mk ?_ | refine optP_mk ?_ | with_reducible first | refine condP_t ?_ | refine condP_f ?_ | refine ifP_tt' ?_ | refine ifP_ff' ?_ | refine ifP_tf' ?_ | refine ifP_ft' ?_ | refine ifP_u' ?_ | refine optP_mk0 ?_))
                  refine neq_s (fun v3 => ?_) (fun v3 => ?_)
                  · (repeat (first | refine bindP_mk (by simp (disch := first | omega | exact Int.natCast_nonneg _ | assumption) only [BB, B2, ↓reduceIte, Nat.reduceLeDiff, Nat.reduceAdd, CC] <;> rfl) ?_ | refine newP_mk ?_ | refine optP_mk ?_ | with_reducible first | refine condP_t ?_ | refine condP_f ?_ | refine ifP_tt' ?_ | refine ifP_ff' ?_ | refine ifP_tf' ?_ | refine ifP_ft' ?_ | refine ifP_u' ?_ | refine optP_mk0 ?_))
                    exact hfin _ _ rfl (by rw [decide_eq_false (by omega)]; rfl) (by omega)
                  · rw [decide_eq_true (by omega), Bool.true_and] at hfin hok
                    (repeat (first | refine bindP_mk (by simp (disch := first | omega | exact Int.natCast_nonneg _ | assumption) only [BB, B2, ↓reduceIte, Nat.reduceLeDiff, Nat.reduceAdd, CC] <;> rfl) ?_ | refine newP_mk ?_ | refine optP_mk ?_ | with_reducible first | refine condP_t ?_ | refine condP_f ?_ | refine ifP_tt' ?_ | refine ifP_ff' ?_ | refine ifP_tf' ?_ | refine ifP_ft' ?_ | refine ifP_u' ?_ | refine optP_mk0 ?_))
                    refine move_ContainsFunc_c (q := fun m => !moveOk S s.r m) (by omega) orow (fun i hi x n' K' hx hn' hk' => ?_) fun n' hn' => ?_
                    · obtain ⟨ov, rfl, y1, y2⟩ := hx
                      exact checker_state_1_c hc hSl (by omega) y2 (hf2.mono (by omega)) g1 g2 hS h2 y1 hk'
                    · rw [← all_not] at hfin hok
                      cases hany : row.any fun m => !moveOk S s.r m with
                      | true =>
                        rw [hany] at hfin
                        (repeat (first | refine bindP_mk (by simp (disch := first | omega | exact Int.natCast_nonneg _ | assumption) only [BB, B2, ↓reduceIte, Nat.reduceLeDiff, Nat.reduceAdd, CC] <;> rfl) ?_ | refine newP_mk ?_ | refine optP_mk ?_ | with_reducible first | refine condP_t ?_ | refine condP_f ?_ | refine ifP_tt' ?_ | refine ifP_ff' ?_ | refine ifP_tf' ?_ | refine ifP_ft' ?_ | refine ifP_u' ?_ | refine optP_mk0 ?_))
                        exact hfin _ _ rfl rfl (by omega)
                      | false =>
                        rw [hany] at hok
                        (repeat (first | refine bindP_mk (by simp (disch := first | omega | exact Int.natCast_nonneg _ | assumption) only [BB, B2, ↓reduceIte, Nat.reduceLeDiff, Nat.reduceAdd, CC] <;> rfl) ?_ | refine newP_mk ?_ | refine optP_mk ?_ | with_reducible first | refine condP_t ?_ | refine condP_f ?_ | refine ifP_tt' ?_ | refine ifP_ff' ?_ | refine ifP_tf' ?_ | refine ifP_ft' ?_ | refine ifP_u' ?_ | refine optP_mk0 ?_))
                        exact hok _ _ e2 e3 e45 e46 rfl rfl (by omega)
            · (repeat (first | refine bindP_mk (by simp (disch := first | omega | exact Int.natCast_nonneg _ | assumption) only [BB, B2, ↓reduceIte, Nat.reduceLeDiff, Nat.reduceAdd, CC] <;> rfl) ?_ | refine newP_mk ?_ | refine optP_mk ?_ | with_reducible first | refine condP_t ?_ | refine condP_f ?_ | refine ifP_tt' ?_ | refine ifP_ff' ?_ | refine ifP_tf' ?_ | refine ifP_ft' ?_ | refine ifP_u' ?_ | refine optP_mk0 ?_))
              refine hx _ _ _ _ (fun e => by cases e) (exP_e (beqP_t ?_))
              unfold auto_checker_state_j1
              rw [drop_all (l := s.next) (by omega), rowsOk_nil] at hr
              exact ⟨h, hs, kb hK hr.symm (by omega)⟩
theorem SlR.okC {D : Type} {ro : Ro} {h : T Obj} {v : Value} {z : Nat} {R : List Value → D → Prop} {l : List D} (hl : SlR ro h v z R l) : cellOk v = true := by obtain ⟨cs, h9, _⟩ := hl; exact h9.ok
def countOk (p : Int × Int) : Bool := decide (1 ≤ p.1) && (decide (p.1 ≤ p.2) && (decide (2 ≤ p.2) && decide (p.2 ≤ 4096)))
def firstOk (S : List StateD) : Bool := decide ((S.getD 0 noS).l.length = 0) && decide ((S.getD 0 noS).r.length = 0)
def autoOk (d : AutoD) : Bool := rightB d.c d.many && (decide (d.counts.length ≤ 512) && (decide (1 ≤ d.states.length) && (decide (d.states.length ≤ 256) && (firstOk d.states && (d.counts.all countOk && d.states.all (stateOk d.states d.many d.counts.length))))))
theorem right_many {c : List Nat} {n : Int} (h : rightB c n = true) : n ≤ 256 := by
  unfold rightB at h
  split at h
  · rename_i m hm
    have := rt_le hm
    simp only [decide_eq_true_eq] at h
    omega
  · cases h
theorem rz_many : ∀ {l : List Int} {a m : Int}, rz a m l = true → (l.length : Int) ≤ max 0 (m - a - 1)
  | [], a, m, _ => by simp only [List.length_nil]; omega
  | x :: r, a, m, h => by
    rw [rz_cons] at h
    simp only [Bool.and_eq_true, decide_eq_true_eq] at h
    have := rz_many h.2.2
    rw [List.length_cons]
    omega
theorem state_few {S : List StateD} {n : Int} {cn : Nat} {s : StateD} (h : stateOk S n cn s = true) : s.l.length ≤ 512 ∧ s.r.length ≤ 3 := by
  unfold stateOk at h
  simp only [Bool.and_eq_true, decide_eq_true_eq] at h
  have h1 := rz_many h.2.2.2.1
  have h2 := codes_few h.1
  omega
theorem wr_sum {a b : Nat} (h : wr .i64 ((a : Int) + b) ≤ 0) : a + b = 0 ∨ 9223372036854775807 < a + b := by
  rcases Nat.lt_or_ge 9223372036854775807 (a + b) with h1 | h1
  · exact .inr h1
  · rw [wr_i64 (by omega) (by omega)] at h
    exact .inl (by omega)
theorem wr_sum' {a b : Nat} (h : 0 < wr .i64 ((a : Int) + b)) : a ≠ 0 ∨ b ≠ 0 := by
  rcases Nat.eq_zero_or_pos (a + b) with h1 | h1
  · rw [show (a : Int) + b = 0 by omega] at h
    exact absurd h (by decide)
  · omega
theorem build_checker {c : List Nat} {n : Int} {cv sv : Value} (hc : c.length = 256) : buildV Tryz.prog y_auto_checker [(0, .agg (autL c n cv sv).toArray)] = some (.agg (autL c n cv sv).toArray) := by
  have h1 : ((zer Tryz.prog y_auto_checker).bind fun z => match z with
    | .agg a => if a.size = 259 then some true else none
    | _ => none) = some true := by kernel_rfl
  have h2 : ((und Tryz.prog y_auto_checker).bind fun d => match d with
    | .struct fs => placesV Tryz.prog fs.toList
    | _ => none) = some [(0, 259)] := by kernel_rfl
  obtain ⟨z, h1, h4⟩ := bind_some' h1
  cases z <;> try (cases h4; done)
  rename_i z
  simp only at h4
  split at h4
  · rename_i h5
    obtain ⟨d, h2, h3⟩ := bind_some' h2
    cases d <;> try (cases h3; done)
    rename_i fs
    simp only at h3
    unfold buildV
    rw [h1]
    simp only [Option.bind, h2, h3]
    have hl := autL_len (n := n) (cv := cv) (sv := sv) hc
    have hz : z.toList.length = 259 := by simpa using h5
    have e1 : Nat.beq (autL c n cv sv).toArray.size 259 = true := by simp [hl]
    have e2 : Nat.ble (0 + 259) z.toList.length = true := by rw [hz]; rfl
    simp only [fillV, List.getElem?_cons_zero, Option.bind, Value.cells_agg, e1, e2]
    rw [over_all (by rw [hz]; simpa using hl)]
  · cases h4
theorem zer_checker : ∃ z, zer Tryz.prog y_auto_checker = some z ∧ z.cells.size = 259 := by
  have h1 : ((zer Tryz.prog y_auto_checker).bind fun z => if z.cells.size = 259 then some true else none) = some true := by kernel_rfl
  obtain ⟨z, h1, h4⟩ := bind_some' h1
  split at h4
  · exact ⟨z, h1, by assumption⟩
  · cases h4
theorem zer_a2 : zer Tryz.prog y_a2_int = some (.agg #[.int .i64 0, .int .i64 0]) := by kernel_rfl
set_option maxRecDepth 8000 in
theorem auto_Right_1_c {ro : Ro} {c : List Nat} {n : Int} {cv sv lv rv uv nv : Value} {S : List StateD} {C : List (Int × Int)} {s : StateD} {i1 : Nat} (hc : c.length = 256) (hn : n ≤ 256) (hSl : S.length ≤ 256) (hC : C.length ≤ 512) (hsr : s.r.length ≤ maxB) {h : T Obj} {nx : Nat} {K : KV} (hf : Fr h nx)
    (g1 : h.get i1 = some (.cells (autL c n cv sv).toArray y_auto_checker)) (hcv : SlR ro h cv 2 RCount C) (hS : SlR ro h sv 4 (RState ro h) S) (h1 : ZI ro h lv s.l) (h2 : ZI ro h rv s.r) (h3 : ZI ro h uv s.rule) (h4 : SlR ro h nv 1 (RRow ro h) s.next)
    (hK : ∀ nx', nx ≤ nx' → K (.bool (!stateOk S n C.length s)) h nx') : callP Tryz.prog ro i_auto_Right_1 [.agg #[lv, rv, uv, nv], ptr i1] h nx K := by
  apply auto_Right_1_of
  unfold auto_Right_1
  refine param_mk hf (Nat.le_refl _) fun p1 hs1 hf1 g3 _ => ?_
  have g3 : p1.get nx = some (.cells #[lv, rv, uv, nv] y_api_State) := g3
  refine bindP_mk (loadA_all (hs1 _ _ g1) (autL_len hc)) ?_
  refine bindP_mk (loadA_all (l := [lv, rv, uv, nv]) g3 rfl) ?_
  refine checker_state_c hc hn hSl hC hsr (hf1.mono (by omega)) (hcv.sub hs1 fun _ _ h => h) (hS.sub hs1 (RState.sub hs1)) (h1.sub hs1) (h2.sub hs1) (h3.sub hs1) (h4.sub hs1 (RRow.sub hs1)) fun n hn => ?_
  (repeat (first | refine bindP_mk (by simp (disch := first | omega | exact Int.natCast_nonneg _ | assumption) only [BB, B2, ↓reduceIte, Nat.reduceLeDiff, Nat.reduceAdd, CC] <;> rfl) ?_ | refine newP_mk ?_ | refine optP_mk ?_ | with_reducible first | refine condP_t ?_ | refine condP_f ?_ | refine ifP_tt' ?_ | refine ifP_ff' ?_ | refine ifP_tf' ?_ | refine ifP_ft' ?_ | refine ifP_u' ?_ | refine optP_mk0 ?_))
  exact ⟨h, hs1, hK _ (by omega)⟩
set_option maxRecDepth 8000 in
set_option maxHeartbeats 2000000 in
theorem auto_Right_c {ro : Ro} {x : List Value} {d : AutoD} {h : T Obj} {nx : Nat} {K : KV} (hf : Fr h nx) (hd : RAuto ro h x d) (hK : ∀ nx', nx ≤ nx' → K (.bool (autoOk d)) h nx') : callP Tryz.prog ro i_auto_Right [.agg x.toArray] h nx K := by
  obtain ⟨cv, sv, rfl, hc, hcl, hcv, hS, hb1, hb2⟩ := hd
  obtain ⟨c, n, C, S⟩ := d
  simp only at hc hcl hcv hS hb1 hb2
  dsimp only
  apply auto_Right_of
  unfold auto_Right
  refine param_mk hf (Nat.le_refl _) fun p1 hs hf1 g1 _ => ?_
  have g1 : p1.get nx = some (.cells (autL c n cv sv).toArray y_api_Auto) := g1
  have hS := hS.sub hs (RState.sub hs)
  have hcv := hcv.sub hs fun _ _ h => h
  have hsg := autL_states (n := n) (cv := cv) (sv := sv) hc
  have hcg := autL_counts (n := n) (cv := cv) (sv := sv) hc
  have lc := hcv.len
  have ls := hS.len
  have hno : ∀ n', autoOk ⟨c, n, C, S⟩ = false → nx ≤ n' → ∃ h', Sub h' p1 ∧ K (.bool false) h' n' := fun n' e hn => ⟨h, hs, kb hK e hn⟩
  unfold autoOk at hno hK
  dsimp only at hno hK
  (repeat (first | refine bindP_mk (by simp (disch := first | omega | exact Int.natCast_nonneg _ | assumption) only [BB, B2, ↓reduceIte, Nat.reduceLeDiff, Nat.reduceAdd, CC] <;> rfl) ?_ | refine newP_mk ?_ | refine optP_mk ?_ | with_reducible first | refine condP_t ?_ | refine condP_f ?_ | refine ifP_tt' ?_ | refine ifP_ff' ?_ | refine ifP_tf' ?_ | refine ifP_ft' ?_ | refine ifP_u' ?_ | refine optP_mk0 ?_))
  refine bindP_mk (loadS g1 hc) ?_
  refine split_Right_c hc hcl (hf1.mono (by omega)) fun n1 hn1 => ?_
  cases hr : rightB c n with
  | false =>
    (repeat (first | refine bindP_mk (by simp (disch := first | omega | exact Int.natCast_nonneg _ | assumption) only [BB, B2, ↓reduceIte, Nat.reduceLeDiff, Nat.reduceAdd, CC] <;> rfl) ?_ | refine newP_mk ?_ | refine optP_mk ?_ | with_reducible first | refine condP_t ?_ | refine condP_f ?_ | refine ifP_tt' ?_ | refine ifP_ff' ?_ | refine ifP_tf' ?_ | refine ifP_ft' ?_ | refine ifP_u' ?_ | refine optP_mk0 ?_))
    exact hno _ (by rw [hr]; rfl) (by omega)
  | true =>
    have hn := right_many hr
    rw [hr, Bool.true_and] at hno hK
    (repeat (first | refine bindP_mk (by simp (disch := first | omega | exact Int.natCast_nonneg _ | assumption) only [BB, B2, ↓reduceIte, Nat.reduceLeDiff, Nat.reduceAdd, CC, g1, hcg, lc] <;> rfl) ?_ | refine newP_mk ?_ | refine optP_mk ?_ | with_reducible first | refine condP_t ?_ | refine condP_f ?_ | refine ifP_tt' ?_ | refine ifP_ff' ?_ | refine ifP_tf' ?_ | refine ifP_ft' ?_ | refine ifP_u' ?_ | refine optP_mk0 ?_))
    refine gtr_s (fun u1 => ?_) (fun u1 => ?_)
    · (repeat (first | refine bindP_mk (by simp (disch := first | omega | exact Int.natCast_nonneg _ | assumption) only [BB, B2, ↓reduceIte, Nat.reduceLeDiff, Nat.reduceAdd, CC] <;> rfl) ?_ | refine newP_mk ?_ | refine optP_mk ?_ | with_reducible first | refine condP_t ?_ | refine condP_f ?_ | refine ifP_tt' ?_ | refine ifP_ff' ?_ | refine ifP_tf' ?_ | refine ifP_ft' ?_ | refine ifP_u' ?_ | refine optP_mk0 ?_))
      exact hno _ (by rw [decide_eq_false (by omega)]; rfl) (by omega)
    · have u1 : C.length ≤ 512 := by omega
      rw [decide_eq_true u1, Bool.true_and] at hno hK
      (repeat (first | refine bindP_mk (by simp (disch := first | omega | exact Int.natCast_nonneg _ | assumption) only [BB, B2, ↓reduceIte, Nat.reduceLeDiff, Nat.reduceAdd, CC, g1, hsg, ls] <;> rfl) ?_ | refine newP_mk ?_ | refine optP_mk ?_ | with_reducible first | refine condP_t ?_ | refine condP_f ?_ | refine ifP_tt' ?_ | refine ifP_ff' ?_ | refine ifP_tf' ?_ | refine ifP_ft' ?_ | refine ifP_u' ?_ | refine optP_mk0 ?_))
      refine lss_s (fun u2 => ?_) (fun u2 => ?_)
      · (repeat (first | refine bindP_mk (by simp (disch := first | omega | exact Int.natCast_nonneg _ | assumption) only [BB, B2, ↓reduceIte, Nat.reduceLeDiff, Nat.reduceAdd, CC] <;> rfl) ?_ | refine newP_mk ?_ | refine optP_mk ?_ | with_reducible first | refine condP_t ?_ | refine condP_f ?_ | refine ifP_tt' ?_ | refine ifP_ff' ?_ | refine ifP_tf' ?_ | refine ifP_ft' ?_ | refine ifP_u' ?_ | refine optP_mk0 ?_))
        exact hno _ (by rw [decide_eq_false (by omega)]; rfl) (by omega)
      · have u2 : 1 ≤ S.length := by omega
        rw [decide_eq_true u2, Bool.true_and] at hno hK
        (repeat (first | refine bindP_mk (by simp (disch := first | omega | exact Int.natCast_nonneg _ | assumption) only [BB, B2, ↓reduceIte, Nat.reduceLeDiff, Nat.reduceAdd, CC, g1, hsg, ls] <;> rfl) ?_ | refine newP_mk ?_ | refine optP_mk ?_ | with_reducible first | refine condP_t ?_ | refine condP_f ?_ | refine ifP_tt' ?_ | refine ifP_ff' ?_ | refine ifP_tf' ?_ | refine ifP_ft' ?_ | refine ifP_u' ?_ | refine optP_mk0 ?_))
        refine gtr_s (fun u3 => ?_) (fun u3 => ?_)
        · (repeat (first | refine bindP_mk (by simp (disch := first | omega | exact Int.natCast_nonneg _ | assumption) only [BB, B2, ↓reduceIte, Nat.reduceLeDiff, Nat.reduceAdd, CC] <;> rfl) ?_ | refine newP_mk ?_ | refine optP_mk ?_ | with_reducible first | refine condP_t ?_ | refine condP_f ?_ | refine ifP_tt' ?_ | refine ifP_ff' ?_ | refine ifP_tf' ?_ | refine ifP_ft' ?_ | refine ifP_u' ?_ | refine optP_mk0 ?_))
          exact hno _ (by rw [decide_eq_false (by omega)]; rfl) (by omega)
        · have u3 : S.length ≤ 256 := by omega
          rw [decide_eq_true u3, Bool.true_and] at hno hK
          have h0 : 0 < S.length := by omega
          have six : ixSl 4 sv (.int .i64 0) = some (elPtr 4 sv 0) := hS.ix .i64 (i := 0) h0
          obtain ⟨x, ⟨lv, rv, uv, nv, rfl, y1, y2, y3, y4, y5⟩, hx2, hx3, hx4, hx5⟩ := hS.at h0
          have q0 := hx5 0 lv rfl
          have q1 := hx5 1 rv rfl
          have ll := y1.len
          have lr := y2.len
          have hgd : S.getD 0 noS = S[0] := by rw [List.getD_eq_getElem?_getD, List.getElem?_eq_getElem h0]; rfl
          have hfst : firstOk S = (decide (S[0].l.length = 0) && decide (S[0].r.length = 0)) := by unfold firstOk; rw [hgd]
          have hall : S.all (stateOk S n C.length) = true → S[0].l.length ≤ 512 ∧ S[0].r.length ≤ 3 := fun h => state_few (List.all_eq_true.1 h _ (List.getElem_mem h0))
          (repeat (first | refine bindP_mk (by simp (disch := first | omega | exact Int.natCast_nonneg _ | assumption) only [BB, B2, ↓reduceIte, Nat.reduceLeDiff, Nat.reduceAdd, CC, g1, hsg, six, hx4, q0, q1, ll, lr] <;> rfl) ?_ | refine newP_mk ?_ | refine optP_mk ?_ | with_reducible first | refine condP_t ?_ | refine condP_f ?_ | refine ifP_tt' ?_ | refine ifP_ff' ?_ | refine ifP_tf' ?_ | refine ifP_ft' ?_ | refine ifP_u' ?_ | refine optP_mk0 ?_))
          first
          | refine bindP_mk (intB_add _ _ _) ?_
          | skip
          (repeat (first | refine bindP_mk (by simp (disch := first | omega | exact Int.natCast_nonneg _ | assumption) only [BB, B2, ↓reduceIte, Nat.reduceLeDiff, Nat.reduceAdd, CC] <;> rfl) ?_ | refine newP_mk ?_ | refine optP_mk ?_ | with_reducible first | refine condP_t ?_ | refine condP_f ?_ | refine ifP_tt' ?_ | refine ifP_ff' ?_ | refine ifP_tf' ?_ | refine ifP_ft' ?_ | refine ifP_u' ?_ | refine optP_mk0 ?_))
          -- behind the head: the bounds of the counts, the states
          have hrest : (S[0].l.length = 0 ∧ S[0].r.length = 0 ∨ 9223372036854775807 < S[0].l.length + S[0].r.length) → ∀ (e' : Env) n', e' 1 = ptr nx → e' 2 = .bool false → e' 45 = cv → e' 46 = .int .i64 C.length → e' 47 = .int .i64 0 → nx + 1 ≤ n' →
              loopP (auto_Right_L1 ro) e' p1 n' fun x229 e226 h227 n228 => exP x229 (auto_Right_j1 ro K e226 h227 n228) (fun i230 => beqP (Nat.beq i230 0) (auto_Right_j1 ro K e226 h227 n228) (False)) (∃ h231, Sub h231 h227 ∧ K (e226 2) h231 n228) := by
            intro hlen e' n' f1 f2 f45 f46 f47 hn'
            generalize hB : C.all countOk = B at hno hK
            refine loopP_rule (fun j e h' nx' => ∃ (k : Nat), k + j = C.length ∧ nx + 1 ≤ nx' ∧ h' = p1 ∧ e 1 = ptr nx ∧ e 2 = .bool false ∧ e 45 = cv ∧ e 46 = .int .i64 C.length ∧ e 47 = .int .i64 k ∧ (C.drop k).all countOk = B) ?_ (n := C.length) ⟨0, by omega, hn', rfl, f1, f2, f45, f46, f47, hB⟩
            rintro j e h' nx' ⟨k, hj, hnx, rfl, e1, e2, e45, e46, e47, hr2⟩ Q' hq hx
            unfold auto_Right_L1
            rw [e45, e46, e47]
            refine lss_s (fun hk => ?_) (fun hk => ?_)
            · have hk : k < C.length := by omega
              rw [drop_cons hk, List.all_cons] at hr2
              have cix := hcv.ix .i64 hk
              obtain ⟨x, hx1, hx2, hx3, hx4, hx5⟩ := hcv.at hk
              generalize C[k] = p at hr2 hx1
              obtain rfl : x = [.int .i64 p.1, .int .i64 p.2] := hx1
              (repeat (first | refine bindP_mk (by simp (disch := first | omega | exact Int.natCast_nonneg _ | assumption) only [BB, B2, ↓reduceIte, Nat.reduceLeDiff, Nat.reduceAdd, CC, cix, hx3] <;> rfl) ?_ | refine newP_mk ?_ | refine optP_mk ?_ | with_reducible first | refine condP_t ?_ | refine condP_f ?_ | refine ifP_tt' ?_ | refine ifP_ff' ?_ | refine ifP_tf' ?_ | refine ifP_ft' ?_ | refine ifP_u' ?_ | refine optP_mk0 ?_))
              refine local_mk (x := [.int .i64 p.1, .int .i64 p.2]) zer_a2 rfl rfl rfl rfl hf1 (by omega) fun h6 hs6 hf6 g6 _ => ?_
              have hfin : ∀ (e' : Env) n', e' 2 = .bool false → countOk p = false → nx ≤ n' → Q' .ret e' h6 n' := fun e' n' h6 hc hn => by
                refine hx _ _ _ _ (fun e => by cases e) (exP_r ?_)
                rw [h6]
                rw [hc, Bool.false_and] at hr2
                subst hr2
                obtain ⟨h9, z1, z2⟩ := hno n' (by simp) hn
                exact ⟨h9, z1.trans hs6, z2⟩
              have hok : ∀ (e' : Env) n', e' 1 = ptr nx → e' 2 = .bool false → e' 45 = cv → e' 46 = .int .i64 C.length → e' 47 = .int .i64 ((k : Int) + 1) → countOk p = true → nx + 1 ≤ n' → Q' .normal e' h6 n' := fun e' n' f1 f2 f45 f46 f47 hc hn =>
                hq (j - 1) _ h' _ _ (by omega) ⟨k + 1, by omega, hn, rfl, f1, f2, f45, f46, f47, by rw [← hr2, hc]; rfl⟩ hs6
              unfold countOk at hfin hok
              (repeat (first | refine bindP_mk (by simp (disch := first | omega | exact Int.natCast_nonneg _ | assumption) only [BB, B2, ↓reduceIte, Nat.reduceLeDiff, Nat.reduceAdd, CC, g6] <;> rfl) ?_ | refine newP_mk ?_ | refine optP_mk ?_ | with_reducible first | refine condP_t ?_ | refine condP_f ?_ | refine ifP_tt' ?_ | refine ifP_ff' ?_ | refine ifP_tf' ?_ | refine ifP_ft' ?_ | refine ifP_u' ?_ | refine optP_mk0 ?_))
              refine lss_s (fun v1 => ?_) (fun v1 => ?_)
              · (repeat (first | refine bindP_mk (by simp (disch := first | omega | exact Int.natCast_nonneg _ | assumption) only [BB, B2, ↓reduceIte, Nat.reduceLeDiff, Nat.reduceAdd, CC] <;> rfl) ?_ | refine newP_mk ?_ | refine optP_mk ?_ | with_reducible first | refine condP_t ?_ | refine condP_f ?_ | refine ifP_tt' ?_ | refine ifP_ff' ?_ | refine ifP_tf' ?_ | refine ifP_ft' ?_ | refine ifP_u' ?_ | refine optP_mk0 ?_))
                exact hfin _ _ rfl (by rw [decide_eq_false (by omega)]; rfl) (by omega)
              · rw [decide_eq_true v1, Bool.true_and] at hfin hok
                (repeat (first | refine bindP_mk (by simp (disch := first | omega | exact Int.natCast_nonneg _ | assumption) only [BB, B2, ↓reduceIte, Nat.reduceLeDiff, Nat.reduceAdd, CC, g6] <;> rfl) ?_ | refine newP_mk ?_ | refine optP_mk ?_ | with_reducible first | refine condP_t ?_ | refine condP_f ?_ | refine ifP_tt' ?_ | refine ifP_ff' ?_ | refine ifP_tf' ?_ | refine ifP_ft' ?_ | refine ifP_u' ?_ | refine optP_mk0 ?_))
                refine gtr_s (fun v2 => ?_) (fun v2 => ?_)
                · (repeat (first | refine bindP_mk (by simp (disch := first | omega | exact Int.natCast_nonneg _ | assumption) only [BB, B2, ↓reduceIte, Nat.reduceLeDiff, Nat.reduceAdd, CC] <;> rfl) ?_ | refine newP_mk ?_ | refine optP_mk ?_ | with_reducible first | refine condP_t ?_ | refine condP_f ?_ | refine ifP_tt' ?_ | refine ifP_ff' ?_ | refine ifP_tf' ?_ | refine ifP_ft' ?_ | refine ifP_u' ?_ | refine optP_mk0 ?_))
                  exact hfin _ _ rfl (by rw [decide_eq_false (by omega)]; rfl) (by omega)
                · rw [decide_eq_true v2, Bool.true_and] at hfin hok
                  (repeat (first | refine bindP_mk (by simp (disch := first | omega | exact Int.natCast_nonneg _ | assumption) only [BB, B2, ↓reduceIte, Nat.reduceLeDiff, Nat.reduceAdd, CC, g6] <;> rfl) ?_ | refine newP_mk ?_ | refine optP_mk ?_ | with_reducible first | refine condP_t ?_ | refine condP_f ?_ | refine ifP_tt' ?_ | refine ifP_ff' ?_ | refine ifP_tf' ?_ | refine ifP_ft' ?_ | refine ifP_u' ?_ | refine optP_mk0 ?_))
                  refine lss_s (fun v3 => ?_) (fun v3 => ?_)
                  · (repeat (first | refine bindP_mk (by simp (disch := first | omega | exact Int.natCast_nonneg _ | assumption) only [BB, B2, ↓reduceIte, Nat.reduceLeDiff, Nat.reduceAdd, CC] <;> rfl) ?_ | refine newP_mk ?_ | refine optP_mk ?_ | with_reducible first | refine condP_t ?_ | refine condP_f ?_ | refine ifP_tt' ?_ | refine ifP_ff' ?_ | refine ifP_tf' ?_ | refine ifP_ft' ?_ | refine ifP_u' ?_ | refine optP_mk0 ?_))
                    exact hfin _ _ rfl (by rw [decide_eq_false (by omega)]; rfl) (by omega)
                  · rw [decide_eq_true v3, Bool.true_and] at hfin hok
                    (repeat (first | refine bindP_mk (by simp (disch := first | omega | exact Int.natCast_nonneg _ | assumption) only [BB, B2, ↓reduceIte, Nat.reduceLeDiff, Nat.reduceAdd, CC, g6] <;> rfl) ?_ | refine newP_mk ?_ | refine optP_mk ?_ | with_reducible first | refine condP_t ?_ | refine condP_f ?_ | refine ifP_tt' ?_ | refine ifP_ff' ?_ | refine ifP_tf' ?_ | refine ifP_ft' ?_ | refine ifP_u' ?_ | refine optP_mk0 ?_))
                    refine gtr_s (fun v4 => ?_) (fun v4 => ?_)
                    · (repeat (first | refine bindP_mk (by simp (disch := first | omega | exact Int.natCast_nonneg _ | assumption) only [BB, B2, ↓reduceIte, Nat.reduceLeDiff, Nat.reduceAdd, CC] <;> rfl) ?_ | refine newP_mk ?_ | refine optP_mk ?_ | with_reducible first | refine condP_t ?_ | refine condP_f ?_ | refine ifP_tt' ?_ | refine ifP_ff' ?_ | refine ifP_tf' ?_ | refine ifP_ft' ?_ | refine ifP_u' ?_ | refine optP_mk0 ?_))
                      exact hfin _ _ rfl (by rw [decide_eq_false (by omega)]) (by omega)
                    · rw [decide_eq_true v4] at hok
                      (repeat (first | refine bindP_mk (by simp (disch := first | omega | exact Int.natCast_nonneg _ | assumption) only [BB, B2, ↓reduceIte, Nat.reduceLeDiff, Nat.reduceAdd, CC] <;> rfl) ?_ | refine newP_mk ?_ | refine optP_mk ?_ | with_reducible first | refine condP_t ?_ | refine condP_f ?_ | refine ifP_tt' ?_ | refine ifP_ff' ?_ | refine ifP_tf' ?_ | refine ifP_ft' ?_ | refine ifP_u' ?_ | refine optP_mk0 ?_))
                      exact hok _ _ e1 e2 e45 e46 rfl rfl (by omega)
            · rw [drop_all (by omega)] at hr2
              have hr2 : true = B := hr2
              subst hr2
              rw [Bool.true_and] at hno hK
              (repeat (first | refine bindP_mk (by simp (disch := first | omega | exact Int.natCast_nonneg _ | assumption) only [BB, B2, ↓reduceIte, Nat.reduceLeDiff, Nat.reduceAdd, CC] <;> rfl) ?_ | refine newP_mk ?_ | refine optP_mk ?_ | with_reducible first | refine condP_t ?_ | refine condP_f ?_ | refine ifP_tt' ?_ | refine ifP_ff' ?_ | refine ifP_tf' ?_ | refine ifP_ft' ?_ | refine ifP_u' ?_ | refine optP_mk0 ?_))
              refine hx _ _ _ _ (fun e => by cases e) (exP_e (beqP_t ?_))
              have hend : ∀ (e' : Env) n', e' 1 = ptr nx → nx + 1 ≤ n' → auto_Right_j1 ro K e' h' n' := by
                intro e' n' z1 hn'
                unfold auto_Right_j1
                rw [z1]
                refine bindP_mk (loadA_all g1 (autL_len hc)) ?_
                refine bindP_mk (build_checker hc) ?_
                obtain ⟨z, hz, hzs⟩ := zer_checker
                refine local_mk (x := autL c n cv sv) hz hzs rfl (autL_len hc) (autL_ok (SlR.okC hcv) (SlR.okC hS)) hf1 (by omega) fun h6 hs6 hf6 g6 _ => ?_
                have g16 := hs6 _ _ g1
                (repeat (first | refine bindP_mk (by simp (disch := first | omega | exact Int.natCast_nonneg _ | assumption) only [BB, B2, ↓reduceIte, Nat.reduceLeDiff, Nat.reduceAdd, CC, g16, hsg] <;> rfl) ?_ | refine newP_mk ?_ | refine optP_mk ?_ | with_reducible first | refine condP_t ?_ | refine condP_f ?_ | refine ifP_tt' ?_ | refine ifP_ff' ?_ | refine ifP_tf' ?_ | refine ifP_ft' ?_ | refine ifP_u' ?_ | refine optP_mk0 ?_))
                refine state_ContainsFunc_c (q := fun s => !stateOk S n C.length s) (by omega) (hS.sub hs6 (RState.sub hs6)) (fun i hi x n' K' hx hn' hk' => ?_) fun n' hn' => ?_
                · obtain ⟨lv, rv, uv, nv, rfl, w1, w2, w3, w4, w5⟩ := hx
                  exact auto_Right_1_c hc hn u3 u1 w5 (hf6.mono (by omega)) g6 (hcv.sub hs6 fun _ _ h => h) (hS.sub hs6 (RState.sub hs6)) w1 w2 w3 w4 hk'
                · (repeat (first | refine bindP_mk (by simp (disch := first | omega | exact Int.natCast_nonneg _ | assumption) only [BB, B2, ↓reduceIte, Nat.reduceLeDiff, Nat.reduceAdd, CC] <;> rfl) ?_ | refine newP_mk ?_ | refine optP_mk ?_ | with_reducible first | refine condP_t ?_ | refine condP_f ?_ | refine ifP_tt' ?_ | refine ifP_ff' ?_ | refine ifP_tf' ?_ | refine ifP_ft' ?_ | refine ifP_u' ?_ | refine optP_mk0 ?_))
                  refine ⟨h, hs.trans hs6, kb hK ?_ (by omega)⟩
                  rw [all_not]
                  rcases hlen with hlen | hlen
                  · rw [hfst, decide_eq_true hlen.1, decide_eq_true hlen.2]; rfl
                  · cases ha : S.all (stateOk S n C.length) with
                    | false => simp
                    | true => have := hall ha; omega
              exact hend _ _ e1 (by omega)
          refine gtr_s (fun u4 => ?_) (fun u4 => ?_)
          · (repeat (first | refine bindP_mk (by simp (disch := first | omega | exact Int.natCast_nonneg _ | assumption) only [BB, B2, ↓reduceIte, Nat.reduceLeDiff, Nat.reduceAdd, CC] <;> rfl) ?_ | refine newP_mk ?_ | refine optP_mk ?_ | with_reducible first | refine condP_t ?_ | refine condP_f ?_ | refine ifP_tt' ?_ | refine ifP_ff' ?_ | refine ifP_tf' ?_ | refine ifP_ft' ?_ | refine ifP_u' ?_ | refine optP_mk0 ?_))
            have := wr_sum' u4
            refine hno _ ?_ (by omega)
            rw [hfst]
            rcases this with h | h
            · rw [decide_eq_false h]; simp
            · rw [decide_eq_false h]; simp
          · (repeat (first | refine bindP_mk (by simp (disch := first | omega | exact Int.natCast_nonneg _ | assumption) only [BB, B2, ↓reduceIte, Nat.reduceLeDiff, Nat.reduceAdd, CC, g1, hcg, lc] <;> rfl) ?_ | refine newP_mk ?_ | refine optP_mk ?_ | with_reducible first | refine condP_t ?_ | refine condP_f ?_ | refine ifP_tt' ?_ | refine ifP_ff' ?_ | refine ifP_tf' ?_ | refine ifP_ft' ?_ | refine ifP_u' ?_ | refine optP_mk0 ?_))
            exact hrest (by rcases wr_sum u4 with h | h <;> omega) _ _ rfl rfl rfl rfl rfl (by omega)
end V
end Go.Proofs.YtjndkdmkecpllaaGreat
set_option linter.unusedVariables false
set_option linter.unusedSimpArgs false
namespace Go.Proofs.YtjndkdmkecpllaaGreat
namespace V
theorem word_or (m b i : Nat) : word (m ||| 2 ^ b) i = if i = b / 64 then word m i ||| 2 ^ (b % 64) else word m i := by
  apply Nat.eq_of_testBit_eq
  intro j
  rw [testBit_word, Nat.testBit_or, Nat.testBit_two_pow]
  by_cases h : i = b / 64
  · rw [if_pos h, Nat.testBit_or, testBit_word, Nat.testBit_two_pow]
    subst h
    by_cases hj : j < 64
    · have : (b = 64 * (b / 64) + j) ↔ (b % 64 = j) := by omega
      simp [hj, this]
    · have : ¬ (b % 64 = j) := by have := Nat.mod_lt b (show 64 > 0 by decide); omega
      simp [hj, this]
  · rw [if_neg h, testBit_word]
    by_cases hj : j < 64
    · have : ¬ (b = 64 * i + j) := by omega
      simp [hj, this]
    · simp [hj]
theorem pow_mul_or (k a b : Nat) : 2 ^ k * (a ||| b) = 2 ^ k * a ||| 2 ^ k * b := by
  apply Nat.eq_of_testBit_eq
  intro j
  simp only [Nat.testBit_or, Nat.testBit_two_pow_mul]
  cases decide (j ≥ k) <;> simp
theorem even_or_one {a : Nat} (h : a % 2 = 0) : a ||| 1 = a + 1 := by
  have h2 : a = 2 ^ 1 * (a / 2) := by omega
  have := Nat.two_pow_add_eq_or_of_lt (show 1 < 2 ^ 1 by decide) (a / 2)
  rw [← h2] at this; exact this.symm
theorem add_pow {x k : Nat} (h : x.testBit k = false) : x + 2 ^ k = x ||| 2 ^ k := by
  have hr : x % 2 ^ k < 2 ^ k := Nat.mod_lt _ (Nat.two_pow_pos k)
  have ha : (x / 2 ^ k) % 2 = 0 := by
    rw [Nat.testBit_eq_decide_div_mod_eq] at h
    have : ¬ (x / 2 ^ k % 2 = 1) := by simpa using h
    omega
  have e1 := Nat.two_pow_add_eq_or_of_lt hr (x / 2 ^ k)
  have e2 := Nat.two_pow_add_eq_or_of_lt hr (x / 2 ^ k + 1)
  have e0 : 2 ^ k * (x / 2 ^ k) + x % 2 ^ k = x := Nat.div_add_mod _ _
  have e3 : x + 2 ^ k = 2 ^ k * (x / 2 ^ k + 1) + x % 2 ^ k := by rw [Nat.mul_add, Nat.mul_one]; omega
  have e4 : 2 ^ k * (x / 2 ^ k + 1) = 2 ^ k * (x / 2 ^ k) ||| 2 ^ k := by
    rw [← even_or_one ha, pow_mul_or, Nat.mul_one]
  have hx : x ||| 2 ^ k = (2 ^ k * (x / 2 ^ k) ||| x % 2 ^ k) ||| 2 ^ k := by rw [← e1, e0]
  rw [e3, e2, e4, hx, Nat.or_assoc, Nat.or_comm (2 ^ k) (x % 2 ^ k), ← Nat.or_assoc]
theorem or_pow_self {x k : Nat} (h : x.testBit k = true) : x ||| 2 ^ k = x := by
  apply Nat.eq_of_testBit_eq
  intro j
  rw [Nat.testBit_or, Nat.testBit_two_pow]
  by_cases e : k = j
  · subst e; simp [h]
  · simp [e]
theorem zer_Set : zer Tryz.prog y_api_Set = some (setV 0) := by kernel_rfl
set_option maxRecDepth 20000
theorem setL_len (m : Nat) : (setL m).length = 4 := rfl
theorem setL_ok (m : Nat) : (setL m).all cellOk = true := rfl
theorem setL_dt (m : Nat) : List.take 4 (List.drop 0 (setL m)) = setL m := rfl
theorem zer_Set_mk {K : Value → Prop} (k : K (setV 0)) : bindP (zer Tryz.prog y_api_Set) K := by rw [zer_Set]; exact k
theorem over_set (m n : Nat) : over (setL m) 0 (setL n) = setL n := rfl
theorem setV_size (m : Nat) : (setV m).cells.size = 4 := rfl
theorem setV_def (m : Nat) : Value.agg (setL m).toArray = setV m := rfl
theorem setL_set {m b : Nat} (hb : b < 256) : (setL m).set (b / 64) (.int .u64 ((word m (b / 64) ||| 2 ^ (b % 64) : Nat) : Int)) = setL (m ||| 2 ^ b) := by
  have h0 := word_or m b 0
  have h1 := word_or m b 1
  have h2 := word_or m b 2
  have h3 := word_or m b 3
  have hq : b / 64 = 0 ∨ b / 64 = 1 ∨ b / 64 = 2 ∨ b / 64 = 3 := by omega
  unfold setL
  rcases hq with hq | hq | hq | hq <;> rw [hq] at h0 h1 h2 h3 ⊢ <;> simp at h0 h1 h2 h3 <;> simp [h0, h1, h2, h3]
theorem ref01_with_end {ro : Ro} {m w : Nat} {e : Env} {h h0 : T Obj} {id nx nx0 : Nat} {K : KV} (h2 : e 2 = at_ id 0 0) (h4 : e 4 = at_ (id + 1) 0 0) (g1 : h.get id = some (.cells (setL m).toArray y_api_Set)) (g2 : h.get (id + 1) = some (.cells (setL w).toArray y_api_Set))
    (hf : Fr h0 nx0) (hs : Sub h0 h) (hid : nx0 ≤ id) (hK : K (setV m) h0 (nx + 2)) : ref01_with_j1 ro K e h nx := by
  unfold ref01_with_j1
  (repeat (first | refine bindP_mk (by simp (disch := first | omega | exact Int.natCast_nonneg _ | assumption) only [BB, B2, ↓reduceIte, Nat.reduceLeDiff, Nat.reduceAdd, intB_eql, intB_neq, intB_lss, intB_leq, intB_gtr, intB_geq, setV_cells, setL_len, setL_dt, setV_def, h2, h4, g1, g2, setV_size, setL_ok, over_set] <;> rfl) ?_ | refine newP_mk ?_ | refine optP_mk ?_ | with_reducible first | refine condP_t ?_ | refine condP_f ?_ | refine ifP_tt' ?_ | refine ifP_ff' ?_ | refine ifP_tf' ?_ | refine ifP_ft' ?_ | refine ifP_u' ?_ | refine optP_mk0 ?_))
  exact ⟨h0, hs.new hf (by omega), hK⟩
section
theorem ref01_with_c {ro : Ro} {m b : Nat} (hb : b < 256) {h : T Obj} {nx : Nat} {K : KV} (hf : Fr h nx) (hK : ∀ nx', nx ≤ nx' → K (setV (m ||| 2 ^ b)) h nx') : callP Tryz.prog ro i_ref01_with [setV m, .int .u8 b] h nx K := by
  apply ref01_with_of
  unfold ref01_with
  refine newP_mk (zer_Set_mk ?_)
  (repeat (first | refine bindP_mk (by simp (disch := first | omega | exact Int.natCast_nonneg _ | assumption) only [BB, B2, ↓reduceIte, Nat.reduceLeDiff, Nat.reduceAdd, intB_eql, intB_neq, intB_lss, intB_leq, intB_gtr, intB_geq, setV_cells, setL_len, setL_dt, setV_def] <;> rfl) ?_ | refine newP_mk ?_ | refine optP_mk ?_ | with_reducible first | refine condP_t ?_ | refine condP_f ?_ | refine ifP_tt' ?_ | refine ifP_ff' ?_ | refine ifP_tf' ?_ | refine ifP_ft' ?_ | refine ifP_u' ?_ | refine optP_mk0 ?_))
  refine ref01_Has_c hb ((hf.mono (Nat.le_add_right nx 5)).upd (n := nx + 5) (Nat.le_refl _) (by omega) |>.upd (Nat.le_refl _) (by omega)) fun n hn => ?_
  (repeat (first | refine bindP_mk (by simp (disch := first | omega | exact Int.natCast_nonneg _ | assumption) only [BB, B2, ↓reduceIte, Nat.reduceLeDiff, Nat.reduceAdd, intB_eql, intB_neq, intB_lss, intB_leq, intB_gtr, intB_geq] <;> rfl) ?_ | refine newP_mk ?_ | refine optP_mk ?_ | with_reducible first | refine condP_t ?_ | refine condP_f ?_ | refine ifP_tt' ?_ | refine ifP_ff' ?_ | refine ifP_tf' ?_ | refine ifP_ft' ?_ | refine ifP_u' ?_ | refine optP_mk0 ?_))
  have h1 : ((b:Int) / 64).toNat = b / 64 := by omega
  have h2 : ((b:Int) % 64).toNat = b % 64 := by omega
  have h3 := word_lt m (b / 64)
  have h4 : b / 64 < 4 := by omega
  have h5 := setL_get (m := m) h4
  cases hm : m.testBit b with
  | true =>
    simp only [Bool.not_true]
    (repeat (first | refine bindP_mk (by simp (disch := first | omega | exact Int.natCast_nonneg _ | assumption) only [BB, B2, ↓reduceIte, Nat.reduceLeDiff, Nat.reduceAdd, intB_eql, intB_neq, intB_lss, intB_leq, intB_gtr, intB_geq] <;> rfl) ?_ | refine newP_mk ?_ | refine optP_mk ?_ | with_reducible first | refine condP_t ?_ | refine condP_f ?_ | refine ifP_tt' ?_ | refine ifP_ff' ?_ | refine ifP_tf' ?_ | refine ifP_ft' ?_ | refine ifP_u' ?_ | refine optP_mk0 ?_))
    refine ref01_with_end (m := m) (w := 0) (id := nx) rfl rfl ?_ ?_ hf ?_ (Nat.le_refl _) ?_
    · simp (disch := first | omega | exact Int.natCast_nonneg _ | assumption) only [BB, B2, ↓reduceIte, Nat.reduceLeDiff, Nat.reduceAdd, intB_eql, intB_neq, intB_lss, intB_leq, intB_gtr, intB_geq, setV_cells]
    · simp (disch := first | omega | exact Int.natCast_nonneg _ | assumption) only [BB, B2, ↓reduceIte, Nat.reduceLeDiff, Nat.reduceAdd, intB_eql, intB_neq, intB_lss, intB_leq, intB_gtr, intB_geq, setV_cells]
    · exact ((Sub.refl h).new hf (Nat.le_refl _)).new hf (by omega)
    · have := hK (n + 1 + 2) (by omega)
      rw [or_pow_self hm] at this; exact this
  | false =>
    simp only [Bool.not_false]
    have h6 : (word m (b / 64)).testBit (b % 64) = false := by
      rw [testBit_word, Nat.div_add_mod, hm]; simp
    have h7 := add_pow h6
    have h8 : word m (b / 64) + 2 ^ (b % 64) < 18446744073709551616 := by
      rw [h7]; exact Nat.or_lt_two_pow (n := 64) h3 (Nat.pow_lt_pow_right (by decide) (by omega))
    have h9 : ((word m (b / 64) : Nat) : Int) + ((2 ^ (b % 64) : Nat) : Int) = ((word m (b / 64) ||| 2 ^ (b % 64) : Nat) : Int) := by rw [← h7]; exact (Int.natCast_add _ _).symm
    have h10 : ((word m (b / 64) ||| 2 ^ (b % 64) : Nat) : Int) ≤ 18446744073709551615 := cast_le (by rw [← h7]; exact h8)
    have h11 := over_one (.int .u64 ((word m (b / 64) ||| 2 ^ (b % 64) : Nat) : Int)) (l := setL m) (off := b / 64) (by rw [setL_len]; omega)
    (repeat (first | refine bindP_mk (by simp (disch := first | omega | exact Int.natCast_nonneg _ | assumption) only [BB, B2, ↓reduceIte, Nat.reduceLeDiff, Nat.reduceAdd, intB_eql, intB_neq, intB_lss, intB_leq, intB_gtr, intB_geq, setV_cells, h1, h2, h5, h9] <;> rfl) ?_ | refine newP_mk ?_ | refine optP_mk ?_ | with_reducible first | refine condP_t ?_ | refine condP_f ?_ | refine ifP_tt' ?_ | refine ifP_ff' ?_ | refine ifP_tf' ?_ | refine ifP_ft' ?_ | refine ifP_u' ?_ | refine optP_mk0 ?_))
    refine bindP_mk (store1_own (l := setL m) (by simp (disch := first | omega | exact Int.natCast_nonneg _ | assumption) only [BB, B2, ↓reduceIte, Nat.reduceLeDiff, Nat.reduceAdd, intB_eql, intB_neq, intB_lss, intB_leq, intB_gtr, intB_geq, setV_cells] <;> rfl) h4 rfl rfl) ?_
    rw [setL_set hb]
    refine ref01_with_end (m := m ||| 2 ^ b) (w := 0) (id := nx) rfl rfl ?_ ?_ hf ?_ (Nat.le_refl _) (hK _ (by omega))
    · simp (disch := first | omega | exact Int.natCast_nonneg _ | assumption) only [BB, B2, ↓reduceIte, Nat.reduceLeDiff, Nat.reduceAdd, intB_eql, intB_neq, intB_lss, intB_leq, intB_gtr, intB_geq, setV_cells]
    · simp (disch := first | omega | exact Int.natCast_nonneg _ | assumption) only [BB, B2, ↓reduceIte, Nat.reduceLeDiff, Nat.reduceAdd, intB_eql, intB_neq, intB_lss, intB_leq, intB_gtr, intB_geq, setV_cells]
    · exact (((Sub.refl h).new hf (Nat.le_refl _)).new hf (by omega)).new hf (Nat.le_refl _)
end
set_option maxRecDepth 20000
def ofBytes (m : Nat) (l : List Nat) : Nat := l.foldl (fun m b => m ||| 2 ^ b) m
def bytesC (l : List Nat) : List (List Value) := l.map fun b : Nat => [Value.int .u8 (b : Int)]
theorem bytesC_len (l : List Nat) : (bytesC l).length = l.length := by simp [bytesC]
theorem bytesC_get {l : List Nat} {i : Nat} (hi : i < l.length) : (bytesC l)[i]? = some [.int .u8 (l[i] : Nat)] := by simp [bytesC, hi]
theorem buildV_Set : buildV Tryz.prog y_api_Set [] = some (setV 0) := by kernel_rfl
theorem buildV_Set_mk {K : Value → Prop} (k : K (setV 0)) : bindP (buildV Tryz.prog y_api_Set []) K := by rw [buildV_Set]; exact k
theorem ofBytes_take {m : Nat} {l : List Nat} {i : Nat} (hi : i < l.length) : ofBytes m (l.take (i + 1)) = ofBytes m (l.take i) ||| 2 ^ l[i] := by
  rw [List.take_succ_eq_append_getElem hi, ofBytes, List.foldl_append]; rfl
theorem ref01_Of_c {ro : Ro} {v : Value} {l : List Nat} (hl : ∀ b ∈ l, b < 256) (hlen : l.length ≤ 1000000) {h : T Obj} {nx : Nat} {K : KV} (hf : Fr h nx) (hv : Sl ro h v 1 (bytesC l)) (hK : ∀ nx', nx ≤ nx' → K (setV (ofBytes 0 l)) h nx') : callP Tryz.prog ro i_ref01_Of [v] h nx K := by
  apply ref01_Of_of
  unfold ref01_Of
  refine zer_Set_mk (newP_mk (buildV_Set_mk (zer_Set_mk (newP_mk ?_))))
  refine bindP_mk (storeA_own (l := setL 0) (vs := setL 0) (by simp (disch := first | omega | exact Int.natCast_nonneg _ | assumption) only [BB, B2, ↓reduceIte, Nat.reduceLeDiff, Nat.reduceAdd, intB_eql, intB_neq, intB_lss, intB_leq, intB_gtr, intB_geq, setV_cells] <;> rfl) rfl rfl rfl rfl) ?_
  refine loopP_rule (fun n e h' nx' => ∃ i : Nat, i + n = l.length ∧ nx + 3 ≤ nx' ∧ e 0 = v ∧ e 2 = ptr nx ∧ e 3 = ptr (nx + 2) ∧ e 4 = .int .i64 i ∧ Sub h h' ∧ Fr h' nx' ∧
    h'.get nx = some (.cells (setL 0).toArray y_api_Set) ∧ h'.get (nx + 2) = some (.cells (setL (ofBytes 0 (l.take i))).toArray y_api_Set)) ?_ (n := l.length) ⟨0, by omega, by omega, rfl, rfl, rfl, rfl, ?_, ?_, ?_, ?_⟩
  · rintro n e h' nx' ⟨i, hin, hnx, e0, e2, e3, e4, hs, hf', g1, g2⟩ Q' hc hx
    unfold ref01_Of_L1
    rw [e0, e3, e4]
    have hlenv := (hv.sub hs).len
    rw [bytesC_len] at hlenv
    refine bindP_mk hlenv ?_
    (repeat (first | refine bindP_mk (by simp (disch := first | omega | exact Int.natCast_nonneg _ | assumption) only [BB, B2, ↓reduceIte, Nat.reduceLeDiff, Nat.reduceAdd, intB_eql, intB_neq, intB_lss, intB_leq, intB_gtr, intB_geq] <;> rfl) ?_ | refine newP_mk ?_ | refine optP_mk ?_ | with_reducible first | refine condP_t ?_ | refine condP_f ?_ | refine ifP_tt' ?_ | refine ifP_ff' ?_ | refine ifP_tf' ?_ | refine ifP_ft' ?_ | refine ifP_u' ?_ | refine optP_mk0 ?_))
    by_cases hi : i < l.length
    · refine condP_tr (by simp; omega) ?_
      refine bindP_mk (loadA_all g2 rfl) ?_
      refine bindP_mk ((hv.sub hs).ix _ (by rw [bytesC_len]; exact hi)) ?_
      refine bindP_mk ((hv.sub hs).load1 (bytesC_get hi)) ?_
      refine ref01_with_c (hl _ (List.getElem_mem hi)) (hf'.mono (by omega)) fun n1 hn1 => ?_
      refine bindP_mk (storeA_own (l := setL _) (vs := setL _) g2 rfl rfl rfl rfl) ?_
      (repeat (first | refine bindP_mk (by simp (disch := first | omega | exact Int.natCast_nonneg _ | assumption) only [BB, B2, ↓reduceIte, Nat.reduceLeDiff, Nat.reduceAdd, intB_eql, intB_neq, intB_lss, intB_leq, intB_gtr, intB_geq] <;> rfl) ?_ | refine newP_mk ?_ | refine optP_mk ?_ | with_reducible first | refine condP_t ?_ | refine condP_f ?_ | refine ifP_tt' ?_ | refine ifP_ff' ?_ | refine ifP_tf' ?_ | refine ifP_ft' ?_ | refine ifP_u' ?_ | refine optP_mk0 ?_))
      refine hc (n - 1) _ _ _ _ (by omega) ⟨i + 1, by omega, ?_, e0, e2, e3, rfl, hs.new hf (by omega), (hf'.mono (by omega)).upd (Nat.le_refl _) (by omega), ?_, ?_⟩ (Sub.refl _)
      · omega
      · simp (disch := first | omega | exact Int.natCast_nonneg _ | assumption) only [BB, B2, ↓reduceIte, Nat.reduceLeDiff, Nat.reduceAdd, intB_eql, intB_neq, intB_lss, intB_leq, intB_gtr, intB_geq, g1]
      · rw [T.get_upd_same, ofBytes_take hi]
    · refine condP_fa (by simp; omega) ?_
      refine hx _ _ _ _ (fun e => by cases e) ?_
      show exP _ _ _ _
      rw [exP_exit]
      show ref01_Of_j1 ro K _ _ _
      unfold ref01_Of_j1
      show bindP (loadA ro h' 4 (e 3)) _
      rw [e3]
      refine bindP_mk (loadA_all g2 rfl) ?_
      show bindP (storeN 4 h' (e 2) _) _
      rw [e2]
      refine bindP_mk (storeA_own (l := setL _) (vs := setL _) g1 rfl rfl rfl rfl) ?_
      show bindP (loadA ro _ 4 (e 2)) _
      rw [e2]
      refine bindP_mk (loadA_all (by rw [T.get_upd_same]) rfl) ?_
      refine ⟨h, hs.new hf (Nat.le_refl _), ?_⟩
      have : l.take i = l := List.take_of_length_le (by omega)
      rw [this]
      exact hK _ (by omega)
  · exact (((Sub.refl h).new hf (Nat.le_refl _)).new hf (by omega)).new hf (by omega)
  · exact ((hf.upd (m := nx + 5) (by omega) (by omega)).upd (Nat.le_refl _) (by omega)).upd (Nat.le_refl _) (by omega)
  · simp (disch := first | omega | exact Int.natCast_nonneg _ | assumption) only [BB, B2, ↓reduceIte, Nat.reduceLeDiff, Nat.reduceAdd, intB_eql, intB_neq, intB_lss, intB_leq, intB_gtr, intB_geq, setV_cells]
  · rw [T.get_upd_same]; rfl
set_option maxRecDepth 20000
set_option maxRecDepth 20000
set_option maxRecDepth 20000
set_option maxRecDepth 20000
theorem lit_u8 (aid : Nat) (b : Int) : sliceLitV Tryz.prog y_s_uint8 aid 1 [(0, .int .u8 b)] = some (.slice (some (own aid 1)) 1 1, some (.cells #[.int .u8 b] y_uint8)) := by kernel_rfl
theorem und_u8s : und Tryz.prog y_s_uint8 = some (.slice y_uint8) := by kernel_rfl
theorem tin_u8 : ∃ i, tin Tryz.prog y_uint8 = some i ∧ i.size = 1 ∧ i.bytes = 1 := by
  have h : (tin Tryz.prog y_uint8).map (fun i => (i.size, i.bytes)) = some (1, 1) := by kernel_rfl
  cases hi : tin Tryz.prog y_uint8 with
  | none => rw [hi] at h; cases h
  | some i => rw [hi] at h; simp at h; exact ⟨i, rfl, h.1, h.2⟩
theorem zer_u8 : zer Tryz.prog y_uint8 = some (.int .u8 0) := by kernel_rfl
theorem append_u8 {ro : Ro} {h : T Obj} {v x : Value} {nx lo hi : Nat} {l : List Nat} {b : Nat} (ho : Own h v 1 y_uint8 (bytesC l) lo hi) (hx : Sl ro h x 1 (bytesC [b])) (hb : l.length ≤ 1000000) (hlo : lo ≤ nx) (hnx : hi ≤ nx) :
    ∃ h' r, appendV Tryz.prog ro h nx #[y_s_uint8, y_s_uint8] [v, x] = some (r, h', nx + 1) ∧ Own h' r 1 y_uint8 (bytesC (l ++ [b])) lo (nx + 1) ∧ (∀ k, (k < lo ∨ hi ≤ k) → k ≠ nx → h'.get k = h.get k) ∧ (∀ k, k ≠ nx → h'.get k = h.get k ∨ h'.get k = none) := by
  obtain ⟨i, h1, h2, h3⟩ := tin_u8
  have hcat : bytesC l ++ bytesC [b] = bytesC (l ++ [b]) := by simp [bytesC]
  have hl1 : (bytesC l).length = l.length := bytesC_len l
  have hl2 : (bytesC [b]).length = 1 := rfl
  obtain ⟨h', q1, q2, q3, q4⟩ := append_own (P := Tryz.prog) (t := y_s_uint8) ho hx und_u8s h1 h2 (by omega) zer_u8 rfl (by simp [bytesC]) rfl (by rw [hl1, hl2, h3]; unfold big; omega) (by rw [hl1, hl2]; unfold big; omega) hlo hnx
  rw [hcat] at q1 q2
  exact ⟨h', _, q1, q2, q3, q4⟩
set_option maxRecDepth 20000
set_option maxRecDepth 20000
theorem testBit_ofBytes (m : Nat) (l : List Nat) (b : Nat) : (ofBytes m l).testBit b = (m.testBit b || decide (b ∈ l)) := by
  induction l generalizing m with
  | nil => simp [ofBytes]
  | cons a l ih =>
    have : ofBytes m (a :: l) = ofBytes (m ||| 2 ^ a) l := rfl
    rw [this, ih, Nat.testBit_or, Nat.testBit_two_pow]
    by_cases e : a = b
    · subst e; simp
    · have : ¬ b = a := fun h => e h.symm
      simp [e, this]
def mem (c : List Nat) (k : Int) (i : Nat) : List Nat := (List.range i).filter fun b => decide (((c.getD b 0 : Nat) : Int) = k)
def clsS (c : List Nat) (k : Int) : Nat := ofBytes 0 (mem c k 256)
theorem filter_one (p : Nat → Bool) (i : Nat) : [i].filter p = if p i = true then [i] else [] := by
  cases h : p i <;> simp [h]
theorem mem_succ (c : List Nat) (k : Int) (i : Nat) : mem c k (i + 1) = mem c k i ++ (if ((c.getD i 0 : Nat) : Int) = k then [i] else []) := by
  unfold mem
  rw [List.range_succ, List.filter_append, filter_one]
  simp only [decide_eq_true_eq]
theorem mem_lt {c : List Nat} {k : Int} {i b : Nat} (h : b ∈ mem c k i) : b < i := by
  unfold mem at h
  exact List.mem_range.1 (List.mem_filter.1 h).1
theorem mem_len (c : List Nat) (k : Int) (i : Nat) : (mem c k i).length ≤ i := by
  unfold mem
  refine Nat.le_trans (List.length_filter_le _ _) ?_
  simp
theorem append_lit8 {ro : Ro} {h h0 : T Obj} {v : Value} {n1 lo hi nx nx0 : Nat} {l : List Nat} {b : Nat} {K : Value × T Obj × Nat → Prop} (ho : Own h v 1 y_uint8 (bytesC l) lo hi) (hl : l.length ≤ 1000000) (hf : Fr h nx) (hs : Sub h0 h) (hf0 : Fr h0 nx0) (hlo0 : nx0 ≤ lo) (hlo : lo ≤ hi) (hn : hi ≤ n1) (hnx : nx ≤ n1) (h2 : n1 + 1 ≤ nx + 1000)
    {n2 : Nat} (hn2 : n1 < n2)
    (hK : ∀ h' r, Own h' r 1 y_uint8 (bytesC (l ++ [b])) lo (n2 + 1) → Sub h0 h' → Fr h' (n2 + 1) → (∀ k, (k < lo ∨ hi ≤ k) → k ≠ n2 → k ≠ n1 → h'.get k = h.get k) → K (r, h', n2 + 1)) :
    bindP (sliceLitV Tryz.prog y_s_uint8 n1 1 [(0, .int .u8 (b : Int))]) fun r => optP h n1 r.2 fun h' => bindP (appendV Tryz.prog ro h' n2 #[y_s_uint8, y_s_uint8] [v, r.1]) K := by
  refine bindP_mk (lit_u8 _ _) (optP_mk ?_)
  have ho2 : Own (h.upd n1 (some (.cells #[.int .u8 (b : Int)] y_uint8))) v 1 y_uint8 (bytesC l) lo hi := ho.keep (Nat.le_refl _) fun id h1 h2 o hg => by rw [T.get_upd_ne _ _ (by omega)]; exact hg
  have hx1 : Sl ro (h.upd n1 (some (.cells #[.int .u8 (b : Int)] y_uint8))) (.slice (some (own n1 1)) 1 1) 1 (bytesC [b]) := Sl.own (l := bytesC [b]) (by rw [T.get_upd_same]; rfl) (by simp [bytesC]) (Nat.le_refl _)
  obtain ⟨h2, r, q1, q2, q3, q4⟩ := append_u8 (nx := n2) ho2 hx1 hl (by omega) (by omega)
  refine bindP_mk q1 (hK h2 r q2 ?_ ?_ ?_)
  · intro k o hk
    have hkn : k < nx0 := by
      rcases Nat.lt_or_ge k nx0 with h9 | h9
      · exact h9
      · rw [hf0 k h9] at hk; cases hk
    rw [q3 k (.inl (by omega)) (by omega), T.get_upd_ne _ _ (by omega)]
    exact hs k o hk
  · intro k hk
    rw [q3 k (.inr (by omega)) (by omega), T.get_upd_ne _ _ (by omega)]
    exact hf k (by omega)
  · intro k hk h3 h4
    rw [q3 k hk h3, T.get_upd_ne _ _ h4]
set_option maxRecDepth 20000
set_option maxRecDepth 4000 in
theorem ref02_Set_c {ro : Ro} {c : List Nat} {n k : Int} (hc : c.length = 256) (hcl : ∀ x ∈ c, x < 256) {h : T Obj} {nx : Nat} {K : KV} (hf : Fr h nx) (hK : ∀ nx', nx ≤ nx' → K (setV (clsS c k)) h nx') : callP Tryz.prog ro i_ref02_Set [splitI c n, .int .i64 k] h nx K := by
  apply ref02_Set_of
  unfold ref02_Set
  refine newP_mk (zer_Set_mk (newP_mk ?_))
  refine loopP_rule (fun j e h' nx' => ∃ (i : Nat) (lv : Value), i + j = 256 ∧ nx + 2 ≤ nx' ∧ e 1 = .int .i64 k ∧ e 2 = ptr nx ∧ e 4 = ptr (nx + 1) ∧ e 5 = lv ∧ e 6 = .int .i64 i ∧ Sub h h' ∧ Fr h' nx' ∧
    h'.get nx = some (.cells (splitLI c n).toArray y_api_Split) ∧ h'.get (nx + 1) = some (.cells (setL 0).toArray y_api_Set) ∧ Own h' lv 1 y_uint8 (bytesC (mem c k i)) (nx + 2) nx') ?_ (n := 256) ⟨0, _, by omega, by omega, rfl, rfl, rfl, rfl, rfl, ?_, ?_, ?_, ?_, Own.nil⟩
  · rintro j e h' nx' ⟨i, lv, hij, hnx, e1, e2, e4, e5, e6, hs, hf', g0, g1, ho⟩ Q' hq hx
    unfold ref02_Set_L1
    rw [e1, e2, e5, e6]
    (repeat (first | refine bindP_mk (by simp (disch := first | omega | exact Int.natCast_nonneg _ | assumption) only [BB, B2, ↓reduceIte, Nat.reduceLeDiff, Nat.reduceAdd, intB_eql, intB_neq, intB_lss, intB_leq, intB_gtr, intB_geq] <;> rfl) ?_ | refine newP_mk ?_ | refine optP_mk ?_ | with_reducible first | refine condP_t ?_ | refine condP_f ?_ | refine ifP_tt' ?_ | refine ifP_ff' ?_ | refine ifP_tf' ?_ | refine ifP_ft' ?_ | refine ifP_u' ?_ | refine optP_mk0 ?_))
    by_cases hi : i < 256
    · refine condP_tr (by simp; omega) ?_
      have hic : i < c.length := by omega
      have hci := hcl _ (List.getElem_mem hic)
      have hg := splitLI_get (n := n) hic
      have hgd : c.getD i 0 = c[i] := by rw [List.getD_eq_getElem?_getD, List.getElem?_eq_getElem hic]; rfl
      (repeat (first | refine bindP_mk (by simp (disch := first | omega | exact Int.natCast_nonneg _ | assumption) only [BB, B2, ↓reduceIte, Nat.reduceLeDiff, Nat.reduceAdd, intB_eql, intB_neq, intB_lss, intB_leq, intB_gtr, intB_geq, g0, hg] <;> rfl) ?_ | refine newP_mk ?_ | refine optP_mk ?_ | with_reducible first | refine condP_t ?_ | refine condP_f ?_ | refine ifP_tt' ?_ | refine ifP_ff' ?_ | refine ifP_tf' ?_ | refine ifP_ft' ?_ | refine ifP_u' ?_ | refine optP_mk0 ?_))
      have hj2 : ∀ (e : Env) (h1 : T Obj) (n2 : Nat) (lv : Value), nx' ≤ n2 → e 1 = .int .i64 k → e 2 = ptr nx → e 4 = ptr (nx + 1) → e 5 = lv → e 6 = .int .i64 i → Sub h h1 → Fr h1 n2 → h1.get nx = some (.cells (splitLI c n).toArray y_api_Split) → h1.get (nx + 1) = some (.cells (setL 0).toArray y_api_Set) →
          Own h1 lv 1 y_uint8 (bytesC (mem c k (i + 1))) (nx + 2) n2 → ref02_Set_j2 ro Q' e h1 n2 := by
        intro e h1 n2 lv hn2 e1 e2 e4 e5 e6 hs1 hf1 g0 g1 ho1
        unfold ref02_Set_j2
        rw [e6]
        (repeat (first | refine bindP_mk (by simp (disch := first | omega | exact Int.natCast_nonneg _ | assumption) only [BB, B2, ↓reduceIte, Nat.reduceLeDiff, Nat.reduceAdd, intB_eql, intB_neq, intB_lss, intB_leq, intB_gtr, intB_geq] <;> rfl) ?_ | refine newP_mk ?_ | refine optP_mk ?_ | with_reducible first | refine condP_t ?_ | refine condP_f ?_ | refine ifP_tt' ?_ | refine ifP_ff' ?_ | refine ifP_tf' ?_ | refine ifP_ft' ?_ | refine ifP_u' ?_ | refine optP_mk0 ?_))
        exact hq (j - 1) _ _ _ _ (by omega) ⟨i + 1, lv, by omega, by omega, e1, e2, e4, e5, rfl, hs1, hf1.mono (by omega), g0, g1, ho1.keep (by omega) fun _ _ _ _ hg => hg⟩ (Sub.refl _)
      by_cases hk : ((c[i] : Nat) : Int) = k
      · refine condP_tr (by simp [hk]) ?_
        (repeat (first | refine bindP_mk (by simp (disch := first | omega | exact Int.natCast_nonneg _ | assumption) only [BB, B2, ↓reduceIte, Nat.reduceLeDiff, Nat.reduceAdd, intB_eql, intB_neq, intB_lss, intB_leq, intB_gtr, intB_geq] <;> rfl) ?_ | refine newP_mk ?_ | refine optP_mk ?_ | with_reducible first | refine condP_t ?_ | refine condP_f ?_ | refine ifP_tt' ?_ | refine ifP_ff' ?_ | refine ifP_tf' ?_ | refine ifP_ft' ?_ | refine ifP_u' ?_ | refine optP_mk0 ?_))
        refine append_lit8 (h0 := h) (nx0 := nx) (nx := nx') (lo := nx + 2) (hi := nx') ho (Nat.le_trans (mem_len _ _ _) (by omega)) hf' hs hf (by omega) (by omega) (by omega) (by omega) (by omega) (by omega) fun h2 r q1 q2 q3 q4 => ?_
        dsimp only
        refine hj2 _ _ _ r (by omega) e1 e2 e4 rfl e6 q2 (q3.mono (by omega)) ?_ ?_ ?_
        · rw [q4 _ (.inl (by omega)) (by omega) (by omega)]; exact g0
        · rw [q4 _ (.inl (by omega)) (by omega) (by omega)]; exact g1
        · rw [mem_succ, hgd, if_pos hk]; exact q1.keep (by omega) fun _ _ _ _ hg => hg
      · refine condP_fa (by simp [hk]) ?_
        refine hj2 _ _ _ lv (by omega) e1 e2 e4 e5 e6 hs (hf'.mono (by omega)) g0 g1 ?_
        rw [mem_succ, hgd, if_neg hk, List.append_nil]; exact ho.keep (by omega) fun _ _ _ _ hg => hg
    · refine condP_fa (by simp; omega) ?_
      refine hx _ _ _ _ (fun e => by cases e) (exP_e (beqP_t ?_))
      have hi2 : i = 256 := by omega
      subst hi2
      unfold ref02_Set_j1
      have f4 : ∀ a b, Env.put (Env.put e 7 a) 8 b 4 = ptr (nx + 1) := fun a b => e4
      have f5 : ∀ a b, Env.put (Env.put e 7 a) 8 b 5 = lv := fun a b => e5
      simp only [puts, f4, f5]
      refine ref01_Of_c (fun b hb => mem_lt hb) (Nat.le_trans (mem_len c k 256) (by omega)) (hf'.mono (by omega)) ho.sl fun n2 hn2 => ?_
      refine bindP_mk (storeA_own (l := setL 0) (vs := setL (clsS c k)) g1 rfl rfl rfl rfl) ?_
      refine bindP_mk (loadA_all (by rw [T.get_upd_same]) rfl) ?_
      exact ⟨h, hs.new hf (by omega), hK _ (by omega)⟩
  · exact ((Sub.refl h).new hf (Nat.le_refl _)).new hf (by omega)
  · exact (hf.upd (m := nx + 4) (by omega) (by omega)).upd (Nat.le_refl _) (by omega)
  · simp (disch := first | omega | exact Int.natCast_nonneg _ | assumption) only [BB, B2, ↓reduceIte, Nat.reduceLeDiff, Nat.reduceAdd, intB_eql, intB_neq, intB_lss, intB_leq, intB_gtr, intB_geq, splitI_cells]
  · simp (disch := first | omega | exact Int.natCast_nonneg _ | assumption) only [BB, B2, ↓reduceIte, Nat.reduceLeDiff, Nat.reduceAdd, intB_eql, intB_neq, intB_lss, intB_leq, intB_gtr, intB_geq, setV_cells]
def lst (m i : Nat) : List Nat := (List.range i).filter fun b => m.testBit b
def listS (m : Nat) : List Nat := lst m 256
theorem lst_succ (m i : Nat) : lst m (i + 1) = lst m i ++ (if m.testBit i = true then [i] else []) := by
  unfold lst
  rw [List.range_succ, List.filter_append, filter_one]
theorem lst_len (m i : Nat) : (lst m i).length ≤ i := by
  unfold lst
  refine Nat.le_trans (List.length_filter_le _ _) ?_
  simp
set_option maxRecDepth 4000 in
theorem ref01_List_c {ro : Ro} {m : Nat} {h : T Obj} {nx : Nat} {K : KV} (hf : Fr h nx) (hK : ∀ r h' nx', nx ≤ nx' → Sub h h' → Fr h' nx' → Own h' r 1 y_uint8 (bytesC (listS m)) nx nx' → K r h' nx') : callP Tryz.prog ro i_ref01_List [setV m] h nx K := by
  apply ref01_List_of
  unfold ref01_List
  refine newP_mk ?_
  refine loopP_rule (fun j e h' nx' => ∃ (i : Nat) (lv : Value), i + j = 256 ∧ nx + 1 ≤ nx' ∧ e 1 = ptr nx ∧ e 3 = lv ∧ e 4 = .int .i64 i ∧ Sub h h' ∧ Fr h' nx' ∧
    h'.get nx = some (.cells (setL m).toArray y_api_Set) ∧ Own h' lv 1 y_uint8 (bytesC (lst m i)) (nx + 1) nx') ?_ (n := 256) ⟨0, _, by omega, by omega, rfl, rfl, rfl, ?_, ?_, ?_, Own.nil⟩
  · rintro j e h' nx' ⟨i, lv, hij, hnx, e1, e3, e4, hs, hf', g0, ho⟩ Q' hq hx
    unfold ref01_List_L1
    rw [e1, e3, e4]
    (repeat (first | refine bindP_mk (by simp (disch := first | omega | exact Int.natCast_nonneg _ | assumption) only [BB, B2, ↓reduceIte, Nat.reduceLeDiff, Nat.reduceAdd, intB_eql, intB_neq, intB_lss, intB_leq, intB_gtr, intB_geq] <;> rfl) ?_ | refine newP_mk ?_ | refine optP_mk ?_ | with_reducible first | refine condP_t ?_ | refine condP_f ?_ | refine ifP_tt' ?_ | refine ifP_ff' ?_ | refine ifP_tf' ?_ | refine ifP_ft' ?_ | refine ifP_u' ?_ | refine optP_mk0 ?_))
    by_cases hi : i < 256
    · refine condP_tr (by simp; omega) ?_
      refine bindP_mk (loadA_all g0 rfl) ?_
      (repeat (first | refine bindP_mk (by simp (disch := first | omega | exact Int.natCast_nonneg _ | assumption) only [BB, B2, ↓reduceIte, Nat.reduceLeDiff, Nat.reduceAdd, intB_eql, intB_neq, intB_lss, intB_leq, intB_gtr, intB_geq] <;> rfl) ?_ | refine newP_mk ?_ | refine optP_mk ?_ | with_reducible first | refine condP_t ?_ | refine condP_f ?_ | refine ifP_tt' ?_ | refine ifP_ff' ?_ | refine ifP_tf' ?_ | refine ifP_ft' ?_ | refine ifP_u' ?_ | refine optP_mk0 ?_))
      refine ref01_Has_c hi (hf'.mono (by omega)) fun n1 hn1 => ?_
      have hj2 : ∀ (e : Env) (h1 : T Obj) (n2 : Nat) (lv : Value), nx' ≤ n2 → e 1 = ptr nx → e 3 = lv → e 4 = .int .i64 i → Sub h h1 → Fr h1 n2 → h1.get nx = some (.cells (setL m).toArray y_api_Set) →
          Own h1 lv 1 y_uint8 (bytesC (lst m (i + 1))) (nx + 1) n2 → ref01_List_j2 ro Q' e h1 n2 := by
        intro e h1 n2 lv hn2 e1 e3 e4 hs1 hf1 g0 ho1
        unfold ref01_List_j2
        rw [e4]
        (repeat (first | refine bindP_mk (by simp (disch := first | omega | exact Int.natCast_nonneg _ | assumption) only [BB, B2, ↓reduceIte, Nat.reduceLeDiff, Nat.reduceAdd, intB_eql, intB_neq, intB_lss, intB_leq, intB_gtr, intB_geq] <;> rfl) ?_ | refine newP_mk ?_ | refine optP_mk ?_ | with_reducible first | refine condP_t ?_ | refine condP_f ?_ | refine ifP_tt' ?_ | refine ifP_ff' ?_ | refine ifP_tf' ?_ | refine ifP_ft' ?_ | refine ifP_u' ?_ | refine optP_mk0 ?_))
        exact hq (j - 1) _ _ _ _ (by omega) ⟨i + 1, lv, by omega, by omega, e1, e3, rfl, hs1, hf1.mono (by omega), g0, ho1.keep (by omega) fun _ _ _ _ hg => hg⟩ (Sub.refl _)
      cases hb : m.testBit i with
      | true =>
        refine condP_tr rfl ?_
        (repeat (first | refine bindP_mk (by simp (disch := first | omega | exact Int.natCast_nonneg _ | assumption) only [BB, B2, ↓reduceIte, Nat.reduceLeDiff, Nat.reduceAdd, intB_eql, intB_neq, intB_lss, intB_leq, intB_gtr, intB_geq] <;> rfl) ?_ | refine newP_mk ?_ | refine optP_mk ?_ | with_reducible first | refine condP_t ?_ | refine condP_f ?_ | refine ifP_tt' ?_ | refine ifP_ff' ?_ | refine ifP_tf' ?_ | refine ifP_ft' ?_ | refine ifP_u' ?_ | refine optP_mk0 ?_))
        refine append_lit8 (h0 := h) (nx0 := nx) (nx := n1) (lo := nx + 1) (hi := nx') ho (Nat.le_trans (lst_len _ _) (by omega)) (hf'.mono (by omega)) hs hf (by omega) (by omega) (by omega) (by omega) (by omega) (by omega) fun h2 r q1 q2 q3 q4 => ?_
        dsimp only
        refine hj2 _ _ _ r (by omega) e1 rfl e4 q2 (q3.mono (by omega)) ?_ ?_
        · rw [q4 _ (.inl (by omega)) (by omega) (by omega)]; exact g0
        · rw [lst_succ, hb, if_pos rfl]; exact q1.keep (by omega) fun _ _ _ _ hg => hg
      | false =>
        refine condP_fa rfl ?_
        refine hj2 _ _ _ lv (by omega) e1 e3 e4 hs (hf'.mono (by omega)) g0 ?_
        rw [lst_succ, hb, if_neg (by simp), List.append_nil]; exact ho.keep (by omega) fun _ _ _ _ hg => hg
    · refine condP_fa (by simp; omega) ?_
      refine hx _ _ _ _ (fun e => by cases e) (exP_e (beqP_t ?_))
      have hi2 : i = 256 := by omega
      subst hi2
      unfold ref01_List_j1
      have f3 : ∀ a b, Env.put (Env.put e 5 a) 6 b 3 = lv := fun a b => e3
      simp only [puts, f3]
      refine ⟨h', Sub.refl _, hK _ _ _ (by omega) hs (hf'.mono (by omega)) ?_⟩
      rcases ho with ho | ⟨id, h1, h2, h3⟩
      · exact .inl ho
      · exact .inr ⟨id, by omega, by omega, h3⟩
  · exact (Sub.refl h).new hf (Nat.le_refl _)
  · exact hf.upd (m := nx + 4) (by omega) (by omega)
  · simp (disch := first | omega | exact Int.natCast_nonneg _ | assumption) only [BB, B2, ↓reduceIte, Nat.reduceLeDiff, Nat.reduceAdd, intB_eql, intB_neq, intB_lss, intB_leq, intB_gtr, intB_geq, setV_cells]
set_option maxRecDepth 20000
def lb (c : List Nat) (k i : Nat) : Nat := ((List.range' i (256 - i)).find? fun b => decide (c.getD b 0 = k)).getD 0
def firstZ (c : List Nat) (n : Int) : List Nat := if n < 1 ∨ 256 < n then [] else (List.range n.toNat).map fun k => lb c k 0
theorem listS_cls {c : List Nat} {k : Int} : listS (clsS c k) = mem c k 256 := by
  unfold listS lst mem
  apply List.filter_congr
  intro b hb
  have hb := List.mem_range.1 hb
  unfold clsS
  rw [testBit_ofBytes]
  simp [mem, hb]
theorem mem_head {c : List Nat} {k : Nat} : (mem c (k : Int) 256).head?.getD 0 = lb c k 0 := by
  unfold mem lb
  rw [List.head?_filter]
  have : (fun b => decide (((c.getD b 0 : Nat) : Int) = (k : Int))) = fun b => decide (c.getD b 0 = k) := by
    funext b
    by_cases h : c.getD b 0 = k
    · rw [decide_eq_true h, decide_eq_true (by rw [h])]
    · rw [decide_eq_false h, decide_eq_false (by omega)]
  rw [this, ← List.range_eq_range']
set_option maxRecDepth 4000 in
theorem ref02_First_c {ro : Ro} {c : List Nat} {n : Int} (hc : c.length = 256) (hcl : ∀ x ∈ c, x < 256) {h : T Obj} {nx : Nat} {K : KV} (hf : Fr h nx) (hK : ∀ r h' nx', nx ≤ nx' → Sub h h' → Fr h' nx' → Own h' r 1 y_uint8 (bytesC (firstZ c n)) nx nx' → K r h' nx') : callP Tryz.prog ro i_ref02_First [splitI c n] h nx K := by
  apply ref02_First_of
  unfold ref02_First
  refine newP_mk ?_
  have hg := splitLI_many (n := n) hc
  have g0 : (h.upd nx (some (.cells (Value.cells (splitI c n)) y_api_Split))).get nx = some (.cells (splitLI c n).toArray y_api_Split) := by rw [T.get_upd_same]; rfl
  have hs0 : Sub h (h.upd nx (some (.cells (Value.cells (splitI c n)) y_api_Split))) := (Sub.refl h).new hf (Nat.le_refl _)
  have hf0 : Fr (h.upd nx (some (.cells (Value.cells (splitI c n)) y_api_Split))) (nx + 1) := (hf.mono (Nat.le_succ _)).upd (Nat.le_refl _) (by omega)
  generalize (h.upd nx (some (.cells (Value.cells (splitI c n)) y_api_Split))) = h0 at g0 hs0 hf0
  (repeat (first | refine bindP_mk (by simp (disch := first | omega | exact Int.natCast_nonneg _ | assumption) only [BB, B2, ↓reduceIte, Nat.reduceLeDiff, Nat.reduceAdd, intB_eql, intB_neq, intB_lss, intB_leq, intB_gtr, intB_geq, g0, hg] <;> rfl) ?_ | refine newP_mk ?_ | refine optP_mk ?_ | with_reducible first | refine condP_t ?_ | refine condP_f ?_ | refine ifP_tt' ?_ | refine ifP_ff' ?_ | refine ifP_tf' ?_ | refine ifP_ft' ?_ | refine ifP_u' ?_ | refine optP_mk0 ?_))
  by_cases h1 : n < 1
  · rw [decide_eq_true h1]
    (repeat (first | refine bindP_mk (by simp (disch := first | omega | exact Int.natCast_nonneg _ | assumption) only [BB, B2, ↓reduceIte, Nat.reduceLeDiff, Nat.reduceAdd, intB_eql, intB_neq, intB_lss, intB_leq, intB_gtr, intB_geq, g0, hg] <;> rfl) ?_ | refine newP_mk ?_ | refine optP_mk ?_ | with_reducible first | refine condP_t ?_ | refine condP_f ?_ | refine ifP_tt' ?_ | refine ifP_ff' ?_ | refine ifP_tf' ?_ | refine ifP_ft' ?_ | refine ifP_u' ?_ | refine optP_mk0 ?_))
    exact ⟨h0, Sub.refl _, hK _ _ _ (by omega) hs0 (hf0.mono (by omega)) (by unfold firstZ; rw [if_pos (.inl h1)]; exact Own.nil)⟩
  rw [decide_eq_false h1]
  (repeat (first | refine bindP_mk (by simp (disch := first | omega | exact Int.natCast_nonneg _ | assumption) only [BB, B2, ↓reduceIte, Nat.reduceLeDiff, Nat.reduceAdd, intB_eql, intB_neq, intB_lss, intB_leq, intB_gtr, intB_geq, g0, hg] <;> rfl) ?_ | refine newP_mk ?_ | refine optP_mk ?_ | with_reducible first | refine condP_t ?_ | refine condP_f ?_ | refine ifP_tt' ?_ | refine ifP_ff' ?_ | refine ifP_tf' ?_ | refine ifP_ft' ?_ | refine ifP_u' ?_ | refine optP_mk0 ?_))
  by_cases h2 : 256 < n
  · rw [decide_eq_true h2]
    (repeat (first | refine bindP_mk (by simp (disch := first | omega | exact Int.natCast_nonneg _ | assumption) only [BB, B2, ↓reduceIte, Nat.reduceLeDiff, Nat.reduceAdd, intB_eql, intB_neq, intB_lss, intB_leq, intB_gtr, intB_geq, g0, hg] <;> rfl) ?_ | refine newP_mk ?_ | refine optP_mk ?_ | with_reducible first | refine condP_t ?_ | refine condP_f ?_ | refine ifP_tt' ?_ | refine ifP_ff' ?_ | refine ifP_tf' ?_ | refine ifP_ft' ?_ | refine ifP_u' ?_ | refine optP_mk0 ?_))
    exact ⟨h0, Sub.refl _, hK _ _ _ (by omega) hs0 (hf0.mono (by omega)) (by unfold firstZ; rw [if_pos (.inr h2)]; exact Own.nil)⟩
  rw [decide_eq_false h2]
  obtain ⟨k0, rfl⟩ : ∃ k0 : Nat, n = (k0 : Int) := ⟨n.toNat, by omega⟩
  (repeat (first | refine bindP_mk (by simp (disch := first | omega | exact Int.natCast_nonneg _ | assumption) only [BB, B2, ↓reduceIte, Nat.reduceLeDiff, Nat.reduceAdd, intB_eql, intB_neq, intB_lss, intB_leq, intB_gtr, intB_geq, g0, hg] <;> rfl) ?_ | refine newP_mk ?_ | refine optP_mk ?_ | with_reducible first | refine condP_t ?_ | refine condP_f ?_ | refine ifP_tt' ?_ | refine ifP_ff' ?_ | refine ifP_tf' ?_ | refine ifP_ft' ?_ | refine ifP_u' ?_ | refine optP_mk0 ?_))
  refine loopP_rule (fun j e h' nx' => ∃ (i : Nat) (lv : Value), i + j = k0 ∧ nx + 1 ≤ nx' ∧ e 1 = ptr nx ∧ e 3 = lv ∧ e 4 = .int .i64 (i : Int) ∧ Sub h h' ∧ Fr h' nx' ∧
    h'.get nx = some (.cells (splitLI c k0).toArray y_api_Split) ∧ Own h' lv 1 y_uint8 (bytesC ((List.range i).map fun k => lb c k 0)) (nx + 1) nx') ?_ (n := k0) ⟨0, _, by omega, by omega, rfl, rfl, rfl, hs0, hf0.mono (by omega), g0, Own.nil⟩
  rintro j e h' nx' ⟨i, lv, hij, hnx, e1, e3, e4, hs, hf', g0, ho⟩ Q' hq hx
  unfold ref02_First_L1
  rw [e1, e3, e4]
  (repeat (first | refine bindP_mk (by simp (disch := first | omega | exact Int.natCast_nonneg _ | assumption) only [BB, B2, ↓reduceIte, Nat.reduceLeDiff, Nat.reduceAdd, intB_eql, intB_neq, intB_lss, intB_leq, intB_gtr, intB_geq, g0, hg] <;> rfl) ?_ | refine newP_mk ?_ | refine optP_mk ?_ | with_reducible first | refine condP_t ?_ | refine condP_f ?_ | refine ifP_tt' ?_ | refine ifP_ff' ?_ | refine ifP_tf' ?_ | refine ifP_ft' ?_ | refine ifP_u' ?_ | refine optP_mk0 ?_))
  by_cases hi : i < k0
  · refine condP_tr (by simp; omega) ?_
    refine bindP_mk (loadA_all g0 (splitLI_len hc)) ?_
    refine ref02_Set_c (n := (k0 : Int)) hc hcl (hf'.mono (by omega)) fun n1 hn1 => ?_
    refine ref01_List_c (hf'.mono (by omega)) fun r h2 n2 hn2 hs2 hf2 hr => ?_
    rw [listS_cls] at hr
    have hlen := (hr.sl (ro := ro)).len
    rw [bytesC_len] at hlen
    refine bindP_mk hlen ?_
    (repeat (first | refine bindP_mk (by simp (disch := first | omega | exact Int.natCast_nonneg _ | assumption) only [BB, B2, ↓reduceIte, Nat.reduceLeDiff, Nat.reduceAdd, intB_eql, intB_neq, intB_lss, intB_leq, intB_gtr, intB_geq] <;> rfl) ?_ | refine newP_mk ?_ | refine optP_mk ?_ | with_reducible first | refine condP_t ?_ | refine condP_f ?_ | refine ifP_tt' ?_ | refine ifP_ff' ?_ | refine ifP_tf' ?_ | refine ifP_ft' ?_ | refine ifP_u' ?_ | refine optP_mk0 ?_))
    have hrange : (List.range (i + 1)).map (fun k => lb c k 0) = (List.range i).map (fun k => lb c k 0) ++ [lb c i 0] := by rw [List.range_succ, List.map_append]; rfl
    have hol : ((List.range i).map fun k => lb c k 0).length ≤ 1000000 := by rw [List.length_map, List.length_range]; omega
    have ho2 : Own h2 lv 1 y_uint8 (bytesC ((List.range i).map fun k => lb c k 0)) (nx + 1) nx' := ho.keep (Nat.le_refl _) fun id _ _ o hg => hs2 _ _ hg
    have hj2 : ∀ (e : Env) (h3 : T Obj) (n3 : Nat) (lv : Value), nx' ≤ n3 → e 1 = ptr nx → e 3 = lv → e 4 = .int .i64 (i : Int) → Sub h h3 → Fr h3 n3 → h3.get nx = some (.cells (splitLI c k0).toArray y_api_Split) →
        Own h3 lv 1 y_uint8 (bytesC ((List.range (i + 1)).map fun k => lb c k 0)) (nx + 1) n3 → ref02_First_j2 ro Q' e h3 n3 := by
      intro e h3 n3 lv hn3 e1 e3 e4 hs3 hf3 g0 ho3
      unfold ref02_First_j2
      rw [e4]
      (repeat (first | refine bindP_mk (by simp (disch := first | omega | exact Int.natCast_nonneg _ | assumption) only [BB, B2, ↓reduceIte, Nat.reduceLeDiff, Nat.reduceAdd, intB_eql, intB_neq, intB_lss, intB_leq, intB_gtr, intB_geq] <;> rfl) ?_ | refine newP_mk ?_ | refine optP_mk ?_ | with_reducible first | refine condP_t ?_ | refine condP_f ?_ | refine ifP_tt' ?_ | refine ifP_ff' ?_ | refine ifP_tf' ?_ | refine ifP_ft' ?_ | refine ifP_u' ?_ | refine optP_mk0 ?_))
      exact hq (j - 1) _ _ _ _ (by omega) ⟨i + 1, lv, by omega, by omega, e1, e3, rfl, hs3, hf3.mono (by omega), g0, ho3.keep (by omega) fun _ _ _ _ hg => hg⟩ (Sub.refl _)
    have hhd := mem_head (c := c) (k := i)
    by_cases hm : (mem c (i : Int) 256) = []
    · refine condP_tr (by rw [hm]; rfl) ?_
      have hl0 : lb c i 0 = 0 := by rw [← hhd, hm]; rfl
      refine append_lit8 (b := 0) (h0 := h) (nx0 := nx) (nx := n2) (lo := nx + 1) (hi := nx') ho2 hol hf2 (hs.trans hs2) hf (by omega) (by omega) (by omega) (by omega) (by omega) (by omega) fun h3 r3 q1 q2 q3 q4 => ?_
      dsimp only
      refine hj2 _ _ _ r3 (by omega) e1 rfl e4 q2 (q3.mono (by omega)) ?_ ?_
      · rw [q4 _ (.inl (by omega)) (by omega) (by omega)]; exact hs2 _ _ g0
      · rw [hrange, hl0]; exact q1.keep (by omega) fun _ _ _ _ hg => hg
    · have hpos : 0 < (mem c (i : Int) 256).length := List.length_pos_iff.2 hm
      refine condP_fa (by simp; exact hm) ?_
      have hix := (hr.sl (ro := ro)).ix .i64 (i := 0) (by rw [bytesC_len]; exact hpos)
      refine bindP_mk hix ?_
      refine bindP_mk ((hr.sl (ro := ro)).load1 (bytesC_get hpos)) ?_
      have hl0 : (mem c (i : Int) 256)[0] = lb c i 0 := by rw [← hhd, List.head?_eq_getElem?, List.getElem?_eq_getElem hpos]; rfl
      rw [hl0]
      refine append_lit8 (h0 := h) (nx0 := nx) (nx := n2) (lo := nx + 1) (hi := nx') ho2 hol hf2 (hs.trans hs2) hf (by omega) (by omega) (by omega) (by omega) (by omega) (by omega) fun h3 r3 q1 q2 q3 q4 => ?_
      dsimp only
      refine hj2 _ _ _ r3 (by omega) e1 rfl e4 q2 (q3.mono (by omega)) ?_ ?_
      · rw [q4 _ (.inl (by omega)) (by omega) (by omega)]; exact hs2 _ _ g0
      · rw [hrange]; exact q1.keep (by omega) fun _ _ _ _ hg => hg
  · refine condP_fa (by simp; omega) ?_
    refine hx _ _ _ _ (fun e => by cases e) (exP_e (beqP_t ?_))
    have hi2 : i = k0 := by omega
    subst hi2
    unfold ref02_First_j1
    have f3 : ∀ a b c d, Env.put (Env.put (Env.put (Env.put e 14 a) 15 b) 16 c) 17 d 3 = lv := fun a b c d => e3
    simp only [puts, f3]
    have hfz : firstZ c (i : Int) = (List.range i).map fun k => lb c k 0 := by unfold firstZ; rw [if_neg (by omega)]; simp
    refine ⟨h', Sub.refl _, hK _ _ _ (by omega) hs (hf'.mono (by omega)) ?_⟩
    rw [hfz]
    rcases ho with ho | ⟨id, q1, q2, q3⟩
    · exact .inl ho
    · exact .inr ⟨id, by omega, by omega, q3⟩
end V
end Go.Proofs.YtjndkdmkecpllaaGreat
set_option linter.unusedVariables false
set_option linter.unusedSimpArgs false
namespace Go.Proofs.YtjndkdmkecpllaaGreat
namespace V
attribute [local irreducible] bindP ifP condP newP optP exP beqP
theorem okZ : zerosOk Tryz.prog = true := by kernel_rfl
theorem okN : namesOk Tryz.prog = true := by kernel_rfl
theorem okM : Tryz.prog.follows .mixedOrders = true := by kernel_rfl
def decS : Nat → List Value → Option (List Nat × Int)
  | 0, [.int .i64 n] => some ([], n)
  | k + 1, .int .u8 x :: r => match decide (0 ≤ x), decide (x < 256) with
    | true, true => (decS k r).bind fun p => some (x.toNat :: p.1, p.2)
    | _, _ => none
  | _, _ => none
theorem decS_cons (k : Nat) (x : Int) (r : List Value) : decS (k + 1) (.int .u8 x :: r) = match decide (0 ≤ x), decide (x < 256) with
    | true, true => (decS k r).bind fun p => some (x.toNat :: p.1, p.2)
    | _, _ => none := rfl
theorem decS_eq : ∀ {k : Nat} {l : List Value} {c : List Nat} {n : Int}, decS k l = some (c, n) → l = splitLI c n ∧ c.length = k ∧ ∀ x ∈ c, x < 256 := by
  intro k
  induction k with
  | zero =>
    intro l c n h
    unfold decS at h
    split at h <;> first
      | (cases h; exact ⟨rfl, rfl, by simp⟩)
      | (cases h; done)
      | contradiction
  | succ k ih =>
    intro l c n h
    cases l with
    | nil => cases h
    | cons v r =>
      have hv : ∃ x, v = .int .u8 x := by
        cases v with
        | int kd x =>
          cases kd with
          | u8 => exact ⟨x, rfl⟩
          | _ => cases (show (none : Option (List Nat × Int)) = some (c, n) from h)
        | _ => cases (show (none : Option (List Nat × Int)) = some (c, n) from h)
      obtain ⟨x, rfl⟩ := hv
      rw [decS_cons] at h
      split at h
      · rename_i h1 h2
        obtain ⟨p, h3, h4⟩ := bind_some' h
        obtain ⟨p1, p2⟩ := p
        simp only [Option.some.injEq, Prod.mk.injEq] at h4
        obtain ⟨rfl, rfl⟩ := h4
        obtain ⟨h5, h6, h7⟩ := ih h3
        simp only [decide_eq_true_eq] at h1 h2
        refine ⟨?_, by simp [h6], fun y hy => ?_⟩
        · rw [h5]
          simp only [splitLI, u8s, List.map_cons, List.cons_append]
          rw [Int.toNat_of_nonneg h1]
        · rcases List.mem_cons.1 hy with rfl | hy
          · omega
          · exact h7 y hy
      · cases h
def orcF : OrcT := fun f args => match Nat.beq f i_ref02_First, args with
  | true, [.agg cs] => match decS 256 cs.toList with
    | some (c, n) => match firstZ c n with
      | [] => none
      | x :: r => some (1, (x :: r).length, (x :: r).length, y_uint8, (x :: r).map fun b : Nat => Value.int .u8 (b : Int))
    | none => none
  | _, _ => none
theorem flatten_bytes : ∀ l : List Nat, (bytesC l).flatten = l.map fun b : Nat => Value.int .u8 (b : Int)
  | [] => rfl
  | x :: r => by
    have := flatten_bytes r
    simp only [bytesC, List.map_cons, List.flatten_cons] at this ⊢
    rw [this]; rfl
theorem orcF_ok : ∀ f args z l c e cs, orcF f args = some (z, l, c, e, cs) → OrcS Tryz.prog f args z l c cs := by
  intro f args z l c e cs h
  unfold orcF at h
  split at h
  · rename_i cells hf
    split at h
    · rename_i c' n hd
      obtain ⟨h1, h2, h3⟩ := decS_eq hd
      split at h
      · cases h
      · rename_i x r hx
        have hne : firstZ c' n ≠ [] := by rw [hx]; simp
        rw [← hx] at h
        simp only [Option.some.injEq, Prod.mk.injEq] at h
        obtain ⟨rfl, rfl, rfl, rfl, rfl⟩ := h
        have hfe : f = i_ref02_First := Nat.eq_of_beq_eq_true hf
        subst hfe
        have hc : (Value.agg cells) = splitI c' n := by
          unfold splitI
          rw [← h1]
        rw [hc]
        have hlen : 0 < (firstZ c' n).length := List.length_pos_iff.2 hne
        refine orcS_of okZ okN okM ?_ ?_ (by kernel_rfl) (Nat.le_refl _) (by simp) hlen fun ro => ?_
        · simp [rigid, splitI, splitLI, u8s, V.flat]
        · simp [V.flat]
        · refine ref02_First_c h2 h3 Fr.e fun r h' nx' hn hs hf' ho => ?_
          rcases ho with ⟨_, he⟩ | ⟨id, _, _, rfl, _, hg⟩
          · exact absurd (List.map_eq_nil_iff.1 he) hne
          · refine ⟨id, y_uint8, ?_, ?_⟩
            · rw [bytesC_len]; rfl
            · rw [hg, flatten_bytes]
    · cases h
  · cases h
end V
end Go.Proofs.YtjndkdmkecpllaaGreat
set_option linter.unusedVariables false
set_option linter.unusedSimpArgs false
set_option maxRecDepth 8000
namespace Go.Proofs.YtjndkdmkecpllaaGreat
namespace V
open Go.ChangeShapes Go.WideShapes Go.ChangeAt Go.RowKit
set_option maxRecDepth 8000
theorem okOwn : ownKnob Tryz.prog.godebug = none := by kernel_rfl
theorem okLaid : laidOutB Tryz.prog = true := by kernel_rfl
section
variable {H : Type} {enc : TypeId × Value → H} {W : World}
theorem wf_u8 {n : Int} (h : (Lit.int .u8 n).wf = true) : 0 ≤ n ∧ n ≤ 255 := by
  simp only [Lit.wf, Bool.and_eq_true, decide_eq_true_eq] at h
  have h1 : IntKind.u8.min = 0 := rfl
  have h2 : IntKind.u8.max = 255 := rfl
  rw [h1, h2] at h; exact h
theorem open_str {v : Value} {d : DataW H} {p : List MemPlace} (h : DataW.Trod enc Tryz.prog W 0 (fun _ => true) true y_string v d p) {base : Nat} (hval : Value.okWide Tryz.prog W .any base y_string v) : ∃ s : ByteArray, Arg W.heap.size (.string s) v := by
  have hu : Tryz.prog.underlying y_string = some .string := by kernel_rfl
  obtain ⟨s, rfl, _⟩ := Go.ChangeMaps.open_string hu hval h
  exact ⟨s, .one rfl⟩
end
end V
end Go.Proofs.YtjndkdmkecpllaaGreat
set_option linter.unusedVariables false
set_option linter.unusedSimpArgs false
namespace Go.Proofs.YtjndkdmkecpllaaGreat
namespace V
attribute [local irreducible] bindP ifP condP newP optP exP beqP
theorem nth0 (a b : Value) : nth 0 (.tuple #[a, b]) = some a := rfl
theorem nth1 (a b : Value) : nth 1 (.tuple #[a, b]) = some b := rfl
theorem tinOf {t : TypeId} {s b : Nat} (h : (tin Tryz.prog t).map (fun i => (i.size, i.bytes)) = some (s, b)) : ∃ i, tin Tryz.prog t = some i ∧ i.size = s ∧ i.bytes = b := by
  cases hi : tin Tryz.prog t with
  | none => rw [hi] at h; cases h
  | some i => rw [hi] at h; simp at h; exact ⟨i, rfl, h.1, h.2⟩
theorem zerI : zer Tryz.prog y_int = some (.int .i64 0) := by kernel_rfl
section
variable {av bv nv fv : Value} {c : List Nat} {n : Int} {cv sv kv ev yv : Value}
theorem autL_set (hc : c.length = 256) (v : Value) : (autL c n cv sv).set 258 v = autL c n cv v := by
  unfold autL
  rw [List.set_append_right _ _ (by rw [splitLI_len hc]; omega), splitLI_len hc]; rfl
theorem autL_set257 (hc : c.length = 256) (v : Value) : (autL c n cv sv).set 257 v = autL c n v sv := by
  unfold autL
  rw [List.set_append_right _ _ (by rw [splitLI_len hc]; omega), splitLI_len hc]; rfl
end
def Keep (ids : List Nat) (h h' : T Obj) : Prop := ∀ k o, h.get k = some o → k ∉ ids → h'.get k = some o
theorem Sub.keepL {ids : List Nat} {h h' : T Obj} (hs : Sub h h') : Keep ids h h' := fun k o hk _ => hs k o hk
theorem Keep.trans {ids : List Nat} {a b c : T Obj} (h1 : Keep ids a b) (h2 : Keep ids b c) : Keep ids a c := fun k o hk hi => h2 k o (h1 k o hk hi) hi
theorem Keep.mono {ids ids' : List Nat} {a b : T Obj} (h1 : Keep ids a b) (h2 : ∀ k, k ∈ ids → k ∈ ids') : Keep ids' a b := fun k o hk hi => h1 k o hk fun h => hi (h2 k h)
theorem Keep.upd {ids : List Nat} {a b : T Obj} {i : Nat} {o : Option Obj} (h1 : Keep ids a b) (hi : i ∈ ids) : Keep ids a (b.upd i o) := fun k x hk hn => by
  rw [T.get_upd_ne _ _ (fun e => hn (by rw [e]; exact hi))]; exact h1 k x hk hn
def del (h : T Obj) : List Nat → T Obj
  | [] => h
  | i :: l => (del h l).upd i none
theorem del_get {h : T Obj} : ∀ {l : List Nat} {k : Nat}, (del h l).get k = if k ∈ l then none else h.get k
  | [], k => by simp [del]
  | i :: l, k => by
    show ((del h l).upd i none).get k = _
    by_cases hk : k = i
    · subst hk; rw [T.get_upd_same]; simp
    · rw [T.get_upd_ne _ _ hk, del_get]; simp [hk]
theorem del_sub (h : T Obj) (l : List Nat) : Sub (del h l) h := fun k o hk => by
  rw [del_get] at hk
  split at hk
  · cases hk
  · exact hk
theorem del_some {h : T Obj} {l : List Nat} {k : Nat} {o : Obj} (hk : h.get k = some o) (hn : k ∉ l) : (del h l).get k = some o := by rw [del_get, if_neg hn]; exact hk
theorem Keep.del {ids l l' : List Nat} {h h' : T Obj} (hk : Keep ids h h') (h1 : ∀ k, k ∈ ids → k ∈ l) (h2 : ∀ k, k ∈ l' → k ∈ l ∨ h.get k = none) : Sub (del h l) (del h' l') := fun k o hg => by
  rw [del_get] at hg
  split at hg
  · cases hg
  · rename_i hn
    refine del_some (hk k o hg fun h => hn (h1 k h)) fun hm => ?_
    rcases h2 k hm with h3 | h3
    · exact hn h3
    · rw [h3] at hg; cases hg
theorem OwnT.keepK {ids : List Nat} {h h' : T Obj} {v : Value} {z : Nat} {e : TypeId} {l : List (List Value)} {lo : Nat} (ho : OwnT h v z e l lo) (hk : Keep ids h h') (hne : ∀ id, sblk v = some id → id ∉ ids) : OwnT h' v z e l lo := by
  rcases ho with ho | ⟨id, h1, rfl, h4, h5⟩
  · exact .inl ho
  · exact .inr ⟨id, h1, rfl, h4, hk id _ h5 (hne id rfl)⟩
theorem OwnT.del {h : T Obj} {v : Value} {z : Nat} {e : TypeId} {l : List (List Value)} {lo : Nat} {ids : List Nat} (ho : OwnT h v z e l lo) (hne : ∀ id, sblk v = some id → id ∉ ids) : OwnT (del h ids) v z e l lo := by
  rcases ho with ho | ⟨id, h1, rfl, h4, h5⟩
  · exact .inl ho
  · exact .inr ⟨id, h1, rfl, h4, del_some h5 (hne id rfl)⟩
theorem Kp.keepL {v : Value} {h h' : T Obj} {ids : List Nat} (hk : Kp v h h') (hv : ∀ id, sblk v = some id → id ∈ ids) : Keep ids h h' := fun k o h1 h2 => hk k o h1 fun e => h2 (hv k e)
theorem OwnT.blk {h : T Obj} {v : Value} {z : Nat} {e : TypeId} {l : List (List Value)} {lo id : Nat} (ho : OwnT h v z e l lo) (hb : sblk v = some id) : lo ≤ id ∧ h.get id = some (.cells l.flatten.toArray e) := by
  rcases ho with ⟨rfl, _⟩ | ⟨i, h1, rfl, h4, h5⟩
  · cases hb
  · have : i = id := Option.some.inj hb
    subst this; exact ⟨h1, h5⟩
theorem OwnT.ok {h : T Obj} {v : Value} {z : Nat} {e : TypeId} {l : List (List Value)} {lo : Nat} (ho : OwnT h v z e l lo) : cellOk v = true := (ho.sl (ro := fun _ => none)).ok
abbrev nilS : Value := .slice none 0 0
theorem und_sint : und Tryz.prog y_s_int = some (.slice y_int) := by kernel_rfl
theorem tin_sint : ∃ i, tin Tryz.prog y_int = some i ∧ i.size = 1 ∧ i.bytes = 8 := tinOf (by kernel_rfl)
theorem zer_State : zer Tryz.prog y_api_State = some (.agg #[nilS, nilS, nilS, nilS]) := by kernel_rfl
theorem lit_State (aid : Nat) (a b c d : Value) : sliceLitV Tryz.prog y_s_api_State aid 1 [(0, .agg #[a, b, c, d])] = some (.slice (some (own aid 4)) 1 1, some (.cells [a, b, c, d].toArray y_api_State)) := by kernel_rfl
theorem und_sState : und Tryz.prog y_s_api_State = some (.slice y_api_State) := by kernel_rfl
theorem tin_State : ∃ i, tin Tryz.prog y_api_State = some i ∧ i.size = 4 ∧ i.bytes = 96 := tinOf (by kernel_rfl)
def opsC (l : List Nat) : List (List Value) := l.map fun b : Nat => [Value.int .u8 (b : Int)]
theorem opsC_len (l : List Nat) : (opsC l).length = l.length := by simp [opsC]
theorem zer_Move : zer Tryz.prog y_api_Move = some (.agg #[.int .i64 0, nilS]) := by kernel_rfl
def TyKeep (e : TypeId) (h h' : T Obj) : Prop := ∀ (k : Nat) c f, h.get k = some (.cells c e f) → h'.get k = some (.cells c e f)
theorem TyKeep.refl {e : TypeId} {h : T Obj} : TyKeep e h h := fun _ _ _ hg => hg
theorem TyKeep.trans {e : TypeId} {a b c : T Obj} (h1 : TyKeep e a b) (h2 : TyKeep e b c) : TyKeep e a c := fun k x f hg => h2 k x f (h1 k x f hg)
theorem Sub.ty {e : TypeId} {h h' : T Obj} (hs : Sub h h') : TyKeep e h h' := fun k c f hg => hs _ _ hg
theorem TyKeep.upd {e e' : TypeId} {a h : T Obj} {i : Nat} {o : Option Obj} {c : Array Value} {f : Nat × Nat} (h1 : TyKeep e a h) (hg : h.get i = some (.cells c e' f)) (he : e' ≠ e) : TyKeep e a (h.upd i o) := fun k x q hk => by
  have := h1 k x q hk
  rw [T.get_upd_ne _ _ (by
    rintro rfl
    rw [hg] at this
    simp only [Option.some.injEq, Obj.cells.injEq] at this
    exact he this.2.1)]
  exact this
theorem OwnT.ty {h h' : T Obj} {v : Value} {z : Nat} {e : TypeId} {l : List (List Value)} {lo : Nat} (ho : OwnT h v z e l lo) (hk : TyKeep e h h') : OwnT h' v z e l lo := by
  rcases ho with ho | ⟨id, h1, rfl, h4, h5⟩
  · exact .inl ho
  · exact .inr ⟨id, h1, rfl, h4, hk _ _ _ h5⟩
theorem OwnT.neB {h : T Obj} {v : Value} {z : Nat} {e : TypeId} {l : List (List Value)} {lo k : Nat} {o : Obj} (ho : OwnT h v z e l lo) (hk : h.get k = some o) (he : ∀ c f, o ≠ .cells c e f) : sblk v ≠ some k := fun hb => by
  obtain ⟨_, h5⟩ := ho.blk hb
  rw [hk] at h5
  exact he _ _ (Option.some.inj h5)
theorem Kp.ty {h h' : T Obj} {v : Value} {z : Nat} {e e' : TypeId} {l : List (List Value)} {lo : Nat} (hk : Kp v h h') (ho : OwnT h v z e' l lo) (he : e' ≠ e) : TyKeep e h h' := fun k c f hg => hk k _ hg (ho.neB hg (by
  intro c f h
  simp only [Obj.cells.injEq] at h
  exact he h.2.1.symm))
theorem und_sMove : und Tryz.prog y_s_api_Move = some (.slice y_api_Move) := by kernel_rfl
theorem tin_Move : ∃ i, tin Tryz.prog y_api_Move = some i ∧ i.size = 2 ∧ i.bytes = 32 := tinOf (by kernel_rfl)
theorem del_mono {h : T Obj} {l l' : List Nat} (hl : ∀ k, k ∈ l → k ∈ l') : Sub (del h l') (del h l) := fun k o hk => by
  rw [del_get] at hk
  split at hk
  · cases hk
  · rename_i hn
    exact del_some hk fun h => hn (hl k h)
theorem Keep.delS {ids l : List Nat} {h h' : T Obj} (hk : Keep ids h h') (hl : ∀ k, k ∈ ids → k ∈ l) : Sub (V.del h l) h' := fun k o hg => by
  rw [del_get] at hg
  split at hg
  · cases hg
  · rename_i hn; exact hk k o hg fun h => hn (hl k h)
def autZ : List Value := autL (List.replicate 256 0) 0 nilS nilS
theorem zer_Auto : zer Tryz.prog y_api_Auto = some (.agg autZ.toArray) := by kernel_rfl
theorem build_Auto0 : buildV Tryz.prog y_api_Auto [] = some (.agg autZ.toArray) := by kernel_rfl
theorem autZ_len : autZ.length = 259 := autL_len List.length_replicate
theorem autZ_ok : autZ.all cellOk = true := autL_ok rfl rfl
theorem Sub.delN {h h' : T Obj} {ids : List Nat} {n : Nat} (hs : Sub h h') (hf : Fr h n) (hi : ∀ i ∈ ids, n ≤ i) : Sub h (V.del h' ids) := fun k o hk => del_some (hs k o hk) fun hm => by
  have := hf.lt' hk
  have := hi k hm
  omega
def cntC (l : List (Int × Int)) : List (List Value) := l.map fun p => [.int .i64 p.1, .int .i64 p.2]
theorem cntC_len (l : List (Int × Int)) : (cntC l).length = l.length := by simp [cntC]
theorem cnt_R {ro : Ro} {h : T Obj} {v : Value} {l : List (Int × Int)} {lo : Nat} (ho : OwnT h v 2 y_a2_int (cntC l) lo) : SlR ro h v 2 RCount l := ⟨cntC l, ho.sl, cntC_len l, fun i x d hx hd => by
  unfold cntC at hx
  rw [List.getElem?_map, hd] at hx
  exact (Option.some.inj hx).symm⟩
end V
end Go.Proofs.YtjndkdmkecpllaaGreat
set_option linter.unusedVariables false
set_option linter.unusedSimpArgs false
namespace Go.Proofs.YtjndkdmkecpllaaGreat
namespace V
attribute [local irreducible] callPre callP bindP
abbrev i_exec_Machine_Step : FuncId := 19
abbrev i_exec_Machine_Reset : FuncId := 20
abbrev i_exec_Machine_State : FuncId := 21
abbrev i_exec_Machine_Rule : FuncId := 22
abbrev i_exec_Machine_code : FuncId := 52
abbrev i_ring_Ring_Clear : FuncId := 54
abbrev i_ring_Ring_Len : FuncId := 56
abbrev i_exec_Machine_digit : FuncId := 101
abbrev i_ring_Ring_Put : FuncId := 103
abbrev i_ring_Ring_Inc : FuncId := 104
abbrev i_ring_Ring_count : FuncId := 109
abbrev i_ring_Ring_Min : FuncId := 131
abbrev i_ring_Ring_Max : FuncId := 132
@[irreducible] def exec_New_j1 (ro : Ro) (K : KV) : Env → T Obj → Nat → Prop := fun e h nx => ∃ h14, Sub h14 h ∧ K (.tuple #[(e 4), (Value.int IntKind.i64 0)]) h14 (nx + 3)
@[irreducible] def exec_New_L1 (ro : Ro) : PT := fun e h nx Q => bindP (intB .lss (e 19) (e 18)) fun t20_18 => condP t20_18 (bindP (ixSl 2 (e 17) (e 19)) fun t21_19 => bindP (loadA ro h 2 t21_19) fun t22_20 => bindP (zer Tryz.prog y_a2_int) fun z21 => newP h (nx + 3) (.cells z21.cells y_a2_int) fun h22 => bindP (storeN 2 h22 (ptr (nx + 3)) t22_20) fun h23 => bindP (ixArr 2 1 (ptr (nx + 3)) (Value.int IntKind.i64 1)) fun t24_24 => bindP (load1 ro h23 t24_24) fun t25_25 => callP Tryz.prog ro i_ring_New [t25_25] h23 (nx + 8) fun t26_26 h27 n28 => bindP (nth 0 t26_26) fun t27_29 => bindP (nth 1 t26_26) fun t28_30 => bindP (intB .neq t28_30 (Value.int IntKind.i64 0)) fun t30_31 => condP t30_31 (Q .ret (puts e [(20, t20_18), (21, t21_19), (22, t22_20), (6, (ptr (nx + 3))), (24, t24_24), (25, t25_25), (26, t26_26), (23, t26_26), (27, t27_29), (28, t28_30), (7, t27_29), (8, t28_30), (29, t28_30), (30, t30_31), (31, t28_30), (2, (Value.pointer none)), (3, t28_30)]) h27 (n28 + 10)) (bindP (nilCk (e 4)) fun t34_32 => bindP (fwdP 260 t34_32) fun t35_33 => bindP (load1 ro h27 t35_33) fun t36_34 => bindP (sliceLitV Tryz.prog y_s_p_ring_Ring (n28 + 13) 1 [(0, t27_29)]) fun r35 => optP h27 (n28 + 13) r35.2 fun h36 => bindP (appendV Tryz.prog ro h36 (n28 + 15) #[y_s_p_ring_Ring, y_s_p_ring_Ring] [t36_34, r35.1]) fun r37 => bindP (nilCk (e 4)) fun t40_38 => bindP (fwdP 260 t40_38) fun t41_39 => bindP (storeN 1 r37.2.1 t41_39 r37.1) fun h40 => bindP (intB .add (e 19) (Value.int IntKind.i64 1)) fun t42_41 => Q .normal (puts e [(20, t20_18), (21, t21_19), (22, t22_20), (6, (ptr (nx + 3))), (24, t24_24), (25, t25_25), (26, t26_26), (23, t26_26), (27, t27_29), (28, t28_30), (7, t27_29), (8, t28_30), (29, t28_30), (30, t30_31), (32, (e 4)), (33, (e 4)), (34, t34_32), (35, t35_33), (36, t36_34), (37, t27_29), (38, r35.1), (39, r37.1), (40, t40_38), (41, t41_39), (42, t42_41), (19, t42_41)]) h40 (r37.2.2 + 5))) (Q (.exit 0) (puts e [(20, t20_18)]) h (nx + 1))
@[irreducible] def exec_New (ro : Ro) (v0 : Value) (h : T Obj) (nx : Nat) (K : KV) : Prop := newP h nx (.cells (Value.cells v0) y_api_Auto) fun h1 => bindP (loadA ro h1 259 (ptr nx)) fun t9_2 => callP Tryz.prog ro i_auto_Right [t9_2] h1 (nx + 5) fun t10_3 h4 n5 => bindP (unV .not t10_3) fun t11_6 => condP t11_6 (∃ h7, Sub h7 h4 ∧ K (.tuple #[(Value.pointer none), (Value.int IntKind.i64 1)]) h7 (n5 + 3)) (bindP (loadA ro h4 259 (ptr nx)) fun t12_8 => callP Tryz.prog ro i_exec_copied [t12_8] h4 (n5 + 3) fun t13_9 h10 n11 => bindP (buildV Tryz.prog y_exec_Machine [(0, t13_9)]) fun t14_12 => newP h10 (n11 + 1) (.cells (Value.cells t14_12) y_exec_Machine) fun h13 => bindP (fwdP 257 (ptr nx)) fun t16_15 => bindP (load1 ro h13 t16_15) fun t17_16 => bindP (lenSl t17_16) fun t18_17 => loopP (exec_New_L1 ro) (puts (entE [v0]) [(1, (ptr nx)), (2, (Value.pointer none)), (3, (Value.int IntKind.i64 0)), (9, t9_2), (10, t10_3), (11, t11_6), (12, t12_8), (13, t13_9), (14, t14_12), (15, (ptr (n11 + 1))), (4, (ptr (n11 + 1))), (16, t16_15), (17, t17_16), (18, t18_17), (19, (Value.int IntKind.i64 0))]) h13 (n11 + 7) fun x45 e42 h43 n44 => exP x45 (exec_New_j1 ro K e42 h43 n44) (fun i46 => beqP (Nat.beq i46 0) (exec_New_j1 ro K e42 h43 n44) (False)) (∃ h47, Sub h47 h43 ∧ K (.tuple #[(e42 2), (e42 3)]) h47 n44))
theorem exec_New_eq (ro : Ro) (v0 : Value) (h : T Obj) (nx : Nat) (K : KV) : callPre Tryz.prog ro (callP Tryz.prog ro) Tryz.f15 [v0] h nx K = exec_New ro v0 h nx K := by kernel_rfl
theorem exec_New_of {ro : Ro} {v0 : Value} {h : T Obj} {nx : Nat} {K : KV} (hw : exec_New ro v0 h nx K) : callP Tryz.prog ro i_exec_New [v0] h nx K := callP_by (P := Tryz.prog) (fn := Tryz.f15) (by kernel_rfl) (by kernel_rfl) (by kernel_rfl) (Eq.mpr (exec_New_eq ro v0 h nx K) hw)
@[irreducible] def law13_few_j1 (ro : Ro) (K : KV) : Env → T Obj → Nat → Prop := fun e h nx => bindP (fwdP 258 (e 1)) fun t17_4 => bindP (load1 ro h t17_4) fun t18_5 => bindP (lenSl t18_5) fun t19_6 => bindP (intB .gtr t19_6 (Value.int IntKind.i64 60)) fun t20_7 => condP t20_7 (bindP (buildV Tryz.prog y_api_Auto []) fun t21_8 => bindP (storeN 259 h (e 2) t21_8) fun h9 => bindP (loadA ro h9 259 (e 2)) fun r10 => ∃ h11, Sub h11 h9 ∧ K r10 h11 (nx + 6)) (bindP (loadA ro h 259 (e 1)) fun t22_12 => bindP (storeN 259 h (e 2) t22_12) fun h13 => bindP (loadA ro h13 259 (e 2)) fun r14 => ∃ h15, Sub h15 h13 ∧ K r14 h15 (nx + 6))
@[irreducible] def law13_few_L1 (ro : Ro) : PT := fun e h nx Q => bindP (intB .lss (e 8) (e 7)) fun t9_19 => condP t9_19 (bindP (ixSl 2 (e 6) (e 8)) fun t10_20 => bindP (loadA ro h 2 t10_20) fun t11_21 => bindP (zer Tryz.prog y_a2_int) fun z22 => newP h (nx + 3) (.cells z22.cells y_a2_int) fun h23 => bindP (storeN 2 h23 (ptr (nx + 3)) t11_21) fun h24 => bindP (ixArr 2 1 (ptr (nx + 3)) (Value.int IntKind.i64 1)) fun t12_25 => bindP (load1 ro h24 t12_25) fun t13_26 => bindP (intB .gtr t13_26 (Value.int IntKind.i64 200)) fun t14_27 => condP t14_27 (bindP (buildV Tryz.prog y_api_Auto []) fun t15_28 => bindP (storeN 259 h24 (e 2) t15_28) fun h29 => Q .ret (puts e [(9, t9_19), (10, t10_20), (11, t11_21), (4, (ptr (nx + 3))), (12, t12_25), (13, t13_26), (14, t14_27), (15, t15_28)]) h29 (nx + 10)) (bindP (intB .add (e 8) (Value.int IntKind.i64 1)) fun t16_30 => Q .normal (puts e [(9, t9_19), (10, t10_20), (11, t11_21), (4, (ptr (nx + 3))), (12, t12_25), (13, t13_26), (14, t14_27), (16, t16_30), (8, t16_30)]) h24 (nx + 10))) (Q (.exit 0) (puts e [(9, t9_19)]) h (nx + 1))
@[irreducible] def law13_few (ro : Ro) (v0 : Value) (h : T Obj) (nx : Nat) (K : KV) : Prop := newP h nx (.cells (Value.cells v0) y_api_Auto) fun h1 => bindP (zer Tryz.prog y_api_Auto) fun z2 => newP h1 (nx + 1) (.cells z2.cells y_api_Auto) fun h3 => bindP (fwdP 257 (ptr nx)) fun t5_16 => bindP (load1 ro h3 t5_16) fun t6_17 => bindP (lenSl t6_17) fun t7_18 => loopP (law13_few_L1 ro) (puts (entE [v0]) [(1, (ptr nx)), (2, (ptr (nx + 1))), (5, t5_16), (6, t6_17), (7, t7_18), (8, (Value.int IntKind.i64 0))]) h3 (nx + 6) fun x34 e31 h32 n33 => exP x34 (law13_few_j1 ro K e31 h32 n33) (fun i35 => beqP (Nat.beq i35 0) (law13_few_j1 ro K e31 h32 n33) (False)) (bindP (loadA ro h32 259 (e31 2)) fun r36 => ∃ h37, Sub h37 h32 ∧ K r36 h37 n33)
theorem law13_few_eq (ro : Ro) (v0 : Value) (h : T Obj) (nx : Nat) (K : KV) : callPre Tryz.prog ro (callP Tryz.prog ro) Tryz.f18 [v0] h nx K = law13_few ro v0 h nx K := by kernel_rfl
theorem law13_few_of {ro : Ro} {v0 : Value} {h : T Obj} {nx : Nat} {K : KV} (hw : law13_few ro v0 h nx K) : callP Tryz.prog ro i_law13_few [v0] h nx K := callP_by (P := Tryz.prog) (fn := Tryz.f18) (by kernel_rfl) (by kernel_rfl) (by kernel_rfl) (Eq.mpr (law13_few_eq ro v0 h nx K) hw)
@[irreducible] def exec_Machine_Step_j3 (ro : Ro) (K : KV) : Env → T Obj → Nat → Prop := fun e h nx => bindP (fwdP 0 (e 6)) fun t113_53 => bindP (load1 ro h t113_53) fun t114_54 => bindP (intB .neq t114_54 (Value.int IntKind.i64 (-1))) fun t115_55 => ∃ h56, Sub h56 h ∧ K t115_55 h56 (nx + 4)
@[irreducible] def exec_Machine_Step_L1 (ro : Ro) : PT := fun e h nx Q => bindP (intB .lss (e 94) (e 93)) fun t95_58 => condP t95_58 (bindP (ixSl 1 (e 92) (e 94)) fun t97_59 => bindP (load1 ro h t97_59) fun t98_60 => bindP (nilCk (e 0)) fun t100_61 => bindP (fwdP 260 t100_61) fun t101_62 => bindP (load1 ro h t101_62) fun t102_63 => bindP (ixSl 1 t102_63 t98_60) fun t104_64 => bindP (load1 ro h t104_64) fun t105_65 => bindP (fwdP 1 (e 6)) fun t106_66 => bindP (load1 ro h t106_66) fun t107_67 => bindP (ixSl 1 t107_67 (e 94)) fun t109_68 => bindP (load1 ro h t109_68) fun t110_69 => callP Tryz.prog ro i_exec_change [t105_65, t110_69] h (nx + 19) fun t111_70 h71 n72 => bindP (intB .add (e 94) (Value.int IntKind.i64 1)) fun t112_73 => Q .normal (puts e [(95, t95_58), (96, (e 94)), (97, t97_59), (98, t98_60), (10, (e 94)), (11, t98_60), (99, (e 0)), (100, t100_61), (101, t101_62), (102, t102_63), (103, t98_60), (104, t104_64), (105, t105_65), (106, t106_66), (107, t107_67), (108, (e 94)), (109, t109_68), (110, t110_69), (111, t111_70), (112, t112_73), (94, t112_73)]) h71 (n72 + 2)) (Q (.exit 2) (puts e [(95, t95_58)]) h (nx + 1))
@[irreducible] def exec_Machine_Step_j2 (ro : Ro) (K : KV) : Env → T Obj → Nat → Prop := fun e h nx => bindP (lenSl (e 7)) fun t93_57 => loopP (exec_Machine_Step_L1 ro) (puts e [(92, (e 7)), (93, t93_57), (94, (Value.int IntKind.i64 0))]) h (nx + 3) fun x77 e74 h75 n76 => exP x77 (exec_Machine_Step_j3 ro K e74 h75 n76) (fun i78 => beqP (Nat.beq i78 2) (exec_Machine_Step_j3 ro K e74 h75 n76) (False)) (∃ h79, Sub h79 h75 ∧ K (e74 4) h79 n76)
@[irreducible] def exec_Machine_Step_j4 (ro : Ro) (Q : KE) : Env → T Obj → Nat → Prop := fun e h nx => bindP (intB .add (e 75) (Value.int IntKind.i64 1)) fun t91_84 => Q .normal (puts e [(91, t91_84), (75, t91_84)]) h (nx + 2)
@[irreducible] def exec_Machine_Step_L2 (ro : Ro) : PT := fun e h nx Q => bindP (intB .lss (e 75) (e 74)) fun t76_83 => condP t76_83 (bindP (ixSl 1 (e 73) (e 75)) fun t77_85 => bindP (load1 ro h t77_85) fun t78_86 => callP Tryz.prog ro i_slices_Contains_int_int [(e 7), t78_86] h (nx + 7) fun t81_87 h88 n89 => bindP (unV .not t81_87) fun t82_90 => condP t82_90 (bindP (nilCk (e 0)) fun t84_91 => bindP (fwdP 260 t84_91) fun t85_92 => bindP (load1 ro h88 t85_92) fun t86_93 => bindP (ixSl 1 t86_93 t78_86) fun t88_94 => bindP (load1 ro h88 t88_94) fun t89_95 => callP Tryz.prog ro i_ring_Ring_Clear [t89_95] h88 (n89 + 9) fun t90_96 h97 n98 => exec_Machine_Step_j4 ro Q (puts e [(76, t76_83), (77, t77_85), (78, t78_86), (9, t78_86), (79, (e 7)), (80, t78_86), (81, t81_87), (82, t82_90), (83, (e 0)), (84, t84_91), (85, t85_92), (86, t86_93), (87, t78_86), (88, t88_94), (89, t89_95), (90, t90_96)]) h97 n98) (exec_Machine_Step_j4 ro Q (puts e [(76, t76_83), (77, t77_85), (78, t78_86), (9, t78_86), (79, (e 7)), (80, t78_86), (81, t81_87), (82, t82_90)]) h88 (n89 + 1))) (Q (.exit 0) (puts e [(76, t76_83)]) h (nx + 1))
@[irreducible] def exec_Machine_Step_j1 (ro : Ro) (K : KV) : Env → T Obj → Nat → Prop := fun e h nx => bindP (fwdP 1 (e 5)) fun t72_80 => bindP (load1 ro h t72_80) fun t73_81 => bindP (lenSl t73_81) fun t74_82 => loopP (exec_Machine_Step_L2 ro) (puts e [(72, t72_80), (73, t73_81), (74, t74_82), (75, (Value.int IntKind.i64 0))]) h (nx + 4) fun x102 e99 h100 n101 => exP x102 (exec_Machine_Step_j2 ro K e99 h100 n101) (fun i103 => beqP (Nat.beq i103 0) (exec_Machine_Step_j2 ro K e99 h100 n101) (False)) (∃ h104, Sub h104 h100 ∧ K (e99 4) h104 n101)
@[irreducible] def exec_Machine_Step (ro : Ro) (v0 v1 : Value) (h : T Obj) (nx : Nat) (K : KV) : Prop := callP Tryz.prog ro i_exec_Machine_State [v0] h (nx + 3) fun t13_1 h2 n3 => bindP (intB .eql t13_1 (Value.int IntKind.i64 (-1))) fun t14_4 => condP t14_4 (∃ h5, Sub h5 h2 ∧ K (Value.bool false) h5 (n3 + 2)) (bindP (nilCk v0) fun t16_6 => bindP (fwdP 0 t16_6) fun t17_7 => bindP (fwdP 258 t17_7) fun t18_8 => bindP (load1 ro h2 t18_8) fun t19_9 => bindP (nilCk v0) fun t21_10 => bindP (fwdP 259 t21_10) fun t22_11 => bindP (load1 ro h2 t22_11) fun t23_12 => bindP (ixSl 4 t19_9 t23_12) fun t24_13 => bindP (loadA ro h2 4 t24_13) fun t25_14 => bindP (zer Tryz.prog y_api_State) fun z15 => newP h2 (n3 + 12) (.cells z15.cells y_api_State) fun h16 => bindP (storeN 4 h16 (ptr (n3 + 12)) t25_14) fun h17 => bindP (fwdP 3 (ptr (n3 + 12))) fun t26_18 => bindP (load1 ro h17 t26_18) fun t27_19 => bindP (loadA ro h17 4 (ptr (n3 + 12))) fun t29_20 => callP Tryz.prog ro i_exec_Machine_code [v0, t29_20] h17 (n3 + 33) fun t30_21 h22 n23 => (sameV t26_18 h17 h22) ∧ (bindP (ixSl 1 t27_19 t30_21) fun t31_24 => bindP (load1 ro h22 t31_24) fun t32_25 => bindP (nilCk v0) fun t35_26 => bindP (fwdP 0 t35_26) fun t36_27 => bindP (fwdP 0 t36_27) fun t37_28 => bindP (fwdP 0 t37_28) fun t38_29 => bindP (ixArr 256 1 t38_29 v1) fun t39_30 => bindP (load1 ro h22 t39_30) fun t40_31 => (sameV t39_30 h17 h22) ∧ (bindP (ixSl 2 t32_25 t40_31) fun t41_32 => bindP (loadA ro h22 2 t41_32) fun t42_33 => bindP (zer Tryz.prog y_api_Move) fun z34 => newP h22 (n3 + 31) (.cells z34.cells y_api_Move) fun h35 => bindP (storeN 2 h35 (ptr (n3 + 31)) t42_33) fun h36 => bindP (nilCk v0) fun t44_37 => bindP (fwdP 261 t44_37) fun t45_38 => bindP (load1 ro h36 t45_38) fun t46_39 => bindP (fwdP 1 (ptr (n3 + 12))) fun t47_40 => bindP (load1 ro h36 t47_40) fun t48_41 => bindP (lenSl t48_41) fun t49_42 => bindP (intB .add (Value.int IntKind.i64 1) t49_42) fun t50_43 => bindP (intB .add t46_39 t50_43) fun t51_44 => bindP (nilCk v0) fun t52_45 => bindP (fwdP 261 t52_45) fun t53_46 => bindP (storeN 1 h36 t53_46 t51_44) fun h47 => bindP (fwdP 0 (ptr (n3 + 31))) fun t55_48 => bindP (load1 ro h47 t55_48) fun t56_49 => bindP (nilCk v0) fun t57_50 => bindP (fwdP 259 t57_50) fun t58_51 => bindP (storeN 1 h47 t58_51 t56_49) fun h52 => bindP (fwdP 0 (ptr (n3 + 31))) fun t59_105 => bindP (load1 ro h52 t59_105) fun t60_106 => bindP (intB .neq t60_106 (Value.int IntKind.i64 (-1))) fun t61_107 => condP t61_107 (bindP (nilCk v0) fun t63_108 => bindP (fwdP 0 t63_108) fun t64_109 => bindP (fwdP 258 t64_109) fun t65_110 => bindP (load1 ro h52 t65_110) fun t66_111 => bindP (fwdP 0 (ptr (n3 + 31))) fun t67_112 => bindP (load1 ro h52 t67_112) fun t68_113 => bindP (ixSl 4 t66_111 t68_113) fun t69_114 => bindP (fwdP 1 t69_114) fun t70_115 => bindP (load1 ro h52 t70_115) fun t71_116 => exec_Machine_Step_j1 ro K (puts (entE [v0, v1]) [(4, (Value.bool false)), (12, v0), (13, t13_1), (14, t14_4), (15, v0), (16, t16_6), (17, t17_7), (18, t18_8), (19, t19_9), (20, v0), (21, t21_10), (22, t22_11), (23, t23_12), (24, t24_13), (25, t25_14), (5, (ptr (n3 + 12))), (26, t26_18), (27, t27_19), (28, v0), (29, t29_20), (30, t30_21), (31, t31_24), (32, t32_25), (33, v0), (34, v1), (35, t35_26), (36, t36_27), (37, t37_28), (38, t38_29), (39, t39_30), (40, t40_31), (41, t41_32), (42, t42_33), (6, (ptr (n3 + 31))), (43, v0), (44, t44_37), (45, t45_38), (46, t46_39), (47, t47_40), (48, t48_41), (49, t49_42), (50, t50_43), (51, t51_44), (52, t52_45), (53, t53_46), (54, v0), (55, t55_48), (56, t56_49), (57, t57_50), (58, t58_51), (7, (Value.slice none 0 0)), (59, t59_105), (60, t60_106), (61, t61_107), (62, v0), (63, t63_108), (64, t64_109), (65, t65_110), (66, t66_111), (67, t67_112), (68, t68_113), (69, t69_114), (70, t70_115), (71, t71_116), (7, t71_116)]) h52 (n23 + 33)) (exec_Machine_Step_j1 ro K (puts (entE [v0, v1]) [(4, (Value.bool false)), (12, v0), (13, t13_1), (14, t14_4), (15, v0), (16, t16_6), (17, t17_7), (18, t18_8), (19, t19_9), (20, v0), (21, t21_10), (22, t22_11), (23, t23_12), (24, t24_13), (25, t25_14), (5, (ptr (n3 + 12))), (26, t26_18), (27, t27_19), (28, v0), (29, t29_20), (30, t30_21), (31, t31_24), (32, t32_25), (33, v0), (34, v1), (35, t35_26), (36, t36_27), (37, t37_28), (38, t38_29), (39, t39_30), (40, t40_31), (41, t41_32), (42, t42_33), (6, (ptr (n3 + 31))), (43, v0), (44, t44_37), (45, t45_38), (46, t46_39), (47, t47_40), (48, t48_41), (49, t49_42), (50, t50_43), (51, t51_44), (52, t52_45), (53, t53_46), (54, v0), (55, t55_48), (56, t56_49), (57, t57_50), (58, t58_51), (7, (Value.slice none 0 0)), (59, t59_105), (60, t60_106), (61, t61_107)]) h52 (n23 + 22)))))
theorem exec_Machine_Step_eq (ro : Ro) (v0 v1 : Value) (h : T Obj) (nx : Nat) (K : KV) : callPre Tryz.prog ro (callP Tryz.prog ro) Tryz.f19 [v0, v1] h nx K = exec_Machine_Step ro v0 v1 h nx K := by kernel_rfl
theorem exec_Machine_Step_of {ro : Ro} {v0 v1 : Value} {h : T Obj} {nx : Nat} {K : KV} (hw : exec_Machine_Step ro v0 v1 h nx K) : callP Tryz.prog ro i_exec_Machine_Step [v0, v1] h nx K := callP_by (P := Tryz.prog) (fn := Tryz.f19) (by kernel_rfl) (by kernel_rfl) (by kernel_rfl) (Eq.mpr (exec_Machine_Step_eq ro v0 v1 h nx K) hw)
@[irreducible] def exec_Machine_Reset_j1 (ro : Ro) (Q : KE) : Env → T Obj → Nat → Prop := fun e h nx => bindP (intB .add (e 14) (Value.int IntKind.i64 1)) fun t23_11 => Q .normal (puts e [(23, t23_11), (14, t23_11)]) h (nx + 2)
@[irreducible] def exec_Machine_Reset_L1 (ro : Ro) : PT := fun e h nx Q => bindP (intB .lss (e 14) (e 13)) fun t15_10 => condP t15_10 (bindP (ixSl 1 (e 12) (e 14)) fun t16_12 => bindP (load1 ro h t16_12) fun t17_13 => callP Tryz.prog ro i_ring_Ring_Len [t17_13] h (nx + 6) fun t19_14 h15 n16 => bindP (intB .gtr t19_14 (Value.int IntKind.i64 0)) fun t20_17 => condP t20_17 (callP Tryz.prog ro i_ring_Ring_Clear [t17_13] h15 (n16 + 3) fun t22_18 h19 n20 => exec_Machine_Reset_j1 ro Q (puts e [(15, t15_10), (16, t16_12), (17, t17_13), (3, t17_13), (18, t17_13), (19, t19_14), (20, t20_17), (21, t17_13), (22, t22_18)]) h19 n20) (exec_Machine_Reset_j1 ro Q (puts e [(15, t15_10), (16, t16_12), (17, t17_13), (3, t17_13), (18, t17_13), (19, t19_14), (20, t20_17)]) h15 (n16 + 1))) (Q (.exit 0) (puts e [(15, t15_10)]) h (nx + 1))
@[irreducible] def exec_Machine_Reset (ro : Ro) (v0 : Value) (h : T Obj) (nx : Nat) (K : KV) : Prop := bindP (ptrB .eql v0 (Value.pointer none)) fun t5_1 => condP t5_1 (∃ h2, Sub h2 h ∧ K (.tuple #[]) h2 (nx + 2)) (bindP (nilCk v0) fun t7_3 => bindP (fwdP 259 t7_3) fun t8_4 => bindP (storeN 1 h t8_4 (Value.int IntKind.i64 0)) fun h5 => bindP (nilCk v0) fun t10_6 => bindP (fwdP 260 t10_6) fun t11_7 => bindP (load1 ro h5 t11_7) fun t12_8 => bindP (lenSl t12_8) fun t13_9 => loopP (exec_Machine_Reset_L1 ro) (puts (entE [v0]) [(4, v0), (5, t5_1), (6, v0), (7, t7_3), (8, t8_4), (9, v0), (10, t10_6), (11, t11_7), (12, t12_8), (13, t13_9), (14, (Value.int IntKind.i64 0))]) h5 (nx + 12) fun x24 e21 h22 n23 => exP x24 (∃ h27, Sub h27 h22 ∧ K (.tuple #[]) h27 n23) (fun i25 => beqP (Nat.beq i25 0) (∃ h26, Sub h26 h22 ∧ K (.tuple #[]) h26 n23) (False)) (∃ h28, Sub h28 h22 ∧ K (.tuple #[]) h28 n23))
theorem exec_Machine_Reset_eq (ro : Ro) (v0 : Value) (h : T Obj) (nx : Nat) (K : KV) : callPre Tryz.prog ro (callP Tryz.prog ro) Tryz.f20 [v0] h nx K = exec_Machine_Reset ro v0 h nx K := by kernel_rfl
theorem exec_Machine_Reset_of {ro : Ro} {v0 : Value} {h : T Obj} {nx : Nat} {K : KV} (hw : exec_Machine_Reset ro v0 h nx K) : callP Tryz.prog ro i_exec_Machine_Reset [v0] h nx K := callP_by (P := Tryz.prog) (fn := Tryz.f20) (by kernel_rfl) (by kernel_rfl) (by kernel_rfl) (Eq.mpr (exec_Machine_Reset_eq ro v0 h nx K) hw)
@[irreducible] def exec_Machine_State (ro : Ro) (v0 : Value) (h : T Obj) (nx : Nat) (K : KV) : Prop := bindP (ptrB .eql v0 (Value.pointer none)) fun t4_1 => condP t4_1 (∃ h2, Sub h2 h ∧ K (Value.int IntKind.i64 (-1)) h2 (nx + 4)) (bindP (nilCk v0) fun t6_3 => bindP (fwdP 259 t6_3) fun t7_4 => bindP (load1 ro h t7_4) fun t8_5 => ∃ h6, Sub h6 h ∧ K t8_5 h6 (nx + 8))
theorem exec_Machine_State_eq (ro : Ro) (v0 : Value) (h : T Obj) (nx : Nat) (K : KV) : callPre Tryz.prog ro (callP Tryz.prog ro) Tryz.f21 [v0] h nx K = exec_Machine_State ro v0 h nx K := by kernel_rfl
theorem exec_Machine_State_of {ro : Ro} {v0 : Value} {h : T Obj} {nx : Nat} {K : KV} (hw : exec_Machine_State ro v0 h nx K) : callP Tryz.prog ro i_exec_Machine_State [v0] h nx K := callP_by (P := Tryz.prog) (fn := Tryz.f21) (by kernel_rfl) (by kernel_rfl) (by kernel_rfl) (Eq.mpr (exec_Machine_State_eq ro v0 h nx K) hw)
@[irreducible] def exec_Machine_Rule (ro : Ro) (v0 : Value) (h : T Obj) (nx : Nat) (K : KV) : Prop := callP Tryz.prog ro i_exec_Machine_State [v0] h (nx + 3) fun t5_1 h2 n3 => bindP (intB .eql t5_1 (Value.int IntKind.i64 (-1))) fun t6_4 => condP t6_4 (∃ h5, Sub h5 h2 ∧ K (Value.int IntKind.i64 (-1)) h5 (n3 + 2)) (bindP (nilCk v0) fun t8_6 => bindP (fwdP 0 t8_6) fun t9_7 => bindP (fwdP 258 t9_7) fun t10_8 => bindP (load1 ro h2 t10_8) fun t11_9 => bindP (nilCk v0) fun t13_10 => bindP (fwdP 259 t13_10) fun t14_11 => bindP (load1 ro h2 t14_11) fun t15_12 => bindP (ixSl 4 t11_9 t15_12) fun t16_13 => bindP (loadA ro h2 4 t16_13) fun t17_14 => bindP (zer Tryz.prog y_api_State) fun z15 => newP h2 (n3 + 12) (.cells z15.cells y_api_State) fun h16 => bindP (storeN 4 h16 (ptr (n3 + 12)) t17_14) fun h17 => bindP (fwdP 2 (ptr (n3 + 12))) fun t18_18 => bindP (load1 ro h17 t18_18) fun t19_19 => bindP (loadA ro h17 4 (ptr (n3 + 12))) fun t21_20 => callP Tryz.prog ro i_exec_Machine_code [v0, t21_20] h17 (n3 + 22) fun t22_21 h22 n23 => (sameV t18_18 h17 h22) ∧ (bindP (ixSl 1 t19_19 t22_21) fun t23_24 => bindP (load1 ro h22 t23_24) fun t24_25 => ∃ h26, Sub h26 h22 ∧ K t24_25 h26 n23))
theorem exec_Machine_Rule_eq (ro : Ro) (v0 : Value) (h : T Obj) (nx : Nat) (K : KV) : callPre Tryz.prog ro (callP Tryz.prog ro) Tryz.f22 [v0] h nx K = exec_Machine_Rule ro v0 h nx K := by kernel_rfl
theorem exec_Machine_Rule_of {ro : Ro} {v0 : Value} {h : T Obj} {nx : Nat} {K : KV} (hw : exec_Machine_Rule ro v0 h nx K) : callP Tryz.prog ro i_exec_Machine_Rule [v0] h nx K := callP_by (P := Tryz.prog) (fn := Tryz.f22) (by kernel_rfl) (by kernel_rfl) (by kernel_rfl) (Eq.mpr (exec_Machine_Rule_eq ro v0 h nx K) hw)
@[irreducible] def exec_copied_j1 (ro : Ro) (K : KV) : Env → T Obj → Nat → Prop := fun e h nx => bindP (loadA ro h 259 (e 3)) fun t70_15 => bindP (storeN 259 h (e 2) t70_15) fun h16 => bindP (loadA ro h16 259 (e 2)) fun r17 => ∃ h18, Sub h18 h16 ∧ K r17 h18 (nx + 2)
@[irreducible] def exec_copied_j2 (ro : Ro) (Q : KE) : Env → T Obj → Nat → Prop := fun e h nx => bindP (intB .add (e 21) (Value.int IntKind.i64 1)) fun t69_23 => Q .normal (puts e [(69, t69_23), (21, t69_23)]) h (nx + 2)
@[irreducible] def exec_copied_j3 (ro : Ro) (Q : KE) : Env → T Obj → Nat → Prop := fun e h nx => bindP (fwdP 258 (e 3)) fun t63_43 => bindP (load1 ro h t63_43) fun t64_44 => bindP (loadA ro h 4 (e 6)) fun t65_45 => bindP (sliceLitV Tryz.prog y_s_api_State (nx + 3) 1 [(0, t65_45)]) fun r46 => optP h (nx + 3) r46.2 fun h47 => bindP (appendV Tryz.prog ro h47 (nx + 5) #[y_s_api_State, y_s_api_State] [t64_44, r46.1]) fun r48 => bindP (fwdP 258 (e 3)) fun t68_49 => bindP (storeN 1 r48.2.1 t68_49 r48.1) fun h50 => exec_copied_j2 ro Q (puts e [(63, t63_43), (64, t64_44), (65, t65_45), (66, r46.1), (67, r48.1), (68, t68_49)]) h50 (r48.2.2 + 2)
@[irreducible] def exec_copied_j4 (ro : Ro) (Q : KE) : Env → T Obj → Nat → Prop := fun e h nx => bindP (intB .add (e 35) (Value.int IntKind.i64 1)) fun t62_55 => Q .normal (puts e [(62, t62_55), (35, t62_55)]) h (nx + 2)
@[irreducible] def exec_copied_j5 (ro : Ro) (Q : KE) : Env → T Obj → Nat → Prop := fun e h nx => bindP (fwdP 3 (e 6)) fun t56_61 => bindP (load1 ro h t56_61) fun t57_62 => bindP (sliceLitV Tryz.prog y_s_s_api_Move (nx + 3) 1 [(0, (e 9))]) fun r63 => optP h (nx + 3) r63.2 fun h64 => bindP (appendV Tryz.prog ro h64 (nx + 5) #[y_s_s_api_Move, y_s_s_api_Move] [t57_62, r63.1]) fun r65 => bindP (fwdP 3 (e 6)) fun t61_66 => bindP (storeN 1 r65.2.1 t61_66 r65.1) fun h67 => exec_copied_j4 ro Q (puts e [(56, t56_61), (57, t57_62), (58, (e 9)), (59, r63.1), (60, r65.1), (61, t61_66)]) h67 (r65.2.2 + 2)
@[irreducible] def exec_copied_L3 (ro : Ro) : PT := fun e h nx Q => bindP (intB .lss (e 43) (e 42)) fun t44_69 => condP t44_69 (bindP (ixSl 2 (e 41) (e 43)) fun t46_70 => bindP (loadA ro h 2 t46_70) fun t47_71 => bindP (zer Tryz.prog y_api_Move) fun z72 => newP h (nx + 4) (.cells z72.cells y_api_Move) fun h73 => bindP (storeN 2 h73 (ptr (nx + 4)) t47_71) fun h74 => bindP (fwdP 1 (ptr (nx + 4))) fun t50_75 => bindP (load1 ro h74 t50_75) fun t51_76 => callP Tryz.prog ro i_slices_Clone_uint8_uint8 [t51_76] h74 (nx + 12) fun t52_77 h78 n79 => bindP (ixSl 2 (e 9) (e 43)) fun t53_80 => bindP (fwdP 1 t53_80) fun t54_81 => bindP (storeN 1 h78 t54_81 t52_77) fun h82 => bindP (intB .add (e 43) (Value.int IntKind.i64 1)) fun t55_83 => Q .normal (puts e [(44, t44_69), (45, (e 43)), (46, t46_70), (47, t47_71), (11, (ptr (nx + 4))), (10, (e 43)), (48, (e 9)), (49, (e 43)), (50, t50_75), (51, t51_76), (52, t52_77), (53, t53_80), (54, t54_81), (55, t55_83), (43, t55_83)]) h82 (n79 + 5)) (Q (.exit 4) (puts e [(44, t44_69)]) h (nx + 1))
@[irreducible] def exec_copied_L2 (ro : Ro) : PT := fun e h nx Q => bindP (intB .lss (e 35) (e 34)) fun t36_54 => condP t36_54 (bindP (ixSl 1 (e 33) (e 35)) fun t37_56 => bindP (load1 ro h t37_56) fun t38_57 => callP Tryz.prog ro i_slices_Clone_api_Move_api_Move [t38_57] h (nx + 6) fun t40_58 h59 n60 => bindP (lenSl t40_58) fun t42_68 => loopP (exec_copied_L3 ro) (puts e [(36, t36_54), (37, t37_56), (38, t38_57), (8, t38_57), (39, t38_57), (40, t40_58), (9, t40_58), (41, t40_58), (42, t42_68), (43, (Value.int IntKind.i64 0))]) h59 (n60 + 4) fun x87 e84 h85 n86 => exP x87 (exec_copied_j5 ro Q e84 h85 n86) (fun i88 => beqP (Nat.beq i88 4) (exec_copied_j5 ro Q e84 h85 n86) (beqP (Nat.beq i88 3) (exec_copied_j4 ro Q e84 h85 n86) (Q (.exit i88) e84 h85 n86))) (Q .ret e84 h85 n86)) (Q (.exit 2) (puts e [(36, t36_54)]) h (nx + 1))
@[irreducible] def exec_copied_L1 (ro : Ro) : PT := fun e h nx Q => bindP (intB .lss (e 21) (e 20)) fun t22_22 => condP t22_22 (bindP (ixSl 4 (e 19) (e 21)) fun t23_24 => bindP (loadA ro h 4 t23_24) fun t24_25 => bindP (zer Tryz.prog y_api_State) fun z26 => newP h (nx + 3) (.cells z26.cells y_api_State) fun h27 => bindP (storeN 4 h27 (ptr (nx + 3)) t24_25) fun h28 => bindP (fwdP 1 (ptr (nx + 3))) fun t25_29 => bindP (load1 ro h28 t25_29) fun t26_30 => callP Tryz.prog ro i_slices_Clone_int_int [t26_30] h28 (nx + 14) fun t27_31 h32 n33 => bindP (fwdP 2 (ptr (nx + 3))) fun t28_34 => bindP (load1 ro h32 t28_34) fun t29_35 => (sameV t28_34 h28 h32) ∧ (callP Tryz.prog ro i_slices_Clone_int_int [t29_35] h32 n33 fun t30_36 h37 n38 => bindP (buildV Tryz.prog y_api_State [(1, t27_31), (2, t30_36)]) fun t31_39 => bindP (zer Tryz.prog y_api_State) fun z40 => newP h37 (nx + 12) (.cells z40.cells y_api_State) fun h41 => bindP (storeN 4 h41 (ptr (nx + 12)) t31_39) fun h42 => bindP (fwdP 3 (ptr (nx + 3))) fun t32_51 => bindP (load1 ro h42 t32_51) fun t33_52 => bindP (lenSl t33_52) fun t34_53 => loopP (exec_copied_L2 ro) (puts e [(22, t22_22), (23, t23_24), (24, t24_25), (5, (ptr (nx + 3))), (25, t25_29), (26, t26_30), (27, t27_31), (28, t28_34), (29, t29_35), (30, t30_36), (31, t31_39), (6, (ptr (nx + 12))), (32, t32_51), (33, t33_52), (34, t34_53), (35, (Value.int IntKind.i64 0))]) h42 (n38 + 4) fun x92 e89 h90 n91 => exP x92 (exec_copied_j3 ro Q e89 h90 n91) (fun i93 => beqP (Nat.beq i93 2) (exec_copied_j3 ro Q e89 h90 n91) (beqP (Nat.beq i93 1) (exec_copied_j2 ro Q e89 h90 n91) (Q (.exit i93) e89 h90 n91))) (Q .ret e89 h90 n91))) (Q (.exit 0) (puts e [(22, t22_22)]) h (nx + 1))
@[irreducible] def exec_copied (ro : Ro) (v0 : Value) (h : T Obj) (nx : Nat) (K : KV) : Prop := newP h nx (.cells (Value.cells v0) y_api_Auto) fun h1 => bindP (zer Tryz.prog y_api_Auto) fun z2 => newP h1 (nx + 1) (.cells z2.cells y_api_Auto) fun h3 => bindP (fwdP 0 (ptr nx)) fun t12_4 => bindP (loadA ro h3 257 t12_4) fun t13_5 => bindP (fwdP 257 (ptr nx)) fun t14_6 => bindP (load1 ro h3 t14_6) fun t15_7 => callP Tryz.prog ro i_slices_Clone_2_int_2_int [t15_7] h3 (nx + 10) fun t16_8 h9 n10 => (sameV t12_4 h3 h9) ∧ (bindP (buildV Tryz.prog y_api_Auto [(0, t13_5), (1, t16_8)]) fun t17_11 => bindP (zer Tryz.prog y_api_Auto) fun z12 => newP h9 (nx + 8) (.cells z12.cells y_api_Auto) fun h13 => bindP (storeN 259 h13 (ptr (nx + 8)) t17_11) fun h14 => bindP (fwdP 258 (ptr nx)) fun t18_19 => bindP (load1 ro h14 t18_19) fun t19_20 => bindP (lenSl t19_20) fun t20_21 => loopP (exec_copied_L1 ro) (puts (entE [v0]) [(1, (ptr nx)), (2, (ptr (nx + 1))), (12, t12_4), (13, t13_5), (14, t14_6), (15, t15_7), (16, t16_8), (17, t17_11), (3, (ptr (nx + 8))), (18, t18_19), (19, t19_20), (20, t20_21), (21, (Value.int IntKind.i64 0))]) h14 (n10 + 4) fun x97 e94 h95 n96 => exP x97 (exec_copied_j1 ro K e94 h95 n96) (fun i98 => beqP (Nat.beq i98 0) (exec_copied_j1 ro K e94 h95 n96) (False)) (bindP (loadA ro h95 259 (e94 2)) fun r99 => ∃ h100, Sub h100 h95 ∧ K r99 h100 n96))
theorem exec_copied_eq (ro : Ro) (v0 : Value) (h : T Obj) (nx : Nat) (K : KV) : callPre Tryz.prog ro (callP Tryz.prog ro) Tryz.f49 [v0] h nx K = exec_copied ro v0 h nx K := by kernel_rfl
theorem exec_copied_of {ro : Ro} {v0 : Value} {h : T Obj} {nx : Nat} {K : KV} (hw : exec_copied ro v0 h nx K) : callP Tryz.prog ro i_exec_copied [v0] h nx K := callP_by (P := Tryz.prog) (fn := Tryz.f49) (by kernel_rfl) (by kernel_rfl) (by kernel_rfl) (Eq.mpr (exec_copied_eq ro v0 h nx K) hw)
@[irreducible] def ring_New (ro : Ro) (v0 : Value) (h : T Obj) (nx : Nat) (K : KV) : Prop := bindP (intB .lss v0 (Value.int IntKind.i64 1)) fun t5_1 => ifP t5_1 false h (nx + 5) (fun k2 => k2 v0 h (nx + 6)) fun t7_3 h4 n5 => ifP t5_1 false h4 n5 (fun k6 => bindP (intB .gtr t7_3 (Value.int IntKind.i64 4096)) fun t8_10 => k6 t8_10 h4 (n5 + 1)) fun t8_7 h8 n9 => bindP (pickV t5_1 (Value.bool true) t8_7) fun t9_11 => condP t9_11 (∃ h12, Sub h12 h8 ∧ K (.tuple #[(Value.pointer none), (Value.int IntKind.i64 1)]) h12 (n9 + 3)) (bindP (makeV Tryz.prog y_s_int (n9 + 2) v0 v0) fun r13 => optP h8 (n9 + 2) r13.2 fun h14 => bindP (buildV Tryz.prog y_ring_Ring [(0, r13.1)]) fun t12_15 => newP h14 (n9 + 4) (.cells (Value.cells t12_15) y_ring_Ring) fun h16 => ∃ h17, Sub h17 h16 ∧ K (.tuple #[(ptr (n9 + 4)), (Value.int IntKind.i64 0)]) h17 (n9 + 7))
theorem ring_New_eq (ro : Ro) (v0 : Value) (h : T Obj) (nx : Nat) (K : KV) : callPre Tryz.prog ro (callP Tryz.prog ro) Tryz.f50 [v0] h nx K = ring_New ro v0 h nx K := by kernel_rfl
theorem ring_New_of {ro : Ro} {v0 : Value} {h : T Obj} {nx : Nat} {K : KV} (hw : ring_New ro v0 h nx K) : callP Tryz.prog ro i_ring_New [v0] h nx K := callP_by (P := Tryz.prog) (fn := Tryz.f50) (by kernel_rfl) (by kernel_rfl) (by kernel_rfl) (Eq.mpr (ring_New_eq ro v0 h nx K) hw)
@[irreducible] def exec_Machine_code_j1 (ro : Ro) (K : KV) : Env → T Obj → Nat → Prop := fun e h nx => ∃ h2, Sub h2 h ∧ K (e 5) h2 (nx + 2)
@[irreducible] def exec_Machine_code_L1 (ro : Ro) : PT := fun e h nx Q => bindP (intB .lss (e 12) (e 11)) fun t13_6 => condP t13_6 (bindP (ixSl 1 (e 10) (e 12)) fun t14_7 => bindP (load1 ro h t14_7) fun t15_8 => callP Tryz.prog ro i_exec_Machine_digit [(e 0), t15_8] h (nx + 9) fun t20_9 h10 n11 => bindP (intB .mul (e 6) t20_9) fun t21_12 => bindP (intB .add (e 5) t21_12) fun t22_13 => bindP (intB .mul (e 6) (Value.int IntKind.i64 3)) fun t24_14 => bindP (intB .add (e 12) (Value.int IntKind.i64 1)) fun t25_15 => Q .normal (puts e [(13, t13_6), (14, t14_7), (15, t15_8), (8, t15_8), (16, (e 5)), (17, (e 6)), (18, (e 0)), (19, t15_8), (20, t20_9), (21, t21_12), (22, t22_13), (5, t22_13), (23, (e 6)), (24, t24_14), (6, t24_14), (25, t25_15), (12, t25_15)]) h10 (n11 + 8)) (Q (.exit 0) (puts e [(13, t13_6)]) h (nx + 1))
@[irreducible] def exec_Machine_code (ro : Ro) (v0 v1 : Value) (h : T Obj) (nx : Nat) (K : KV) : Prop := newP h nx (.cells (Value.cells v1) y_api_State) fun h1 => bindP (fwdP 1 (ptr nx)) fun t9_3 => bindP (load1 ro h1 t9_3) fun t10_4 => bindP (lenSl t10_4) fun t11_5 => loopP (exec_Machine_code_L1 ro) (puts (entE [v0, v1]) [(3, (ptr nx)), (4, (Value.int IntKind.i64 0)), (5, (Value.int IntKind.i64 0)), (6, (Value.int IntKind.i64 1)), (9, t9_3), (10, t10_4), (11, t11_5), (12, (Value.int IntKind.i64 0))]) h1 (nx + 8) fun x19 e16 h17 n18 => exP x19 (exec_Machine_code_j1 ro K e16 h17 n18) (fun i20 => beqP (Nat.beq i20 0) (exec_Machine_code_j1 ro K e16 h17 n18) (False)) (∃ h21, Sub h21 h17 ∧ K (e16 4) h21 n18)
theorem exec_Machine_code_eq (ro : Ro) (v0 v1 : Value) (h : T Obj) (nx : Nat) (K : KV) : callPre Tryz.prog ro (callP Tryz.prog ro) Tryz.f52 [v0, v1] h nx K = exec_Machine_code ro v0 v1 h nx K := by kernel_rfl
theorem exec_Machine_code_of {ro : Ro} {v0 v1 : Value} {h : T Obj} {nx : Nat} {K : KV} (hw : exec_Machine_code ro v0 v1 h nx K) : callP Tryz.prog ro i_exec_Machine_code [v0, v1] h nx K := callP_by (P := Tryz.prog) (fn := Tryz.f52) (by kernel_rfl) (by kernel_rfl) (by kernel_rfl) (Eq.mpr (exec_Machine_code_eq ro v0 v1 h nx K) hw)
@[irreducible] def ring_Ring_Clear (ro : Ro) (v0 : Value) (h : T Obj) (nx : Nat) (K : KV) : Prop := bindP (ptrB .neq v0 (Value.pointer none)) fun t3_1 => condP t3_1 (bindP (nilCk v0) fun t6_2 => bindP (fwdP 1 t6_2) fun t7_3 => bindP (storeN 1 h t7_3 (Value.int IntKind.i64 0)) fun h4 => bindP (nilCk v0) fun t8_5 => bindP (fwdP 2 t8_5) fun t9_6 => bindP (storeN 1 h4 t9_6 (Value.int IntKind.i64 0)) fun h7 => bindP (nilCk v0) fun t11_8 => bindP (fwdP 4 t11_8) fun t12_9 => bindP (load1 ro h7 t12_9) fun t13_10 => bindP (intB .add t13_10 (Value.int IntKind.i64 1)) fun t14_11 => bindP (nilCk v0) fun t15_12 => bindP (fwdP 4 t15_12) fun t16_13 => bindP (storeN 1 h7 t16_13 t14_11) fun h14 => ∃ h15, Sub h15 h14 ∧ K (.tuple #[]) h15 (nx + 18)) (∃ h16, Sub h16 h ∧ K (.tuple #[]) h16 (nx + 2))
theorem ring_Ring_Clear_eq (ro : Ro) (v0 : Value) (h : T Obj) (nx : Nat) (K : KV) : callPre Tryz.prog ro (callP Tryz.prog ro) Tryz.f54 [v0] h nx K = ring_Ring_Clear ro v0 h nx K := by kernel_rfl
theorem ring_Ring_Clear_of {ro : Ro} {v0 : Value} {h : T Obj} {nx : Nat} {K : KV} (hw : ring_Ring_Clear ro v0 h nx K) : callP Tryz.prog ro i_ring_Ring_Clear [v0] h nx K := callP_by (P := Tryz.prog) (fn := Tryz.f54) (by kernel_rfl) (by kernel_rfl) (by kernel_rfl) (Eq.mpr (ring_Ring_Clear_eq ro v0 h nx K) hw)
@[irreducible] def exec_change (ro : Ro) (v0 v1 : Value) (h : T Obj) (nx : Nat) (K : KV) : Prop := bindP (intB .eql v1 (Value.int IntKind.u8 3)) fun t6_1 => condP t6_1 (callP Tryz.prog ro i_ring_Ring_Clear [v0] h (nx + 5) fun t8_2 h3 n4 => callP Tryz.prog ro i_ring_Ring_Put [v0] h3 (n4 + 2) fun t10_5 h6 n7 => ∃ h8, Sub h8 h6 ∧ K (.tuple #[]) h8 n7) (bindP (intB .eql v1 (Value.int IntKind.u8 2)) fun t12_9 => condP t12_9 (callP Tryz.prog ro i_ring_Ring_Inc [v0] h (nx + 7) fun t14_10 h11 n12 => callP Tryz.prog ro i_ring_Ring_Put [v0] h11 (n12 + 2) fun t16_13 h14 n15 => ∃ h16, Sub h16 h14 ∧ K (.tuple #[]) h16 n15) (bindP (intB .eql v1 (Value.int IntKind.u8 1)) fun t18_17 => condP t18_17 (callP Tryz.prog ro i_ring_Ring_Inc [v0] h (nx + 9) fun t20_18 h19 n20 => ∃ h21, Sub h21 h19 ∧ K (.tuple #[]) h21 n20) (∃ h22, Sub h22 h ∧ K (.tuple #[]) h22 (nx + 7))))
theorem exec_change_eq (ro : Ro) (v0 v1 : Value) (h : T Obj) (nx : Nat) (K : KV) : callPre Tryz.prog ro (callP Tryz.prog ro) Tryz.f55 [v0, v1] h nx K = exec_change ro v0 v1 h nx K := by kernel_rfl
theorem exec_change_of {ro : Ro} {v0 v1 : Value} {h : T Obj} {nx : Nat} {K : KV} (hw : exec_change ro v0 v1 h nx K) : callP Tryz.prog ro i_exec_change [v0, v1] h nx K := callP_by (P := Tryz.prog) (fn := Tryz.f55) (by kernel_rfl) (by kernel_rfl) (by kernel_rfl) (Eq.mpr (exec_change_eq ro v0 v1 h nx K) hw)
@[irreducible] def ring_Ring_Len (ro : Ro) (v0 : Value) (h : T Obj) (nx : Nat) (K : KV) : Prop := bindP (ptrB .eql v0 (Value.pointer none)) fun t4_1 => condP t4_1 (∃ h2, Sub h2 h ∧ K (Value.int IntKind.i64 0) h2 (nx + 4)) (bindP (nilCk v0) fun t6_3 => bindP (fwdP 2 t6_3) fun t7_4 => bindP (load1 ro h t7_4) fun t8_5 => ∃ h6, Sub h6 h ∧ K t8_5 h6 (nx + 8))
theorem ring_Ring_Len_eq (ro : Ro) (v0 : Value) (h : T Obj) (nx : Nat) (K : KV) : callPre Tryz.prog ro (callP Tryz.prog ro) Tryz.f56 [v0] h nx K = ring_Ring_Len ro v0 h nx K := by kernel_rfl
theorem ring_Ring_Len_of {ro : Ro} {v0 : Value} {h : T Obj} {nx : Nat} {K : KV} (hw : ring_Ring_Len ro v0 h nx K) : callP Tryz.prog ro i_ring_Ring_Len [v0] h nx K := callP_by (P := Tryz.prog) (fn := Tryz.f56) (by kernel_rfl) (by kernel_rfl) (by kernel_rfl) (Eq.mpr (ring_Ring_Len_eq ro v0 h nx K) hw)
@[irreducible] def exec_Machine_digit (ro : Ro) (v0 v1 : Value) (h : T Obj) (nx : Nat) (K : KV) : Prop := bindP (nilCk v0) fun t11_1 => bindP (fwdP 260 t11_1) fun t12_2 => bindP (load1 ro h t12_2) fun t13_3 => bindP (ixSl 1 t13_3 v1) fun t15_4 => bindP (load1 ro h t15_4) fun t16_5 => callP Tryz.prog ro i_ring_Ring_Min [t16_5] h (nx + 9) fun t17_6 h7 n8 => bindP (nth 0 t17_6) fun t18_9 => bindP (nth 1 t17_6) fun t19_10 => bindP (nilCk v0) fun t22_11 => bindP (fwdP 260 t22_11) fun t23_12 => bindP (load1 ro h7 t23_12) fun t24_13 => bindP (ixSl 1 t24_13 v1) fun t26_14 => bindP (load1 ro h7 t26_14) fun t27_15 => callP Tryz.prog ro i_ring_Ring_Max [t27_15] h7 (n8 + 13) fun t28_16 h17 n18 => bindP (nth 0 t28_16) fun t29_19 => bindP (nth 1 t28_16) fun t30_20 => bindP (unV .not t30_20) fun t33_21 => ifP t33_21 false h17 (n18 + 8) (fun k22 => k22 t29_19 h17 (n18 + 9)) fun t35_23 h24 n25 => ifP t33_21 false h24 n25 (fun k26 => k26 v0 h24 (n25 + 1)) fun t36_27 h28 n29 => ifP t33_21 false h28 n29 (fun k30 => bindP (nilCk t36_27) fun t37_34 => k30 t37_34 h28 (n29 + 1)) fun t37_31 h32 n33 => ifP t33_21 false h32 n33 (fun k35 => bindP (fwdP 0 t37_31) fun t38_39 => k35 t38_39 h32 (n33 + 1)) fun t38_36 h37 n38 => ifP t33_21 false h37 n38 (fun k40 => bindP (fwdP 257 t38_36) fun t39_44 => k40 t39_44 h37 (n38 + 1)) fun t39_41 h42 n43 => ifP t33_21 false h42 n43 (fun k45 => bindP (load1 ro h42 t39_41) fun t40_49 => k45 t40_49 h42 (n43 + 1)) fun t40_46 h47 n48 => ifP t33_21 false h47 n48 (fun k50 => k50 v1 h47 (n48 + 1)) fun t41_51 h52 n53 => ifP t33_21 false h52 n53 (fun k54 => bindP (ixSl 2 t40_46 t41_51) fun t42_58 => k54 t42_58 h52 (n53 + 1)) fun t42_55 h56 n57 => ifP t33_21 false h56 n57 (fun k59 => bindP (ixArr 2 1 t42_55 (Value.int IntKind.i64 0)) fun t43_63 => k59 t43_63 h56 (n57 + 1)) fun t43_60 h61 n62 => ifP t33_21 false h61 n62 (fun k64 => bindP (load1 ro h61 t43_60) fun t44_68 => k64 t44_68 h61 (n62 + 1)) fun t44_65 h66 n67 => ifP t33_21 false h66 n67 (fun k69 => bindP (intB .lss t35_23 t44_65) fun t45_73 => k69 t45_73 h66 (n67 + 1)) fun t45_70 h71 n72 => bindP (pickV t33_21 (Value.bool true) t45_70) fun t46_74 => condP t46_74 (∃ h75, Sub h75 h71 ∧ K (Value.int IntKind.i64 0) h75 (n72 + 3)) (bindP (nilCk v0) fun t50_76 => bindP (fwdP 0 t50_76) fun t51_77 => bindP (fwdP 257 t51_77) fun t52_78 => bindP (load1 ro h71 t52_78) fun t53_79 => bindP (ixSl 2 t53_79 v1) fun t55_80 => bindP (ixArr 2 1 t55_80 (Value.int IntKind.i64 1)) fun t56_81 => bindP (load1 ro h71 t56_81) fun t57_82 => bindP (intB .lss t18_9 t57_82) fun t58_83 => condP t58_83 (∃ h84, Sub h84 h71 ∧ K (Value.int IntKind.i64 2) h84 (n72 + 15)) (∃ h85, Sub h85 h71 ∧ K (Value.int IntKind.i64 1) h85 (n72 + 15)))
theorem exec_Machine_digit_eq (ro : Ro) (v0 v1 : Value) (h : T Obj) (nx : Nat) (K : KV) : callPre Tryz.prog ro (callP Tryz.prog ro) Tryz.f101 [v0, v1] h nx K = exec_Machine_digit ro v0 v1 h nx K := by kernel_rfl
theorem exec_Machine_digit_of {ro : Ro} {v0 v1 : Value} {h : T Obj} {nx : Nat} {K : KV} (hw : exec_Machine_digit ro v0 v1 h nx K) : callP Tryz.prog ro i_exec_Machine_digit [v0, v1] h nx K := callP_by (P := Tryz.prog) (fn := Tryz.f101) (by kernel_rfl) (by kernel_rfl) (by kernel_rfl) (Eq.mpr (exec_Machine_digit_eq ro v0 v1 h nx K) hw)
@[irreducible] def ring_Ring_Put (ro : Ro) (v0 : Value) (h : T Obj) (nx : Nat) (K : KV) : Prop := bindP (ptrB .eql v0 (Value.pointer none)) fun t3_1 => condP t3_1 (∃ h2, Sub h2 h ∧ K (.tuple #[]) h2 (nx + 2)) (bindP (nilCk v0) fun t5_3 => bindP (fwdP 4 t5_3) fun t6_4 => bindP (load1 ro h t6_4) fun t7_5 => bindP (intB .add t7_5 (Value.int IntKind.i64 1)) fun t8_6 => bindP (nilCk v0) fun t9_7 => bindP (fwdP 4 t9_7) fun t10_8 => bindP (storeN 1 h t10_8 t8_6) fun h9 => bindP (nilCk v0) fun t12_10 => bindP (fwdP 2 t12_10) fun t13_11 => bindP (load1 ro h9 t13_11) fun t14_12 => bindP (intB .gtr t14_12 (Value.int IntKind.i64 0)) fun t15_13 => ifP t15_13 true h9 (nx + 16) (fun k14 => k14 v0 h9 (nx + 17)) fun t17_15 h16 n17 => ifP t15_13 true h16 n17 (fun k18 => k18 v0 h16 (n17 + 1)) fun t18_19 h20 n21 => ifP t15_13 true h20 n21 (fun k22 => bindP (nilCk t18_19) fun t19_26 => k22 t19_26 h20 (n21 + 1)) fun t19_23 h24 n25 => ifP t15_13 true h24 n25 (fun k27 => bindP (fwdP 2 t19_23) fun t20_31 => k27 t20_31 h24 (n25 + 1)) fun t20_28 h29 n30 => ifP t15_13 true h29 n30 (fun k32 => bindP (load1 ro h29 t20_28) fun t21_36 => k32 t21_36 h29 (n30 + 1)) fun t21_33 h34 n35 => ifP t15_13 true h34 n35 (fun k37 => bindP (intB .sub t21_33 (Value.int IntKind.i64 1)) fun t22_41 => k37 t22_41 h34 (n35 + 1)) fun t22_38 h39 n40 => ifP t15_13 true h39 n40 (fun k42 => callP Tryz.prog ro i_ring_Ring_count [t17_15, t22_38] h39 (n40 + 1) fun t23_46 h47 n48 => k42 t23_46 h47 n48) fun t23_43 h44 n45 => ifP t15_13 true h44 n45 (fun k49 => bindP (intB .eql t23_43 (Value.int IntKind.i64 1)) fun t24_53 => k49 t24_53 h44 (n45 + 1)) fun t24_50 h51 n52 => bindP (pickV t15_13 t24_50 (Value.bool false)) fun t25_54 => condP t25_54 (∃ h55, Sub h55 h51 ∧ K (.tuple #[]) h55 (n52 + 1)) (bindP (nilCk v0) fun t27_56 => bindP (fwdP 0 t27_56) fun t28_57 => bindP (load1 ro h51 t28_57) fun t29_58 => bindP (nilCk v0) fun t31_59 => bindP (fwdP 1 t31_59) fun t32_60 => bindP (load1 ro h51 t32_60) fun t33_61 => bindP (nilCk v0) fun t35_62 => bindP (fwdP 2 t35_62) fun t36_63 => bindP (load1 ro h51 t36_63) fun t37_64 => bindP (intB .add t33_61 t37_64) fun t38_65 => bindP (nilCk v0) fun t40_66 => bindP (fwdP 0 t40_66) fun t41_67 => bindP (load1 ro h51 t41_67) fun t42_68 => bindP (lenSl t42_68) fun t43_69 => bindP (intB .rem t38_65 t43_69) fun t44_70 => bindP (nilCk v0) fun t46_71 => bindP (fwdP 3 t46_71) fun t47_72 => bindP (load1 ro h51 t47_72) fun t48_73 => bindP (ixSl 1 t29_58 t44_70) fun t49_74 => bindP (storeN 1 h51 t49_74 t48_73) fun h75 => bindP (nilCk v0) fun t51_76 => bindP (fwdP 2 t51_76) fun t52_77 => bindP (load1 ro h75 t52_77) fun t53_78 => bindP (intB .add t53_78 (Value.int IntKind.i64 1)) fun t54_79 => bindP (nilCk v0) fun t55_80 => bindP (fwdP 2 t55_80) fun t56_81 => bindP (storeN 1 h75 t56_81 t54_79) fun h82 => ∃ h83, Sub h83 h82 ∧ K (.tuple #[]) h83 (n52 + 34)))
theorem ring_Ring_Put_eq (ro : Ro) (v0 : Value) (h : T Obj) (nx : Nat) (K : KV) : callPre Tryz.prog ro (callP Tryz.prog ro) Tryz.f103 [v0] h nx K = ring_Ring_Put ro v0 h nx K := by kernel_rfl
theorem ring_Ring_Put_of {ro : Ro} {v0 : Value} {h : T Obj} {nx : Nat} {K : KV} (hw : ring_Ring_Put ro v0 h nx K) : callP Tryz.prog ro i_ring_Ring_Put [v0] h nx K := callP_by (P := Tryz.prog) (fn := Tryz.f103) (by kernel_rfl) (by kernel_rfl) (by kernel_rfl) (Eq.mpr (ring_Ring_Put_eq ro v0 h nx K) hw)
@[irreducible] def ring_Ring_Inc (ro : Ro) (v0 : Value) (h : T Obj) (nx : Nat) (K : KV) : Prop := bindP (ptrB .eql v0 (Value.pointer none)) fun t3_1 => condP t3_1 (∃ h2, Sub h2 h ∧ K (.tuple #[]) h2 (nx + 2)) (bindP (nilCk v0) fun t5_3 => bindP (fwdP 4 t5_3) fun t6_4 => bindP (load1 ro h t6_4) fun t7_5 => bindP (intB .add t7_5 (Value.int IntKind.i64 1)) fun t8_6 => bindP (nilCk v0) fun t9_7 => bindP (fwdP 4 t9_7) fun t10_8 => bindP (storeN 1 h t10_8 t8_6) fun h9 => bindP (nilCk v0) fun t12_10 => bindP (fwdP 3 t12_10) fun t13_11 => bindP (load1 ro h9 t13_11) fun t14_12 => bindP (intB .add t14_12 (Value.int IntKind.i64 1)) fun t15_13 => bindP (nilCk v0) fun t16_14 => bindP (fwdP 3 t16_14) fun t17_15 => bindP (storeN 1 h9 t17_15 t15_13) fun h16 => bindP (nilCk v0) fun t19_17 => bindP (fwdP 2 t19_17) fun t20_18 => bindP (load1 ro h16 t20_18) fun t21_19 => bindP (intB .gtr t21_19 (Value.int IntKind.i64 0)) fun t22_20 => ifP t22_20 true h16 (nx + 33) (fun k21 => k21 v0 h16 (nx + 33)) fun t24_22 h23 n24 => ifP t22_20 true h23 n24 (fun k25 => callP Tryz.prog ro i_ring_Ring_count [t24_22, (Value.int IntKind.i64 0)] h23 n24 fun t25_29 h30 n31 => k25 t25_29 h30 n31) fun t25_26 h27 n28 => ifP t22_20 true h27 n28 (fun k32 => k32 v0 h27 n28) fun t26_33 h34 n35 => ifP t22_20 true h34 n35 (fun k36 => bindP (nilCk t26_33) fun t27_40 => k36 t27_40 h34 n35) fun t27_37 h38 n39 => ifP t22_20 true h38 n39 (fun k41 => bindP (fwdP 0 t27_37) fun t28_45 => k41 t28_45 h38 n39) fun t28_42 h43 n44 => ifP t22_20 true h43 n44 (fun k46 => bindP (load1 ro h43 t28_42) fun t29_50 => (onP (some (t22_20, true)) (sameV t28_42 h23 h27)) ∧ (k46 t29_50 h43 n44)) fun t29_47 h48 n49 => ifP t22_20 true h48 n49 (fun k51 => bindP (lenSl t29_47) fun t30_55 => k51 t30_55 h48 n49) fun t30_52 h53 n54 => ifP t22_20 true h53 n54 (fun k56 => bindP (intB .gtr t25_26 t30_52) fun t31_60 => k56 t31_60 h53 n54) fun t31_57 h58 n59 => bindP (pickV t22_20 t31_57 (Value.bool false)) fun t32_61 => condP t32_61 (bindP (nilCk v0) fun t35_62 => bindP (fwdP 1 t35_62) fun t36_63 => bindP (load1 ro h58 t36_63) fun t37_64 => bindP (intB .add t37_64 (Value.int IntKind.i64 1)) fun t38_65 => bindP (nilCk v0) fun t40_66 => bindP (fwdP 0 t40_66) fun t41_67 => bindP (load1 ro h58 t41_67) fun t42_68 => bindP (lenSl t42_68) fun t43_69 => bindP (intB .rem t38_65 t43_69) fun t44_70 => bindP (nilCk v0) fun t45_71 => bindP (fwdP 1 t45_71) fun t46_72 => bindP (storeN 1 h58 t46_72 t44_70) fun h73 => bindP (nilCk v0) fun t48_74 => bindP (fwdP 2 t48_74) fun t49_75 => bindP (load1 ro h73 t49_75) fun t50_76 => bindP (intB .sub t50_76 (Value.int IntKind.i64 1)) fun t51_77 => bindP (nilCk v0) fun t52_78 => bindP (fwdP 2 t52_78) fun t53_79 => bindP (storeN 1 h73 t53_79 t51_77) fun h80 => ∃ h81, Sub h81 h80 ∧ K (.tuple #[]) h81 (n59 + 23)) (∃ h82, Sub h82 h58 ∧ K (.tuple #[]) h82 n59))
theorem ring_Ring_Inc_eq (ro : Ro) (v0 : Value) (h : T Obj) (nx : Nat) (K : KV) : callPre Tryz.prog ro (callP Tryz.prog ro) Tryz.f104 [v0] h nx K = ring_Ring_Inc ro v0 h nx K := by kernel_rfl
theorem ring_Ring_Inc_of {ro : Ro} {v0 : Value} {h : T Obj} {nx : Nat} {K : KV} (hw : ring_Ring_Inc ro v0 h nx K) : callP Tryz.prog ro i_ring_Ring_Inc [v0] h nx K := callP_by (P := Tryz.prog) (fn := Tryz.f104) (by kernel_rfl) (by kernel_rfl) (by kernel_rfl) (Eq.mpr (ring_Ring_Inc_eq ro v0 h nx K) hw)
@[irreducible] def ring_Ring_count (ro : Ro) (v0 v1 : Value) (h : T Obj) (nx : Nat) (K : KV) : Prop := bindP (nilCk v0) fun t6_1 => bindP (fwdP 3 t6_1) fun t7_2 => bindP (load1 ro h t7_2) fun t8_3 => bindP (nilCk v0) fun t10_4 => bindP (fwdP 0 t10_4) fun t11_5 => bindP (load1 ro h t11_5) fun t12_6 => bindP (nilCk v0) fun t14_7 => bindP (fwdP 1 t14_7) fun t15_8 => bindP (load1 ro h t15_8) fun t16_9 => bindP (intB .add t16_9 v1) fun t18_10 => bindP (nilCk v0) fun t20_11 => bindP (fwdP 0 t20_11) fun t21_12 => bindP (load1 ro h t21_12) fun t22_13 => bindP (lenSl t22_13) fun t23_14 => bindP (intB .rem t18_10 t23_14) fun t24_15 => bindP (ixSl 1 t12_6 t24_15) fun t25_16 => bindP (load1 ro h t25_16) fun t26_17 => bindP (intB .sub t8_3 t26_17) fun t27_18 => bindP (intB .add t27_18 (Value.int IntKind.i64 1)) fun t28_19 => ∃ h20, Sub h20 h ∧ K t28_19 h20 (nx + 26)
theorem ring_Ring_count_eq (ro : Ro) (v0 v1 : Value) (h : T Obj) (nx : Nat) (K : KV) : callPre Tryz.prog ro (callP Tryz.prog ro) Tryz.f109 [v0, v1] h nx K = ring_Ring_count ro v0 v1 h nx K := by kernel_rfl
theorem ring_Ring_count_of {ro : Ro} {v0 v1 : Value} {h : T Obj} {nx : Nat} {K : KV} (hw : ring_Ring_count ro v0 v1 h nx K) : callP Tryz.prog ro i_ring_Ring_count [v0, v1] h nx K := callP_by (P := Tryz.prog) (fn := Tryz.f109) (by kernel_rfl) (by kernel_rfl) (by kernel_rfl) (Eq.mpr (ring_Ring_count_eq ro v0 v1 h nx K) hw)
@[irreducible] def ring_Ring_Min (ro : Ro) (v0 : Value) (h : T Obj) (nx : Nat) (K : KV) : Prop := callP Tryz.prog ro i_ring_Ring_Len [v0] h (nx + 4) fun t5_1 h2 n3 => bindP (intB .eql t5_1 (Value.int IntKind.i64 0)) fun t6_4 => condP t6_4 (∃ h5, Sub h5 h2 ∧ K (.tuple #[(Value.int IntKind.i64 0), (Value.bool false)]) h5 (n3 + 3)) (bindP (nilCk v0) fun t9_6 => bindP (fwdP 2 t9_6) fun t10_7 => bindP (load1 ro h2 t10_7) fun t11_8 => bindP (intB .sub t11_8 (Value.int IntKind.i64 1)) fun t12_9 => callP Tryz.prog ro i_ring_Ring_count [v0, t12_9] h2 (n3 + 8) fun t13_10 h11 n12 => ∃ h13, Sub h13 h11 ∧ K (.tuple #[t13_10, (Value.bool true)]) h13 (n12 + 2))
theorem ring_Ring_Min_eq (ro : Ro) (v0 : Value) (h : T Obj) (nx : Nat) (K : KV) : callPre Tryz.prog ro (callP Tryz.prog ro) Tryz.f131 [v0] h nx K = ring_Ring_Min ro v0 h nx K := by kernel_rfl
theorem ring_Ring_Min_of {ro : Ro} {v0 : Value} {h : T Obj} {nx : Nat} {K : KV} (hw : ring_Ring_Min ro v0 h nx K) : callP Tryz.prog ro i_ring_Ring_Min [v0] h nx K := callP_by (P := Tryz.prog) (fn := Tryz.f131) (by kernel_rfl) (by kernel_rfl) (by kernel_rfl) (Eq.mpr (ring_Ring_Min_eq ro v0 h nx K) hw)
@[irreducible] def ring_Ring_Max (ro : Ro) (v0 : Value) (h : T Obj) (nx : Nat) (K : KV) : Prop := callP Tryz.prog ro i_ring_Ring_Len [v0] h (nx + 4) fun t5_1 h2 n3 => bindP (intB .eql t5_1 (Value.int IntKind.i64 0)) fun t6_4 => condP t6_4 (∃ h5, Sub h5 h2 ∧ K (.tuple #[(Value.int IntKind.i64 0), (Value.bool false)]) h5 (n3 + 3)) (callP Tryz.prog ro i_ring_Ring_count [v0, (Value.int IntKind.i64 0)] h2 (n3 + 3) fun t8_6 h7 n8 => ∃ h9, Sub h9 h7 ∧ K (.tuple #[t8_6, (Value.bool true)]) h9 (n8 + 2))
theorem ring_Ring_Max_eq (ro : Ro) (v0 : Value) (h : T Obj) (nx : Nat) (K : KV) : callPre Tryz.prog ro (callP Tryz.prog ro) Tryz.f132 [v0] h nx K = ring_Ring_Max ro v0 h nx K := by kernel_rfl
theorem ring_Ring_Max_of {ro : Ro} {v0 : Value} {h : T Obj} {nx : Nat} {K : KV} (hw : ring_Ring_Max ro v0 h nx K) : callP Tryz.prog ro i_ring_Ring_Max [v0] h nx K := callP_by (P := Tryz.prog) (fn := Tryz.f132) (by kernel_rfl) (by kernel_rfl) (by kernel_rfl) (Eq.mpr (ring_Ring_Max_eq ro v0 h nx K) hw)
end V
end Go.Proofs.YtjndkdmkecpllaaGreat
set_option linter.unusedVariables false
set_option linter.unusedSimpArgs false
namespace Go.Proofs.YtjndkdmkecpllaaGreat
set_option maxRecDepth 20000
namespace V
theorem ptrB_eql_at (id off z : Nat) : ptrB .eql (at_ id off z) (.pointer none) = some (.bool false) := rfl
theorem ptrB_neq_at (id off z : Nat) : ptrB .neq (at_ id off z) (.pointer none) = some (.bool true) := rfl
theorem nilCk_at (id off z : Nat) : nilCk (at_ id off z) = some (at_ id off z) := rfl
theorem addmod (a b n : Nat) : ((a : Int) + (b : Int)) % (n : Int) = (((a + b) % n : Nat) : Int) := by rw [Int.natCast_emod, Int.natCast_add]
theorem ix_own1 (a n c : Nat) (k : IntKind) {i : Nat} (hi : i < n) : ixSl 1 (.slice (some (V.own a 1)) n c) (.int k (i : Int)) = some (at_ a i 0) := by
  have h1 : natV (Value.int k (i : Int)) = some i := by simp [natV]
  have h2 : Nat.blt i n = true := by simpa using hi
  simp [ixSl, h1, h2, V.own, elt]
def ringC (a n first many now w : Nat) : List Value := [.slice (some (V.own a 1)) n n, .int .i64 first, .int .i64 many, .int .i64 now, .int .i64 w]
def putC (put : List Nat) : List Value := put.map fun (x : Nat) => .int .i64 (x : Int)
theorem putC_len (put : List Nat) : (putC put).length = put.length := by simp [putC]
theorem putC_get {put : List Nat} {k : Nat} (hk : k < put.length) : (putC put)[k]? = some (.int .i64 (put.getD k 0 : Nat)) := by
  simp [putC, hk]
theorem putC_set (put : List Nat) (k x : Nat) : (putC put).set k (.int .i64 (x : Int)) = putC (put.set k x) := by
  simp [putC, List.map_set]
def RI (h : T Obj) (p a n : Nat) (L : List Nat) (w : Nat) : Prop := ∃ (put : List Nat) (first now : Nat),
  h.get p = some (.cells (ringC a n first L.length now w).toArray y_ring_Ring) ∧ h.get a = some (.cells (putC put).toArray y_int) ∧ p ≠ a ∧ put.length = n ∧ 1 ≤ n ∧ n ≤ 4096 ∧ first < n ∧ now ≤ w ∧ w ≤ 1000000 ∧
  (∀ i, i < L.length → put.getD ((first + i) % n) 0 + L.getD i 0 = now + 1) ∧ L.Pairwise (fun x y => y < x) ∧ (∀ x ∈ L, 1 ≤ x ∧ x ≤ n)
def Only (h h' : T Obj) (p a : Nat) : Prop := ∀ k, k ≠ p → k ≠ a → h'.get k = h.get k
theorem Fr.lt {h : T Obj} {nx k : Nat} {o : Obj} (hf : Fr h nx) (hg : h.get k = some o) : k < nx := by
  rcases Nat.lt_or_ge k nx with h9 | h9
  · exact h9
  · rw [hf k h9] at hg; cases hg
theorem dec_len {L : List Nat} : ∀ {lo hi : Nat}, 1 ≤ lo → L.Pairwise (fun x y => y < x) → (∀ x ∈ L, lo ≤ x ∧ x ≤ hi) → L.length + lo ≤ hi + 1 ∨ L = [] := by
  induction L with
  | nil => intro lo hi _ _ _; exact .inr rfl
  | cons x r ih =>
    intro lo hi hlo hp hb
    left
    have hx := hb x (List.mem_cons_self ..)
    rw [List.pairwise_cons] at hp
    rcases ih (lo := lo) (hi := x - 1) hlo hp.2 fun y hy => ⟨(hb y (List.mem_cons_of_mem _ hy)).1, by have := hp.1 y hy; omega⟩ with h1 | h1
    · rw [List.length_cons]; omega
    · subst h1; simp; omega
theorem RI.len {h : T Obj} {p a n w : Nat} {L : List Nat} (hR : RI h p a n L w) : L.length ≤ n := by
  obtain ⟨put, first, now, _, _, _, _, h1, _, _, _, _, _, hp, hb⟩ := hR
  rcases dec_len (Nat.le_refl 1) hp hb with h9 | h9
  · omega
  · subst h9; simp
theorem ring_count_c {ro : Ro} {h : T Obj} {p a n w i nx : Nat} {L : List Nat} {K : KV} (hR : RI h p a n L w) (hi : i < L.length) (hK : ∀ nx', nx ≤ nx' → K (.int .i64 (L.getD i 0 : Nat)) h nx') : callP Tryz.prog ro i_ring_Ring_count [ptr p, .int .i64 (i : Int)] h nx K := by
  have hln := hR.len
  obtain ⟨put, first, now, gp, ga, hne, hpl, h1, h2, h3, h4, h5, hrel, hpw, hb⟩ := hR
  apply ring_Ring_count_of
  unfold ring_Ring_count
  have hm : (first + i) % n < n := Nat.mod_lt _ (by omega)
  have hm2 : (first + i) % n < put.length := by omega
  have hr := hrel i hi
  (repeat (first | refine bindP_mk (by simp (disch := first | omega | exact Int.natCast_nonneg _ | assumption) only [decide_true, decide_false, Bool.not_true, Bool.not_false, newP_eq, optP_some, optP_none, bindP_some', condP_true, condP_false, ifP_tt, ifP_ff, ifP_tf, ifP_ft, exP_normal, exP_exit, exP_ret, beqP_true, beqP_false, Option.bind_some, Value.cells_agg, cells_int, cells_bool, intB_add, intB_sub, intB_mul, intB_quo, intB_rem, intB_eql, intB_neq, intB_lss, intB_leq, intB_gtr, intB_geq, intB_shr_u64, intB_shl1_u64, intB_and64, intB_or64, intB_xor64, wr_i64, wr_u8, wr_u64, convI_int, unV_not, boolB_eql, boolB_neq, pickV_true, pickV_false, lenSl_slice, ptr_at, fwdP_at, ixArr_at, load1_own, loadA_own, storeN_own, T.get_upd_same, T.get_upd_ne, cellsIn_some, putIn_cells, tl, ts, if_pos, Nat.zero_add, Nat.mul_one, Nat.add_zero, Int.toNat_natCast, ↓reduceIte, Nat.reduceLeDiff, Nat.reduceAdd, Nat.le_refl, nilCk_at, gp, ga, addmod, ix_own1, putC_get] <;> rfl) ?_ | refine newP_mk ?_ | refine optP_mk ?_ | with_reducible refine condP_t ?_ | with_reducible refine condP_f ?_ | with_reducible refine ifP_tt' ?_ | with_reducible refine ifP_ff' ?_ | with_reducible refine ifP_tf' ?_ | with_reducible refine ifP_ft' ?_ | with_reducible refine ifP_u' ?_ | refine optP_mk0 ?_))
  refine ⟨h, Sub.refl _, ?_⟩
  have e : (now : Int) - (put.getD ((first + i) % n) 0 : Nat) + 1 = (L.getD i 0 : Nat) := by omega
  rw [e]
  exact hK _ (by omega)
theorem ring_Len_c {ro : Ro} {h : T Obj} {p a n w nx : Nat} {L : List Nat} {K : KV} (hR : RI h p a n L w) (hK : ∀ nx', nx ≤ nx' → K (.int .i64 (L.length : Nat)) h nx') : callP Tryz.prog ro i_ring_Ring_Len [ptr p] h nx K := by
  obtain ⟨put, first, now, gp, ga, hne, hpl, h1, h2, h3, h4, h5, hrel, hpw, hb⟩ := hR
  apply ring_Ring_Len_of
  unfold ring_Ring_Len
  (repeat (first | refine bindP_mk (by simp (disch := first | omega | exact Int.natCast_nonneg _ | assumption) only [decide_true, decide_false, Bool.not_true, Bool.not_false, newP_eq, optP_some, optP_none, bindP_some', condP_true, condP_false, ifP_tt, ifP_ff, ifP_tf, ifP_ft, exP_normal, exP_exit, exP_ret, beqP_true, beqP_false, Option.bind_some, Value.cells_agg, cells_int, cells_bool, intB_add, intB_sub, intB_mul, intB_quo, intB_rem, intB_eql, intB_neq, intB_lss, intB_leq, intB_gtr, intB_geq, intB_shr_u64, intB_shl1_u64, intB_and64, intB_or64, intB_xor64, wr_i64, wr_u8, wr_u64, convI_int, unV_not, boolB_eql, boolB_neq, pickV_true, pickV_false, lenSl_slice, ptr_at, fwdP_at, ixArr_at, load1_own, loadA_own, storeN_own, T.get_upd_same, T.get_upd_ne, cellsIn_some, putIn_cells, tl, ts, if_pos, Nat.zero_add, Nat.mul_one, Nat.add_zero, Int.toNat_natCast, ↓reduceIte, Nat.reduceLeDiff, Nat.reduceAdd, Nat.le_refl, ptrB_eql_at, nilCk_at, gp, ga] <;> rfl) ?_ | refine newP_mk ?_ | refine optP_mk ?_ | with_reducible refine condP_t ?_ | with_reducible refine condP_f ?_ | with_reducible refine ifP_tt' ?_ | with_reducible refine ifP_ff' ?_ | with_reducible refine ifP_tf' ?_ | with_reducible refine ifP_ft' ?_ | with_reducible refine ifP_u' ?_ | refine optP_mk0 ?_))
  exact ⟨h, Sub.refl _, hK _ (by omega)⟩
def greatV (L : List Nat) : Value := if L.length = 0 then .tuple #[.int .i64 0, .bool false] else .tuple #[.int .i64 (L.getD 0 0 : Nat), .bool true]
def leastV (L : List Nat) : Value := if L.length = 0 then .tuple #[.int .i64 0, .bool false] else .tuple #[.int .i64 (L.getD (L.length - 1) 0 : Nat), .bool true]
theorem ring_Max_c {ro : Ro} {h : T Obj} {p a n w nx : Nat} {L : List Nat} {K : KV} (hR : RI h p a n L w) (hK : ∀ nx', nx ≤ nx' → K (greatV L) h nx') : callP Tryz.prog ro i_ring_Ring_Max [ptr p] h nx K := by
  apply ring_Ring_Max_of
  unfold ring_Ring_Max
  refine ring_Len_c hR fun n2 hn2 => ?_
  (repeat (first | refine bindP_mk (by simp (disch := first | omega | exact Int.natCast_nonneg _ | assumption) only [decide_true, decide_false, Bool.not_true, Bool.not_false, newP_eq, optP_some, optP_none, bindP_some', condP_true, condP_false, ifP_tt, ifP_ff, ifP_tf, ifP_ft, exP_normal, exP_exit, exP_ret, beqP_true, beqP_false, Option.bind_some, Value.cells_agg, cells_int, cells_bool, intB_add, intB_sub, intB_mul, intB_quo, intB_rem, intB_eql, intB_neq, intB_lss, intB_leq, intB_gtr, intB_geq, intB_shr_u64, intB_shl1_u64, intB_and64, intB_or64, intB_xor64, wr_i64, wr_u8, wr_u64, convI_int, unV_not, boolB_eql, boolB_neq, pickV_true, pickV_false, lenSl_slice, ptr_at, fwdP_at, ixArr_at, load1_own, loadA_own, storeN_own, T.get_upd_same, T.get_upd_ne, cellsIn_some, putIn_cells, tl, ts, if_pos, Nat.zero_add, Nat.mul_one, Nat.add_zero, Int.toNat_natCast, ↓reduceIte, Nat.reduceLeDiff, Nat.reduceAdd, Nat.le_refl] <;> rfl) ?_ | refine newP_mk ?_ | refine optP_mk ?_ | with_reducible refine condP_t ?_ | with_reducible refine condP_f ?_ | with_reducible refine ifP_tt' ?_ | with_reducible refine ifP_ff' ?_ | with_reducible refine ifP_tf' ?_ | with_reducible refine ifP_ft' ?_ | with_reducible refine ifP_u' ?_ | refine optP_mk0 ?_))
  unfold greatV at hK
  by_cases h0 : L.length = 0
  · refine condP_tr (by simp [h0]) ?_
    rw [if_pos h0] at hK
    exact ⟨h, Sub.refl _, hK _ (by omega)⟩
  · refine condP_fa (decide_eq_false (by omega)) ?_
    rw [if_neg h0] at hK
    refine ring_count_c (i := 0) hR (by omega) fun n3 hn3 => ?_
    exact ⟨h, Sub.refl _, hK _ (by omega)⟩
theorem ring_Min_c {ro : Ro} {h : T Obj} {p a n w nx : Nat} {L : List Nat} {K : KV} (hR : RI h p a n L w) (hK : ∀ nx', nx ≤ nx' → K (leastV L) h nx') : callP Tryz.prog ro i_ring_Ring_Min [ptr p] h nx K := by
  apply ring_Ring_Min_of
  unfold ring_Ring_Min
  refine ring_Len_c hR fun n2 hn2 => ?_
  (repeat (first | refine bindP_mk (by simp (disch := first | omega | exact Int.natCast_nonneg _ | assumption) only [decide_true, decide_false, Bool.not_true, Bool.not_false, newP_eq, optP_some, optP_none, bindP_some', condP_true, condP_false, ifP_tt, ifP_ff, ifP_tf, ifP_ft, exP_normal, exP_exit, exP_ret, beqP_true, beqP_false, Option.bind_some, Value.cells_agg, cells_int, cells_bool, intB_add, intB_sub, intB_mul, intB_quo, intB_rem, intB_eql, intB_neq, intB_lss, intB_leq, intB_gtr, intB_geq, intB_shr_u64, intB_shl1_u64, intB_and64, intB_or64, intB_xor64, wr_i64, wr_u8, wr_u64, convI_int, unV_not, boolB_eql, boolB_neq, pickV_true, pickV_false, lenSl_slice, ptr_at, fwdP_at, ixArr_at, load1_own, loadA_own, storeN_own, T.get_upd_same, T.get_upd_ne, cellsIn_some, putIn_cells, tl, ts, if_pos, Nat.zero_add, Nat.mul_one, Nat.add_zero, Int.toNat_natCast, ↓reduceIte, Nat.reduceLeDiff, Nat.reduceAdd, Nat.le_refl] <;> rfl) ?_ | refine newP_mk ?_ | refine optP_mk ?_ | with_reducible refine condP_t ?_ | with_reducible refine condP_f ?_ | with_reducible refine ifP_tt' ?_ | with_reducible refine ifP_ff' ?_ | with_reducible refine ifP_tf' ?_ | with_reducible refine ifP_ft' ?_ | with_reducible refine ifP_u' ?_ | refine optP_mk0 ?_))
  unfold leastV at hK
  by_cases h0 : L.length = 0
  · refine condP_tr (by simp [h0]) ?_
    rw [if_pos h0] at hK
    exact ⟨h, Sub.refl _, hK _ (by omega)⟩
  · refine condP_fa (decide_eq_false (by omega)) ?_
    rw [if_neg h0] at hK
    have hR' := hR
    have hln := hR.len
    obtain ⟨put, first, now, gp, ga, hne, hpl, h1, h2, h3, h4, h5, hrel, hpw, hb⟩ := hR
    (repeat (first | refine bindP_mk (by simp (disch := first | omega | exact Int.natCast_nonneg _ | assumption) only [decide_true, decide_false, Bool.not_true, Bool.not_false, newP_eq, optP_some, optP_none, bindP_some', condP_true, condP_false, ifP_tt, ifP_ff, ifP_tf, ifP_ft, exP_normal, exP_exit, exP_ret, beqP_true, beqP_false, Option.bind_some, Value.cells_agg, cells_int, cells_bool, intB_add, intB_sub, intB_mul, intB_quo, intB_rem, intB_eql, intB_neq, intB_lss, intB_leq, intB_gtr, intB_geq, intB_shr_u64, intB_shl1_u64, intB_and64, intB_or64, intB_xor64, wr_i64, wr_u8, wr_u64, convI_int, unV_not, boolB_eql, boolB_neq, pickV_true, pickV_false, lenSl_slice, ptr_at, fwdP_at, ixArr_at, load1_own, loadA_own, storeN_own, T.get_upd_same, T.get_upd_ne, cellsIn_some, putIn_cells, tl, ts, if_pos, Nat.zero_add, Nat.mul_one, Nat.add_zero, Int.toNat_natCast, ↓reduceIte, Nat.reduceLeDiff, Nat.reduceAdd, Nat.le_refl, nilCk_at, gp] <;> rfl) ?_ | refine newP_mk ?_ | refine optP_mk ?_ | with_reducible refine condP_t ?_ | with_reducible refine condP_f ?_ | with_reducible refine ifP_tt' ?_ | with_reducible refine ifP_ff' ?_ | with_reducible refine ifP_tf' ?_ | with_reducible refine ifP_ft' ?_ | with_reducible refine ifP_u' ?_ | refine optP_mk0 ?_))
    have e : (L.length : Int) - 1 = ((L.length - 1 : Nat) : Int) := by omega
    rw [e]
    refine ring_count_c (i := L.length - 1) hR' (by omega) fun n3 hn3 => ?_
    exact ⟨h, Sub.refl _, hK _ (by omega)⟩
def putL (L : List Nat) : List Nat := if L.getD (L.length - 1) 0 = 1 then L else L ++ [1]
theorem put_other {L : List Nat} (h : L.getD (L.length - 1) 0 ≠ 1) : putL L = L ++ [1] := if_neg h
theorem last_mem {L : List Nat} {x : Nat} (hx : x ∈ L) (hp : L.Pairwise (fun x y => y < x)) : L.getD (L.length - 1) 0 ≤ x := by
  obtain ⟨i, hi, rfl⟩ := List.getElem_of_mem hx
  have h1 : L.getD (L.length - 1) 0 = L[L.length - 1] := by simp [List.getD, List.getElem?_eq_getElem (show L.length - 1 < L.length by omega)]
  rw [h1]
  rcases Nat.lt_or_ge i (L.length - 1) with h2 | h2
  · exact Nat.le_of_lt (List.pairwise_iff_getElem.1 hp i (L.length - 1) hi (by omega) h2)
  · have : i = L.length - 1 := by omega
    subst this; exact Nat.le_refl _
theorem put_two {L : List Nat} {n : Nat} (h : L.getD (L.length - 1) 0 ≠ 1) (hp : L.Pairwise (fun x y => y < x)) (hb : ∀ x ∈ L, 1 ≤ x ∧ x ≤ n) : ∀ x ∈ L, 2 ≤ x ∧ x ≤ n := fun x hx => by
  have h1 := last_mem hx hp
  have h2 := hb x hx
  have h3 : L.getD (L.length - 1) 0 ∈ L := by
    obtain ⟨i, hi, _⟩ := List.getElem_of_mem hx
    have h1 : L.getD (L.length - 1) 0 = L[L.length - 1] := by simp [List.getD, List.getElem?_eq_getElem (show L.length - 1 < L.length by omega)]
    rw [h1]; exact List.getElem_mem _
  have := hb _ h3
  omega
theorem put_room {L : List Nat} {n : Nat} (hn : 1 ≤ n) (h : L.getD (L.length - 1) 0 ≠ 1) (hp : L.Pairwise (fun x y => y < x)) (hb : ∀ x ∈ L, 1 ≤ x ∧ x ≤ n) : L.length < n := by
  rcases dec_len (lo := 2) (by omega) hp (put_two h hp hb) with h9 | h9
  · omega
  · subst h9; exact hn
theorem put_dec {L : List Nat} {n : Nat} (h : L.getD (L.length - 1) 0 ≠ 1) (hp : L.Pairwise (fun x y => y < x)) (hb : ∀ x ∈ L, 1 ≤ x ∧ x ≤ n) : (L ++ [1]).Pairwise (fun x y => y < x) := by
  rw [List.pairwise_append]
  refine ⟨hp, List.pairwise_singleton .., fun x hx y hy => ?_⟩
  have := put_two h hp hb x hx
  rw [List.mem_singleton] at hy
  omega
theorem put_in {L : List Nat} {n : Nat} (hn : 1 ≤ n) (hb : ∀ x ∈ L, 1 ≤ x ∧ x ≤ n) : ∀ x ∈ L ++ [1], 1 ≤ x ∧ x ≤ n := fun x hx => by
  rw [List.mem_append, List.mem_singleton] at hx
  rcases hx with hx | rfl
  · exact hb x hx
  · omega
theorem mod_inj {f i j n : Nat} (hi : i < n) (hj : j < n) (he : (f + i) % n = (f + j) % n) : i = j := by
  have h1 := Nat.div_add_mod (f + i) n
  have h2 := Nat.div_add_mod (f + j) n
  rcases Nat.lt_trichotomy ((f + i) / n) ((f + j) / n) with h | h | h
  · have := Nat.mul_le_mul_left n (show (f + i) / n + 1 ≤ (f + j) / n from h)
    rw [Nat.mul_add] at this; omega
  · rw [h] at h1; omega
  · have := Nat.mul_le_mul_left n (show (f + j) / n + 1 ≤ (f + i) / n from h)
    rw [Nat.mul_add] at this; omega
theorem put_rel {L put : List Nat} {n first now : Nat} (hpl : put.length = n) (hf : first < n) (hr : L.length < n) (hrel : ∀ i, i < L.length → put.getD ((first + i) % n) 0 + L.getD i 0 = now + 1) :
    ∀ i, i < (L ++ [1]).length → (put.set ((first + L.length) % n) now).getD ((first + i) % n) 0 + (L ++ [1]).getD i 0 = now + 1 := fun i hi => by
  have hm : (first + i) % n < n := Nat.mod_lt _ (by omega)
  rw [List.length_append, List.length_singleton] at hi
  rcases Nat.lt_or_ge i L.length with h1 | h1
  · have hne : (first + L.length) % n ≠ (first + i) % n := fun e => by have := mod_inj hr (by omega) e; omega
    have e1 : (put.set ((first + L.length) % n) now).getD ((first + i) % n) 0 = put.getD ((first + i) % n) 0 := by simp [List.getD, List.getElem?_set_ne hne]
    have e2 : (L ++ [1]).getD i 0 = L.getD i 0 := by simp [List.getD, List.getElem?_append_left h1]
    rw [e1, e2]; exact hrel i h1
  · have : i = L.length := by omega
    subst this
    have e1 : (put.set ((first + L.length) % n) now).getD ((first + L.length) % n) 0 = now := by simp [List.getD, List.getElem?_set_self, hpl, hm]
    have e2 : (L ++ [1]).getD L.length 0 = 1 := by simp [List.getD]
    rw [e1, e2]
set_option maxRecDepth 4000 in
theorem ring_Put_c {ro : Ro} {h : T Obj} {p a n w nx : Nat} {L : List Nat} {K : KV} (hR : RI h p a n L w) (hw : w + 1 ≤ 1000000) (hK : ∀ h' nx', nx ≤ nx' → RI h' p a n (putL L) (w + 1) → Only h h' p a → K (.tuple #[]) h' nx') : callP Tryz.prog ro i_ring_Ring_Put [ptr p] h nx K := by
  have hln := hR.len
  obtain ⟨put, first, now, gp, ga, hne, hpl, b1, b2, b3, b4, b5, hrel, hpw, hb⟩ := hR
  apply ring_Ring_Put_of
  unfold ring_Ring_Put
  (repeat (first | refine bindP_mk (by simp (disch := first | omega | exact Int.natCast_nonneg _ | assumption) only [decide_true, decide_false, Bool.not_true, Bool.not_false, newP_eq, optP_some, optP_none, bindP_some', condP_true, condP_false, ifP_tt, ifP_ff, ifP_tf, ifP_ft, exP_normal, exP_exit, exP_ret, beqP_true, beqP_false, Option.bind_some, Value.cells_agg, cells_int, cells_bool, intB_add, intB_sub, intB_mul, intB_quo, intB_rem, intB_eql, intB_neq, intB_lss, intB_leq, intB_gtr, intB_geq, intB_shr_u64, intB_shl1_u64, intB_and64, intB_or64, intB_xor64, wr_i64, wr_u8, wr_u64, convI_int, unV_not, boolB_eql, boolB_neq, pickV_true, pickV_false, lenSl_slice, ptr_at, fwdP_at, ixArr_at, load1_own, loadA_own, storeN_own, T.get_upd_same, T.get_upd_ne, cellsIn_some, putIn_cells, tl, ts, if_pos, Nat.zero_add, Nat.mul_one, Nat.add_zero, Int.toNat_natCast, ↓reduceIte, Nat.reduceLeDiff, Nat.reduceAdd, Nat.le_refl, ptrB_eql_at, nilCk_at, gp, ga] <;> rfl) ?_ | refine newP_mk ?_ | refine optP_mk ?_ | with_reducible refine condP_t ?_ | with_reducible refine condP_f ?_ | with_reducible refine ifP_tt' ?_ | with_reducible refine ifP_ff' ?_ | with_reducible refine ifP_tf' ?_ | with_reducible refine ifP_ft' ?_ | with_reducible refine ifP_u' ?_ | refine optP_mk0 ?_))
  have gp1 : (h.upd p (some (.cells (over (ringC a n first L.length now w).toArray.toList 4 [.int .i64 ((w : Int) + 1)]).toArray y_ring_Ring))).get p = some (.cells (ringC a n first L.length now (w + 1)).toArray y_ring_Ring) := by
    rw [T.get_upd_same]; rfl
  have ga1 : (h.upd p (some (.cells (over (ringC a n first L.length now w).toArray.toList 4 [.int .i64 ((w : Int) + 1)]).toArray y_ring_Ring))).get a = some (.cells (putC put).toArray y_int) := by rw [T.get_upd_ne _ _ (Ne.symm hne)]; exact ga
  have ho1 : Only h (h.upd p (some (.cells (over (ringC a n first L.length now w).toArray.toList 4 [.int .i64 ((w : Int) + 1)]).toArray y_ring_Ring))) p a := fun k k1 k2 => by rw [T.get_upd_ne _ _ k1]
  generalize (h.upd p (some (.cells (over (ringC a n first L.length now w).toArray.toList 4 [.int .i64 ((w : Int) + 1)]).toArray y_ring_Ring))) = h1 at gp1 ga1 ho1
  have hR1 : RI h1 p a n L (w + 1) := ⟨put, first, now, gp1, ga1, hne, hpl, b1, b2, b3, by omega, hw, hrel, hpw, hb⟩
  (repeat (first | refine bindP_mk (by simp (disch := first | omega | exact Int.natCast_nonneg _ | assumption) only [decide_true, decide_false, Bool.not_true, Bool.not_false, newP_eq, optP_some, optP_none, bindP_some', condP_true, condP_false, ifP_tt, ifP_ff, ifP_tf, ifP_ft, exP_normal, exP_exit, exP_ret, beqP_true, beqP_false, Option.bind_some, Value.cells_agg, cells_int, cells_bool, intB_add, intB_sub, intB_mul, intB_quo, intB_rem, intB_eql, intB_neq, intB_lss, intB_leq, intB_gtr, intB_geq, intB_shr_u64, intB_shl1_u64, intB_and64, intB_or64, intB_xor64, wr_i64, wr_u8, wr_u64, convI_int, unV_not, boolB_eql, boolB_neq, pickV_true, pickV_false, lenSl_slice, ptr_at, fwdP_at, ixArr_at, load1_own, loadA_own, storeN_own, T.get_upd_same, T.get_upd_ne, cellsIn_some, putIn_cells, tl, ts, if_pos, Nat.zero_add, Nat.mul_one, Nat.add_zero, Int.toNat_natCast, ↓reduceIte, Nat.reduceLeDiff, Nat.reduceAdd, Nat.le_refl, nilCk_at, gp1] <;> rfl) ?_ | refine newP_mk ?_ | refine optP_mk ?_ | with_reducible refine condP_t ?_ | with_reducible refine condP_f ?_ | with_reducible refine ifP_tt' ?_ | with_reducible refine ifP_ff' ?_ | with_reducible refine ifP_tf' ?_ | with_reducible refine ifP_ft' ?_ | with_reducible refine ifP_u' ?_ | refine optP_mk0 ?_))
  rcases Nat.eq_zero_or_pos L.length with hm | hm
  · have d : decide ((0 : Int) < (L.length : Int)) = false := decide_eq_false (by omega)
    rw [d]
    have hlast : L.getD (L.length - 1) 0 ≠ 1 := by
      have : L = [] := List.length_eq_zero_iff.1 hm
      subst this; decide
    (repeat (first | refine bindP_mk (by simp (disch := first | omega | exact Int.natCast_nonneg _ | assumption) only [decide_true, decide_false, Bool.not_true, Bool.not_false, newP_eq, optP_some, optP_none, bindP_some', condP_true, condP_false, ifP_tt, ifP_ff, ifP_tf, ifP_ft, exP_normal, exP_exit, exP_ret, beqP_true, beqP_false, Option.bind_some, Value.cells_agg, cells_int, cells_bool, intB_add, intB_sub, intB_mul, intB_quo, intB_rem, intB_eql, intB_neq, intB_lss, intB_leq, intB_gtr, intB_geq, intB_shr_u64, intB_shl1_u64, intB_and64, intB_or64, intB_xor64, wr_i64, wr_u8, wr_u64, convI_int, unV_not, boolB_eql, boolB_neq, pickV_true, pickV_false, lenSl_slice, ptr_at, fwdP_at, ixArr_at, load1_own, loadA_own, storeN_own, T.get_upd_same, T.get_upd_ne, cellsIn_some, putIn_cells, tl, ts, if_pos, Nat.zero_add, Nat.mul_one, Nat.add_zero, Int.toNat_natCast, ↓reduceIte, Nat.reduceLeDiff, Nat.reduceAdd, Nat.le_refl] <;> rfl) ?_ | refine newP_mk ?_ | refine optP_mk ?_ | with_reducible refine condP_t ?_ | with_reducible refine condP_f ?_ | with_reducible refine ifP_tt' ?_ | with_reducible refine ifP_ff' ?_ | with_reducible refine ifP_tf' ?_ | with_reducible refine ifP_ft' ?_ | with_reducible refine ifP_u' ?_ | refine optP_mk0 ?_))
    (repeat (first | refine bindP_mk (by simp (disch := first | omega | exact Int.natCast_nonneg _ | assumption) only [decide_true, decide_false, Bool.not_true, Bool.not_false, newP_eq, optP_some, optP_none, bindP_some', condP_true, condP_false, ifP_tt, ifP_ff, ifP_tf, ifP_ft, exP_normal, exP_exit, exP_ret, beqP_true, beqP_false, Option.bind_some, Value.cells_agg, cells_int, cells_bool, intB_add, intB_sub, intB_mul, intB_quo, intB_rem, intB_eql, intB_neq, intB_lss, intB_leq, intB_gtr, intB_geq, intB_shr_u64, intB_shl1_u64, intB_and64, intB_or64, intB_xor64, wr_i64, wr_u8, wr_u64, convI_int, unV_not, boolB_eql, boolB_neq, pickV_true, pickV_false, lenSl_slice, ptr_at, fwdP_at, ixArr_at, load1_own, loadA_own, storeN_own, T.get_upd_same, T.get_upd_ne, cellsIn_some, putIn_cells, tl, ts, if_pos, Nat.zero_add, Nat.mul_one, Nat.add_zero, Int.toNat_natCast, ↓reduceIte, Nat.reduceLeDiff, Nat.reduceAdd, Nat.le_refl, nilCk_at, gp1, addmod] <;> rfl) ?_ | refine newP_mk ?_ | refine optP_mk ?_ | with_reducible refine condP_t ?_ | with_reducible refine condP_f ?_ | with_reducible refine ifP_tt' ?_ | with_reducible refine ifP_ff' ?_ | with_reducible refine ifP_tf' ?_ | with_reducible refine ifP_ft' ?_ | with_reducible refine ifP_u' ?_ | refine optP_mk0 ?_))
    have hcase : (first + L.length) % n < n := Nat.mod_lt _ (by omega)
    refine bindP_mk (ix_own1 _ _ _ _ hcase) ?_
    refine bindP_mk (store1_own (v := .int .i64 _) (l := putC put) ga1 (by rw [putC_len]; omega) rfl rfl) ?_
    rw [putC_set]
    have gp2 : (h1.upd a (some (.cells (putC (put.set ((first + L.length) % n) now)).toArray y_int))).get p = some (.cells (ringC a n first L.length now (w + 1)).toArray y_ring_Ring) := by rw [T.get_upd_ne _ _ hne]; exact gp1
    have ga2 : (h1.upd a (some (.cells (putC (put.set ((first + L.length) % n) now)).toArray y_int))).get a = some (.cells (putC (put.set ((first + L.length) % n) now)).toArray y_int) := T.get_upd_same _ _ _
    have ho2 : Only h (h1.upd a (some (.cells (putC (put.set ((first + L.length) % n) now)).toArray y_int))) p a := fun k k1 k2 => by rw [T.get_upd_ne _ _ k2]; exact ho1 k k1 k2
    generalize (h1.upd a (some (.cells (putC (put.set ((first + L.length) % n) now)).toArray y_int))) = h2 at gp2 ga2 ho2
    (repeat (first | refine bindP_mk (by simp (disch := first | omega | exact Int.natCast_nonneg _ | assumption) only [decide_true, decide_false, Bool.not_true, Bool.not_false, newP_eq, optP_some, optP_none, bindP_some', condP_true, condP_false, ifP_tt, ifP_ff, ifP_tf, ifP_ft, exP_normal, exP_exit, exP_ret, beqP_true, beqP_false, Option.bind_some, Value.cells_agg, cells_int, cells_bool, intB_add, intB_sub, intB_mul, intB_quo, intB_rem, intB_eql, intB_neq, intB_lss, intB_leq, intB_gtr, intB_geq, intB_shr_u64, intB_shl1_u64, intB_and64, intB_or64, intB_xor64, wr_i64, wr_u8, wr_u64, convI_int, unV_not, boolB_eql, boolB_neq, pickV_true, pickV_false, lenSl_slice, ptr_at, fwdP_at, ixArr_at, load1_own, loadA_own, storeN_own, T.get_upd_same, T.get_upd_ne, cellsIn_some, putIn_cells, tl, ts, if_pos, Nat.zero_add, Nat.mul_one, Nat.add_zero, Int.toNat_natCast, ↓reduceIte, Nat.reduceLeDiff, Nat.reduceAdd, Nat.le_refl, nilCk_at, gp2] <;> rfl) ?_ | refine newP_mk ?_ | refine optP_mk ?_ | with_reducible refine condP_t ?_ | with_reducible refine condP_f ?_ | with_reducible refine ifP_tt' ?_ | with_reducible refine ifP_ff' ?_ | with_reducible refine ifP_tf' ?_ | with_reducible refine ifP_ft' ?_ | with_reducible refine ifP_u' ?_ | refine optP_mk0 ?_))
    have gp3 : (h2.upd p (some (.cells (over (ringC a n first L.length now (w + 1)).toArray.toList 2 [.int .i64 ((L.length : Int) + 1)]).toArray y_ring_Ring))).get p = some (.cells (ringC a n first (L ++ [1]).length now (w + 1)).toArray y_ring_Ring) := by
      rw [T.get_upd_same, List.length_append]; rfl
    refine ⟨_, Sub.refl _, hK _ _ (by omega) ?_ ?_⟩
    · rw [put_other hlast]
      exact ⟨put.set ((first + L.length) % n) now, first, now, gp3, by rw [T.get_upd_ne _ _ (Ne.symm hne)]; exact ga2, hne, by rw [List.length_set]; exact hpl, b1, b2, b3, by omega, hw, put_rel hpl b3 (put_room b1 hlast hpw hb) hrel, put_dec hlast hpw hb, put_in b1 hb⟩
    · exact fun k k1 k2 => by rw [T.get_upd_ne _ _ k1]; exact ho2 k k1 k2
  · have d : decide ((0 : Int) < (L.length : Int)) = true := decide_eq_true (by omega)
    rw [d]
    (repeat (first | refine bindP_mk (by simp (disch := first | omega | exact Int.natCast_nonneg _ | assumption) only [decide_true, decide_false, Bool.not_true, Bool.not_false, newP_eq, optP_some, optP_none, bindP_some', condP_true, condP_false, ifP_tt, ifP_ff, ifP_tf, ifP_ft, exP_normal, exP_exit, exP_ret, beqP_true, beqP_false, Option.bind_some, Value.cells_agg, cells_int, cells_bool, intB_add, intB_sub, intB_mul, intB_quo, intB_rem, intB_eql, intB_neq, intB_lss, intB_leq, intB_gtr, intB_geq, intB_shr_u64, intB_shl1_u64, intB_and64, intB_or64, intB_xor64, wr_i64, wr_u8, wr_u64, convI_int, unV_not, boolB_eql, boolB_neq, pickV_true, pickV_false, lenSl_slice, ptr_at, fwdP_at, ixArr_at, load1_own, loadA_own, storeN_own, T.get_upd_same, T.get_upd_ne, cellsIn_some, putIn_cells, tl, ts, if_pos, Nat.zero_add, Nat.mul_one, Nat.add_zero, Int.toNat_natCast, ↓reduceIte, Nat.reduceLeDiff, Nat.reduceAdd, Nat.le_refl, nilCk_at, gp1] <;> rfl) ?_ | refine newP_mk ?_ | refine optP_mk ?_ | with_reducible refine condP_t ?_ | with_reducible refine condP_f ?_ | with_reducible refine ifP_tt' ?_ | with_reducible refine ifP_ff' ?_ | with_reducible refine ifP_tf' ?_ | with_reducible refine ifP_ft' ?_ | with_reducible refine ifP_u' ?_ | refine optP_mk0 ?_))
    have e : (L.length : Int) - 1 = ((L.length - 1 : Nat) : Int) := by omega
    rw [e]
    refine ring_count_c (i := L.length - 1) hR1 (by omega) fun n4 hn4 => ?_
    (repeat (first | refine bindP_mk (by simp (disch := first | omega | exact Int.natCast_nonneg _ | assumption) only [decide_true, decide_false, Bool.not_true, Bool.not_false, newP_eq, optP_some, optP_none, bindP_some', condP_true, condP_false, ifP_tt, ifP_ff, ifP_tf, ifP_ft, exP_normal, exP_exit, exP_ret, beqP_true, beqP_false, Option.bind_some, Value.cells_agg, cells_int, cells_bool, intB_add, intB_sub, intB_mul, intB_quo, intB_rem, intB_eql, intB_neq, intB_lss, intB_leq, intB_gtr, intB_geq, intB_shr_u64, intB_shl1_u64, intB_and64, intB_or64, intB_xor64, wr_i64, wr_u8, wr_u64, convI_int, unV_not, boolB_eql, boolB_neq, pickV_true, pickV_false, lenSl_slice, ptr_at, fwdP_at, ixArr_at, load1_own, loadA_own, storeN_own, T.get_upd_same, T.get_upd_ne, cellsIn_some, putIn_cells, tl, ts, if_pos, Nat.zero_add, Nat.mul_one, Nat.add_zero, Int.toNat_natCast, ↓reduceIte, Nat.reduceLeDiff, Nat.reduceAdd, Nat.le_refl] <;> rfl) ?_ | refine newP_mk ?_ | refine optP_mk ?_ | with_reducible refine condP_t ?_ | with_reducible refine condP_f ?_ | with_reducible refine ifP_tt' ?_ | with_reducible refine ifP_ff' ?_ | with_reducible refine ifP_tf' ?_ | with_reducible refine ifP_ft' ?_ | with_reducible refine ifP_u' ?_ | refine optP_mk0 ?_))
    by_cases hlast : L.getD (L.length - 1) 0 = 1
    · rw [decide_eq_true (show ((L.getD (L.length - 1) 0 : Nat) : Int) = 1 by omega)]
      (repeat (first | refine bindP_mk (by simp (disch := first | omega | exact Int.natCast_nonneg _ | assumption) only [decide_true, decide_false, Bool.not_true, Bool.not_false, newP_eq, optP_some, optP_none, bindP_some', condP_true, condP_false, ifP_tt, ifP_ff, ifP_tf, ifP_ft, exP_normal, exP_exit, exP_ret, beqP_true, beqP_false, Option.bind_some, Value.cells_agg, cells_int, cells_bool, intB_add, intB_sub, intB_mul, intB_quo, intB_rem, intB_eql, intB_neq, intB_lss, intB_leq, intB_gtr, intB_geq, intB_shr_u64, intB_shl1_u64, intB_and64, intB_or64, intB_xor64, wr_i64, wr_u8, wr_u64, convI_int, unV_not, boolB_eql, boolB_neq, pickV_true, pickV_false, lenSl_slice, ptr_at, fwdP_at, ixArr_at, load1_own, loadA_own, storeN_own, T.get_upd_same, T.get_upd_ne, cellsIn_some, putIn_cells, tl, ts, if_pos, Nat.zero_add, Nat.mul_one, Nat.add_zero, Int.toNat_natCast, ↓reduceIte, Nat.reduceLeDiff, Nat.reduceAdd, Nat.le_refl] <;> rfl) ?_ | refine newP_mk ?_ | refine optP_mk ?_ | with_reducible refine condP_t ?_ | with_reducible refine condP_f ?_ | with_reducible refine ifP_tt' ?_ | with_reducible refine ifP_ff' ?_ | with_reducible refine ifP_tf' ?_ | with_reducible refine ifP_ft' ?_ | with_reducible refine ifP_u' ?_ | refine optP_mk0 ?_))
      refine ⟨_, Sub.refl _, hK _ _ (by omega) ?_ ho1⟩
      unfold putL
      rw [if_pos hlast]
      exact hR1
    rw [decide_eq_false (show ¬ ((L.getD (L.length - 1) 0 : Nat) : Int) = 1 by omega)]
    (repeat (first | refine bindP_mk (by simp (disch := first | omega | exact Int.natCast_nonneg _ | assumption) only [decide_true, decide_false, Bool.not_true, Bool.not_false, newP_eq, optP_some, optP_none, bindP_some', condP_true, condP_false, ifP_tt, ifP_ff, ifP_tf, ifP_ft, exP_normal, exP_exit, exP_ret, beqP_true, beqP_false, Option.bind_some, Value.cells_agg, cells_int, cells_bool, intB_add, intB_sub, intB_mul, intB_quo, intB_rem, intB_eql, intB_neq, intB_lss, intB_leq, intB_gtr, intB_geq, intB_shr_u64, intB_shl1_u64, intB_and64, intB_or64, intB_xor64, wr_i64, wr_u8, wr_u64, convI_int, unV_not, boolB_eql, boolB_neq, pickV_true, pickV_false, lenSl_slice, ptr_at, fwdP_at, ixArr_at, load1_own, loadA_own, storeN_own, T.get_upd_same, T.get_upd_ne, cellsIn_some, putIn_cells, tl, ts, if_pos, Nat.zero_add, Nat.mul_one, Nat.add_zero, Int.toNat_natCast, ↓reduceIte, Nat.reduceLeDiff, Nat.reduceAdd, Nat.le_refl] <;> rfl) ?_ | refine newP_mk ?_ | refine optP_mk ?_ | with_reducible refine condP_t ?_ | with_reducible refine condP_f ?_ | with_reducible refine ifP_tt' ?_ | with_reducible refine ifP_ff' ?_ | with_reducible refine ifP_tf' ?_ | with_reducible refine ifP_ft' ?_ | with_reducible refine ifP_u' ?_ | refine optP_mk0 ?_))
    (repeat (first | refine bindP_mk (by simp (disch := first | omega | exact Int.natCast_nonneg _ | assumption) only [decide_true, decide_false, Bool.not_true, Bool.not_false, newP_eq, optP_some, optP_none, bindP_some', condP_true, condP_false, ifP_tt, ifP_ff, ifP_tf, ifP_ft, exP_normal, exP_exit, exP_ret, beqP_true, beqP_false, Option.bind_some, Value.cells_agg, cells_int, cells_bool, intB_add, intB_sub, intB_mul, intB_quo, intB_rem, intB_eql, intB_neq, intB_lss, intB_leq, intB_gtr, intB_geq, intB_shr_u64, intB_shl1_u64, intB_and64, intB_or64, intB_xor64, wr_i64, wr_u8, wr_u64, convI_int, unV_not, boolB_eql, boolB_neq, pickV_true, pickV_false, lenSl_slice, ptr_at, fwdP_at, ixArr_at, load1_own, loadA_own, storeN_own, T.get_upd_same, T.get_upd_ne, cellsIn_some, putIn_cells, tl, ts, if_pos, Nat.zero_add, Nat.mul_one, Nat.add_zero, Int.toNat_natCast, ↓reduceIte, Nat.reduceLeDiff, Nat.reduceAdd, Nat.le_refl, nilCk_at, gp1, addmod] <;> rfl) ?_ | refine newP_mk ?_ | refine optP_mk ?_ | with_reducible refine condP_t ?_ | with_reducible refine condP_f ?_ | with_reducible refine ifP_tt' ?_ | with_reducible refine ifP_ff' ?_ | with_reducible refine ifP_tf' ?_ | with_reducible refine ifP_ft' ?_ | with_reducible refine ifP_u' ?_ | refine optP_mk0 ?_))
    have hcase : (first + L.length) % n < n := Nat.mod_lt _ (by omega)
    refine bindP_mk (ix_own1 _ _ _ _ hcase) ?_
    refine bindP_mk (store1_own (v := .int .i64 _) (l := putC put) ga1 (by rw [putC_len]; omega) rfl rfl) ?_
    rw [putC_set]
    have gp2 : (h1.upd a (some (.cells (putC (put.set ((first + L.length) % n) now)).toArray y_int))).get p = some (.cells (ringC a n first L.length now (w + 1)).toArray y_ring_Ring) := by rw [T.get_upd_ne _ _ hne]; exact gp1
    have ga2 : (h1.upd a (some (.cells (putC (put.set ((first + L.length) % n) now)).toArray y_int))).get a = some (.cells (putC (put.set ((first + L.length) % n) now)).toArray y_int) := T.get_upd_same _ _ _
    have ho2 : Only h (h1.upd a (some (.cells (putC (put.set ((first + L.length) % n) now)).toArray y_int))) p a := fun k k1 k2 => by rw [T.get_upd_ne _ _ k2]; exact ho1 k k1 k2
    generalize (h1.upd a (some (.cells (putC (put.set ((first + L.length) % n) now)).toArray y_int))) = h2 at gp2 ga2 ho2
    (repeat (first | refine bindP_mk (by simp (disch := first | omega | exact Int.natCast_nonneg _ | assumption) only [decide_true, decide_false, Bool.not_true, Bool.not_false, newP_eq, optP_some, optP_none, bindP_some', condP_true, condP_false, ifP_tt, ifP_ff, ifP_tf, ifP_ft, exP_normal, exP_exit, exP_ret, beqP_true, beqP_false, Option.bind_some, Value.cells_agg, cells_int, cells_bool, intB_add, intB_sub, intB_mul, intB_quo, intB_rem, intB_eql, intB_neq, intB_lss, intB_leq, intB_gtr, intB_geq, intB_shr_u64, intB_shl1_u64, intB_and64, intB_or64, intB_xor64, wr_i64, wr_u8, wr_u64, convI_int, unV_not, boolB_eql, boolB_neq, pickV_true, pickV_false, lenSl_slice, ptr_at, fwdP_at, ixArr_at, load1_own, loadA_own, storeN_own, T.get_upd_same, T.get_upd_ne, cellsIn_some, putIn_cells, tl, ts, if_pos, Nat.zero_add, Nat.mul_one, Nat.add_zero, Int.toNat_natCast, ↓reduceIte, Nat.reduceLeDiff, Nat.reduceAdd, Nat.le_refl, nilCk_at, gp2] <;> rfl) ?_ | refine newP_mk ?_ | refine optP_mk ?_ | with_reducible refine condP_t ?_ | with_reducible refine condP_f ?_ | with_reducible refine ifP_tt' ?_ | with_reducible refine ifP_ff' ?_ | with_reducible refine ifP_tf' ?_ | with_reducible refine ifP_ft' ?_ | with_reducible refine ifP_u' ?_ | refine optP_mk0 ?_))
    have gp3 : (h2.upd p (some (.cells (over (ringC a n first L.length now (w + 1)).toArray.toList 2 [.int .i64 ((L.length : Int) + 1)]).toArray y_ring_Ring))).get p = some (.cells (ringC a n first (L ++ [1]).length now (w + 1)).toArray y_ring_Ring) := by
      rw [T.get_upd_same, List.length_append]; rfl
    refine ⟨_, Sub.refl _, hK _ _ (by omega) ?_ ?_⟩
    · rw [put_other hlast]
      exact ⟨put.set ((first + L.length) % n) now, first, now, gp3, by rw [T.get_upd_ne _ _ (Ne.symm hne)]; exact ga2, hne, by rw [List.length_set]; exact hpl, b1, b2, b3, by omega, hw, put_rel hpl b3 (put_room b1 hlast hpw hb) hrel, put_dec hlast hpw hb, put_in b1 hb⟩
    · exact fun k k1 k2 => by rw [T.get_upd_ne _ _ k1]; exact ho2 k k1 k2
theorem und_i64s : und Tryz.prog y_s_int = some (.slice y_int) := by kernel_rfl
theorem tin_i64 : ∃ i, tin Tryz.prog y_int = some i ∧ i.size = 1 ∧ i.bytes = 8 := by
  have h : (tin Tryz.prog y_int).map (fun i => (i.size, i.bytes)) = some (1, 8) := by kernel_rfl
  cases hi : tin Tryz.prog y_int with
  | none => rw [hi] at h; cases h
  | some i => rw [hi] at h; simp at h; exact ⟨i, rfl, h.1, h.2⟩
theorem zer_i64 : zer Tryz.prog y_int = some (.int .i64 0) := by kernel_rfl
theorem RI.sub {h h' : T Obj} {p a n w : Nat} {L : List Nat} (hR : RI h p a n L w) (hs : Sub h h') : RI h' p a n L w := by
  obtain ⟨put, first, now, gp, ga, hr⟩ := hR
  exact ⟨put, first, now, hs _ _ gp, hs _ _ ga, hr⟩
theorem ring_count_w {ro : Ro} {h : T Obj} {p a n first m now w i x nx : Nat} {put : List Nat} {K : KV} (gp : h.get p = some (.cells (ringC a n first m now w).toArray y_ring_Ring)) (ga : h.get a = some (.cells (putC put).toArray y_int)) (hpl : put.length = n) (h1 : 1 ≤ n) (h2 : n ≤ 4096) (h3 : first < n) (h4 : now ≤ 2000000) (hi : i ≤ 4096) (hr : put.getD ((first + i) % n) 0 + x = now + 1) (hK : ∀ nx', nx ≤ nx' → K (.int .i64 (x : Nat)) h nx') : callP Tryz.prog ro i_ring_Ring_count [ptr p, .int .i64 (i : Int)] h nx K := by
  apply ring_Ring_count_of
  unfold ring_Ring_count
  have hm : (first + i) % n < n := Nat.mod_lt _ (by omega)
  have hm2 : (first + i) % n < put.length := by omega
  (repeat (first | refine bindP_mk (by simp (disch := first | omega | exact Int.natCast_nonneg _ | assumption) only [decide_true, decide_false, Bool.not_true, Bool.not_false, newP_eq, optP_some, optP_none, bindP_some', condP_true, condP_false, ifP_tt, ifP_ff, ifP_tf, ifP_ft, exP_normal, exP_exit, exP_ret, beqP_true, beqP_false, Option.bind_some, Value.cells_agg, cells_int, cells_bool, intB_add, intB_sub, intB_mul, intB_quo, intB_rem, intB_eql, intB_neq, intB_lss, intB_leq, intB_gtr, intB_geq, intB_shr_u64, intB_shl1_u64, intB_and64, intB_or64, intB_xor64, wr_i64, wr_u8, wr_u64, convI_int, unV_not, boolB_eql, boolB_neq, pickV_true, pickV_false, lenSl_slice, ptr_at, fwdP_at, ixArr_at, load1_own, loadA_own, storeN_own, T.get_upd_same, T.get_upd_ne, cellsIn_some, putIn_cells, tl, ts, if_pos, Nat.zero_add, Nat.mul_one, Nat.add_zero, Int.toNat_natCast, ↓reduceIte, Nat.reduceLeDiff, Nat.reduceAdd, Nat.le_refl, nilCk_at, gp, ga, addmod, ix_own1, putC_get] <;> rfl) ?_ | refine newP_mk ?_ | refine optP_mk ?_ | with_reducible refine condP_t ?_ | with_reducible refine condP_f ?_ | with_reducible refine ifP_tt' ?_ | with_reducible refine ifP_ff' ?_ | with_reducible refine ifP_tf' ?_ | with_reducible refine ifP_ft' ?_ | with_reducible refine ifP_u' ?_ | refine optP_mk0 ?_))
  refine ⟨h, Sub.refl _, ?_⟩
  have e : (now : Int) - (put.getD ((first + i) % n) 0 : Nat) + 1 = (x : Nat) := by omega
  rw [e]
  exact hK _ (by omega)
def incL (n : Nat) (L : List Nat) : List Nat := if n ≤ L.getD 0 0 then (L.map (· + 1)).tail else L.map (· + 1)
theorem getD_map1 {L : List Nat} {i : Nat} (hi : i < L.length) : (L.map (· + 1)).getD i 0 = L.getD i 0 + 1 := by
  simp [List.getD, hi]
theorem getD_tail1 {L : List Nat} {i : Nat} (hi : i + 1 < L.length) : (L.map (· + 1)).tail.getD i 0 = L.getD (i + 1) 0 + 1 := by
  simp [List.getD, hi]
theorem dec_map {L : List Nat} (hp : L.Pairwise (fun x y => y < x)) : (L.map (· + 1)).Pairwise (fun x y => y < x) := by
  rw [List.pairwise_map]
  exact hp.imp fun h => by omega
theorem first_max {L : List Nat} {x : Nat} (hp : L.Pairwise (fun x y => y < x)) (hx : x ∈ L) : x ≤ L.getD 0 0 := by
  cases L with
  | nil => cases hx
  | cons y r =>
    rw [List.pairwise_cons] at hp
    rcases List.mem_cons.1 hx with rfl | h
    · exact Nat.le_refl _
    · exact Nat.le_of_lt (hp.1 x h)
theorem inc_in {L : List Nat} {n : Nat} (hp : L.Pairwise (fun x y => y < x)) (hb : ∀ x ∈ L, 1 ≤ x ∧ x ≤ n) : ∀ x ∈ incL n L, 1 ≤ x ∧ x ≤ n := fun x hx => by
  unfold incL at hx
  by_cases h : n ≤ L.getD 0 0
  · rw [if_pos h] at hx
    cases L with
    | nil => cases hx
    | cons y r =>
      rw [List.map_cons, List.tail_cons, List.mem_map] at hx
      obtain ⟨z, hz, rfl⟩ := hx
      rw [List.pairwise_cons] at hp
      have h1 := hp.1 z hz
      have h2 := hb y (List.mem_cons_self ..)
      omega
  · rw [if_neg h, List.mem_map] at hx
    obtain ⟨z, hz, rfl⟩ := hx
    have := first_max hp hz
    omega
theorem inc_dec {L : List Nat} {n : Nat} (hp : L.Pairwise (fun x y => y < x)) : (incL n L).Pairwise (fun x y => y < x) := by
  unfold incL
  by_cases h : n ≤ L.getD 0 0
  · rw [if_pos h]; exact (dec_map hp).sublist (List.tail_sublist _)
  · rw [if_neg h]; exact dec_map hp
theorem mod_succ {f i n : Nat} : ((f + 1) % n + i) % n = (f + (i + 1)) % n := by
  rw [Nat.add_mod, Nat.mod_mod, ← Nat.add_mod]; congr 1; omega
set_option maxRecDepth 4000 in
theorem ring_Inc_c {ro : Ro} {h : T Obj} {p a n w nx : Nat} {L : List Nat} {K : KV} (hR : RI h p a n L w) (hw : w + 1 ≤ 1000000) (hK : ∀ h' nx', nx ≤ nx' → RI h' p a n (incL n L) (w + 1) → Only h h' p a → K (.tuple #[]) h' nx') : callP Tryz.prog ro i_ring_Ring_Inc [ptr p] h nx K := by
  have hln := hR.len
  obtain ⟨put, first, now, gp, ga, hne, hpl, b1, b2, b3, b4, b5, hrel, hpw, hb⟩ := hR
  apply ring_Ring_Inc_of
  unfold ring_Ring_Inc
  (repeat (first | refine bindP_mk (by simp (disch := first | omega | exact Int.natCast_nonneg _ | assumption) only [decide_true, decide_false, Bool.not_true, Bool.not_false, newP_eq, optP_some, optP_none, bindP_some', condP_true, condP_false, ifP_tt, ifP_ff, ifP_tf, ifP_ft, exP_normal, exP_exit, exP_ret, beqP_true, beqP_false, Option.bind_some, Value.cells_agg, cells_int, cells_bool, intB_add, intB_sub, intB_mul, intB_quo, intB_rem, intB_eql, intB_neq, intB_lss, intB_leq, intB_gtr, intB_geq, intB_shr_u64, intB_shl1_u64, intB_and64, intB_or64, intB_xor64, wr_i64, wr_u8, wr_u64, convI_int, unV_not, boolB_eql, boolB_neq, pickV_true, pickV_false, lenSl_slice, ptr_at, fwdP_at, ixArr_at, load1_own, loadA_own, storeN_own, T.get_upd_same, T.get_upd_ne, cellsIn_some, putIn_cells, tl, ts, if_pos, Nat.zero_add, Nat.mul_one, Nat.add_zero, Int.toNat_natCast, ↓reduceIte, Nat.reduceLeDiff, Nat.reduceAdd, Nat.le_refl, ptrB_eql_at, nilCk_at, gp, ga] <;> rfl) ?_ | refine newP_mk ?_ | refine optP_mk ?_ | with_reducible refine condP_t ?_ | with_reducible refine condP_f ?_ | with_reducible refine ifP_tt' ?_ | with_reducible refine ifP_ff' ?_ | with_reducible refine ifP_tf' ?_ | with_reducible refine ifP_ft' ?_ | with_reducible refine ifP_u' ?_ | refine optP_mk0 ?_))
  have gp1 : ((h.upd p (some (.cells (over (ringC a n first L.length now w).toArray.toList 4 [.int .i64 ((w : Int) + 1)]).toArray y_ring_Ring))).upd p (some (.cells (over (over (ringC a n first L.length now w).toArray.toList 4 [.int .i64 ((w : Int) + 1)]).toArray.toList 3 [.int .i64 ((now : Int) + 1)]).toArray y_ring_Ring))).get p = some (.cells (ringC a n first L.length (now + 1) (w + 1)).toArray y_ring_Ring) := by
    rw [T.get_upd_same]; rfl
  have ga1 : ((h.upd p (some (.cells (over (ringC a n first L.length now w).toArray.toList 4 [.int .i64 ((w : Int) + 1)]).toArray y_ring_Ring))).upd p (some (.cells (over (over (ringC a n first L.length now w).toArray.toList 4 [.int .i64 ((w : Int) + 1)]).toArray.toList 3 [.int .i64 ((now : Int) + 1)]).toArray y_ring_Ring))).get a = some (.cells (putC put).toArray y_int) := by rw [T.get_upd_ne _ _ (Ne.symm hne), T.get_upd_ne _ _ (Ne.symm hne)]; exact ga
  have ho1 : Only h ((h.upd p (some (.cells (over (ringC a n first L.length now w).toArray.toList 4 [.int .i64 ((w : Int) + 1)]).toArray y_ring_Ring))).upd p (some (.cells (over (over (ringC a n first L.length now w).toArray.toList 4 [.int .i64 ((w : Int) + 1)]).toArray.toList 3 [.int .i64 ((now : Int) + 1)]).toArray y_ring_Ring))) p a := fun k k1 k2 => by rw [T.get_upd_ne _ _ k1, T.get_upd_ne _ _ k1]
  generalize ((h.upd p (some (.cells (over (ringC a n first L.length now w).toArray.toList 4 [.int .i64 ((w : Int) + 1)]).toArray y_ring_Ring))).upd p (some (.cells (over (over (ringC a n first L.length now w).toArray.toList 4 [.int .i64 ((w : Int) + 1)]).toArray.toList 3 [.int .i64 ((now : Int) + 1)]).toArray y_ring_Ring))) = h1 at gp1 ga1 ho1
  rcases Nat.eq_zero_or_pos L.length with hm | hm
  · have d : decide ((0 : Int) < (L.length : Int)) = false := decide_eq_false (by omega)
    rw [d]
    (repeat (first | refine bindP_mk (by simp (disch := first | omega | exact Int.natCast_nonneg _ | assumption) only [decide_true, decide_false, Bool.not_true, Bool.not_false, newP_eq, optP_some, optP_none, bindP_some', condP_true, condP_false, ifP_tt, ifP_ff, ifP_tf, ifP_ft, exP_normal, exP_exit, exP_ret, beqP_true, beqP_false, Option.bind_some, Value.cells_agg, cells_int, cells_bool, intB_add, intB_sub, intB_mul, intB_quo, intB_rem, intB_eql, intB_neq, intB_lss, intB_leq, intB_gtr, intB_geq, intB_shr_u64, intB_shl1_u64, intB_and64, intB_or64, intB_xor64, wr_i64, wr_u8, wr_u64, convI_int, unV_not, boolB_eql, boolB_neq, pickV_true, pickV_false, lenSl_slice, ptr_at, fwdP_at, ixArr_at, load1_own, loadA_own, storeN_own, T.get_upd_same, T.get_upd_ne, cellsIn_some, putIn_cells, tl, ts, if_pos, Nat.zero_add, Nat.mul_one, Nat.add_zero, Int.toNat_natCast, ↓reduceIte, Nat.reduceLeDiff, Nat.reduceAdd, Nat.le_refl] <;> rfl) ?_ | refine newP_mk ?_ | refine optP_mk ?_ | with_reducible refine condP_t ?_ | with_reducible refine condP_f ?_ | with_reducible refine ifP_tt' ?_ | with_reducible refine ifP_ff' ?_ | with_reducible refine ifP_tf' ?_ | with_reducible refine ifP_ft' ?_ | with_reducible refine ifP_u' ?_ | refine optP_mk0 ?_))
    refine ⟨_, Sub.refl _, hK _ _ (by omega) ?_ ho1⟩
    have hL : L = [] := List.length_eq_zero_iff.1 hm
    subst hL
    have hi : incL n [] = [] := by unfold incL; rw [if_neg (show ¬ n ≤ ([] : List Nat).getD 0 0 by simp; omega)]; rfl
    rw [hi]
    exact ⟨put, first, now + 1, gp1, ga1, hne, hpl, b1, b2, b3, by omega, hw, fun i hi => (by cases hi), List.Pairwise.nil, fun x hx => (by cases hx)⟩
  · have d : decide ((0 : Int) < (L.length : Int)) = true := decide_eq_true (by omega)
    rw [d]
    (repeat (first | refine bindP_mk (by simp (disch := first | omega | exact Int.natCast_nonneg _ | assumption) only [decide_true, decide_false, Bool.not_true, Bool.not_false, newP_eq, optP_some, optP_none, bindP_some', condP_true, condP_false, ifP_tt, ifP_ff, ifP_tf, ifP_ft, exP_normal, exP_exit, exP_ret, beqP_true, beqP_false, Option.bind_some, Value.cells_agg, cells_int, cells_bool, intB_add, intB_sub, intB_mul, intB_quo, intB_rem, intB_eql, intB_neq, intB_lss, intB_leq, intB_gtr, intB_geq, intB_shr_u64, intB_shl1_u64, intB_and64, intB_or64, intB_xor64, wr_i64, wr_u8, wr_u64, convI_int, unV_not, boolB_eql, boolB_neq, pickV_true, pickV_false, lenSl_slice, ptr_at, fwdP_at, ixArr_at, load1_own, loadA_own, storeN_own, T.get_upd_same, T.get_upd_ne, cellsIn_some, putIn_cells, tl, ts, if_pos, Nat.zero_add, Nat.mul_one, Nat.add_zero, Int.toNat_natCast, ↓reduceIte, Nat.reduceLeDiff, Nat.reduceAdd, Nat.le_refl] <;> rfl) ?_ | refine newP_mk ?_ | refine optP_mk ?_ | with_reducible refine condP_t ?_ | with_reducible refine condP_f ?_ | with_reducible refine ifP_tt' ?_ | with_reducible refine ifP_ff' ?_ | with_reducible refine ifP_tf' ?_ | with_reducible refine ifP_ft' ?_ | with_reducible refine ifP_u' ?_ | refine optP_mk0 ?_))
    refine ring_count_w (i := 0) (x := L.getD 0 0 + 1) gp1 ga1 hpl b1 b2 b3 (by omega) (by omega) (by have := hrel 0 hm; omega) fun n4 hn4 => ?_
    (repeat (first | refine bindP_mk (by simp (disch := first | omega | exact Int.natCast_nonneg _ | assumption) only [decide_true, decide_false, Bool.not_true, Bool.not_false, newP_eq, optP_some, optP_none, bindP_some', condP_true, condP_false, ifP_tt, ifP_ff, ifP_tf, ifP_ft, exP_normal, exP_exit, exP_ret, beqP_true, beqP_false, Option.bind_some, Value.cells_agg, cells_int, cells_bool, intB_add, intB_sub, intB_mul, intB_quo, intB_rem, intB_eql, intB_neq, intB_lss, intB_leq, intB_gtr, intB_geq, intB_shr_u64, intB_shl1_u64, intB_and64, intB_or64, intB_xor64, wr_i64, wr_u8, wr_u64, convI_int, unV_not, boolB_eql, boolB_neq, pickV_true, pickV_false, lenSl_slice, ptr_at, fwdP_at, ixArr_at, load1_own, loadA_own, storeN_own, T.get_upd_same, T.get_upd_ne, cellsIn_some, putIn_cells, tl, ts, if_pos, Nat.zero_add, Nat.mul_one, Nat.add_zero, Int.toNat_natCast, ↓reduceIte, Nat.reduceLeDiff, Nat.reduceAdd, Nat.le_refl, nilCk_at, gp1] <;> rfl) ?_ | refine newP_mk ?_ | refine optP_mk ?_ | with_reducible refine condP_t ?_ | with_reducible refine condP_f ?_ | with_reducible refine ifP_tt' ?_ | with_reducible refine ifP_ff' ?_ | with_reducible refine ifP_tf' ?_ | with_reducible refine ifP_ft' ?_ | with_reducible refine ifP_u' ?_ | refine optP_mk0 ?_))
    refine ⟨fun _ => sameV_own gp1 gp1, ?_⟩
    (repeat (first | refine bindP_mk (by simp (disch := first | omega | exact Int.natCast_nonneg _ | assumption) only [decide_true, decide_false, Bool.not_true, Bool.not_false, newP_eq, optP_some, optP_none, bindP_some', condP_true, condP_false, ifP_tt, ifP_ff, ifP_tf, ifP_ft, exP_normal, exP_exit, exP_ret, beqP_true, beqP_false, Option.bind_some, Value.cells_agg, cells_int, cells_bool, intB_add, intB_sub, intB_mul, intB_quo, intB_rem, intB_eql, intB_neq, intB_lss, intB_leq, intB_gtr, intB_geq, intB_shr_u64, intB_shl1_u64, intB_and64, intB_or64, intB_xor64, wr_i64, wr_u8, wr_u64, convI_int, unV_not, boolB_eql, boolB_neq, pickV_true, pickV_false, lenSl_slice, ptr_at, fwdP_at, ixArr_at, load1_own, loadA_own, storeN_own, T.get_upd_same, T.get_upd_ne, cellsIn_some, putIn_cells, tl, ts, if_pos, Nat.zero_add, Nat.mul_one, Nat.add_zero, Int.toNat_natCast, ↓reduceIte, Nat.reduceLeDiff, Nat.reduceAdd, Nat.le_refl] <;> rfl) ?_ | refine newP_mk ?_ | refine optP_mk ?_ | with_reducible refine condP_t ?_ | with_reducible refine condP_f ?_ | with_reducible refine ifP_tt' ?_ | with_reducible refine ifP_ff' ?_ | with_reducible refine ifP_tf' ?_ | with_reducible refine ifP_ft' ?_ | with_reducible refine ifP_u' ?_ | refine optP_mk0 ?_))
    by_cases hx : n ≤ L.getD 0 0
    · rw [decide_eq_true (show (n : Int) < ((L.getD 0 0 + 1 : Nat) : Int) by omega)]
      have hmod : ((first : Int) + 1) % (n : Int) = (((first + 1) % n : Nat) : Int) := addmod first 1 n
      have hml : (first + 1) % n < n := Nat.mod_lt _ (by omega)
      (repeat (first | refine bindP_mk (by simp (disch := first | omega | exact Int.natCast_nonneg _ | assumption) only [decide_true, decide_false, Bool.not_true, Bool.not_false, newP_eq, optP_some, optP_none, bindP_some', condP_true, condP_false, ifP_tt, ifP_ff, ifP_tf, ifP_ft, exP_normal, exP_exit, exP_ret, beqP_true, beqP_false, Option.bind_some, Value.cells_agg, cells_int, cells_bool, intB_add, intB_sub, intB_mul, intB_quo, intB_rem, intB_eql, intB_neq, intB_lss, intB_leq, intB_gtr, intB_geq, intB_shr_u64, intB_shl1_u64, intB_and64, intB_or64, intB_xor64, wr_i64, wr_u8, wr_u64, convI_int, unV_not, boolB_eql, boolB_neq, pickV_true, pickV_false, lenSl_slice, ptr_at, fwdP_at, ixArr_at, load1_own, loadA_own, storeN_own, T.get_upd_same, T.get_upd_ne, cellsIn_some, putIn_cells, tl, ts, if_pos, Nat.zero_add, Nat.mul_one, Nat.add_zero, Int.toNat_natCast, ↓reduceIte, Nat.reduceLeDiff, Nat.reduceAdd, Nat.le_refl, nilCk_at, gp1, hmod] <;> rfl) ?_ | refine newP_mk ?_ | refine optP_mk ?_ | with_reducible refine condP_t ?_ | with_reducible refine condP_f ?_ | with_reducible refine ifP_tt' ?_ | with_reducible refine ifP_ff' ?_ | with_reducible refine ifP_tf' ?_ | with_reducible refine ifP_ft' ?_ | with_reducible refine ifP_u' ?_ | refine optP_mk0 ?_))
      refine ⟨_, Sub.refl _, hK _ _ (by omega) ?_ ?_⟩
      · have hi : incL n L = (L.map (· + 1)).tail := if_pos hx
        have hlen : (incL n L).length = L.length - 1 := by rw [hi]; simp
        refine ⟨put, (first + 1) % n, now + 1, ?_, ?_, hne, hpl, b1, b2, hml, by omega, hw, ?_, inc_dec hpw, inc_in hpw hb⟩
        · rw [T.get_upd_same, hlen]
          have e : (L.length : Int) - 1 = ((L.length - 1 : Nat) : Int) := by omega
          rw [e]; rfl
        · rw [T.get_upd_ne _ _ (Ne.symm hne), T.get_upd_ne _ _ (Ne.symm hne)]; exact ga1
        · intro i hil
          rw [hlen] at hil
          rw [hi, getD_tail1 (by omega), mod_succ]
          have := hrel (i + 1) (by omega)
          omega
      · exact fun k k1 k2 => by rw [T.get_upd_ne _ _ k1, T.get_upd_ne _ _ k1]; exact ho1 k k1 k2
    · rw [decide_eq_false (show ¬ (n : Int) < ((L.getD 0 0 + 1 : Nat) : Int) by omega)]
      (repeat (first | refine bindP_mk (by simp (disch := first | omega | exact Int.natCast_nonneg _ | assumption) only [decide_true, decide_false, Bool.not_true, Bool.not_false, newP_eq, optP_some, optP_none, bindP_some', condP_true, condP_false, ifP_tt, ifP_ff, ifP_tf, ifP_ft, exP_normal, exP_exit, exP_ret, beqP_true, beqP_false, Option.bind_some, Value.cells_agg, cells_int, cells_bool, intB_add, intB_sub, intB_mul, intB_quo, intB_rem, intB_eql, intB_neq, intB_lss, intB_leq, intB_gtr, intB_geq, intB_shr_u64, intB_shl1_u64, intB_and64, intB_or64, intB_xor64, wr_i64, wr_u8, wr_u64, convI_int, unV_not, boolB_eql, boolB_neq, pickV_true, pickV_false, lenSl_slice, ptr_at, fwdP_at, ixArr_at, load1_own, loadA_own, storeN_own, T.get_upd_same, T.get_upd_ne, cellsIn_some, putIn_cells, tl, ts, if_pos, Nat.zero_add, Nat.mul_one, Nat.add_zero, Int.toNat_natCast, ↓reduceIte, Nat.reduceLeDiff, Nat.reduceAdd, Nat.le_refl] <;> rfl) ?_ | refine newP_mk ?_ | refine optP_mk ?_ | with_reducible refine condP_t ?_ | with_reducible refine condP_f ?_ | with_reducible refine ifP_tt' ?_ | with_reducible refine ifP_ff' ?_ | with_reducible refine ifP_tf' ?_ | with_reducible refine ifP_ft' ?_ | with_reducible refine ifP_u' ?_ | refine optP_mk0 ?_))
      refine ⟨_, Sub.refl _, hK _ _ (by omega) ?_ ho1⟩
      have hi : incL n L = L.map (· + 1) := if_neg hx
      have hlen : (incL n L).length = L.length := by rw [hi]; simp
      refine ⟨put, first, now + 1, by rw [hlen]; exact gp1, ga1, hne, hpl, b1, b2, b3, by omega, hw, ?_, inc_dec hpw, inc_in hpw hb⟩
      intro i hil
      rw [hlen] at hil
      rw [hi, getD_map1 hil]
      have := hrel i hil
      omega
set_option maxRecDepth 4000 in
theorem ring_Clear_c {ro : Ro} {h : T Obj} {p a n w nx : Nat} {L : List Nat} {K : KV} (hR : RI h p a n L w) (hw : w + 1 ≤ 1000000) (hK : ∀ h' nx', nx ≤ nx' → RI h' p a n [] (w + 1) → Only h h' p a → K (.tuple #[]) h' nx') : callP Tryz.prog ro i_ring_Ring_Clear [ptr p] h nx K := by
  obtain ⟨put, first, now, gp, ga, hne, hpl, b1, b2, b3, b4, b5, hrel, hpw, hb⟩ := hR
  apply ring_Ring_Clear_of
  unfold ring_Ring_Clear
  (repeat (first | refine bindP_mk (by simp (disch := first | omega | exact Int.natCast_nonneg _ | assumption) only [decide_true, decide_false, Bool.not_true, Bool.not_false, newP_eq, optP_some, optP_none, bindP_some', condP_true, condP_false, ifP_tt, ifP_ff, ifP_tf, ifP_ft, exP_normal, exP_exit, exP_ret, beqP_true, beqP_false, Option.bind_some, Value.cells_agg, cells_int, cells_bool, intB_add, intB_sub, intB_mul, intB_quo, intB_rem, intB_eql, intB_neq, intB_lss, intB_leq, intB_gtr, intB_geq, intB_shr_u64, intB_shl1_u64, intB_and64, intB_or64, intB_xor64, wr_i64, wr_u8, wr_u64, convI_int, unV_not, boolB_eql, boolB_neq, pickV_true, pickV_false, lenSl_slice, ptr_at, fwdP_at, ixArr_at, load1_own, loadA_own, storeN_own, T.get_upd_same, T.get_upd_ne, cellsIn_some, putIn_cells, tl, ts, if_pos, Nat.zero_add, Nat.mul_one, Nat.add_zero, Int.toNat_natCast, ↓reduceIte, Nat.reduceLeDiff, Nat.reduceAdd, Nat.le_refl, ptrB_neq_at, nilCk_at, gp, ga] <;> rfl) ?_ | refine newP_mk ?_ | refine optP_mk ?_ | with_reducible refine condP_t ?_ | with_reducible refine condP_f ?_ | with_reducible refine ifP_tt' ?_ | with_reducible refine ifP_ff' ?_ | with_reducible refine ifP_tf' ?_ | with_reducible refine ifP_ft' ?_ | with_reducible refine ifP_u' ?_ | refine optP_mk0 ?_))
  refine ⟨_, Sub.refl _, hK _ _ (by omega) ?_ ?_⟩
  · refine ⟨put, 0, now, ?_, ?_, hne, hpl, b1, b2, by omega, by omega, hw, fun i hi => (by cases hi), List.Pairwise.nil, fun x hx => (by cases hx)⟩
    · rw [T.get_upd_same]; rfl
    · rw [T.get_upd_ne _ _ (Ne.symm hne), T.get_upd_ne _ _ (Ne.symm hne), T.get_upd_ne _ _ (Ne.symm hne)]; exact ga
  · exact fun k k1 k2 => by rw [T.get_upd_ne _ _ k1, T.get_upd_ne _ _ k1, T.get_upd_ne _ _ k1]
theorem zerosV_i64 : ∀ n : Nat, zerosV [.int .i64 0] n = putC (List.replicate n 0)
  | 0 => rfl
  | n + 1 => by
    have := zerosV_i64 n
    simp only [zerosV, this, putC, List.replicate_succ, List.map_cons]; rfl
theorem make_i64 {aid n : Nat} (h0 : 1 ≤ n) (h1 : n ≤ 1000000) : makeV Tryz.prog y_s_int aid (.int .i64 (n : Int)) (.int .i64 (n : Int)) = some (.slice (some (own aid 1)) n n, some (.cells (putC (List.replicate n 0)).toArray y_int)) := by
  obtain ⟨i, g1, g2, g3⟩ := tin_i64
  have hb : Nat.ble (n * 8) big = true := Nat.ble_eq_true_of_le (by unfold big; omega)
  have e1 : decide ((0 : Int) ≤ (n : Int)) = true := by simp
  have e2 : decide ((n : Int) ≤ (n : Int)) = true := by simp
  have e3 : decide ((n : Int) ≤ 70368744177664) = true := by simp; omega
  have hz : zrow Tryz.prog y_int n = some (putC (List.replicate n 0)) := by
    obtain ⟨m, rfl⟩ : ∃ m, n = m + 1 := ⟨n - 1, by omega⟩
    have hs : siz Tryz.prog y_int = some 1 := by kernel_rfl
    unfold zrow
    simp only [zer_i64, hs, Option.bind_some]
    have h3 : Nat.beq (Value.cells (.int .i64 0)).size 1 = true := rfl
    have h4 : Nat.blt 0 1 = true := rfl
    rw [h3, h4]
    simp only
    rw [← zerosV_i64]; rfl
  unfold makeV
  simp only [und_i64s, e1, e2, g1, Option.bind_some, g3, Int.toNat_natCast, hb, e3, hz, g2]
theorem buildV_ring (a n : Nat) : buildV Tryz.prog y_ring_Ring [(0, .slice (some (own a 1)) n n)] = some (.agg (ringC a n 0 0 0 0).toArray) := by kernel_rfl
set_option maxRecDepth 4000 in
theorem ring_New_c {ro : Ro} {h : T Obj} {n nx : Nat} {K : KV} (hf : Fr h nx) (h1 : 1 ≤ n) (h2 : n ≤ 4096) (hK : ∀ p a h' nx', nx ≤ p → nx ≤ a → nx ≤ nx' → Sub h h' → Fr h' nx' → RI h' p a n [] 0 → K (.tuple #[ptr p, .int .i64 0]) h' nx') : callP Tryz.prog ro i_ring_New [.int .i64 (n : Int)] h nx K := by
  apply ring_New_of
  unfold ring_New
  (repeat (first | refine bindP_mk (by simp (disch := first | omega | exact Int.natCast_nonneg _ | assumption) only [decide_true, decide_false, Bool.not_true, Bool.not_false, newP_eq, optP_some, optP_none, bindP_some', condP_true, condP_false, ifP_tt, ifP_ff, ifP_tf, ifP_ft, exP_normal, exP_exit, exP_ret, beqP_true, beqP_false, Option.bind_some, Value.cells_agg, cells_int, cells_bool, intB_add, intB_sub, intB_mul, intB_quo, intB_rem, intB_eql, intB_neq, intB_lss, intB_leq, intB_gtr, intB_geq, intB_shr_u64, intB_shl1_u64, intB_and64, intB_or64, intB_xor64, wr_i64, wr_u8, wr_u64, convI_int, unV_not, boolB_eql, boolB_neq, pickV_true, pickV_false, lenSl_slice, ptr_at, fwdP_at, ixArr_at, load1_own, loadA_own, storeN_own, T.get_upd_same, T.get_upd_ne, cellsIn_some, putIn_cells, tl, ts, if_pos, Nat.zero_add, Nat.mul_one, Nat.add_zero, Int.toNat_natCast, ↓reduceIte, Nat.reduceLeDiff, Nat.reduceAdd, Nat.le_refl] <;> rfl) ?_ | refine newP_mk ?_ | refine optP_mk ?_ | with_reducible refine condP_t ?_ | with_reducible refine condP_f ?_ | with_reducible refine ifP_tt' ?_ | with_reducible refine ifP_ff' ?_ | with_reducible refine ifP_tf' ?_ | with_reducible refine ifP_ft' ?_ | with_reducible refine ifP_u' ?_ | refine optP_mk0 ?_))
  rw [decide_eq_false (show ¬ (n : Int) < 1 by omega)]
  (repeat (first | refine bindP_mk (by simp (disch := first | omega | exact Int.natCast_nonneg _ | assumption) only [decide_true, decide_false, Bool.not_true, Bool.not_false, newP_eq, optP_some, optP_none, bindP_some', condP_true, condP_false, ifP_tt, ifP_ff, ifP_tf, ifP_ft, exP_normal, exP_exit, exP_ret, beqP_true, beqP_false, Option.bind_some, Value.cells_agg, cells_int, cells_bool, intB_add, intB_sub, intB_mul, intB_quo, intB_rem, intB_eql, intB_neq, intB_lss, intB_leq, intB_gtr, intB_geq, intB_shr_u64, intB_shl1_u64, intB_and64, intB_or64, intB_xor64, wr_i64, wr_u8, wr_u64, convI_int, unV_not, boolB_eql, boolB_neq, pickV_true, pickV_false, lenSl_slice, ptr_at, fwdP_at, ixArr_at, load1_own, loadA_own, storeN_own, T.get_upd_same, T.get_upd_ne, cellsIn_some, putIn_cells, tl, ts, if_pos, Nat.zero_add, Nat.mul_one, Nat.add_zero, Int.toNat_natCast, ↓reduceIte, Nat.reduceLeDiff, Nat.reduceAdd, Nat.le_refl] <;> rfl) ?_ | refine newP_mk ?_ | refine optP_mk ?_ | with_reducible refine condP_t ?_ | with_reducible refine condP_f ?_ | with_reducible refine ifP_tt' ?_ | with_reducible refine ifP_ff' ?_ | with_reducible refine ifP_tf' ?_ | with_reducible refine ifP_ft' ?_ | with_reducible refine ifP_u' ?_ | refine optP_mk0 ?_))
  rw [decide_eq_false (show ¬ (4096 : Int) < (n : Int) by omega)]
  (repeat (first | refine bindP_mk (by simp (disch := first | omega | exact Int.natCast_nonneg _ | assumption) only [decide_true, decide_false, Bool.not_true, Bool.not_false, newP_eq, optP_some, optP_none, bindP_some', condP_true, condP_false, ifP_tt, ifP_ff, ifP_tf, ifP_ft, exP_normal, exP_exit, exP_ret, beqP_true, beqP_false, Option.bind_some, Value.cells_agg, cells_int, cells_bool, intB_add, intB_sub, intB_mul, intB_quo, intB_rem, intB_eql, intB_neq, intB_lss, intB_leq, intB_gtr, intB_geq, intB_shr_u64, intB_shl1_u64, intB_and64, intB_or64, intB_xor64, wr_i64, wr_u8, wr_u64, convI_int, unV_not, boolB_eql, boolB_neq, pickV_true, pickV_false, lenSl_slice, ptr_at, fwdP_at, ixArr_at, load1_own, loadA_own, storeN_own, T.get_upd_same, T.get_upd_ne, cellsIn_some, putIn_cells, tl, ts, if_pos, Nat.zero_add, Nat.mul_one, Nat.add_zero, Int.toNat_natCast, ↓reduceIte, Nat.reduceLeDiff, Nat.reduceAdd, Nat.le_refl] <;> rfl) ?_ | refine newP_mk ?_ | refine optP_mk ?_ | with_reducible refine condP_t ?_ | with_reducible refine condP_f ?_ | with_reducible refine ifP_tt' ?_ | with_reducible refine ifP_ff' ?_ | with_reducible refine ifP_tf' ?_ | with_reducible refine ifP_ft' ?_ | with_reducible refine ifP_u' ?_ | refine optP_mk0 ?_))
  refine bindP_mk (make_i64 h1 (by omega)) (optP_mk ?_)
  refine bindP_mk (buildV_ring _ _) (newP_mk ?_)
  refine ⟨_, Sub.refl _, hK _ (nx + 6 + 1 + 2) _ _ (by omega) (by omega) (by omega) (((Sub.refl h).new hf (by omega)).new hf (by omega)) ((hf.upd (m := nx + 6 + 1 + 7) (by omega) (by omega)).upd (Nat.le_refl _) (by omega)) ?_⟩
  exact ⟨List.replicate n 0, 0, 0, by rw [T.get_upd_same]; rfl, by rw [T.get_upd_ne _ _ (by omega), T.get_upd_same], by omega, List.length_replicate, h1, h2, by omega, Nat.le_refl _, by omega, fun i hi => (by cases hi), List.Pairwise.nil, fun x hx => (by cases hx)⟩
theorem Sub.e (h : T Obj) : Sub .e h := fun k o e => by cases e
theorem RI.only {h h' : T Obj} {p a p2 a2 n w : Nat} {L : List Nat} (hR : RI h p a n L w) (ho : Only h h' p2 a2) (h1 : p ≠ p2) (h2 : p ≠ a2) (h3 : a ≠ p2) (h4 : a ≠ a2) : RI h' p a n L w := by
  obtain ⟨put, first, now, gp, ga, hr⟩ := hR
  exact ⟨put, first, now, by rw [ho _ h1 h2]; exact gp, by rw [ho _ h3 h4]; exact ga, hr⟩
theorem RI.lt {h : T Obj} {p a n w nx : Nat} {L : List Nat} (hR : RI h p a n L w) (hf : Fr h nx) : p < nx ∧ a < nx := by
  obtain ⟨put, first, now, gp, ga, hr⟩ := hR
  exact ⟨hf.lt gp, hf.lt ga⟩
theorem Only.sub {h0 h h' : T Obj} {p a n0 : Nat} (ho : Only h h' p a) (hs : Sub h0 h) (hf : Fr h0 n0) (hp : n0 ≤ p) (ha : n0 ≤ a) : Sub h0 h' := fun k o e => by
  have := hf.lt e
  rw [ho k (by omega) (by omega)]; exact hs k o e
def high (L : List Nat) : Nat := if L.length = 0 then 0 else L.getD 0 0
theorem great0 (L : List Nat) : nth 0 (greatV L) = some (.int .i64 (high L : Nat)) := by
  unfold greatV high
  by_cases h : L.length = 0
  · rw [if_pos h, if_pos h]; rfl
  · rw [if_neg h, if_neg h]; rfl
theorem great1 (L : List Nat) : nth 1 (greatV L) = some (.bool (!decide (L.length = 0))) := by
  unfold greatV
  by_cases h : L.length = 0
  · rw [if_pos h, decide_eq_true h]; rfl
  · rw [if_neg h, decide_eq_false h]; rfl
section
attribute [local irreducible] bindP ifP condP newP optP exP beqP
def isC (n : Nat) (L : List Nat) : List Value := (List.range (n + 1)).map fun i => .bool (decide (i ∈ L))
def WI (h : T Obj) (p a n : Nat) (L : List Nat) (w : Nat) : Prop := h.get p = some (.cells #[.slice (some (V.own a 1)) (n + 1) (n + 1), .int .i64 w] y_raddleref03_Ring) ∧ h.get a = some (.cells (isC n L).toArray y_bool) ∧ p ≠ a ∧ 1 ≤ n ∧ n ≤ 4096 ∧ w ≤ 1000000
end
theorem WI.sub {h h' : T Obj} {p a n w : Nat} {L : List Nat} (hW : WI h p a n L w) (hs : Sub h h') : WI h' p a n L w := ⟨hs _ _ hW.1, hs _ _ hW.2.1, hW.2.2⟩
theorem ne_of_get {h : T Obj} {i j : Nat} {c d : Array Value} {e f : TypeId} (hi : h.get i = some (.cells c e)) (hj : h.get j = some (.cells d f)) (hef : e ≠ f) : i ≠ j := fun e9 => by
  subst e9; rw [hi] at hj; cases hj; exact hef rfl
def low (L : List Nat) : Nat := if L.length = 0 then 0 else L.getD (L.length - 1) 0
theorem least0 (L : List Nat) : nth 0 (leastV L) = some (.int .i64 (low L : Nat)) := by
  unfold leastV low
  by_cases h : L.length = 0
  · rw [if_pos h, if_pos h]; rfl
  · rw [if_neg h, if_neg h]; rfl
theorem least1 (L : List Nat) : nth 1 (leastV L) = some (.bool (!decide (L.length = 0))) := by
  unfold leastV
  by_cases h : L.length = 0
  · rw [if_pos h, decide_eq_true h]; rfl
  · rw [if_neg h, decide_eq_false h]; rfl
theorem RI.in {h : T Obj} {p a n w : Nat} {L : List Nat} (hR : RI h p a n L w) : L.Pairwise (fun x y => y < x) ∧ (∀ x ∈ L, 1 ≤ x ∧ x ≤ n) ∧ 1 ≤ n ∧ n ≤ 4096 := by
  obtain ⟨put, first, now, gp, ga, hne, hpl, b1, b2, b3, b4, b5, hrel, hpw, hb⟩ := hR
  exact ⟨hpw, hb, b1, b2⟩
end V
end Go.Proofs.YtjndkdmkecpllaaGreat