/- Texts laid one behind the other: PB, NB, BT, AA, AJ, AK, BA, BM, BD, BE, BF, BG, BH, BI, BJ, BK.
   No condition. -/
import Derived.Test.YtmmdcdjkmakgpaaRows
import Derived.OpenShut
import Derived.ChangeMaps5
import Derived.Test.YtmmdcdjkmakgpaaQB3
set_option linter.unusedVariables false
set_option linter.unusedSimpArgs false
namespace Go.Proofs.Ytmmdcdjkmakgpaa
namespace PA
section
variable {α β : Type} [DecidableEq α] [DecidableEq β]
def addN (s : List α) (p : α) : List α := if p ∈ s then s else s ++ [p]
def dd (l : List α) : List α := l.foldl addN []
def pos (s : List α) (p : α) : Nat := s.idxOf p
theorem pos_self (s : List α) (p : α) : pos (p :: s) p = 0 := by simp [pos]
theorem pos_ne {s : List α} {p q : α} (h : q ≠ p) : pos (q :: s) p = pos s p + 1 := by
  unfold pos; rw [List.idxOf_cons, beq_eq_false_iff_ne.2 h]; rfl
def ix (l : List α) (p : α) : Nat := pos (dd l) p
def num (l : List α) : List Nat := l.map (ix l)
theorem dd_append (l : List α) (p : α) : dd (l ++ [p]) = addN (dd l) p := by simp [dd]
theorem mem_addN {s : List α} {p q : α} : q ∈ addN s p ↔ q ∈ s ∨ q = p := by
  unfold addN
  by_cases h : p ∈ s
  · rw [if_pos h]
    constructor
    · exact .inl
    · rintro (h1 | rfl)
      · exact h1
      · exact h
  · rw [if_neg h]; simp
theorem mem_fold {l s : List α} {q : α} : q ∈ l.foldl addN s ↔ q ∈ s ∨ q ∈ l := by
  induction l generalizing s with
  | nil => simp
  | cons p l ih => rw [List.foldl_cons, ih, mem_addN]; simp [or_assoc]
theorem mem_dd {l : List α} {q : α} : q ∈ dd l ↔ q ∈ l := by unfold dd; rw [mem_fold]; simp
theorem addN_prefix (s : List α) (p : α) : ∃ r, addN s p = s ++ r := by
  unfold addN
  by_cases h : p ∈ s
  · exact ⟨[], by rw [if_pos h]; simp⟩
  · exact ⟨[p], by rw [if_neg h]⟩
theorem fold_prefix (l s : List α) : ∃ r, l.foldl addN s = s ++ r := by
  induction l generalizing s with
  | nil => exact ⟨[], by simp⟩
  | cons p l ih =>
    obtain ⟨r, h⟩ := addN_prefix s p
    obtain ⟨r', h'⟩ := ih (addN s p)
    exact ⟨r ++ r', by rw [List.foldl_cons, h', h, List.append_assoc]⟩
theorem dd_prefix (l m : List α) : ∃ r, dd (l ++ m) = dd l ++ r := by
  unfold dd
  rw [List.foldl_append]
  exact fold_prefix m _
theorem idx_stable {l m : List α} {p : α} (h : p ∈ l) : ix (l ++ m) p = ix l p := by
  unfold ix pos
  obtain ⟨r, hr⟩ := dd_prefix l m
  rw [hr, List.idxOf_append, if_pos (mem_dd.2 h)]
theorem addN_length (s : List α) (p : α) : (addN s p).length ≤ s.length + 1 := by
  unfold addN
  by_cases h : p ∈ s
  · rw [if_pos h]; omega
  · rw [if_neg h]; simp
theorem fold_length (l s : List α) : (l.foldl addN s).length ≤ s.length + l.length := by
  induction l generalizing s with
  | nil => simp
  | cons p l ih => rw [List.foldl_cons]; have := ih (addN s p); have := addN_length s p; simp; omega
theorem dd_length (l : List α) : (dd l).length ≤ l.length := by have := fold_length l []; unfold dd; simpa using this
theorem idx_lt {l : List α} {p : α} (h : p ∈ l) : ix l p < (dd l).length := List.idxOf_lt_length_iff.2 (mem_dd.2 h)
theorem ix_new {l : List α} {p : α} (h : ¬ p ∈ dd l) : ix (l ++ [p]) p = (dd l).length := by
  unfold ix pos
  rw [dd_append]
  unfold addN
  rw [if_neg h, List.idxOf_append, if_neg h]
  simp
theorem get_idx {l : List α} {p : α} (h : p ∈ l) : (dd l)[ix l p]? = some p := by
  have h1 := idx_lt h
  unfold ix pos at h1 ⊢
  rw [List.getElem?_eq_getElem h1, List.getElem_idxOf]
theorem idx_inj {l : List α} {p q : α} (hp : p ∈ l) (hq : q ∈ l) (h : ix l p = ix l q) : p = q := by
  have h1 := get_idx hp
  rw [h, get_idx hq] at h1
  exact (Option.some.inj h1).symm
theorem num_length (l : List α) : (num l).length = l.length := by simp [num]
theorem num_get {l : List α} {i : Nat} (hi : i < l.length) : (num l)[i]? = some (ix l l[i]) := by simp [num, hi]
theorem dd_map {f : α → β} {l : List α} (hf : ∀ a ∈ l, ∀ b ∈ l, f a = f b → a = b) : dd (l.map f) = (dd l).map f := by
  have key : ∀ (m s : List α), (∀ a ∈ s ++ m, ∀ b ∈ s ++ m, f a = f b → a = b) → (m.map f).foldl addN (s.map f) = (m.foldl addN s).map f := by
    intro m
    induction m with
    | nil => intro s _; rfl
    | cons p m ih =>
      intro s h
      rw [List.map_cons, List.foldl_cons, List.foldl_cons]
      have e : addN (s.map f) (f p) = (addN s p).map f := by
        unfold addN
        by_cases hp : p ∈ s
        · rw [if_pos hp, if_pos (List.mem_map_of_mem hp)]
        · have : ¬ f p ∈ s.map f := by
            intro hm
            obtain ⟨q, hq, e⟩ := List.mem_map.1 hm
            have := h q (by simp [hq]) p (by simp) e
            subst this; exact hp hq
          rw [if_neg hp, if_neg this]; simp
      rw [e]
      refine ih _ fun a ha b hb => h a ?_ b ?_
      · rw [List.mem_append, mem_addN] at ha; simp; grind
      · rw [List.mem_append, mem_addN] at hb; simp; grind
  have := key l [] (by simpa using hf)
  simpa [dd] using this
theorem idxOf_map {f : α → β} {s : List α} {p : α} (hf : ∀ a ∈ s, f a = f p → a = p) : (s.map f).idxOf (f p) = s.idxOf p := by
  induction s with
  | nil => rfl
  | cons a s ih =>
    rw [List.map_cons, List.idxOf_cons, List.idxOf_cons]
    by_cases e : a = p
    · subst e; simp
    · have : ¬ f a = f p := fun h => e (hf a (by simp) h)
      rw [beq_eq_false_iff_ne.2 e, beq_eq_false_iff_ne.2 this, ih fun a ha => hf a (by simp [ha])]
theorem num_map {f : α → β} {l : List α} (hf : ∀ a ∈ l, ∀ b ∈ l, f a = f b → a = b) : num (l.map f) = num l := by
  unfold num ix pos
  rw [dd_map hf, List.map_map]
  refine List.map_congr_left fun p hp => ?_
  exact idxOf_map fun a ha e => hf a (mem_dd.1 ha) p hp e
theorem dd_map_length {f : α → β} {l : List α} (hf : ∀ a ∈ l, ∀ b ∈ l, f a = f b → a = b) : (dd (l.map f)).length = (dd l).length := by rw [dd_map hf]; simp
end
@[irreducible] def bs : List Nat := List.range 256
theorem bs_length : bs.length = 256 := by unfold bs; simp
theorem mem_bs {b : Nat} : b ∈ bs ↔ b < 256 := by unfold bs; exact List.mem_range
theorem bs_get {b : Nat} (hb : b < 256) : bs[b]? = some b := by unfold bs; rw [List.getElem?_range hb]
def sig (l : List Nat) (b : Nat) : List Bool := l.map fun s => s.testBit b
def sigs (l : List Nat) : List (List Bool) := bs.map (sig l)
def cls (l : List Nat) : List Nat := num (sigs l)
def many (l : List Nat) : Nat := (dd (sigs l)).length
def pairs (c : List Nat) (x : Nat) : List (Nat × Bool) := bs.map fun b => (c.getD b 0, x.testBit b)
theorem sigs_length (l : List Nat) : (sigs l).length = 256 := by rw [sigs, List.length_map, bs_length]
theorem cls_length (l : List Nat) : (cls l).length = 256 := by rw [cls, num_length, sigs_length]
theorem sig_mem {l : List Nat} {b : Nat} (hb : b < 256) : sig l b ∈ sigs l := List.mem_map_of_mem (mem_bs.2 hb)
theorem sigs_get {l : List Nat} {b : Nat} (hb : b < 256) : (sigs l)[b]? = some (sig l b) := by rw [sigs, List.getElem?_map, bs_get hb]; rfl
theorem cls_get {l : List Nat} {b : Nat} (hb : b < 256) : (cls l)[b]? = some (ix (sigs l) (sig l b)) := by
  rw [cls, num, List.getElem?_map, sigs_get hb]; rfl
theorem sig_snoc (l : List Nat) (x b : Nat) : sig (l ++ [x]) b = sig l b ++ [x.testBit b] := by simp [sig]
theorem cls_step (l : List Nat) (x : Nat) : num (pairs (cls l) x) = cls (l ++ [x]) ∧ (dd (pairs (cls l) x)).length = many (l ++ [x]) := by
  let f : List Bool → Nat × Bool := fun s => (ix (sigs l) s.dropLast, s.getLastD false)
  have e : pairs (cls l) x = (sigs (l ++ [x])).map f := by
    unfold pairs
    rw [sigs, List.map_map]
    refine List.map_congr_left fun b hb => ?_
    have hb := mem_bs.1 hb
    simp only [Function.comp, f, sig_snoc]
    rw [List.dropLast_concat, List.getLastD_concat, List.getD_eq_getElem?_getD, cls_get hb]
    rfl
  have hf : ∀ a ∈ sigs (l ++ [x]), ∀ b ∈ sigs (l ++ [x]), f a = f b → a = b := by
    intro a ha b hb h
    obtain ⟨i, hi, rfl⟩ := List.mem_map.1 ha
    obtain ⟨j, hj, rfl⟩ := List.mem_map.1 hb
    simp only [f, sig_snoc, List.dropLast_concat, List.getLastD_concat, Prod.mk.injEq] at h
    have := idx_inj (l := sigs l) (sig_mem (mem_bs.1 hi)) (sig_mem (mem_bs.1 hj)) h.1
    rw [sig_snoc, sig_snoc, this, h.2]
  rw [e, num_map hf, dd_map_length hf]
  exact ⟨rfl, rfl⟩
theorem many_le (l : List Nat) : many l ≤ 256 := by have := dd_length (sigs l); rw [sigs_length] at this; exact this
theorem cls_lt {l : List Nat} {b : Nat} (hb : b < 256) : ix (sigs l) (sig l b) < many l := idx_lt (sig_mem hb)
theorem sigs_nil : sigs [] = List.replicate 256 [] := by
  have : sigs [] = bs.map (fun _ => ([] : List Bool)) := rfl
  rw [this, List.map_const', bs_length]
theorem dd_rep (a : List Bool) : dd (List.replicate 256 a) = [a] := by
  have key : ∀ n, (List.replicate n a).foldl addN [a] = [a] := by
    intro n
    induction n with
    | zero => rfl
    | succ n ih => rw [List.replicate_succ, List.foldl_cons]; unfold addN at ih ⊢; rw [if_pos (by simp)]; exact ih
  unfold dd
  rw [show 256 = 255 + 1 from rfl, List.replicate_succ, List.foldl_cons]
  exact key 255
theorem many_nil : many [] = 1 := by rw [many, sigs_nil, dd_rep]; rfl
theorem cls_nil : cls [] = List.replicate 256 0 := by
  rw [cls, sigs_nil, num, List.map_replicate]
  unfold ix
  rw [dd_rep, pos_self]
end PA
end Go.Proofs.Ytmmdcdjkmakgpaa
set_option linter.unusedVariables false
set_option linter.unusedSimpArgs false
namespace Go.Proofs.Ytmmdcdjkmakgpaa
namespace V
open PA
attribute [local irreducible] bindP ifP condP newP optP exP beqP
def posL (p : PosD) (nv : Value) : List Value := setL p.s ++ [.int .i64 p.lo, .int .i64 p.hi, .int .i64 p.rule, .bool p.last, nv]
def RPos (ro : Ro) (h : T Obj) (x : List Value) (p : PosD) : Prop := ∃ nv, x = posL p nv ∧ ZI ro h nv p.next ∧ p.s < 2 ^ 256
theorem RPos.sub {ro : Ro} {h h' : T Obj} (hs : Sub h h') : ∀ x d, RPos ro h x d → RPos ro h' x d := fun x d ⟨nv, h1, h2, h3⟩ => ⟨nv, h1, h2.sub hs, h3⟩
def RG (ro : Ro) (h : T Obj) (v : Value) (g : GlD) : Prop := ∃ a b, v = .agg #[a, b] ∧ ZI ro h a g.first ∧ SlR ro h b 9 (RPos ro h) g.p
theorem RG.sub {ro : Ro} {h h' : T Obj} {v : Value} {g : GlD} (hs : Sub h h') (hg : RG ro h v g) : RG ro h' v g := by
  obtain ⟨a, b, h1, h2, h3⟩ := hg
  exact ⟨a, b, h1, h2.sub hs, h3.sub hs (RPos.sub hs)⟩
theorem eqCells_bits {m n : Nat} (hm : m < 2 ^ 256) (hn : n < 2 ^ 256) : eqCells [1, 1, 1, 1] (setL m) (setL n) = some (decide (m = n)) := by
  have h : (setL m = setL n) ↔ m = n := by
    constructor
    · intro h
      refine word_ext hm hn fun i hi => ?_
      have h1 := setL_get (m := m) hi
      rw [h, setL_get hi] at h1
      have := Option.some.inj h1
      simp only [Value.int.injEq, true_and] at this
      omega
    · rintro rfl; rfl
  have h2 : eqCells [1, 1, 1, 1] (setL m) (setL n) = some (decide (((word m 0 : Nat) : Int) = (word n 0 : Nat)) && (decide (((word m 1 : Nat) : Int) = (word n 1 : Nat)) && (decide (((word m 2 : Nat) : Int) = (word n 2 : Nat)) && (decide (((word m 3 : Nat) : Int) = (word n 3 : Nat)) && true)))) := rfl
  rw [h2]
  congr 1
  by_cases e : m = n
  · subst e; simp
  · rw [decide_eq_false e]
    rw [← h] at e
    simp only [setL, List.cons.injEq, Value.int.injEq, true_and, and_true] at e
    simp only [Bool.and_true, ← Bool.decide_and]
    exact decide_eq_false e
theorem neq_set0 {m : Nat} (hm : m < 2 ^ 256) : aggB [1, 1, 1, 1] .neq (.agg (setL m).toArray) (setV 0) = some (.bool (!decide (m = 0))) := by
  have e2 : setV 0 = .agg (setL 0).toArray := rfl
  rw [e2]
  unfold aggB
  simp only [tl, eqCells_bits hm (show (0 : Nat) < 2 ^ 256 by decide), Option.bind]
theorem eql_set0 {m : Nat} (hm : m < 2 ^ 256) : aggB [1, 1, 1, 1] .eql (.agg (setL m).toArray) (setV 0) = some (.bool (decide (m = 0))) := by
  have e2 : setV 0 = .agg (setL 0).toArray := rfl
  rw [e2]
  unfold aggB
  simp only [tl, eqCells_bits hm (show (0 : Nat) < 2 ^ 256 by decide), Option.bind]
theorem neq_set0_s {m : Nat} (hm : m < 2 ^ 256) {K : Value → Prop} (h1 : m ≠ 0 → K (.bool true)) (h2 : m = 0 → K (.bool false)) : bindP (aggB [1, 1, 1, 1] .neq (.agg (setL m).toArray) (setV 0)) K := by
  rw [neq_set0 hm]
  by_cases h : m = 0
  · rw [decide_eq_true h]; exact bindP_mk rfl (h2 h)
  · rw [decide_eq_false h]; exact bindP_mk rfl (h1 h)
theorem eql_set0_s {m : Nat} (hm : m < 2 ^ 256) {K : Value → Prop} (h1 : m = 0 → K (.bool true)) (h2 : m ≠ 0 → K (.bool false)) : bindP (aggB [1, 1, 1, 1] .eql (.agg (setL m).toArray) (setV 0)) K := by
  rw [eql_set0 hm]
  by_cases h : m = 0
  · rw [decide_eq_true h]; exact bindP_mk rfl (h1 h)
  · rw [decide_eq_false h]; exact bindP_mk rfl (h2 h)
theorem plain_Set : plainTy Try.prog 20 y_api_Set = some [1, 1, 1, 1] := by kernel_rfl
theorem build_Set0 : buildV Try.prog y_api_Set [] = some (setV 0) := by kernel_rfl
theorem posL_ok {p : PosD} {nv : Value} (h : cellOk nv = true) : (posL p nv).all cellOk = true := by
  have : (posL p nv).all cellOk = (cellOk nv && true) := rfl
  rw [this, h]; rfl
theorem posL_take (p : PosD) (nv : Value) : ((posL p nv).drop 0).take 4 = setL p.s := rfl
theorem glush_rises_c {ro : Ro} {v : Value} {l : List Int} {many : Int} (hm : many ≤ 1000000) {h : T Obj} {nx : Nat} {K : KV} (hv : ZI ro h v l) (hK : ∀ nx', nx ≤ nx' → K (.bool (rz (-1) many l)) h nx') : callP Try.prog ro i_glush_rises [v, .int .i64 many] h nx K := by
  apply glush_rises_of
  unfold glush_rises
  generalize hR : rz (-1) many l = R at hK
  refine bindP_mk hv.len ?_
  refine loopP_rule (fun j e h' nx' => ∃ (k : Nat) (last : Int), k + j = l.length ∧ nx ≤ nx' ∧ h' = h ∧ e 1 = .int .i64 many ∧ e 5 = .int .i64 last ∧ e 8 = v ∧ e 9 = .int .i64 l.length ∧ e 10 = .int .i64 k ∧ (k : Int) ≤ last + 1 ∧ rz last many (l.drop k) = R) ?_ (n := l.length) ⟨0, -1, by omega, by omega, rfl, rfl, rfl, rfl, rfl, rfl, by omega, hR⟩
  rintro j e h' nx' ⟨k, last, hj, hnx, rfl, e1, e5, e8, e9, e10, hk1, hr⟩ Q' hq hx
  unfold glush_rises_L1
  rw [e1, e5, e8, e9, e10]
  (repeat (first | refine bindP_mk (by simp (disch := first | omega | exact Int.natCast_nonneg _ | assumption) only [BB, B2, ↓reduceIte, Nat.reduceLeDiff, Nat.reduceAdd, intB_eql, intB_neq, intB_lss, intB_leq, intB_gtr, intB_geq] <;> rfl) ?_ | refine newP_mk ?_ | refine optP_mk ?_ | with_reducible first | refine condP_t ?_ | refine condP_f ?_ | refine ifP_tt' ?_ | refine ifP_ff' ?_ | refine ifP_tf' ?_ | refine ifP_ft' ?_ | refine ifP_u' ?_ | refine optP_mk0 ?_))
  refine condP_d (fun hk => ?_) (fun hk => ?_)
  · have hk : k < l.length := by omega
    rw [drop_cons hk, rz_cons] at hr
    refine bindP_mk (hv.ix _ hk) (bindP_mk (hv.load hk) ?_)
    generalize l[k] = x at hr
    (repeat (first | refine bindP_mk (by simp (disch := first | omega | exact Int.natCast_nonneg _ | assumption) only [BB, B2, ↓reduceIte, Nat.reduceLeDiff, Nat.reduceAdd, intB_eql, intB_neq, intB_lss, intB_leq, intB_gtr, intB_geq] <;> rfl) ?_ | refine newP_mk ?_ | refine optP_mk ?_ | with_reducible first | refine condP_t ?_ | refine condP_f ?_ | refine ifP_tt' ?_ | refine ifP_ff' ?_ | refine ifP_tf' ?_ | refine ifP_ft' ?_ | refine ifP_u' ?_ | refine optP_mk0 ?_))
    by_cases h1 : x ≤ last
    · rw [decide_eq_true h1]
      (repeat (first | refine bindP_mk (by simp (disch := first | omega | exact Int.natCast_nonneg _ | assumption) only [BB, B2, ↓reduceIte, Nat.reduceLeDiff, Nat.reduceAdd, intB_eql, intB_neq, intB_lss, intB_leq, intB_gtr, intB_geq] <;> rfl) ?_ | refine newP_mk ?_ | refine optP_mk ?_ | with_reducible first | refine condP_t ?_ | refine condP_f ?_ | refine ifP_tt' ?_ | refine ifP_ff' ?_ | refine ifP_tf' ?_ | refine ifP_ft' ?_ | refine ifP_u' ?_ | refine optP_mk0 ?_))
      refine hx _ _ _ _ (fun e => by cases e) (exP_r ?_)
      refine ⟨_, Sub.refl _, kb hK ?_ (by omega)⟩
      rw [← hr, decide_eq_false (by omega)]; rfl
    · rw [decide_eq_false h1]
      (repeat (first | refine bindP_mk (by simp (disch := first | omega | exact Int.natCast_nonneg _ | assumption) only [BB, B2, ↓reduceIte, Nat.reduceLeDiff, Nat.reduceAdd, intB_eql, intB_neq, intB_lss, intB_leq, intB_gtr, intB_geq] <;> rfl) ?_ | refine newP_mk ?_ | refine optP_mk ?_ | with_reducible first | refine condP_t ?_ | refine condP_f ?_ | refine ifP_tt' ?_ | refine ifP_ff' ?_ | refine ifP_tf' ?_ | refine ifP_ft' ?_ | refine ifP_u' ?_ | refine optP_mk0 ?_))
      by_cases h2 : many ≤ x
      · rw [decide_eq_true h2]
        (repeat (first | refine bindP_mk (by simp (disch := first | omega | exact Int.natCast_nonneg _ | assumption) only [BB, B2, ↓reduceIte, Nat.reduceLeDiff, Nat.reduceAdd, intB_eql, intB_neq, intB_lss, intB_leq, intB_gtr, intB_geq] <;> rfl) ?_ | refine newP_mk ?_ | refine optP_mk ?_ | with_reducible first | refine condP_t ?_ | refine condP_f ?_ | refine ifP_tt' ?_ | refine ifP_ff' ?_ | refine ifP_tf' ?_ | refine ifP_ft' ?_ | refine ifP_u' ?_ | refine optP_mk0 ?_))
        refine hx _ _ _ _ (fun e => by cases e) (exP_r ?_)
        refine ⟨_, Sub.refl _, kb hK ?_ (by omega)⟩
        rw [← hr, decide_eq_false (show ¬ x < many by omega)]; simp
      · rw [decide_eq_false h2]
        (repeat (first | refine bindP_mk (by simp (disch := first | omega | exact Int.natCast_nonneg _ | assumption) only [BB, B2, ↓reduceIte, Nat.reduceLeDiff, Nat.reduceAdd, intB_eql, intB_neq, intB_lss, intB_leq, intB_gtr, intB_geq] <;> rfl) ?_ | refine newP_mk ?_ | refine optP_mk ?_ | with_reducible first | refine condP_t ?_ | refine condP_f ?_ | refine ifP_tt' ?_ | refine ifP_ff' ?_ | refine ifP_tf' ?_ | refine ifP_ft' ?_ | refine ifP_u' ?_ | refine optP_mk0 ?_))
        refine hq (j - 1) _ _ _ _ (by omega) ⟨k + 1, x, by omega, by omega, rfl, e1, rfl, e8, e9, rfl, by omega, ?_⟩ (Sub.refl _)
        rw [← hr, decide_eq_true (show last < x by omega), decide_eq_true (show x < many by omega)]; rfl
  · refine hx _ _ _ _ (fun e => by cases e) (exP_e (beqP_t ?_))
    unfold glush_rises_j1
    rw [drop_all (by omega)] at hr
    exact ⟨_, Sub.refl _, kb hK hr.symm (by omega)⟩
set_option maxRecDepth 4000 in
theorem glush_may_c {ro : Ro} {p : PosD} {nv : Value} {many : Int} (hm : many ≤ 1000000) {h : T Obj} {nx : Nat} {K : KV} (hf : Fr h nx) (hs : p.s < 2 ^ 256) (hn : ZI ro h nv p.next) (hK : ∀ nx', nx ≤ nx' → K (.bool (mayD many p)) h nx') : callP Try.prog ro i_glush_may [.agg (posL p nv).toArray, .int .i64 many] h nx K := by
  apply glush_may_of
  unfold glush_may
  refine newP_mk ?_
  have hs1 : Sub h (h.upd nx (some (.cells (Value.cells (.agg (posL p nv).toArray)) y_api_Pos))) := (Sub.refl h).new hf (Nat.le_refl _)
  have g : (h.upd nx (some (.cells (Value.cells (.agg (posL p nv).toArray)) y_api_Pos))).get nx = some (.cells (posL p nv).toArray y_api_Pos) := by rw [T.get_upd_same]; rfl
  generalize h.upd nx (some (.cells (Value.cells (.agg (posL p nv).toArray)) y_api_Pos)) = h1 at hs1 g
  have hK' : ∀ (b : Bool) n, mayD many p = b → nx ≤ n → ∃ h', Sub h' h1 ∧ K (.bool b) h' n := fun b n e hn => ⟨h, hs1, kb hK e hn⟩
  unfold mayD at hK'
  (repeat (first | refine bindP_mk (by simp (disch := first | omega | exact Int.natCast_nonneg _ | assumption) only [BB, B2, ↓reduceIte, Nat.reduceLeDiff, Nat.reduceAdd, intB_eql, intB_neq, intB_lss, intB_leq, intB_gtr, intB_geq, g, posL_take] <;> rfl) ?_ | refine newP_mk ?_ | refine optP_mk ?_ | with_reducible first | refine condP_t ?_ | refine condP_f ?_ | refine ifP_tt' ?_ | refine ifP_ff' ?_ | refine ifP_tf' ?_ | refine ifP_ft' ?_ | refine ifP_u' ?_ | refine optP_mk0 ?_))
  refine bindP_mk build_Set0 (bindP_mk plain_Set (neq_set0_s hs (fun h0 => ?_) (fun h0 => ?_)))
  rotate_left
  · (repeat (first | refine bindP_mk (by simp (disch := first | omega | exact Int.natCast_nonneg _ | assumption) only [BB, B2, ↓reduceIte, Nat.reduceLeDiff, Nat.reduceAdd, CC, g] <;> rfl) ?_ | refine newP_mk ?_ | refine optP_mk ?_ | with_reducible first | refine condP_t ?_ | refine condP_f ?_ | refine ifP_tt' ?_ | refine ifP_ff' ?_ | refine ifP_tf' ?_ | refine ifP_ft' ?_ | refine ifP_u' ?_ | refine optP_mk0 ?_))
    exact hK' _ _ (by simp [h0]) (by omega)
  · (repeat (first | refine bindP_mk (by simp (disch := first | omega | exact Int.natCast_nonneg _ | assumption) only [BB, B2, ↓reduceIte, Nat.reduceLeDiff, Nat.reduceAdd, CC, g] <;> rfl) ?_ | refine newP_mk ?_ | refine optP_mk ?_ | with_reducible first | refine condP_t ?_ | refine condP_f ?_ | refine ifP_tt' ?_ | refine ifP_ff' ?_ | refine ifP_tf' ?_ | refine ifP_ft' ?_ | refine ifP_u' ?_ | refine optP_mk0 ?_))
    iterate 5 ((first | refine lss_s (fun hb => ?_) (fun hb => ?_) | refine leq_s (fun hb => ?_) (fun hb => ?_) | refine gtr_s (fun hb => ?_) (fun hb => ?_) | refine geq_s (fun hb => ?_) (fun hb => ?_) | refine eql_s (fun hb => ?_) (fun hb => ?_) | refine neq_s (fun hb => ?_) (fun hb => ?_)); rotate_left; (focus ((repeat (first | refine bindP_mk (by simp (disch := first | omega | exact Int.natCast_nonneg _ | assumption) only [BB, B2, ↓reduceIte, Nat.reduceLeDiff, Nat.reduceAdd, CC, g] <;> rfl) ?_ | refine newP_mk ?_ | refine optP_mk ?_ | with_reducible first | refine condP_t ?_ | refine condP_f ?_ | refine ifP_tt' ?_ | refine ifP_ff' ?_ | refine ifP_tf' ?_ | refine ifP_ft' ?_ | refine ifP_u' ?_ | refine optP_mk0 ?_)); refine hK' _ _ ?_ (by omega); simp only [Bool.and_eq_false_iff, decide_eq_false_iff_not]; omega)); (repeat (first | refine bindP_mk (by simp (disch := first | omega | exact Int.natCast_nonneg _ | assumption) only [BB, B2, ↓reduceIte, Nat.reduceLeDiff, Nat.reduceAdd, CC, g] <;> rfl) ?_ | refine newP_mk ?_ | refine optP_mk ?_ | with_reducible first | refine condP_t ?_ | refine condP_f ?_ | refine ifP_tt' ?_ | refine ifP_ff' ?_ | refine ifP_tf' ?_ | refine ifP_ft' ?_ | refine ifP_u' ?_ | refine optP_mk0 ?_)))
    refine glush_rises_c hm (hn.sub hs1) fun n hn => ?_
    (repeat (first | refine bindP_mk (by simp (disch := first | omega | exact Int.natCast_nonneg _ | assumption) only [BB, B2, ↓reduceIte, Nat.reduceLeDiff, Nat.reduceAdd, CC, g] <;> rfl) ?_ | refine newP_mk ?_ | refine optP_mk ?_ | with_reducible first | refine condP_t ?_ | refine condP_f ?_ | refine ifP_tt' ?_ | refine ifP_ff' ?_ | refine ifP_tf' ?_ | refine ifP_ft' ?_ | refine ifP_u' ?_ | refine optP_mk0 ?_))
    refine hK' _ _ ?_ (by omega)
    rw [decide_eq_true h0]
    repeat rw [decide_eq_true (by omega), Bool.true_and]
    rfl
def findI {D : Type} (q : D → Bool) (k : Int) : List D → Int
  | [] => -1
  | x :: r => if q x then k else findI q (k + 1) r
theorem findI_cons {D : Type} (q : D → Bool) (k : Int) (x : D) (r : List D) : findI q k (x :: r) = if q x then k else findI q (k + 1) r := rfl
theorem findI_any {D : Type} (q : D → Bool) : ∀ (l : List D) (k : Int), 0 ≤ k → decide (0 ≤ findI q k l) = l.any q
  | [], k, hk => rfl
  | x :: r, k, hk => by
    rw [findI_cons, List.any_cons]
    by_cases h : q x = true
    · rw [if_pos h, h]; simp [hk]
    · rw [if_neg h, findI_any q r (k + 1) (by omega)]; simp [h]
theorem pos_IndexFunc_c {ro : Ro} {v f : Value} {D : Type} {l : List D} {R : List Value → D → Prop} {q : D → Bool} (hlen : l.length ≤ 1000000) {h : T Obj} {nx : Nat} {K : KV} (hv : SlR ro h v 9 R l)
    (hf : ∀ (i : Nat) (hi : i < l.length) x n K', R x l[i] → nx ≤ n → (∀ n', n ≤ n' → K' (.bool (q l[i])) h n') → callF (callP Try.prog ro) f [.agg x.toArray] h n K')
    (hK : ∀ nx', nx ≤ nx' → K (.int .i64 (findI q 0 l)) h nx') : callP Try.prog ro i_slices_IndexFunc_api_Pos_api_Pos [v, f] h nx K := by
  apply slices_IndexFunc_api_Pos_api_Pos_of
  unfold slices_IndexFunc_api_Pos_api_Pos
  generalize hR : findI q 0 l = r at hK
  refine bindP_mk hv.len ?_
  refine loopP_rule (fun j e h' nx' => ∃ (k : Nat), k + j = l.length ∧ nx ≤ nx' ∧ h' = h ∧ e 0 = v ∧ e 1 = f ∧ e 7 = .int .i64 l.length ∧ e 8 = .int .i64 k ∧ findI q k (l.drop k) = r) ?_ (n := l.length) ⟨0, by omega, by omega, rfl, rfl, rfl, rfl, rfl, hR⟩
  rintro j e h' nx' ⟨k, hj, hnx, rfl, e0, e1, e7, e8, hr⟩ Q' hq hx
  unfold slices_IndexFunc_api_Pos_api_Pos_L1
  rw [e0, e1, e7, e8]
  refine lss_s (fun hk => ?_) (fun hk => ?_)
  · have hk : k < l.length := by omega
    rw [drop_cons hk, findI_cons] at hr
    obtain ⟨x, hx1, hx2, hx3, hx4, hx5⟩ := hv.at hk
    (repeat (first | refine bindP_mk (by simp (disch := first | omega | exact Int.natCast_nonneg _ | assumption) only [BB, B2, ↓reduceIte, Nat.reduceLeDiff, Nat.reduceAdd, CC] <;> rfl) ?_ | refine newP_mk ?_ | refine optP_mk ?_ | with_reducible first | refine condP_t ?_ | refine condP_f ?_ | refine ifP_tt' ?_ | refine ifP_ff' ?_ | refine ifP_tf' ?_ | refine ifP_ft' ?_ | refine ifP_u' ?_ | refine optP_mk0 ?_))
    refine bindP_mk (hv.ix _ hk) (bindP_mk hx3 ?_)
    refine hf k hk x _ _ hx1 (by omega) fun n hn => ?_
    cases hc : q l[k] with
    | true =>
      rw [hc, if_pos rfl] at hr
      (repeat (first | refine bindP_mk (by simp (disch := first | omega | exact Int.natCast_nonneg _ | assumption) only [BB, B2, ↓reduceIte, Nat.reduceLeDiff, Nat.reduceAdd, CC] <;> rfl) ?_ | refine newP_mk ?_ | refine optP_mk ?_ | with_reducible first | refine condP_t ?_ | refine condP_f ?_ | refine ifP_tt' ?_ | refine ifP_ff' ?_ | refine ifP_tf' ?_ | refine ifP_ft' ?_ | refine ifP_u' ?_ | refine optP_mk0 ?_))
      refine hx _ _ _ _ (fun e => by cases e) (exP_r ?_)
      exact ⟨_, Sub.refl _, ki hK hr.symm (by omega)⟩
    | false =>
      rw [hc, if_neg (by decide)] at hr
      (repeat (first | refine bindP_mk (by simp (disch := first | omega | exact Int.natCast_nonneg _ | assumption) only [BB, B2, ↓reduceIte, Nat.reduceLeDiff, Nat.reduceAdd, CC] <;> rfl) ?_ | refine newP_mk ?_ | refine optP_mk ?_ | with_reducible first | refine condP_t ?_ | refine condP_f ?_ | refine ifP_tt' ?_ | refine ifP_ff' ?_ | refine ifP_tf' ?_ | refine ifP_ft' ?_ | refine ifP_u' ?_ | refine optP_mk0 ?_))
      exact hq (j - 1) _ _ _ _ (by omega) ⟨k + 1, by omega, by omega, rfl, e0, e1, e7, rfl, hr⟩ (Sub.refl _)
  · (repeat (first | refine bindP_mk (by simp (disch := first | omega | exact Int.natCast_nonneg _ | assumption) only [BB, B2, ↓reduceIte, Nat.reduceLeDiff, Nat.reduceAdd, CC] <;> rfl) ?_ | refine newP_mk ?_ | refine optP_mk ?_ | with_reducible first | refine condP_t ?_ | refine condP_f ?_ | refine ifP_tt' ?_ | refine ifP_ff' ?_ | refine ifP_tf' ?_ | refine ifP_ft' ?_ | refine ifP_u' ?_ | refine optP_mk0 ?_))
    refine hx _ _ _ _ (fun e => by cases e) (exP_e (beqP_t ?_))
    unfold slices_IndexFunc_api_Pos_api_Pos_j1
    rw [drop_all (by omega)] at hr
    exact ⟨_, Sub.refl _, ki hK hr.symm (by omega)⟩
theorem pos_ContainsFunc_c {ro : Ro} {v f : Value} {D : Type} {l : List D} {R : List Value → D → Prop} {q : D → Bool} (hlen : l.length ≤ 1000000) {h : T Obj} {nx : Nat} {K : KV} (hv : SlR ro h v 9 R l)
    (hf : ∀ (i : Nat) (hi : i < l.length) x n K', R x l[i] → nx ≤ n → (∀ n', n ≤ n' → K' (.bool (q l[i])) h n') → callF (callP Try.prog ro) f [.agg x.toArray] h n K')
    (hK : ∀ nx', nx ≤ nx' → K (.bool (l.any q)) h nx') : callP Try.prog ro i_slices_ContainsFunc_api_Pos_api_Pos [v, f] h nx K := by
  apply slices_ContainsFunc_api_Pos_api_Pos_of
  unfold slices_ContainsFunc_api_Pos_api_Pos
  refine pos_IndexFunc_c hlen hv (fun i hi x n K' hx hn hk => hf i hi x n K' hx (by omega) hk) fun n hn => ?_
  rw [← findI_any q l 0 (by omega)] at hK
  (first | refine lss_s (fun hb => ?_) (fun hb => ?_) | refine leq_s (fun hb => ?_) (fun hb => ?_) | refine gtr_s (fun hb => ?_) (fun hb => ?_) | refine geq_s (fun hb => ?_) (fun hb => ?_) | refine eql_s (fun hb => ?_) (fun hb => ?_) | refine neq_s (fun hb => ?_) (fun hb => ?_))
  · exact ⟨_, Sub.refl _, kb hK (decide_eq_true hb) (by omega)⟩
  · exact ⟨_, Sub.refl _, kb hK (decide_eq_false (by omega)) (by omega)⟩
theorem glush_Right_1_c {ro : Ro} {p : PosD} {nv a b : Value} {P : List PosD} {id : Nat} (hP : P.length ≤ 1000000) {h : T Obj} {nx : Nat} {K : KV} (hf : Fr h nx) (hs : p.s < 2 ^ 256) (hn : ZI ro h nv p.next)
    (g0 : h.get id = some (.cells #[a, b] y_api_Glush)) (hb : SlR ro h b 9 (RPos ro h) P) (hK : ∀ nx', nx ≤ nx' → K (.bool (!mayD P.length p)) h nx') : callP Try.prog ro i_glush_Right_1 [.agg (posL p nv).toArray, ptr id] h nx K := by
  apply glush_Right_1_of
  unfold glush_Right_1
  refine newP_mk ?_
  have hid : id < nx := by
    rcases Nat.lt_or_ge id nx with h1 | h1
    · exact h1
    · rw [hf id h1] at g0; cases g0
  have hs1 : Sub h (h.upd nx (some (.cells (Value.cells (.agg (posL p nv).toArray)) y_api_Pos))) := (Sub.refl h).new hf (Nat.le_refl _)
  have hf1 : Fr (h.upd nx (some (.cells (Value.cells (.agg (posL p nv).toArray)) y_api_Pos))) (nx + 1) := hf.upd (by omega) (by omega)
  have g : (h.upd nx (some (.cells (Value.cells (.agg (posL p nv).toArray)) y_api_Pos))).get nx = some (.cells (posL p nv).toArray y_api_Pos) := by rw [T.get_upd_same]; rfl
  have g1 := hs1 _ _ g0
  generalize h.upd nx (some (.cells (Value.cells (.agg (posL p nv).toArray)) y_api_Pos)) = h1 at hs1 hf1 g g1
  refine bindP_mk (loadA_all g rfl) ?_
  (repeat (first | refine bindP_mk (by simp (disch := first | omega | exact Int.natCast_nonneg _ | assumption) only [BB, B2, ↓reduceIte, Nat.reduceLeDiff, Nat.reduceAdd, CC, g1] <;> rfl) ?_ | refine newP_mk ?_ | refine optP_mk ?_ | with_reducible first | refine condP_t ?_ | refine condP_f ?_ | refine ifP_tt' ?_ | refine ifP_ff' ?_ | refine ifP_tf' ?_ | refine ifP_ft' ?_ | refine ifP_u' ?_ | refine optP_mk0 ?_))
  refine bindP_mk hb.len ?_
  refine glush_may_c (by omega) (hf1.mono (by omega)) hs (hn.sub hs1) fun n hn => ?_
  (repeat (first | refine bindP_mk (by simp (disch := first | omega | exact Int.natCast_nonneg _ | assumption) only [BB, B2, ↓reduceIte, Nat.reduceLeDiff, Nat.reduceAdd, CC] <;> rfl) ?_ | refine newP_mk ?_ | refine optP_mk ?_ | with_reducible first | refine condP_t ?_ | refine condP_f ?_ | refine ifP_tt' ?_ | refine ifP_ff' ?_ | refine ifP_tf' ?_ | refine ifP_ft' ?_ | refine ifP_u' ?_ | refine optP_mk0 ?_))
  exact ⟨h, hs1, hK _ (by omega)⟩
theorem all_not {D : Type} (q : D → Bool) (l : List D) : (!(l.any fun x => !q x)) = l.all q := by
  induction l with
  | nil => rfl
  | cons x r ih => rw [List.any_cons, List.all_cons, Bool.not_or, ih, Bool.not_not]
theorem glush_Right_c {ro : Ro} {v : Value} {g : GlD} {h : T Obj} {nx : Nat} {K : KV} (hf : Fr h nx) (hg : RG ro h v g) (hK : ∀ nx', nx ≤ nx' → K (.bool (rightD g)) h nx') : callP Try.prog ro i_glush_Right [v] h nx K := by
  obtain ⟨a, b, rfl, ha, hb⟩ := hg
  apply glush_Right_of
  unfold glush_Right
  refine newP_mk ?_
  have hs1 : Sub h (h.upd nx (some (.cells (Value.cells (.agg #[a, b])) y_api_Glush))) := (Sub.refl h).new hf (Nat.le_refl _)
  have hf1 : Fr (h.upd nx (some (.cells (Value.cells (.agg #[a, b])) y_api_Glush))) (nx + 1) := hf.upd (by omega) (by omega)
  have g1 : (h.upd nx (some (.cells (Value.cells (.agg #[a, b])) y_api_Glush))).get nx = some (.cells #[a, b] y_api_Glush) := by rw [T.get_upd_same]; rfl
  generalize h.upd nx (some (.cells (Value.cells (.agg #[a, b])) y_api_Glush)) = h1 at hs1 hf1 g1
  have hK' : ∀ (c : Bool) n, rightD g = c → nx ≤ n → ∃ h', Sub h' h1 ∧ K (.bool c) h' n := fun c n e hn => ⟨h, hs1, kb hK e hn⟩
  unfold rightD at hK'
  have hl := hb.len
  have hb1 := hb.sub hs1 (RPos.sub hs1)
  (repeat (first | refine bindP_mk (by simp (disch := first | omega | exact Int.natCast_nonneg _ | assumption) only [BB, B2, ↓reduceIte, Nat.reduceLeDiff, Nat.reduceAdd, CC, g1, hl] <;> rfl) ?_ | refine newP_mk ?_ | refine optP_mk ?_ | with_reducible first | refine condP_t ?_ | refine condP_f ?_ | refine ifP_tt' ?_ | refine ifP_ff' ?_ | refine ifP_tf' ?_ | refine ifP_ft' ?_ | refine ifP_u' ?_ | refine optP_mk0 ?_))
  (first | refine lss_s (fun hb => ?_) (fun hb => ?_) | refine leq_s (fun hb => ?_) (fun hb => ?_) | refine gtr_s (fun hb => ?_) (fun hb => ?_) | refine geq_s (fun hb => ?_) (fun hb => ?_) | refine eql_s (fun hb => ?_) (fun hb => ?_) | refine neq_s (fun hb => ?_) (fun hb => ?_))
  · (repeat (first | refine bindP_mk (by simp (disch := first | omega | exact Int.natCast_nonneg _ | assumption) only [BB, B2, ↓reduceIte, Nat.reduceLeDiff, Nat.reduceAdd, CC, g1, hl] <;> rfl) ?_ | refine newP_mk ?_ | refine optP_mk ?_ | with_reducible first | refine condP_t ?_ | refine condP_f ?_ | refine ifP_tt' ?_ | refine ifP_ff' ?_ | refine ifP_tf' ?_ | refine ifP_ft' ?_ | refine ifP_u' ?_ | refine optP_mk0 ?_))
    exact hK' _ _ (by rw [decide_eq_false (by omega)]; rfl) (by omega)
  · (repeat (first | refine bindP_mk (by simp (disch := first | omega | exact Int.natCast_nonneg _ | assumption) only [BB, B2, ↓reduceIte, Nat.reduceLeDiff, Nat.reduceAdd, CC, g1, hl] <;> rfl) ?_ | refine newP_mk ?_ | refine optP_mk ?_ | with_reducible first | refine condP_t ?_ | refine condP_f ?_ | refine ifP_tt' ?_ | refine ifP_ff' ?_ | refine ifP_tf' ?_ | refine ifP_ft' ?_ | refine ifP_u' ?_ | refine optP_mk0 ?_))
    refine glush_rises_c (by omega) (ha.sub hs1) fun n hn => ?_
    cases hr : rz (-1) g.p.length g.first with
    | false =>
      (repeat (first | refine bindP_mk (by simp (disch := first | omega | exact Int.natCast_nonneg _ | assumption) only [BB, B2, ↓reduceIte, Nat.reduceLeDiff, Nat.reduceAdd, CC, g1, hl] <;> rfl) ?_ | refine newP_mk ?_ | refine optP_mk ?_ | with_reducible first | refine condP_t ?_ | refine condP_f ?_ | refine ifP_tt' ?_ | refine ifP_ff' ?_ | refine ifP_tf' ?_ | refine ifP_ft' ?_ | refine ifP_u' ?_ | refine optP_mk0 ?_))
      exact hK' _ _ (by rw [hr]; simp) (by omega)
    | true =>
      (repeat (first | refine bindP_mk (by simp (disch := first | omega | exact Int.natCast_nonneg _ | assumption) only [BB, B2, ↓reduceIte, Nat.reduceLeDiff, Nat.reduceAdd, CC, g1, hl] <;> rfl) ?_ | refine newP_mk ?_ | refine optP_mk ?_ | with_reducible first | refine condP_t ?_ | refine condP_f ?_ | refine ifP_tt' ?_ | refine ifP_ff' ?_ | refine ifP_tf' ?_ | refine ifP_ft' ?_ | refine ifP_u' ?_ | refine optP_mk0 ?_))
      refine pos_ContainsFunc_c (q := fun p => !mayD g.p.length p) (by omega) hb1 (fun i hi x n' K' hx hn' hk' => ?_) fun n' hn' => ?_
      · obtain ⟨nv, rfl, h2, h3⟩ := hx
        exact glush_Right_1_c (by omega) (hf1.mono (by omega)) h3 h2 g1 hb1 hk'
      · (repeat (first | refine bindP_mk (by simp (disch := first | omega | exact Int.natCast_nonneg _ | assumption) only [BB, B2, ↓reduceIte, Nat.reduceLeDiff, Nat.reduceAdd, CC] <;> rfl) ?_ | refine newP_mk ?_ | refine optP_mk ?_ | with_reducible first | refine condP_t ?_ | refine condP_f ?_ | refine ifP_tt' ?_ | refine ifP_ff' ?_ | refine ifP_tf' ?_ | refine ifP_ft' ?_ | refine ifP_u' ?_ | refine optP_mk0 ?_))
        refine hK' _ _ ?_ (by omega)
        rw [all_not, decide_eq_true (by omega), hr]; rfl
end V
end Go.Proofs.Ytmmdcdjkmakgpaa
set_option linter.unusedVariables false
set_option linter.unusedSimpArgs false
set_option maxRecDepth 8000
namespace Go.Proofs.Ytmmdcdjkmakgpaa
namespace V
open PA Go.ChangeShapes Go.WideShapes Go.ChangeAt Go.RowKit
theorem okOwn : ownKnob Try.prog.godebug = none := by kernel_rfl
theorem okLaid : laidOutB Try.prog = true := by kernel_rfl
section
variable {H : Type} {enc : TypeId × Value → H} {W : World}
theorem u64_cell {n : Nat} {cs : List Value} {y : DataW H × List MemPlace} (h : DataW.trod enc Try.prog W 0 (fun _ => true) true n y_uint64 cs = some y) : ∃ a : Nat, cs = [.int .u64 (a : Int)] ∧ a < 2 ^ 64 := by
  have hu : Try.prog.underlying y_uint64 = some (.int .u64) := by kernel_rfl
  obtain ⟨a, rfl, _, hw⟩ := DataW.trod_int hu h
  simp only [Lit.wf, Bool.and_eq_true, decide_eq_true_eq] at hw
  have h1 : IntKind.u64.min = 0 := rfl
  have h2 : IntKind.u64.max = 18446744073709551615 := rfl
  rw [h1, h2] at hw
  refine ⟨a.toNat, ?_, by omega⟩
  rw [Int.toNat_of_nonneg hw.1]
theorem set_cells {n : Nat} {cs : List Value} {y : DataW H × List MemPlace} (h : DataW.trod enc Try.prog W 0 (fun _ => true) true n y_api_Set cs = some y) : ∃ m, m < 2 ^ 256 ∧ cs = setL m := by
  have hu : Try.prog.underlying y_api_Set = some (.array 4 y_uint64) := by kernel_rfl
  have hc : Try.prog.cellsOf y_api_Set = 4 := by kernel_rfl
  have hc1 : Try.prog.cellsOf y_uint64 = 1 := by kernel_rfl
  obtain ⟨xs, m, _, _, hlen, hxs, hel⟩ := DataW.trod_array hu h
  rw [hc] at hlen
  have el : ∀ i, i < 4 → ∃ a : Nat, (cs.drop i).take 1 = [.int .u64 (a : Int)] ∧ a < 2 ^ 64 := by
    intro i hi
    have := hel i hi
    rw [hc1, Nat.mul_one] at this
    have hx : xs[i]? = some xs[i] := List.getElem?_eq_getElem (by omega)
    rw [hx] at this
    exact u64_cell this
  match cs, hlen with
  | [c0, c1, c2, c3], _ =>
    obtain ⟨a0, h0, g0⟩ := el 0 (by omega)
    obtain ⟨a1, h1, g1⟩ := el 1 (by omega)
    obtain ⟨a2, h2, g2⟩ := el 2 (by omega)
    obtain ⟨a3, h3, g3⟩ := el 3 (by omega)
    simp at h0 h1 h2 h3
    subst h0 h1 h2 h3
    obtain ⟨w0, w1, w2, w3⟩ := word_ofWords g0 g1 g2 g3
    exact ⟨ofWords a0 a1 a2 a3, ofWords_lt g0 g1 g2 g3, by simp [setL, w0, w1, w2, w3]⟩
def fieldsOf (P : Program) (t : TypeId) : Option (List (Nat × TypeId)) := match und P t with
  | some (.struct fs) => some (fs.toList.map fun f => (f.offset, f.type))
  | _ => none
theorem trod_fields {t : TypeId} {L : List (Nat × TypeId)} (hL : fieldsOf Try.prog t = some L) {fuel : Nat} {cs : List Value} {x : DataW H × List MemPlace} (h : DataW.trod enc Try.prog W 0 (fun _ => true) true fuel t cs = some x) :
    cs.length = Try.prog.cellsOf t ∧ ∃ n, ∀ (i o : Nat) (ty : TypeId), L[i]? = some (o, ty) → ∃ y, DataW.trod enc Try.prog W 0 (fun _ => true) true n ty ((cs.drop o).take (Try.prog.cellsOf ty)) = some y := by
  unfold fieldsOf at hL
  split at hL
  · rename_i fs hu
    cases hL
    obtain ⟨xs, n, _, _, hlen, hxs, hf⟩ := DataW.trod_struct (und_under hu) h
    refine ⟨hlen, n, fun i o ty hi => ?_⟩
    rw [List.getElem?_map] at hi
    cases hq : fs.toList[i]? with
    | none => rw [hq] at hi; cases hi
    | some f =>
      rw [hq] at hi
      cases hi
      have hfs : fs[i]? = some f := by simpa using hq
      have hil := (List.getElem?_eq_some_iff.1 hq).1
      have hx : xs[i]? = some (xs[i]'(by rw [hxs]; simpa using hil)) := List.getElem?_eq_getElem _
      exact ⟨_, by rw [hf i f hfs, hx]⟩
  · cases hL
theorem okWide_agg {t : TypeId} {L : List (Nat × TypeId)} (hL : fieldsOf Try.prog t = some L) {v : Value} {base : Nat} (hval : Value.okWide Try.prog W .any base t v) : ∃ cs, v = .agg cs := by
  unfold fieldsOf at hL
  split at hL
  · rename_i fs hu
    unfold Value.okWide at hval
    rw [und_under hu] at hval
    obtain ⟨cs, e, _⟩ := hval
    exact ⟨cs, e⟩
  · cases hL
theorem int_cell {n : Nat} {cs : List Value} {y : DataW H × List MemPlace} (h : DataW.trod enc Try.prog W 0 (fun _ => true) true n y_int cs = some y) : ∃ a : Int, cs = [.int .i64 a] := by
  have hu : Try.prog.underlying y_int = some (.int .i64) := by kernel_rfl
  obtain ⟨a, rfl, _⟩ := DataW.trod_int hu h
  exact ⟨a, rfl⟩
theorem bool_cell {n : Nat} {cs : List Value} {y : DataW H × List MemPlace} (h : DataW.trod enc Try.prog W 0 (fun _ => true) true n y_bool cs = some y) : ∃ a : Bool, cs = [.bool a] := by
  have hu : Try.prog.underlying y_bool = some .bool := by kernel_rfl
  obtain ⟨a, rfl, _⟩ := DataW.trod_bool hu h
  exact ⟨a, rfl⟩
theorem ints_cell {n : Nat} {cs : List Value} {y : DataW H × List MemPlace} (h : DataW.trod enc Try.prog W 0 (fun _ => true) true n y_s_int cs = some y) : ∃ v v' l, cs = [v] ∧ norm W.heap.size v = some v' ∧ ZI (roOf W) .e v' l := by
  have hu : Try.prog.underlying y_s_int = some (.slice y_int) := by kernel_rfl
  have hc : Try.prog.cellsOf y_int = 1 := by kernel_rfl
  obtain ⟨v, v', hv, hn, l, hl, hall⟩ := open_sl hu hc (by omega) h (El := fun x => ∃ a : Int, x = [.int .i64 a]) fun n cs' y hy => by
    obtain ⟨a, rfl⟩ := int_cell hy
    exact ⟨_, rfl, a, rfl⟩
  have e : ∃ ms : List Int, l = intsZ ms := by
    clear hl
    induction l with
    | nil => exact ⟨[], rfl⟩
    | cons x l ih =>
      obtain ⟨ms, h1⟩ := ih fun y hy => hall y (by simp [hy])
      obtain ⟨m, rfl⟩ := hall x (by simp)
      exact ⟨m :: ms, by simp [intsZ, h1]⟩
  obtain ⟨ms, rfl⟩ := e
  exact ⟨v, v', ms, hv, hn, hl⟩
theorem open_slR {D : Type} {t e : TypeId} {z : Nat} {R : List Value → D → Prop} (ht : Try.prog.underlying t = some (.slice e)) (hz : Try.prog.cellsOf e = z) (hz0 : 0 < z) {fuel : Nat} {cs : List Value} {x : DataW H × List MemPlace} (h : DataW.trod enc Try.prog W 0 (fun _ => true) true fuel t cs = some x)
    (hel : ∀ n cs' y, DataW.trod enc Try.prog W 0 (fun _ => true) true n e cs' = some y → ∃ cs'', normL W.heap.size cs' = some cs'' ∧ ∃ d, R cs'' d) : ∃ v v' l, cs = [v] ∧ norm W.heap.size v = some v' ∧ SlR (roOf W) .e v' z R l := by
  obtain ⟨v, v', hv, hn, l, hl, hall⟩ := open_sl ht hz hz0 h (El := fun x => ∃ d, R x d) hel
  refine ⟨v, v', ?_⟩
  have e : ∃ ds : List D, l.length = ds.length ∧ ∀ (i : Nat) x d, l[i]? = some x → ds[i]? = some d → R x d := by
    clear hl
    induction l with
    | nil => exact ⟨[], rfl, fun i x d hx => by simp at hx⟩
    | cons x l ih =>
      obtain ⟨ds, h1, h2⟩ := ih fun y hy => hall y (by simp [hy])
      obtain ⟨d, hd⟩ := hall x (by simp)
      refine ⟨d :: ds, by simp [h1], fun i x' d' hx hd' => ?_⟩
      cases i with
      | zero => simp at hx hd'; subst hx; subst hd'; exact hd
      | succ i => exact h2 i x' d' (by simpa using hx) (by simpa using hd')
  obtain ⟨ds, h1, h2⟩ := e
  exact ⟨ds, hv, hn, l, hl, h1, h2⟩
theorem pos_cells {n : Nat} {cs : List Value} {y : DataW H × List MemPlace} (h : DataW.trod enc Try.prog W 0 (fun _ => true) true n y_api_Pos cs = some y) : ∃ cs'', normL W.heap.size cs = some cs'' ∧ ∃ d, RPos (roOf W) .e cs'' d := by
  have hL : fieldsOf Try.prog y_api_Pos = some [(0, y_api_Set), (4, y_int), (5, y_int), (6, y_int), (7, y_bool), (8, y_s_int)] := by kernel_rfl
  have c0 : Try.prog.cellsOf y_api_Pos = 9 := by kernel_rfl
  have c1 : Try.prog.cellsOf y_api_Set = 4 := by kernel_rfl
  have c2 : Try.prog.cellsOf y_int = 1 := by kernel_rfl
  have c3 : Try.prog.cellsOf y_bool = 1 := by kernel_rfl
  have c4 : Try.prog.cellsOf y_s_int = 1 := by kernel_rfl
  obtain ⟨hlen, m, hf⟩ := trod_fields hL h
  obtain ⟨_, f0⟩ := hf 0 _ _ rfl
  obtain ⟨_, f1⟩ := hf 1 _ _ rfl
  obtain ⟨_, f2⟩ := hf 2 _ _ rfl
  obtain ⟨_, f3⟩ := hf 3 _ _ rfl
  obtain ⟨_, f4⟩ := hf 4 _ _ rfl
  obtain ⟨_, f5⟩ := hf 5 _ _ rfl
  rw [c0] at hlen
  rw [c1] at f0
  rw [c2] at f1 f2 f3
  rw [c3] at f4
  rw [c4] at f5
  obtain ⟨s, hs, g0⟩ := set_cells f0
  obtain ⟨lo, g1⟩ := int_cell f1
  obtain ⟨hi, g2⟩ := int_cell f2
  obtain ⟨ru, g3⟩ := int_cell f3
  obtain ⟨la, g4⟩ := bool_cell f4
  obtain ⟨v, v', l, g5, hn, hz⟩ := ints_cell f5
  match cs, hlen with
  | [a0, a1, a2, a3, a4, a5, a6, a7, a8], _ =>
    simp at g0 g1 g2 g3 g4 g5
    subst g1 g2 g3 g4 g5
    have e : [a0, a1, a2, a3] = setL s := g0
    refine ⟨posL ⟨s, lo, hi, ru, la, l⟩ v', ?_, _, v', rfl, hz, hs⟩
    have e2 : [a0, a1, a2, a3, Value.int .i64 lo, .int .i64 hi, .int .i64 ru, .bool la, a8] = setL s ++ [.int .i64 lo, .int .i64 hi, .int .i64 ru, .bool la, a8] := by rw [← e]; rfl
    rw [e2]
    unfold setL posL
    simp only [setL, List.cons_append, List.nil_append, normL, hn]
    rfl
theorem open_glush {v : Value} {d : DataW H} {p : List MemPlace} (h : DataW.Trod enc Try.prog W 0 (fun _ => true) true y_api_Glush v d p) {base : Nat} (hval : Value.okWide Try.prog W .any base y_api_Glush v) : ∃ v' g, Arg W.heap.size v' v ∧ RG (roOf W) .e v' g := by
  have hL : fieldsOf Try.prog y_api_Glush = some [(0, y_s_int), (1, y_s_api_Pos)] := by kernel_rfl
  have c0 : Try.prog.cellsOf y_api_Glush = 2 := by kernel_rfl
  have c2 : Try.prog.cellsOf y_s_int = 1 := by kernel_rfl
  have c4 : Try.prog.cellsOf y_s_api_Pos = 1 := by kernel_rfl
  obtain ⟨cs, rfl⟩ := okWide_agg hL hval
  obtain ⟨fuel, hf⟩ := h
  have ecs : (Value.agg cs).cells.toList = cs.toList := rfl
  rw [ecs] at hf
  obtain ⟨hlen, m, hf⟩ := trod_fields hL hf
  obtain ⟨_, f0⟩ := hf 0 _ _ rfl
  obtain ⟨_, f1⟩ := hf 1 _ _ rfl
  rw [c0] at hlen
  rw [c2] at f0
  rw [c4] at f1
  obtain ⟨v, v', l, g0, hn, hz⟩ := ints_cell f0
  have hu : Try.prog.underlying y_s_api_Pos = some (.slice y_api_Pos) := by kernel_rfl
  have hc : Try.prog.cellsOf y_api_Pos = 9 := by kernel_rfl
  obtain ⟨w, w', ps, g1, hn1, hz1⟩ := open_slR hu hc (by omega) f1 fun n cs' y hy => pos_cells hy
  have hcs : cs.toList = [v, w] := by
    generalize cs.toList = L at *
    match L, hlen with
    | [a0, a1], _ =>
      simp at g0 g1
      subst g0 g1; rfl
  refine ⟨.agg #[v', w'], ⟨l, ps⟩, .agg (l := [v', w']) ?_, v', w', rfl, hz, hz1⟩
  rw [hcs]
  simp only [normL, hn, hn1]; rfl
end
end V
end Go.Proofs.Ytmmdcdjkmakgpaa
set_option linter.unusedVariables false
set_option linter.unusedSimpArgs false
namespace Go.Proofs.Ytmmdcdjkmakgpaa
namespace V
attribute [local irreducible] bindP ifP condP newP optP exP beqP
def u8s (l : List Nat) : List Value := l.map fun b : Nat => Value.int .u8 (b : Int)
theorem u8s_len (l : List Nat) : (u8s l).length = l.length := by simp [u8s]
def splitLI (c : List Nat) (n : Int) : List Value := u8s c ++ [.int .i64 n]
def splitI (c : List Nat) (n : Int) : Value := .agg (splitLI c n).toArray
theorem splitI_cells (c : List Nat) (n : Int) : (splitI c n).cells = (splitLI c n).toArray := rfl
theorem splitLI_len {c : List Nat} {n : Int} (hc : c.length = 256) : (splitLI c n).length = 257 := by simp [splitLI, u8s_len, hc]
theorem splitLI_ok (c : List Nat) (n : Int) : (splitLI c n).all cellOk = true := by simp [splitLI, u8s, cellOk]
theorem splitLI_get {c : List Nat} {n : Int} {i : Nat} (hi : i < c.length) : (splitLI c n)[i]? = some (.int .u8 (c[i] : Nat)) := by
  unfold splitLI
  rw [List.getElem?_append_left (by rw [u8s_len]; exact hi)]
  simp [u8s, hi]
theorem splitLI_many {c : List Nat} {n : Int} (hc : c.length = 256) : (splitLI c n)[256]? = some (.int .i64 n) := by
  unfold splitLI
  rw [List.getElem?_append_right (by rw [u8s_len]; omega)]
  simp [u8s_len, hc]
theorem loadA_of {ro : Ro} {h : T Obj} {id z n : Nat} {c : List Nat} {m : Int} {e : TypeId} {f : Nat × Nat} (hg : h.get id = some (.cells (splitLI c m).toArray e f)) (hc : c.length = 256) : loadA ro h 256 (at_ id 0 z) = some (.agg (u8s c).toArray) := by
  rw [loadA_own, hg, cellsIn_some]
  simp only [Option.bind_some, tl]
  rw [if_pos (by rw [splitLI_len hc]; omega), List.drop_zero]
  unfold splitLI
  rw [List.take_append_of_le_length (by rw [u8s_len]; omega), List.take_of_length_le (by rw [u8s_len]; omega)]
theorem ixA1_u8s {c : List Nat} {i : Nat} (k : IntKind) (hi : i < c.length) (hc : c.length = 256) : ixA1 256 1 (.agg (u8s c).toArray) (.int k (i : Int)) = some (.int .u8 (c[i] : Nat)) := by
  have hn : natV (.int k (i : Int)) = some i := by simp [natV]
  have hb : Nat.blt i 256 = true := by simp [Nat.blt]; omega
  unfold ixA1
  rw [hn]
  simp only [Option.bind_some, asAgg, hb, Nat.mul_one, List.getElem?_toArray]
  simp [u8s, hi]
def rt (c : List Nat) : Nat → Option Nat
  | 0 => some 0
  | i + 1 => (rt c i).bind fun m => if m < c.getD i 0 then none else if c.getD i 0 = m then some (m + 1) else some m
def rightB (c : List Nat) (n : Int) : Bool := match rt c 256 with
  | some m => decide ((m : Int) = n)
  | none => false
theorem rt_le {c : List Nat} : ∀ {i m : Nat}, rt c i = some m → m ≤ i
  | 0, m, h => by cases h; exact Nat.le_refl _
  | i + 1, m, h => by
    obtain ⟨m0, h1, h2⟩ := bind_some' h
    have := rt_le h1
    split at h2
    · cases h2
    · split at h2 <;> cases h2 <;> omega
theorem rt_none {c : List Nat} {i : Nat} (h : rt c i = none) : ∀ j, i ≤ j → rt c j = none := by
  intro j hj
  induction hj with
  | refl => exact h
  | step _ ih => simp only [rt, ih, Option.bind]
set_option maxRecDepth 4000 in
theorem split_Right_c {ro : Ro} {c : List Nat} {n : Int} (hc : c.length = 256) (hcl : ∀ x ∈ c, x < 256) {h : T Obj} {nx : Nat} {K : KV} (hf : Fr h nx) (hK : ∀ nx', nx ≤ nx' → K (.bool (rightB c n)) h nx') : callP Try.prog ro i_split_Right [splitI c n] h nx K := by
  apply split_Right_of
  unfold split_Right
  refine newP_mk ?_
  (repeat (first | refine bindP_mk (by simp (disch := first | omega | exact Int.natCast_nonneg _ | assumption) only [BB, B2, ↓reduceIte, Nat.reduceLeDiff, Nat.reduceAdd, intB_eql, intB_neq, intB_lss, intB_leq, intB_gtr, intB_geq] <;> rfl) ?_ | refine newP_mk ?_ | refine optP_mk ?_ | with_reducible first | refine condP_t ?_ | refine condP_f ?_ | refine ifP_tt' ?_ | refine ifP_ff' ?_ | refine ifP_tf' ?_ | refine ifP_ft' ?_ | refine ifP_u' ?_ | refine optP_mk0 ?_))
  refine bindP_mk (loadA_of (n := 0) (c := c) (m := n) (e := y_api_Split) (f := (0, 0)) (by simp (disch := first | omega | exact Int.natCast_nonneg _ | assumption) only [BB, B2, ↓reduceIte, Nat.reduceLeDiff, Nat.reduceAdd, intB_eql, intB_neq, intB_lss, intB_leq, intB_gtr, intB_geq, splitI_cells]) hc) ?_
  refine loopP_rule (fun j e h' nx' => ∃ (i m : Nat), i + j = 256 ∧ nx + 1 ≤ nx' ∧ e 1 = ptr nx ∧ e 3 = .int .i64 m ∧ e 7 = .agg (u8s c).toArray ∧ e 8 = .int .i64 i ∧ Sub h h' ∧ Fr h' nx' ∧
    h'.get nx = some (.cells (splitLI c n).toArray y_api_Split) ∧ rt c i = some m) ?_ (n := 256) ⟨0, 0, by omega, by omega, rfl, rfl, rfl, rfl, ?_, ?_, ?_, rfl⟩
  · rintro j e h' nx' ⟨i, m, hij, hnx, e1, e3, e7, e8, hs, hf', g0, hr⟩ Q' hq hx
    have hm := rt_le hr
    unfold split_Right_L1
    rw [e3, e7, e8]
    (repeat (first | refine bindP_mk (by simp (disch := first | omega | exact Int.natCast_nonneg _ | assumption) only [BB, B2, ↓reduceIte, Nat.reduceLeDiff, Nat.reduceAdd, intB_eql, intB_neq, intB_lss, intB_leq, intB_gtr, intB_geq] <;> rfl) ?_ | refine newP_mk ?_ | refine optP_mk ?_ | with_reducible first | refine condP_t ?_ | refine condP_f ?_ | refine ifP_tt' ?_ | refine ifP_ff' ?_ | refine ifP_tf' ?_ | refine ifP_ft' ?_ | refine ifP_u' ?_ | refine optP_mk0 ?_))
    by_cases hi : i < 256
    · refine condP_tr (by simp; omega) ?_
      have hic : i < c.length := by omega
      refine bindP_mk (ixA1_u8s _ hic hc) ?_
      have hci := hcl _ (List.getElem_mem hic)
      have hgd : c.getD i 0 = c[i] := by rw [List.getD_eq_getElem?_getD, List.getElem?_eq_getElem hic]; rfl
      have hrs : rt c (i + 1) = if m < c[i] then none else if c[i] = m then some (m + 1) else some m := by simp only [rt, hr, Option.bind_some, hgd]
      (repeat (first | refine bindP_mk (by simp (disch := first | omega | exact Int.natCast_nonneg _ | assumption) only [BB, B2, ↓reduceIte, Nat.reduceLeDiff, Nat.reduceAdd, intB_eql, intB_neq, intB_lss, intB_leq, intB_gtr, intB_geq] <;> rfl) ?_ | refine newP_mk ?_ | refine optP_mk ?_ | with_reducible first | refine condP_t ?_ | refine condP_f ?_ | refine ifP_tt' ?_ | refine ifP_ff' ?_ | refine ifP_tf' ?_ | refine ifP_ft' ?_ | refine ifP_u' ?_ | refine optP_mk0 ?_))
      by_cases h1 : m < c[i]
      · refine condP_tr (by simp; omega) ?_
        refine hx _ _ _ _ (fun e => by cases e) (exP_r ?_)
        refine ⟨h, hs, ?_⟩
        have hn : rt c 256 = none := rt_none (i := i + 1) (by rw [hrs, if_pos h1]) 256 (by omega)
        have := hK (nx' + 9) (by omega)
        unfold rightB at this
        rw [hn] at this
        exact this
      · refine condP_fa (by simp; omega) ?_
        rw [if_neg h1] at hrs
        (repeat (first | refine bindP_mk (by simp (disch := first | omega | exact Int.natCast_nonneg _ | assumption) only [BB, B2, ↓reduceIte, Nat.reduceLeDiff, Nat.reduceAdd, intB_eql, intB_neq, intB_lss, intB_leq, intB_gtr, intB_geq] <;> rfl) ?_ | refine newP_mk ?_ | refine optP_mk ?_ | with_reducible first | refine condP_t ?_ | refine condP_f ?_ | refine ifP_tt' ?_ | refine ifP_ff' ?_ | refine ifP_tf' ?_ | refine ifP_ft' ?_ | refine ifP_u' ?_ | refine optP_mk0 ?_))
        have hj2 : ∀ (e : Env) (n2 m' : Nat), nx' ≤ n2 → e 1 = ptr nx → e 3 = .int .i64 m' → e 7 = .agg (u8s c).toArray → e 8 = .int .i64 i → rt c (i + 1) = some m' → split_Right_j2 ro Q' e h' n2 := by
          intro e n2 m' hn2 e1 e3 e7 e8 hr'
          unfold split_Right_j2
          rw [e8]
          (repeat (first | refine bindP_mk (by simp (disch := first | omega | exact Int.natCast_nonneg _ | assumption) only [BB, B2, ↓reduceIte, Nat.reduceLeDiff, Nat.reduceAdd, intB_eql, intB_neq, intB_lss, intB_leq, intB_gtr, intB_geq] <;> rfl) ?_ | refine newP_mk ?_ | refine optP_mk ?_ | with_reducible first | refine condP_t ?_ | refine condP_f ?_ | refine ifP_tt' ?_ | refine ifP_ff' ?_ | refine ifP_tf' ?_ | refine ifP_ft' ?_ | refine ifP_u' ?_ | refine optP_mk0 ?_))
          exact hq (j - 1) _ _ _ _ (by omega) ⟨i + 1, m', by omega, by omega, e1, e3, e7, rfl, hs, hf'.mono (by omega), g0, hr'⟩ (Sub.refl _)
        by_cases h2 : c[i] = m
        · refine condP_tr (by simp; omega) ?_
          (repeat (first | refine bindP_mk (by simp (disch := first | omega | exact Int.natCast_nonneg _ | assumption) only [BB, B2, ↓reduceIte, Nat.reduceLeDiff, Nat.reduceAdd, intB_eql, intB_neq, intB_lss, intB_leq, intB_gtr, intB_geq] <;> rfl) ?_ | refine newP_mk ?_ | refine optP_mk ?_ | with_reducible first | refine condP_t ?_ | refine condP_f ?_ | refine ifP_tt' ?_ | refine ifP_ff' ?_ | refine ifP_tf' ?_ | refine ifP_ft' ?_ | refine ifP_u' ?_ | refine optP_mk0 ?_))
          rw [if_pos h2] at hrs
          exact hj2 _ _ (m + 1) (by omega) e1 rfl e7 e8 hrs
        · refine condP_fa (by simp; omega) ?_
          rw [if_neg h2] at hrs
          exact hj2 _ _ m (by omega) e1 e3 e7 e8 hrs
    · refine condP_fa (by simp; omega) ?_
      refine hx _ _ _ _ (fun e => by cases e) (exP_e (beqP_t ?_))
      have hi2 : i = 256 := by omega
      subst hi2
      unfold split_Right_j1
      have f1 : ∀ a, Env.put e 9 a 1 = ptr nx := fun a => e1
      have f3 : ∀ a, Env.put e 9 a 3 = .int .i64 m := fun a => e3
      simp only [puts, f1, f3]
      have hg := splitLI_many (n := n) hc
      (repeat (first | refine bindP_mk (by simp (disch := first | omega | exact Int.natCast_nonneg _ | assumption) only [BB, B2, ↓reduceIte, Nat.reduceLeDiff, Nat.reduceAdd, intB_eql, intB_neq, intB_lss, intB_leq, intB_gtr, intB_geq, g0, hg] <;> rfl) ?_ | refine newP_mk ?_ | refine optP_mk ?_ | with_reducible first | refine condP_t ?_ | refine condP_f ?_ | refine ifP_tt' ?_ | refine ifP_ff' ?_ | refine ifP_tf' ?_ | refine ifP_ft' ?_ | refine ifP_u' ?_ | refine optP_mk0 ?_))
      refine ⟨h, hs, ?_⟩
      have := hK (nx' + 1 + 5) (by omega)
      unfold rightB at this
      rw [hr] at this
      exact this
  · exact (Sub.refl h).new hf (Nat.le_refl _)
  · exact hf.upd (m := nx + 6) (by omega) (by omega)
  · simp (disch := first | omega | exact Int.natCast_nonneg _ | assumption) only [BB, B2, ↓reduceIte, Nat.reduceLeDiff, Nat.reduceAdd, intB_eql, intB_neq, intB_lss, intB_leq, intB_gtr, intB_geq, splitI_cells]
set_option maxRecDepth 4000 in
theorem ref02_Right_c {ro : Ro} {c : List Nat} {n : Int} (hc : c.length = 256) (hcl : ∀ x ∈ c, x < 256) {h : T Obj} {nx : Nat} {K : KV} (hf : Fr h nx) (hK : ∀ nx', nx ≤ nx' → K (.bool (rightB c n)) h nx') : callP Try.prog ro i_ref02_Right [splitI c n] h nx K := by
  apply ref02_Right_of
  unfold ref02_Right
  refine newP_mk ?_
  refine loopP_rule (fun j e h' nx' => ∃ (i m : Nat), i + j = 256 ∧ nx + 1 ≤ nx' ∧ e 1 = ptr nx ∧ e 3 = .int .i64 m ∧ e 4 = .int .i64 i ∧ Sub h h' ∧ Fr h' nx' ∧
    h'.get nx = some (.cells (splitLI c n).toArray y_api_Split) ∧ rt c i = some m) ?_ (n := 256) ⟨0, 0, by omega, by omega, rfl, rfl, rfl, ?_, ?_, ?_, rfl⟩
  · rintro j e h' nx' ⟨i, m, hij, hnx, e1, e3, e4, hs, hf', g0, hr⟩ Q' hq hx
    have hm := rt_le hr
    unfold ref02_Right_L1
    rw [e1, e3, e4]
    (repeat (first | refine bindP_mk (by simp (disch := first | omega | exact Int.natCast_nonneg _ | assumption) only [BB, B2, ↓reduceIte, Nat.reduceLeDiff, Nat.reduceAdd, intB_eql, intB_neq, intB_lss, intB_leq, intB_gtr, intB_geq] <;> rfl) ?_ | refine newP_mk ?_ | refine optP_mk ?_ | with_reducible first | refine condP_t ?_ | refine condP_f ?_ | refine ifP_tt' ?_ | refine ifP_ff' ?_ | refine ifP_tf' ?_ | refine ifP_ft' ?_ | refine ifP_u' ?_ | refine optP_mk0 ?_))
    by_cases hi : i < 256
    · refine condP_tr (by simp; omega) ?_
      have hic : i < c.length := by omega
      have hci := hcl _ (List.getElem_mem hic)
      have hg := splitLI_get (n := n) hic
      have hgd : c.getD i 0 = c[i] := by rw [List.getD_eq_getElem?_getD, List.getElem?_eq_getElem hic]; rfl
      have hrs : rt c (i + 1) = if m < c[i] then none else if c[i] = m then some (m + 1) else some m := by simp only [rt, hr, Option.bind_some, hgd]
      (repeat (first | refine bindP_mk (by simp (disch := first | omega | exact Int.natCast_nonneg _ | assumption) only [BB, B2, ↓reduceIte, Nat.reduceLeDiff, Nat.reduceAdd, intB_eql, intB_neq, intB_lss, intB_leq, intB_gtr, intB_geq, g0, hg] <;> rfl) ?_ | refine newP_mk ?_ | refine optP_mk ?_ | with_reducible first | refine condP_t ?_ | refine condP_f ?_ | refine ifP_tt' ?_ | refine ifP_ff' ?_ | refine ifP_tf' ?_ | refine ifP_ft' ?_ | refine ifP_u' ?_ | refine optP_mk0 ?_))
      by_cases h1 : m < c[i]
      · refine condP_tr (by simp; omega) ?_
        refine hx _ _ _ _ (fun e => by cases e) (exP_r ?_)
        refine ⟨h, hs, ?_⟩
        have hn : rt c 256 = none := rt_none (i := i + 1) (by rw [hrs, if_pos h1]) 256 (by omega)
        have := hK (nx' + 10) (by omega)
        unfold rightB at this
        rw [hn] at this
        exact this
      · refine condP_fa (by simp; omega) ?_
        rw [if_neg h1] at hrs
        (repeat (first | refine bindP_mk (by simp (disch := first | omega | exact Int.natCast_nonneg _ | assumption) only [BB, B2, ↓reduceIte, Nat.reduceLeDiff, Nat.reduceAdd, intB_eql, intB_neq, intB_lss, intB_leq, intB_gtr, intB_geq, g0, hg] <;> rfl) ?_ | refine newP_mk ?_ | refine optP_mk ?_ | with_reducible first | refine condP_t ?_ | refine condP_f ?_ | refine ifP_tt' ?_ | refine ifP_ff' ?_ | refine ifP_tf' ?_ | refine ifP_ft' ?_ | refine ifP_u' ?_ | refine optP_mk0 ?_))
        have hj2 : ∀ (e : Env) (n2 m' : Nat), nx' ≤ n2 → e 1 = ptr nx → e 3 = .int .i64 m' → e 4 = .int .i64 i → rt c (i + 1) = some m' → ref02_Right_j2 ro Q' e h' n2 := by
          intro e n2 m' hn2 e1 e3 e4 hr'
          unfold ref02_Right_j2
          rw [e4]
          (repeat (first | refine bindP_mk (by simp (disch := first | omega | exact Int.natCast_nonneg _ | assumption) only [BB, B2, ↓reduceIte, Nat.reduceLeDiff, Nat.reduceAdd, intB_eql, intB_neq, intB_lss, intB_leq, intB_gtr, intB_geq] <;> rfl) ?_ | refine newP_mk ?_ | refine optP_mk ?_ | with_reducible first | refine condP_t ?_ | refine condP_f ?_ | refine ifP_tt' ?_ | refine ifP_ff' ?_ | refine ifP_tf' ?_ | refine ifP_ft' ?_ | refine ifP_u' ?_ | refine optP_mk0 ?_))
          exact hq (j - 1) _ _ _ _ (by omega) ⟨i + 1, m', by omega, by omega, e1, e3, rfl, hs, hf'.mono (by omega), g0, hr'⟩ (Sub.refl _)
        by_cases h2 : c[i] = m
        · refine condP_tr (by simp; omega) ?_
          (repeat (first | refine bindP_mk (by simp (disch := first | omega | exact Int.natCast_nonneg _ | assumption) only [BB, B2, ↓reduceIte, Nat.reduceLeDiff, Nat.reduceAdd, intB_eql, intB_neq, intB_lss, intB_leq, intB_gtr, intB_geq] <;> rfl) ?_ | refine newP_mk ?_ | refine optP_mk ?_ | with_reducible first | refine condP_t ?_ | refine condP_f ?_ | refine ifP_tt' ?_ | refine ifP_ff' ?_ | refine ifP_tf' ?_ | refine ifP_ft' ?_ | refine ifP_u' ?_ | refine optP_mk0 ?_))
          rw [if_pos h2] at hrs
          exact hj2 _ _ (m + 1) (by omega) e1 rfl e4 hrs
        · refine condP_fa (by simp; omega) ?_
          rw [if_neg h2] at hrs
          exact hj2 _ _ m (by omega) e1 e3 e4 hrs
    · refine condP_fa (by simp; omega) ?_
      refine hx _ _ _ _ (fun e => by cases e) (exP_e (beqP_t ?_))
      have hi2 : i = 256 := by omega
      subst hi2
      unfold ref02_Right_j1
      have f1 : ∀ a b, Env.put (Env.put e 5 a) 6 b 1 = ptr nx := fun a b => e1
      have f3 : ∀ a b, Env.put (Env.put e 5 a) 6 b 3 = .int .i64 m := fun a b => e3
      simp only [puts, f1, f3]
      have hg := splitLI_many (n := n) hc
      (repeat (first | refine bindP_mk (by simp (disch := first | omega | exact Int.natCast_nonneg _ | assumption) only [BB, B2, ↓reduceIte, Nat.reduceLeDiff, Nat.reduceAdd, intB_eql, intB_neq, intB_lss, intB_leq, intB_gtr, intB_geq, g0, hg] <;> rfl) ?_ | refine newP_mk ?_ | refine optP_mk ?_ | with_reducible first | refine condP_t ?_ | refine condP_f ?_ | refine ifP_tt' ?_ | refine ifP_ff' ?_ | refine ifP_tf' ?_ | refine ifP_ft' ?_ | refine ifP_u' ?_ | refine optP_mk0 ?_))
      refine ⟨h, hs, ?_⟩
      have := hK (nx' + 2 + 5) (by omega)
      unfold rightB at this
      rw [hr] at this
      exact this
  · exact (Sub.refl h).new hf (Nat.le_refl _)
  · exact hf.upd (m := nx + 4) (by omega) (by omega)
  · simp (disch := first | omega | exact Int.natCast_nonneg _ | assumption) only [BB, B2, ↓reduceIte, Nat.reduceLeDiff, Nat.reduceAdd, intB_eql, intB_neq, intB_lss, intB_leq, intB_gtr, intB_geq, splitI_cells]
end V
end Go.Proofs.Ytmmdcdjkmakgpaa
set_option linter.unusedVariables false
set_option linter.unusedSimpArgs false
namespace Go.Proofs.Ytmmdcdjkmakgpaa
namespace V
attribute [local irreducible] bindP ifP condP newP optP exP beqP
def codesD (m : Int) : Int := if m = 0 then 1 else if m = 1 then 3 else if m = 2 then 9 else if m = 3 then 27 else 0
theorem codes_of {m p : Int} (h : m = 0 ∧ p = 1 ∨ m = 1 ∧ p = 3 ∨ m = 2 ∧ p = 9 ∨ m = 3 ∧ p = 27) : codesD m = p := by
  unfold codesD
  rcases h with ⟨h, rfl⟩ | ⟨h, rfl⟩ | ⟨h, rfl⟩ | ⟨h, rfl⟩ <;> subst h <;> rfl
theorem codes_no {m : Int} (h : m < 0 ∨ 3 < m) : codesD m = 0 := by
  unfold codesD
  rw [if_neg (by omega), if_neg (by omega), if_neg (by omega), if_neg (by omega)]
theorem codes_le (m : Int) : 0 ≤ codesD m ∧ codesD m ≤ 27 := by
  unfold codesD
  repeat' split
  all_goals omega
theorem codes_few {m : Int} (h : codesD m ≠ 0) : 0 ≤ m ∧ m ≤ 3 := by
  rcases Int.lt_or_le m 0 with h1 | h1
  · exact absurd (codes_no (.inl h1)) h
  · rcases Int.lt_or_le 3 m with h2 | h2
    · exact absurd (codes_no (.inr h2)) h
    · exact ⟨h1, h2⟩
set_option maxRecDepth 4000 in
theorem auto_Codes_c {ro : Ro} {m : Int} {h : T Obj} {nx : Nat} {K : KV} (hK : ∀ nx', nx ≤ nx' → K (.int .i64 (codesD m)) h nx') : callP Try.prog ro i_auto_Codes [.int .i64 m] h nx K := by
  apply auto_Codes_of
  unfold auto_Codes
  refine lss_s (fun h1 => ?_) (fun h1 => ?_)
  · (repeat (first | refine bindP_mk (by simp (disch := first | omega | exact Int.natCast_nonneg _ | assumption) only [BB, B2, ↓reduceIte, Nat.reduceLeDiff, Nat.reduceAdd, CC] <;> rfl) ?_ | refine newP_mk ?_ | refine optP_mk ?_ | with_reducible first | refine condP_t ?_ | refine condP_f ?_ | refine ifP_tt' ?_ | refine ifP_ff' ?_ | refine ifP_tf' ?_ | refine ifP_ft' ?_ | refine ifP_u' ?_ | refine optP_mk0 ?_))
    exact ⟨_, Sub.refl _, ki hK (codes_no (.inl h1)) (by omega)⟩
  · (repeat (first | refine bindP_mk (by simp (disch := first | omega | exact Int.natCast_nonneg _ | assumption) only [BB, B2, ↓reduceIte, Nat.reduceLeDiff, Nat.reduceAdd, CC] <;> rfl) ?_ | refine newP_mk ?_ | refine optP_mk ?_ | with_reducible first | refine condP_t ?_ | refine condP_f ?_ | refine ifP_tt' ?_ | refine ifP_ff' ?_ | refine ifP_tf' ?_ | refine ifP_ft' ?_ | refine ifP_u' ?_ | refine optP_mk0 ?_))
    refine gtr_s (fun h2 => ?_) (fun h2 => ?_)
    · (repeat (first | refine bindP_mk (by simp (disch := first | omega | exact Int.natCast_nonneg _ | assumption) only [BB, B2, ↓reduceIte, Nat.reduceLeDiff, Nat.reduceAdd, CC] <;> rfl) ?_ | refine newP_mk ?_ | refine optP_mk ?_ | with_reducible first | refine condP_t ?_ | refine condP_f ?_ | refine ifP_tt' ?_ | refine ifP_ff' ?_ | refine ifP_tf' ?_ | refine ifP_ft' ?_ | refine ifP_u' ?_ | refine optP_mk0 ?_))
      exact ⟨_, Sub.refl _, ki hK (codes_no (.inr h2)) (by omega)⟩
    · (repeat (first | refine bindP_mk (by simp (disch := first | omega | exact Int.natCast_nonneg _ | assumption) only [BB, B2, ↓reduceIte, Nat.reduceLeDiff, Nat.reduceAdd, CC] <;> rfl) ?_ | refine newP_mk ?_ | refine optP_mk ?_ | with_reducible first | refine condP_t ?_ | refine condP_f ?_ | refine ifP_tt' ?_ | refine ifP_ff' ?_ | refine ifP_tf' ?_ | refine ifP_ft' ?_ | refine ifP_u' ?_ | refine optP_mk0 ?_))
      refine loopP_rule (fun j e h' nx' => ∃ (k : Nat) (p : Int), (k : Int) + j = m ∧ nx ≤ nx' ∧ h' = h ∧ e 3 = .int .i64 p ∧ e 10 = .int .i64 m ∧ e 11 = .int .i64 k ∧ (k = 0 ∧ p = 1 ∨ k = 1 ∧ p = 3 ∨ k = 2 ∧ p = 9 ∨ k = 3 ∧ p = 27)) ?_ (n := m.toNat) ⟨0, 1, by omega, by omega, rfl, rfl, rfl, rfl, by omega⟩
      rintro j e h' nx' ⟨k, p, hj, hnx, rfl, e3, e10, e11, hp⟩ Q' hq hx
      unfold auto_Codes_L1
      rw [e3, e10, e11]
      refine lss_s (fun hk => ?_) (fun hk => ?_)
      · (repeat (first | refine bindP_mk (by simp (disch := first | omega | exact Int.natCast_nonneg _ | assumption) only [BB, B2, ↓reduceIte, Nat.reduceLeDiff, Nat.reduceAdd, CC] <;> rfl) ?_ | refine newP_mk ?_ | refine optP_mk ?_ | with_reducible first | refine condP_t ?_ | refine condP_f ?_ | refine ifP_tt' ?_ | refine ifP_ff' ?_ | refine ifP_tf' ?_ | refine ifP_ft' ?_ | refine ifP_u' ?_ | refine optP_mk0 ?_))
        exact hq (j - 1) _ _ _ _ (by omega) ⟨k + 1, p * 3, by omega, by omega, rfl, rfl, e10, rfl, by omega⟩ (Sub.refl _)
      · (repeat (first | refine bindP_mk (by simp (disch := first | omega | exact Int.natCast_nonneg _ | assumption) only [BB, B2, ↓reduceIte, Nat.reduceLeDiff, Nat.reduceAdd, CC] <;> rfl) ?_ | refine newP_mk ?_ | refine optP_mk ?_ | with_reducible first | refine condP_t ?_ | refine condP_f ?_ | refine ifP_tt' ?_ | refine ifP_ff' ?_ | refine ifP_tf' ?_ | refine ifP_ft' ?_ | refine ifP_u' ?_ | refine optP_mk0 ?_))
        refine hx _ _ _ _ (fun e => by cases e) (exP_e (beqP_t ?_))
        unfold auto_Codes_j1
        have f3 : ∀ (e' : Env) n, e' 3 = .int .i64 p → nx ≤ n → ∃ h13, Sub h13 h' ∧ K (e' 3) h13 n := fun e' n h3 hn => by
          rw [h3]
          exact ⟨_, Sub.refl _, ki hK (codes_of (by omega)) hn⟩
        exact f3 _ _ e3 (by omega)
set_option maxRecDepth 4000 in
theorem ref11_Codes_c {ro : Ro} {m : Int} {h : T Obj} {nx : Nat} {K : KV} (hK : ∀ nx', nx ≤ nx' → K (.int .i64 (codesD m)) h nx') : callP Try.prog ro i_ref11_Codes [.int .i64 m] h nx K := by
  apply ref11_Codes_of
  unfold ref11_Codes
  refine lss_s (fun h1 => ?_) (fun h1 => ?_)
  · (repeat (first | refine bindP_mk (by simp (disch := first | omega | exact Int.natCast_nonneg _ | assumption) only [BB, B2, ↓reduceIte, Nat.reduceLeDiff, Nat.reduceAdd, CC] <;> rfl) ?_ | refine newP_mk ?_ | refine optP_mk ?_ | with_reducible first | refine condP_t ?_ | refine condP_f ?_ | refine ifP_tt' ?_ | refine ifP_ff' ?_ | refine ifP_tf' ?_ | refine ifP_ft' ?_ | refine ifP_u' ?_ | refine optP_mk0 ?_))
    exact ⟨_, Sub.refl _, ki hK (codes_no (.inl h1)) (by omega)⟩
  · (repeat (first | refine bindP_mk (by simp (disch := first | omega | exact Int.natCast_nonneg _ | assumption) only [BB, B2, ↓reduceIte, Nat.reduceLeDiff, Nat.reduceAdd, CC] <;> rfl) ?_ | refine newP_mk ?_ | refine optP_mk ?_ | with_reducible first | refine condP_t ?_ | refine condP_f ?_ | refine ifP_tt' ?_ | refine ifP_ff' ?_ | refine ifP_tf' ?_ | refine ifP_ft' ?_ | refine ifP_u' ?_ | refine optP_mk0 ?_))
    refine gtr_s (fun h2 => ?_) (fun h2 => ?_)
    · (repeat (first | refine bindP_mk (by simp (disch := first | omega | exact Int.natCast_nonneg _ | assumption) only [BB, B2, ↓reduceIte, Nat.reduceLeDiff, Nat.reduceAdd, CC] <;> rfl) ?_ | refine newP_mk ?_ | refine optP_mk ?_ | with_reducible first | refine condP_t ?_ | refine condP_f ?_ | refine ifP_tt' ?_ | refine ifP_ff' ?_ | refine ifP_tf' ?_ | refine ifP_ft' ?_ | refine ifP_u' ?_ | refine optP_mk0 ?_))
      exact ⟨_, Sub.refl _, ki hK (codes_no (.inr h2)) (by omega)⟩
    · (repeat (first | refine bindP_mk (by simp (disch := first | omega | exact Int.natCast_nonneg _ | assumption) only [BB, B2, ↓reduceIte, Nat.reduceLeDiff, Nat.reduceAdd, CC] <;> rfl) ?_ | refine newP_mk ?_ | refine optP_mk ?_ | with_reducible first | refine condP_t ?_ | refine condP_f ?_ | refine ifP_tt' ?_ | refine ifP_ff' ?_ | refine ifP_tf' ?_ | refine ifP_ft' ?_ | refine ifP_u' ?_ | refine optP_mk0 ?_))
      refine loopP_rule (fun j e h' nx' => ∃ (k : Nat) (p : Int), (k : Int) + j = m ∧ nx ≤ nx' ∧ h' = h ∧ e 3 = .int .i64 p ∧ e 0 = .int .i64 m ∧ e 4 = .int .i64 k ∧ (k = 0 ∧ p = 1 ∨ k = 1 ∧ p = 3 ∨ k = 2 ∧ p = 9 ∨ k = 3 ∧ p = 27)) ?_ (n := m.toNat) ⟨0, 1, by omega, by omega, rfl, rfl, rfl, rfl, by omega⟩
      rintro j e h' nx' ⟨k, p, hj, hnx, rfl, e3, e10, e11, hp⟩ Q' hq hx
      unfold ref11_Codes_L1
      rw [e3, e10, e11]
      refine lss_s (fun hk => ?_) (fun hk => ?_)
      · (repeat (first | refine bindP_mk (by simp (disch := first | omega | exact Int.natCast_nonneg _ | assumption) only [BB, B2, ↓reduceIte, Nat.reduceLeDiff, Nat.reduceAdd, CC] <;> rfl) ?_ | refine newP_mk ?_ | refine optP_mk ?_ | with_reducible first | refine condP_t ?_ | refine condP_f ?_ | refine ifP_tt' ?_ | refine ifP_ff' ?_ | refine ifP_tf' ?_ | refine ifP_ft' ?_ | refine ifP_u' ?_ | refine optP_mk0 ?_))
        exact hq (j - 1) _ _ _ _ (by omega) ⟨k + 1, p * 3, by omega, by omega, rfl, rfl, e10, rfl, by omega⟩ (Sub.refl _)
      · (repeat (first | refine bindP_mk (by simp (disch := first | omega | exact Int.natCast_nonneg _ | assumption) only [BB, B2, ↓reduceIte, Nat.reduceLeDiff, Nat.reduceAdd, CC] <;> rfl) ?_ | refine newP_mk ?_ | refine optP_mk ?_ | with_reducible first | refine condP_t ?_ | refine condP_f ?_ | refine ifP_tt' ?_ | refine ifP_ff' ?_ | refine ifP_tf' ?_ | refine ifP_ft' ?_ | refine ifP_u' ?_ | refine optP_mk0 ?_))
        refine hx _ _ _ _ (fun e => by cases e) (exP_e (beqP_t ?_))
        unfold ref11_Codes_j1
        have f3 : ∀ (e' : Env) n, e' 3 = .int .i64 p → nx ≤ n → ∃ h13, Sub h13 h' ∧ K (e' 3) h13 n := fun e' n h3 hn => by
          rw [h3]
          exact ⟨_, Sub.refl _, ki hK (codes_of (by omega)) hn⟩
        exact f3 _ _ e3 (by omega)
end V
end Go.Proofs.Ytmmdcdjkmakgpaa
set_option linter.unusedVariables false
set_option linter.unusedSimpArgs false
namespace Go.Proofs.Ytmmdcdjkmakgpaa
namespace V
attribute [local irreducible] bindP ifP condP newP optP exP beqP
structure MoveD where
  to : Int
  ops : List Nat
structure StateD where
  l : List Int
  r : List Int
  rule : List Int
  next : List (List MoveD)
structure AutoD where
  c : List Nat
  many : Int
  counts : List (Int × Int)
  states : List StateD
def noS : StateD := ⟨[], [], [], []⟩
def opOk (R : List Int) (o : Nat) (r : Int) : Bool := decide (1 ≤ o) && (decide (o ≤ 3) && (decide (o = 3) || R.contains r))
def opsOk (R : List Int) : List Nat → List Int → Bool
  | o :: os, r :: rs => opOk R o r && opsOk R os rs
  | _, _ => true
def moveOk (S : List StateD) (R : List Int) (m : MoveD) : Bool :=
  if m.to = -1 then decide (m.ops.length = 0) else decide (1 ≤ m.to) && (decide (m.to < S.length) && (decide (m.ops.length = (S.getD m.to.toNat noS).r.length) && opsOk R m.ops (S.getD m.to.toNat noS).r))
def maxB : Nat := 9223372036854775807
def RU8 (x : List Value) (d : Nat) : Prop := x = [.int .u8 (d : Int)] ∧ d < 256
def RMove (ro : Ro) (h : T Obj) (x : List Value) (d : MoveD) : Prop := ∃ ov, x = [.int .i64 d.to, ov] ∧ SlR ro h ov 1 RU8 d.ops ∧ d.ops.length ≤ maxB
def RRow (ro : Ro) (h : T Obj) (x : List Value) (d : List MoveD) : Prop := ∃ w, x = [w] ∧ SlR ro h w 2 (RMove ro h) d ∧ d.length ≤ maxB
def RState (ro : Ro) (h : T Obj) (x : List Value) (d : StateD) : Prop := ∃ lv rv uv nv, x = [lv, rv, uv, nv] ∧ ZI ro h lv d.l ∧ ZI ro h rv d.r ∧ ZI ro h uv d.rule ∧ SlR ro h nv 1 (RRow ro h) d.next ∧ d.r.length ≤ maxB
def RCount (x : List Value) (d : Int × Int) : Prop := x = [.int .i64 d.1, .int .i64 d.2]
theorem RMove.sub {ro : Ro} {h h' : T Obj} (hs : Sub h h') : ∀ x d, RMove ro h x d → RMove ro h' x d := fun x d ⟨ov, h1, h2, h3⟩ => ⟨ov, h1, h2.sub hs fun _ _ h => h, h3⟩
theorem RRow.sub {ro : Ro} {h h' : T Obj} (hs : Sub h h') : ∀ x d, RRow ro h x d → RRow ro h' x d := fun x d ⟨ov, h1, h2, h3⟩ => ⟨ov, h1, h2.sub hs (RMove.sub hs), h3⟩
theorem RState.sub {ro : Ro} {h h' : T Obj} (hs : Sub h h') : ∀ x d, RState ro h x d → RState ro h' x d := fun x d ⟨lv, rv, uv, nv, h1, h2, h3, h4, h5, h6⟩ => ⟨lv, rv, uv, nv, h1, h2.sub hs, h3.sub hs, h4.sub hs, h5.sub hs (RRow.sub hs), h6⟩
def autL (c : List Nat) (n : Int) (cv sv : Value) : List Value := splitLI c n ++ [cv, sv]
section
variable {c : List Nat} {n : Int} {cv sv : Value}
theorem autL_len (hc : c.length = 256) : (autL c n cv sv).length = 259 := by simp [autL, splitLI_len hc]
theorem autL_many (hc : c.length = 256) : (autL c n cv sv)[256]? = some (.int .i64 n) := by
  unfold autL
  rw [List.getElem?_append_left (by rw [splitLI_len hc]; omega)]
  exact splitLI_many hc
theorem autL_counts (hc : c.length = 256) : (autL c n cv sv)[257]? = some cv := by
  unfold autL
  rw [List.getElem?_append_right (by rw [splitLI_len hc]; omega), splitLI_len hc]; rfl
theorem autL_states (hc : c.length = 256) : (autL c n cv sv)[258]? = some sv := by
  unfold autL
  rw [List.getElem?_append_right (by rw [splitLI_len hc]; omega), splitLI_len hc]; rfl
theorem autL_ok (h1 : cellOk cv = true) (h2 : cellOk sv = true) : (autL c n cv sv).all cellOk = true := by
  unfold autL
  rw [List.all_append, splitLI_ok, Bool.true_and]
  simp [h1, h2]
theorem loadS {ro : Ro} {h : T Obj} {id z : Nat} {e : TypeId} {f : Nat × Nat} (hg : h.get id = some (.cells (autL c n cv sv).toArray e f)) (hc : c.length = 256) : loadA ro h 257 (at_ id 0 z) = some (splitI c n) := by
  rw [loadA_own, hg, cellsIn_some]
  simp only [Option.bind_some, tl]
  rw [if_pos (by rw [autL_len hc]; omega), List.drop_zero]
  unfold autL
  rw [List.take_append_of_le_length (by rw [splitLI_len hc]; omega), List.take_of_length_le (by rw [splitLI_len hc]; omega)]
  rfl
end
def RAuto (ro : Ro) (h : T Obj) (x : List Value) (d : AutoD) : Prop := ∃ cv sv, x = autL d.c d.many cv sv ∧ d.c.length = 256 ∧ (∀ x ∈ d.c, x < 256) ∧ SlR ro h cv 2 RCount d.counts ∧ SlR ro h sv 4 (RState ro h) d.states ∧ d.counts.length ≤ maxB ∧ d.states.length ≤ maxB
theorem opsOk_cons (R : List Int) (o : Nat) (os : List Nat) (r : Int) (rs : List Int) : opsOk R (o :: os) (r :: rs) = (opOk R o r && opsOk R os rs) := rfl
theorem opsOk_nil (R : List Int) (rs : List Int) : opsOk R [] rs = true := by cases rs <;> rfl
end V
end Go.Proofs.Ytmmdcdjkmakgpaa
set_option linter.unusedVariables false
set_option linter.unusedSimpArgs false
namespace Go.Proofs.Ytmmdcdjkmakgpaa
namespace V
def ctd (g : GlD) (q : Int) : Bool := decide (1 < (g.at q).hi)
def ctdP (p : PosD) : Bool := decide (1 < p.hi)
def numZ (g : GlD) (q : Int) : Int := (((g.p.take q.toNat).filter ctdP).length : Nat)
def regsZ (g : GlD) (l : List Int) : List Int := (l.filter (ctd g)).map (numZ g)
def cntsL (l : List PosD) : List (Int × Int) := (l.filter ctdP).map fun p => (p.lo, p.hi)
def setsL (l : List PosD) : List Nat := l.map (·.s)
def digs (g : GlD) : List Int → Int → List (Int × Int)
  | [], _ => []
  | p :: r, c => if ctd g p then (p, c % 3) :: digs g r (c / 3) else (p, -1) :: digs g r c
def entersZ (g : GlD) (at_ : Nat) (D : List (Int × Int)) (q : Int) : Bool := (decide (at_ = 0) && g.first.contains q) || D.any fun d => decide (d.2 ≠ 0) && (g.at d.1).next.contains q
def staysZ (D : List (Int × Int)) (q : Int) : Bool := D.any fun d => decide (d.1 = q) && (decide (d.2 = 0) || decide (d.2 = 2))
def ruleZ (g : GlD) (best : Int) : List (Int × Int) → Int
  | [] => best
  | d :: r => ruleZ g (if decide (d.2 ≠ 0) && ((g.at d.1).last && (decide (best < 0) || decide ((g.at d.1).rule < best))) then (g.at d.1).rule else best) r
def takesZ (g : GlD) (en st : Int → Bool) (b : Nat) (q : Int) : Bool := (g.at q).s.testBit b && (en q || st q)
def placesZ (n : Nat) : List Int := (List.range n).map fun i : Nat => (i : Int)
def lZ (g : GlD) (en st : Int → Bool) (b : Nat) : List Int := (placesZ g.p.length).filter (takesZ g en st b)
def opZ (en st : Int → Bool) (q : Int) : Nat := if st q then (if en q then 2 else 1) else 3
def opsZ (g : GlD) (en st : Int → Bool) (l : List Int) : List Nat := (l.filter (ctd g)).map (opZ en st)
def isL (l : List Int) (s : StateD) : Bool := decide (s.l = l)
def findZ (g : GlD) (S : List StateD) (l : List Int) : Int × Int × List StateD :=
  match S.findIdx? (isL l) with
  | some k => (k, 0, S)
  | none => if 3 < (regsZ g l).length then (0, 110, S) else if 256 ≤ S.length then (0, 3, S) else (S.length, 0, S ++ [⟨l, regsZ g l, [], []⟩])
def goesZ (g : GlD) (en st : Int → Bool) (b : Nat) (S : List StateD) : MoveD × Int × List StateD :=
  match lZ g en st b with
  | [] => (⟨-1, []⟩, 0, S)
  | l => (⟨(findZ g S l).1, opsZ g en st l⟩, (findZ g S l).2.1, (findZ g S l).2.2)
def rowZ (g : GlD) (en st : Int → Bool) : List Nat → List StateD → Int × List MoveD × List StateD
  | [], S => (0, [], S)
  | b :: r, S => if (goesZ g en st b S).2.1 = 0 then ((rowZ g en st r (goesZ g en st b S).2.2).1, (goesZ g en st b S).1 :: (rowZ g en st r (goesZ g en st b S).2.2).2.1, (rowZ g en st r (goesZ g en st b S).2.2).2.2) else ((goesZ g en st b S).2.1, [], S)
def addRow (rule : Int) (row : List MoveD) (s : StateD) : StateD := ⟨s.l, s.r, s.rule ++ [rule], s.next ++ [row]⟩
def lAt (S : List StateD) (k : Nat) : List Int := (S.getD k noS).l
def codeZ (g : GlD) (B : List Nat) (k : Nat) (c : Int) (S : List StateD) : Int × List StateD :=
  let D := digs g (lAt S k) c
  let R := rowZ g (entersZ g k D) (staysZ D) B S
  if R.1 = 0 then (0, R.2.2.modify k (addRow (ruleZ g (-1) D) R.2.1)) else (R.1, S)
def codesZ (g : GlD) (B : List Nat) (k : Nat) : Nat → Int → List StateD → Int × List StateD
  | 0, _, S => (0, S)
  | n + 1, c, S => if (codeZ g B k c S).1 = 0 then codesZ g B k n (c + 1) (codeZ g B k c S).2 else ((codeZ g B k c S).1, S)
def allZ (g : GlD) (B : List Nat) : Nat → Nat → List StateD → Int × List StateD
  | 0, _, S => (0, S)
  | n + 1, k, S => if k < S.length then (if (codesZ g B k (codesD (S.getD k noS).r.length).toNat 0 S).1 = 0 then allZ g B n (k + 1) (codesZ g B k (codesD (S.getD k noS).r.length).toNat 0 S).2 else ((codesZ g B k (codesD (S.getD k noS).r.length).toNat 0 S).1, S)) else (0, S)
end V
end Go.Proofs.Ytmmdcdjkmakgpaa
set_option linter.unusedVariables false
set_option linter.unusedSimpArgs false
namespace Go.Proofs.Ytmmdcdjkmakgpaa
namespace V
section
variable {κ : Type} {inj : κ → Value}
def Ents (inj : κ → Value) : List MapEntry → List (κ × Value) → Prop
  | [], [] => True
  | e :: es, p :: ps => e.key = inj p.1 ∧ e.val = p.2 ∧ Ents inj es ps
  | _, _ => False
theorem Ents.snoc {e : MapEntry} {a : κ} {v : Value} (h1 : e.key = inj a) (h2 : e.val = v) : ∀ {es : List MapEntry} {ps : List (κ × Value)}, Ents inj es ps → Ents inj (es ++ [e]) (ps ++ [(a, v)])
  | [], [], _ => ⟨h1, h2, trivial⟩
  | x :: es, p :: ps, ⟨q1, q2, q3⟩ => ⟨q1, q2, Ents.snoc h1 h2 q3⟩
  | [], p :: ps, h => h.elim
  | e :: es, [], h => h.elim
end
section
variable {κ : Type} [DecidableEq κ] {P : Program} {kt : TypeId} {inj : κ → Value}
def getP (a : κ) : List (κ × Value) → Option Value
  | [] => none
  | p :: ps => if p.1 = a then some p.2 else getP a ps
def setP (a : κ) (v : Value) : List (κ × Value) → List (κ × Value)
  | [] => [(a, v)]
  | p :: ps => if p.1 = a then (a, v) :: ps else p :: setP a v ps
def posP (a : κ) : List (κ × Value) → Nat → Option (Nat × Value)
  | [], _ => none
  | p :: ps, i => if p.1 = a then some (i, p.2) else posP a ps (i + 1)
theorem getP_setP (a b : κ) (v : Value) : ∀ ps : List (κ × Value), getP b (setP a v ps) = if b = a then some v else getP b ps
  | [] => by
    unfold setP getP
    by_cases h : b = a
    · subst h; rw [if_pos rfl, if_pos rfl]
    · rw [if_neg h]; show (if a = b then _ else getP b []) = _; rw [if_neg (Ne.symm h)]; rfl
  | p :: ps => by
    have ih := getP_setP a b v ps
    unfold setP
    by_cases hp : p.1 = a
    · rw [if_pos hp]
      unfold getP
      by_cases h : b = a
      · subst h; rw [if_pos rfl, if_pos rfl]
      · rw [if_neg h]; show (if a = b then _ else getP b ps) = _; rw [if_neg (Ne.symm h), if_neg (by rw [hp]; exact Ne.symm h)]
    · rw [if_neg hp]
      show (if p.1 = b then some p.2 else getP b (setP a v ps)) = _
      rw [ih]
      show _ = if b = a then some v else (if p.1 = b then some p.2 else getP b ps)
      by_cases h : b = a
      · subst h; rw [if_pos rfl, if_pos rfl, if_neg hp]
      · rw [if_neg h, if_neg h]
theorem posP_get (a : κ) : ∀ (ps : List (κ × Value)) (i : Nat), (posP a ps i).map (·.2) = getP a ps
  | [], i => rfl
  | p :: ps, i => by
    unfold posP getP
    by_cases h : p.1 = a
    · rw [if_pos h, if_pos h]; rfl
    · rw [if_neg h, if_neg h]; exact posP_get a ps (i + 1)
theorem findV_pos (hk : ∀ a b : κ, keyEq P kt (inj a) (inj b) = some (decide (a = b))) (a : κ) : ∀ {es : List MapEntry} {ps : List (κ × Value)} (i : Nat), Ents inj es ps → findV P kt (inj a) es i = some (posP a ps i)
  | [], [], i, _ => rfl
  | e :: es, p :: ps, i, ⟨h1, h2, h3⟩ => by
    unfold findV posP
    rw [h1, hk, h2]
    by_cases h : p.1 = a
    · rw [if_pos h, decide_eq_true h.symm]
    · rw [if_neg h, decide_eq_false (Ne.symm h)]; exact findV_pos hk a (i + 1) h3
  | [], p :: ps, i, h => h.elim
  | e :: es, [], i, h => h.elim
theorem posP_none {a : κ} {v : Value} : ∀ {ps : List (κ × Value)} {i : Nat}, posP a ps i = none → setP a v ps = ps ++ [(a, v)]
  | [], i, _ => rfl
  | p :: ps, i, h => by
    unfold posP at h
    by_cases hp : p.1 = a
    · rw [if_pos hp] at h; cases h
    · rw [if_neg hp] at h
      unfold setP
      rw [if_neg hp, posP_none h]; rfl
theorem Ents.put {a : κ} {v : Value} {f : MapEntry → MapEntry} (hf : ∀ e, (f e).key = inj a ∧ (f e).val = v) : ∀ {es : List MapEntry} {ps : List (κ × Value)} {i : Nat} {r : Nat × Value}, posP a ps i = some r → Ents inj es ps → i ≤ r.1 ∧ Ents inj (es.modify (r.1 - i) f) (setP a v ps)
  | [], [], i, r, h, _ => by cases h
  | x :: es, p :: ps, i, r, h, ⟨q1, q2, q3⟩ => by
    unfold posP at h
    unfold setP
    by_cases hp : p.1 = a
    · rw [if_pos hp] at h ⊢
      cases h
      refine ⟨Nat.le_refl _, ?_⟩
      rw [Nat.sub_self, List.modify_zero_cons]
      exact ⟨(hf x).1, (hf x).2, q3⟩
    · rw [if_neg hp] at h ⊢
      obtain ⟨g1, g2⟩ := Ents.put hf h q3
      refine ⟨by omega, ?_⟩
      rw [show r.1 - i = (r.1 - (i + 1)) + 1 by omega, List.modify_succ_cons]
      exact ⟨q1, q2, g2⟩
  | [], p :: ps, i, r, h, h2 => h2.elim
  | e :: es, [], i, r, h, h2 => h2.elim
def MapG (inj : κ → Value) (h : T Obj) (r : Nat) (f : κ → Option Value) : Prop := ∃ es c ps, h.get r = some (.map es c) ∧ Ents inj es.toList ps ∧ ∀ a, getP a ps = f a
theorem MapG.keep {h h' : T Obj} {r : Nat} {f : κ → Option Value} (hm : MapG inj h r f) (he : h'.get r = h.get r) : MapG inj h' r f := by
  obtain ⟨es, c, ps, h1, h2, h3⟩ := hm
  exact ⟨es, c, ps, by rw [he]; exact h1, h2, h3⟩
theorem MapG.sub {h h' : T Obj} {r : Nat} {f : κ → Option Value} (hs : Sub h h') (hm : MapG inj h r f) : MapG inj h' r f := by
  obtain ⟨es, c, ps, h1, h2, h3⟩ := hm
  exact ⟨es, c, ps, hs _ _ h1, h2, h3⟩
theorem MapG.new {h : T Obj} {r c : Nat} (hg : h.get r = some (.map #[] c)) : MapG inj h r fun _ => none := ⟨#[], c, [], hg, trivial, fun _ => rfl⟩
theorem MapG.obj {h : T Obj} {r : Nat} {f : κ → Option Value} (hm : MapG inj h r f) : ∃ es c, h.get r = some (.map es c) := by
  obtain ⟨es, c, ps, h1, h2, h3⟩ := hm
  exact ⟨es, c, h1⟩
theorem MapG.lookT {t et : TypeId} {z : Value} (hu : und P t = some (.map kt et)) (hok : ∀ a, keyOk P kt (inj a) = true) (hk : ∀ a b : κ, keyEq P kt (inj a) (inj b) = some (decide (a = b))) (hz : zer P et = some z)
    {h : T Obj} {r : Nat} {f : κ → Option Value} (hm : MapG inj h r f) (a : κ) (ok : Bool) : lookV P h t (.map (some r)) (inj a) ok = some (outV ok ((f a).getD z) (f a).isSome) := by
  obtain ⟨es, c, ps, h1, h2, h3⟩ := hm
  unfold lookV lookIn
  simp only [hu, hok, mapAt, entriesAt, h1, Option.bind_some, findV_pos hk a 0 h2]
  have := posP_get a ps 0
  rw [h3] at this
  cases hp : posP a ps 0 with
  | none =>
    rw [hp] at this
    have : f a = none := this.symm
    simp only [gotV, hz, Option.bind_some, this]; rfl
  | some q =>
    rw [hp] at this
    have : f a = some q.2 := this.symm
    simp only [gotV, Option.bind_some, this]; rfl
theorem MapG.putT {t et : TypeId} (hu : und P t = some (.map kt et)) (hok : ∀ a, keyOk P kt (inj a) = true) (hk : ∀ a b : κ, keyEq P kt (inj a) (inj b) = some (decide (a = b)))
    {h : T Obj} {r : Nat} {f : κ → Option Value} (hm : MapG inj h r f) (a : κ) (v : Value) : ∃ es c, mapPutV P h t (.map (some r)) (inj a) v = some (h.upd r (some (.map es c))) ∧ ∀ h' : T Obj, h'.get r = some (.map es c) → MapG inj h' r fun b => if b = a then some v else f b := by
  obtain ⟨es, c, ps, h1, h2, h3⟩ := hm
  unfold mapPutV
  simp only [hu, hok, entriesAt, h1, Option.bind_some, findV_pos hk a 0 h2]
  cases hp : posP a ps 0 with
  | none =>
    refine ⟨_, _, rfl, fun h' hg => ⟨_, _, setP a v ps, hg, ?_, fun b => by rw [getP_setP, h3]⟩⟩
    rw [posP_none hp]
    exact Ents.snoc (inj := inj) (a := a) (v := v) rfl rfl h2
  | some q =>
    refine ⟨_, _, rfl, fun h' hg => ⟨_, _, setP a v ps, hg, ?_, fun b => by rw [getP_setP, h3]⟩⟩
    exact (Ents.put (f := fun e : MapEntry => { e with key := inj a, val := v }) (fun _ => ⟨rfl, rfl⟩) hp h2).2
theorem MapG.clear {h : T Obj} {r : Nat} {f : κ → Option Value} (hm : MapG inj h r f) : ∃ c, clearV h (.map (some r)) = some (h.upd r (some (.map #[] c))) := by
  obtain ⟨es, c, ps, h1, h2, h3⟩ := hm
  exact ⟨c, by unfold clearV entriesAt; simp only [h1, Option.bind_some]⟩
end
def injI (a : Int) : Value := .int .i64 a
def injS (a : List UInt8) : Value := .string ⟨a.toArray⟩
theorem keyEq_I {P : Program} {kt : TypeId} (hu : und P kt = some (.int .i64)) (a b : Int) : keyEq P kt (injI a) (injI b) = some (decide (a = b)) := by
  unfold keyEq injI
  simp only [hu, eqCell]; rfl
theorem keyOk_I {P : Program} {kt : TypeId} (hu : und P kt = some (.int .i64)) (a : Int) : keyOk P kt (injI a) = true := by
  unfold keyOk injI
  simp only [hu]
theorem keyEq_S {P : Program} {kt : TypeId} (hu : und P kt = some .string) (a b : List UInt8) : keyEq P kt (injS a) (injS b) = some (decide (a = b)) := by
  unfold keyEq injS
  simp only [hu, eqCell]
  congr 1
  by_cases h : a = b
  · subst h; simp
  · rw [decide_eq_false h]; simpa using h
theorem keyOk_S {P : Program} {kt : TypeId} (hu : und P kt = some .string) (a : List UInt8) : keyOk P kt (injS a) = true := by
  unfold keyOk injS
  simp only [hu]
end V
end Go.Proofs.Ytmmdcdjkmakgpaa
set_option linter.unusedVariables false
set_option linter.unusedSimpArgs false
namespace Go.Proofs.Ytmmdcdjkmakgpaa
namespace V
open PA
attribute [local irreducible] bindP ifP condP newP optP exP beqP
theorem nilCk_at (id off z : Nat) : nilCk (at_ id off z) = some (at_ id off z) := rfl
theorem nth0 (a b : Value) : nth 0 (.tuple #[a, b]) = some a := rfl
theorem nth1 (a b : Value) : nth 1 (.tuple #[a, b]) = some b := rfl
theorem tinOf {t : TypeId} {s b : Nat} (h : (tin Try.prog t).map (fun i => (i.size, i.bytes)) = some (s, b)) : ∃ i, tin Try.prog t = some i ∧ i.size = s ∧ i.bytes = b := by
  cases hi : tin Try.prog t with
  | none => rw [hi] at h; cases h
  | some i => rw [hi] at h; simp at h; exact ⟨i, rfl, h.1, h.2⟩
theorem und_I : und Try.prog y_int = some (.int .i64) := by kernel_rfl
theorem und_S : und Try.prog y_string = some .string := by kernel_rfl
theorem und_mii : und Try.prog y_map_int_int = some (.map y_int y_int) := by kernel_rfl
theorem und_mib : und Try.prog y_map_int_bool = some (.map y_int y_bool) := by kernel_rfl
theorem und_miu : und Try.prog y_map_int_uint8 = some (.map y_int y_uint8) := by kernel_rfl
theorem und_msi : und Try.prog y_map_string_int = some (.map y_string y_int) := by kernel_rfl
theorem zerI : zer Try.prog y_int = some (.int .i64 0) := by kernel_rfl
theorem zerB : zer Try.prog y_bool = some (.bool false) := by kernel_rfl
theorem zerU : zer Try.prog y_uint8 = some (.int .u8 0) := by kernel_rfl
section
variable {h : T Obj} {r : Nat}
theorem look_ii {f : Int → Option Value} (hm : MapG injI h r f) (q : Int) : lookV Try.prog h y_map_int_int (.map (some r)) (.int .i64 q) true = some (.tuple #[(f q).getD (.int .i64 0), .bool (f q).isSome]) := hm.lookT und_mii (keyOk_I und_I) (keyEq_I und_I) zerI q true
theorem look_iu {f : Int → Option Value} (hm : MapG injI h r f) (q : Int) : lookV Try.prog h y_map_int_uint8 (.map (some r)) (.int .i64 q) true = some (.tuple #[(f q).getD (.int .u8 0), .bool (f q).isSome]) := hm.lookT und_miu (keyOk_I und_I) (keyEq_I und_I) zerU q true
theorem look_si {f : List UInt8 → Option Value} (hm : MapG injS h r f) (q : List UInt8) : lookV Try.prog h y_map_string_int (.map (some r)) (injS q) true = some (.tuple #[(f q).getD (.int .i64 0), .bool (f q).isSome]) := hm.lookT und_msi (keyOk_S und_S) (keyEq_S und_S) zerI q true
theorem put_ii {f : Int → Option Value} (hm : MapG injI h r f) (q : Int) (v : Value) : ∃ es c, mapPutV Try.prog h y_map_int_int (.map (some r)) (.int .i64 q) v = some (h.upd r (some (.map es c))) ∧ ∀ h' : T Obj, h'.get r = some (.map es c) → MapG injI h' r fun b => if b = q then some v else f b := hm.putT und_mii (keyOk_I und_I) (keyEq_I und_I) q v
theorem put_iu {f : Int → Option Value} (hm : MapG injI h r f) (q : Int) (v : Value) : ∃ es c, mapPutV Try.prog h y_map_int_uint8 (.map (some r)) (.int .i64 q) v = some (h.upd r (some (.map es c))) ∧ ∀ h' : T Obj, h'.get r = some (.map es c) → MapG injI h' r fun b => if b = q then some v else f b := hm.putT und_miu (keyOk_I und_I) (keyEq_I und_I) q v
theorem put_si {f : List UInt8 → Option Value} (hm : MapG injS h r f) (q : List UInt8) (v : Value) : ∃ es c, mapPutV Try.prog h y_map_string_int (.map (some r)) (injS q) v = some (h.upd r (some (.map es c))) ∧ ∀ h' : T Obj, h'.get r = some (.map es c) → MapG injS h' r fun b => if b = q then some v else f b := hm.putT und_msi (keyOk_S und_S) (keyEq_S und_S) q v
def BMap (h : T Obj) (r : Nat) (E : Int → Bool) : Prop := ∃ f, MapG injI h r f ∧ ∀ q, (f q).getD (.bool false) = .bool (E q)
theorem BMap.look {E : Int → Bool} (hm : BMap h r E) (q : Int) : lookV Try.prog h y_map_int_bool (.map (some r)) (.int .i64 q) false = some (.bool (E q)) := by
  obtain ⟨f, h1, h2⟩ := hm
  have := h1.lookT und_mib (keyOk_I und_I) (keyEq_I und_I) zerB q false
  rw [h2] at this; exact this
theorem BMap.put {E : Int → Bool} (hm : BMap h r E) (q : Int) (b : Bool) : ∃ es c, mapPutV Try.prog h y_map_int_bool (.map (some r)) (.int .i64 q) (.bool b) = some (h.upd r (some (.map es c))) ∧ ∀ h' : T Obj, h'.get r = some (.map es c) → BMap h' r fun x => if x = q then b else E x := by
  obtain ⟨f, h1, h2⟩ := hm
  obtain ⟨es, c, g1, g2⟩ := h1.putT und_mib (keyOk_I und_I) (keyEq_I und_I) q (.bool b)
  refine ⟨es, c, g1, fun h' hg => ⟨_, g2 h' hg, fun x => ?_⟩⟩
  by_cases hx : x = q
  · simp only [if_pos hx, Option.getD_some]
  · simp only [if_neg hx]; exact h2 x
theorem BMap.new {c : Nat} (hg : h.get r = some (.map #[] c)) : BMap h r fun _ => false := ⟨_, MapG.new hg, fun _ => rfl⟩
theorem BMap.clear {E : Int → Bool} (hm : BMap h r E) : ∃ c, clearV h (.map (some r)) = some (h.upd r (some (.map #[] c))) := by
  obtain ⟨f, h1, h2⟩ := hm
  exact h1.clear
theorem BMap.obj {E : Int → Bool} (hm : BMap h r E) : ∃ es c, h.get r = some (.map es c) := by
  obtain ⟨f, h1, h2⟩ := hm
  exact h1.obj
theorem BMap.keep {h' : T Obj} {E : Int → Bool} (hm : BMap h r E) (he : h'.get r = h.get r) : BMap h' r E := by
  obtain ⟨f, h1, h2⟩ := hm
  exact ⟨f, h1.keep he, h2⟩
theorem BMap.ext {E E' : Int → Bool} (hm : BMap h r E) (he : ∀ q, E q = E' q) : BMap h r E' := by
  obtain ⟨f, h1, h2⟩ := hm
  exact ⟨f, h1, fun q => by rw [← he]; exact h2 q⟩
end
def bldL (av bv nv fv : Value) (c : List Nat) (n : Int) (cv sv kv ev yv : Value) : List Value := av :: bv :: nv :: fv :: (autL c n cv sv ++ [kv, ev, yv])
section
variable {av bv nv fv : Value} {c : List Nat} {n : Int} {cv sv kv ev yv : Value}
theorem bldL_len (hc : c.length = 256) : (bldL av bv nv fv c n cv sv kv ev yv).length = 266 := by simp [bldL, autL_len hc]
theorem bldL_0 : (bldL av bv nv fv c n cv sv kv ev yv)[0]? = some av := rfl
theorem bldL_1 : (bldL av bv nv fv c n cv sv kv ev yv)[1]? = some bv := rfl
theorem bldL_2 : (bldL av bv nv fv c n cv sv kv ev yv)[2]? = some nv := rfl
theorem bldL_3 : (bldL av bv nv fv c n cv sv kv ev yv)[3]? = some fv := rfl
theorem bldL_mid {i : Nat} (hc : c.length = 256) (hi : i < 259) : (bldL av bv nv fv c n cv sv kv ev yv)[i + 4]? = (autL c n cv sv)[i]? := by
  show (autL c n cv sv ++ [kv, ev, yv])[i]? = _
  rw [List.getElem?_append_left (by rw [autL_len hc]; exact hi)]
theorem bldL_end {i : Nat} (hc : c.length = 256) : (bldL av bv nv fv c n cv sv kv ev yv)[i + 263]? = [kv, ev, yv][i]? := by
  show (autL c n cv sv ++ [kv, ev, yv])[i + 259]? = _
  rw [List.getElem?_append_right (by rw [autL_len hc]; omega), autL_len hc, Nat.add_sub_cancel]
theorem bldL_261 (hc : c.length = 256) : (bldL av bv nv fv c n cv sv kv ev yv)[261]? = some cv := by rw [show 261 = 257 + 4 from rfl, bldL_mid hc (by omega), autL_counts hc]
theorem bldL_262 (hc : c.length = 256) : (bldL av bv nv fv c n cv sv kv ev yv)[262]? = some sv := by rw [show 262 = 258 + 4 from rfl, bldL_mid hc (by omega), autL_states hc]
theorem bldL_263 (hc : c.length = 256) : (bldL av bv nv fv c n cv sv kv ev yv)[263]? = some kv := by rw [show 263 = 0 + 263 from rfl, bldL_end hc]; rfl
theorem bldL_264 (hc : c.length = 256) : (bldL av bv nv fv c n cv sv kv ev yv)[264]? = some ev := by rw [show 264 = 1 + 263 from rfl, bldL_end hc]; rfl
theorem bldL_265 (hc : c.length = 256) : (bldL av bv nv fv c n cv sv kv ev yv)[265]? = some yv := by rw [show 265 = 2 + 263 from rfl, bldL_end hc]; rfl
theorem autL_set (hc : c.length = 256) (v : Value) : (autL c n cv sv).set 258 v = autL c n cv v := by
  unfold autL
  rw [List.set_append_right _ _ (by rw [splitLI_len hc]; omega), splitLI_len hc]; rfl
theorem autL_set257 (hc : c.length = 256) (v : Value) : (autL c n cv sv).set 257 v = autL c n v sv := by
  unfold autL
  rw [List.set_append_right _ _ (by rw [splitLI_len hc]; omega), splitLI_len hc]; rfl
theorem bldL_set262 (hc : c.length = 256) (v : Value) : (bldL av bv nv fv c n cv sv kv ev yv).set 262 v = bldL av bv nv fv c n cv v kv ev yv := by
  show av :: bv :: nv :: fv :: ((autL c n cv sv ++ [kv, ev, yv]).set 258 v) = _
  rw [List.set_append_left _ _ (by rw [autL_len hc]; omega), autL_set hc]; rfl
theorem bldL_set261 (hc : c.length = 256) (v : Value) : (bldL av bv nv fv c n cv sv kv ev yv).set 261 v = bldL av bv nv fv c n v sv kv ev yv := by
  show av :: bv :: nv :: fv :: ((autL c n cv sv ++ [kv, ev, yv]).set 257 v) = _
  rw [List.set_append_left _ _ (by rw [autL_len hc]; omega), autL_set257 hc]; rfl
theorem bldL_set3 (v : Value) : (bldL av bv nv fv c n cv sv kv ev yv).set 3 v = bldL av bv nv v c n cv sv kv ev yv := rfl
end
def Keep (ids : List Nat) (h h' : T Obj) : Prop := ∀ k o, h.get k = some o → k ∉ ids → h'.get k = some o
theorem Sub.keepL {ids : List Nat} {h h' : T Obj} (hs : Sub h h') : Keep ids h h' := fun k o hk _ => hs k o hk
theorem Keep.trans {ids : List Nat} {a b c : T Obj} (h1 : Keep ids a b) (h2 : Keep ids b c) : Keep ids a c := fun k o hk hi => h2 k o (h1 k o hk hi) hi
theorem Keep.mono {ids ids' : List Nat} {a b : T Obj} (h1 : Keep ids a b) (h2 : ∀ k, k ∈ ids → k ∈ ids') : Keep ids' a b := fun k o hk hi => h1 k o hk fun h => hi (h2 k h)
theorem Keep.upd {ids : List Nat} {a b : T Obj} {i : Nat} {o : Option Obj} (h1 : Keep ids a b) (hi : i ∈ ids) : Keep ids a (b.upd i o) := fun k x hk hn => by
  rw [T.get_upd_ne _ _ (fun e => hn (by rw [e]; exact hi))]; exact h1 k x hk hn
theorem Keep.updN {ids : List Nat} {a b : T Obj} {i n : Nat} {o : Option Obj} (h1 : Keep ids a b) (hf : Fr a n) (hi : n ≤ i) : Keep ids a (b.upd i o) := fun k x hk hn => by
  have := hf.lt' hk
  rw [T.get_upd_ne _ _ (by omega)]; exact h1 k x hk hn
def del (h : T Obj) : List Nat → T Obj
  | [] => h
  | i :: l => (del h l).upd i none
theorem del_get {h : T Obj} : ∀ {l : List Nat} {k : Nat}, (del h l).get k = if k ∈ l then none else h.get k
  | [], k => by simp [del]
  | i :: l, k => by
    show ((del h l).upd i none).get k = _
    by_cases hk : k = i
    · subst hk; rw [T.get_upd_same]; simp
    · rw [T.get_upd_ne _ _ hk, del_get]; simp [hk]
theorem del_sub (h : T Obj) (l : List Nat) : Sub (del h l) h := fun k o hk => by
  rw [del_get] at hk
  split at hk
  · cases hk
  · exact hk
theorem del_some {h : T Obj} {l : List Nat} {k : Nat} {o : Obj} (hk : h.get k = some o) (hn : k ∉ l) : (del h l).get k = some o := by rw [del_get, if_neg hn]; exact hk
theorem Keep.del {ids l l' : List Nat} {h h' : T Obj} (hk : Keep ids h h') (h1 : ∀ k, k ∈ ids → k ∈ l) (h2 : ∀ k, k ∈ l' → k ∈ l ∨ h.get k = none) : Sub (del h l) (del h' l') := fun k o hg => by
  rw [del_get] at hg
  split at hg
  · cases hg
  · rename_i hn
    refine del_some (hk k o hg fun h => hn (h1 k h)) fun hm => ?_
    rcases h2 k hm with h3 | h3
    · exact hn h3
    · rw [h3] at hg; cases hg
theorem OwnT.keepK {ids : List Nat} {h h' : T Obj} {v : Value} {z : Nat} {e : TypeId} {l : List (List Value)} {lo : Nat} (ho : OwnT h v z e l lo) (hk : Keep ids h h') (hne : ∀ id, sblk v = some id → id ∉ ids) : OwnT h' v z e l lo := by
  rcases ho with ho | ⟨id, h1, rfl, h4, h5⟩
  · exact .inl ho
  · exact .inr ⟨id, h1, rfl, h4, hk id _ h5 (hne id rfl)⟩
theorem OwnT.del {h : T Obj} {v : Value} {z : Nat} {e : TypeId} {l : List (List Value)} {lo : Nat} {ids : List Nat} (ho : OwnT h v z e l lo) (hne : ∀ id, sblk v = some id → id ∉ ids) : OwnT (del h ids) v z e l lo := by
  rcases ho with ho | ⟨id, h1, rfl, h4, h5⟩
  · exact .inl ho
  · exact .inr ⟨id, h1, rfl, h4, del_some h5 (hne id rfl)⟩
theorem Kp.keepL {v : Value} {h h' : T Obj} {ids : List Nat} (hk : Kp v h h') (hv : ∀ id, sblk v = some id → id ∈ ids) : Keep ids h h' := fun k o h1 h2 => hk k o h1 fun e => h2 (hv k e)
theorem OwnT.blk {h : T Obj} {v : Value} {z : Nat} {e : TypeId} {l : List (List Value)} {lo id : Nat} (ho : OwnT h v z e l lo) (hb : sblk v = some id) : lo ≤ id ∧ h.get id = some (.cells l.flatten.toArray e) := by
  rcases ho with ⟨rfl, _⟩ | ⟨i, h1, rfl, h4, h5⟩
  · cases hb
  · have : i = id := Option.some.inj hb
    subst this; exact ⟨h1, h5⟩
theorem OwnT.ok {h : T Obj} {v : Value} {z : Nat} {e : TypeId} {l : List (List Value)} {lo : Nat} (ho : OwnT h v z e l lo) : cellOk v = true := (ho.sl (ro := fun _ => none)).ok
def keyB (p : Int) : List UInt8 := [UInt8.ofNat (p.toNat / 256), UInt8.ofNat (p.toNat % 256)]
def keyZ (l : List Int) : List UInt8 := l.flatMap keyB
theorem keyB_inj {p q : Int} (hp : 0 ≤ p ∧ p < 512) (hq : 0 ≤ q ∧ q < 512) (h : keyB p = keyB q) : p = q := by
  unfold keyB at h
  simp only [List.cons.injEq, and_true] at h
  obtain ⟨h1, h2⟩ := h
  have h1 := congrArg UInt8.toNat h1
  have h2 := congrArg UInt8.toNat h2
  simp only [UInt8.toNat_ofNat'] at h1 h2
  omega
theorem keyZ_inj : ∀ {l m : List Int}, (∀ x ∈ l, 0 ≤ x ∧ x < 512) → (∀ x ∈ m, 0 ≤ x ∧ x < 512) → keyZ l = keyZ m → l = m
  | [], [], _, _, _ => rfl
  | [], y :: m, _, _, h => by simp [keyZ, keyB] at h
  | x :: l, [], _, _, h => by simp [keyZ, keyB] at h
  | x :: l, y :: m, hl, hm, h => by
    have h' : keyB x ++ keyZ l = keyB y ++ keyZ m := h
    have h1 : keyB x = keyB y := by
      have := congrArg (List.take 2) h'
      simpa [keyB] using this
    have h2 : keyZ l = keyZ m := by
      have := congrArg (List.drop 2) h'
      simpa [keyB] using this
    rw [keyB_inj (hl x (by simp)) (hm y (by simp)) h1, keyZ_inj (fun z hz => hl z (by simp [hz])) (fun z hz => hm z (by simp [hz])) h2]
theorem keyZ_len : ∀ l : List Int, (keyZ l).length = 2 * l.length
  | [] => rfl
  | x :: l => by
    show (keyB x ++ keyZ l).length = _
    rw [List.length_append, keyZ_len l]; simp [keyB]; omega
def bv8 (l : List UInt8) : List Value := l.map fun b => Value.int .u8 (b.toNat : Int)
theorem bytesV_bv8 : ∀ l : List UInt8, bytesV (bv8 l) = some l
  | [] => rfl
  | b :: l => by
    have ih := bytesV_bv8 l
    show (bytesV (bv8 l)).bind _ = _
    rw [ih]; simp
theorem wr_u8_any (p : Int) : wr .u8 p = p % 256 := by
  by_cases h : 0 ≤ p ∧ p ≤ 255
  · rw [wr_u8 h.1 h.2]; omega
  · have : wr .u8 p = IntKind.u8.wrap p := by
      unfold wr
      simp only
      by_cases h1 : 0 ≤ p
      · have h2 : ¬ p ≤ 255 := fun h2 => h ⟨h1, h2⟩
        simp [h1, h2]
      · simp [h1]
    rw [this]
    have hb : IntKind.u8.bits = 8 := rfl
    have hs : IntKind.u8.signed = false := rfl
    simp [IntKind.wrap, hb, hs]
theorem und_u8s' : und Try.prog y_s_uint8 = some (.slice y_uint8) := by kernel_rfl
theorem zerosV_u8' : ∀ n : Nat, zerosV [.int .u8 0] n = List.replicate n (.int .u8 0)
  | 0 => rfl
  | n + 1 => by simp [zerosV, zerosV_u8' n, List.replicate_succ]
theorem tin_u8' : ∃ i, tin Try.prog y_uint8 = some i ∧ i.size = 1 ∧ i.bytes = 1 := tinOf (by kernel_rfl)
theorem make_u8c {aid n : Nat} (h0 : 1 ≤ n) (h1 : n ≤ 1000000) : makeV Try.prog y_s_uint8 aid (.int .i64 0) (.int .i64 (n : Int)) = some (.slice (some (own aid 1)) 0 n, some (.cells (List.replicate n (Value.int .u8 0)).toArray y_uint8)) := by
  obtain ⟨i, g1, g2, g3⟩ := tin_u8'
  have hb : Nat.ble n big = true := Nat.ble_eq_true_of_le (by unfold big; omega)
  have e1 : decide ((0 : Int) ≤ 0) = true := by simp
  have e2 : decide ((0 : Int) ≤ (n : Int)) = true := by simp
  have e3 : decide ((n : Int) ≤ 70368744177664) = true := by simp; omega
  have hz : zrow Try.prog y_uint8 n = some (List.replicate n (.int .u8 0)) := by
    obtain ⟨m, rfl⟩ : ∃ m, n = m + 1 := ⟨n - 1, by omega⟩
    have hs : siz Try.prog y_uint8 = some 1 := by kernel_rfl
    unfold zrow
    simp only [zerU, hs, Option.bind_some]
    have h3 : Nat.beq (Value.cells (.int .u8 0)).size 1 = true := rfl
    have h4 : Nat.blt 0 1 = true := rfl
    rw [h3, h4]
    simp only
    rw [← zerosV_u8']; rfl
  unfold makeV
  simp only [und_u8s', e1, e2, g1, Option.bind_some, g3, Nat.mul_one, Int.toNat_natCast, hb, e3, hz, g2]
  rfl
theorem lit_u82 (aid : Nat) (a b : Int) : sliceLitV Try.prog y_s_uint8 aid 2 [(0, .int .u8 a), (1, .int .u8 b)] = some (.slice (some (own aid 1)) 2 2, some (.cells #[.int .u8 a, .int .u8 b] y_uint8)) := by kernel_rfl
theorem append_two {ro : Ro} {h : T Obj} {id id2 nx k n : Nat} {c : List Value} {a b : Value} {e : TypeId} (h1 : h.get id = some (.cells c.toArray e)) (h2 : h.get id2 = some (.cells #[a, b] y_uint8)) (hc : c.length = n) (hk : k + 2 ≤ n) (ha : cellOk a = true) (hb : cellOk b = true) :
    appendV Try.prog ro h nx #[y_s_uint8, y_s_uint8] [.slice (some (own id 1)) k n, .slice (some (own id2 1)) 2 2] = some (.slice (some (own id 1)) (k + 2) n, h.upd id (some (.cells (c.take k ++ [a, b] ++ c.drop (k + 2)).toArray e)), nx) := by
  obtain ⟨i, g1, g2, g3⟩ := tin_u8'
  have hs : srcV Try.prog ro h y_uint8 i.size i.bytes y_s_uint8 (.slice (some (own id2 1)) 2 2) = some (2, [a, b]) := by
    unfold srcV
    simp only [und_u8s', g2]
    have : cellsAt ro h (own id2 1) (2 * 1) = some [a, b] := by
      show cellsAt ro h ⟨id2, 0, some 1⟩ _ = _
      rw [cellsAt_own, h2]; rfl
    rw [this]; rfl
  have hle : Nat.ble (k + 2) n = true := Nat.ble_eq_true_of_le hk
  have hst : storeAtV h (fwd (own id 1) (k * 1)) [a, b] = some (h.upd id (some (.cells (c.take k ++ [a, b] ++ c.drop (k + 2)).toArray e))) := by
    unfold storeAtV
    have e1 : (fwd (own id 1) (k * 1)).spot = some 1 := rfl
    have e2 : (fwd (own id 1) (k * 1)).block = id := rfl
    have e3 : (fwd (own id 1) (k * 1)).off = k := by simp [fwd, own]
    have hle2 : Nat.ble (k + [a, b].length) c.toArray.size = true := Nat.ble_eq_true_of_le (by simp; omega)
    have hok : [a, b].all cellOk = true := by simp [ha, hb]
    simp only [e1, e2, e3, h1, hle2, hok]
    rfl
  unfold appendV
  simp only [List.getElem?_toArray, List.getElem?_cons_zero, List.getElem?_cons_succ, und_u8s', g1, Option.bind_some, hs, hle]
  have hz : Nat.beq 1 i.size = true := by rw [g2]; rfl
  have hsp : (own id 1).spot = some 1 := rfl
  simp only [hsp, hz, g2, hst, Option.bind_some]
theorem conv_str {ro : Ro} {h : T Obj} {aid id k n : Nat} {l : List UInt8} {e : TypeId} (h1 : h.get id = some (.cells (bv8 l).toArray e)) (hk : l.length = k) : convV Try.prog ro h aid y_s_uint8 y_string (.slice (some (own id 1)) k n) = some (injS l, none) := by
  have hu : und Try.prog y_uint8 = some (.int .u8) := by kernel_rfl
  unfold convV
  simp only [und_u8s', und_S, hu]
  have : cellsAt ro h (own id 1) k = some (bv8 l) := by
    show cellsAt ro h ⟨id, 0, some 1⟩ _ = _
    rw [cellsAt_own, h1, cellsIn_some]
    simp only [Option.bind_some]
    rw [if_pos (by simp [bv8, hk]), List.drop_zero, List.take_of_length_le (by simp [bv8, hk])]
  rw [this]
  simp only [Option.bind_some, bytesV_bv8]
  rfl
set_option maxRecDepth 4000 in
theorem auto_key_c {ro : Ro} {v : Value} {l : List Int} (hl : l.length ≤ 1000) (hne : l ≠ []) (h0 : ∀ x ∈ l, 0 ≤ x ∧ x < 512) {h : T Obj} {nx : Nat} {K : KV} (hf : Fr h nx) (hv : ZI ro h v l) (hK : ∀ nx', nx ≤ nx' → K (injS (keyZ l)) h nx') : callP Try.prog ro i_auto_key [v] h nx K := by
  apply auto_key_of
  unfold auto_key
  have hln := hv.len
  have hpos : 0 < l.length := List.length_pos_iff.2 hne
  have hmul : (2 : Int) * (l.length : Int) = ((2 * l.length : Nat) : Int) := by omega
  refine bindP_mk hln (bindP_mk (intB_mul _ _ _) ?_)
  rw [wr_i64 (by omega) (by omega), hmul]
  refine bindP_mk (make_u8c (by omega) (by omega)) (optP_mk (bindP_mk hln ?_))
  refine loopP_rule (fun j e h' nx' => ∃ (k : Nat), k + j = l.length ∧ nx + 9 ≤ nx' ∧ Sub h h' ∧ Fr h' nx' ∧ e 3 = .slice (some (own (nx + 4) 1)) (2 * k) (2 * l.length) ∧ e 10 = v ∧ e 11 = .int .i64 l.length ∧ e 12 = .int .i64 k ∧
    h'.get (nx + 4) = some (.cells (bv8 (keyZ (l.take k)) ++ List.replicate (2 * l.length - 2 * k) (Value.int .u8 0)).toArray y_uint8)) ?_ (n := l.length) ⟨0, by omega, by omega, (Sub.refl h).new hf (by omega), (hf.mono (by omega)).upd (n := nx + 9) (Nat.le_refl _) (by omega), rfl, rfl, rfl, rfl, by rw [T.get_upd_same]; rfl⟩
  rintro j e h' nx' ⟨k, hj, hnx, hs, hf', e3, e10, e11, e12, g⟩ Q' hq hx
  unfold auto_key_L1
  rw [e3, e10, e11, e12]
  refine lss_s (fun hk => ?_) (fun hk => ?_)
  · have hk : k < l.length := by omega
    have hxb := h0 _ (List.getElem_mem hk)
    have hld := (hv.sub hs).load hk
    have htk : keyZ (l.take (k + 1)) = keyZ (l.take k) ++ keyB l[k] := by
      rw [List.take_succ_eq_append_getElem hk]; unfold keyZ; rw [List.flatMap_append]; simp only [List.flatMap_cons, List.flatMap_nil, List.append_nil]
    generalize l[k] = p at hxb hld htk
    obtain ⟨q, rfl⟩ : ∃ q : Nat, p = (q : Int) := ⟨p.toNat, by omega⟩
    refine condP_t (bindP_mk (hv.ix _ hk) (bindP_mk hld ?_))
    refine bindP_mk (intB_shr_nat _ _ q (by omega) (by decide)) (bindP_mk (convI_int _ _ _) (bindP_mk (convI_int _ _ _) (bindP_mk (lit_u82 _ _ _) (optP_mk ?_))))
    have hkl : (keyZ (l.take k)).length = 2 * k := by rw [keyZ_len, List.length_take]; omega
    have g' : (h'.upd (nx' + 10) (some (.cells #[.int .u8 (wr .u8 ((q / 2 ^ (8 : Int).toNat : Nat) : Int)), .int .u8 (wr .u8 (q : Int))] y_uint8))).get (nx + 4) = some (.cells (bv8 (keyZ (l.take k)) ++ List.replicate (2 * l.length - 2 * k) (Value.int .u8 0)).toArray y_uint8) := by rw [T.get_upd_ne _ _ (by omega)]; exact g
    refine bindP_mk (append_two (n := 2 * l.length) (k := 2 * k) g' (by rw [T.get_upd_same]) (by simp [bv8, hkl]; omega) (by omega) rfl rfl) ?_
    refine bindP_mk (intB_add _ _ _) ?_
    rw [wr_i64 (by omega) (by omega)]
    dsimp only
    refine hq (j - 1) _ _ _ _ (by omega) ⟨k + 1, by omega, by omega, (hs.new hf (by omega)).new hf (by omega), ((hf'.mono (by omega)).upd (n := nx' + 12) (Nat.le_refl _) (by omega)).upd (Nat.le_add_right _ 3) (by omega), ?_, e10, e11, ?_, ?_⟩ (Sub.refl _)
    · show Value.slice _ _ _ = _
      rw [Nat.mul_succ]
    · show Value.int _ _ = _
      congr 1
    · rw [T.get_upd_same]
      congr 3
      have hbl : (bv8 (keyZ (l.take k))).length = 2 * k := by simp [bv8, hkl]
      rw [List.take_append_of_le_length (by omega), List.take_of_length_le (by omega), List.drop_append, List.drop_eq_nil_of_le (by omega), hbl, htk]
      have e1 : UInt8.toNat (UInt8.ofNat (q / 256)) = q / 256 := by simp [UInt8.toNat_ofNat']; omega
      have e2 : UInt8.toNat (UInt8.ofNat (q % 256)) = q % 256 := by simp [UInt8.toNat_ofNat']
      have e3 : (8 : Int).toNat = 8 := rfl
      simp only [bv8, keyB, Int.toNat_natCast, List.map_append, List.map_cons, List.map_nil, e1, e2, wr_u8_any, e3, List.nil_append, List.append_assoc, List.drop_replicate]
      have e4 : (q : Int) % 256 = ((q % 256 : Nat) : Int) := by omega
      have e5 : ((q / 2 ^ 8 : Nat) : Int) % 256 = ((q / 256 : Nat) : Int) := by omega
      have e6 : 2 * l.length - 2 * k - (2 * k + 2 - 2 * k) = 2 * l.length - 2 * (k + 1) := by omega
      rw [e4, e5, e6]
  · refine condP_f ?_
    refine hx _ _ _ _ (fun e => by cases e) (exP_e (beqP_t ?_))
    have hkl : k = l.length := by omega
    subst hkl
    unfold auto_key_j1
    have f3 : ∀ a, Env.put e 13 a 3 = .slice (some (own (nx + 4) 1)) (2 * l.length) (2 * l.length) := fun a => e3
    simp only [puts, f3]
    rw [List.take_length, Nat.sub_self, List.replicate_zero, List.append_nil] at g
    refine bindP_mk (conv_str g (keyZ_len l)) (optP_mk0 ⟨h, hs, hK _ (by omega)⟩)
end V
end Go.Proofs.Ytmmdcdjkmakgpaa
set_option linter.unusedVariables false
set_option linter.unusedSimpArgs false
namespace Go.Proofs.Ytmmdcdjkmakgpaa
namespace V
open PA
attribute [local irreducible] bindP ifP condP newP optP exP beqP
def NOk (g : GlD) (f : Int → Option Value) : Prop := ∀ q, 0 ≤ q → f q = if ctd g q = true then some (.int .i64 (numZ g q)) else none
def DOk (f : Int → Option Value) (D : List (Int × Int)) : Prop := ∀ d ∈ D, f d.1 = if d.2 = -1 then none else some (.int .u8 d.2)
theorem digs_cons (g : GlD) (p : Int) (r : List Int) (c : Int) : digs g (p :: r) c = if ctd g p then (p, c % 3) :: digs g r (c / 3) else (p, -1) :: digs g r c := rfl
set_option maxRecDepth 8000 in
theorem auto_digits_c {ro : Ro} {g : GlD} {av bv fv cv sv kv ev yv lv rv uv wv : Value} {c : List Nat} {n : Int} {e0 : TypeId} {bid nid : Nat} {f : Int → Option Value} {l : List Int} {code many : Int} (hmany : many ≤ 512) (hz : rz (-1) many l = true) (hll : l.length ≤ 512) (hc0 : 0 ≤ code) (hc1 : code ≤ 255)
    {h : T Obj} {nx : Nat} {K : KV} (hf : Fr h nx) (hb : h.get bid = some (.cells (bldL av bv (.map (some nid)) fv c n cv sv kv ev yv).toArray e0)) (hm : MapG injI h nid f) (hn : NOk g f) (hl : ZI ro h lv l)
    (hK : ∀ h' nx' did f', nx ≤ nx' → Sub h h' → Fr h' nx' → nx ≤ did → did < nx' → MapG injI h' did f' → DOk f' (digs g l code) → K (.map (some did)) h' nx') : callP Try.prog ro i_auto_builder_digits [ptr bid, .agg #[lv, rv, uv, wv], .int .i64 code] h nx K := by
  apply auto_builder_digits_of
  unfold auto_builder_digits
  refine param_mk hf (Nat.le_refl _) fun h1 hs1 hf1 g1 _ => ?_
  have g1 : h1.get nx = some (.cells #[lv, rv, uv, wv] y_api_State) := g1
  refine obj_mk hf1 (show nx + 1 ≤ nx + 2 by omega) fun h2 hs2 hf2 g2 _ => ?_
  have hs := hs1.trans hs2
  have g1 := hs2 _ _ g1
  have hlen := hl.len
  (repeat (first | refine bindP_mk (by simp (disch := first | omega | exact Int.natCast_nonneg _ | assumption) only [BB, B2, ↓reduceIte, Nat.reduceLeDiff, Nat.reduceAdd, CC, g1, hlen] <;> rfl) ?_ | refine newP_mk ?_ | refine optP_mk ?_ | with_reducible first | refine condP_t ?_ | refine condP_f ?_ | refine ifP_tt' ?_ | refine ifP_ff' ?_ | refine ifP_tf' ?_ | refine ifP_ft' ?_ | refine ifP_u' ?_ | refine optP_mk0 ?_))
  generalize hD : digs g l code = D at hK
  refine loopP_rule (fun j e h' nx' => ∃ (k : Nat) (D0 : List (Int × Int)) (cd last : Int) (f' : Int → Option Value), k + j = l.length ∧ nx + 8 ≤ nx' ∧ Sub h h' ∧ Fr h' nx' ∧ e 0 = ptr bid ∧ e 2 = .int .i64 cd ∧ e 7 = .map (some (nx + 2)) ∧ e 14 = lv ∧ e 15 = .int .i64 l.length ∧ e 16 = .int .i64 k ∧
    MapG injI h' (nx + 2) f' ∧ 0 ≤ cd ∧ cd ≤ 255 ∧ -1 ≤ last ∧ rz last many (l.drop k) = true ∧ D0 ++ digs g (l.drop k) cd = D ∧ (∀ d ∈ D0, d.1 ≤ last) ∧ (∀ q, last < q → f' q = none) ∧ DOk f' D0) ?_ (n := l.length) ⟨0, [], code, -1, fun _ => none, by omega, by omega, hs, hf2.mono (by omega), rfl, rfl, rfl, rfl, rfl, rfl, MapG.new g2, hc0, hc1, by omega, hz, hD, by simp, fun _ _ => rfl, by intro d hd; cases hd⟩
  rintro j e h' nx' ⟨k, D0, cd, last, f', hj, hnx, hs', hf', e0', e2, e7, e14, e15, e16, hm', hcd0, hcd1, hlast, hrz, hDD, hle, hnone, hok⟩ Q' hq hx
  unfold auto_builder_digits_L1
  rw [e0', e2, e7, e14, e15, e16]
  have hb' := hs' _ _ hb
  have hmn := hm.sub hs'
  refine lss_s (fun hk => ?_) (fun hk => ?_)
  · have hk : k < l.length := by omega
    have hld := (hl.sub hs').load hk
    rw [drop_cons hk, rz_cons] at hrz
    rw [drop_cons hk, digs_cons] at hDD
    simp only [Bool.and_eq_true, decide_eq_true_eq] at hrz
    generalize l[k] = x at hld hrz hDD
    have hnx0 : f x = if ctd g x = true then some (.int .i64 (numZ g x)) else none := hn x (by omega)
    have hlk := look_ii hmn x
    rw [hnx0] at hlk
    have hbn := bldL_2 (av := av) (bv := bv) (nv := .map (some nid)) (fv := fv) (c := c) (n := n) (cv := cv) (sv := sv) (kv := kv) (ev := ev) (yv := yv)
    refine condP_t (bindP_mk (hl.ix _ hk) (bindP_mk hld ?_))
    (repeat (first | refine bindP_mk (by simp (disch := first | omega | exact Int.natCast_nonneg _ | assumption) only [BB, B2, ↓reduceIte, Nat.reduceLeDiff, Nat.reduceAdd, CC, nilCk_at, hb', hbn, hlk, nth0, nth1] <;> rfl) ?_ | refine newP_mk ?_ | refine optP_mk ?_ | with_reducible first | refine condP_t ?_ | refine condP_f ?_ | refine ifP_tt' ?_ | refine ifP_ff' ?_ | refine ifP_tf' ?_ | refine ifP_ft' ?_ | refine ifP_u' ?_ | refine optP_mk0 ?_))
    have hj2 : ∀ (e : Env) (h3 : T Obj) (n3 : Nat) (D1 : List (Int × Int)) (cd' : Int) (f3 : Int → Option Value), nx' ≤ n3 → Sub h h3 → Fr h3 n3 → e 0 = ptr bid → e 2 = .int .i64 cd' → e 7 = .map (some (nx + 2)) → e 14 = lv → e 15 = .int .i64 l.length → e 16 = .int .i64 k →
        MapG injI h3 (nx + 2) f3 → 0 ≤ cd' → cd' ≤ 255 → D1 ++ digs g (l.drop (k + 1)) cd' = D → (∀ d ∈ D1, d.1 ≤ x) → (∀ q, x < q → f3 q = none) → DOk f3 D1 → auto_builder_digits_j2 ro Q' e h3 n3 := by
      intro e h3 n3 D1 cd' f3 hn3 s1 s2 e0 e2 e7 e14 e15 e16 m3 c0 c1 d1 d2 d3 d4
      unfold auto_builder_digits_j2
      rw [e16]
      (repeat (first | refine bindP_mk (by simp (disch := first | omega | exact Int.natCast_nonneg _ | assumption) only [BB, B2, ↓reduceIte, Nat.reduceLeDiff, Nat.reduceAdd, CC] <;> rfl) ?_ | refine newP_mk ?_ | refine optP_mk ?_ | with_reducible first | refine condP_t ?_ | refine condP_f ?_ | refine ifP_tt' ?_ | refine ifP_ff' ?_ | refine ifP_tf' ?_ | refine ifP_ft' ?_ | refine ifP_u' ?_ | refine optP_mk0 ?_))
      exact hq (j - 1) _ _ _ _ (by omega) ⟨k + 1, D1, cd', x, f3, by omega, by omega, s1, s2.mono (by omega), e0, e2, e7, e14, e15, rfl, m3, c0, c1, by omega, hrz.2.2, d1, d2, d3, d4⟩ (Sub.refl _)
    cases hct : ctd g x with
    | true =>
      rw [hct, if_pos rfl] at hDD
      simp only [if_true, Option.isSome_some]
      obtain ⟨es, ec, p1, p2⟩ := put_iu hm' x (.int .u8 (cd % 3))
      (repeat (first | refine bindP_mk (by simp (disch := first | omega | exact Int.natCast_nonneg _ | assumption) only [BB, B2, ↓reduceIte, Nat.reduceLeDiff, Nat.reduceAdd, CC, p1] <;> rfl) ?_ | refine newP_mk ?_ | refine optP_mk ?_ | with_reducible first | refine condP_t ?_ | refine condP_f ?_ | refine ifP_tt' ?_ | refine ifP_ff' ?_ | refine ifP_tf' ?_ | refine ifP_ft' ?_ | refine ifP_u' ?_ | refine optP_mk0 ?_))
      refine hj2 _ _ _ (D0 ++ [(x, cd % 3)]) (cd / 3) _ (by omega) (hs'.new hf (by omega)) ((hf'.mono (by omega)).upd (Nat.le_refl _) (by omega)) e0' rfl e7 e14 e15 e16 (p2 _ (by rw [T.get_upd_same])) (by omega) (by omega) (by rw [← hDD]; simp) ?_ ?_ ?_
      · intro d hd
        rcases List.mem_append.1 hd with hd | hd
        · have := hle d hd; omega
        · simp at hd; rw [hd]; exact Int.le_refl _
      · intro q hq
        show (if q = x then _ else f' q) = none
        rw [if_neg (by omega)]; exact hnone q (by omega)
      · intro d hd
        rcases List.mem_append.1 hd with hd | hd
        · have := hle d hd
          show (if d.1 = x then _ else f' d.1) = _
          rw [if_neg (by omega)]; exact hok d hd
        · simp at hd; rw [hd]
          show (if x = x then _ else f' x) = _
          rw [if_pos rfl, if_neg (by show ¬ cd % 3 = -1; omega)]
    | false =>
      rw [hct, if_neg (by decide)] at hDD
      simp only [Bool.false_eq_true, if_false, Option.isSome_none]
      (repeat (first | refine bindP_mk (by simp (disch := first | omega | exact Int.natCast_nonneg _ | assumption) only [BB, B2, ↓reduceIte, Nat.reduceLeDiff, Nat.reduceAdd, CC] <;> rfl) ?_ | refine newP_mk ?_ | refine optP_mk ?_ | with_reducible first | refine condP_t ?_ | refine condP_f ?_ | refine ifP_tt' ?_ | refine ifP_ff' ?_ | refine ifP_tf' ?_ | refine ifP_ft' ?_ | refine ifP_u' ?_ | refine optP_mk0 ?_))
      refine hj2 _ _ _ (D0 ++ [(x, -1)]) cd _ (by omega) hs' (hf'.mono (by omega)) e0' e2 e7 e14 e15 e16 hm' hcd0 hcd1 (by rw [← hDD]; simp) ?_ ?_ ?_
      · intro d hd
        rcases List.mem_append.1 hd with hd | hd
        · have := hle d hd; omega
        · simp at hd; rw [hd]; exact Int.le_refl _
      · intro q hq; exact hnone q (by omega)
      · intro d hd
        rcases List.mem_append.1 hd with hd | hd
        · exact hok d hd
        · simp at hd; rw [hd]
          exact hnone x (by omega)
  · (repeat (first | refine bindP_mk (by simp (disch := first | omega | exact Int.natCast_nonneg _ | assumption) only [BB, B2, ↓reduceIte, Nat.reduceLeDiff, Nat.reduceAdd, CC] <;> rfl) ?_ | refine newP_mk ?_ | refine optP_mk ?_ | with_reducible first | refine condP_t ?_ | refine condP_f ?_ | refine ifP_tt' ?_ | refine ifP_ff' ?_ | refine ifP_tf' ?_ | refine ifP_ft' ?_ | refine ifP_u' ?_ | refine optP_mk0 ?_))
    refine hx _ _ _ _ (fun e => by cases e) (exP_e (beqP_t ?_))
    unfold auto_builder_digits_j1
    rw [drop_all (by omega)] at hDD
    have hDD : D0 = D := by simpa [digs] using hDD
    have f7 : ∀ (e' : Env), e' 7 = .map (some (nx + 2)) → ∃ h3, Sub h3 h' ∧ K (e' 7) h3 (nx' + 1 + 2) := fun e' h7 => by
      rw [h7]
      exact ⟨h', Sub.refl _, hK _ _ _ f' (by omega) hs' (hf'.mono (by omega)) (by omega) (by omega) hm' (by rw [← hDD]; exact hok)⟩
    exact f7 _ e7
end V
end Go.Proofs.Ytmmdcdjkmakgpaa
set_option linter.unusedVariables false
set_option linter.unusedSimpArgs false
namespace Go.Proofs.Ytmmdcdjkmakgpaa
namespace V
open PA
attribute [local irreducible] bindP ifP condP newP optP exP beqP
abbrev nilS : Value := .slice none 0 0
def KOk (S : List StateD) (f : List UInt8 → Option Value) : Prop := ∀ l, l ≠ [] → (∀ x ∈ l, 0 ≤ x ∧ x < 512) → f (keyZ l) = (S.findIdx? (isL l)).map fun k => .int .i64 (k : Int)
structure Bd (h : T Obj) (g : GlD) (bid nid kid eid yid sid : Nat) (av bv fv : Value) (c : List Nat) (n : Int) (cv : Value) (S : List StateD) (cs : List (List Value)) : Prop where
  hc : c.length = 256
  blk : h.get bid = some (.cells (bldL av bv (.map (some nid)) fv c n cv (.slice (some (own sid 4)) cs.length cs.length) (.map (some kid)) (.map (some eid)) (.map (some yid))).toArray y_auto_builder)
  num : ∃ f, MapG injI h nid f ∧ NOk g f
  known : ∃ f, MapG injS h kid f ∧ KOk S f
  row : h.get sid = some (.cells cs.flatten.toArray y_api_State)
  z4 : ∀ x ∈ cs, x.length = 4
  len : cs.length = S.length
  few : S.length ≤ 256
  pos : 0 < S.length
  nk : nid ≠ kid
def NewSt (h : T Obj) (lo : Nat) (x : List Value) (s : StateD) : Prop := ∃ lv rv, x = [lv, rv, nilS, nilS] ∧ OwnT h lv 1 y_int (intsZ s.l) lo ∧ OwnT h rv 1 y_int (intsZ s.r) lo ∧ s.rule = [] ∧ s.next = []
def Grow (h : T Obj) (lo : Nat) (cs cs' : List (List Value)) (S S' : List StateD) : Prop := ∃ ds T, cs' = cs ++ ds ∧ S' = S ++ T ∧ ds.length = T.length ∧ ∀ (i : Nat) x s, ds[i]? = some x → T[i]? = some s → NewSt h lo x s
theorem Grow.refl {h : T Obj} {lo : Nat} {cs : List (List Value)} {S : List StateD} : Grow h lo cs cs S S := ⟨[], [], by simp, by simp, rfl, fun i x s hx => by simp at hx⟩
section
variable {h h' : T Obj} {g : GlD} {bid nid kid eid yid sid : Nat} {av bv fv : Value} {c : List Nat} {n : Int} {cv : Value} {S : List StateD} {cs : List (List Value)}
theorem Bd.sub (hB : Bd h g bid nid kid eid yid sid av bv fv c n cv S cs) (hs : Sub h h') : Bd h' g bid nid kid eid yid sid av bv fv c n cv S cs := by
  obtain ⟨f1, n1, n2⟩ := hB.num
  obtain ⟨f2, k1, k2⟩ := hB.known
  exact ⟨hB.hc, hs _ _ hB.blk, ⟨f1, n1.sub hs, n2⟩, ⟨f2, k1.sub hs, k2⟩, hs _ _ hB.row, hB.z4, hB.len, hB.few, hB.pos, hB.nk⟩
theorem Bd.ids (hB : Bd h g bid nid kid eid yid sid av bv fv c n cv S cs) : bid ≠ sid ∧ bid ≠ kid ∧ bid ≠ nid ∧ sid ≠ kid ∧ sid ≠ nid := by
  obtain ⟨f1, n1, n2⟩ := hB.num
  obtain ⟨f2, k1, k2⟩ := hB.known
  obtain ⟨a1, a2, a3⟩ := n1.obj
  obtain ⟨b1, b2, b3⟩ := k1.obj
  have h1 := hB.blk
  have h2 := hB.row
  refine ⟨fun e => ?_, fun e => ?_, fun e => ?_, fun e => ?_, fun e => ?_⟩ <;> subst e
  · rw [h1] at h2
    simp only [Option.some.injEq, Obj.cells.injEq] at h2
    exact absurd h2.2.1 (by decide)
  · rw [h1] at b3; cases b3
  · rw [h1] at a3; cases a3
  · rw [h2] at b3; cases b3
  · rw [h2] at a3; cases a3
theorem Bd.own (hB : Bd h g bid nid kid eid yid sid av bv fv c n cv S cs) : OwnT h (.slice (some (own sid 4)) cs.length cs.length) 4 y_api_State cs 0 := .inr ⟨sid, Nat.zero_le _, rfl, hB.z4, hB.row⟩
end
theorem lit_int (aid : Nat) (b : Int) : sliceLitV Try.prog y_s_int aid 1 [(0, .int .i64 b)] = some (.slice (some (own aid 1)) 1 1, some (.cells [Value.int .i64 b].toArray y_int)) := by kernel_rfl
theorem und_sint : und Try.prog y_s_int = some (.slice y_int) := by kernel_rfl
theorem tin_sint : ∃ i, tin Try.prog y_int = some i ∧ i.size = 1 ∧ i.bytes = 8 := tinOf (by kernel_rfl)
theorem app_int {ro : Ro} {h : T Obj} {v : Value} {nx n1 n2 lo : Nat} {l : List Int} {b : Int} {K : Value × Option Obj → T Obj → Value × T Obj × Nat → Prop} (ho : OwnT h v 1 y_int (intsZ l) lo) (hl : l.length ≤ 1000000) (hf : Fr h nx) (hlo : lo ≤ nx) (hn1 : nx ≤ n1) (hn2 : n1 < n2)
    (hK : ∀ h' w, OwnT h' w 1 y_int (intsZ (l ++ [b])) lo → w = .slice (some (own n2 1)) (l.length + 1) (l.length + 1) → Kp v h h' → Fr h' (n2 + 1) → K (.slice (some (own n1 1)) 1 1, some (.cells [Value.int .i64 b].toArray y_int)) (h.upd n1 (some (.cells [Value.int .i64 b].toArray y_int))) (w, h', n2 + 1)) :
    bindP (sliceLitV Try.prog y_s_int n1 1 [(0, .int .i64 b)]) fun r => optP h n1 r.2 fun h' => bindP (appendV Try.prog ro h' n2 #[y_s_int, y_s_int] [v, r.1]) (K r h') := by
  obtain ⟨i, g1, g2, g3⟩ := tin_sint
  have e : intsZ l ++ [[Value.int .i64 b]] = intsZ (l ++ [b]) := by simp [intsZ]
  have el := intsZ_len l
  refine append_lit (z := 1) (l := intsZ l) (y := [.int .i64 b]) (lit_int _ _) rfl ho und_sint g1 g2 (by omega) zerI rfl rfl (by rw [el, g3]; unfold big; omega) (by rw [el]; unfold big; omega) hf hlo hn1 hn2 fun h' q1 q2 q3 => ?_
  rw [e] at q1 ⊢
  refine hK h' _ q1 ?_ q2 q3
  rw [intsZ_len, List.length_append]; rfl
theorem zer_State : zer Try.prog y_api_State = some (.agg #[nilS, nilS, nilS, nilS]) := by kernel_rfl
theorem lit_State (aid : Nat) (a b c d : Value) : sliceLitV Try.prog y_s_api_State aid 1 [(0, .agg #[a, b, c, d])] = some (.slice (some (own aid 4)) 1 1, some (.cells [a, b, c, d].toArray y_api_State)) := by kernel_rfl
theorem und_sState : und Try.prog y_s_api_State = some (.slice y_api_State) := by kernel_rfl
theorem tin_State : ∃ i, tin Try.prog y_api_State = some i ∧ i.size = 4 ∧ i.bytes = 96 := tinOf (by kernel_rfl)
theorem app_State {ro : Ro} {h : T Obj} {v a b c d : Value} {nx n1 n2 lo : Nat} {l : List (List Value)} {K : Value × Option Obj → T Obj → Value × T Obj × Nat → Prop} (ha : cellOk a = true) (hb : cellOk b = true) (hc : cellOk c = true) (hd : cellOk d = true) (ho : OwnT h v 4 y_api_State l lo) (hl : l.length ≤ 1000000) (hf : Fr h nx) (hlo : lo ≤ nx) (hn1 : nx ≤ n1) (hn2 : n1 < n2)
    (hK : ∀ h' w, OwnT h' w 4 y_api_State (l ++ [[a, b, c, d]]) lo → w = .slice (some (own n2 4)) (l ++ [[a, b, c, d]]).length (l ++ [[a, b, c, d]]).length → Kp v h h' → Fr h' (n2 + 1) → K (.slice (some (own n1 4)) 1 1, some (.cells [a, b, c, d].toArray y_api_State)) (h.upd n1 (some (.cells [a, b, c, d].toArray y_api_State))) (w, h', n2 + 1)) :
    bindP (sliceLitV Try.prog y_s_api_State n1 1 [(0, .agg #[a, b, c, d])]) fun r => optP h n1 r.2 fun h' => bindP (appendV Try.prog ro h' n2 #[y_s_api_State, y_s_api_State] [v, r.1]) (K r h') := by
  obtain ⟨i, g1, g2, g3⟩ := tin_State
  exact append_lit (z := 4) (l := l) (y := [a, b, c, d]) (lit_State _ _ _ _ _) rfl ho und_sState g1 g2 (by omega) zer_State rfl (by simp [ha, hb, hc, hd]) (by rw [g3]; unfold big; omega) (by unfold big; omega) hf hlo hn1 hn2 fun h' q1 q2 q3 => hK h' _ q1 rfl q2 q3
theorem build_State (a b : Value) (ha : a.cells = #[a]) (hb : b.cells = #[b]) : buildV Try.prog y_api_State [(0, a), (1, b)] = some (.agg #[a, b, nilS, nilS]) := by
  have hz := zer_State
  have hp : (match und Try.prog y_api_State with | some (.struct fs) => placesV Try.prog fs.toList | _ => none) = some [(0, 1), (1, 1), (2, 1), (3, 1)] := by kernel_rfl
  unfold buildV
  rw [hz]
  simp only [Option.bind]
  cases hu : und Try.prog y_api_State with
  | none => rw [hu] at hp; cases hp
  | some d =>
    rw [hu] at hp
    cases d <;> try (cases hp; done)
    rename_i fs
    simp only at hp ⊢
    rw [hp]
    simp only [fillV, ha, hb]
    rfl
theorem cells_of_ok {v : Value} (h : cellOk v = true) : v.cells = #[v] := by
  cases v <;> first | rfl | (cases h; done)
theorem regsZ_snoc (g : GlD) (l : List Int) (x : Int) : regsZ g (l ++ [x]) = if ctd g x then regsZ g l ++ [numZ g x] else regsZ g l := by
  unfold regsZ
  rw [List.filter_append]
  cases h : ctd g x <;> simp [h]
theorem findIdx_snoc {S : List StateD} {s : StateD} {l m : List Int} (hs : s.l = l) (hn : S.findIdx? (isL l) = none) : (S ++ [s]).findIdx? (isL m) = if m = l then some S.length else S.findIdx? (isL m) := by
  rw [List.findIdx?_append]
  by_cases h : m = l
  · subst h
    rw [if_pos rfl, hn]
    simp [List.findIdx?_cons, isL, hs]
  · rw [if_neg h]
    have : isL m s = false := by unfold isL; rw [hs]; exact decide_eq_false (Ne.symm h)
    simp [List.findIdx?_cons, this]
set_option maxRecDepth 8000 in
set_option maxHeartbeats 1000000 in
theorem auto_find_c {ro : Ro} {g : GlD} {bid nid kid eid yid sid : Nat} {av bv fv cv lv : Value} {c : List Nat} {n : Int} {S : List StateD} {cs : List (List Value)} {l : List Int} {lo : Nat} (hg : g.p.length ≤ 512) (hz : rz (-1) g.p.length l = true) (hll : l.length ≤ 512) (hne : l ≠ [])
    {h : T Obj} {nx : Nat} {K : KV} (hf : Fr h nx) (hB : Bd h g bid nid kid eid yid sid av bv fv c n cv S cs) (hl : OwnT h lv 1 y_int (intsZ l) lo) (hlo : lo ≤ nx) (hlb : bid < lo)
    (hK : ∀ h' nx' sid' cs', nx ≤ nx' → Fr h' nx' → Keep [bid, kid, sid] h h' → (sid' = sid ∨ nx ≤ sid') → Bd h' g bid nid kid eid yid sid' av bv fv c n cv (findZ g S l).2.2 cs' → Grow h' lo cs cs' S (findZ g S l).2.2 → K (.tuple #[.int .i64 (findZ g S l).1, .int .i64 (findZ g S l).2.1]) h' nx') :
    callP Try.prog ro i_auto_builder_find [ptr bid, lv] h nx K := by
  apply auto_builder_find_of
  unfold auto_builder_find
  have hrange : ∀ x ∈ l, 0 ≤ x ∧ x < 512 := fun x hx => by have := rz_mem hz x hx; omega
  have hzl : ZI ro h lv l := hl.sl
  have hb := hB.blk
  have b263 := bldL_263 (av := av) (bv := bv) (nv := .map (some nid)) (fv := fv) (n := n) (cv := cv) (sv := .slice (some (own sid 4)) cs.length cs.length) (kv := .map (some kid)) (ev := .map (some eid)) (yv := .map (some yid)) hB.hc
  obtain ⟨fk, hk1, hk2⟩ := hB.known
  have hlk := look_si hk1 (keyZ l)
  rw [hk2 l hne hrange] at hlk
  (repeat (first | refine bindP_mk (by simp (disch := first | omega | exact Int.natCast_nonneg _ | assumption) only [BB, B2, ↓reduceIte, Nat.reduceLeDiff, Nat.reduceAdd, CC, nilCk_at, hb, b263] <;> rfl) ?_ | refine newP_mk ?_ | refine optP_mk ?_ | with_reducible first | refine condP_t ?_ | refine condP_f ?_ | refine ifP_tt' ?_ | refine ifP_ff' ?_ | refine ifP_tf' ?_ | refine ifP_ft' ?_ | refine ifP_u' ?_ | refine optP_mk0 ?_))
  refine auto_key_c (by omega) hne hrange (hf.mono (by omega)) hzl fun n1 hn1 => ?_
  refine ⟨sameV_own hb hb, ?_⟩
  cases hfi : S.findIdx? (isL l) with
  | some k =>
    have hfz : findZ g S l = ((k : Int), 0, S) := by unfold findZ; rw [hfi]
    rw [hfz] at hK
    rw [hfi] at hlk
    simp only [Option.map_some, Option.getD_some, Option.isSome_some] at hlk
    (repeat (first | refine bindP_mk (by simp (disch := first | omega | exact Int.natCast_nonneg _ | assumption) only [BB, B2, ↓reduceIte, Nat.reduceLeDiff, Nat.reduceAdd, CC, hlk, nth0, nth1] <;> rfl) ?_ | refine newP_mk ?_ | refine optP_mk ?_ | with_reducible first | refine condP_t ?_ | refine condP_f ?_ | refine ifP_tt' ?_ | refine ifP_ff' ?_ | refine ifP_tf' ?_ | refine ifP_ft' ?_ | refine ifP_u' ?_ | refine optP_mk0 ?_))
    exact ⟨h, Sub.refl _, hK h _ sid cs (by omega) (hf.mono (by omega)) (Sub.refl h).keepL (.inl rfl) hB Grow.refl⟩
  | none =>
    have hfz : findZ g S l = if 3 < (regsZ g l).length then ((0 : Int), (110 : Int), S) else if 256 ≤ S.length then ((0 : Int), (3 : Int), S) else (((S.length : Nat) : Int), (0 : Int), S ++ [⟨l, regsZ g l, [], []⟩]) := by unfold findZ; rw [hfi]
    rw [hfz] at hK
    rw [hfi] at hlk
    simp only [Option.map_none, Option.getD_none, Option.isSome_none] at hlk
    have hlen := hzl.len
    (repeat (first | refine bindP_mk (by simp (disch := first | omega | exact Int.natCast_nonneg _ | assumption) only [BB, B2, ↓reduceIte, Nat.reduceLeDiff, Nat.reduceAdd, CC, hlk, nth0, nth1, hlen] <;> rfl) ?_ | refine newP_mk ?_ | refine optP_mk ?_ | with_reducible first | refine condP_t ?_ | refine condP_f ?_ | refine ifP_tt' ?_ | refine ifP_ff' ?_ | refine ifP_tf' ?_ | refine ifP_ft' ?_ | refine ifP_u' ?_ | refine optP_mk0 ?_))
    refine loopP_rule (fun j e h' nx' => ∃ (k : Nat), k + j = l.length ∧ nx ≤ nx' ∧ Sub h h' ∧ Fr h' nx' ∧ e 0 = ptr bid ∧ e 1 = lv ∧ e 26 = lv ∧ e 27 = .int .i64 l.length ∧ e 28 = .int .i64 k ∧ OwnT h' (e 8) 1 y_int (intsZ (regsZ g (l.take k))) nx) ?_ (n := l.length) ⟨0, by omega, by omega, Sub.refl h, hf.mono (by omega), rfl, rfl, rfl, rfl, rfl, OwnT.nil⟩
    rintro j e h' nx' ⟨k, hj, hnx, hs, hf', e0, e1, e26, e27, e28, ho⟩ Q' hq hx
    have hB' := hB.sub hs
    obtain ⟨fn, hm1, hm2⟩ := hB'.num
    have hb' := hB'.blk
    unfold auto_builder_find_L1
    rw [e0, e26, e27, e28]
    refine lss_s (fun hk => ?_) (fun hk => ?_)
    · have hk : k < l.length := by omega
      have hld := (hzl.sub hs).load hk
      have hxr := hrange _ (List.getElem_mem hk)
      have hrs : regsZ g (l.take (k + 1)) = if ctd g l[k] then regsZ g (l.take k) ++ [numZ g l[k]] else regsZ g (l.take k) := by rw [List.take_succ_eq_append_getElem hk, regsZ_snoc]
      generalize l[k] = x at hld hxr hrs
      have hlx := look_ii hm1 x
      rw [hm2 x hxr.1] at hlx
      have bn := bldL_2 (av := av) (bv := bv) (nv := .map (some nid)) (fv := fv) (c := c) (n := n) (cv := cv) (sv := .slice (some (own sid 4)) cs.length cs.length) (kv := .map (some kid)) (ev := .map (some eid)) (yv := .map (some yid))
      refine condP_t (bindP_mk (hzl.ix _ hk) (bindP_mk hld ?_))
      (repeat (first | refine bindP_mk (by simp (disch := first | omega | exact Int.natCast_nonneg _ | assumption) only [BB, B2, ↓reduceIte, Nat.reduceLeDiff, Nat.reduceAdd, CC, nilCk_at, hb', bn, hlx, nth0, nth1] <;> rfl) ?_ | refine newP_mk ?_ | refine optP_mk ?_ | with_reducible first | refine condP_t ?_ | refine condP_f ?_ | refine ifP_tt' ?_ | refine ifP_ff' ?_ | refine ifP_tf' ?_ | refine ifP_ft' ?_ | refine ifP_u' ?_ | refine optP_mk0 ?_))
      have hj2 : ∀ (e : Env) (h3 : T Obj) (n3 : Nat), nx' ≤ n3 → Sub h h3 → Fr h3 n3 → e 0 = ptr bid → e 1 = lv → e 26 = lv → e 27 = .int .i64 l.length → e 28 = .int .i64 k → OwnT h3 (e 8) 1 y_int (intsZ (regsZ g (l.take (k + 1)))) nx → auto_builder_find_j2 ro Q' e h3 n3 := by
        intro e h3 n3 hn3 s1 s2 e0 e1 e26 e27 e28 o3
        unfold auto_builder_find_j2
        rw [e28]
        (repeat (first | refine bindP_mk (by simp (disch := first | omega | exact Int.natCast_nonneg _ | assumption) only [BB, B2, ↓reduceIte, Nat.reduceLeDiff, Nat.reduceAdd, CC] <;> rfl) ?_ | refine newP_mk ?_ | refine optP_mk ?_ | with_reducible first | refine condP_t ?_ | refine condP_f ?_ | refine ifP_tt' ?_ | refine ifP_ff' ?_ | refine ifP_tf' ?_ | refine ifP_ft' ?_ | refine ifP_u' ?_ | refine optP_mk0 ?_))
        exact hq (j - 1) _ _ _ _ (by omega) ⟨k + 1, by omega, by omega, s1, s2.mono (by omega), e0, e1, e26, e27, rfl, o3⟩ (Sub.refl _)
      have hrl : (regsZ g (l.take k)).length ≤ 1000000 := by
        unfold regsZ
        rw [List.length_map]
        have := List.length_filter_le (ctd g) (l.take k)
        rw [List.length_take] at this
        omega
      cases hct : ctd g x with
      | true =>
        rw [hct, if_pos rfl] at hrs
        simp only [if_true, Option.isSome_some, Option.getD_some]
        (repeat (first | refine bindP_mk (by simp (disch := first | omega | exact Int.natCast_nonneg _ | assumption) only [BB, B2, ↓reduceIte, Nat.reduceLeDiff, Nat.reduceAdd, CC] <;> rfl) ?_ | refine newP_mk ?_ | refine optP_mk ?_ | with_reducible first | refine condP_t ?_ | refine condP_f ?_ | refine ifP_tt' ?_ | refine ifP_ff' ?_ | refine ifP_tf' ?_ | refine ifP_ft' ?_ | refine ifP_u' ?_ | refine optP_mk0 ?_))
        refine app_int ho hrl hf' (by omega) (by omega) (by omega) fun h3 w q1 q2 q3 q4 => ?_
        dsimp only
        refine hj2 _ _ _ (by omega) (ho.sub q3 hf (Nat.le_refl _) hs) (q4.mono (by omega)) e0 e1 e26 e27 e28 ?_
        rw [hrs]; exact q1
      | false =>
        rw [hct, if_neg (by decide)] at hrs
        simp only [Bool.false_eq_true, if_false, Option.isSome_none]
        (repeat (first | refine bindP_mk (by simp (disch := first | omega | exact Int.natCast_nonneg _ | assumption) only [BB, B2, ↓reduceIte, Nat.reduceLeDiff, Nat.reduceAdd, CC] <;> rfl) ?_ | refine newP_mk ?_ | refine optP_mk ?_ | with_reducible first | refine condP_t ?_ | refine condP_f ?_ | refine ifP_tt' ?_ | refine ifP_ff' ?_ | refine ifP_tf' ?_ | refine ifP_ft' ?_ | refine ifP_u' ?_ | refine optP_mk0 ?_))
        refine hj2 _ _ _ (by omega) hs (hf'.mono (by omega)) e0 e1 e26 e27 e28 ?_
        rw [hrs]; exact ho
    · (repeat (first | refine bindP_mk (by simp (disch := first | omega | exact Int.natCast_nonneg _ | assumption) only [BB, B2, ↓reduceIte, Nat.reduceLeDiff, Nat.reduceAdd, CC] <;> rfl) ?_ | refine newP_mk ?_ | refine optP_mk ?_ | with_reducible first | refine condP_t ?_ | refine condP_f ?_ | refine ifP_tt' ?_ | refine ifP_ff' ?_ | refine ifP_tf' ?_ | refine ifP_ft' ?_ | refine ifP_u' ?_ | refine optP_mk0 ?_))
      refine hx _ _ _ _ (fun e => by cases e) (exP_e (beqP_t ?_))
      rw [List.take_of_length_le (by omega)] at ho
      have hrl : (regsZ g l).length ≤ 512 := by
        unfold regsZ
        rw [List.length_map]
        have := List.length_filter_le (ctd g) l
        omega
      have fin : ∀ (e' : Env) n', e' 0 = ptr bid → e' 1 = lv → OwnT h' (e' 8) 1 y_int (intsZ (regsZ g l)) nx → nx' ≤ n' → auto_builder_find_j1 ro K e' h' n' := by
        intro e' n' f0 f1 ho hn'
        unfold auto_builder_find_j1
        rw [f0, f1]
        generalize e' 8 = rv at ho
        have hrn := (ho.sl (ro := ro)).len
        rw [intsZ_len] at hrn
        have hb262 := bldL_262 (av := av) (bv := bv) (nv := .map (some nid)) (fv := fv) (n := n) (cv := cv) (sv := .slice (some (own sid 4)) cs.length cs.length) (kv := .map (some kid)) (ev := .map (some eid)) (yv := .map (some yid)) hB.hc
        refine bindP_mk hrn ?_
        refine gtr_s (fun u1 => ?_) (fun u1 => ?_)
        · (repeat (first | refine bindP_mk (by simp (disch := first | omega | exact Int.natCast_nonneg _ | assumption) only [BB, B2, ↓reduceIte, Nat.reduceLeDiff, Nat.reduceAdd, CC] <;> rfl) ?_ | refine newP_mk ?_ | refine optP_mk ?_ | with_reducible first | refine condP_t ?_ | refine condP_f ?_ | refine ifP_tt' ?_ | refine ifP_ff' ?_ | refine ifP_tf' ?_ | refine ifP_ft' ?_ | refine ifP_u' ?_ | refine optP_mk0 ?_))
          rw [if_pos (by omega)] at hK
          exact ⟨h, hs, hK h _ sid cs (by omega) (hf.mono (by omega)) (Sub.refl h).keepL (.inl rfl) hB Grow.refl⟩
        · rw [if_neg (by omega)] at hK
          (repeat (first | refine bindP_mk (by simp (disch := first | omega | exact Int.natCast_nonneg _ | assumption) only [BB, B2, ↓reduceIte, Nat.reduceLeDiff, Nat.reduceAdd, CC, nilCk_at, hb', hb262] <;> rfl) ?_ | refine newP_mk ?_ | refine optP_mk ?_ | with_reducible first | refine condP_t ?_ | refine condP_f ?_ | refine ifP_tt' ?_ | refine ifP_ff' ?_ | refine ifP_tf' ?_ | refine ifP_ft' ?_ | refine ifP_u' ?_ | refine optP_mk0 ?_))
          refine geq_s (fun u2 => ?_) (fun u2 => ?_)
          · (repeat (first | refine bindP_mk (by simp (disch := first | omega | exact Int.natCast_nonneg _ | assumption) only [BB, B2, ↓reduceIte, Nat.reduceLeDiff, Nat.reduceAdd, CC] <;> rfl) ?_ | refine newP_mk ?_ | refine optP_mk ?_ | with_reducible first | refine condP_t ?_ | refine condP_f ?_ | refine ifP_tt' ?_ | refine ifP_ff' ?_ | refine ifP_tf' ?_ | refine ifP_ft' ?_ | refine ifP_u' ?_ | refine optP_mk0 ?_))
            rw [if_pos (by have := hB.len; omega)] at hK
            exact ⟨h, hs, hK h _ sid cs (by omega) (hf.mono (by omega)) (Sub.refl h).keepL (.inl rfl) hB Grow.refl⟩
          · rw [if_neg (by have := hB.len; omega)] at hK
            (repeat (first | refine bindP_mk (by simp (disch := first | omega | exact Int.natCast_nonneg _ | assumption) only [BB, B2, ↓reduceIte, Nat.reduceLeDiff, Nat.reduceAdd, CC, nilCk_at, hb', hb262, b263] <;> rfl) ?_ | refine newP_mk ?_ | refine optP_mk ?_ | with_reducible first | refine condP_t ?_ | refine condP_f ?_ | refine ifP_tt' ?_ | refine ifP_ff' ?_ | refine ifP_tf' ?_ | refine ifP_ft' ?_ | refine ifP_u' ?_ | refine optP_mk0 ?_))
            refine auto_key_c (by omega) hne hrange (hf'.mono (by omega)) (hzl.sub hs) fun n2 hn2 => ?_
            refine ⟨sameV_own hb' hb', ?_⟩
            obtain ⟨fk', hk1', hk2'⟩ := hB'.known
            obtain ⟨i1, i2, i3, i4, i5⟩ := hB'.ids
            obtain ⟨es, ec, p1, p2⟩ := put_si hk1' (keyZ l) (.int .i64 cs.length)
            refine bindP_mk p1 ?_
            have hkf : kid < nx' := by obtain ⟨_, _, q⟩ := hk1'.obj; exact hf'.lt' q
            have hbf : bid < nx' := hf'.lt' hb'
            have hsf : sid < nx' := hf'.lt' hB'.row
            have hf2 : Fr (h'.upd kid (some (.map es ec))) nx' := hf'.upd (Nat.le_refl _) hkf
            have hb2 : (h'.upd kid (some (.map es ec))).get bid = _ := (T.get_upd_ne _ _ i2).trans hb'
            have ho2 : OwnT (h'.upd kid (some (.map es ec))) (.slice (some (own sid 4)) cs.length cs.length) 4 y_api_State cs 0 := .inr ⟨sid, Nat.zero_le _, rfl, hB.z4, by rw [T.get_upd_ne _ _ i4]; exact hB'.row⟩
            have hk0 : Keep [bid, kid, sid] h (h'.upd kid (some (.map es ec))) := (hs.keepL).upd (by simp)
            have hmap := p2 (h'.upd kid (some (.map es ec))) (by rw [T.get_upd_same])
            have hor : OwnT (h'.upd kid (some (.map es ec))) rv 1 y_int (intsZ (regsZ g l)) nx := by
              rcases ho with ho | ⟨id, o1, rfl, o4, o5⟩
              · exact .inl ho
              · refine .inr ⟨id, o1, rfl, o4, ?_⟩
                rw [T.get_upd_ne _ _ (by rintro rfl; obtain ⟨_, _, q⟩ := hk1'.obj; rw [q] at o5; cases o5)]; exact o5
            have hgf : (h'.upd kid (some (.map es ec))).get kid = some (.map es ec) := T.get_upd_same _ _ _
            generalize h'.upd kid (some (.map es ec)) = h3 at hf2 hb2 ho2 hk0 hmap hor hgf
            (repeat (first | refine bindP_mk (by simp (disch := first | omega | exact Int.natCast_nonneg _ | assumption) only [BB, B2, ↓reduceIte, Nat.reduceLeDiff, Nat.reduceAdd, CC, nilCk_at, hb2, hb262] <;> rfl) ?_ | refine newP_mk ?_ | refine optP_mk ?_ | with_reducible first | refine condP_t ?_ | refine condP_f ?_ | refine ifP_tt' ?_ | refine ifP_ff' ?_ | refine ifP_tf' ?_ | refine ifP_ft' ?_ | refine ifP_u' ?_ | refine optP_mk0 ?_))
            have hlvok := hl.ok
            have hrvok := ho.ok
            refine bindP_mk (build_State _ _ (cells_of_ok hlvok) (cells_of_ok hrvok)) ?_
            refine app_State hlvok hrvok rfl rfl ho2 (by have := hB.len; have := hB.few; omega) hf2 (Nat.zero_le _) (by omega) (by omega) fun h4 w q1 q2 q3 q4 => ?_
            dsimp only
            have hb4 : h4.get bid = _ := q3 bid _ hb2 (by intro e; exact i1 (Option.some.inj e).symm)
            (repeat (first | refine bindP_mk (by simp (disch := first | omega | exact Int.natCast_nonneg _ | assumption) only [BB, B2, ↓reduceIte, Nat.reduceLeDiff, Nat.reduceAdd, CC, nilCk_at] <;> rfl) ?_ | refine newP_mk ?_ | refine optP_mk ?_ | with_reducible first | refine condP_t ?_ | refine condP_f ?_ | refine ifP_tt' ?_ | refine ifP_ff' ?_ | refine ifP_tf' ?_ | refine ifP_ft' ?_ | refine ifP_u' ?_ | refine optP_mk0 ?_))
            refine bindP_mk (store1_own (l := bldL av bv (.map (some nid)) fv c n cv (.slice (some (own sid 4)) cs.length cs.length) (.map (some kid)) (.map (some eid)) (.map (some yid))) hb4 (by rw [bldL_len hB.hc]; omega) (by rw [q2]; rfl) (by rw [q2]; rfl)) ?_
            rw [bldL_set262 hB.hc]
            refine ⟨_, Sub.refl _, ?_⟩
            have hkp : Keep [bid, kid, sid] h h4 := hk0.trans (q3.keepL fun id hid => by have : sid = id := Option.some.inj hid; subst this; simp)
            have hfin : Keep [bid, kid, sid] h (h4.upd bid (some (.cells (bldL av bv (.map (some nid)) fv c n cv w (.map (some kid)) (.map (some eid)) (.map (some yid))).toArray y_auto_builder))) := hkp.upd (by simp)
            have hcl : ((cs.length : Nat) : Int) = (S.length : Nat) := by rw [hB.len]
            rw [hcl]
            subst q2
            have ht : ∀ k o, h3.get k = some o → k ≠ sid → k ≠ bid → (h4.upd bid (some (.cells (bldL av bv (.map (some nid)) fv c n cv (.slice (some (own (n2 + 11) 4)) (cs ++ [[lv, rv, nilS, nilS]]).length (cs ++ [[lv, rv, nilS, nilS]]).length) (.map (some kid)) (.map (some eid)) (.map (some yid))).toArray y_auto_builder))).get k = some o := fun k o h1 h2 h3 => by
              rw [T.get_upd_ne _ _ h3]
              exact q3 k o h1 fun e => h2 (Option.some.inj e).symm
            have hf4 : Fr (h4.upd bid (some (.cells (bldL av bv (.map (some nid)) fv c n cv (.slice (some (own (n2 + 11) 4)) (cs ++ [[lv, rv, nilS, nilS]]).length (cs ++ [[lv, rv, nilS, nilS]]).length) (.map (some kid)) (.map (some eid)) (.map (some yid))).toArray y_auto_builder))) (n2 + 11 + 1) := q4.upd (Nat.le_refl _) (by omega)
            refine hK _ _ (n2 + 11) (cs ++ [[lv, rv, nilS, nilS]]) (by omega) (hf4.mono (by omega)) hfin (.inr (by omega)) ⟨hB.hc, by rw [T.get_upd_same], ?_, ?_, ?_, ?_, ?_, ?_, ?_, hB.nk⟩ ?_
            · obtain ⟨_, _, q⟩ := hm1.obj
              obtain ⟨es9, c9, ps9, r1, r2, r3⟩ := hm1
              refine ⟨fn, ⟨es9, c9, ps9, ?_, r2, r3⟩, hm2⟩
              have hn3 : h3.get nid = some (.map es9 c9) := hk0 nid _ (by
                obtain ⟨f8, w1, w2⟩ := hB.num
                obtain ⟨es8, c8, ps8, w3, w4, w5⟩ := w1
                have := hs _ _ w3
                rw [r1] at this
                rw [w3, ← this]) (by simp; exact ⟨i3.symm, hB.nk, i5.symm⟩)
              exact ht _ _ hn3 i5.symm i3.symm
            · obtain ⟨es9, c9, ps9, r1, r2, r3⟩ := hmap
              refine ⟨_, ⟨es9, c9, ps9, ht _ _ r1 i4.symm i2.symm, r2, r3⟩, ?_⟩
              intro m hm0 hm1
              show (if keyZ m = keyZ l then _ else fk' (keyZ m)) = _
              rw [findIdx_snoc (l := l) rfl hfi]
              by_cases hml : m = l
              · subst hml; rw [if_pos rfl, if_pos rfl, hB.len]; rfl
              · rw [if_neg (fun e => hml (keyZ_inj hm1 hrange e)), if_neg hml]; exact hk2' m hm0 hm1
            · rcases q1 with ⟨h9, _⟩ | ⟨id, r1, r2, r3, r4⟩
              · cases h9
              · have : n2 + 11 = id := by
                  simp only [Value.slice.injEq, Option.some.injEq, own, Addr.mk.injEq] at r2
                  exact r2.1.1
                subst this
                rw [T.get_upd_ne _ _ (by omega)]; exact r4
            · intro x hx
              rcases List.mem_append.1 hx with hx | hx
              · exact hB.z4 x hx
              · simp at hx; rw [hx]; rfl
            · simp [hB.len]
            · have := hB.len; simp; omega
            · simp
            · refine ⟨[[lv, rv, nilS, nilS]], [⟨l, regsZ g l, [], []⟩], rfl, rfl, rfl, ?_⟩
              intro i x s hx hs9
              cases i with
              | succ i => simp at hx
              | zero =>
                simp at hx hs9
                subst hx; subst hs9
                refine ⟨lv, rv, rfl, ?_, ?_, rfl, rfl⟩
                · refine hl.keepK hfin fun id hid => ?_
                  obtain ⟨b1, b2⟩ := hl.blk hid
                  have hn1 : id ≠ bid := by omega
                  have hn2 : id ≠ kid := by
                    rintro rfl
                    obtain ⟨_, _, q⟩ := hk1.obj
                    rw [q] at b2; cases b2
                  have hn3 : id ≠ sid := by
                    rintro rfl
                    have := hB.row
                    rw [this] at b2
                    simp only [Option.some.injEq, Obj.cells.injEq] at b2
                    exact absurd b2.2.1 (by decide)
                  simp; exact ⟨hn1, hn2, hn3⟩
                · rcases hor with hor | ⟨id, o1, rfl, o4, o5⟩
                  · exact .inl hor
                  · refine .inr ⟨id, by omega, rfl, o4, ht _ _ o5 ?_ ?_⟩
                    · have := hf.lt' hB.row; omega
                    · have := hf.lt' hB.blk; omega
      exact fin _ _ e0 e1 ho (by omega)
end V
end Go.Proofs.Ytmmdcdjkmakgpaa
set_option linter.unusedVariables false
set_option linter.unusedSimpArgs false
namespace Go.Proofs.Ytmmdcdjkmakgpaa
namespace V
open PA
attribute [local irreducible] bindP ifP condP newP optP exP beqP
def opsC (l : List Nat) : List (List Value) := l.map fun b : Nat => [Value.int .u8 (b : Int)]
theorem opsC_len (l : List Nat) : (opsC l).length = l.length := by simp [opsC]
theorem lit_u81 (aid : Nat) (b : Int) : sliceLitV Try.prog y_s_uint8 aid 1 [(0, .int .u8 b)] = some (.slice (some (own aid 1)) 1 1, some (.cells [Value.int .u8 b].toArray y_uint8)) := by kernel_rfl
theorem app_u8 {ro : Ro} {h : T Obj} {v : Value} {nx n1 n2 lo : Nat} {l : List Nat} {b : Nat} {b' : Int} {K : Value × Option Obj → T Obj → Value × T Obj × Nat → Prop} (hb' : b' = (b : Int)) (ho : OwnT h v 1 y_uint8 (opsC l) lo) (hl : l.length ≤ 1000000) (hf : Fr h nx) (hlo : lo ≤ nx) (hn1 : nx ≤ n1) (hn2 : n1 < n2)
    (hK : ∀ h' w, OwnT h' w 1 y_uint8 (opsC (l ++ [b])) lo → w = .slice (some (own n2 1)) (l.length + 1) (l.length + 1) → Kp v h h' → Fr h' (n2 + 1) → K (.slice (some (own n1 1)) 1 1, some (.cells [Value.int .u8 (b : Int)].toArray y_uint8)) (h.upd n1 (some (.cells [Value.int .u8 (b : Int)].toArray y_uint8))) (w, h', n2 + 1)) :
    bindP (sliceLitV Try.prog y_s_uint8 n1 1 [(0, .int .u8 b')]) fun r => optP h n1 r.2 fun h' => bindP (appendV Try.prog ro h' n2 #[y_s_uint8, y_s_uint8] [v, r.1]) (K r h') := by
  subst hb'
  obtain ⟨i, g1, g2, g3⟩ := tin_u8'
  have e : opsC l ++ [[Value.int .u8 (b : Int)]] = opsC (l ++ [b]) := by simp [opsC]
  have el := opsC_len l
  refine append_lit (z := 1) (l := opsC l) (y := [.int .u8 (b : Int)]) (lit_u81 _ _) rfl ho und_u8s' g1 g2 (by omega) zerU rfl rfl (by rw [el, g3]; unfold big; omega) (by rw [el]; unfold big; omega) hf hlo hn1 hn2 fun h' q1 q2 q3 => ?_
  rw [e] at q1 ⊢
  refine hK h' _ q1 ?_ q2 q3
  rw [opsC_len, List.length_append]; rfl
theorem OwnT.updNe {h : T Obj} {v : Value} {z : Nat} {e e' : TypeId} {l : List (List Value)} {lo i : Nat} {c : Array Value} {f : Nat × Nat} {o : Option Obj} (ho : OwnT h v z e l lo) (hg : h.get i = some (.cells c e' f)) (he : e' ≠ e) : OwnT (h.upd i o) v z e l lo := by
  rcases ho with ho | ⟨id, h1, rfl, h4, h5⟩
  · exact .inl ho
  · refine .inr ⟨id, h1, rfl, h4, ?_⟩
    rw [T.get_upd_ne _ _ (by
      rintro rfl
      rw [hg] at h5
      simp only [Option.some.injEq, Obj.cells.injEq] at h5
      exact he h5.2.1)]
    exact h5
theorem NewSt.updNe {h : T Obj} {lo i : Nat} {x : List Value} {s : StateD} {c : Array Value} {e' : TypeId} {f : Nat × Nat} {o : Option Obj} (hn : NewSt h lo x s) (hg : h.get i = some (.cells c e' f)) (he : e' ≠ y_int) : NewSt (h.upd i o) lo x s := by
  obtain ⟨lv, rv, h1, h2, h3, h4⟩ := hn
  exact ⟨lv, rv, h1, h2.updNe hg he, h3.updNe hg he, h4⟩
theorem Grow.updNe {h : T Obj} {lo i : Nat} {cs cs' : List (List Value)} {S S' : List StateD} {c : Array Value} {e' : TypeId} {f : Nat × Nat} {o : Option Obj} (hn : Grow h lo cs cs' S S') (hg : h.get i = some (.cells c e' f)) (he : e' ≠ y_int) : Grow (h.upd i o) lo cs cs' S S' := by
  obtain ⟨ds, T, h1, h2, h3, h4⟩ := hn
  exact ⟨ds, T, h1, h2, h3, fun i x s hx hs => (h4 i x s hx hs).updNe hg he⟩
theorem Bd.keepN {h h' : T Obj} {g : GlD} {bid nid kid eid yid sid : Nat} {av bv fv : Value} {c : List Nat} {n : Int} {cv : Value} {S : List StateD} {cs : List (List Value)} (hB : Bd h g bid nid kid eid yid sid av bv fv c n cv S cs) (hk : ∀ k o, h.get k = some o → k = bid ∨ k = nid ∨ k = kid ∨ k = sid → h'.get k = some o) : Bd h' g bid nid kid eid yid sid av bv fv c n cv S cs := by
  obtain ⟨f1, ⟨es1, c1, ps1, n1, n2, n3⟩, n4⟩ := hB.num
  obtain ⟨f2, ⟨es2, c2, ps2, k1, k2, k3⟩, k4⟩ := hB.known
  exact ⟨hB.hc, hk _ _ hB.blk (.inl rfl), ⟨f1, ⟨es1, c1, ps1, hk _ _ n1 (.inr (.inl rfl)), n2, n3⟩, n4⟩, ⟨f2, ⟨es2, c2, ps2, hk _ _ k1 (.inr (.inr (.inl rfl))), k2, k3⟩, k4⟩, hk _ _ hB.row (.inr (.inr (.inr rfl))), hB.z4, hB.len, hB.few, hB.pos, hB.nk⟩
theorem Bd.lt {h : T Obj} {g : GlD} {bid nid kid eid yid sid nx : Nat} {av bv fv : Value} {c : List Nat} {n : Int} {cv : Value} {S : List StateD} {cs : List (List Value)} (hB : Bd h g bid nid kid eid yid sid av bv fv c n cv S cs) (hf : Fr h nx) : bid < nx ∧ nid < nx ∧ kid < nx ∧ sid < nx := by
  obtain ⟨f1, n1, n4⟩ := hB.num
  obtain ⟨f2, k1, k4⟩ := hB.known
  obtain ⟨_, _, a⟩ := n1.obj
  obtain ⟨_, _, b⟩ := k1.obj
  exact ⟨hf.lt' hB.blk, hf.lt' a, hf.lt' b, hf.lt' hB.row⟩
theorem placesZ_succ (k : Nat) : placesZ (k + 1) = placesZ k ++ [(k : Int)] := by simp [placesZ, List.range_succ]
theorem placesZ_mem {k : Nat} {x : Int} (h : x ∈ placesZ k) : 0 ≤ x ∧ x < k := by
  simp only [placesZ, List.mem_map, List.mem_range] at h
  obtain ⟨i, h1, rfl⟩ := h
  omega
theorem placesZ_len (k : Nat) : (placesZ k).length = k := by simp [placesZ]
theorem rz_snoc {m : Int} {x : Int} (hx : x < m) : ∀ {l : List Int} {a : Int}, a < x → rz a m l = true → (∀ y ∈ l, y < x) → rz a m (l ++ [x]) = true
  | [], a, ha, _, _ => by simp [rz, ha, hx]
  | y :: r, a, ha, h, hl => by
    simp only [rz, Bool.and_eq_true, decide_eq_true_eq] at h
    have := rz_snoc hx (hl y (by simp)) h.2.2 fun z hz => hl z (by simp [hz])
    simp only [List.cons_append, rz, Bool.and_eq_true, decide_eq_true_eq]
    exact ⟨h.1, h.2.1, this⟩
theorem rz_filter {m : Nat} (q : Int → Bool) : ∀ k, k ≤ m → rz (-1) m ((placesZ k).filter q) = true
  | 0, _ => rfl
  | k + 1, hk => by
    have ih := rz_filter (m := m) q k (by omega)
    rw [placesZ_succ, List.filter_append]
    cases hq : q (k : Int) with
    | false => rw [List.filter_cons_of_neg (by simp [hq])]; simpa using ih
    | true =>
      rw [List.filter_cons_of_pos (by simp [hq])]
      refine rz_snoc (by omega) (by omega) ih fun y hy => ?_
      have := placesZ_mem ((List.mem_filter.1 hy).1)
      omega
theorem lZ_rz (g : GlD) (en st : Int → Bool) (b : Nat) : rz (-1) g.p.length (lZ g en st b) = true := rz_filter _ _ (Nat.le_refl _)
theorem lZ_len (g : GlD) (en st : Int → Bool) (b : Nat) : (lZ g en st b).length ≤ g.p.length := by
  have := List.length_filter_le (takesZ g en st b) (placesZ g.p.length)
  rw [placesZ_len] at this; exact this
theorem opsZ_snoc (g : GlD) (en st : Int → Bool) (l : List Int) (x : Int) : opsZ g en st (l ++ [x]) = if ctd g x then opsZ g en st l ++ [opZ en st x] else opsZ g en st l := by
  unfold opsZ
  rw [List.filter_append]
  cases h : ctd g x <;> simp [h]
theorem opsZ_len (g : GlD) (en st : Int → Bool) (l : List Int) : (opsZ g en st l).length ≤ l.length := by
  unfold opsZ
  rw [List.length_map]
  exact List.length_filter_le _ _
theorem zer_Move : zer Try.prog y_api_Move = some (.agg #[.int .i64 0, nilS]) := by kernel_rfl
theorem build_Move1 : buildV Try.prog y_api_Move [(0, .int .i64 (-1))] = some (.agg #[.int .i64 (-1), nilS]) := by kernel_rfl
theorem zer_PosZ : zer Try.prog y_api_Pos = some (.agg (posL dummy (.slice none 0 0)).toArray) := by kernel_rfl
theorem goesZ_nil {g : GlD} {en st : Int → Bool} {b : Nat} {S : List StateD} (h : lZ g en st b = []) : goesZ g en st b S = (⟨-1, []⟩, 0, S) := by unfold goesZ; rw [h]
theorem goesZ_ne {g : GlD} {en st : Int → Bool} {b : Nat} {S : List StateD} (h : lZ g en st b ≠ []) : goesZ g en st b S = (⟨(findZ g S (lZ g en st b)).1, opsZ g en st (lZ g en st b)⟩, (findZ g S (lZ g en st b)).2.1, (findZ g S (lZ g en st b)).2.2) := by
  unfold goesZ
  generalize lZ g en st b = l at h
  cases l with
  | nil => exact absurd rfl h
  | cons x r => rfl
theorem at_nat {g : GlD} {k : Nat} (hk : k < g.p.length) : g.at (k : Int) = g.p[k] := by
  unfold GlD.at
  rw [Int.toNat_natCast, List.getD_eq_getElem?_getD, List.getElem?_eq_getElem hk]; rfl
set_option maxRecDepth 8000 in
set_option maxHeartbeats 2000000 in
theorem auto_goes_c {ro : Ro} {g : GlD} {bid nid kid eid yid sid : Nat} {av bv fv cv : Value} {c : List Nat} {n : Int} {S : List StateD} {cs : List (List Value)} {en st : Int → Bool} {b : Nat} (hg : g.p.length ≤ 512) (hb : b < 256)
    {h : T Obj} {nx : Nat} {K : KV} (hf : Fr h nx) (hB : Bd h g bid nid kid eid yid sid av bv fv c n cv S cs) (hen : BMap h eid en) (hst : BMap h yid st) (hP : SlR ro h bv 9 (RPos ro h) g.p)
    (hK : ∀ h' nx' sid' cs' ov, nx ≤ nx' → Fr h' nx' → Keep [bid, kid, sid] h h' → (sid' = sid ∨ nx ≤ sid') → Bd h' g bid nid kid eid yid sid' av bv fv c n cv (goesZ g en st b S).2.2 cs' → Grow h' nx cs cs' S (goesZ g en st b S).2.2 → OwnT h' ov 1 y_uint8 (opsC (goesZ g en st b S).1.ops) nx →
      K (.tuple #[.agg #[.int .i64 (goesZ g en st b S).1.to, ov], .int .i64 (goesZ g en st b S).2.1]) h' nx') :
    callP Try.prog ro i_auto_builder_goes [ptr bid, .int .u8 (b : Int)] h nx K := by
  apply auto_builder_goes_of
  unfold auto_builder_goes
  obtain ⟨l1, l2, l3, l4⟩ := hB.lt hf
  refine bindP_mk zer_Move (obj_mk hf (Nat.le_refl _) fun h1 hs1 hf1 g1 _ => bindP_mk build_Move1 ?_)
  refine local_mk zer_Move rfl (x := [.int .i64 (-1), nilS]) rfl rfl rfl hf1 (show nx + 1 ≤ nx + 4 by omega) fun h2 hs2 hf2 g2 _ => ?_
  have hs := hs1.trans hs2
  have g1 : h2.get nx = some (.cells #[.int .i64 0, nilS] y_api_Move) := hs2 _ _ g1
  have hbk := hs _ _ hB.blk
  have b1 := bldL_1 (av := av) (bv := bv) (nv := .map (some nid)) (fv := fv) (c := c) (n := n) (cv := cv) (sv := .slice (some (own sid 4)) cs.length cs.length) (kv := .map (some kid)) (ev := .map (some eid)) (yv := .map (some yid))
  have b2 := bldL_2 (av := av) (bv := bv) (nv := .map (some nid)) (fv := fv) (c := c) (n := n) (cv := cv) (sv := .slice (some (own sid 4)) cs.length cs.length) (kv := .map (some kid)) (ev := .map (some eid)) (yv := .map (some yid))
  have b264 := bldL_264 (av := av) (bv := bv) (nv := .map (some nid)) (fv := fv) (n := n) (cv := cv) (sv := .slice (some (own sid 4)) cs.length cs.length) (kv := .map (some kid)) (ev := .map (some eid)) (yv := .map (some yid)) hB.hc
  have b265 := bldL_265 (av := av) (bv := bv) (nv := .map (some nid)) (fv := fv) (n := n) (cv := cv) (sv := .slice (some (own sid 4)) cs.length cs.length) (kv := .map (some kid)) (ev := .map (some eid)) (yv := .map (some yid)) hB.hc
  have hlen := hP.len
  (repeat (first | refine bindP_mk (by simp (disch := first | omega | exact Int.natCast_nonneg _ | assumption) only [BB, B2, ↓reduceIte, Nat.reduceLeDiff, Nat.reduceAdd, CC, nilCk_at, hbk, b1, hlen] <;> rfl) ?_ | refine newP_mk ?_ | refine optP_mk ?_ | with_reducible first | refine condP_t ?_ | refine condP_f ?_ | refine ifP_tt' ?_ | refine ifP_ff' ?_ | refine ifP_tf' ?_ | refine ifP_ft' ?_ | refine ifP_u' ?_ | refine optP_mk0 ?_))
  refine loopP_rule (fun j e h' nx' => ∃ (k : Nat) (ov : Value), k + j = g.p.length ∧ nx + 5 ≤ nx' ∧ Sub h h' ∧ Fr h' nx' ∧ e 0 = ptr bid ∧ e 1 = .int .u8 (b : Int) ∧ e 4 = ptr nx ∧ e 7 = ptr (nx + 4) ∧ e 19 = bv ∧ e 20 = .int .i64 g.p.length ∧ e 21 = .int .i64 k ∧
    OwnT h' (e 6) 1 y_int (intsZ ((placesZ k).filter (takesZ g en st b))) nx ∧ h'.get nx = some (.cells #[.int .i64 0, nilS] y_api_Move) ∧ h'.get (nx + 4) = some (.cells #[.int .i64 (-1), ov] y_api_Move) ∧ OwnT h' ov 1 y_uint8 (opsC (opsZ g en st ((placesZ k).filter (takesZ g en st b)))) nx) ?_ (n := g.p.length)
    ⟨0, nilS, by omega, by omega, hs, hf2.mono (by omega), rfl, rfl, rfl, rfl, rfl, rfl, rfl, OwnT.nil, g1, g2, OwnT.nil⟩
  rintro j e h' nx' ⟨k, ov, hj, hnx, hs', hf', e0, e1, e4, e7, e19, e20, e21, ho, g1, g2, hov⟩ Q' hq hx
  have hB' := hB.sub hs'
  obtain ⟨fn, hm1, hm2⟩ := hB'.num
  have hbk := hB'.blk
  have hP' := hP.sub hs' (RPos.sub hs')
  have hen' : BMap h' eid en := by obtain ⟨f, q1, q2⟩ := hen; exact ⟨f, q1.sub hs', q2⟩
  have hst' : BMap h' yid st := by obtain ⟨f, q1, q2⟩ := hst; exact ⟨f, q1.sub hs', q2⟩
  unfold auto_builder_goes_L1
  rw [e0, e1, e19, e20, e21]
  refine lss_s (fun hk => ?_) (fun hk => ?_)
  · have hk : k < g.p.length := by omega
    have hls : (placesZ (k + 1)).filter (takesZ g en st b) = if takesZ g en st b (k : Int) then (placesZ k).filter (takesZ g en st b) ++ [(k : Int)] else (placesZ k).filter (takesZ g en st b) := by
      rw [placesZ_succ, List.filter_append]
      cases hq : takesZ g en st b (k : Int) <;> simp [hq]
    have hll : ((placesZ k).filter (takesZ g en st b)).length ≤ 512 := by
      have := List.length_filter_le (takesZ g en st b) (placesZ k)
      rw [placesZ_len] at this; omega
    have hol := opsZ_len g en st ((placesZ k).filter (takesZ g en st b))
    obtain ⟨x, ⟨nv, rfl, y1, y2⟩, x2, x3, x4, x5⟩ := hP'.at hk
    have hat := at_nat hk
    have hlk := look_ii hm1 (k : Int)
    rw [hm2 _ (by omega)] at hlk
    have hle := hen'.look (k : Int)
    have hly := hst'.look (k : Int)
    have hj2 : ∀ (e : Env) (h3 : T Obj) (n3 : Nat) (ov' : Value), nx' ≤ n3 → Sub h h3 → Fr h3 n3 → e 0 = ptr bid → e 1 = .int .u8 (b : Int) → e 4 = ptr nx → e 7 = ptr (nx + 4) → e 19 = bv → e 20 = .int .i64 g.p.length → e 21 = .int .i64 k →
        OwnT h3 (e 6) 1 y_int (intsZ ((placesZ (k + 1)).filter (takesZ g en st b))) nx → h3.get nx = some (.cells #[.int .i64 0, nilS] y_api_Move) → h3.get (nx + 4) = some (.cells #[.int .i64 (-1), ov'] y_api_Move) → OwnT h3 ov' 1 y_uint8 (opsC (opsZ g en st ((placesZ (k + 1)).filter (takesZ g en st b)))) nx → auto_builder_goes_j2 ro Q' e h3 n3 := by
      intro e h3 n3 ov' hn3 s1 s2 e0 e1 e4 e7 e19 e20 e21 o3 g3 g4 o4
      unfold auto_builder_goes_j2
      rw [e21]
      (repeat (first | refine bindP_mk (by simp (disch := first | omega | exact Int.natCast_nonneg _ | assumption) only [BB, B2, ↓reduceIte, Nat.reduceLeDiff, Nat.reduceAdd, CC] <;> rfl) ?_ | refine newP_mk ?_ | refine optP_mk ?_ | with_reducible first | refine condP_t ?_ | refine condP_f ?_ | refine ifP_tt' ?_ | refine ifP_ff' ?_ | refine ifP_tf' ?_ | refine ifP_ft' ?_ | refine ifP_u' ?_ | refine optP_mk0 ?_))
      exact hq (j - 1) _ _ _ _ (by omega) ⟨k + 1, ov', by omega, by omega, s1, s2.mono (by omega), e0, e1, e4, e7, e19, e20, rfl, o3, g3, g4, o4⟩ (Sub.refl _)
    generalize (placesZ k).filter (takesZ g en st b) = L at hls hll hol ho hov
    generalize (placesZ (k + 1)).filter (takesZ g en st b) = L' at hls hj2
    have htk : takesZ g en st b (k : Int) = (g.p[k].s.testBit b && (en k || st k)) := by unfold takesZ; rw [hat]
    refine condP_t (bindP_mk (hP'.ix _ hk) (bindP_mk x3 ?_))
    refine local_mk zer_PosZ rfl (x := posL g.p[k] nv) rfl rfl (posL_ok y1.ok) hf' (show nx' ≤ nx' + 4 by omega) fun h3 hs3 hf3 g3 hne3 => ?_
    have hsp : ((posL g.p[k] nv).drop 0).take 4 = setL g.p[k].s := rfl
    have e4s : (4 : Nat) ≤ (posL g.p[k] nv).length := by show 4 ≤ 9; omega
    have hld : loadA ro h3 4 (at_ (nx' + 4) 0 0) = some (setV g.p[k].s) := by
      rw [loadA_own, g3, cellsIn_some]
      simp only [Option.bind_some, tl]
      rw [if_pos (by show 0 + 4 ≤ 9; omega), hsp]; rfl
    (repeat (first | refine bindP_mk (by simp (disch := first | omega | exact Int.natCast_nonneg _ | assumption) only [BB, B2, ↓reduceIte, Nat.reduceLeDiff, Nat.reduceAdd, CC, hld] <;> rfl) ?_ | refine newP_mk ?_ | refine optP_mk ?_ | with_reducible first | refine condP_t ?_ | refine condP_f ?_ | refine ifP_tt' ?_ | refine ifP_ff' ?_ | refine ifP_tf' ?_ | refine ifP_ft' ?_ | refine ifP_u' ?_ | refine optP_mk0 ?_))
    refine bset_Has_c hb (hf3.mono (by omega)) fun n4 hn4 => ?_
    have hb3 := hs3 _ _ hbk
    have hle3 : lookV Try.prog h3 y_map_int_bool (.map (some eid)) (.int .i64 (k : Int)) false = some (.bool (en k)) := BMap.look (by obtain ⟨f, q1, q2⟩ := hen'; exact ⟨f, q1.sub hs3, q2⟩) _
    have hly3 : lookV Try.prog h3 y_map_int_bool (.map (some yid)) (.int .i64 (k : Int)) false = some (.bool (st k)) := BMap.look (by obtain ⟨f, q1, q2⟩ := hst'; exact ⟨f, q1.sub hs3, q2⟩) _
    have ho3 := ho.keepS hs3
    have hov3 := hov.keepS hs3
    have g13 := hs3 _ _ g1
    have g23 := hs3 _ _ g2
    have hm3 := hm1.sub hs3
    have hs03 := hs'.trans hs3
    have hB3 := hB'.sub hs3
    cases hhas : (g.p[k]).s.testBit b with
    | false =>
      rw [hhas, Bool.false_and] at htk
      rw [htk, if_neg (by decide)] at hls
      (repeat (first | refine bindP_mk (by simp (disch := first | omega | exact Int.natCast_nonneg _ | assumption) only [BB, B2, ↓reduceIte, Nat.reduceLeDiff, Nat.reduceAdd, CC] <;> rfl) ?_ | refine newP_mk ?_ | refine optP_mk ?_ | with_reducible first | refine condP_t ?_ | refine condP_f ?_ | refine ifP_tt' ?_ | refine ifP_ff' ?_ | refine ifP_tf' ?_ | refine ifP_ft' ?_ | refine ifP_u' ?_ | refine optP_mk0 ?_))
      refine hj2 _ _ _ ov (by omega) hs03 (hf3.mono (by omega)) e0 e1 e4 e7 e19 e20 e21 ?_ g13 g23 ?_
      · rw [hls]; exact ho3
      · rw [hls]; exact hov3
    | true =>
      rw [hhas, Bool.true_and] at htk
      -- places that are taken
      have main : ∀ (e' : Env) n5 (h6 : T Obj) (lv : Value) (op : Nat), nx' + 5 ≤ n5 → (en k || st k) = true → e' 0 = ptr bid → e' 1 = .int .u8 (b : Int) → e' 4 = ptr nx → e' 7 = ptr (nx + 4) → e' 8 = .int .i64 k → e' 19 = bv → e' 20 = .int .i64 g.p.length → e' 21 = .int .i64 k → OwnT h6 lv 1 y_int (intsZ L') nx → e' 6 = lv → Sub h h6 → Fr h6 n5 → h6.get nx = some (.cells #[.int .i64 0, nilS] y_api_Move) → h6.get (nx + 4) = some (.cells #[.int .i64 (-1), ov] y_api_Move) → OwnT h6 ov 1 y_uint8 (opsC (opsZ g en st L)) nx →
          op = opZ en st k → e' 12 = .int .u8 (op : Int) → ctd g k = true → L' = L ++ [(k : Int)] → auto_builder_goes_j4 ro Q' e' h6 n5 := by
        intro e' n5 h6 lv op hn5 hes f0 f1 f4 f7 f8 f19 f20 f21 q1 q2 q3 q4 q5 q6 q7 hop f12 hct hL
        unfold auto_builder_goes_j4
        rw [f7, f12]
        (repeat (first | refine bindP_mk (by simp (disch := first | omega | exact Int.natCast_nonneg _ | assumption) only [BB, B2, ↓reduceIte, Nat.reduceLeDiff, Nat.reduceAdd, CC, q6] <;> rfl) ?_ | refine newP_mk ?_ | refine optP_mk ?_ | with_reducible first | refine condP_t ?_ | refine condP_f ?_ | refine ifP_tt' ?_ | refine ifP_ff' ?_ | refine ifP_tf' ?_ | refine ifP_ft' ?_ | refine ifP_u' ?_ | refine optP_mk0 ?_))
        refine app_u8 (b := op) rfl q7 (by omega) q4 (by omega) (by omega) (by omega) fun h8 w r1 r2 r3 r4 => ?_
        dsimp only
        have hne4 : sblk ov ≠ some (nx + 4) := q7.ne q6 (by decide)
        have hnx4 : sblk ov ≠ some nx := q7.ne q5 (by decide)
        have r6 := r3 _ _ q6 hne4
        have r5 := r3 _ _ q5 hnx4
        have hr2 : w.cells = #[w] := by rw [r2]; rfl
        have hr2' : cellOk w = true := by rw [r2]; rfl
        (repeat (first | refine bindP_mk (by simp (disch := first | omega | exact Int.natCast_nonneg _ | assumption) only [BB, B2, ↓reduceIte, Nat.reduceLeDiff, Nat.reduceAdd, CC] <;> rfl) ?_ | refine newP_mk ?_ | refine optP_mk ?_ | with_reducible first | refine condP_t ?_ | refine condP_f ?_ | refine ifP_tt' ?_ | refine ifP_ff' ?_ | refine ifP_tf' ?_ | refine ifP_ft' ?_ | refine ifP_u' ?_ | refine optP_mk0 ?_))
        refine bindP_mk (store1_own (l := [.int .i64 (-1), ov]) r6 (by show 1 < 2; omega) hr2' hr2) ?_
        have hxl : OwnT h8 lv 1 y_int (intsZ L') nx := q1.keep r3 fun id hid => by
          obtain ⟨_, z1⟩ := q1.blk hid
          exact q7.ne z1 (by decide)
        have hss : Sub h h8 := q7.sub r3 hf (Nat.le_refl _) q3
        refine hj2 _ _ _ w (by omega) (hss.new hf (by omega)) ((r4.mono (by omega)).upd (Nat.le_refl _) (by omega)) f0 f1 f4 f7 f19 f20 f21 ?_ ?_ ?_ ?_
        · show OwnT _ (e' 6) _ _ _ _
          rw [q2]
          exact hxl.updNe r6 (by decide)
        · rw [T.get_upd_ne _ _ (by omega)]; exact r5
        · rw [T.get_upd_same]; rfl
        · rw [hL, opsZ_snoc, if_pos hct, ← hop]
          exact r1.updNe r6 (by decide)
      have fin3 : ∀ (e' : Env) n5 (h6 : T Obj) (lv : Value), nx' + 5 ≤ n5 → (en k || st k) = true → e' 0 = ptr bid → e' 1 = .int .u8 (b : Int) → e' 4 = ptr nx → e' 7 = ptr (nx + 4) → e' 8 = .int .i64 k → e' 19 = bv → e' 20 = .int .i64 g.p.length → e' 21 = .int .i64 k → OwnT h6 lv 1 y_int (intsZ L') nx → e' 6 = lv → Sub h h6 → Fr h6 n5 → h6.get nx = some (.cells #[.int .i64 0, nilS] y_api_Move) → h6.get (nx + 4) = some (.cells #[.int .i64 (-1), ov] y_api_Move) → OwnT h6 ov 1 y_uint8 (opsC (opsZ g en st L)) nx →
          e' 12 = .int .u8 (if st k then (1 : Int) else 3) → ctd g k = true → L' = L ++ [(k : Int)] → auto_builder_goes_j3 ro Q' e' h6 n5 := by
        intro e' n5 h6 lv hn5 hes f0 f1 f4 f7 f8 f19 f20 f21 q1 q2 q3 q4 q5 q6 q7 f12 hct hL
        have hly6 : lookV Try.prog h6 y_map_int_bool (.map (some yid)) (.int .i64 (k : Int)) false = some (.bool (st k)) := BMap.look (by obtain ⟨f, q1, q2⟩ := hst; exact ⟨f, q1.sub q3, q2⟩) _
        have hle6 : lookV Try.prog h6 y_map_int_bool (.map (some eid)) (.int .i64 (k : Int)) false = some (.bool (en k)) := BMap.look (by obtain ⟨f, q1, q2⟩ := hen; exact ⟨f, q1.sub q3, q2⟩) _
        have hb6 := (hB.sub q3).blk
        unfold auto_builder_goes_j3
        rw [f0, f8]
        (repeat (first | refine bindP_mk (by simp (disch := first | omega | exact Int.natCast_nonneg _ | assumption) only [BB, B2, ↓reduceIte, Nat.reduceLeDiff, Nat.reduceAdd, CC, nilCk_at, hb6, b265, hly6] <;> rfl) ?_ | refine newP_mk ?_ | refine optP_mk ?_ | with_reducible first | refine condP_t ?_ | refine condP_f ?_ | refine ifP_tt' ?_ | refine ifP_ff' ?_ | refine ifP_tf' ?_ | refine ifP_ft' ?_ | refine ifP_u' ?_ | refine optP_mk0 ?_))
        cases hsk : st k with
        | false =>
          rw [hsk] at f12
          (repeat (first | refine bindP_mk (by simp (disch := first | omega | exact Int.natCast_nonneg _ | assumption) only [BB, B2, ↓reduceIte, Nat.reduceLeDiff, Nat.reduceAdd, CC] <;> rfl) ?_ | refine newP_mk ?_ | refine optP_mk ?_ | with_reducible first | refine condP_t ?_ | refine condP_f ?_ | refine ifP_tt' ?_ | refine ifP_ff' ?_ | refine ifP_tf' ?_ | refine ifP_ft' ?_ | refine ifP_u' ?_ | refine optP_mk0 ?_))
          exact main _ _ h6 lv 3 (by omega) hes f0 f1 f4 f7 f8 f19 f20 f21 q1 q2 q3 (q4.mono (by omega)) q5 q6 q7 (by unfold opZ; rw [hsk]; rfl) f12 hct hL
        | true =>
          rw [hsk] at f12
          (repeat (first | refine bindP_mk (by simp (disch := first | omega | exact Int.natCast_nonneg _ | assumption) only [BB, B2, ↓reduceIte, Nat.reduceLeDiff, Nat.reduceAdd, CC, nilCk_at, hb6, b264, hle6] <;> rfl) ?_ | refine newP_mk ?_ | refine optP_mk ?_ | with_reducible first | refine condP_t ?_ | refine condP_f ?_ | refine ifP_tt' ?_ | refine ifP_ff' ?_ | refine ifP_tf' ?_ | refine ifP_ft' ?_ | refine ifP_u' ?_ | refine optP_mk0 ?_))
          cases hek : en k with
          | false =>
            (repeat (first | refine bindP_mk (by simp (disch := first | omega | exact Int.natCast_nonneg _ | assumption) only [BB, B2, ↓reduceIte, Nat.reduceLeDiff, Nat.reduceAdd, CC] <;> rfl) ?_ | refine newP_mk ?_ | refine optP_mk ?_ | with_reducible first | refine condP_t ?_ | refine condP_f ?_ | refine ifP_tt' ?_ | refine ifP_ff' ?_ | refine ifP_tf' ?_ | refine ifP_ft' ?_ | refine ifP_u' ?_ | refine optP_mk0 ?_))
            exact main _ _ h6 lv 1 (by omega) hes f0 f1 f4 f7 f8 f19 f20 f21 q1 q2 q3 (q4.mono (by omega)) q5 q6 q7 (by unfold opZ; rw [hsk, hek]; rfl) f12 hct hL
          | true =>
            (repeat (first | refine bindP_mk (by simp (disch := first | omega | exact Int.natCast_nonneg _ | assumption) only [BB, B2, ↓reduceIte, Nat.reduceLeDiff, Nat.reduceAdd, CC] <;> rfl) ?_ | refine newP_mk ?_ | refine optP_mk ?_ | with_reducible first | refine condP_t ?_ | refine condP_f ?_ | refine ifP_tt' ?_ | refine ifP_ff' ?_ | refine ifP_tf' ?_ | refine ifP_ft' ?_ | refine ifP_u' ?_ | refine optP_mk0 ?_))
            exact main _ _ h6 lv 2 (by omega) hes f0 f1 f4 f7 f8 f19 f20 f21 q1 q2 q3 (q4.mono (by omega)) q5 q6 q7 (by unfold opZ; rw [hsk, hek]; rfl) rfl hct hL
      cases hek : en k with
      | true =>
        rw [hek] at htk hle3
        rw [htk, Bool.true_or, if_pos rfl] at hls
        (repeat (first | refine bindP_mk (by simp (disch := first | omega | exact Int.natCast_nonneg _ | assumption) only [BB, B2, ↓reduceIte, Nat.reduceLeDiff, Nat.reduceAdd, CC, nilCk_at, hb3, b264, hle3] <;> rfl) ?_ | refine newP_mk ?_ | refine optP_mk ?_ | with_reducible first | refine condP_t ?_ | refine condP_f ?_ | refine ifP_tt' ?_ | refine ifP_ff' ?_ | refine ifP_tf' ?_ | refine ifP_ft' ?_ | refine ifP_u' ?_ | refine optP_mk0 ?_))
        refine app_int ho3 (by omega) (hf3.mono (show nx' + 4 + 1 ≤ n4 by omega)) (by omega) (by omega) (by omega) fun h6 w q1 q2 q3 q4 => ?_
        dsimp only
        rw [← hls] at q1
        have hkp : ∀ i o, h3.get i = some o → (∀ c f, o ≠ .cells c y_int f) → h6.get i = some o := fun i o hi hty => q3 i o hi fun e => by
          obtain ⟨_, z1⟩ := ho3.blk e
          rw [hi] at z1
          exact hty _ _ (Option.some.inj z1)
        have hb6 := hkp _ _ hb3 (by intro c f e; simp only [Obj.cells.injEq] at e; exact absurd e.2.1 (by decide))
        have hg16 := hkp _ _ g13 (by intro c f e; simp only [Obj.cells.injEq] at e; exact absurd e.2.1 (by decide))
        have hg26 := hkp _ _ g23 (by intro c f e; simp only [Obj.cells.injEq] at e; exact absurd e.2.1 (by decide))
        have hov6 : OwnT h6 ov 1 y_uint8 (opsC (opsZ g en st L)) nx := hov3.keep q3 fun id hid => by
          obtain ⟨_, z1⟩ := hov3.blk hid
          exact ho3.ne z1 (by decide)
        have hss : Sub h h6 := ho3.sub q3 hf (Nat.le_refl _) hs03
        have hB6 := hB.sub hss
        obtain ⟨fn6, m61, m62⟩ := hB6.num
        have hlk6 := look_ii m61 (k : Int)
        rw [m62 _ (by omega)] at hlk6
        have hly6 : lookV Try.prog h6 y_map_int_bool (.map (some yid)) (.int .i64 (k : Int)) false = some (.bool (st k)) := BMap.look (by obtain ⟨f, q1, q2⟩ := hst; exact ⟨f, q1.sub hss, q2⟩) _
        (repeat (first | refine bindP_mk (by simp (disch := first | omega | exact Int.natCast_nonneg _ | assumption) only [BB, B2, ↓reduceIte, Nat.reduceLeDiff, Nat.reduceAdd, CC, nilCk_at, hb6, b2, hlk6, nth0, nth1] <;> rfl) ?_ | refine newP_mk ?_ | refine optP_mk ?_ | with_reducible first | refine condP_t ?_ | refine condP_f ?_ | refine ifP_tt' ?_ | refine ifP_ff' ?_ | refine ifP_tf' ?_ | refine ifP_ft' ?_ | refine ifP_u' ?_ | refine optP_mk0 ?_))
        cases hct : ctd g (k : Int) with
        | false =>
          simp only [Bool.false_eq_true, if_false, Option.isSome_none, Bool.not_false]
          (repeat (first | refine bindP_mk (by simp (disch := first | omega | exact Int.natCast_nonneg _ | assumption) only [BB, B2, ↓reduceIte, Nat.reduceLeDiff, Nat.reduceAdd, CC] <;> rfl) ?_ | refine newP_mk ?_ | refine optP_mk ?_ | with_reducible first | refine condP_t ?_ | refine condP_f ?_ | refine ifP_tt' ?_ | refine ifP_ff' ?_ | refine ifP_tf' ?_ | refine ifP_ft' ?_ | refine ifP_u' ?_ | refine optP_mk0 ?_))
          refine hj2 _ _ _ ov (by omega) hss (q4.mono (by omega)) e0 e1 e4 e7 e19 e20 e21 q1 hg16 hg26 ?_
          rw [hls, opsZ_snoc, if_neg (by rw [hct]; decide)]; exact hov6
        | true =>
          simp only [if_true, Option.isSome_some, Bool.not_true]
          (repeat (first | refine bindP_mk (by simp (disch := first | omega | exact Int.natCast_nonneg _ | assumption) only [BB, B2, ↓reduceIte, Nat.reduceLeDiff, Nat.reduceAdd, CC, nilCk_at, hb6, b265, hly6] <;> rfl) ?_ | refine newP_mk ?_ | refine optP_mk ?_ | with_reducible first | refine condP_t ?_ | refine condP_f ?_ | refine ifP_tt' ?_ | refine ifP_ff' ?_ | refine ifP_tf' ?_ | refine ifP_ft' ?_ | refine ifP_u' ?_ | refine optP_mk0 ?_))
          cases hsk : st k with
          | true =>
            rw [hsk] at hly6
            (repeat (first | refine bindP_mk (by simp (disch := first | omega | exact Int.natCast_nonneg _ | assumption) only [BB, B2, ↓reduceIte, Nat.reduceLeDiff, Nat.reduceAdd, CC] <;> rfl) ?_ | refine newP_mk ?_ | refine optP_mk ?_ | with_reducible first | refine condP_t ?_ | refine condP_f ?_ | refine ifP_tt' ?_ | refine ifP_ff' ?_ | refine ifP_tf' ?_ | refine ifP_ft' ?_ | refine ifP_u' ?_ | refine optP_mk0 ?_))
            exact fin3 _ _ h6 w (by omega) (by rw [hek]; rfl) e0 e1 e4 e7 rfl e19 e20 e21 q1 rfl hss (q4.mono (by omega)) hg16 hg26 hov6 (by rw [hsk]; rfl) hct hls
          | false =>
            rw [hsk] at hly6
            (repeat (first | refine bindP_mk (by simp (disch := first | omega | exact Int.natCast_nonneg _ | assumption) only [BB, B2, ↓reduceIte, Nat.reduceLeDiff, Nat.reduceAdd, CC] <;> rfl) ?_ | refine newP_mk ?_ | refine optP_mk ?_ | with_reducible first | refine condP_t ?_ | refine condP_f ?_ | refine ifP_tt' ?_ | refine ifP_ff' ?_ | refine ifP_tf' ?_ | refine ifP_ft' ?_ | refine ifP_u' ?_ | refine optP_mk0 ?_))
            exact fin3 _ _ h6 w (by omega) (by rw [hek]; rfl) e0 e1 e4 e7 rfl e19 e20 e21 q1 rfl hss (q4.mono (by omega)) hg16 hg26 hov6 (by rw [hsk]; rfl) hct hls
      | false =>
        rw [hek] at htk hle3
        rw [Bool.false_or] at htk
        cases hsk : st k with
        | false =>
          rw [hsk] at htk hly3
          rw [htk, if_neg (by decide)] at hls
          (repeat (first | refine bindP_mk (by simp (disch := first | omega | exact Int.natCast_nonneg _ | assumption) only [BB, B2, ↓reduceIte, Nat.reduceLeDiff, Nat.reduceAdd, CC, nilCk_at, hb3, b264, b265, hle3, hly3] <;> rfl) ?_ | refine newP_mk ?_ | refine optP_mk ?_ | with_reducible first | refine condP_t ?_ | refine condP_f ?_ | refine ifP_tt' ?_ | refine ifP_ff' ?_ | refine ifP_tf' ?_ | refine ifP_ft' ?_ | refine ifP_u' ?_ | refine optP_mk0 ?_))
          refine hj2 _ _ _ ov (by omega) hs03 (hf3.mono (by omega)) e0 e1 e4 e7 e19 e20 e21 ?_ g13 g23 ?_
          · rw [hls]; exact ho3
          · rw [hls]; exact hov3
        | true =>
          rw [hsk] at htk hly3
          rw [htk, if_pos rfl] at hls
          (repeat (first | refine bindP_mk (by simp (disch := first | omega | exact Int.natCast_nonneg _ | assumption) only [BB, B2, ↓reduceIte, Nat.reduceLeDiff, Nat.reduceAdd, CC, nilCk_at, hb3, b264, b265, hle3, hly3] <;> rfl) ?_ | refine newP_mk ?_ | refine optP_mk ?_ | with_reducible first | refine condP_t ?_ | refine condP_f ?_ | refine ifP_tt' ?_ | refine ifP_ff' ?_ | refine ifP_tf' ?_ | refine ifP_ft' ?_ | refine ifP_u' ?_ | refine optP_mk0 ?_))
          refine app_int ho3 (by omega) (hf3.mono (show nx' + 4 + 1 ≤ n4 by omega)) (by omega) (by omega) (by omega) fun h6 w q1 q2 q3 q4 => ?_
          dsimp only
          rw [← hls] at q1
          have hkp : ∀ i o, h3.get i = some o → (∀ c f, o ≠ .cells c y_int f) → h6.get i = some o := fun i o hi hty => q3 i o hi fun e => by
            obtain ⟨_, z1⟩ := ho3.blk e
            rw [hi] at z1
            exact hty _ _ (Option.some.inj z1)
          have hb6 := hkp _ _ hb3 (by intro c f e; simp only [Obj.cells.injEq] at e; exact absurd e.2.1 (by decide))
          have hg16 := hkp _ _ g13 (by intro c f e; simp only [Obj.cells.injEq] at e; exact absurd e.2.1 (by decide))
          have hg26 := hkp _ _ g23 (by intro c f e; simp only [Obj.cells.injEq] at e; exact absurd e.2.1 (by decide))
          have hov6 : OwnT h6 ov 1 y_uint8 (opsC (opsZ g en st L)) nx := hov3.keep q3 fun id hid => by
            obtain ⟨_, z1⟩ := hov3.blk hid
            exact ho3.ne z1 (by decide)
          have hss : Sub h h6 := ho3.sub q3 hf (Nat.le_refl _) hs03
          have hB6 := hB.sub hss
          obtain ⟨fn6, m61, m62⟩ := hB6.num
          have hlk6 := look_ii m61 (k : Int)
          rw [m62 _ (by omega)] at hlk6
          have hly6 : lookV Try.prog h6 y_map_int_bool (.map (some yid)) (.int .i64 (k : Int)) false = some (.bool (st k)) := BMap.look (by obtain ⟨f, q1, q2⟩ := hst; exact ⟨f, q1.sub hss, q2⟩) _
          rw [hsk] at hly6
          (repeat (first | refine bindP_mk (by simp (disch := first | omega | exact Int.natCast_nonneg _ | assumption) only [BB, B2, ↓reduceIte, Nat.reduceLeDiff, Nat.reduceAdd, CC, nilCk_at, hb6, b2, hlk6, nth0, nth1] <;> rfl) ?_ | refine newP_mk ?_ | refine optP_mk ?_ | with_reducible first | refine condP_t ?_ | refine condP_f ?_ | refine ifP_tt' ?_ | refine ifP_ff' ?_ | refine ifP_tf' ?_ | refine ifP_ft' ?_ | refine ifP_u' ?_ | refine optP_mk0 ?_))
          cases hct : ctd g (k : Int) with
          | false =>
            simp only [Bool.false_eq_true, if_false, Option.isSome_none, Bool.not_false]
            (repeat (first | refine bindP_mk (by simp (disch := first | omega | exact Int.natCast_nonneg _ | assumption) only [BB, B2, ↓reduceIte, Nat.reduceLeDiff, Nat.reduceAdd, CC] <;> rfl) ?_ | refine newP_mk ?_ | refine optP_mk ?_ | with_reducible first | refine condP_t ?_ | refine condP_f ?_ | refine ifP_tt' ?_ | refine ifP_ff' ?_ | refine ifP_tf' ?_ | refine ifP_ft' ?_ | refine ifP_u' ?_ | refine optP_mk0 ?_))
            refine hj2 _ _ _ ov (by omega) hss (q4.mono (by omega)) e0 e1 e4 e7 e19 e20 e21 q1 hg16 hg26 ?_
            rw [hls, opsZ_snoc, if_neg (by rw [hct]; decide)]; exact hov6
          | true =>
            simp only [if_true, Option.isSome_some, Bool.not_true]
            (repeat (first | refine bindP_mk (by simp (disch := first | omega | exact Int.natCast_nonneg _ | assumption) only [BB, B2, ↓reduceIte, Nat.reduceLeDiff, Nat.reduceAdd, CC, nilCk_at, hb6, b265, hly6] <;> rfl) ?_ | refine newP_mk ?_ | refine optP_mk ?_ | with_reducible first | refine condP_t ?_ | refine condP_f ?_ | refine ifP_tt' ?_ | refine ifP_ff' ?_ | refine ifP_tf' ?_ | refine ifP_ft' ?_ | refine ifP_u' ?_ | refine optP_mk0 ?_))
            exact fin3 _ _ h6 w (by omega) (by rw [hek, hsk]; rfl) e0 e1 e4 e7 rfl e19 e20 e21 q1 rfl hss (q4.mono (by omega)) hg16 hg26 hov6 (by rw [hsk]; rfl) hct hls
  · (repeat (first | refine bindP_mk (by simp (disch := first | omega | exact Int.natCast_nonneg _ | assumption) only [BB, B2, ↓reduceIte, Nat.reduceLeDiff, Nat.reduceAdd, CC] <;> rfl) ?_ | refine newP_mk ?_ | refine optP_mk ?_ | with_reducible first | refine condP_t ?_ | refine condP_f ?_ | refine ifP_tt' ?_ | refine ifP_ff' ?_ | refine ifP_tf' ?_ | refine ifP_ft' ?_ | refine ifP_u' ?_ | refine optP_mk0 ?_))
    refine hx _ _ _ _ (fun e => by cases e) (exP_e (beqP_t ?_))
    have hkl : k = g.p.length := by omega
    subst hkl
    have hlz : (placesZ g.p.length).filter (takesZ g en st b) = lZ g en st b := rfl
    rw [hlz] at ho hov
    have hlr := lZ_rz g en st b
    have hll := lZ_len g en st b
    have fin : ∀ (e' : Env) n', e' 0 = ptr bid → e' 4 = ptr nx → e' 7 = ptr (nx + 4) → OwnT h' (e' 6) 1 y_int (intsZ (lZ g en st b)) nx → nx' ≤ n' → auto_builder_goes_j1 ro K e' h' n' := by
      intro e' n' f0 f4 f7 ho hn'
      unfold auto_builder_goes_j1
      rw [f0, f4, f7]
      generalize e' 6 = lv at ho
      have hln := (ho.sl (ro := ro)).len
      rw [intsZ_len] at hln
      refine bindP_mk hln ?_
      refine eql_s (fun u1 => ?_) (fun u1 => ?_)
      · have hnil : lZ g en st b = [] := eq_len u1
        rw [goesZ_nil hnil] at hK
        rw [hnil] at hov
        have hovk := hov.ok
        refine condP_t (bindP_mk (loadA_all (l := [.int .i64 (-1), ov]) g2 rfl) ?_)
        refine bindP_mk (storeA_own (l := [.int .i64 0, nilS]) (vs := [.int .i64 (-1), ov]) g1 rfl rfl rfl (by simp only [List.all_cons, List.all_nil, hovk]; rfl)) ?_
        refine bindP_mk (loadA_all (l := [.int .i64 (-1), ov]) (by rw [T.get_upd_same]) rfl) ?_
        refine ⟨_, Sub.refl _, ?_⟩
        have hss : Sub h (h'.upd nx (some (.cells [Value.int .i64 (-1), ov].toArray y_api_Move))) := hs'.new hf (Nat.le_refl _)
        exact hK _ _ sid cs ov (by omega) ((hf'.mono (show nx' ≤ n' + 6 by omega)).upd (Nat.le_refl _) (by omega)) hss.keepL (.inl rfl) (hB.sub hss) Grow.refl (hov.updNe g1 (by decide))
      · have hnn : lZ g en st b ≠ [] := fun e => u1 (by rw [e]; rfl)
        rw [goesZ_ne hnn] at hK
        refine condP_f ?_
        refine auto_find_c hg hlr (by omega) hnn (hf'.mono (show nx' ≤ n' + 7 by omega)) hB' ho (show nx ≤ n' + 7 by omega) l1 fun h3 n3 sid' cs' r1 r2 r3 r4 r5 r6 => ?_
        have k1 := r3 _ _ g1 (by simp; omega)
        have k2 := r3 _ _ g2 (by simp; omega)
        have hovk := hov.ok
        have hov3 : OwnT h3 ov 1 y_uint8 (opsC (opsZ g en st (lZ g en st b))) nx := hov.keepK r3 fun id hid => by
          have := (hov.blk hid).1
          simp; omega
        (repeat (first | refine bindP_mk (by simp (disch := first | omega | exact Int.natCast_nonneg _ | assumption) only [BB, B2, ↓reduceIte, Nat.reduceLeDiff, Nat.reduceAdd, CC, nth0, nth1] <;> rfl) ?_ | refine newP_mk ?_ | refine optP_mk ?_ | with_reducible first | refine condP_t ?_ | refine condP_f ?_ | refine ifP_tt' ?_ | refine ifP_ff' ?_ | refine ifP_tf' ?_ | refine ifP_ft' ?_ | refine ifP_u' ?_ | refine optP_mk0 ?_))
        refine bindP_mk (store1_own (l := [.int .i64 (-1), ov]) k2 (by show 0 < 2; omega) rfl rfl) ?_
        refine bindP_mk (loadA_all (l := [.int .i64 (findZ g S (lZ g en st b)).1, ov]) (by rw [T.get_upd_same]; rfl) rfl) ?_
        refine bindP_mk (storeA_own (l := [.int .i64 0, nilS]) (vs := [.int .i64 (findZ g S (lZ g en st b)).1, ov]) (by rw [T.get_upd_ne _ _ (by omega)]; exact k1) rfl rfl rfl (by simp only [List.all_cons, List.all_nil, hovk]; rfl)) ?_
        refine bindP_mk (loadA_all (l := [.int .i64 (findZ g S (lZ g en st b)).1, ov]) (by rw [T.get_upd_same]) rfl) ?_
        refine ⟨_, Sub.refl _, ?_⟩
        have k1' : (h3.upd (nx + 4) (some (.cells (([Value.int .i64 (-1), ov].set 0 (.int .i64 (findZ g S (lZ g en st b)).1)).toArray) y_api_Move))).get nx = _ := (T.get_upd_ne _ _ (by omega)).trans k1
        refine hK _ _ sid' cs' ov (by omega) (((r2.mono (show n3 ≤ n3 + 10 by omega)).upd (Nat.le_refl _) (by omega)).upd (Nat.le_refl _) (by omega)) ?_ (by omega) ?_ ?_ ?_
        · refine Keep.updN (Keep.updN ?_ hf (by omega)) hf (Nat.le_refl _)
          exact fun i o hi hn => r3 i o (hs' _ _ hi) hn
        · refine r5.keepN fun i o hi hd => ?_
          obtain ⟨z1, z2, z3, z4⟩ := r5.lt r2
          have : i ≠ nx ∧ i ≠ nx + 4 := by
            have hii := r5.ids
            rcases hd with rfl | rfl | rfl | rfl
            · omega
            · omega
            · omega
            · refine ⟨?_, ?_⟩ <;> intro e <;> subst e
              · rw [k1] at hi
                have := r5.row
                rw [k1] at this
                simp only [Option.some.injEq, Obj.cells.injEq] at this
                exact absurd this.2.1 (by decide)
              · have := r5.row
                rw [k2] at this
                simp only [Option.some.injEq, Obj.cells.injEq] at this
                exact absurd this.2.1 (by decide)
          rw [T.get_upd_ne _ _ this.1, T.get_upd_ne _ _ this.2]; exact hi
        · exact (r6.updNe k2 (by decide)).updNe k1' (by decide)
        · exact (hov3.updNe k2 (by decide)).updNe k1' (by decide)
    exact fin _ _ e0 e4 e7 ho (by omega)
end V
end Go.Proofs.Ytmmdcdjkmakgpaa
set_option linter.unusedVariables false
set_option linter.unusedSimpArgs false
namespace Go.Proofs.Ytmmdcdjkmakgpaa
namespace V
open PA
attribute [local irreducible] bindP ifP condP newP optP exP beqP
theorem flat4_get : ∀ {cs : List (List Value)} {k j : Nat} {x : List Value}, (∀ x ∈ cs, x.length = 4) → cs[k]? = some x → j < 4 → cs.flatten[k * 4 + j]? = x[j]?
  | [], k, j, x, _, hx, _ => by simp at hx
  | y :: r, 0, j, x, hz, hx, hj => by
    simp at hx; subst hx
    have hy := hz y (by simp)
    rw [Nat.zero_mul, Nat.zero_add, List.flatten_cons, List.getElem?_append_left (by omega)]
  | y :: r, k + 1, j, x, hz, hx, hj => by
    have hy := hz y (by simp)
    have ih := flat4_get (cs := r) (k := k) (j := j) (x := x) (fun z hz' => hz z (by simp [hz'])) (by simpa using hx) hj
    rw [List.flatten_cons, List.getElem?_append_right (by omega), show (k + 1) * 4 + j - y.length = k * 4 + j by omega]
    exact ih
theorem flat4_set : ∀ {cs : List (List Value)} {k j : Nat} {x : List Value} (w : Value), (∀ x ∈ cs, x.length = 4) → cs[k]? = some x → j < 4 → cs.flatten.set (k * 4 + j) w = (cs.set k (x.set j w)).flatten
  | [], k, j, x, w, _, hx, _ => by simp at hx
  | y :: r, 0, j, x, w, hz, hx, hj => by
    simp at hx; subst hx
    have hy := hz y (by simp)
    rw [Nat.zero_mul, Nat.zero_add, List.flatten_cons, List.set_append_left _ _ (by omega)]; rfl
  | y :: r, k + 1, j, x, w, hz, hx, hj => by
    have hy := hz y (by simp)
    have ih := flat4_set (cs := r) (k := k) (j := j) (x := x) w (fun z hz' => hz z (by simp [hz'])) (by simpa using hx) hj
    rw [List.flatten_cons, List.set_append_right _ _ (by omega), show (k + 1) * 4 + j - y.length = k * 4 + j by omega, ih]; rfl
theorem flat4_len {cs : List (List Value)} (hz : ∀ x ∈ cs, x.length = 4) : cs.flatten.length = cs.length * 4 := (flatten_part hz).1
theorem set_z4 {cs : List (List Value)} {k : Nat} {y : List Value} (hz : ∀ x ∈ cs, x.length = 4) (hy : y.length = 4) : ∀ x ∈ cs.set k y, x.length = 4 := fun x hx => by
  rcases List.mem_or_eq_of_mem_set hx with h | h
  · exact hz x h
  · rw [h]; exact hy
theorem lit_row (aid : Nat) (a : Value) (ha : a.cells = #[a]) : sliceLitV Try.prog y_s_s_api_Move aid 1 [(0, a)] = some (.slice (some (own aid 1)) 1 1, some (.cells [a].toArray y_s_api_Move)) := by
  have hu : und Try.prog y_s_s_api_Move = some (.slice y_s_api_Move) := by kernel_rfl
  have hs : siz Try.prog y_s_api_Move = some 1 := by kernel_rfl
  have hz : zrow Try.prog y_s_api_Move 1 = some [nilS] := by kernel_rfl
  unfold sliceLitV
  simp only [hu, hs, hz, Option.bind_some]
  have hb : Nat.ble (1 * 1) 16777216 = true := by decide
  simp only [hb, fillV, ha]
  rfl
theorem und_rows : und Try.prog y_s_s_api_Move = some (.slice y_s_api_Move) := by kernel_rfl
theorem tin_row1 : ∃ i, tin Try.prog y_s_api_Move = some i ∧ i.size = 1 ∧ i.bytes = 24 := tinOf (by kernel_rfl)
theorem zer_row1 : zer Try.prog y_s_api_Move = some nilS := by kernel_rfl
def onesC (l : List Value) : List (List Value) := l.map fun v => [v]
theorem onesC_len (l : List Value) : (onesC l).length = l.length := by simp [onesC]
theorem app_row {ro : Ro} {h : T Obj} {v a : Value} {nx n1 n2 lo : Nat} {l : List Value} {K : Value × Option Obj → T Obj → Value × T Obj × Nat → Prop} (ha : cellOk a = true) (ho : OwnT h v 1 y_s_api_Move (onesC l) lo) (hl : l.length ≤ 1000000) (hf : Fr h nx) (hlo : lo ≤ nx) (hn1 : nx ≤ n1) (hn2 : n1 < n2)
    (hK : ∀ h' w, OwnT h' w 1 y_s_api_Move (onesC (l ++ [a])) lo → w = .slice (some (own n2 1)) (l.length + 1) (l.length + 1) → Kp v h h' → Fr h' (n2 + 1) → K (.slice (some (own n1 1)) 1 1, some (.cells [a].toArray y_s_api_Move)) (h.upd n1 (some (.cells [a].toArray y_s_api_Move))) (w, h', n2 + 1)) :
    bindP (sliceLitV Try.prog y_s_s_api_Move n1 1 [(0, a)]) fun r => optP h n1 r.2 fun h' => bindP (appendV Try.prog ro h' n2 #[y_s_s_api_Move, y_s_s_api_Move] [v, r.1]) (K r h') := by
  obtain ⟨i, g1, g2, g3⟩ := tin_row1
  have e : onesC l ++ [[a]] = onesC (l ++ [a]) := by simp [onesC]
  have el := onesC_len l
  refine append_lit (z := 1) (l := onesC l) (y := [a]) (lit_row _ _ (cells_of_ok ha)) rfl ho und_rows g1 g2 (by omega) zer_row1 rfl (by simp [ha]) (by rw [el, g3]; unfold big; omega) (by rw [el]; unfold big; omega) hf hlo hn1 hn2 fun h' q1 q2 q3 => ?_
  rw [e] at q1 ⊢
  refine hK h' _ q1 ?_ q2 q3
  rw [onesC_len, List.length_append]; rfl
theorem OwnT.lo {h : T Obj} {v : Value} {z lo lo' id len : Nat} {e : TypeId} {l : List (List Value)} (ho : OwnT h v z e l lo) (hv : v = .slice (some (own id z)) len len) (hid : lo' ≤ id) : OwnT h v z e l lo' := by
  rcases ho with ⟨rfl, _⟩ | ⟨i, h1, rfl, h4, h5⟩
  · cases hv
  · refine .inr ⟨i, ?_, rfl, h4, h5⟩
    have : i = id := by
      simp only [Value.slice.injEq, Option.some.injEq, own, Addr.mk.injEq] at hv
      exact hv.1.1
    omega
theorem OwnT.neB {h : T Obj} {v : Value} {z : Nat} {e : TypeId} {l : List (List Value)} {lo k : Nat} {o : Obj} (ho : OwnT h v z e l lo) (hk : h.get k = some o) (he : ∀ c f, o ≠ .cells c e f) : sblk v ≠ some k := fun hb => by
  obtain ⟨_, h5⟩ := ho.blk hb
  rw [hk] at h5
  exact he _ _ (Option.some.inj h5)
theorem elPtr_own (id len cap k : Nat) : elPtr 4 (.slice (some (own id 4)) len cap) k = at_ id (k * 4) 0 := by simp [elPtr, elt, own]
theorem ixSl_own' {id z len cap k : Nat} (hk : k < len) : ixSl z (.slice (some (own id z)) len cap) (.int .i64 (k : Int)) = some (at_ id (k * z) 0) := by
  have hn : natV (.int .i64 (k : Int)) = some k := by simp [natV]
  have hb : Nat.blt k len = true := by simp [Nat.blt]; omega
  unfold ixSl
  rw [hn]
  simp only [Option.bind_some, hb, own, Nat.beq_refl]
  simp [elt]
set_option maxRecDepth 8000 in
set_option maxHeartbeats 2000000 in
theorem code_j3_c {ro : Ro} {g : GlD} {bid nid kid eid yid sid k : Nat} {av bv fv cv lv rv uv wv rowv : Value} {c : List Nat} {n rule : Int} {S : List StateD} {cs : List (List Value)} {R : List Int} {ws : List Value} {e : Env}
    {h : T Obj} {nx : Nat} {K : KV} (hf : Fr h nx) (hB : Bd h g bid nid kid eid yid sid av bv fv c n cv S cs) (hx : cs[k]? = some [lv, rv, uv, wv]) (hu : OwnT h uv 1 y_int (intsZ R) 0) (hw : OwnT h wv 1 y_s_api_Move (onesC ws) 0) (hR : R.length ≤ 1000000) (hws : ws.length ≤ 1000000) (hrow : cellOk rowv = true)
    (e0 : e 0 = ptr bid) (e1 : e 1 = .int .i64 (k : Int)) (e9 : e 9 = .int .i64 rule) (e19 : e 19 = rowv)
    (hK : ∀ h' nx' uv' wv', nx ≤ nx' → Fr h' nx' → Keep (sid :: ((sblk uv).toList ++ (sblk wv).toList)) h h' → Bd h' g bid nid kid eid yid sid av bv fv c n cv S (cs.set k [lv, rv, uv', wv']) → OwnT h' uv' 1 y_int (intsZ (R ++ [rule])) nx → OwnT h' wv' 1 y_s_api_Move (onesC (ws ++ [rowv])) nx → K (.int .i64 0) h' nx') :
    auto_builder_code_j3 ro K e h nx := by
  unfold auto_builder_code_j3
  rw [e0, e1, e9, e19]
  have hb := hB.blk
  have b262 := bldL_262 (av := av) (bv := bv) (nv := .map (some nid)) (fv := fv) (n := n) (cv := cv) (sv := .slice (some (own sid 4)) cs.length cs.length) (kv := .map (some kid)) (ev := .map (some eid)) (yv := .map (some yid)) hB.hc
  have hkl : k < cs.length := (List.getElem?_eq_some_iff.1 hx).1
  have hix := ixSl_own' (id := sid) (z := 4) (cap := cs.length) hkl
  have hrg := hB.row
  have q2 := flat4_get (j := 2) hB.z4 hx (by omega)
  have q3 := flat4_get (j := 3) hB.z4 hx (by omega)
  have q2 : cs.flatten[k * 4 + 2]? = some uv := q2
  have q3 : cs.flatten[k * 4 + 3]? = some wv := q3
  obtain ⟨i1, i2, i3, i4, i5⟩ := hB.ids
  obtain ⟨l1, l2, l3, l4⟩ := hB.lt hf
  obtain ⟨f1, m1, m2⟩ := hB.num
  obtain ⟨es1, c1, ps1, m3, m4, m5⟩ := m1
  obtain ⟨f2, k1, k2⟩ := hB.known
  obtain ⟨es2, c2, ps2, k3, k4, k5⟩ := k1
  have hfl := flat4_len hB.z4
  (repeat (first | refine bindP_mk (by simp (disch := first | omega | exact Int.natCast_nonneg _ | assumption) only [BB, B2, ↓reduceIte, Nat.reduceLeDiff, Nat.reduceAdd, CC, nilCk_at, hb, b262, hix, hrg, q2] <;> rfl) ?_ | refine newP_mk ?_ | refine optP_mk ?_ | with_reducible first | refine condP_t ?_ | refine condP_f ?_ | refine ifP_tt' ?_ | refine ifP_ff' ?_ | refine ifP_tf' ?_ | refine ifP_ft' ?_ | refine ifP_u' ?_ | refine optP_mk0 ?_))
  refine app_int hu hR hf (Nat.zero_le _) (by omega) (by omega) fun h1 w1 r1 r2 r3 r4 => ?_
  dsimp only
  have ub := hu.neB hb (by intro c f e; simp only [Obj.cells.injEq] at e; exact absurd e.2.1 (by decide))
  have ur := hu.neB hrg (by intro c f e; simp only [Obj.cells.injEq] at e; exact absurd e.2.1 (by decide))
  have un := hu.neB m3 (by intro c f e; cases e)
  have uk := hu.neB k3 (by intro c f e; cases e)
  have wb := hw.neB hb (by intro c f e; simp only [Obj.cells.injEq] at e; exact absurd e.2.1 (by decide))
  have wr := hw.neB hrg (by intro c f e; simp only [Obj.cells.injEq] at e; exact absurd e.2.1 (by decide))
  have wn := hw.neB m3 (by intro c f e; cases e)
  have wk := hw.neB k3 (by intro c f e; cases e)
  have hb1 := r3 _ _ hb ub
  have hr1 := r3 _ _ hrg ur
  have hn1 := r3 _ _ m3 un
  have hk1 := r3 _ _ k3 uk
  have hw1 : OwnT h1 wv 1 y_s_api_Move (onesC ws) 0 := hw.keep r3 fun id hid => by
    obtain ⟨_, z1⟩ := hw.blk hid
    exact hu.neB z1 (by intro c f e; simp only [Obj.cells.injEq] at e; exact absurd e.2.1 (by decide))
  have r1 := r1.lo (lo' := nx) r2 (by omega)
  refine ⟨sameV_own (o := .cells (bldL av bv (.map (some nid)) fv c n cv (.slice (some (own sid 4)) cs.length cs.length) (.map (some kid)) (.map (some eid)) (.map (some yid))).toArray y_auto_builder) (by rw [T.get_upd_ne _ _ (by omega)]; exact hb) hb1, ?_⟩
  have hw1ok : cellOk w1 = true := r1.ok
  (repeat (first | refine bindP_mk (by simp (disch := first | omega | exact Int.natCast_nonneg _ | assumption) only [BB, B2, ↓reduceIte, Nat.reduceLeDiff, Nat.reduceAdd, CC, hix] <;> rfl) ?_ | refine newP_mk ?_ | refine optP_mk ?_ | with_reducible first | refine condP_t ?_ | refine condP_f ?_ | refine ifP_tt' ?_ | refine ifP_ff' ?_ | refine ifP_tf' ?_ | refine ifP_ft' ?_ | refine ifP_u' ?_ | refine optP_mk0 ?_))
  refine bindP_mk (store1_own (l := cs.flatten) hr1 (by omega) hw1ok (cells_of_ok hw1ok)) ?_
  rw [flat4_set w1 hB.z4 hx (by omega)]
  have hcs1 : cs.set k ([lv, rv, uv, wv].set 2 w1) = cs.set k [lv, rv, w1, wv] := rfl
  rw [hcs1]
  have hz1 : ∀ x ∈ cs.set k [lv, rv, w1, wv], x.length = 4 := set_z4 hB.z4 rfl
  have hx1 : (cs.set k [lv, rv, w1, wv])[k]? = some [lv, rv, w1, wv] := by rw [List.getElem?_set_self hkl]
  have q31 := flat4_get (j := 3) hz1 hx1 (by omega)
  have q31 : (cs.set k [lv, rv, w1, wv]).flatten[k * 4 + 3]? = some wv := q31
  have hsub : ∀ i o, h1.get i = some o → i ≠ sid → (h1.upd sid (some (.cells (cs.set k [lv, rv, w1, wv]).flatten.toArray y_api_State))).get i = some o := fun i o hi hne => by rw [T.get_upd_ne _ _ hne]; exact hi
  have hb2 := hsub _ _ hb1 i1
  have hn2 := hsub _ _ hn1 i5.symm
  have hk2 := hsub _ _ hk1 i4.symm
  have hr2 : (h1.upd sid (some (.cells (cs.set k [lv, rv, w1, wv]).flatten.toArray y_api_State))).get sid = some (.cells (cs.set k [lv, rv, w1, wv]).flatten.toArray y_api_State) := T.get_upd_same _ _ _
  have hw2 : OwnT (h1.upd sid (some (.cells (cs.set k [lv, rv, w1, wv]).flatten.toArray y_api_State))) wv 1 y_s_api_Move (onesC ws) 0 := hw1.updNe hr1 (by decide)
  have hu2 : OwnT (h1.upd sid (some (.cells (cs.set k [lv, rv, w1, wv]).flatten.toArray y_api_State))) w1 1 y_int (intsZ (R ++ [rule])) nx := r1.updNe hr1 (by decide)
  have hkp2 : Keep (sid :: ((sblk uv).toList ++ (sblk wv).toList)) h (h1.upd sid (some (.cells (cs.set k [lv, rv, w1, wv]).flatten.toArray y_api_State))) := (r3.keepL fun id hid => by simp [hid]).upd (by simp)
  have hf2 : Fr (h1.upd sid (some (.cells (cs.set k [lv, rv, w1, wv]).flatten.toArray y_api_State))) (nx + 21 + 1) := r4.upd (Nat.le_refl _) (by omega)
  generalize h1.upd sid (some (.cells (cs.set k [lv, rv, w1, wv]).flatten.toArray y_api_State)) = h2 at hsub hb2 hn2 hk2 hr2 hw2 hu2 hkp2 hf2
  (repeat (first | refine bindP_mk (by simp (disch := first | omega | exact Int.natCast_nonneg _ | assumption) only [BB, B2, ↓reduceIte, Nat.reduceLeDiff, Nat.reduceAdd, CC, nilCk_at, hb2, b262, hix, hr2, q31] <;> rfl) ?_ | refine newP_mk ?_ | refine optP_mk ?_ | with_reducible first | refine condP_t ?_ | refine condP_f ?_ | refine ifP_tt' ?_ | refine ifP_ff' ?_ | refine ifP_tf' ?_ | refine ifP_ft' ?_ | refine ifP_u' ?_ | refine optP_mk0 ?_))
  refine app_row hrow hw2 hws hf2 (Nat.zero_le _) (by omega) (by omega) fun h3 w3 s1 s2 s3 s4 => ?_
  dsimp only
  have hwb2 : ∀ i o, h2.get i = some o → (∀ c f, o ≠ .cells c y_s_api_Move f) → h3.get i = some o := fun i o hi hty => s3 i o hi (hw2.neB hi hty)
  have hb3 := hwb2 _ _ hb2 (by intro c f e; simp only [Obj.cells.injEq] at e; exact absurd e.2.1 (by decide))
  have hr3 := hwb2 _ _ hr2 (by intro c f e; simp only [Obj.cells.injEq] at e; exact absurd e.2.1 (by decide))
  have hn3 := hwb2 _ _ hn2 (by intro c f e; cases e)
  have hk3 := hwb2 _ _ hk2 (by intro c f e; cases e)
  have hu3 : OwnT h3 w1 1 y_int (intsZ (R ++ [rule])) nx := hu2.keep s3 fun id hid => by
    obtain ⟨_, z1⟩ := hu2.blk hid
    exact hw2.neB z1 (by intro c f e; simp only [Obj.cells.injEq] at e; exact absurd e.2.1 (by decide))
  have s1 := s1.lo (lo' := nx) s2 (by omega)
  refine ⟨sameV_own (o := .cells (bldL av bv (.map (some nid)) fv c n cv (.slice (some (own sid 4)) cs.length cs.length) (.map (some kid)) (.map (some eid)) (.map (some yid))).toArray y_auto_builder) (by rw [T.get_upd_ne _ _ (by omega)]; exact hb2) hb3, ?_⟩
  have hw3ok : cellOk w3 = true := s1.ok
  (repeat (first | refine bindP_mk (by simp (disch := first | omega | exact Int.natCast_nonneg _ | assumption) only [BB, B2, ↓reduceIte, Nat.reduceLeDiff, Nat.reduceAdd, CC, hix] <;> rfl) ?_ | refine newP_mk ?_ | refine optP_mk ?_ | with_reducible first | refine condP_t ?_ | refine condP_f ?_ | refine ifP_tt' ?_ | refine ifP_ff' ?_ | refine ifP_tf' ?_ | refine ifP_ft' ?_ | refine ifP_u' ?_ | refine optP_mk0 ?_))
  have hl1 : (cs.set k [lv, rv, w1, wv]).flatten.length = cs.length * 4 := by rw [flat4_len hz1, List.length_set]
  refine bindP_mk (store1_own (l := (cs.set k [lv, rv, w1, wv]).flatten) hr3 (by omega) hw3ok (cells_of_ok hw3ok)) ?_
  rw [flat4_set w3 hz1 hx1 (by omega)]
  have hcs2 : (cs.set k [lv, rv, w1, wv]).set k ([lv, rv, w1, wv].set 3 w3) = cs.set k [lv, rv, w1, w3] := by rw [List.set_set]; rfl
  rw [hcs2]
  refine ⟨_, Sub.refl _, hK _ _ w1 w3 (by omega) ((s4.mono (show _ ≤ nx + 21 + 1 + 21 + 1 + 1 by omega)).upd (Nat.le_refl _) (by omega)) ?_ ⟨hB.hc, ?_, ⟨f1, ⟨es1, c1, ps1, ?_, m4, m5⟩, m2⟩, ⟨f2, ⟨es2, c2, ps2, ?_, k4, k5⟩, k2⟩, ?_, set_z4 hB.z4 rfl, ?_, hB.few, hB.pos, hB.nk⟩ ?_ ?_⟩
  · refine Keep.upd (hkp2.trans ?_) (by simp)
    exact s3.keepL fun id hid => by simp [hid]
  · rw [T.get_upd_ne _ _ i1, List.length_set]; exact hb3
  · rw [T.get_upd_ne _ _ i5.symm]; exact hn3
  · rw [T.get_upd_ne _ _ i4.symm]; exact hk3
  · rw [T.get_upd_same]
  · rw [List.length_set]; exact hB.len
  · exact hu3.updNe hr3 (by decide)
  · exact s1.updNe hr3 (by decide)
end V
end Go.Proofs.Ytmmdcdjkmakgpaa
set_option linter.unusedVariables false
set_option linter.unusedSimpArgs false
namespace Go.Proofs.Ytmmdcdjkmakgpaa
namespace V
open PA
attribute [local irreducible] bindP ifP condP newP optP exP beqP
def TyKeep (e : TypeId) (h h' : T Obj) : Prop := ∀ (k : Nat) c f, h.get k = some (.cells c e f) → h'.get k = some (.cells c e f)
theorem TyKeep.refl {e : TypeId} {h : T Obj} : TyKeep e h h := fun _ _ _ hg => hg
theorem TyKeep.trans {e : TypeId} {a b c : T Obj} (h1 : TyKeep e a b) (h2 : TyKeep e b c) : TyKeep e a c := fun k x f hg => h2 k x f (h1 k x f hg)
theorem Sub.ty {e : TypeId} {h h' : T Obj} (hs : Sub h h') : TyKeep e h h' := fun k c f hg => hs _ _ hg
theorem TyKeep.upd {e e' : TypeId} {a h : T Obj} {i : Nat} {o : Option Obj} {c : Array Value} {f : Nat × Nat} (h1 : TyKeep e a h) (hg : h.get i = some (.cells c e' f)) (he : e' ≠ e) : TyKeep e a (h.upd i o) := fun k x q hk => by
  have := h1 k x q hk
  rw [T.get_upd_ne _ _ (by
    rintro rfl
    rw [hg] at this
    simp only [Option.some.injEq, Obj.cells.injEq] at this
    exact he this.2.1)]
  exact this
theorem OwnT.ty {h h' : T Obj} {v : Value} {z : Nat} {e : TypeId} {l : List (List Value)} {lo : Nat} (ho : OwnT h v z e l lo) (hk : TyKeep e h h') : OwnT h' v z e l lo := by
  rcases ho with ho | ⟨id, h1, rfl, h4, h5⟩
  · exact .inl ho
  · exact .inr ⟨id, h1, rfl, h4, hk _ _ _ h5⟩
theorem Kp.ty {h h' : T Obj} {v : Value} {z : Nat} {e e' : TypeId} {l : List (List Value)} {lo : Nat} (hk : Kp v h h') (ho : OwnT h v z e' l lo) (he : e' ≠ e) : TyKeep e h h' := fun k c f hg => hk k _ hg (ho.neB hg (by
  intro c f h
  simp only [Obj.cells.injEq] at h
  exact he h.2.1.symm))
theorem NewSt.ty {h h' : T Obj} {lo : Nat} {x : List Value} {s : StateD} (hn : NewSt h lo x s) (hk : TyKeep y_int h h') : NewSt h' lo x s := by
  obtain ⟨lv, rv, h1, h2, h3, h4⟩ := hn
  exact ⟨lv, rv, h1, h2.ty hk, h3.ty hk, h4⟩
theorem NewSt.mono {h : T Obj} {lo lo' : Nat} {x : List Value} {s : StateD} (hn : NewSt h lo x s) (hl : lo' ≤ lo) : NewSt h lo' x s := by
  obtain ⟨lv, rv, h1, h2, h3, h4⟩ := hn
  exact ⟨lv, rv, h1, h2.mono hl, h3.mono hl, h4⟩
theorem Grow.ty {h h' : T Obj} {lo : Nat} {cs cs' : List (List Value)} {S S' : List StateD} (hn : Grow h lo cs cs' S S') (hk : TyKeep y_int h h') : Grow h' lo cs cs' S S' := by
  obtain ⟨ds, T, h1, h2, h3, h4⟩ := hn
  exact ⟨ds, T, h1, h2, h3, fun i x s hx hs => (h4 i x s hx hs).ty hk⟩
theorem Grow.trans {h : T Obj} {lo lo' : Nat} {cs cs' cs'' : List (List Value)} {S S' S'' : List StateD} (h1 : Grow h lo cs cs' S S') (h2 : Grow h lo' cs' cs'' S' S'') (hl : lo ≤ lo') : Grow h lo cs cs'' S S'' := by
  obtain ⟨ds, T, a1, a2, a3, a4⟩ := h1
  obtain ⟨ds', T', b1, b2, b3, b4⟩ := h2
  refine ⟨ds ++ ds', T ++ T', by rw [b1, a1, List.append_assoc], by rw [b2, a2, List.append_assoc], by simp [a3, b3], fun i x s hx hs => ?_⟩
  rcases Nat.lt_or_ge i ds.length with hi | hi
  · rw [List.getElem?_append_left hi] at hx
    rw [List.getElem?_append_left (by omega)] at hs
    exact a4 i x s hx hs
  · rw [List.getElem?_append_right hi] at hx
    rw [List.getElem?_append_right (by omega), ← a3] at hs
    exact (b4 _ x s hx hs).mono hl
section
variable {h h' a b : T Obj} {g : GlD} {bid nid kid eid yid sid sid' lo : Nat} {av bv fv : Value} {c : List Nat} {n : Int} {cv : Value} {S : List StateD} {cs : List (List Value)}
theorem Bd.tyk (hB : Bd h g bid nid kid eid yid sid av bv fv c n cv S cs) (hk : Keep [bid, kid, sid] h h') {e : TypeId} (he1 : e ≠ y_auto_builder) (he2 : e ≠ y_api_State) : TyKeep e h h' := fun i x f hg => hk _ _ hg (by
  have h1 := hB.blk
  have h2 := hB.row
  obtain ⟨f2, k1, k2⟩ := hB.known
  obtain ⟨es, ec, k3⟩ := k1.obj
  simp only [List.mem_cons, List.not_mem_nil, or_false]
  rintro (rfl | rfl | rfl)
  · rw [hg] at h1
    simp only [Option.some.injEq, Obj.cells.injEq] at h1
    exact he1 h1.2.1
  · rw [hg] at k3; cases k3
  · rw [hg] at h2
    simp only [Option.some.injEq, Obj.cells.injEq] at h2
    exact he2 h2.2.1)
theorem Keep.chain (hf : Fr h lo) (h1 : Keep [bid, kid, sid] h a) (h2 : Keep [bid, kid, sid'] a b) (hs : sid' = sid ∨ lo ≤ sid') : Keep [bid, kid, sid] h b := fun k o hk hn => by
  refine h2 k o (h1 k o hk hn) ?_
  have := hf.lt' hk
  simp only [List.mem_cons, List.not_mem_nil, or_false, not_or] at hn ⊢
  refine ⟨hn.1, hn.2.1, ?_⟩
  rcases hs with rfl | hs
  · exact hn.2.2
  · omega
theorem BMap.keepK {r : Nat} {E : Int → Bool} {ids : List Nat} (hm : BMap h r E) (hk : Keep ids h h') (hn : r ∉ ids) : BMap h' r E := by
  obtain ⟨f, ⟨es, c, ps, h1, h2, h3⟩, h4⟩ := hm
  exact ⟨f, ⟨es, c, ps, hk _ _ h1 hn, h2, h3⟩, h4⟩
end
def RowOwn (h : T Obj) (lo : Nat) (mcs : List (List Value)) (row : List MoveD) : Prop := mcs.length = row.length ∧ ∀ (i : Nat) x m, mcs[i]? = some x → row[i]? = some m → ∃ ov, x = [.int .i64 m.to, ov] ∧ OwnT h ov 1 y_uint8 (opsC m.ops) lo
theorem RowOwn.ty {h h' : T Obj} {lo : Nat} {mcs : List (List Value)} {row : List MoveD} (hr : RowOwn h lo mcs row) (hk : TyKeep y_uint8 h h') : RowOwn h' lo mcs row := ⟨hr.1, fun i x m hx hm => by
  obtain ⟨ov, h1, h2⟩ := hr.2 i x m hx hm
  exact ⟨ov, h1, h2.ty hk⟩⟩
theorem lit_Move (aid : Nat) (a b : Value) : sliceLitV Try.prog y_s_api_Move aid 1 [(0, .agg #[a, b])] = some (.slice (some (own aid 2)) 1 1, some (.cells [a, b].toArray y_api_Move)) := by kernel_rfl
theorem und_sMove : und Try.prog y_s_api_Move = some (.slice y_api_Move) := by kernel_rfl
theorem tin_Move : ∃ i, tin Try.prog y_api_Move = some i ∧ i.size = 2 ∧ i.bytes = 32 := tinOf (by kernel_rfl)
theorem app_Move {ro : Ro} {h : T Obj} {v a b : Value} {nx n1 n2 lo : Nat} {l : List (List Value)} {K : Value × Option Obj → T Obj → Value × T Obj × Nat → Prop} (ha : cellOk a = true) (hb : cellOk b = true) (ho : OwnT h v 2 y_api_Move l lo) (hl : l.length ≤ 1000000) (hf : Fr h nx) (hlo : lo ≤ nx) (hn1 : nx ≤ n1) (hn2 : n1 < n2)
    (hK : ∀ h' w, OwnT h' w 2 y_api_Move (l ++ [[a, b]]) lo → w = .slice (some (own n2 2)) (l ++ [[a, b]]).length (l ++ [[a, b]]).length → Kp v h h' → Fr h' (n2 + 1) → K (.slice (some (own n1 2)) 1 1, some (.cells [a, b].toArray y_api_Move)) (h.upd n1 (some (.cells [a, b].toArray y_api_Move))) (w, h', n2 + 1)) :
    bindP (sliceLitV Try.prog y_s_api_Move n1 1 [(0, .agg #[a, b])]) fun r => optP h n1 r.2 fun h' => bindP (appendV Try.prog ro h' n2 #[y_s_api_Move, y_s_api_Move] [v, r.1]) (K r h') := by
  obtain ⟨i, g1, g2, g3⟩ := tin_Move
  exact append_lit (z := 2) (l := l) (y := [a, b]) (lit_Move _ _ _) rfl ho und_sMove g1 g2 (by omega) zer_Move rfl (by simp [ha, hb]) (by rw [g3]; unfold big; omega) (by unfold big; omega) hf hlo hn1 hn2 fun h' q1 q2 q3 => hK h' _ q1 rfl q2 q3
theorem rowZ_cons (g : GlD) (en st : Int → Bool) (b : Nat) (r : List Nat) (S : List StateD) : rowZ g en st (b :: r) S = if (goesZ g en st b S).2.1 = 0 then ((rowZ g en st r (goesZ g en st b S).2.2).1, (goesZ g en st b S).1 :: (rowZ g en st r (goesZ g en st b S).2.2).2.1, (rowZ g en st r (goesZ g en st b S).2.2).2.2) else ((goesZ g en st b S).2.1, [], S) := rfl
def XL (bid kid eid yid sid : Nat) (uv wv : Value) : List Nat := [bid, kid, eid, yid, sid] ++ ((sblk uv).toList ++ (sblk wv).toList)
set_option maxRecDepth 8000 in
set_option maxHeartbeats 2000000 in
theorem code_j2_c {ro : Ro} {g : GlD} {bid nid kid eid yid sid k : Nat} {av bv fv cv lv rv uv wv : Value} {c : List Nat} {n rule : Int} {S : List StateD} {cs : List (List Value)} {R : List Int} {ws : List Value} {B : List Nat} {en st : Int → Bool} {e : Env} (hg : g.p.length ≤ 512) (hBl : B.length ≤ 256)
    {h : T Obj} {nx : Nat} {K : KV} (hf : Fr h nx) (hB : Bd h g bid nid kid eid yid sid av bv fv c n cv S cs) (hen : BMap h eid en) (hst : BMap h yid st) (hek : eid ≠ kid) (hyk : yid ≠ kid) (hP : SlR ro (del h [bid, kid, sid]) bv 9 (RPos ro (del h [bid, kid, sid])) g.p) (hfv : SlR ro (del h [bid, kid, sid]) fv 1 RU8 B)
    (hx : cs[k]? = some [lv, rv, uv, wv]) (hu : OwnT h uv 1 y_int (intsZ R) 0) (hw : OwnT h wv 1 y_s_api_Move (onesC ws) 0) (hR : R.length ≤ 1000000) (hws : ws.length ≤ 1000000)
    (e0 : e 0 = ptr bid) (e1 : e 1 = .int .i64 (k : Int)) (e9 : e 9 = .int .i64 rule)
    (hKe : (rowZ g en st B S).1 ≠ 0 → ∀ h' nx', nx ≤ nx' → Fr h' nx' → Keep [bid, kid, sid] h h' → K (.int .i64 (rowZ g en st B S).1) h' nx')
    (hK : (rowZ g en st B S).1 = 0 → ∀ h' nx' sid' cs' uv' wv' rowv mcs, nx ≤ nx' → Fr h' nx' → Keep ([bid, kid, sid] ++ ((sblk uv).toList ++ (sblk wv).toList)) h h' → (sid' = sid ∨ nx ≤ sid') → Bd h' g bid nid kid eid yid sid' av bv fv c n cv (rowZ g en st B S).2.2 (cs'.set k [lv, rv, uv', wv']) →
      Grow (del h' (XL bid kid eid yid sid' uv' wv')) nx cs cs' S (rowZ g en st B S).2.2 → OwnT h' uv' 1 y_int (intsZ (R ++ [rule])) nx → OwnT h' wv' 1 y_s_api_Move (onesC (ws ++ [rowv])) nx → OwnT (del h' (XL bid kid eid yid sid' uv' wv')) rowv 2 y_api_Move mcs nx → RowOwn (del h' (XL bid kid eid yid sid' uv' wv')) nx mcs (rowZ g en st B S).2.1 → BMap h' eid en → BMap h' yid st → K (.int .i64 0) h' nx') :
    auto_builder_code_j2 ro K e h nx := by
  unfold auto_builder_code_j2
  rw [e0]
  have hb := hB.blk
  have b3 := bldL_3 (av := av) (bv := bv) (nv := .map (some nid)) (fv := fv) (c := c) (n := n) (cv := cv) (sv := .slice (some (own sid 4)) cs.length cs.length) (kv := .map (some kid)) (ev := .map (some eid)) (yv := .map (some yid))
  have hfl := hfv.len
  generalize hZ : rowZ g en st B S = Z at hKe hK
  have hkl : k < cs.length := (List.getElem?_eq_some_iff.1 hx).1
  obtain ⟨fe1, me1⟩ := hen.obj
  obtain ⟨ce1, me1⟩ := me1
  obtain ⟨fy1, my1⟩ := hst.obj
  obtain ⟨cy1, my1⟩ := my1
  have hel : eid < nx := hf.lt' me1
  have hyl : yid < nx := hf.lt' my1
  have heb : eid ≠ bid := by rintro rfl; rw [hb] at me1; cases me1
  have hyb : yid ≠ bid := by rintro rfl; rw [hb] at my1; cases my1
  have hes : eid ≠ sid := by rintro rfl; have := hB.row; rw [this] at me1; cases me1
  have hys : yid ≠ sid := by rintro rfl; have := hB.row; rw [this] at my1; cases my1
  (repeat (first | refine bindP_mk (by simp (disch := first | omega | exact Int.natCast_nonneg _ | assumption) only [BB, B2, ↓reduceIte, Nat.reduceLeDiff, Nat.reduceAdd, CC, nilCk_at, hb, b3, hfl] <;> rfl) ?_ | refine newP_mk ?_ | refine optP_mk ?_ | with_reducible first | refine condP_t ?_ | refine condP_f ?_ | refine ifP_tt' ?_ | refine ifP_ff' ?_ | refine ifP_tf' ?_ | refine ifP_ft' ?_ | refine ifP_u' ?_ | refine optP_mk0 ?_))
  refine loopP_rule (fun j e h' nx' => ∃ (i sid' : Nat) (cs' : List (List Value)) (S' : List StateD) (mcs : List (List Value)) (row : List MoveD), i + j = B.length ∧ nx ≤ nx' ∧ Fr h' nx' ∧ Keep [bid, kid, sid] h h' ∧ (sid' = sid ∨ nx ≤ sid') ∧ Bd h' g bid nid kid eid yid sid' av bv fv c n cv S' cs' ∧
    Grow h' nx cs cs' S S' ∧ RowOwn h' nx mcs row ∧ OwnT h' (e 19) 2 y_api_Move mcs nx ∧ row.length = i ∧ e 0 = ptr bid ∧ e 1 = .int .i64 (k : Int) ∧ e 9 = .int .i64 rule ∧ e 129 = fv ∧ e 130 = .int .i64 B.length ∧ e 131 = .int .i64 i ∧
    ((rowZ g en st (B.drop i) S').1, row ++ (rowZ g en st (B.drop i) S').2.1, (rowZ g en st (B.drop i) S').2.2) = Z) ?_ (n := B.length)
    ⟨0, sid, cs, S, [], [], by omega, by omega, hf.mono (by omega), (Sub.refl h).keepL, .inl rfl, hB, Grow.refl, ⟨rfl, fun i x m hx => by simp at hx⟩, OwnT.nil, rfl, e0, e1, e9, rfl, rfl, rfl, by rw [← hZ]; rfl⟩
  rintro j e' h' nx' ⟨i, sid', cs', S', mcs, row, hj, hnx, hf', hkp, hsd, hB', hgr, hro, hrv, hrl, f0, f1, f9, f129, f130, f131, hrow⟩ Q' hq hxx
  have hsubD : Sub (del h [bid, kid, sid]) h' := fun q o hq9 => by
    rw [del_get] at hq9
    split at hq9
    · cases hq9
    · rename_i hn; exact hkp q o hq9 hn
  have hfv' := hfv.sub hsubD fun _ _ h => h
  have hP' := hP.sub hsubD (RPos.sub hsubD)
  have hen' : BMap h' eid en := hen.keepK hkp (by simp [heb, hek, hes])
  have hst' : BMap h' yid st := hst.keepK hkp (by simp [hyb, hyk, hys])
  unfold auto_builder_code_L1
  rw [f0, f129, f130, f131]
  refine lss_s (fun hi => ?_) (fun hi => ?_)
  · have hi : i < B.length := by omega
    rw [drop_cons hi, rowZ_cons] at hrow
    obtain ⟨w, ⟨w1, w2⟩, w3⟩ := hfv'.at1 hi
    have w1 : w = .int .u8 (B[i] : Int) := by simpa using w1
    subst w1
    generalize B[i] = b at hrow w2 w3
    refine condP_t (bindP_mk (hfv'.ix _ hi) (bindP_mk w3 ?_))
    refine auto_goes_c hg w2 (hf'.mono (show nx' ≤ nx' + 7 by omega)) hB' hen' hst' hP' fun h3 n3 sid3 cs3 ov r1 r2 r3 r4 r5 r6 r7 => ?_
    generalize goesZ g en st b S' = G at hrow r5 r6 r7
    have hkp3 : Keep [bid, kid, sid] h h3 := Keep.chain hf hkp r3 hsd
    have t1 : TyKeep y_int h' h3 := hB'.tyk r3 (by decide) (by decide)
    have t2 : TyKeep y_uint8 h' h3 := hB'.tyk r3 (by decide) (by decide)
    have t3 : TyKeep y_api_Move h' h3 := hB'.tyk r3 (by decide) (by decide)
    have hgr3 := (hgr.ty t1).trans r6 (show nx ≤ nx' + 7 by omega)
    have hovk := r7.ok
    (repeat (first | refine bindP_mk (by simp (disch := first | omega | exact Int.natCast_nonneg _ | assumption) only [BB, B2, ↓reduceIte, Nat.reduceLeDiff, Nat.reduceAdd, CC, nth0, nth1] <;> rfl) ?_ | refine newP_mk ?_ | refine optP_mk ?_ | with_reducible first | refine condP_t ?_ | refine condP_f ?_ | refine ifP_tt' ?_ | refine ifP_ff' ?_ | refine ifP_tf' ?_ | refine ifP_ft' ?_ | refine ifP_u' ?_ | refine optP_mk0 ?_))
    refine local_mk zer_Move rfl (x := [.int .i64 G.1.to, ov]) rfl rfl (by simp only [List.all_cons, List.all_nil, hovk]; rfl) r2 (show n3 ≤ n3 + 3 by omega) fun h4 hs4 hf4 g4 _ => ?_
    refine neq_s (fun u1 => ?_) (fun u1 => ?_)
    · (repeat (first | refine bindP_mk (by simp (disch := first | omega | exact Int.natCast_nonneg _ | assumption) only [BB, B2, ↓reduceIte, Nat.reduceLeDiff, Nat.reduceAdd, CC] <;> rfl) ?_ | refine newP_mk ?_ | refine optP_mk ?_ | with_reducible first | refine condP_t ?_ | refine condP_f ?_ | refine ifP_tt' ?_ | refine ifP_ff' ?_ | refine ifP_tf' ?_ | refine ifP_ft' ?_ | refine ifP_u' ?_ | refine optP_mk0 ?_))
      refine hxx _ _ _ _ (fun e => by cases e) (exP_r ?_)
      rw [if_neg u1] at hrow
      have hz1 : Z.1 = G.2.1 := by rw [← hrow]
      refine ⟨h4, Sub.refl _, ?_⟩
      show K (.int .i64 G.2.1) h4 _
      rw [← hz1]
      exact hKe (by rw [hz1]; exact u1) _ _ (by omega) (hf4.mono (by omega)) (hkp3.trans hs4.keepL)
    · rw [if_pos u1] at hrow
      refine condP_f (bindP_mk (loadA_all (l := [.int .i64 G.1.to, ov]) g4 rfl) ?_)
      have hrv4 := (hrv.ty t3).keepS hs4
      refine app_Move rfl hovk hrv4 (by rw [hro.1]; omega) (hf4.mono (show n3 + 3 + 1 ≤ n3 + 10 by omega)) (by omega) (by omega) (by omega) fun h5 w5 s1 s2 s3 s4 => ?_
      dsimp only
      refine bindP_mk (intB_add _ _ _) ?_
      rw [wr_i64 (by omega) (by omega)]
      have t4 : TyKeep y_int h3 h5 := (hs4.ty).trans (s3.ty hrv4 (by decide))
      have t5 : TyKeep y_uint8 h3 h5 := (hs4.ty).trans (s3.ty hrv4 (by decide))
      have hkp5 : Keep [bid, kid, sid] h h5 := fun q o hq9 hn => by
        have hql := hf.lt' hq9
        refine s3 q o (hs4 _ _ (hkp3 q o hq9 hn)) fun e => ?_
        have := (hrv4.blk e).1
        omega
      have hB5 : Bd h5 g bid nid kid eid yid sid3 av bv fv c n cv G.2.2 cs3 := (r5.sub hs4).keepN fun q o hq9 hd => s3 q o hq9 fun e => by
        obtain ⟨z1, z2⟩ := hrv4.blk e
        have hB4 := r5.sub hs4
        obtain ⟨a1, a2, a3⟩ := hB4.num
        obtain ⟨_, _, a4⟩ := a2.obj
        obtain ⟨d1, d2, d3⟩ := hB4.known
        obtain ⟨_, _, d4⟩ := d2.obj
        rcases hd with rfl | rfl | rfl | rfl
        · have := hB4.blk
          rw [z2] at this
          simp only [Option.some.injEq, Obj.cells.injEq] at this
          exact absurd this.2.1 (by decide)
        · rw [z2] at a4; cases a4
        · rw [z2] at d4; cases d4
        · have := hB4.row
          rw [z2] at this
          simp only [Option.some.injEq, Obj.cells.injEq] at this
          exact absurd this.2.1 (by decide)
      refine hq (j - 1) _ _ _ _ (by omega) ⟨i + 1, sid3, cs3, G.2.2, mcs ++ [[.int .i64 G.1.to, ov]], row ++ [G.1], by omega, by omega, s4.mono (by omega), hkp5, ?_, hB5, hgr3.ty t4, ?_, ?_, by simp [hrl], f0, f1, f9, f129, f130, rfl, ?_⟩ (Sub.refl _)
      · rcases r4 with r4 | r4
        · rw [r4]; exact hsd
        · exact .inr (by omega)
      · have ho1 := hro.ty (t2.trans t5)
        refine ⟨by simp [hro.1], fun q x m hx9 hm9 => ?_⟩
        rcases Nat.lt_or_ge q mcs.length with hql | hql
        · rw [List.getElem?_append_left hql] at hx9
          rw [List.getElem?_append_left (by have := hro.1; omega)] at hm9
          exact ho1.2 q x m hx9 hm9
        · rw [List.getElem?_append_right hql] at hx9
          rw [List.getElem?_append_right (by have := hro.1; omega), ← hro.1] at hm9
          generalize q - mcs.length = q' at hx9 hm9
          cases q' with
          | succ q' => simp at hx9
          | zero =>
            simp at hx9 hm9
            subst hx9; subst hm9
            exact ⟨ov, rfl, (r7.ty t5).mono (by omega)⟩
      · exact s1
      · rw [← hrow]; simp
  · refine condP_f ?_
    refine hxx _ _ _ _ (fun e => by cases e) (exP_e (beqP_t ?_))
    rw [drop_all (l := B) (by omega)] at hrow
    have hrow : ((0 : Int), row, S') = Z := by simpa [rowZ] using hrow
    subst hrow
    have hgr' := hgr
    obtain ⟨ds, T, a1, a2, a3, a4⟩ := hgr'
    have hx' : cs'[k]? = some [lv, rv, uv, wv] := by rw [a1, List.getElem?_append_left hkl]; exact hx
    have ti : TyKeep y_int h h' := hB.tyk hkp (by decide) (by decide)
    have tw : TyKeep y_s_api_Move h h' := hB.tyk hkp (by decide) (by decide)
    have hu' := hu.ty ti
    have hw' := hw.ty tw
    have hrvk := hrv.ok
    have hul : ∀ id, id ∈ (sblk uv).toList ++ (sblk wv).toList → id < nx := by
      intro id hid
      rcases List.mem_append.1 hid with hid | hid
      · have := (hu.blk (by simpa using hid)).2
        exact hf.lt' this
      · have := (hw.blk (by simpa using hid)).2
        exact hf.lt' this
    refine code_j3_c (hf'.mono (show nx' ≤ nx' + 1 by omega)) hB' hx' hu' hw' hR hws hrvk f0 f1 f9 rfl fun h2 n2 uv' wv' p1 p2 p3 p4 p5 p6 => ?_
    have hrow' := hB'.row
    -- what is new stays
    obtain ⟨b1, b2, b3, b4⟩ := hB.lt hf
    have hold : ∀ {v : Value} {z : Nat} {e : TypeId} {l : List (List Value)}, e ≠ y_api_State → OwnT h' v z e l nx → OwnT (del h2 (XL bid kid eid yid sid' uv' wv')) v z e l nx := fun he ho => by
      have hns : ∀ id, sblk _ = some id → id ≠ sid' := fun id hid => by
        obtain ⟨z1, z2⟩ := ho.blk hid
        rintro rfl
        rw [hrow'] at z2
        simp only [Option.some.injEq, Obj.cells.injEq] at z2
        exact he z2.2.1.symm
      refine (ho.keepK p3 fun id hid => ?_).del fun id hid => ?_
      · obtain ⟨z1, z2⟩ := ho.blk hid
        simp only [List.mem_cons, not_or]
        refine ⟨hns id hid, fun hm => ?_⟩
        have := hul _ hm; omega
      · obtain ⟨z1, z2⟩ := ho.blk hid
        have z3 := hf'.lt' z2
        have z4 := hns id hid
        unfold XL
        simp only [List.mem_append, List.mem_cons, List.not_mem_nil, or_false, not_or, Option.mem_toList]
        refine ⟨⟨by omega, by omega, by omega, by omega, z4⟩, fun h9 => ?_, fun h9 => ?_⟩
        · have := (p5.blk h9).1; omega
        · have := (p6.blk h9).1; omega
    refine hK rfl h2 n2 sid' cs' uv' wv' _ mcs (by omega) p2 ?_ hsd p4 ?_ (p5.mono (by omega)) (p6.mono (by omega)) (hold (by decide) hrv) ?_ ?_ ?_
    · intro q o hq9 hn
      have hql := hf.lt' hq9
      simp only [List.mem_append, List.mem_cons, List.not_mem_nil, or_false, not_or] at hn
      refine p3 q o (hkp q o hq9 (by simp; exact hn.1)) ?_
      simp only [List.mem_cons, List.mem_append, not_or]
      refine ⟨?_, hn.2⟩
      rcases hsd with rfl | hs
      · exact hn.1.2.2
      · omega
    · refine ⟨ds, T, a1, a2, a3, fun q x s hx9 hs9 => ?_⟩
      obtain ⟨l1, l2, l3, l4, l5, l6⟩ := a4 q x s hx9 hs9
      exact ⟨l1, l2, l3, hold (by decide) l4, hold (by decide) l5, l6⟩
    · refine ⟨hro.1, fun q x m hx9 hm9 => ?_⟩
      obtain ⟨ov, o1, o2⟩ := hro.2 q x m hx9 hm9
      exact ⟨ov, o1, hold (by decide) o2⟩
    · refine hen'.keepK p3 ?_
      simp only [List.mem_cons, not_or]
      refine ⟨?_, ?_⟩
      · rcases hsd with rfl | hs
        · exact hes
        · omega
      · intro hm
        rcases List.mem_append.1 hm with hm | hm
        · obtain ⟨_, z⟩ := hu.blk (id := eid) (by simpa using hm)
          rw [me1] at z; cases z
        · obtain ⟨_, z⟩ := hw.blk (id := eid) (by simpa using hm)
          rw [me1] at z; cases z
    · refine hst'.keepK p3 ?_
      simp only [List.mem_cons, not_or]
      refine ⟨?_, ?_⟩
      · rcases hsd with rfl | hs
        · exact hys
        · omega
      · intro hm
        rcases List.mem_append.1 hm with hm | hm
        · obtain ⟨_, z⟩ := hu.blk (id := yid) (by simpa using hm)
          rw [my1] at z; cases z
        · obtain ⟨_, z⟩ := hw.blk (id := yid) (by simpa using hm)
          rw [my1] at z; cases z
end V
end Go.Proofs.Ytmmdcdjkmakgpaa
set_option linter.unusedVariables false
set_option linter.unusedSimpArgs false
namespace Go.Proofs.Ytmmdcdjkmakgpaa
namespace V
open PA
attribute [local irreducible] bindP ifP condP newP optP exP beqP
theorem del_mono {h : T Obj} {l l' : List Nat} (hl : ∀ k, k ∈ l → k ∈ l') : Sub (del h l') (del h l) := fun k o hk => by
  rw [del_get] at hk
  split at hk
  · cases hk
  · rename_i hn
    exact del_some hk fun h => hn (hl k h)
theorem Keep.delS {ids l : List Nat} {h h' : T Obj} (hk : Keep ids h h') (hl : ∀ k, k ∈ ids → k ∈ l) : Sub (V.del h l) h' := fun k o hg => by
  rw [del_get] at hg
  split at hg
  · cases hg
  · rename_i hn; exact hk k o hg fun h => hn (hl k h)
theorem digs_fst (g : GlD) : ∀ (l : List Int) (c : Int), (digs g l c).map (·.1) = l
  | [], c => rfl
  | p :: r, c => by
    rw [digs_cons]
    split <;> simp [digs_fst g r]
theorem digs_snd (g : GlD) : ∀ (l : List Int) (c : Int), 0 ≤ c → ∀ d ∈ digs g l c, d.2 = -1 ∨ d.2 = 0 ∨ d.2 = 1 ∨ d.2 = 2
  | [], c, _, d, hd => by cases hd
  | p :: r, c, hc, d, hd => by
    rw [digs_cons] at hd
    split at hd
    · rcases List.mem_cons.1 hd with rfl | hd
      · show c % 3 = _ ∨ c % 3 = _ ∨ c % 3 = _ ∨ c % 3 = _
        omega
      · exact digs_snd g r (c / 3) (by omega) d hd
    · rcases List.mem_cons.1 hd with rfl | hd
      · exact .inl rfl
      · exact digs_snd g r c hc d hd
theorem ruleZ_cons (g : GlD) (best : Int) (d : Int × Int) (r : List (Int × Int)) : ruleZ g best (d :: r) = ruleZ g (if decide (d.2 ≠ 0) && ((g.at d.1).last && (decide (best < 0) || decide ((g.at d.1).rule < best))) then (g.at d.1).rule else best) r := rfl
def enD (g : GlD) (D : List (Int × Int)) (q : Int) : Bool := D.any fun d => decide (d.2 ≠ 0) && (g.at d.1).next.contains q
theorem enD_snoc (g : GlD) (D : List (Int × Int)) (d : Int × Int) (q : Int) : enD g (D ++ [d]) q = (enD g D q || (decide (d.2 ≠ 0) && (g.at d.1).next.contains q)) := by simp [enD]
theorem staysZ_snoc (D : List (Int × Int)) (d : Int × Int) (q : Int) : staysZ (D ++ [d]) q = (staysZ D q || (decide (d.1 = q) && (decide (d.2 = 0) || decide (d.2 = 2)))) := by simp [staysZ]
theorem staysZ_no {D : List (Int × Int)} {q : Int} (h : ∀ d ∈ D, d.1 ≠ q) : staysZ D q = false := by
  unfold staysZ
  rw [List.any_eq_false]
  intro d hd
  simp [h d hd]
theorem right_parts {g : GlD} (h : rightD g = true) : g.p.length ≤ 512 ∧ rz (-1) g.p.length g.first = true ∧ ∀ p ∈ g.p, mayD g.p.length p = true := by
  unfold rightD at h
  simp only [Bool.and_eq_true, decide_eq_true_eq, List.all_eq_true] at h
  exact ⟨h.1, h.2.1, h.2.2⟩
theorem may_parts {m : Int} {p : PosD} (h : mayD m p = true) : 1 ≤ p.lo ∧ p.lo ≤ p.hi ∧ p.hi ≤ 4096 ∧ 0 ≤ p.rule ∧ p.rule < 512 ∧ rz (-1) m p.next = true := by
  unfold mayD at h
  simp only [Bool.and_eq_true, decide_eq_true_eq] at h
  exact ⟨h.2.1, h.2.2.1, h.2.2.2.1, h.2.2.2.2.1, h.2.2.2.2.2.1, h.2.2.2.2.2.2⟩
theorem rz_lenN : ∀ {l : List Int} {a m : Int}, rz a m l = true → a < m → (l.length : Int) + a + 1 ≤ m
  | [], a, m, h, ha => by simp; omega
  | x :: r, a, m, h, ha => by
    simp only [rz, Bool.and_eq_true, decide_eq_true_eq] at h
    have := rz_lenN h.2.2 h.2.1
    rw [List.length_cons]; omega
theorem rz_pairs : ∀ {l : List Int} {a m : Int}, rz a m l = true → l.Pairwise (· < ·)
  | [], _, _, _ => List.Pairwise.nil
  | x :: r, a, m, h => by
    simp only [rz, Bool.and_eq_true, decide_eq_true_eq] at h
    exact List.Pairwise.cons (fun y hy => (rz_mem h.2.2 y hy).1) (rz_pairs h.2.2)
theorem contains_take {l : List Int} {k : Nat} (hk : k < l.length) (q : Int) : (l.take (k + 1)).contains q = ((l.take k).contains q || decide (q = l[k])) := by
  rw [List.take_succ_eq_append_getElem hk]
  simp only [List.contains_eq_mem, List.mem_append, List.mem_singleton, Bool.decide_or]
section
variable {ro : Ro} {g : GlD} {bid nid kid eid yid sid k did sl : Nat} {av bv fv cv lv rv uv wv : Value} {c : List Nat} {n : Int} {S : List StateD} {cs : List (List Value)} {D : List (Int × Int)}
set_option maxRecDepth 8000 in
set_option maxHeartbeats 2000000 in
theorem code_L2_c (hr : rightD g = true) (hz : rz (-1) g.p.length (D.map (·.1)) = true) (hd : ∀ d ∈ D, d.2 = -1 ∨ d.2 = 0 ∨ d.2 = 1 ∨ d.2 = 2) (hey : eid ≠ yid) (hen : eid ≠ nid) (hek : eid ≠ kid) (hyn : yid ≠ nid) (hyk : yid ≠ kid) {e : Env} {en0 : Int → Bool} {f : Int → Option Value}
    {h : T Obj} {nx : Nat} {K : KV} (hf : Fr h nx) (hB : Bd h g bid nid kid eid yid sid av bv fv c n cv S cs) (hE : BMap h eid en0) (hY : BMap h yid fun _ => false) (hD : MapG injI h did f) (hDo : DOk f D) (hde : did ≠ eid) (hdy : did ≠ yid)
    (hP : SlR ro (del h [eid, yid]) bv 9 (RPos ro (del h [eid, yid])) g.p) (hl : ZI ro (del h [eid, yid]) lv (D.map (·.1)))
    (e0 : e 0 = ptr bid) (e1 : e 1 = .int .i64 (k : Int)) (e8 : e 8 = .map (some did)) (e9 : e 9 = .int .i64 (-1)) (e63 : e 63 = lv) (e64 : e 64 = .int .i64 D.length) (e65 : e 65 = .int .i64 0) {Q : KE}
    (hQ : ∀ e' h' nx' en st, nx ≤ nx' → Fr h' nx' → Keep [eid, yid] h h' → BMap h' eid en → BMap h' yid st → (∀ q, en q = (en0 q || enD g D q)) → (∀ q, st q = staysZ D q) → e' 0 = ptr bid → e' 1 = .int .i64 (k : Int) → e' 9 = .int .i64 (ruleZ g (-1) D) → Q (.exit 2) e' h' nx') :
    loopP (auto_builder_code_L2 ro) e h nx Q := by
  obtain ⟨hgl, hfr, hmay⟩ := right_parts hr
  have hDl : D.length ≤ 512 := by
    have := rz_lenN hz (by omega)
    simp at this; omega
  generalize hrf : ruleZ g (-1) D = rf at hQ
  have hbid : eid ≠ bid ∧ yid ≠ bid ∧ eid ≠ sid ∧ yid ≠ sid := by
    obtain ⟨es1, c1, o1⟩ := hE.obj
    obtain ⟨es2, c2, o2⟩ := hY.obj
    have h1 := hB.blk
    have h2 := hB.row
    refine ⟨?_, ?_, ?_, ?_⟩ <;> rintro rfl
    · rw [o1] at h1; cases h1
    · rw [o2] at h1; cases h1
    · rw [o1] at h2; cases h2
    · rw [o2] at h2; cases h2
  refine loopP_rule (fun j e h' nx' => ∃ (i : Nat) (en st : Int → Bool) (ru : Int), i + j = D.length ∧ nx ≤ nx' ∧ Fr h' nx' ∧ Keep [eid, yid] h h' ∧ BMap h' eid en ∧ BMap h' yid st ∧ (∀ q, en q = (en0 q || enD g (D.take i) q)) ∧ (∀ q, st q = staysZ (D.take i) q) ∧
    e 0 = ptr bid ∧ e 1 = .int .i64 (k : Int) ∧ e 8 = .map (some did) ∧ e 9 = .int .i64 ru ∧ e 63 = lv ∧ e 64 = .int .i64 D.length ∧ e 65 = .int .i64 i ∧ ruleZ g ru (D.drop i) = rf) ?_ (n := D.length)
    ⟨0, en0, fun _ => false, -1, by omega, by omega, hf, (Sub.refl h).keepL, hE, hY, fun q => by simp [enD], fun q => by simp [staysZ], e0, e1, e8, e9, e63, e64, e65, hrf⟩
  rintro j e h' nx' ⟨i, en, st, ru, hj, hnx, hf', hkp, hE', hY', hen', hst', f0, f1, f8, f9, f63, f64, f65, hru⟩ Q' hq hx
  have hsd : Sub (del h [eid, yid]) h' := hkp.delS fun _ h => h
  have hB' : Bd h' g bid nid kid eid yid sid av bv fv c n cv S cs := hB.keepN fun q o hq9 hd9 => hkp q o hq9 (by
    simp only [List.mem_cons, List.not_mem_nil, or_false, not_or]
    rcases hd9 with rfl | rfl | rfl | rfl
    · exact ⟨hbid.1.symm, hbid.2.1.symm⟩
    · exact ⟨hen.symm, hyn.symm⟩
    · exact ⟨hek.symm, hyk.symm⟩
    · exact ⟨hbid.2.2.1.symm, hbid.2.2.2.symm⟩)
  have hD' : MapG injI h' did f := by
    obtain ⟨es, c9, ps, a1, a2, a3⟩ := hD
    exact ⟨es, c9, ps, hkp _ _ a1 (by simp [hde, hdy]), a2, a3⟩
  have hl' := hl.sub hsd
  have hP' := hP.sub hsd (RPos.sub hsd)
  have hbk := hB'.blk
  have b1 := bldL_1 (av := av) (bv := bv) (nv := .map (some nid)) (fv := fv) (c := c) (n := n) (cv := cv) (sv := .slice (some (own sid 4)) cs.length cs.length) (kv := .map (some kid)) (ev := .map (some eid)) (yv := .map (some yid))
  have b264 := bldL_264 (av := av) (bv := bv) (nv := .map (some nid)) (fv := fv) (n := n) (cv := cv) (sv := .slice (some (own sid 4)) cs.length cs.length) (kv := .map (some kid)) (ev := .map (some eid)) (yv := .map (some yid)) hB.hc
  have b265 := bldL_265 (av := av) (bv := bv) (nv := .map (some nid)) (fv := fv) (n := n) (cv := cv) (sv := .slice (some (own sid 4)) cs.length cs.length) (kv := .map (some kid)) (ev := .map (some eid)) (yv := .map (some yid)) hB.hc
  unfold auto_builder_code_L2
  rw [f0, f8, f63, f64, f65]
  refine lss_s (fun hi => ?_) (fun hi => ?_)
  · have hi : i < D.length := by omega
    have hil : i < (D.map (·.1)).length := by simpa using hi
    have hld := hl'.load hil
    have hxm := rz_mem hz _ (List.getElem_mem hil)
    have hdi := hd _ (List.getElem_mem hi)
    have hfo := hDo _ (List.getElem_mem hi)
    have hgm : (D.map (·.1))[i] = (D[i]).1 := by simp
    rw [hgm] at hld hxm
    rw [drop_cons hi, ruleZ_cons] at hru
    have hex : ∀ d ∈ D.take i, d.1 ≠ (D[i]).1 := by
      intro d hd9 he
      obtain ⟨m, hm⟩ := List.mem_iff_getElem?.1 hd9
      rw [List.getElem?_take] at hm
      split at hm
      · rename_i hmi
        have hml := (List.getElem?_eq_some_iff.1 hm).1
        have hpw := List.pairwise_iff_getElem.1 (rz_pairs hz) m i (by simpa using hml) hil hmi
        simp only [List.getElem_map] at hpw
        have : D[m] = d := by
          rw [List.getElem?_eq_getElem hml] at hm
          exact Option.some.inj hm
        rw [this, he] at hpw
        omega
      · cases hm
    have hst0 : staysZ (D.take i) (D[i]).1 = false := staysZ_no hex
    have hen1 : ∀ q, enD g (D.take (i + 1)) q = (enD g (D.take i) q || (decide ((D[i]).2 ≠ 0) && (g.at (D[i]).1).next.contains q)) := fun q => by rw [List.take_succ_eq_append_getElem hi, enD_snoc]
    have hst1 : ∀ q, staysZ (D.take (i + 1)) q = (staysZ (D.take i) q || (decide ((D[i]).1 = q) && (decide ((D[i]).2 = 0) || decide ((D[i]).2 = 2)))) := fun q => by rw [List.take_succ_eq_append_getElem hi, staysZ_snoc]
    generalize D[i] = dd at hld hxm hdi hfo hru hst0 hen1 hst1
    obtain ⟨x, d⟩ := dd
    dsimp only at hld hxm hdi hfo hru hst0 hen1 hst1
    have hxl : x.toNat < g.p.length := by omega
    have hpx : g.at x = g.p[x.toNat] := by
      unfold GlD.at
      rw [List.getD_eq_getElem?_getD, List.getElem?_eq_getElem hxl]; rfl
    obtain ⟨y, ⟨nv, rfl, y1, y2⟩, x2, x3, x4, x5⟩ := hP'.at hxl
    rw [← hpx] at x2 x3 x5 y1 y2
    have hmx := may_parts (hmay _ (List.getElem_mem hxl))
    rw [← hpx] at hmx
    have hlk := look_iu hD' x
    rw [hfo] at hlk
    refine condP_t (bindP_mk (hl'.ix _ hil) (bindP_mk hld ?_))
    (repeat (first | refine bindP_mk (by simp (disch := first | omega | exact Int.natCast_nonneg _ | assumption) only [BB, B2, ↓reduceIte, Nat.reduceLeDiff, Nat.reduceAdd, CC, nilCk_at, hbk, b1] <;> rfl) ?_ | refine newP_mk ?_ | refine optP_mk ?_ | with_reducible first | refine condP_t ?_ | refine condP_f ?_ | refine ifP_tt' ?_ | refine ifP_ff' ?_ | refine ifP_tf' ?_ | refine ifP_ft' ?_ | refine ifP_u' ?_ | refine optP_mk0 ?_))
    refine bindP_mk (hP'.ixI _ (by omega) (by omega)) (bindP_mk x3 ?_)
    refine local_mk zer_PosZ rfl (x := posL (g.at x) nv) rfl rfl (posL_ok y1.ok) hf' (show nx' ≤ nx' + 12 by omega) fun h3 hs3 hf3 g3 _ => ?_
    have hlk3 := look_iu (hD'.sub hs3) x
    rw [hfo] at hlk3
    have hb3 := hs3 _ _ hbk
    have hn3 := y1.sub hs3
    have hnl := hn3.len
    have hE3 : BMap h3 eid en := by obtain ⟨f, q1, q2⟩ := hE'; exact ⟨f, q1.sub hs3, q2⟩
    have hY3 : BMap h3 yid st := by obtain ⟨f, q1, q2⟩ := hY'; exact ⟨f, q1.sub hs3, q2⟩
    have hk3 := hkp.trans hs3.keepL
    have hel := (hE3.obj)
    obtain ⟨_, _, hel⟩ := hel
    have hel := hf3.lt' hel
    obtain ⟨_, _, hyl⟩ := hY3.obj
    have hyl := hf3.lt' hyl
    have hel' : eid < nx' := by obtain ⟨_, _, q⟩ := hE'.obj; exact hf'.lt' q
    have hyl' : yid < nx' := by obtain ⟨_, _, q⟩ := hY'.obj; exact hf'.lt' q
    -- the end of a round
    have hj4 : ∀ (e : Env) (h4 : T Obj) (n4 : Nat) (en' st' : Int → Bool) (ru' : Int), nx' ≤ n4 → Fr h4 n4 → Keep [eid, yid] h h4 → BMap h4 eid en' → BMap h4 yid st' → (∀ q, en' q = (en0 q || enD g (D.take (i + 1)) q)) → (∀ q, st' q = staysZ (D.take (i + 1)) q) →
        e 0 = ptr bid → e 1 = .int .i64 (k : Int) → e 8 = .map (some did) → e 9 = .int .i64 ru' → e 63 = lv → e 64 = .int .i64 D.length → e 65 = .int .i64 i → ruleZ g ru' (D.drop (i + 1)) = rf → auto_builder_code_j4 ro Q' e h4 n4 := by
      intro e h4 n4 en' st' ru' hn4 s1 s2 s3 s4 s5 s6 f0 f1 f8 f9 f63 f64 f65 s7
      unfold auto_builder_code_j4
      rw [f65]
      (repeat (first | refine bindP_mk (by simp (disch := first | omega | exact Int.natCast_nonneg _ | assumption) only [BB, B2, ↓reduceIte, Nat.reduceLeDiff, Nat.reduceAdd, CC] <;> rfl) ?_ | refine newP_mk ?_ | refine optP_mk ?_ | with_reducible first | refine condP_t ?_ | refine condP_f ?_ | refine ifP_tt' ?_ | refine ifP_ff' ?_ | refine ifP_tf' ?_ | refine ifP_ft' ?_ | refine ifP_u' ?_ | refine optP_mk0 ?_))
      exact hq (j - 1) _ _ _ _ (by omega) ⟨i + 1, en', st', ru', by omega, by omega, s1.mono (by omega), s2, s3, s4, s5, s6, f0, f1, f8, f9, f63, f64, rfl, s7⟩ (Sub.refl _)
    -- the places behind, and the rule
    have hL3 : ∀ (e : Env) (h4 : T Obj) (n4 : Nat) (st' : Int → Bool), nx' + 13 ≤ n4 → Fr h4 n4 → Keep [eid, yid] h h4 → Keep [eid, yid] h3 h4 → BMap h4 eid en → BMap h4 yid st' → (∀ q, st' q = staysZ (D.take (i + 1)) q) → d ≠ 0 →
        e 0 = ptr bid → e 1 = .int .i64 (k : Int) → e 8 = .map (some did) → e 9 = .int .i64 ru → e 14 = ptr (nx' + 12) → e 63 = lv → e 64 = .int .i64 D.length → e 65 = .int .i64 i → e 99 = nv → e 100 = .int .i64 (g.at x).next.length → e 101 = .int .i64 0 →
        loopP (auto_builder_code_L3 ro) e h4 n4 fun x183 e180 h181 n182 => exP x183 (auto_builder_code_j5 ro Q' e180 h181 n182) (fun i184 => beqP (Nat.beq i184 4) (auto_builder_code_j5 ro Q' e180 h181 n182) (beqP (Nat.beq i184 3) (auto_builder_code_j4 ro Q' e180 h181 n182) (Q' (.exit i184) e180 h181 n182))) (Q' .ret e180 h181 n182) := by
      intro e h4 n4 st' hn4 s1 s2 s2' s3 s4 s5 hd0 f0 f1 f8 f9 f14 f63 f64 f65 f99 f100 f101
      have hnxt : (g.at x).next.length ≤ 512 := by have := rz_lenN hmx.2.2.2.2.2 (by omega); omega
      refine loopP_rule (fun j2 e h5 n5 => ∃ (m : Nat) (en' : Int → Bool), m + j2 = (g.at x).next.length ∧ n4 ≤ n5 ∧ Fr h5 n5 ∧ Keep [eid, yid] h4 h5 ∧ BMap h5 eid en' ∧ BMap h5 yid st' ∧ (∀ q, en' q = (en q || ((g.at x).next.take m).contains q)) ∧
        e 0 = ptr bid ∧ e 1 = .int .i64 (k : Int) ∧ e 8 = .map (some did) ∧ e 9 = .int .i64 ru ∧ e 14 = ptr (nx' + 12) ∧ e 63 = lv ∧ e 64 = .int .i64 D.length ∧ e 65 = .int .i64 i ∧ e 99 = nv ∧ e 100 = .int .i64 (g.at x).next.length ∧ e 101 = .int .i64 m) ?_ (n := (g.at x).next.length)
        ⟨0, en, by omega, by omega, s1, (Sub.refl h4).keepL, s3, s4, fun q => by simp, f0, f1, f8, f9, f14, f63, f64, f65, f99, f100, f101⟩
      rintro j2 e h5 n5 ⟨m, en', hj2, hn5, hf5, hk5, hE5, hY5, hen5, f0, f1, f8, f9, f14, f63, f64, f65, f99, f100, f101⟩ Q2 hq2 hx2
      have hk35 : Keep [eid, yid] h3 h5 := s2'.trans hk5
      have hn5' : ZI ro h5 nv (g.at x).next := by
        have hsub9 : Sub (del h [eid, yid]) h5 := (s2.trans hk5).delS fun _ h => h
        obtain ⟨y', ⟨nv', q1, q2, q3⟩, q4, q5, q6, q7⟩ := (hP.sub hsub9 (RPos.sub hsub9)).at hxl
        rw [← hpx] at q1 q2 q3
        have : nv' = nv := by
          obtain ⟨y7, z4, z5, z6, z7⟩ := hP.at hxl
          have a1 := loadA_sub hsd z6
          have a2 := loadA_sub hsub9 z6
          rw [x3] at a1
          rw [q5, q1] at a2
          have a3 := Option.some.inj (a2.trans (Eq.symm a1))
          simp only [Value.agg.injEq] at a3
          have a4 := congrArg Array.toList a3
          simp [posL, setL] at a4
          exact a4
        rw [← this]; exact q2
      have hb5 : h5.get bid = _ := hk35 _ _ hb3 (by simp [hbid.1.symm, hbid.2.1.symm])
      unfold auto_builder_code_L3
      rw [f0, f99, f100, f101]
      refine lss_s (fun hm => ?_) (fun hm => ?_)
      · have hm : m < (g.at x).next.length := by omega
        have hld5 := hn5'.load hm
        have hct := contains_take hm
        generalize (g.at x).next[m] = q0 at hld5 hct
        refine condP_t (bindP_mk (hn5'.ix _ hm) (bindP_mk hld5 ?_))
        obtain ⟨es, ec, p1, p2⟩ := hE5.put q0 true
        (repeat (first | refine bindP_mk (by simp (disch := first | omega | exact Int.natCast_nonneg _ | assumption) only [BB, B2, ↓reduceIte, Nat.reduceLeDiff, Nat.reduceAdd, CC, nilCk_at, hb5, b264, p1] <;> rfl) ?_ | refine newP_mk ?_ | refine optP_mk ?_ | with_reducible first | refine condP_t ?_ | refine condP_f ?_ | refine ifP_tt' ?_ | refine ifP_ff' ?_ | refine ifP_tf' ?_ | refine ifP_ft' ?_ | refine ifP_u' ?_ | refine optP_mk0 ?_))
        refine hq2 (j2 - 1) _ _ _ _ (by omega) ⟨m + 1, _, by omega, by omega, (hf5.mono (show n5 ≤ n5 + 12 by omega)).upd (Nat.le_refl _) (by omega), hk5.upd (by simp), p2 _ (by rw [T.get_upd_same]), hY5.keep (by rw [T.get_upd_ne _ _ hey.symm]), fun q => ?_, f0, f1, f8, f9, f14, f63, f64, f65, f99, f100, rfl⟩ (Sub.refl _)
        show (if q = q0 then true else en' q) = _
        rw [hct, hen5]
        by_cases hqq : q = q0
        · rw [if_pos hqq, decide_eq_true hqq]; simp
        · rw [if_neg hqq, decide_eq_false hqq, Bool.or_false]
      · refine condP_f ?_
        refine hx2 _ _ _ _ (fun e => by cases e) (exP_e (beqP_t ?_))
        rw [List.take_of_length_le (by omega)] at hen5
        have hen6 : ∀ q, en' q = (en0 q || enD g (D.take (i + 1)) q) := fun q => by
          rw [hen5, hen', hen1, decide_eq_true hd0, Bool.true_and, Bool.or_assoc]
        have hk6 : Keep [eid, yid] h h5 := s2.trans hk5
        have g5 : h5.get (nx' + 12) = some (.cells (posL (g.at x) nv).toArray y_api_Pos) := hk35 _ _ g3 (by simp; omega)
        have pl7 : (posL (g.at x) nv)[7]? = some (.bool (g.at x).last) := rfl
        have pl6 : (posL (g.at x) nv)[6]? = some (.int .i64 (g.at x).rule) := rfl
        have fin : ∀ (e : Env) n6, n5 ≤ n6 → e 0 = ptr bid → e 1 = .int .i64 (k : Int) → e 8 = .map (some did) → e 9 = .int .i64 ru → e 14 = ptr (nx' + 12) → e 63 = lv → e 64 = .int .i64 D.length → e 65 = .int .i64 i → auto_builder_code_j5 ro Q' e h5 n6 := by
          intro e n6 hn6 f0 f1 f8 f9 f14 f63 f64 f65
          unfold auto_builder_code_j5
          rw [f9, f14]
          (repeat (first | refine bindP_mk (by simp (disch := first | omega | exact Int.natCast_nonneg _ | assumption) only [BB, B2, ↓reduceIte, Nat.reduceLeDiff, Nat.reduceAdd, CC, g5, pl7] <;> rfl) ?_ | refine newP_mk ?_ | refine optP_mk ?_ | with_reducible first | refine condP_t ?_ | refine condP_f ?_ | refine ifP_tt' ?_ | refine ifP_ff' ?_ | refine ifP_tf' ?_ | refine ifP_ft' ?_ | refine ifP_u' ?_ | refine optP_mk0 ?_))
          rw [decide_eq_true hd0, Bool.true_and] at hru
          cases hla : (g.at x).last with
          | false =>
            rw [hla, Bool.false_and, if_neg (by decide)] at hru
            (repeat (first | refine bindP_mk (by simp (disch := first | omega | exact Int.natCast_nonneg _ | assumption) only [BB, B2, ↓reduceIte, Nat.reduceLeDiff, Nat.reduceAdd, CC] <;> rfl) ?_ | refine newP_mk ?_ | refine optP_mk ?_ | with_reducible first | refine condP_t ?_ | refine condP_f ?_ | refine ifP_tt' ?_ | refine ifP_ff' ?_ | refine ifP_tf' ?_ | refine ifP_ft' ?_ | refine ifP_u' ?_ | refine optP_mk0 ?_))
            exact hj4 _ _ _ en' st' ru (by omega) (hf5.mono (by omega)) hk6 hE5 hY5 hen6 s5 f0 f1 f8 f9 f63 f64 f65 hru
          | true =>
            rw [hla, Bool.true_and] at hru
            (repeat (first | refine bindP_mk (by simp (disch := first | omega | exact Int.natCast_nonneg _ | assumption) only [BB, B2, ↓reduceIte, Nat.reduceLeDiff, Nat.reduceAdd, CC] <;> rfl) ?_ | refine newP_mk ?_ | refine optP_mk ?_ | with_reducible first | refine condP_t ?_ | refine condP_f ?_ | refine ifP_tt' ?_ | refine ifP_ff' ?_ | refine ifP_tf' ?_ | refine ifP_ft' ?_ | refine ifP_u' ?_ | refine optP_mk0 ?_))
            refine lss_s (fun v1 => ?_) (fun v1 => ?_)
            · rw [decide_eq_true v1, Bool.true_or, if_pos rfl] at hru
              (repeat (first | refine bindP_mk (by simp (disch := first | omega | exact Int.natCast_nonneg _ | assumption) only [BB, B2, ↓reduceIte, Nat.reduceLeDiff, Nat.reduceAdd, CC, g5, pl6] <;> rfl) ?_ | refine newP_mk ?_ | refine optP_mk ?_ | with_reducible first | refine condP_t ?_ | refine condP_f ?_ | refine ifP_tt' ?_ | refine ifP_ff' ?_ | refine ifP_tf' ?_ | refine ifP_ft' ?_ | refine ifP_u' ?_ | refine optP_mk0 ?_))
              exact hj4 _ _ _ en' st' (g.at x).rule (by omega) (hf5.mono (by omega)) hk6 hE5 hY5 hen6 s5 f0 f1 f8 rfl f63 f64 f65 hru
            · rw [decide_eq_false (by omega), Bool.false_or] at hru
              (repeat (first | refine bindP_mk (by simp (disch := first | omega | exact Int.natCast_nonneg _ | assumption) only [BB, B2, ↓reduceIte, Nat.reduceLeDiff, Nat.reduceAdd, CC, g5, pl6] <;> rfl) ?_ | refine newP_mk ?_ | refine optP_mk ?_ | with_reducible first | refine condP_t ?_ | refine condP_f ?_ | refine ifP_tt' ?_ | refine ifP_ff' ?_ | refine ifP_tf' ?_ | refine ifP_ft' ?_ | refine ifP_u' ?_ | refine optP_mk0 ?_))
              refine lss_s (fun v2 => ?_) (fun v2 => ?_)
              · rw [decide_eq_true v2, if_pos rfl] at hru
                (repeat (first | refine bindP_mk (by simp (disch := first | omega | exact Int.natCast_nonneg _ | assumption) only [BB, B2, ↓reduceIte, Nat.reduceLeDiff, Nat.reduceAdd, CC, g5, pl6] <;> rfl) ?_ | refine newP_mk ?_ | refine optP_mk ?_ | with_reducible first | refine condP_t ?_ | refine condP_f ?_ | refine ifP_tt' ?_ | refine ifP_ff' ?_ | refine ifP_tf' ?_ | refine ifP_ft' ?_ | refine ifP_u' ?_ | refine optP_mk0 ?_))
                exact hj4 _ _ _ en' st' (g.at x).rule (by omega) (hf5.mono (by omega)) hk6 hE5 hY5 hen6 s5 f0 f1 f8 rfl f63 f64 f65 hru
              · rw [decide_eq_false (by omega), if_neg (by decide)] at hru
                (repeat (first | refine bindP_mk (by simp (disch := first | omega | exact Int.natCast_nonneg _ | assumption) only [BB, B2, ↓reduceIte, Nat.reduceLeDiff, Nat.reduceAdd, CC, g5, pl6] <;> rfl) ?_ | refine newP_mk ?_ | refine optP_mk ?_ | with_reducible first | refine condP_t ?_ | refine condP_f ?_ | refine ifP_tt' ?_ | refine ifP_ff' ?_ | refine ifP_tf' ?_ | refine ifP_ft' ?_ | refine ifP_u' ?_ | refine optP_mk0 ?_))
                exact hj4 _ _ _ en' st' ru (by omega) (hf5.mono (by omega)) hk6 hE5 hY5 hen6 s5 f0 f1 f8 f9 f63 f64 f65 hru
        exact fin _ _ (by omega) f0 f1 f8 f9 f14 f63 f64 f65
    have hnpl : (posL (g.at x) nv)[8]? = some nv := rfl
    (repeat (first | refine bindP_mk (by simp (disch := first | omega | exact Int.natCast_nonneg _ | assumption) only [BB, B2, ↓reduceIte, Nat.reduceLeDiff, Nat.reduceAdd, CC, hlk3, nth0, nth1, nilCk_at, hb3, b265] <;> rfl) ?_ | refine newP_mk ?_ | refine optP_mk ?_ | with_reducible first | refine condP_t ?_ | refine condP_f ?_ | refine ifP_tt' ?_ | refine ifP_ff' ?_ | refine ifP_tf' ?_ | refine ifP_ft' ?_ | refine ifP_u' ?_ | refine optP_mk0 ?_))
    -- what stays
    have hst2 : ∀ (b : Bool), b = (decide (d = 0) || decide (d = 2)) → ∀ q, (if q = x then b else st q) = staysZ (D.take (i + 1)) q := fun b hb q => by
      rw [hst1, ← hst']
      by_cases hq9 : q = x
      · subst hq9; rw [if_pos rfl, hst', hst0, Bool.false_or, decide_eq_true rfl, Bool.true_and, hb]
      · rw [if_neg hq9, decide_eq_false (fun e => hq9 e.symm), Bool.false_and, Bool.or_false]
    rcases hdi with rfl | rfl | rfl | rfl
    · simp only [if_true, Option.isSome_none, Option.getD_none]
      obtain ⟨es, ec, p1, p2⟩ := hY3.put x false
      (repeat (first | refine bindP_mk (by simp (disch := first | omega | exact Int.natCast_nonneg _ | assumption) only [BB, B2, ↓reduceIte, Nat.reduceLeDiff, Nat.reduceAdd, CC, p1] <;> rfl) ?_ | refine newP_mk ?_ | refine optP_mk ?_ | with_reducible first | refine condP_t ?_ | refine condP_f ?_ | refine ifP_tt' ?_ | refine ifP_ff' ?_ | refine ifP_tf' ?_ | refine ifP_ft' ?_ | refine ifP_u' ?_ | refine optP_mk0 ?_))
      have g4 : (h3.upd yid (some (.map es ec))).get (nx' + 12) = _ := (T.get_upd_ne _ _ (by omega)).trans g3
      (repeat (first | refine bindP_mk (by simp (disch := first | omega | exact Int.natCast_nonneg _ | assumption) only [BB, B2, ↓reduceIte, Nat.reduceLeDiff, Nat.reduceAdd, CC, g4, hnpl, hnl] <;> rfl) ?_ | refine newP_mk ?_ | refine optP_mk ?_ | with_reducible first | refine condP_t ?_ | refine condP_f ?_ | refine ifP_tt' ?_ | refine ifP_ff' ?_ | refine ifP_tf' ?_ | refine ifP_ft' ?_ | refine ifP_u' ?_ | refine optP_mk0 ?_))
      exact hL3 _ _ _ _ (by omega) ((hf3.mono (by omega)).upd (Nat.le_refl _) (by omega)) (hk3.upd (by simp)) (((Sub.refl h3).keepL).upd (by simp)) (hE3.keep (by rw [T.get_upd_ne _ _ hey])) (p2 _ (by rw [T.get_upd_same])) (hst2 false rfl) (by decide) f0 f1 f8 f9 rfl f63 f64 f65 rfl rfl rfl
    · have e01 : ¬ ((0 : Int) = -1) := by decide
      simp only [if_neg e01, Option.isSome_some, Option.getD_some]
      obtain ⟨es, ec, p1, p2⟩ := hY3.put x true
      (repeat (first | refine bindP_mk (by simp (disch := first | omega | exact Int.natCast_nonneg _ | assumption) only [BB, B2, ↓reduceIte, Nat.reduceLeDiff, Nat.reduceAdd, CC, p1] <;> rfl) ?_ | refine newP_mk ?_ | refine optP_mk ?_ | with_reducible first | refine condP_t ?_ | refine condP_f ?_ | refine ifP_tt' ?_ | refine ifP_ff' ?_ | refine ifP_tf' ?_ | refine ifP_ft' ?_ | refine ifP_u' ?_ | refine optP_mk0 ?_))
      refine hj4 _ _ _ en _ ru (by omega) ((hf3.mono (by omega)).upd (Nat.le_refl _) (by omega)) (hk3.upd (by simp)) (hE3.keep (by rw [T.get_upd_ne _ _ hey])) (p2 _ (by rw [T.get_upd_same])) (fun q => ?_) (hst2 true rfl) f0 f1 f8 f9 f63 f64 f65 ?_
      · rw [hen', hen1]; simp
      · simpa using hru
    · have e01 : ¬ ((1 : Int) = -1) := by decide
      simp only [if_neg e01, Option.isSome_some, Option.getD_some]
      obtain ⟨es, ec, p1, p2⟩ := hY3.put x false
      (repeat (first | refine bindP_mk (by simp (disch := first | omega | exact Int.natCast_nonneg _ | assumption) only [BB, B2, ↓reduceIte, Nat.reduceLeDiff, Nat.reduceAdd, CC, p1] <;> rfl) ?_ | refine newP_mk ?_ | refine optP_mk ?_ | with_reducible first | refine condP_t ?_ | refine condP_f ?_ | refine ifP_tt' ?_ | refine ifP_ff' ?_ | refine ifP_tf' ?_ | refine ifP_ft' ?_ | refine ifP_u' ?_ | refine optP_mk0 ?_))
      have g4 : (h3.upd yid (some (.map es ec))).get (nx' + 12) = _ := (T.get_upd_ne _ _ (by omega)).trans g3
      (repeat (first | refine bindP_mk (by simp (disch := first | omega | exact Int.natCast_nonneg _ | assumption) only [BB, B2, ↓reduceIte, Nat.reduceLeDiff, Nat.reduceAdd, CC, g4, hnpl, hnl] <;> rfl) ?_ | refine newP_mk ?_ | refine optP_mk ?_ | with_reducible first | refine condP_t ?_ | refine condP_f ?_ | refine ifP_tt' ?_ | refine ifP_ff' ?_ | refine ifP_tf' ?_ | refine ifP_ft' ?_ | refine ifP_u' ?_ | refine optP_mk0 ?_))
      exact hL3 _ _ _ _ (by omega) ((hf3.mono (by omega)).upd (Nat.le_refl _) (by omega)) (hk3.upd (by simp)) (((Sub.refl h3).keepL).upd (by simp)) (hE3.keep (by rw [T.get_upd_ne _ _ hey])) (p2 _ (by rw [T.get_upd_same])) (hst2 false rfl) (by decide) f0 f1 f8 f9 rfl f63 f64 f65 rfl rfl rfl
    · have e01 : ¬ ((2 : Int) = -1) := by decide
      simp only [if_neg e01, Option.isSome_some, Option.getD_some]
      obtain ⟨es, ec, p1, p2⟩ := hY3.put x true
      (repeat (first | refine bindP_mk (by simp (disch := first | omega | exact Int.natCast_nonneg _ | assumption) only [BB, B2, ↓reduceIte, Nat.reduceLeDiff, Nat.reduceAdd, CC, p1] <;> rfl) ?_ | refine newP_mk ?_ | refine optP_mk ?_ | with_reducible first | refine condP_t ?_ | refine condP_f ?_ | refine ifP_tt' ?_ | refine ifP_ff' ?_ | refine ifP_tf' ?_ | refine ifP_ft' ?_ | refine ifP_u' ?_ | refine optP_mk0 ?_))
      have g4 : (h3.upd yid (some (.map es ec))).get (nx' + 12) = _ := (T.get_upd_ne _ _ (by omega)).trans g3
      (repeat (first | refine bindP_mk (by simp (disch := first | omega | exact Int.natCast_nonneg _ | assumption) only [BB, B2, ↓reduceIte, Nat.reduceLeDiff, Nat.reduceAdd, CC, g4, hnpl, hnl] <;> rfl) ?_ | refine newP_mk ?_ | refine optP_mk ?_ | with_reducible first | refine condP_t ?_ | refine condP_f ?_ | refine ifP_tt' ?_ | refine ifP_ff' ?_ | refine ifP_tf' ?_ | refine ifP_ft' ?_ | refine ifP_u' ?_ | refine optP_mk0 ?_))
      exact hL3 _ _ _ _ (by omega) ((hf3.mono (by omega)).upd (Nat.le_refl _) (by omega)) (hk3.upd (by simp)) (((Sub.refl h3).keepL).upd (by simp)) (hE3.keep (by rw [T.get_upd_ne _ _ hey])) (p2 _ (by rw [T.get_upd_same])) (hst2 true rfl) (by decide) f0 f1 f8 f9 rfl f63 f64 f65 rfl rfl rfl
  · refine condP_f ?_
    rw [drop_all (by omega)] at hru
    rw [List.take_of_length_le (by omega)] at hen' hst'
    have hru : ru = rf := hru
    subst hru
    exact hx _ _ _ _ (fun e => by cases e) (hQ _ _ _ en st (by omega) (hf'.mono (by omega)) hkp hE' hY' hen' hst' f0 f1 f9)
end
end V
end Go.Proofs.Ytmmdcdjkmakgpaa
set_option linter.unusedVariables false
set_option linter.unusedSimpArgs false
namespace Go.Proofs.Ytmmdcdjkmakgpaa
namespace V
open PA
attribute [local irreducible] bindP ifP condP newP optP exP beqP
theorem Grow.mono {h : T Obj} {lo lo' : Nat} {cs cs' : List (List Value)} {S S' : List StateD} (hg : Grow h lo cs cs' S S') (hl : lo' ≤ lo) : Grow h lo' cs cs' S S' := by
  obtain ⟨ds, T, h1, h2, h3, h4⟩ := hg
  exact ⟨ds, T, h1, h2, h3, fun i x s hx hs => (h4 i x s hx hs).mono hl⟩
theorem RowOwn.mono {h : T Obj} {lo lo' : Nat} {mcs : List (List Value)} {row : List MoveD} (hr : RowOwn h lo mcs row) (hl : lo' ≤ lo) : RowOwn h lo' mcs row := ⟨hr.1, fun i x m hx hm => by
  obtain ⟨ov, h1, h2⟩ := hr.2 i x m hx hm
  exact ⟨ov, h1, h2.mono hl⟩⟩
theorem digs_len (g : GlD) (l : List Int) (c : Int) : (digs g l c).length = l.length := by
  have := congrArg List.length (digs_fst g l c)
  simpa using this
section
variable {ro : Ro} {g : GlD} {bid nid kid eid yid sid k : Nat} {av bv fv cv lv rv uv wv : Value} {c : List Nat} {n : Int} {S : List StateD} {cs : List (List Value)}
set_option maxRecDepth 8000 in
set_option maxHeartbeats 2000000 in
theorem auto_code_c {s : StateD} {ws : List Value} {B : List Nat} {code : Int} {en0 st0 : Int → Bool} (hr : rightD g = true) (hBl : B.length ≤ 256) (hc0 : 0 ≤ code) (hc1 : code ≤ 255) (hey : eid ≠ yid) (hen : eid ≠ nid) (hek : eid ≠ kid) (hyn : yid ≠ nid) (hyk : yid ≠ kid)
    {h : T Obj} {nx : Nat} {K : KV} (hf : Fr h nx) (hB : Bd h g bid nid kid eid yid sid av bv fv c n cv S cs) (hE : BMap h eid en0) (hY : BMap h yid st0)
    (hP : SlR ro (del h (XL bid kid eid yid sid uv wv)) bv 9 (RPos ro (del h (XL bid kid eid yid sid uv wv))) g.p) (ha : ZI ro (del h (XL bid kid eid yid sid uv wv)) av g.first) (hfv : SlR ro (del h (XL bid kid eid yid sid uv wv)) fv 1 RU8 B)
    (hx : cs[k]? = some [lv, rv, uv, wv]) (hs : S[k]? = some s) (hlv : ZI ro (del h (XL bid kid eid yid sid uv wv)) lv s.l) (hrv : ZI ro (del h (XL bid kid eid yid sid uv wv)) rv s.r) (hz : rz (-1) g.p.length s.l = true) (hu : OwnT h uv 1 y_int (intsZ s.rule) 0) (hw : OwnT h wv 1 y_s_api_Move (onesC ws) 0) (hR : s.rule.length ≤ 1000000) (hws : ws.length ≤ 1000000)
    (hKe : (rowZ g (entersZ g k (digs g s.l code)) (staysZ (digs g s.l code)) B S).1 ≠ 0 → ∀ h' nx', nx ≤ nx' → Fr h' nx' → Keep [bid, kid, eid, yid, sid] h h' → K (.int .i64 (rowZ g (entersZ g k (digs g s.l code)) (staysZ (digs g s.l code)) B S).1) h' nx')
    (hK : (rowZ g (entersZ g k (digs g s.l code)) (staysZ (digs g s.l code)) B S).1 = 0 → ∀ h' nx' sid' cs' uv' wv' rowv mcs en st, nx ≤ nx' → Fr h' nx' → Keep (XL bid kid eid yid sid uv wv) h h' → (sid' = sid ∨ nx ≤ sid') → Bd h' g bid nid kid eid yid sid' av bv fv c n cv (rowZ g (entersZ g k (digs g s.l code)) (staysZ (digs g s.l code)) B S).2.2 (cs'.set k [lv, rv, uv', wv']) →
      Grow (del h' (XL bid kid eid yid sid' uv' wv')) nx cs cs' S (rowZ g (entersZ g k (digs g s.l code)) (staysZ (digs g s.l code)) B S).2.2 → OwnT h' uv' 1 y_int (intsZ (s.rule ++ [ruleZ g (-1) (digs g s.l code)])) nx → OwnT h' wv' 1 y_s_api_Move (onesC (ws ++ [rowv])) nx → OwnT (del h' (XL bid kid eid yid sid' uv' wv')) rowv 2 y_api_Move mcs nx →
      RowOwn (del h' (XL bid kid eid yid sid' uv' wv')) nx mcs (rowZ g (entersZ g k (digs g s.l code)) (staysZ (digs g s.l code)) B S).2.1 → BMap h' eid en → BMap h' yid st → K (.int .i64 0) h' nx') :
    callP Try.prog ro i_auto_builder_code [ptr bid, .int .i64 (k : Int), .int .i64 code] h nx K := by
  apply auto_builder_code_of
  unfold auto_builder_code
  obtain ⟨hgl, hfr, hmay⟩ := right_parts hr
  have hbk := hB.blk
  have hkl : k < cs.length := (List.getElem?_eq_some_iff.1 hx).1
  have b262 := bldL_262 (av := av) (bv := bv) (nv := .map (some nid)) (fv := fv) (n := n) (cv := cv) (sv := .slice (some (own sid 4)) cs.length cs.length) (kv := .map (some kid)) (ev := .map (some eid)) (yv := .map (some yid)) hB.hc
  have b264 := bldL_264 (av := av) (bv := bv) (nv := .map (some nid)) (fv := fv) (n := n) (cv := cv) (sv := .slice (some (own sid 4)) cs.length cs.length) (kv := .map (some kid)) (ev := .map (some eid)) (yv := .map (some yid)) hB.hc
  have b265 := bldL_265 (av := av) (bv := bv) (nv := .map (some nid)) (fv := fv) (n := n) (cv := cv) (sv := .slice (some (own sid 4)) cs.length cs.length) (kv := .map (some kid)) (ev := .map (some eid)) (yv := .map (some yid)) hB.hc
  have b0 := bldL_0 (av := av) (bv := bv) (nv := .map (some nid)) (fv := fv) (c := c) (n := n) (cv := cv) (sv := .slice (some (own sid 4)) cs.length cs.length) (kv := .map (some kid)) (ev := .map (some eid)) (yv := .map (some yid))
  have hix := ixSl_own' (id := sid) (z := 4) (cap := cs.length) hkl
  have hlda : loadA ro h 4 (at_ sid (k * 4) 0) = some (.agg #[lv, rv, uv, wv]) := by
    have := (hB.own.sl (ro := ro)).loadA hx
    rwa [elPtr_own] at this
  have hul := hu.ok
  have hwl := hw.ok
  have hXs : Sub (del h (XL bid kid eid yid sid uv wv)) h := del_sub _ _
  have hlvk := (hlv.sub hXs).ok
  have hrvk := (hrv.sub hXs).ok
  have hll : s.l.length ≤ 512 := by have := rz_lenN hz (by omega); omega
  obtain ⟨fe1, ce1, me1⟩ := hE.obj
  obtain ⟨fy1, cy1, my1⟩ := hY.obj
  have hel := hf.lt' me1
  have hyl := hf.lt' my1
  have hbid : eid ≠ bid ∧ yid ≠ bid ∧ eid ≠ sid ∧ yid ≠ sid := by
    have h1 := hB.blk
    have h2 := hB.row
    refine ⟨?_, ?_, ?_, ?_⟩ <;> rintro rfl
    · rw [me1] at h1; cases h1
    · rw [my1] at h1; cases h1
    · rw [me1] at h2; cases h2
    · rw [my1] at h2; cases h2
  have hXe : ∀ q, q ∈ [eid, yid] → q ∈ XL bid kid eid yid sid uv wv := by
    intro q hq
    unfold XL
    simp only [List.mem_cons, List.not_mem_nil, or_false] at hq
    simp only [List.mem_append, List.mem_cons, List.not_mem_nil, or_false]
    omega
  have hXb : ∀ q, q ∈ [bid, kid, sid] → q ∈ XL bid kid eid yid sid uv wv := by
    intro q hq
    unfold XL
    simp only [List.mem_cons, List.not_mem_nil, or_false] at hq
    simp only [List.mem_append, List.mem_cons, List.not_mem_nil, or_false]
    omega
  (repeat (first | refine bindP_mk (by simp (disch := first | omega | exact Int.natCast_nonneg _ | assumption) only [BB, B2, ↓reduceIte, Nat.reduceLeDiff, Nat.reduceAdd, CC, nilCk_at, hbk, b262, hix, hlda] <;> rfl) ?_ | refine newP_mk ?_ | refine optP_mk ?_ | with_reducible first | refine condP_t ?_ | refine condP_f ?_ | refine ifP_tt' ?_ | refine ifP_ff' ?_ | refine ifP_tf' ?_ | refine ifP_ft' ?_ | refine ifP_u' ?_ | refine optP_mk0 ?_))
  refine local_mk zer_State rfl (x := [lv, rv, uv, wv]) rfl rfl (by simp only [List.all_cons, List.all_nil, hul, hwl, hlvk, hrvk]; rfl) hf (show nx ≤ nx + 9 by omega) fun h9 hs9 hf9 g9 _ => ?_
  refine bindP_mk (loadA_all (l := [lv, rv, uv, wv]) g9 rfl) ?_
  obtain ⟨fn, hm1, hm2⟩ := hB.num
  refine auto_digits_c (g := g) (many := g.p.length) (by omega) hz hll hc0 hc1 (hf9.mono (show _ ≤ nx + 15 by omega)) (hs9 _ _ hbk) (hm1.sub hs9) hm2 ((hlv.sub hXs).sub hs9) fun h12 n13 did fd hn13 hs12 hf12 hd1 hd2 hmd hdo => ?_
  have hs := hs9.trans hs12
  have hb12 := hs _ _ hbk
  have hD1 := digs_fst g s.l code
  have hD2 := digs_snd g s.l code hc0
  have hD3 := digs_len g s.l code
  have hZd : ∀ q, entersZ g k (digs g s.l code) q = ((decide (k = 0) && g.first.contains q) || enD g (digs g s.l code) q) := fun q => rfl
  generalize digs g s.l code = D at hKe hK hdo hD1 hD2 hD3 hZd
  have hE12 : BMap h12 eid en0 := by obtain ⟨f, q1, q2⟩ := hE; exact ⟨f, q1.sub hs, q2⟩
  have hY12 : BMap h12 yid st0 := by obtain ⟨f, q1, q2⟩ := hY; exact ⟨f, q1.sub hs, q2⟩
  have hndid : did ≠ eid ∧ did ≠ yid := by omega
  obtain ⟨c1, p1⟩ := hE12.clear
  (repeat (first | refine bindP_mk (by simp (disch := first | omega | exact Int.natCast_nonneg _ | assumption) only [BB, B2, ↓reduceIte, Nat.reduceLeDiff, Nat.reduceAdd, CC, nilCk_at, hb12, b264, und_mib, p1] <;> rfl) ?_ | refine newP_mk ?_ | refine optP_mk ?_ | with_reducible first | refine condP_t ?_ | refine condP_f ?_ | refine ifP_tt' ?_ | refine ifP_ff' ?_ | refine ifP_tf' ?_ | refine ifP_ft' ?_ | refine ifP_u' ?_ | refine optP_mk0 ?_))
  have hb17 : (h12.upd eid (some (.map #[] c1))).get bid = _ := (T.get_upd_ne _ _ hbid.1.symm).trans hb12
  have hY17 : BMap (h12.upd eid (some (.map #[] c1))) yid st0 := hY12.keep (T.get_upd_ne _ _ hey.symm)
  obtain ⟨c2, p2⟩ := hY17.clear
  (repeat (first | refine bindP_mk (by simp (disch := first | omega | exact Int.natCast_nonneg _ | assumption) only [BB, B2, ↓reduceIte, Nat.reduceLeDiff, Nat.reduceAdd, CC, nilCk_at, hb17, b265, und_mib, p2] <;> rfl) ?_ | refine newP_mk ?_ | refine optP_mk ?_ | with_reducible first | refine condP_t ?_ | refine condP_f ?_ | refine ifP_tt' ?_ | refine ifP_ff' ?_ | refine ifP_tf' ?_ | refine ifP_ft' ?_ | refine ifP_u' ?_ | refine optP_mk0 ?_))
  have hk21 : Keep [eid, yid] h12 ((h12.upd eid (some (.map #[] c1))).upd yid (some (.map #[] c2))) := (((Sub.refl h12).keepL).upd (by simp)).upd (by simp)
  have hf21 : Fr ((h12.upd eid (some (.map #[] c1))).upd yid (some (.map #[] c2))) n13 := (hf12.upd (Nat.le_refl _) (by omega)).upd (Nat.le_refl _) (by omega)
  have hE21 : BMap ((h12.upd eid (some (.map #[] c1))).upd yid (some (.map #[] c2))) eid fun _ => false := BMap.new (c := c1) (by rw [T.get_upd_ne _ _ hey, T.get_upd_same])
  have hY21 : BMap ((h12.upd eid (some (.map #[] c1))).upd yid (some (.map #[] c2))) yid fun _ => false := BMap.new (c := c2) (by rw [T.get_upd_same])
  generalize (h12.upd eid (some (.map #[] c1))).upd yid (some (.map #[] c2)) = h21 at hk21 hf21 hE21 hY21
  have hBk : ∀ h4, Keep [eid, yid] h12 h4 → Bd h4 g bid nid kid eid yid sid av bv fv c n cv S cs := fun h4 hk4 => (hB.sub hs).keepN fun q o hq9 hd9 => hk4 q o hq9 (by
    simp only [List.mem_cons, List.not_mem_nil, or_false, not_or]
    rcases hd9 with rfl | rfl | rfl | rfl
    · exact ⟨hbid.1.symm, hbid.2.1.symm⟩
    · exact ⟨hen.symm, hyn.symm⟩
    · exact ⟨hek.symm, hyk.symm⟩
    · exact ⟨hbid.2.2.1.symm, hbid.2.2.2.symm⟩)
  -- behind the first places
  have hj1 : ∀ (e : Env) (h4 : T Obj) (n4 : Nat) (en1 : Int → Bool), n13 ≤ n4 → Fr h4 n4 → Keep [eid, yid] h12 h4 → BMap h4 eid en1 → BMap h4 yid (fun _ => false) → (∀ q, en1 q = (decide (k = 0) && g.first.contains q)) →
      e 0 = ptr bid → e 1 = .int .i64 (k : Int) → e 7 = ptr (nx + 9) → e 8 = .map (some did) → e 9 = .int .i64 (-1) → auto_builder_code_j1 ro K e h4 n4 := by
    intro e h4 n4 en1 hn4 hf4 hk4 hE4 hY4 hen1 f0 f1 f7 f8 f9
    have hkh4 : Keep [eid, yid] h h4 := (hs.keepL).trans hk4
    unfold auto_builder_code_j1
    rw [f7]
    have g4 : h4.get (nx + 9) = some (.cells [lv, rv, uv, wv].toArray y_api_State) := hk4 _ _ (hs12 _ _ g9) (by simp; omega)
    have hsD : Sub (del h (XL bid kid eid yid sid uv wv)) (del h4 [eid, yid]) := hkh4.del hXe fun q hq => .inl (hXe q hq)
    have hl4 : ZI ro (del h4 [eid, yid]) lv (D.map (·.1)) := by rw [hD1]; exact hlv.sub hsD
    have hlen4 := (hl4.sub (del_sub _ _)).len
    rw [List.length_map] at hlen4
    (repeat (first | refine bindP_mk (by simp (disch := first | omega | exact Int.natCast_nonneg _ | assumption) only [BB, B2, ↓reduceIte, Nat.reduceLeDiff, Nat.reduceAdd, CC, g4, hlen4] <;> rfl) ?_ | refine newP_mk ?_ | refine optP_mk ?_ | with_reducible first | refine condP_t ?_ | refine condP_f ?_ | refine ifP_tt' ?_ | refine ifP_ff' ?_ | refine ifP_tf' ?_ | refine ifP_ft' ?_ | refine ifP_u' ?_ | refine optP_mk0 ?_))
    have hmd4 : MapG injI h4 did fd := by
      obtain ⟨es, c9, ps, a1, a2, a3⟩ := hmd
      exact ⟨es, c9, ps, hk4 _ _ a1 (by simp [hndid.1, hndid.2]), a2, a3⟩
    refine code_L2_c (K := K) (k := k) hr (by rw [hD1]; exact hz) hD2 hey hen hek hyn hyk (hf4.mono (show n4 ≤ n4 + 4 by omega)) (hBk h4 hk4) hE4 hY4 hmd4 hdo hndid.1 hndid.2 (hP.sub hsD (RPos.sub hsD)) hl4 ?_ ?_ ?_ ?_ ?_ ?_ ?_ ?_
    · exact f0
    · exact f1
    · exact f8
    · exact f9
    · rfl
    · rfl
    · rfl
    intro e' h5 n5 en st hn5 hf5 hk5 hE5 hY5 hen5 hst5 f0 f1 f9
    refine exP_e (beqP_t ?_)
    have hkh5 : Keep [eid, yid] h h5 := hkh4.trans hk5
    have hsB : Sub (del h (XL bid kid eid yid sid uv wv)) (del h5 [bid, kid, sid]) := hkh5.del hXe fun q hq => .inl (hXb q hq)
    have hE5' : BMap h5 eid (entersZ g k D) := hE5.ext fun q => by rw [hen5, hen1, hZd]
    have hY5' : BMap h5 yid (staysZ D) := hY5.ext hst5
    have hu5 : OwnT h5 uv 1 y_int (intsZ s.rule) 0 := hu.keepK hkh5 fun id hid => by
      obtain ⟨_, z⟩ := hu.blk hid
      simp only [List.mem_cons, List.not_mem_nil, or_false, not_or]
      refine ⟨?_, ?_⟩ <;> rintro rfl
      · rw [me1] at z; cases z
      · rw [my1] at z; cases z
    have hw5 : OwnT h5 wv 1 y_s_api_Move (onesC ws) 0 := hw.keepK hkh5 fun id hid => by
      obtain ⟨_, z⟩ := hw.blk hid
      simp only [List.mem_cons, List.not_mem_nil, or_false, not_or]
      refine ⟨?_, ?_⟩ <;> rintro rfl
      · rw [me1] at z; cases z
      · rw [my1] at z; cases z
    refine code_j2_c hgl hBl hf5 (hBk h5 (hk4.trans hk5)) hE5' hY5' hek hyk (hP.sub hsB (RPos.sub hsB)) (hfv.sub hsB fun _ _ h => h) hx hu5 hw5 hR hws f0 f1 f9 (fun hz9 h' nx' q1 q2 q3 => ?_) fun hz9 h' nx' sid' cs' uv' wv' rowv mcs q1 q2 q3 q4 q5 q6 q7 q8 q9 q10 q11 q12 => ?_
    · refine hKe hz9 h' nx' (by omega) q2 ?_
      refine (hkh5.mono ?_).trans (q3.mono ?_)
      · intro q hq; simp only [List.mem_cons, List.not_mem_nil, or_false] at hq ⊢; omega
      · intro q hq; simp only [List.mem_cons, List.not_mem_nil, or_false] at hq ⊢; omega
    · refine hK hz9 h' nx' sid' cs' uv' wv' rowv mcs _ _ (by omega) q2 ?_ (by omega) q5 (q6.mono (by omega)) (q7.mono (by omega)) (q8.mono (by omega)) (q9.mono (by omega)) (q10.mono (by omega)) q11 q12
      refine (hkh5.mono hXe).trans (q3.mono ?_)
      intro q hq
      rcases List.mem_append.1 hq with hq | hq
      · exact hXb q hq
      · unfold XL; exact List.mem_append.2 (.inr hq)
  refine eql_s (fun hk0 => ?_) (fun hk0 => ?_)
  · have hk0 : k = 0 := by omega
    have hb21 := (hBk h21 hk21).blk
    have hsD21 : Sub (del h (XL bid kid eid yid sid uv wv)) h21 := ((hs.keepL).trans hk21).delS hXe
    have ha21 := ha.sub hsD21
    have hal := ha21.len
    have hfl : g.first.length ≤ 512 := by have := rz_lenN hfr (by omega); omega
    (repeat (first | refine bindP_mk (by simp (disch := first | omega | exact Int.natCast_nonneg _ | assumption) only [BB, B2, ↓reduceIte, Nat.reduceLeDiff, Nat.reduceAdd, CC, nilCk_at, hb21, b0, hal] <;> rfl) ?_ | refine newP_mk ?_ | refine optP_mk ?_ | with_reducible first | refine condP_t ?_ | refine condP_f ?_ | refine ifP_tt' ?_ | refine ifP_ff' ?_ | refine ifP_tf' ?_ | refine ifP_ft' ?_ | refine ifP_u' ?_ | refine optP_mk0 ?_))
    refine loopP_rule (fun j e h' nx' => ∃ (i : Nat) (en1 : Int → Bool), i + j = g.first.length ∧ n13 ≤ nx' ∧ Fr h' nx' ∧ Keep [eid, yid] h12 h' ∧ BMap h' eid en1 ∧ BMap h' yid (fun _ => false) ∧ (∀ q, en1 q = (g.first.take i).contains q) ∧
      e 0 = ptr bid ∧ e 1 = .int .i64 (k : Int) ∧ e 7 = ptr (nx + 9) ∧ e 8 = .map (some did) ∧ e 9 = .int .i64 (-1) ∧ e 50 = av ∧ e 51 = .int .i64 g.first.length ∧ e 52 = .int .i64 i) ?_ (n := g.first.length)
      ⟨0, _, by omega, by omega, hf21.mono (by omega), hk21, hE21, hY21, fun q => by simp, rfl, rfl, rfl, rfl, rfl, rfl, rfl, rfl⟩
    rintro j e h' nx' ⟨i, en1, hj, hnx, hf', hk', hE', hY', hen1, f0, f1, f7, f8, f9, f50, f51, f52⟩ Q' hq hx9
    have hb' := (hBk h' hk').blk
    have ha' := ha.sub (((hs.keepL).trans hk').delS hXe)
    unfold auto_builder_code_L4
    rw [f0, f50, f51, f52]
    have hel' : eid < nx' := by obtain ⟨_, _, q⟩ := hE'.obj; exact hf'.lt' q
    refine lss_s (fun hi => ?_) (fun hi => ?_)
    · have hi : i < g.first.length := by omega
      have hld := ha'.load hi
      have hct := contains_take hi
      generalize g.first[i] = q0 at hld hct
      refine condP_t (bindP_mk (ha'.ix _ hi) (bindP_mk hld ?_))
      obtain ⟨es, ec, r1, r2⟩ := hE'.put q0 true
      (repeat (first | refine bindP_mk (by simp (disch := first | omega | exact Int.natCast_nonneg _ | assumption) only [BB, B2, ↓reduceIte, Nat.reduceLeDiff, Nat.reduceAdd, CC, nilCk_at, hb', b264, r1] <;> rfl) ?_ | refine newP_mk ?_ | refine optP_mk ?_ | with_reducible first | refine condP_t ?_ | refine condP_f ?_ | refine ifP_tt' ?_ | refine ifP_ff' ?_ | refine ifP_tf' ?_ | refine ifP_ft' ?_ | refine ifP_u' ?_ | refine optP_mk0 ?_))
      refine hq (j - 1) _ _ _ _ (by omega) ⟨i + 1, _, by omega, by omega, (hf'.mono (show nx' ≤ nx' + 12 by omega)).upd (Nat.le_refl _) (by omega), hk'.upd (by simp), r2 _ (by rw [T.get_upd_same]), hY'.keep (by rw [T.get_upd_ne _ _ hey.symm]), fun q => ?_, f0, f1, f7, f8, f9, f50, f51, rfl⟩ (Sub.refl _)
      show (if q = q0 then true else en1 q) = _
      rw [hct, hen1]
      by_cases hqq : q = q0
      · rw [if_pos hqq, decide_eq_true hqq]; simp
      · rw [if_neg hqq, decide_eq_false hqq, Bool.or_false]
    · refine condP_f ?_
      refine hx9 _ _ _ _ (fun e => by cases e) (exP_e (beqP_t ?_))
      rw [List.take_of_length_le (by omega)] at hen1
      exact hj1 _ _ _ en1 (by omega) (hf'.mono (by omega)) hk' hE' hY' (fun q => by rw [hen1, decide_eq_true hk0, Bool.true_and]) f0 f1 f7 f8 f9
  · have hk0 : ¬ k = 0 := by omega
    (repeat (first | refine bindP_mk (by simp (disch := first | omega | exact Int.natCast_nonneg _ | assumption) only [BB, B2, ↓reduceIte, Nat.reduceLeDiff, Nat.reduceAdd, CC] <;> rfl) ?_ | refine newP_mk ?_ | refine optP_mk ?_ | with_reducible first | refine condP_t ?_ | refine condP_f ?_ | refine ifP_tt' ?_ | refine ifP_ff' ?_ | refine ifP_tf' ?_ | refine ifP_ft' ?_ | refine ifP_u' ?_ | refine optP_mk0 ?_))
    exact hj1 _ _ _ _ (by omega) (hf21.mono (by omega)) hk21 hE21 hY21 (fun q => by rw [decide_eq_false hk0, Bool.false_and]) rfl rfl rfl rfl rfl
end
end V
end Go.Proofs.Ytmmdcdjkmakgpaa