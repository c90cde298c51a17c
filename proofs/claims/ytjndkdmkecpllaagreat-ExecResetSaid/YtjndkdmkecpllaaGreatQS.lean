/- Texts laid one behind the other: XA, XC, XD, XE, XG, XH, XI, XM, XU, XW, XX, XY, XZ, YA, YB, XT, GP, YC, XO, GL, GS, YE, LReset.
   No condition. -/
import Derived.KernelRfl
import Derived.Test.YtjndkdmkecpllaaGreatQS4
set_option linter.unusedVariables false
set_option linter.unusedSimpArgs false
set_option linter.unusedVariables false
set_option linter.unusedSimpArgs false
namespace Go.Proofs.YtjndkdmkecpllaaGreat
namespace V
attribute [local irreducible] bindP ifP condP newP optP exP beqP
abbrev RgD := List Nat × Nat
def noR : RgD := ([], 0)
def clrR (r : RgD) : RgD := ([], r.2 + 1)
def putR (r : RgD) : RgD := (putL r.1, r.2 + 1)
def incR (n : Nat) (r : RgD) : RgD := (incL n r.1, r.2 + 1)
def rgOp (n o : Nat) (r : RgD) : RgD := if o = 3 then putR (clrR r) else if o = 2 then putR (incR n r) else incR n r
structure MacD where
  cur : Int
  rs : List RgD
  steps : Nat
def cntAt (C : List (Int × Int)) (c : Int) : Int × Int := C.getD c.toNat (0, 0)
def rgAt (rs : List RgD) (c : Int) : RgD := rs.getD c.toNat noR
def digM (C : List (Int × Int)) (rs : List RgD) (c : Int) : Nat :=
  if (rgAt rs c).1.length = 0 then 0 else if (((rgAt rs c).1.getD 0 0 : Nat) : Int) < (cntAt C c).1 then 0 else if (((rgAt rs c).1.getD ((rgAt rs c).1.length - 1) 0 : Nat) : Int) < (cntAt C c).2 then 2 else 1
def codeM (C : List (Int × Int)) (rs : List RgD) : List Int → Nat
  | [] => 0
  | c :: r => digM C rs c + 3 * codeM C rs r
def noMv : MoveD := ⟨-1, []⟩
def stAt (d : AutoD) (m : MacD) : StateD := d.states.getD m.cur.toNat noS
def ruleM (d : AutoD) (m : MacD) : Int := if m.cur = -1 then -1 else (stAt d m).rule.getD (codeM d.counts m.rs (stAt d m).r) 0
def moveM (d : AutoD) (m : MacD) (b : Nat) : MoveD := ((stAt d m).next.getD (codeM d.counts m.rs (stAt d m).r) []).getD (d.c.getD b 0) noMv
def nextR (d : AutoD) (t : Int) : List Int := if t = -1 then [] else (d.states.getD t.toNat noS).r
def clrsM (nx : List Int) : List Int → List RgD → List RgD
  | [], rs => rs
  | c :: r, rs => clrsM nx r (if nx.contains c then rs else rs.set c.toNat (clrR (rgAt rs c)))
def opsM (C : List (Int × Int)) : List Int → List Nat → List RgD → List RgD
  | c :: r, o :: os, rs => opsM C r os (rs.set c.toNat (rgOp (cntAt C c).2.toNat o (rgAt rs c)))
  | _, _, rs => rs
def onM (d : AutoD) (m : MacD) (b : Nat) : Bool := !decide (m.cur = -1) && !decide ((moveM d m b).to = -1)
def stepM (d : AutoD) (m : MacD) (b : Nat) : MacD :=
  if m.cur = -1 then m else ⟨(moveM d m b).to, opsM d.counts (nextR d (moveM d m b).to) (moveM d m b).ops (clrsM (nextR d (moveM d m b).to) (stAt d m).r m.rs), m.steps + 1 + (stAt d m).r.length⟩
def rsetR (r : RgD) : RgD := if r.1.length = 0 then r else clrR r
def resetM (m : MacD) : MacD := ⟨0, m.rs.map rsetR, m.steps⟩
def newM (d : AutoD) : MacD := ⟨0, d.counts.map fun _ => noR, 0⟩
def MOk (d : AutoD) (m : MacD) : Prop := (m.cur = -1 ∨ 0 ≤ m.cur ∧ m.cur < d.states.length) ∧ m.rs.length = d.counts.length
theorem autoOk_parts {d : AutoD} (h : autoOk d = true) : rightB d.c d.many = true ∧ d.counts.length ≤ 512 ∧ 1 ≤ d.states.length ∧ d.states.length ≤ 256 ∧ (∀ c ∈ d.counts, 1 ≤ c.1 ∧ c.1 ≤ c.2 ∧ 2 ≤ c.2 ∧ c.2 ≤ 4096) ∧ ∀ s ∈ d.states, stateOk d.states d.many d.counts.length s = true := by
  unfold autoOk at h
  simp only [Bool.and_eq_true, decide_eq_true_eq] at h
  obtain ⟨h1, h2, h3, h4, h5, h6, h7⟩ := h
  refine ⟨h1, h2, h3, h4, fun c hc => ?_, fun s hs => List.all_eq_true.1 h7 s hs⟩
  have := List.all_eq_true.1 h6 c hc
  unfold countOk at this
  simp only [Bool.and_eq_true, decide_eq_true_eq] at this
  exact this
theorem state_parts {S : List StateD} {n : Int} {cn : Nat} {s : StateD} (h : stateOk S n cn s = true) : s.r.length ≤ 3 ∧ (s.rule.length : Int) = codesD s.r.length ∧ (s.next.length : Int) = codesD s.r.length ∧ (∀ c ∈ s.r, 0 ≤ c ∧ c < cn) ∧ rowsOk S s.r n s.rule s.next = true := by
  have h3 := (state_few h).2
  unfold stateOk at h
  simp only [Bool.and_eq_true, decide_eq_true_eq] at h
  obtain ⟨h1, h2, h4, h5, h6, h7⟩ := h
  refine ⟨h3, h2, h4, fun c hc => ?_, h7⟩
  have := rz_mem h6 c hc
  omega
theorem digM_lt (C : List (Int × Int)) (rs : List RgD) (c : Int) : digM C rs c < 3 := by
  unfold digM
  repeat' split
  all_goals omega
theorem codeM_lt (C : List (Int × Int)) (rs : List RgD) : ∀ r : List Int, codeM C rs r < 3 ^ r.length
  | [] => by show 0 < 1; omega
  | c :: r => by
    have := codeM_lt C rs r
    have := digM_lt C rs c
    rw [List.length_cons, Nat.pow_succ]
    unfold codeM
    omega
theorem codeM_codes {C : List (Int × Int)} {rs : List RgD} {r : List Int} (h : r.length ≤ 3) : (codeM C rs r : Int) < codesD r.length := by
  have h1 := codeM_lt C rs r
  generalize r.length = n at h h1
  match n, h with
  | 0, _ => have h2 : codeM C rs r < 1 := h1; show (codeM C rs r : Int) < 1; omega
  | 1, _ => have h2 : codeM C rs r < 3 := h1; show (codeM C rs r : Int) < 3; omega
  | 2, _ => have h2 : codeM C rs r < 9 := h1; show (codeM C rs r : Int) < 9; omega
  | 3, _ => have h2 : codeM C rs r < 27 := h1; show (codeM C rs r : Int) < 27; omega
theorem rows_at {S : List StateD} {R : List Int} {n : Int} : ∀ {us : List Int} {rows : List (List MoveD)}, rowsOk S R n us rows = true → us.length = rows.length → ∀ (i : Nat) row u, rows[i]? = some row → us[i]? = some u → rowOk S R n u row = true
  | [], [], _, _, i, row, u, hr, hu => by simp at hr
  | u :: us, row :: rows, h, hl, i, row', u', hr, hu => by
    rw [rowsOk_cons, Bool.and_eq_true] at h
    cases i with
    | zero => simp at hr hu; subst hr hu; exact h.1
    | succ i => exact rows_at h.2 (by simpa using hl) i row' u' (by simpa using hr) (by simpa using hu)
  | [], _ :: _, _, hl, _, _, _, _, _ => by simp at hl
  | _ :: _, [], _, hl, _, _, _, _, _ => by simp at hl
theorem right_lt {c : List Nat} {n : Int} (hc : c.length = 256) (h : rightB c n = true) : ∀ b, b < 256 → ((c.getD b 0 : Nat) : Int) < n := by
  unfold rightB at h
  split at h
  · rename_i m hm
    simp only [decide_eq_true_eq] at h
    subst h
    have key : ∀ i m, rt c i = some m → ∀ b, b < i → c.getD b 0 < m := by
      intro i
      induction i with
      | zero => intro m _ b hb; omega
      | succ i ih =>
        intro m h b hb
        obtain ⟨k, h1, h2⟩ := bind_some' h
        have := ih k h1
        split at h2
        · cases h2
        · split at h2
          · cases h2
            rcases Nat.lt_or_ge b i with h4 | h4
            · have := this b h4; omega
            · have : b = i := by omega
              subst this; omega
          · cases h2
            rcases Nat.lt_or_ge b i with h4 | h4
            · exact this b h4
            · have : b = i := by omega
              subst this; omega
    intro b hb
    exact_mod_cast key 256 m hm b hb
  · cases h
structure StF (d : AutoD) (s : StateD) (k : Nat) : Prop where
  r3 : s.r.length ≤ 3
  rl : ∀ c ∈ s.r, 0 ≤ c ∧ c < d.counts.length
  kr : k < s.rule.length
  kn : k < s.next.length
  row : ((s.next.getD k []).length : Int) = d.many
  mv : ∀ m ∈ s.next.getD k [], moveOk d.states s.r m = true
  ru : -1 ≤ s.rule.getD k 0 ∧ s.rule.getD k 0 < 512
theorem st_at {d : AutoD} {m : MacD} (ha : autoOk d = true) (hm : MOk d m) (hc : m.cur ≠ -1) : StF d (stAt d m) (codeM d.counts m.rs (stAt d m).r) := by
  obtain ⟨h1, h2, h3, h4, h5, h6⟩ := autoOk_parts ha
  have hcur : 0 ≤ m.cur ∧ m.cur < d.states.length := by rcases hm.1 with h | h <;> omega
  have hi : m.cur.toNat < d.states.length := by omega
  have hs : stAt d m = d.states[m.cur.toNat] := by unfold stAt; rw [List.getD_eq_getElem?_getD, List.getElem?_eq_getElem hi]; rfl
  have hk := h6 _ (List.getElem_mem hi)
  rw [← hs] at hk
  generalize stAt d m = s at hk
  obtain ⟨k1, k2, k3, k4, k5⟩ := state_parts hk
  have hlt := codeM_codes (C := d.counts) (rs := m.rs) k1
  generalize codeM d.counts m.rs s.r = k at hlt
  have kr : k < s.rule.length := by omega
  have kn : k < s.next.length := by omega
  have e1 : s.next[k]? = some s.next[k] := List.getElem?_eq_getElem kn
  have e2 : s.rule[k]? = some s.rule[k] := List.getElem?_eq_getElem kr
  have hro := rows_at k5 (by omega) k _ _ e1 e2
  unfold rowOk at hro
  simp only [Bool.and_eq_true, decide_eq_true_eq] at hro
  refine ⟨k1, k4, kr, kn, ?_, ?_, ?_⟩
  · rw [List.getD_eq_getElem?_getD, e1]; exact hro.2.2.1
  · rw [List.getD_eq_getElem?_getD, e1]; exact fun m hm => List.all_eq_true.1 hro.2.2.2 m hm
  · rw [List.getD_eq_getElem?_getD, e2]; exact ⟨hro.1, hro.2.1⟩
theorem move_at {d : AutoD} {m : MacD} {b : Nat} (ha : autoOk d = true) (hm : MOk d m) (hc : m.cur ≠ -1) (hl : d.c.length = 256) (hb : b < 256) : d.c.getD b 0 < ((stAt d m).next.getD (codeM d.counts m.rs (stAt d m).r) []).length ∧ moveOk d.states (stAt d m).r (moveM d m b) = true := by
  have hs := st_at ha hm hc
  have h1 := right_lt hl (autoOk_parts ha).1 b hb
  have h2 : d.c.getD b 0 < ((stAt d m).next.getD (codeM d.counts m.rs (stAt d m).r) []).length := by have := hs.row; omega
  refine ⟨h2, hs.mv _ ?_⟩
  unfold moveM
  rw [List.getD_eq_getElem?_getD (a := noMv), List.getElem?_eq_getElem h2]
  exact List.getElem_mem h2
theorem move_parts {S : List StateD} {R : List Int} {m : MoveD} (h : moveOk S R m = true) : (m.to = -1 ∧ m.ops = []) ∨ (1 ≤ m.to ∧ m.to < S.length ∧ m.ops.length = (S.getD m.to.toNat noS).r.length ∧ opsOk R m.ops (S.getD m.to.toNat noS).r = true) := by
  unfold moveOk at h
  split at h
  · rename_i ht
    exact .inl ⟨ht, List.length_eq_zero_iff.1 (by simpa using h)⟩
  · simp only [Bool.and_eq_true, decide_eq_true_eq] at h
    exact .inr ⟨h.1, h.2.1, h.2.2.1, h.2.2.2⟩
theorem ops_range {R : List Int} : ∀ {os : List Nat} {rs : List Int}, opsOk R os rs = true → os.length = rs.length → ∀ o ∈ os, 1 ≤ o ∧ o ≤ 3
  | [], _, _, _, o, ho => by cases ho
  | o :: os, [], _, hl, _, _ => by simp at hl
  | o :: os, r :: rs, h, hl, x, hx => by
    rw [opsOk_cons, Bool.and_eq_true] at h
    rcases List.mem_cons.1 hx with rfl | hx
    · have := h.1
      unfold opOk at this
      simp only [Bool.and_eq_true, decide_eq_true_eq] at this
      exact ⟨this.1, this.2.1⟩
    · exact ops_range h.2 (by simpa using hl) x hx
theorem clrs_len (nx : List Int) : ∀ (r : List Int) (rs : List RgD), (clrsM nx r rs).length = rs.length
  | [], rs => rfl
  | c :: r, rs => by
    unfold clrsM
    rw [clrs_len nx r]
    split <;> simp
theorem opsM_len (C : List (Int × Int)) : ∀ (r : List Int) (os : List Nat) (rs : List RgD), (opsM C r os rs).length = rs.length
  | [], _, rs => by simp [opsM]
  | _ :: _, [], rs => by simp [opsM]
  | c :: r, o :: os, rs => by
    unfold opsM
    rw [opsM_len C r os]; simp
theorem step_ok {d : AutoD} {m : MacD} {b : Nat} (ha : autoOk d = true) (hm : MOk d m) (hl : d.c.length = 256) (hb : b < 256) : MOk d (stepM d m b) := by
  unfold stepM
  by_cases hc : m.cur = -1
  · rw [if_pos hc]; exact hm
  · rw [if_neg hc]
    have h1 := move_parts (move_at ha hm hc hl hb).2
    refine ⟨?_, ?_⟩
    · rcases h1 with ⟨h1, _⟩ | ⟨h1, h2, _⟩
      · exact .inl h1
      · exact .inr ⟨by show (0:Int) ≤ (moveM d m b).to; omega, h2⟩
    · show (opsM _ _ _ _).length = _
      rw [opsM_len, clrs_len]; exact hm.2
theorem reset_ok {d : AutoD} {m : MacD} (ha : autoOk d = true) (hm : MOk d m) : MOk d (resetM m) := ⟨.inr ⟨Int.le_refl _, by have := (autoOk_parts ha).2.2.1; show (0 : Int) < _; omega⟩, by show (m.rs.map rsetR).length = _; rw [List.length_map]; exact hm.2⟩
theorem new_ok {d : AutoD} (ha : autoOk d = true) : MOk d (newM d) := ⟨.inr ⟨Int.le_refl _, by have := (autoOk_parts ha).2.2.1; show (0 : Int) < _; omega⟩, by show (d.counts.map _).length = _; rw [List.length_map]⟩
def WLe (B : Nat) (rs : List RgD) : Prop := ∀ r ∈ rs, r.2 ≤ B
theorem WLe.mono {B B' : Nat} {rs : List RgD} (h : WLe B rs) (hb : B ≤ B') : WLe B' rs := fun r hr => Nat.le_trans (h r hr) hb
theorem WLe.set {B : Nat} {rs : List RgD} {i : Nat} {x : RgD} (h : WLe B rs) (hx : x.2 ≤ B) : WLe B (rs.set i x) := fun r hr => by
  rcases List.mem_or_eq_of_mem_set hr with h1 | h1
  · exact h r h1
  · rw [h1]; exact hx
theorem WLe.at {B : Nat} {rs : List RgD} (h : WLe B rs) (c : Int) : (rgAt rs c).2 ≤ B := by
  unfold rgAt
  rw [List.getD_eq_getElem?_getD]
  cases hq : rs[c.toNat]? with
  | none => exact Nat.zero_le _
  | some r => exact h r (List.mem_of_getElem? hq)
theorem rgOp_w (n o : Nat) (r : RgD) : (rgOp n o r).2 ≤ r.2 + 2 := by
  unfold rgOp
  repeat' split
  all_goals simp [putR, clrR, incR]
end V
end Go.Proofs.YtjndkdmkecpllaaGreat
set_option linter.unusedVariables false
set_option linter.unusedSimpArgs false
namespace Go.Proofs.YtjndkdmkecpllaaGreat
namespace V
attribute [local irreducible] bindP ifP condP newP optP exP beqP
def machL (c : List Nat) (n : Int) (cv sv : Value) (cur : Int) (rv : Value) (steps : Nat) : List Value := autL c n cv sv ++ [.int .i64 cur, rv, .int .i64 (steps : Int)]
section
variable {c : List Nat} {n cur : Int} {cv sv rv : Value} {steps : Nat}
theorem machL_len (hc : c.length = 256) : (machL c n cv sv cur rv steps).length = 262 := by simp [machL, autL_len hc]
theorem machL_lo {i : Nat} (hc : c.length = 256) (hi : i < 259) : (machL c n cv sv cur rv steps)[i]? = (autL c n cv sv)[i]? := by
  unfold machL
  rw [List.getElem?_append_left (by rw [autL_len hc]; exact hi)]
theorem machL_hi (i : Nat) (hc : c.length = 256) : (machL c n cv sv cur rv steps)[i + 259]? = [Value.int .i64 cur, rv, .int .i64 (steps : Int)][i]? := by
  unfold machL
  rw [List.getElem?_append_right (by rw [autL_len hc]; omega), autL_len hc, Nat.add_sub_cancel]
theorem machL_257 (hc : c.length = 256) : (machL c n cv sv cur rv steps)[257]? = some cv := by rw [machL_lo hc (by omega), autL_counts hc]
theorem machL_258 (hc : c.length = 256) : (machL c n cv sv cur rv steps)[258]? = some sv := by rw [machL_lo hc (by omega), autL_states hc]
theorem machL_259 (hc : c.length = 256) : (machL c n cv sv cur rv steps)[259]? = some (.int .i64 cur) := machL_hi 0 hc
theorem machL_260 (hc : c.length = 256) : (machL c n cv sv cur rv steps)[260]? = some rv := machL_hi 1 hc
theorem machL_261 (hc : c.length = 256) : (machL c n cv sv cur rv steps)[261]? = some (.int .i64 (steps : Int)) := machL_hi 2 hc
theorem machL_b {b : Nat} (hc : c.length = 256) (hb : b < 256) : (machL c n cv sv cur rv steps)[b]? = some (.int .u8 (c.getD b 0 : Nat)) := by
  rw [machL_lo hc (by omega)]
  unfold autL
  rw [List.getElem?_append_left (by rw [splitLI_len hc]; omega), splitLI_get (by omega)]
  rw [List.getD_eq_getElem?_getD, List.getElem?_eq_getElem (show b < c.length by omega)]; rfl
theorem machL_set259 (hc : c.length = 256) (k : Int) : (machL c n cv sv cur rv steps).set 259 (.int .i64 k) = machL c n cv sv k rv steps := by
  unfold machL
  rw [List.set_append_right _ _ (by rw [autL_len hc]; omega), autL_len hc]; rfl
theorem machL_set260 (hc : c.length = 256) (w : Value) : (machL c n cv sv cur rv steps).set 260 w = machL c n cv sv cur w steps := by
  unfold machL
  rw [List.set_append_right _ _ (by rw [autL_len hc]; omega), autL_len hc]; rfl
theorem machL_set261 (hc : c.length = 256) (k : Nat) : (machL c n cv sv cur rv steps).set 261 (.int .i64 (k : Int)) = machL c n cv sv cur rv k := by
  unfold machL
  rw [List.set_append_right _ _ (by rw [autL_len hc]; omega), autL_len hc]; rfl
end
theorem Sl.ixArr {ro : Ro} {h : T Obj} {v : Value} {z : Nat} {cs : List (List Value)} (hl : Sl ro h v z cs) {i : Nat} (hi : i < cs.length) (n w : Nat) (k : IntKind) {j : Int} (h0 : 0 ≤ j) (h1 : j < n) : V.ixArr n w (elPtr z v i) (.int k j) = some (elPtrK z v i (j.toNat * w)) := by
  have hn : natV (.int k j) = some j.toNat := by simp [natV, h0]
  have hb : Nat.blt j.toNat n = true := by simp [Nat.blt]; omega
  rcases hl with ⟨rfl, rfl⟩ | ⟨a, cap, rfl, h2, h3, h4⟩
  · simp at hi
  · simp only [V.ixArr, hn, elPtr, asP, Option.bind, hb, elPtrK, elt_elt]
def ptrsC (ps : List (Nat × Nat)) : List (List Value) := ps.map fun p => [ptr p.1]
theorem ptrsC_len (ps : List (Nat × Nat)) : (ptrsC ps).length = ps.length := by simp [ptrsC]
abbrev RgP := T Obj → Nat → Nat → Nat → List Nat → Nat → Prop
structure RgOk (RR : RgP) (tp ta : TypeId) : Prop where
  keep : ∀ {h h' : T Obj} {p a n w : Nat} {L : List Nat}, RR h p a n L w → h'.get p = h.get p → h'.get a = h.get a → RR h' p a n L w
  p : ∀ {h : T Obj} {p a n w : Nat} {L : List Nat}, RR h p a n L w → ∃ c, h.get p = some (.cells c tp)
  a : ∀ {h : T Obj} {p a n w : Nat} {L : List Nat}, RR h p a n L w → ∃ c, h.get a = some (.cells c ta)
  ne : tp ≠ ta
  L : ∀ {h : T Obj} {p a n w : Nat} {L : List Nat}, RR h p a n L w → L.Pairwise (fun x y => y < x) ∧ (∀ x ∈ L, 1 ≤ x ∧ x ≤ n) ∧ 1 ≤ n ∧ n ≤ 4096
theorem RI_ok : RgOk RI y_ring_Ring y_int where
  keep := fun ⟨put, first, now, gp, ga, hr⟩ h1 h2 => ⟨put, first, now, by rw [h1]; exact gp, by rw [h2]; exact ga, hr⟩
  p := fun ⟨put, first, now, gp, ga, hr⟩ => ⟨_, gp⟩
  a := fun ⟨put, first, now, gp, ga, hr⟩ => ⟨_, ga⟩
  ne := by decide
  L := fun h => h.in
def WJ : RgP := fun h p a n L w => WI h p a n L w ∧ L.Pairwise (fun x y => y < x) ∧ ∀ x ∈ L, 1 ≤ x ∧ x ≤ n
theorem WJ_ok : RgOk WJ y_raddleref03_Ring y_bool where
  keep := fun ⟨hw, hr⟩ h1 h2 => ⟨⟨by rw [h1]; exact hw.1, by rw [h2]; exact hw.2.1, hw.2.2⟩, hr⟩
  p := fun ⟨hw, hr⟩ => ⟨_, hw.1⟩
  a := fun ⟨hw, hr⟩ => ⟨_, hw.2.1⟩
  ne := by decide
  L := fun ⟨hw, hr⟩ => ⟨hr.1, hr.2, hw.2.2.2.1, hw.2.2.2.2.1⟩
def RsX (RR : RgP) (h : T Obj) (ps : List (Nat × Nat)) (C : List (Int × Int)) (rs : List RgD) : Prop := ps.length = C.length ∧ rs.length = C.length ∧ ∀ (i : Nat) p c r, ps[i]? = some p → C[i]? = some c → rs[i]? = some r → RR h p.1 p.2 c.2.toNat r.1 r.2
def Dst (ps : List (Nat × Nat)) : Prop := ∀ (i j : Nat) p q, ps[i]? = some p → ps[j]? = some q → i ≠ j → p.1 ≠ q.1 ∧ p.2 ≠ q.2
section
variable {RR : RgP} {tp ta : TypeId} {h h' : T Obj} {ps : List (Nat × Nat)} {C : List (Int × Int)} {rs : List RgD}
theorem RsX.at (hr : RsX RR h ps C rs) {c : Int} (h0 : 0 ≤ c) (h1 : c < C.length) : ∃ q, ps[c.toNat]? = some q ∧ RR h q.1 q.2 (cntAt C c).2.toNat (rgAt rs c).1 (rgAt rs c).2 := by
  obtain ⟨r1, r2, r3⟩ := hr
  have hi : c.toNat < C.length := by omega
  have e1 : ps[c.toNat]? = some (ps[c.toNat]'(by omega)) := List.getElem?_eq_getElem _
  have e2 : C[c.toNat]? = some C[c.toNat] := List.getElem?_eq_getElem _
  have e3 : rs[c.toNat]? = some (rs[c.toNat]'(by omega)) := List.getElem?_eq_getElem _
  refine ⟨_, e1, ?_⟩
  have := r3 _ _ _ _ e1 e2 e3
  unfold cntAt rgAt
  rw [List.getD_eq_getElem?_getD, List.getD_eq_getElem?_getD, e2, e3]
  exact this
theorem RsX.lt (hk : RgOk RR tp ta) (hr : RsX RR h ps C rs) {nx : Nat} (hf : Fr h nx) : ∀ q ∈ ps, q.1 < nx ∧ q.2 < nx := fun q hq => by
  obtain ⟨i, hi⟩ := List.getElem?_of_mem hq
  obtain ⟨r1, r2, r3⟩ := hr
  have hl := (List.getElem?_eq_some_iff.1 hi).1
  have := r3 i q _ _ hi (List.getElem?_eq_getElem (by omega)) (List.getElem?_eq_getElem (by omega))
  obtain ⟨c1, h1⟩ := hk.p this
  obtain ⟨c2, h2⟩ := hk.a this
  exact ⟨hf.lt' h1, hf.lt' h2⟩
theorem RsX.ty (hk : RgOk RR tp ta) (hr : RsX RR h ps C rs) : ∀ q ∈ ps, (∃ c, h.get q.1 = some (.cells c tp)) ∧ ∃ c, h.get q.2 = some (.cells c ta) := fun q hq => by
  obtain ⟨i, hi⟩ := List.getElem?_of_mem hq
  obtain ⟨r1, r2, r3⟩ := hr
  have hl := (List.getElem?_eq_some_iff.1 hi).1
  have := r3 i q _ _ hi (List.getElem?_eq_getElem (by omega)) (List.getElem?_eq_getElem (by omega))
  exact ⟨hk.p this, hk.a this⟩
theorem RsX.keep (hk : RgOk RR tp ta) (hr : RsX RR h ps C rs) (hg : ∀ q ∈ ps, h'.get q.1 = h.get q.1 ∧ h'.get q.2 = h.get q.2) : RsX RR h' ps C rs :=
  ⟨hr.1, hr.2.1, fun i p c r h1 h2 h3 => hk.keep (hr.2.2 i p c r h1 h2 h3) (hg p (List.mem_of_getElem? h1)).1 (hg p (List.mem_of_getElem? h1)).2⟩
theorem RsX.sub (hk : RgOk RR tp ta) (hr : RsX RR h ps C rs) (hs : Sub h h') : RsX RR h' ps C rs := hr.keep hk fun q hq => by
  obtain ⟨⟨c1, h1⟩, c2, h2⟩ := hr.ty hk q hq
  rw [h1, h2, hs _ _ h1, hs _ _ h2]; exact ⟨rfl, rfl⟩
theorem RsX.set (hk : RgOk RR tp ta) (hr : RsX RR h ps C rs) (hd : Dst ps) {nx : Nat} (hf : Fr h nx) {i a' : Nat} {q : Nat × Nat} {r : RgD} {c : Int × Int} (hq : ps[i]? = some q) (hc : C[i]? = some c) (hn : RR h' q.1 a' c.2.toNat r.1 r.2) (hg : ∀ k, k < nx → k ≠ q.1 → k ≠ q.2 → h'.get k = h.get k) :
    RsX RR h' (ps.set i (q.1, a')) C (rs.set i r) := by
  have hlt := hr.lt hk hf
  have hty := hr.ty hk
  refine ⟨by rw [List.length_set]; exact hr.1, by rw [List.length_set]; exact hr.2.1, fun j p c2 r2 h1 h2 h3 => ?_⟩
  by_cases hij : i = j
  · subst hij
    have hl := (List.getElem?_eq_some_iff.1 hq).1
    have hl2 : i < rs.length := by have := hr.1; have := hr.2.1; omega
    rw [List.getElem?_set_self hl] at h1
    rw [List.getElem?_set_self hl2] at h3
    rw [hc] at h2
    cases h1; cases h2; cases h3
    exact hn
  · rw [List.getElem?_set_ne hij] at h1
    rw [List.getElem?_set_ne hij] at h3
    have hd2 := hd i j q p hq h1 hij
    have hm := List.mem_of_getElem? h1
    have hm2 := List.mem_of_getElem? hq
    obtain ⟨⟨c3, t1⟩, c4, t2⟩ := hty p hm
    obtain ⟨⟨c5, t3⟩, c6, t4⟩ := hty q hm2
    have n1 : p.1 ≠ q.2 := fun e => by rw [e, t4] at t1; simp only [Option.some.injEq, Obj.cells.injEq] at t1; exact hk.ne t1.2.1.symm
    have n2 : p.2 ≠ q.1 := fun e => by rw [e, t3] at t2; simp only [Option.some.injEq, Obj.cells.injEq] at t2; exact hk.ne t2.2.1
    exact hk.keep (hr.2.2 j p c2 r2 h1 h2 h3) (hg _ (hlt p hm).1 (Ne.symm hd2.1) n1) (hg _ (hlt p hm).2 n2 (Ne.symm hd2.2))
theorem Dst.set (hd : Dst ps) {i a' : Nat} {q : Nat × Nat} (hq : ps[i]? = some q) (ha : a' = q.2 ∨ ∀ p ∈ ps, p.2 < a') : Dst (ps.set i (q.1, a')) := by
  intro j k p p2 h1 h2 hjk
  have hl := (List.getElem?_eq_some_iff.1 hq).1
  by_cases hj : i = j
  · subst hj
    rw [List.getElem?_set_self hl] at h1
    cases h1
    rw [List.getElem?_set_ne hjk] at h2
    have h3 := hd i k q p2 hq h2 hjk
    refine ⟨h3.1, ?_⟩
    rcases ha with rfl | ha
    · exact h3.2
    · have := ha p2 (List.mem_of_getElem? h2); show a' ≠ p2.2; omega
  · rw [List.getElem?_set_ne hj] at h1
    by_cases hk : i = k
    · subst hk
      rw [List.getElem?_set_self hl] at h2
      cases h2
      have h3 := hd j i p q h1 hq hjk
      refine ⟨h3.1, ?_⟩
      rcases ha with rfl | ha
      · exact h3.2
      · have := ha p (List.mem_of_getElem? h1); show p.2 ≠ a'; omega
    · rw [List.getElem?_set_ne hk] at h2
      exact hd j k p p2 h1 h2 hjk
theorem set_same {i : Nat} {q : Nat × Nat} (hq : ps[i]? = some q) : ps.set i (q.1, q.2) = ps := by
  apply List.ext_getElem?
  intro j
  by_cases hj : i = j
  · subst hj
    rw [List.getElem?_set_self (List.getElem?_eq_some_iff.1 hq).1, hq]
  · rw [List.getElem?_set_ne hj]
theorem ptrsC_set {i a' : Nat} {q : Nat × Nat} (hq : ps[i]? = some q) : ptrsC (ps.set i (q.1, a')) = ptrsC ps := by
  unfold ptrsC
  apply List.ext_getElem?
  intro j
  rw [List.getElem?_map, List.getElem?_map]
  by_cases hj : i = j
  · subst hj
    rw [List.getElem?_set_self (List.getElem?_eq_some_iff.1 hq).1, hq]; rfl
  · rw [List.getElem?_set_ne hj]
end
def blks (ps : List (Nat × Nat)) : List Nat := ps.flatMap fun q => [q.1, q.2]
theorem mem_blks {ps : List (Nat × Nat)} {k : Nat} : k ∈ blks ps ↔ ∃ q ∈ ps, k = q.1 ∨ k = q.2 := by simp [blks]
def MX (RR : RgP) (ty : TypeId) (ro : Ro) (h : T Obj) (X : List Nat) (p : Nat) (ps : List (Nat × Nat)) (d : AutoD) (m : MacD) : Prop := ∃ cv sv rv, h.get p = some (.cells (machL d.c d.many cv sv m.cur rv m.steps).toArray ty) ∧ RAuto ro (del h X) (autL d.c d.many cv sv) d ∧
  Sl ro (del h X) rv 1 (ptrsC ps) ∧ RsX RR h ps d.counts m.rs ∧ Dst ps ∧ p ∈ X ∧ ∀ k ∈ blks ps, k ∈ X
abbrev MI := MX RI y_exec_Machine
abbrev MW := MX WJ y_raddleref13_Machine
theorem del_re {h h' : T Obj} {X : List Nat} (hs : Sub (del h X) h') : Sub (del h X) (del h' X) := fun k o hk => by
  have h1 := hk
  rw [del_get] at h1
  split at h1
  · cases h1
  · rename_i hn; exact del_some (hs k o hk) hn
theorem del_re2 {h h' : T Obj} {X X' : List Nat} (hs : Sub (del h X) h') (hx : ∀ k ∈ X', k ∈ X ∨ h.get k = none) : Sub (del h X) (del h' X') := fun k o hk => by
  have h1 := hk
  rw [del_get] at h1
  split at h1
  · cases h1
  · rename_i hn
    refine del_some (hs k o hk) fun hm => ?_
    rcases hx k hm with h2 | h2
    · exact hn h2
    · rw [h2] at h1; cases h1
section
variable {RR : RgP} {tp ta ty : TypeId} {ro : Ro} {h h' : T Obj} {X X' : List Nat} {p : Nat} {ps : List (Nat × Nat)} {d : AutoD} {m : MacD}
theorem RAuto.sub {x : List Value} (hd : RAuto ro h x d) (hs : Sub h h') : RAuto ro h' x d := by
  obtain ⟨cv, sv, h1, h2, h3, h4, h5, h6⟩ := hd
  exact ⟨cv, sv, h1, h2, h3, h4.sub hs fun _ _ h => h, h5.sub hs (RState.sub hs), h6⟩
theorem MX.keep {ids : List Nat} (hk : RgOk RR tp ta) (hm : MX RR ty ro h X p ps d m) (hs : Keep ids h h') (h1 : ∀ k ∈ ids, k ∈ X) (h2 : ∀ k ∈ ids, k ≠ p ∧ k ∉ blks ps) (h3 : ∀ k ∈ X', k ∈ X ∨ h.get k = none) (h4 : ∀ k ∈ X, k ∈ X') : MX RR ty ro h' X' p ps d m := by
  obtain ⟨cv, sv, rv, g1, g2, g3, g4, g5, g6, g7⟩ := hm
  have hD := hs.del h1 h3
  refine ⟨cv, sv, rv, hs p _ g1 fun hp => (h2 p hp).1 rfl, g2.sub hD, g3.sub hD, g4.keep hk fun q hq => ?_, g5, h4 p g6, fun k hk => h4 k (g7 k hk)⟩
  obtain ⟨⟨c1, t1⟩, c2, t2⟩ := g4.ty hk q hq
  rw [t1, t2, hs _ _ t1 fun hm => (h2 _ hm).2 (mem_blks.2 ⟨q, hq, .inl rfl⟩), hs _ _ t2 fun hm => (h2 _ hm).2 (mem_blks.2 ⟨q, hq, .inr rfl⟩)]
  exact ⟨rfl, rfl⟩
theorem MX.sub (hk : RgOk RR tp ta) (hm : MX RR ty ro h X p ps d m) (hs : Sub h h') (h3 : ∀ k ∈ X', k ∈ X ∨ h.get k = none) (h4 : ∀ k ∈ X, k ∈ X') : MX RR ty ro h' X' p ps d m := hm.keep (ids := []) hk hs.keepL (fun k hk => by cases hk) (fun k hk => by cases hk) h3 h4
theorem MX.subX (hk : RgOk RR tp ta) (hm : MX RR ty ro h X p ps d m) (hs : Sub h h') : MX RR ty ro h' X p ps d m := hm.sub hk hs (fun k hk => .inl hk) fun k hk => hk
theorem MX.lt (hk : RgOk RR tp ta) (hm : MX RR ty ro h X p ps d m) {nx : Nat} (hf : Fr h nx) : p < nx ∧ ∀ k ∈ blks ps, k < nx := by
  obtain ⟨cv, sv, rv, g1, g2, g3, g4, g5, g6, g7⟩ := hm
  refine ⟨hf.lt' g1, fun k hk2 => ?_⟩
  obtain ⟨q, hq, h1⟩ := mem_blks.1 hk2
  have := g4.lt hk hf q hq
  omega
end
end V
end Go.Proofs.YtjndkdmkecpllaaGreat
set_option linter.unusedVariables false
set_option linter.unusedSimpArgs false
namespace Go.Proofs.YtjndkdmkecpllaaGreat
namespace V
attribute [local irreducible] bindP ifP condP newP optP exP beqP
theorem RAuto.parts {ro : Ro} {h : T Obj} {d : AutoD} {cv sv : Value} (hd : RAuto ro h (autL d.c d.many cv sv) d) : d.c.length = 256 ∧ (∀ x ∈ d.c, x < 256) ∧ SlR ro h cv 2 RCount d.counts ∧ SlR ro h sv 4 (RState ro h) d.states := by
  obtain ⟨cv', sv', h1, h2, h3, h4, h5, h6⟩ := hd
  unfold autL at h1
  have := List.append_cancel_left h1
  simp only [List.cons.injEq, and_true] at this
  obtain ⟨rfl, rfl⟩ := this
  exact ⟨h2, h3, h4, h5⟩
theorem Sl.ixI {ro : Ro} {h : T Obj} {v : Value} {z : Nat} {l : List (List Value)} (hl : Sl ro h v z l) (k : IntKind) {i : Int} (h0 : 0 ≤ i) (hi : i < l.length) : ixSl z v (.int k i) = some (elPtr z v i.toNat) := by
  have := hl.ix k (i := i.toNat) (by omega)
  rwa [Int.toNat_of_nonneg h0] at this
theorem SlR.sl' {D : Type} {ro : Ro} {h : T Obj} {v : Value} {z : Nat} {R : List Value → D → Prop} {l : List D} (hl : SlR ro h v z R l) {i : Nat} (hi : i < l.length) (n w : Nat) (k : IntKind) {j : Int} (h0 : 0 ≤ j) (h1 : j < n) : ixArr n w (elPtr z v i) (.int k j) = some (elPtrK z v i (j.toNat * w)) := by
  obtain ⟨cs, g1, g2, g3⟩ := hl
  exact g1.ixArr (by omega) n w k h0 h1
theorem ptrs_get {ps : List (Nat × Nat)} {i : Nat} {q : Nat × Nat} (hq : ps[i]? = some q) : (ptrsC ps)[i]? = some [ptr q.1] := by simp [ptrsC, hq]
theorem cnt_get {C : List (Int × Int)} {c : Int} (h0 : 0 ≤ c) (h1 : c < C.length) : C[c.toNat]'(by omega) = cntAt C c := by
  unfold cntAt
  rw [List.getD_eq_getElem?_getD, List.getElem?_eq_getElem (by omega)]; rfl
section
variable {ro : Ro} {h : T Obj} {nx : Nat} {X : List Nat} {p : Nat} {ps : List (Nat × Nat)} {d : AutoD} {m : MacD} {K : KV}
theorem exec_State_c (hm : MI ro h X p ps d m) (hK : ∀ nx', nx ≤ nx' → K (.int .i64 m.cur) h nx') : callP Tryz.prog ro i_exec_Machine_State [ptr p] h nx K := by
  obtain ⟨cv, sv, rv, gp, hA, _⟩ := hm
  have m9 := machL_259 (n := d.many) (cv := cv) (sv := sv) (cur := m.cur) (rv := rv) (steps := m.steps) hA.parts.1
  apply exec_Machine_State_of
  unfold exec_Machine_State
  (repeat (first | refine bindP_mk (by simp (disch := first | omega | exact Int.natCast_nonneg _ | assumption) only [BB, B2, ↓reduceIte, Nat.reduceLeDiff, Nat.reduceAdd, CC, ptrB_eql_at, nilCk_at, gp, m9] <;> rfl) ?_ | refine newP_mk ?_ | refine optP_mk ?_ | with_reducible first | refine condP_t ?_ | refine condP_f ?_ | refine ifP_tt' ?_ | refine ifP_ff' ?_ | refine ifP_tf' ?_ | refine ifP_ft' ?_ | refine ifP_u' ?_ | refine optP_mk0 ?_))
  exact ⟨h, Sub.refl _, hK _ (by omega)⟩
set_option maxRecDepth 8000 in
theorem exec_digit_c {c : Int} (hm : MI ro h X p ps d m) (hc0 : 0 ≤ c) (hc : c < d.counts.length) (hK : ∀ nx', nx ≤ nx' → K (.int .i64 (digM d.counts m.rs c : Nat)) h nx') : callP Tryz.prog ro i_exec_Machine_digit [ptr p, .int .i64 c] h nx K := by
  obtain ⟨cv, sv, rv, gp, hA, hP, hR, hD, hpX, hbX⟩ := hm
  obtain ⟨hcl, hclt, hcv, hsv⟩ := hA.parts
  have hP := hP.sub (del_sub h X)
  have hcv := hcv.sub (del_sub h X) fun _ _ h => h
  have m0 := machL_260 (n := d.many) (cv := cv) (sv := sv) (cur := m.cur) (rv := rv) (steps := m.steps) hcl
  have m7 := machL_257 (n := d.many) (cv := cv) (sv := sv) (cur := m.cur) (rv := rv) (steps := m.steps) hcl
  obtain ⟨q, hq, hri⟩ := hR.at hc0 hc
  have hi : c.toNat < d.counts.length := by omega
  have hpi := hP.ixI .i64 hc0 (by rw [ptrsC_len, hR.1]; exact hc)
  have hp1 := hP.load1 (ptrs_get hq)
  have hci := hcv.ixI .i64 hc0 hc
  obtain ⟨x, hx1, hx2, hx3, hx4, hx5⟩ := hcv.at hi
  rw [cnt_get hc0 hc] at hx1
  have ha0 : V.ixArr 2 1 (elPtr 2 cv c.toNat) (.int .i64 0) = some (elPtrK 2 cv c.toNat 0) := hcv.sl' hi 2 1 .i64 (j := 0) (by omega) (by omega)
  have ha1 : V.ixArr 2 1 (elPtr 2 cv c.toNat) (.int .i64 1) = some (elPtrK 2 cv c.toNat 1) := hcv.sl' hi 2 1 .i64 (j := 1) (by omega) (by omega)
  obtain rfl : x = [.int .i64 (cntAt d.counts c).1, .int .i64 (cntAt d.counts c).2] := hx1
  have hl0 := hx5 0 _ rfl
  have hl1 := hx5 1 _ rfl
  have hL := RI_ok.L hri
  apply exec_Machine_digit_of
  unfold exec_Machine_digit
  unfold digM at hK
  generalize (cntAt d.counts c) = ct at hri hl0 hl1 hL hK
  generalize (rgAt m.rs c) = r at hri hL hK
  (repeat (first | refine bindP_mk (by simp (disch := first | omega | exact Int.natCast_nonneg _ | assumption) only [BB, B2, ↓reduceIte, Nat.reduceLeDiff, Nat.reduceAdd, CC, nilCk_at, gp, m0, hpi, hp1] <;> rfl) ?_ | refine newP_mk ?_ | refine optP_mk ?_ | with_reducible first | refine condP_t ?_ | refine condP_f ?_ | refine ifP_tt' ?_ | refine ifP_ff' ?_ | refine ifP_tf' ?_ | refine ifP_ft' ?_ | refine ifP_u' ?_ | refine optP_mk0 ?_))
  refine ring_Min_c hri fun n1 hn1 => ?_
  refine bindP_mk (least0 _) (bindP_mk (least1 _) ?_)
  (repeat (first | refine bindP_mk (by simp (disch := first | omega | exact Int.natCast_nonneg _ | assumption) only [BB, B2, ↓reduceIte, Nat.reduceLeDiff, Nat.reduceAdd, CC, nilCk_at, gp, m0, hpi, hp1] <;> rfl) ?_ | refine newP_mk ?_ | refine optP_mk ?_ | with_reducible first | refine condP_t ?_ | refine condP_f ?_ | refine ifP_tt' ?_ | refine ifP_ff' ?_ | refine ifP_tf' ?_ | refine ifP_ft' ?_ | refine ifP_u' ?_ | refine optP_mk0 ?_))
  refine ring_Max_c hri fun n2 hn2 => ?_
  refine bindP_mk (great0 _) (bindP_mk (great1 _) ?_)
  have hend : ∀ (k : Nat) n, nx ≤ n → (if r.1.length = 0 then 0 else if ((r.1.getD 0 0 : Nat) : Int) < ct.1 then 0 else if ((r.1.getD (r.1.length - 1) 0 : Nat) : Int) < ct.2 then 2 else 1) = k → ∃ h', Sub h' h ∧ K (.int .i64 (k : Int)) h' n := fun k n hn e => by
    subst e; exact ⟨h, Sub.refl _, hK _ hn⟩
  by_cases h0 : r.1.length = 0
  · rw [decide_eq_true h0]
    (repeat (first | refine bindP_mk (by simp (disch := first | omega | exact Int.natCast_nonneg _ | assumption) only [BB, B2, ↓reduceIte, Nat.reduceLeDiff, Nat.reduceAdd, CC] <;> rfl) ?_ | refine newP_mk ?_ | refine optP_mk ?_ | with_reducible first | refine condP_t ?_ | refine condP_f ?_ | refine ifP_tt' ?_ | refine ifP_ff' ?_ | refine ifP_tf' ?_ | refine ifP_ft' ?_ | refine ifP_u' ?_ | refine optP_mk0 ?_))
    exact hend 0 _ (by omega) (by rw [if_pos h0])
  · rw [decide_eq_false h0]
    have e1 : high r.1 = r.1.getD 0 0 := by unfold high; rw [if_neg h0]
    have e2 : low r.1 = r.1.getD (r.1.length - 1) 0 := by unfold low; rw [if_neg h0]
    rw [e1, e2]
    simp only [if_neg h0] at hend
    (repeat (first | refine bindP_mk (by simp (disch := first | omega | exact Int.natCast_nonneg _ | assumption) only [BB, B2, ↓reduceIte, Nat.reduceLeDiff, Nat.reduceAdd, CC, nilCk_at, gp, m7, hci, ha0, hl0] <;> rfl) ?_ | refine newP_mk ?_ | refine optP_mk ?_ | with_reducible first | refine condP_t ?_ | refine condP_f ?_ | refine ifP_tt' ?_ | refine ifP_ff' ?_ | refine ifP_tf' ?_ | refine ifP_ft' ?_ | refine ifP_u' ?_ | refine optP_mk0 ?_))
    refine lss_s (fun h1 => ?_) (fun h1 => ?_)
    · (repeat (first | refine bindP_mk (by simp (disch := first | omega | exact Int.natCast_nonneg _ | assumption) only [BB, B2, ↓reduceIte, Nat.reduceLeDiff, Nat.reduceAdd, CC] <;> rfl) ?_ | refine newP_mk ?_ | refine optP_mk ?_ | with_reducible first | refine condP_t ?_ | refine condP_f ?_ | refine ifP_tt' ?_ | refine ifP_ff' ?_ | refine ifP_tf' ?_ | refine ifP_ft' ?_ | refine ifP_u' ?_ | refine optP_mk0 ?_))
      exact hend 0 _ (by omega) (by rw [if_pos h1])
    · simp only [if_neg (show ¬ ((r.1.getD 0 0 : Nat) : Int) < ct.1 by omega)] at hend
      (repeat (first | refine bindP_mk (by simp (disch := first | omega | exact Int.natCast_nonneg _ | assumption) only [BB, B2, ↓reduceIte, Nat.reduceLeDiff, Nat.reduceAdd, CC, nilCk_at, gp, m7, hci, ha1, hl1] <;> rfl) ?_ | refine newP_mk ?_ | refine optP_mk ?_ | with_reducible first | refine condP_t ?_ | refine condP_f ?_ | refine ifP_tt' ?_ | refine ifP_ff' ?_ | refine ifP_tf' ?_ | refine ifP_ft' ?_ | refine ifP_u' ?_ | refine optP_mk0 ?_))
      refine lss_s (fun h2 => ?_) (fun h2 => ?_)
      · (repeat (first | refine bindP_mk (by simp (disch := first | omega | exact Int.natCast_nonneg _ | assumption) only [BB, B2, ↓reduceIte, Nat.reduceLeDiff, Nat.reduceAdd, CC] <;> rfl) ?_ | refine newP_mk ?_ | refine optP_mk ?_ | with_reducible first | refine condP_t ?_ | refine condP_f ?_ | refine ifP_tt' ?_ | refine ifP_ff' ?_ | refine ifP_tf' ?_ | refine ifP_ft' ?_ | refine ifP_u' ?_ | refine optP_mk0 ?_))
        exact hend 2 _ (by omega) (by rw [if_pos h2])
      · (repeat (first | refine bindP_mk (by simp (disch := first | omega | exact Int.natCast_nonneg _ | assumption) only [BB, B2, ↓reduceIte, Nat.reduceLeDiff, Nat.reduceAdd, CC] <;> rfl) ?_ | refine newP_mk ?_ | refine optP_mk ?_ | with_reducible first | refine condP_t ?_ | refine condP_f ?_ | refine ifP_tt' ?_ | refine ifP_ff' ?_ | refine ifP_tf' ?_ | refine ifP_ft' ?_ | refine ifP_u' ?_ | refine optP_mk0 ?_))
        exact hend 1 _ (by omega) (by rw [if_neg (by omega)])
set_option maxRecDepth 8000 in
theorem exec_code_c {lv rv' uv nv : Value} {R : List Int} (hm : MI ro h X p ps d m) (hf : Fr h nx) (hR3 : R.length ≤ 3) (hRl : ∀ c ∈ R, 0 ≤ c ∧ c < d.counts.length) (hr : ZI ro h rv' R) (hK : ∀ nx', nx ≤ nx' → K (.int .i64 (codeM d.counts m.rs R : Nat)) h nx') : callP Tryz.prog ro i_exec_Machine_code [ptr p, .agg #[lv, rv', uv, nv]] h nx K := by
  apply exec_Machine_code_of
  unfold exec_Machine_code
  refine param_mk hf (Nat.le_refl _) fun h1 hs1 hf1 g1 _ => ?_
  have g1 : h1.get nx = some (.cells #[lv, rv', uv, nv] y_api_State) := g1
  have hr := hr.sub hs1
  have hrl := hr.len
  have hm1 := hm.subX RI_ok hs1
  have htot : codeM d.counts m.rs R ≤ 26 := by
    have h9 := codeM_codes (C := d.counts) (rs := m.rs) hR3
    have h10 := codes_le (R.length : Int)
    omega
  (repeat (first | refine bindP_mk (by simp (disch := first | omega | exact Int.natCast_nonneg _ | assumption) only [BB, B2, ↓reduceIte, Nat.reduceLeDiff, Nat.reduceAdd, CC, g1, hrl] <;> rfl) ?_ | refine newP_mk ?_ | refine optP_mk ?_ | with_reducible first | refine condP_t ?_ | refine condP_f ?_ | refine ifP_tt' ?_ | refine ifP_ff' ?_ | refine ifP_tf' ?_ | refine ifP_ft' ?_ | refine ifP_u' ?_ | refine optP_mk0 ?_))
  generalize hT : codeM d.counts m.rs R = tot at hK htot
  refine loopP_rule (fun j e h' nx' => ∃ (k n w : Nat), k + j = R.length ∧ nx ≤ nx' ∧ h' = h1 ∧ e 0 = ptr p ∧ e 5 = .int .i64 (n : Int) ∧ e 6 = .int .i64 (w : Int) ∧ e 10 = rv' ∧ e 11 = .int .i64 R.length ∧ e 12 = .int .i64 k ∧ n + w * codeM d.counts m.rs (R.drop k) = tot ∧ (k = 0 ∧ w = 1 ∨ k = 1 ∧ w = 3 ∨ k = 2 ∧ w = 9 ∨ k = 3 ∧ w = 27)) ?_ (n := R.length) ⟨0, 0, 1, by omega, by omega, rfl, rfl, rfl, rfl, rfl, rfl, rfl, by rw [List.drop_zero, hT]; omega, by omega⟩
  rintro j e h' nx' ⟨k, n, w, hj, hnx, rfl, e0, e5, e6, e10, e11, e12, ht, hw⟩ Q' hq hx
  unfold exec_Machine_code_L1
  rw [e0, e5, e6, e10, e11, e12]
  refine lss_s (fun hk => ?_) (fun hk => ?_)
  · have hk : k < R.length := by omega
    rw [drop_cons hk] at ht
    have hcm := hRl _ (List.getElem_mem hk)
    (repeat (first | refine bindP_mk (by simp (disch := first | omega | exact Int.natCast_nonneg _ | assumption) only [BB, B2, ↓reduceIte, Nat.reduceLeDiff, Nat.reduceAdd, CC] <;> rfl) ?_ | refine newP_mk ?_ | refine optP_mk ?_ | with_reducible first | refine condP_t ?_ | refine condP_f ?_ | refine ifP_tt' ?_ | refine ifP_ff' ?_ | refine ifP_tf' ?_ | refine ifP_ft' ?_ | refine ifP_u' ?_ | refine optP_mk0 ?_))
    refine bindP_mk (hr.ix _ hk) (bindP_mk (hr.load hk) ?_)
    generalize R[k] = c at ht hcm
    refine exec_digit_c hm1 hcm.1 hcm.2 fun n2 hn2 => ?_
    change n + w * (digM d.counts m.rs c + 3 * codeM d.counts m.rs (R.drop (k + 1))) = tot at ht
    have hdl := digM_lt d.counts m.rs c
    generalize digM d.counts m.rs c = g at ht hdl
    have hw27 : w ≤ 27 := by omega
    have hwg : w * g ≤ 54 := Nat.mul_le_mul hw27 (show g ≤ 2 by omega)
    have hmul : intB .mul (.int .i64 (w : Int)) (.int .i64 (g : Int)) = some (.int .i64 ((w * g : Nat) : Int)) := by
      rw [intB_mul, ← Int.natCast_mul, wr_i64 (by omega) (by omega)]
    rw [Nat.mul_add, ← Nat.mul_assoc] at ht
    have hadd : intB .add (.int .i64 (n : Int)) (.int .i64 ((w * g : Nat) : Int)) = some (.int .i64 ((n + w * g : Nat) : Int)) := by
      rw [intB_add, ← Int.natCast_add, wr_i64 (by omega) (by omega)]
    have hmul3 : intB .mul (.int .i64 (w : Int)) (.int .i64 3) = some (.int .i64 ((w * 3 : Nat) : Int)) := by
      rw [intB_mul, wr_i64 (by omega) (by omega)]; simp
    refine bindP_mk hmul (bindP_mk hadd (bindP_mk hmul3 ?_))
    (repeat (first | refine bindP_mk (by simp (disch := first | omega | exact Int.natCast_nonneg _ | assumption) only [BB, B2, ↓reduceIte, Nat.reduceLeDiff, Nat.reduceAdd, CC] <;> rfl) ?_ | refine newP_mk ?_ | refine optP_mk ?_ | with_reducible first | refine condP_t ?_ | refine condP_f ?_ | refine ifP_tt' ?_ | refine ifP_ff' ?_ | refine ifP_tf' ?_ | refine ifP_ft' ?_ | refine ifP_u' ?_ | refine optP_mk0 ?_))
    exact hq (j - 1) _ _ _ _ (by omega) ⟨k + 1, n + w * g, w * 3, by omega, by omega, rfl, e0, rfl, rfl, e10, e11, rfl, by omega, by omega⟩ (Sub.refl _)
  · (repeat (first | refine bindP_mk (by simp (disch := first | omega | exact Int.natCast_nonneg _ | assumption) only [BB, B2, ↓reduceIte, Nat.reduceLeDiff, Nat.reduceAdd, CC] <;> rfl) ?_ | refine newP_mk ?_ | refine optP_mk ?_ | with_reducible first | refine condP_t ?_ | refine condP_f ?_ | refine ifP_tt' ?_ | refine ifP_ff' ?_ | refine ifP_tf' ?_ | refine ifP_ft' ?_ | refine ifP_u' ?_ | refine optP_mk0 ?_))
    refine hx _ _ _ _ (fun e => by cases e) (exP_e (beqP_t ?_))
    unfold exec_Machine_code_j1
    rw [drop_all (by omega)] at ht
    have ht : n + w * 0 = tot := ht
    have f5 : ∀ (e' : Env) n', e' 5 = .int .i64 (n : Int) → nx ≤ n' → ∃ h2, Sub h2 h' ∧ K (e' 5) h2 n' := fun e' n' h5 hn => by
      rw [h5]
      exact ⟨h, hs1, ki hK (by omega) hn⟩
    exact f5 _ _ e5 (by omega)
set_option maxRecDepth 8000 in
theorem exec_Rule_c (hm : MI ro h X p ps d m) (ha : autoOk d = true) (ho : MOk d m) (hf : Fr h nx) (hK : ∀ nx', nx ≤ nx' → K (.int .i64 (ruleM d m)) h nx') : callP Tryz.prog ro i_exec_Machine_Rule [ptr p] h nx K := by
  apply exec_Machine_Rule_of
  unfold exec_Machine_Rule
  refine exec_State_c hm fun n1 hn1 => ?_
  unfold ruleM at hK
  by_cases hc : m.cur = -1
  · rw [if_pos hc] at hK
    refine eql_t hc ?_
    (repeat (first | refine bindP_mk (by simp (disch := first | omega | exact Int.natCast_nonneg _ | assumption) only [BB, B2, ↓reduceIte, Nat.reduceLeDiff, Nat.reduceAdd, CC] <;> rfl) ?_ | refine newP_mk ?_ | refine optP_mk ?_ | with_reducible first | refine condP_t ?_ | refine condP_f ?_ | refine ifP_tt' ?_ | refine ifP_ff' ?_ | refine ifP_tf' ?_ | refine ifP_ft' ?_ | refine ifP_u' ?_ | refine optP_mk0 ?_))
    exact ⟨h, Sub.refl _, hK _ (by omega)⟩
  · rw [if_neg hc] at hK
    have hst := st_at ha ho hc
    obtain ⟨cv, sv, rv, gp, hA, hP, hR, hD, hpX, hbX⟩ := id hm
    obtain ⟨hcl, hclt, hcv, hsv⟩ := hA.parts
    have hsv := hsv.sub (del_sub h X) (RState.sub (del_sub h X))
    have m8 := machL_258 (n := d.many) (cv := cv) (sv := sv) (cur := m.cur) (rv := rv) (steps := m.steps) hcl
    have m9 := machL_259 (n := d.many) (cv := cv) (sv := sv) (cur := m.cur) (rv := rv) (steps := m.steps) hcl
    have hcur : 0 ≤ m.cur ∧ m.cur < d.states.length := by rcases ho.1 with h | h <;> omega
    have hi : m.cur.toNat < d.states.length := by omega
    have hs : d.states[m.cur.toNat] = stAt d m := by unfold stAt; rw [List.getD_eq_getElem?_getD, List.getElem?_eq_getElem hi]; rfl
    have hsi := hsv.ixI .i64 hcur.1 hcur.2
    obtain ⟨x, ⟨lv, rv', uv, nv, rfl, y1, y2, y3, y4, y5⟩, hx2, hx3, hx4, hx5⟩ := hsv.at hi
    rw [hs] at y1 y2 y3 y4 y5
    generalize stAt d m = s at hst y1 y2 y3 y4 y5 hK
    refine eql_f hc ?_
    (repeat (first | refine bindP_mk (by simp (disch := first | omega | exact Int.natCast_nonneg _ | assumption) only [BB, B2, ↓reduceIte, Nat.reduceLeDiff, Nat.reduceAdd, CC, nilCk_at, gp, m8, m9, hsi, hx3] <;> rfl) ?_ | refine newP_mk ?_ | refine optP_mk ?_ | with_reducible first | refine condP_t ?_ | refine condP_f ?_ | refine ifP_tt' ?_ | refine ifP_ff' ?_ | refine ifP_tf' ?_ | refine ifP_ft' ?_ | refine ifP_u' ?_ | refine optP_mk0 ?_))
    refine local_mk (x := [lv, rv', uv, nv]) zer_State rfl rfl rfl (by simp [y1.ok, y2.ok, y3.ok, SlR.okC y4]) hf (by omega) fun h2 hs2 hf2 g2 _ => ?_
    (repeat (first | refine bindP_mk (by simp (disch := first | omega | exact Int.natCast_nonneg _ | assumption) only [BB, B2, ↓reduceIte, Nat.reduceLeDiff, Nat.reduceAdd, CC, g2] <;> rfl) ?_ | refine newP_mk ?_ | refine optP_mk ?_ | with_reducible first | refine condP_t ?_ | refine condP_f ?_ | refine ifP_tt' ?_ | refine ifP_ff' ?_ | refine ifP_tf' ?_ | refine ifP_ft' ?_ | refine ifP_u' ?_ | refine optP_mk0 ?_))
    refine exec_code_c (hm.subX RI_ok hs2) (hf2.mono (by omega)) hst.r3 hst.rl (y2.sub hs2) fun n3 hn3 => ?_
    refine ⟨sameV_own g2 g2, ?_⟩
    have hkr := hst.kr
    have y3 := y3.sub hs2
    refine bindP_mk (y3.ix _ hkr) (bindP_mk (y3.load hkr) ?_)
    refine ⟨h, hs2, ?_⟩
    rw [List.getD_eq_getElem?_getD, List.getElem?_eq_getElem hkr] at hK
    exact hK _ (by omega)
end
end V
end Go.Proofs.YtjndkdmkecpllaaGreat
set_option linter.unusedVariables false
set_option linter.unusedSimpArgs false
namespace Go.Proofs.YtjndkdmkecpllaaGreat
namespace V
attribute [local irreducible] bindP ifP condP newP optP exP beqP
theorem Only.trans {a b c : T Obj} {p q : Nat} (h1 : Only a b p q) (h2 : Only b c p q) : Only a c p q := fun k k1 k2 => by rw [h2 k k1 k2, h1 k k1 k2]
theorem Only.get {h h' : T Obj} {p a n w k : Nat} {L : List Nat} {c : Array Value} {e : TypeId} (ho : Only h h' p a) (hR : RI h p a n L w) (hg : h.get k = some (.cells c e)) (h1 : e ≠ y_ring_Ring) (h2 : e ≠ y_int) : h'.get k = some (.cells c e) := by
  obtain ⟨c1, t1⟩ := RI_ok.p hR
  obtain ⟨c2, t2⟩ := RI_ok.a hR
  rw [ho k (ne_of_get hg t1 h1) (ne_of_get hg t2 h2)]; exact hg
theorem Only.frR {h h' : T Obj} {p a n w nx : Nat} {L : List Nat} (ho : Only h h' p a) (hR : RI h p a n L w) (hf : Fr h nx) : Fr h' nx := fun k hk => by
  obtain ⟨c1, t1⟩ := RI_ok.p hR
  obtain ⟨c2, t2⟩ := RI_ok.a hR
  have := hf.lt' t1
  have := hf.lt' t2
  rw [ho k (by omega) (by omega)]; exact hf k hk
theorem exec_change_c {ro : Ro} {h : T Obj} {p a n w o nx : Nat} {L : List Nat} {K : KV} (hR : RI h p a n L w) (ho : 1 ≤ o ∧ o ≤ 3) (hw : w + 2 ≤ 1000000) (hK : ∀ h' nx', nx ≤ nx' → RI h' p a n (rgOp n o (L, w)).1 (rgOp n o (L, w)).2 → Only h h' p a → K (.tuple #[]) h' nx') : callP Tryz.prog ro i_exec_change [ptr p, .int .u8 (o : Int)] h nx K := by
  apply exec_change_of
  unfold exec_change
  unfold rgOp at hK
  refine eql_s (fun h3 => ?_) (fun h3 => ?_)
  · rw [if_pos (by omega)] at hK
    (repeat (first | refine bindP_mk (by simp (disch := first | omega | exact Int.natCast_nonneg _ | assumption) only [BB, B2, ↓reduceIte, Nat.reduceLeDiff, Nat.reduceAdd, CC] <;> rfl) ?_ | refine newP_mk ?_ | refine optP_mk ?_ | with_reducible first | refine condP_t ?_ | refine condP_f ?_ | refine ifP_tt' ?_ | refine ifP_ff' ?_ | refine ifP_tf' ?_ | refine ifP_ft' ?_ | refine ifP_u' ?_ | refine optP_mk0 ?_))
    refine ring_Clear_c hR (by omega) fun h1 n1 hn1 hR1 ho1 => ?_
    refine ring_Put_c hR1 (by omega) fun h2 n2 hn2 hR2 ho2 => ?_
    exact ⟨_, Sub.refl _, hK _ _ (by omega) hR2 (ho1.trans ho2)⟩
  · rw [if_neg (by omega)] at hK
    (repeat (first | refine bindP_mk (by simp (disch := first | omega | exact Int.natCast_nonneg _ | assumption) only [BB, B2, ↓reduceIte, Nat.reduceLeDiff, Nat.reduceAdd, CC] <;> rfl) ?_ | refine newP_mk ?_ | refine optP_mk ?_ | with_reducible first | refine condP_t ?_ | refine condP_f ?_ | refine ifP_tt' ?_ | refine ifP_ff' ?_ | refine ifP_tf' ?_ | refine ifP_ft' ?_ | refine ifP_u' ?_ | refine optP_mk0 ?_))
    refine eql_s (fun h2 => ?_) (fun h2 => ?_)
    · rw [if_pos (by omega)] at hK
      (repeat (first | refine bindP_mk (by simp (disch := first | omega | exact Int.natCast_nonneg _ | assumption) only [BB, B2, ↓reduceIte, Nat.reduceLeDiff, Nat.reduceAdd, CC] <;> rfl) ?_ | refine newP_mk ?_ | refine optP_mk ?_ | with_reducible first | refine condP_t ?_ | refine condP_f ?_ | refine ifP_tt' ?_ | refine ifP_ff' ?_ | refine ifP_tf' ?_ | refine ifP_ft' ?_ | refine ifP_u' ?_ | refine optP_mk0 ?_))
      refine ring_Inc_c hR (by omega) fun h1 n1 hn1 hR1 ho1 => ?_
      refine ring_Put_c hR1 (by omega) fun h2 n2 hn2 hR2 ho2 => ?_
      exact ⟨_, Sub.refl _, hK _ _ (by omega) hR2 (ho1.trans ho2)⟩
    · rw [if_neg (by omega)] at hK
      (repeat (first | refine bindP_mk (by simp (disch := first | omega | exact Int.natCast_nonneg _ | assumption) only [BB, B2, ↓reduceIte, Nat.reduceLeDiff, Nat.reduceAdd, CC] <;> rfl) ?_ | refine newP_mk ?_ | refine optP_mk ?_ | with_reducible first | refine condP_t ?_ | refine condP_f ?_ | refine ifP_tt' ?_ | refine ifP_ff' ?_ | refine ifP_tf' ?_ | refine ifP_ft' ?_ | refine ifP_u' ?_ | refine optP_mk0 ?_))
      refine ring_Inc_c hR (by omega) fun h1 n1 hn1 hR1 ho1 => ?_
      exact ⟨_, Sub.refl _, hK _ _ (by omega) hR1 ho1⟩
def SIn (D hs : T Obj) (p sb mb : Nat) (pc sc mc : List Value) (ps : List (Nat × Nat)) (C : List (Int × Int)) (h : T Obj) (nx : Nat) (rs : List RgD) : Prop :=
  h.get p = some (.cells pc.toArray y_exec_Machine) ∧ h.get sb = some (.cells sc.toArray y_api_State) ∧ h.get mb = some (.cells mc.toArray y_api_Move) ∧ Sub D h ∧ RsX RI h ps C rs ∧ Keep (p :: blks ps) hs h ∧ Fr h nx
theorem Only.subD {h0 h h' : T Obj} {p a : Nat} {X : List Nat} (ho : Only h h' p a) (hp : p ∈ X) (ha : a ∈ X) (hs : Sub (del h0 X) h) : Sub (del h0 X) h' := fun k o hk => by
  have h1 := hk
  rw [del_get] at h1
  split at h1
  · cases h1
  · rename_i hn
    rw [ho k (fun e => hn (by rw [e]; exact hp)) (fun e => hn (by rw [e]; exact ha))]
    exact hs k o hk
section
variable {ro : Ro} {h0 hs h h' : T Obj} {X : List Nat} {p sb mb nx : Nat} {pc sc mc : List Value} {ps : List (Nat × Nat)} {C : List (Int × Int)} {rs : List RgD} {K : KV}
theorem SIn.mono {n' : Nat} (hi : SIn (del h0 X) hs p sb mb pc sc mc ps C h nx rs) (hn : nx ≤ n') : SIn (del h0 X) hs p sb mb pc sc mc ps C h n' rs := by
  obtain ⟨g1, g2, g3, g4, g5, g6, g7⟩ := hi
  exact ⟨g1, g2, g3, g4, g5, g6, g7.mono hn⟩
theorem SIn.ring {i n' : Nat} {q : Nat × Nat} {c : Int × Int} {L : List Nat} {w n : Nat} {r : RgD} (hi : SIn (del h0 X) hs p sb mb pc sc mc ps C h nx rs) (hd : Dst ps) (hX : ∀ k ∈ blks ps, k ∈ X) (hq : ps[i]? = some q) (hc : C[i]? = some c) (hR : RI h q.1 q.2 n L w) (hR' : RI h' q.1 q.2 c.2.toNat r.1 r.2) (ho : Only h h' q.1 q.2) (hn : nx ≤ n') :
    SIn (del h0 X) hs p sb mb pc sc mc ps C h' n' (rs.set i r) := by
  obtain ⟨g1, g2, g3, g4, g5, g6, g7⟩ := hi
  have hm := List.mem_of_getElem? hq
  have m1 : q.1 ∈ blks ps := mem_blks.2 ⟨q, hm, .inl rfl⟩
  have m2 : q.2 ∈ blks ps := mem_blks.2 ⟨q, hm, .inr rfl⟩
  have hr := g5.set RI_ok hd g7 hq hc hR' fun k _ k1 k2 => ho k k1 k2
  rw [set_same hq] at hr
  refine ⟨ho.get hR g1 (by decide) (by decide), ho.get hR g2 (by decide) (by decide), ho.get hR g3 (by decide) (by decide), ho.subD (hX _ m1) (hX _ m2) g4, hr, fun k o hk hn => ?_, (ho.frR hR g7).mono hn⟩
  rw [ho k (fun e => hn (List.mem_cons_of_mem _ (by rw [e]; exact m1))) (fun e => hn (List.mem_cons_of_mem _ (by rw [e]; exact m2)))]
  exact g6 k o hk hn
variable {cc : List Nat} {many cur : Int} {cv sv rv : Value} {steps : Nat} {to : Int} {ov nxv : Value} {ops : List Nat} {R : List Int}
set_option maxRecDepth 8000 in
theorem step_j2_c {e : Env} {B : Nat} (hcl : cc.length = 256) (e0 : e 0 = ptr p) (e6 : e 6 = ptr mb) (e7 : e 7 = nxv) (hi : SIn (del h0 X) hs p sb mb (machL cc many cv sv cur rv steps) sc [.int .i64 to, ov] ps C h nx rs) (hd : Dst ps) (hX : ∀ k ∈ blks ps, k ∈ X) (hP : Sl ro (del h0 X) rv 1 (ptrsC ps))
    (hR : ZI ro (del h0 X) nxv R) (ho : SlR ro (del h0 X) ov 1 RU8 ops) (hl : ops.length = R.length) (hor : ∀ o ∈ ops, 1 ≤ o ∧ o ≤ 3) (hRl : ∀ c ∈ R, 0 ≤ c ∧ c < C.length) (hR3 : R.length ≤ 3) (hB : WLe B rs) (hB2 : B + 8 ≤ 1000000)
    (fin : ∀ h' n', nx ≤ n' → SIn (del h0 X) hs p sb mb (machL cc many cv sv cur rv steps) sc [.int .i64 to, ov] ps C h' n' (opsM C R ops rs) → K (.bool (!decide (to = -1))) h' n') : exec_Machine_Step_j2 ro K e h nx := by
  unfold exec_Machine_Step_j2
  rw [e7]
  refine bindP_mk hR.len ?_
  have m0 := machL_260 (n := many) (cv := cv) (sv := sv) (cur := cur) (rv := rv) (steps := steps) hcl
  generalize hF : opsM C R ops rs = fin0 at fin
  refine loopP_rule (fun j e h' nx' => ∃ (k : Nat) (rs' : List RgD), k + j = R.length ∧ nx ≤ nx' ∧ e 0 = ptr p ∧ e 6 = ptr mb ∧ e 7 = nxv ∧ e 92 = nxv ∧ e 93 = .int .i64 R.length ∧ e 94 = .int .i64 k ∧
    SIn (del h0 X) hs p sb mb (machL cc many cv sv cur rv steps) sc [.int .i64 to, ov] ps C h' nx' rs' ∧ WLe (B + 2 * k) rs' ∧ opsM C (R.drop k) (ops.drop k) rs' = fin0) ?_ (n := R.length) ⟨0, rs, by omega, by omega, e0, e6, e7, rfl, rfl, rfl, hi.mono (by omega), hB.mono (by omega), hF⟩
  rintro j e h' nx' ⟨k, rs', hj, hnx, e0, e6, e7, e92, e93, e94, hi, hw, hF⟩ Q' hq hx
  obtain ⟨g1, g2, g3, g4, g5, g6, g7⟩ := id hi
  unfold exec_Machine_Step_L1
  rw [e0, e6, e92, e93, e94]
  refine lss_s (fun hk => ?_) (fun hk => ?_)
  · have hk : k < R.length := by omega
    have hko : k < ops.length := by omega
    rw [drop_cons hk, drop_cons hko] at hF
    have hcm := hRl _ (List.getElem_mem hk)
    have hom := hor _ (List.getElem_mem hko)
    have hR' := hR.sub g4
    have hP' := hP.sub g4
    have ho' := ho.sub g4 fun _ _ h => h
    have rix := hR'.ix .i64 hk
    have rld := hR'.load hk
    have oix := ho'.ix .i64 hko
    obtain ⟨w, ⟨ow, olt⟩, o1⟩ := ho'.at1 hko
    simp only [List.cons.injEq, and_true] at ow
    subst ow
    generalize R[k] = c at hF hcm rld
    generalize ops[k] = o at hF hom o1 olt
    change opsM C _ _ (rs'.set c.toNat (rgOp (cntAt C c).2.toNat o (rgAt rs' c))) = fin0 at hF
    obtain ⟨q, hq', hri⟩ := g5.at hcm.1 hcm.2
    have hpi := hP'.ixI .i64 hcm.1 (by rw [ptrsC_len, g5.1]; exact hcm.2)
    have hp1 := hP'.load1 (ptrs_get hq')
    have hwc := hw.at c
    have hci : C[c.toNat]? = some (cntAt C c) := by rw [← cnt_get hcm.1 hcm.2]; exact List.getElem?_eq_getElem _
    (repeat (first | refine bindP_mk (by simp (disch := first | omega | exact Int.natCast_nonneg _ | assumption) only [BB, B2, ↓reduceIte, Nat.reduceLeDiff, Nat.reduceAdd, CC, nilCk_at, rix, rld, g1, m0, hpi, hp1, g3, oix, o1] <;> rfl) ?_ | refine newP_mk ?_ | refine optP_mk ?_ | with_reducible first | refine condP_t ?_ | refine condP_f ?_ | refine ifP_tt' ?_ | refine ifP_ff' ?_ | refine ifP_tf' ?_ | refine ifP_ft' ?_ | refine ifP_u' ?_ | refine optP_mk0 ?_))
    refine exec_change_c hri hom (by omega) fun h2 n2 hn2 hR2 ho2 => ?_
    have hwo := rgOp_w (cntAt C c).2.toNat o (rgAt rs' c)
    (repeat (first | refine bindP_mk (by simp (disch := first | omega | exact Int.natCast_nonneg _ | assumption) only [BB, B2, ↓reduceIte, Nat.reduceLeDiff, Nat.reduceAdd, CC] <;> rfl) ?_ | refine newP_mk ?_ | refine optP_mk ?_ | with_reducible first | refine condP_t ?_ | refine condP_f ?_ | refine ifP_tt' ?_ | refine ifP_ff' ?_ | refine ifP_tf' ?_ | refine ifP_ft' ?_ | refine ifP_u' ?_ | refine optP_mk0 ?_))
    exact hq (j - 1) _ _ _ _ (by omega) ⟨k + 1, _, by omega, by omega, e0, e6, e7, e92, e93, rfl, hi.ring (r := rgOp (cntAt C c).2.toNat o (rgAt rs' c)) hd hX hq' hci hri hR2 ho2 (by omega), (hw.mono (by omega)).set (by omega), hF⟩ (Sub.refl _)
  · (repeat (first | refine bindP_mk (by simp (disch := first | omega | exact Int.natCast_nonneg _ | assumption) only [BB, B2, ↓reduceIte, Nat.reduceLeDiff, Nat.reduceAdd, CC] <;> rfl) ?_ | refine newP_mk ?_ | refine optP_mk ?_ | with_reducible first | refine condP_t ?_ | refine condP_f ?_ | refine ifP_tt' ?_ | refine ifP_ff' ?_ | refine ifP_tf' ?_ | refine ifP_ft' ?_ | refine ifP_u' ?_ | refine optP_mk0 ?_))
    refine hx _ _ _ _ (fun e => by cases e) (exP_e (beqP_t ?_))
    rw [drop_all (by omega)] at hF
    have hF : rs' = fin0 := hF
    subst hF
    have hj3 : ∀ (e' : Env) n', e' 6 = ptr mb → nx' ≤ n' → exec_Machine_Step_j3 ro K e' h' n' := by
      intro e' n' f6 hn
      unfold exec_Machine_Step_j3
      rw [f6]
      (repeat (first | refine bindP_mk (by simp (disch := first | omega | exact Int.natCast_nonneg _ | assumption) only [BB, B2, ↓reduceIte, Nat.reduceLeDiff, Nat.reduceAdd, CC, g3] <;> rfl) ?_ | refine newP_mk ?_ | refine optP_mk ?_ | with_reducible first | refine condP_t ?_ | refine condP_f ?_ | refine ifP_tt' ?_ | refine ifP_ff' ?_ | refine ifP_tf' ?_ | refine ifP_ft' ?_ | refine ifP_u' ?_ | refine optP_mk0 ?_))
      refine bindP_mk (intB_neq _ _ _) ?_
      exact ⟨h', Sub.refl _, fin _ _ (by omega) (hi.mono (by omega))⟩
    exact hj3 _ _ e6 (by omega)
set_option maxRecDepth 8000 in
theorem step_j1_c {e : Env} {B : Nat} {lv rv' uv nv : Value} {S : List Int} (hcl : cc.length = 256) (e0 : e 0 = ptr p) (e5 : e 5 = ptr sb) (e6 : e 6 = ptr mb) (e7 : e 7 = nxv) (hi : SIn (del h0 X) hs p sb mb (machL cc many cv sv cur rv steps) [lv, rv', uv, nv] [.int .i64 to, ov] ps C h nx rs) (hd : Dst ps) (hX : ∀ k ∈ blks ps, k ∈ X) (hP : Sl ro (del h0 X) rv 1 (ptrsC ps))
    (hS : ZI ro (del h0 X) rv' S) (hSl : ∀ c ∈ S, 0 ≤ c ∧ c < C.length) (hS3 : S.length ≤ 3)
    (hR : ZI ro (del h0 X) nxv R) (ho : SlR ro (del h0 X) ov 1 RU8 ops) (hl : ops.length = R.length) (hor : ∀ o ∈ ops, 1 ≤ o ∧ o ≤ 3) (hRl : ∀ c ∈ R, 0 ≤ c ∧ c < C.length) (hR3 : R.length ≤ 3) (hB : WLe B rs) (hB2 : B + 20 ≤ 1000000)
    (fin : ∀ h' n', nx ≤ n' → SIn (del h0 X) hs p sb mb (machL cc many cv sv cur rv steps) [lv, rv', uv, nv] [.int .i64 to, ov] ps C h' n' (opsM C R ops (clrsM R S rs)) → K (.bool (!decide (to = -1))) h' n') : exec_Machine_Step_j1 ro K e h nx := by
  unfold exec_Machine_Step_j1
  rw [e5]
  have g2 := hi.2.1
  have hSh := (hS.sub hi.2.2.2.1).len
  (repeat (first | refine bindP_mk (by simp (disch := first | omega | exact Int.natCast_nonneg _ | assumption) only [BB, B2, ↓reduceIte, Nat.reduceLeDiff, Nat.reduceAdd, CC, g2, hSh] <;> rfl) ?_ | refine newP_mk ?_ | refine optP_mk ?_ | with_reducible first | refine condP_t ?_ | refine condP_f ?_ | refine ifP_tt' ?_ | refine ifP_ff' ?_ | refine ifP_tf' ?_ | refine ifP_ft' ?_ | refine ifP_u' ?_ | refine optP_mk0 ?_))
  have m0 := machL_260 (n := many) (cv := cv) (sv := sv) (cur := cur) (rv := rv) (steps := steps) hcl
  generalize hF : clrsM R S rs = fin0 at fin
  refine loopP_rule (fun j e h' nx' => ∃ (k : Nat) (rs' : List RgD), k + j = S.length ∧ nx ≤ nx' ∧ e 0 = ptr p ∧ e 6 = ptr mb ∧ e 7 = nxv ∧ e 73 = rv' ∧ e 74 = .int .i64 S.length ∧ e 75 = .int .i64 k ∧
    SIn (del h0 X) hs p sb mb (machL cc many cv sv cur rv steps) [lv, rv', uv, nv] [.int .i64 to, ov] ps C h' nx' rs' ∧ WLe (B + 2 * k) rs' ∧ clrsM R (S.drop k) rs' = fin0) ?_ (n := S.length) ⟨0, rs, by omega, by omega, e0, e6, e7, rfl, rfl, rfl, hi.mono (by omega), hB.mono (by omega), hF⟩
  rintro j e h' nx' ⟨k, rs', hj, hnx, e0, e6, e7, e73, e74, e75, hi, hw, hF⟩ Q' hq hx
  obtain ⟨g1, g2, g3, g4, g5, g6, g7⟩ := id hi
  unfold exec_Machine_Step_L2
  rw [e0, e7, e73, e74, e75]
  refine lss_s (fun hk => ?_) (fun hk => ?_)
  · have hk : k < S.length := by omega
    rw [drop_cons hk] at hF
    have hcm := hSl _ (List.getElem_mem hk)
    have hS' := hS.sub g4
    have hR' := hR.sub g4
    have hP' := hP.sub g4
    have six := hS'.ix .i64 hk
    have sld := hS'.load hk
    generalize S[k] = c at hF hcm sld
    change clrsM R _ (if R.contains c then rs' else rs'.set c.toNat (clrR (rgAt rs' c))) = fin0 at hF
    obtain ⟨q, hq', hri⟩ := g5.at hcm.1 hcm.2
    have hpi := hP'.ixI .i64 hcm.1 (by rw [ptrsC_len, g5.1]; exact hcm.2)
    have hp1 := hP'.load1 (ptrs_get hq')
    have hwc := hw.at c
    have hci : C[c.toNat]? = some (cntAt C c) := by rw [← cnt_get hcm.1 hcm.2]; exact List.getElem?_eq_getElem _
    have hj4 : ∀ (e' : Env) h2 n2 rs2, e' 0 = ptr p → e' 6 = ptr mb → e' 7 = nxv → e' 73 = rv' → e' 74 = .int .i64 S.length → e' 75 = .int .i64 k → nx ≤ n2 → SIn (del h0 X) hs p sb mb (machL cc many cv sv cur rv steps) [lv, rv', uv, nv] [.int .i64 to, ov] ps C h2 n2 rs2 → WLe (B + 2 * (k + 1)) rs2 → clrsM R (S.drop (k + 1)) rs2 = fin0 → exec_Machine_Step_j4 ro Q' e' h2 n2 := by
      intro e' h2 n2 rs2 f0 f6 f7 f73 f74 f75 hn hi2 hw2 hF2
      unfold exec_Machine_Step_j4
      rw [f75]
      (repeat (first | refine bindP_mk (by simp (disch := first | omega | exact Int.natCast_nonneg _ | assumption) only [BB, B2, ↓reduceIte, Nat.reduceLeDiff, Nat.reduceAdd, CC] <;> rfl) ?_ | refine newP_mk ?_ | refine optP_mk ?_ | with_reducible first | refine condP_t ?_ | refine condP_f ?_ | refine ifP_tt' ?_ | refine ifP_ff' ?_ | refine ifP_tf' ?_ | refine ifP_ft' ?_ | refine ifP_u' ?_ | refine optP_mk0 ?_))
      exact hq (j - 1) _ _ _ _ (by omega) ⟨k + 1, rs2, by omega, by omega, f0, f6, f7, f73, f74, rfl, hi2.mono (by omega), hw2, hF2⟩ (Sub.refl _)
    (repeat (first | refine bindP_mk (by simp (disch := first | omega | exact Int.natCast_nonneg _ | assumption) only [BB, B2, ↓reduceIte, Nat.reduceLeDiff, Nat.reduceAdd, CC, six, sld] <;> rfl) ?_ | refine newP_mk ?_ | refine optP_mk ?_ | with_reducible first | refine condP_t ?_ | refine condP_f ?_ | refine ifP_tt' ?_ | refine ifP_ff' ?_ | refine ifP_tf' ?_ | refine ifP_ft' ?_ | refine ifP_u' ?_ | refine optP_mk0 ?_))
    refine slices_Contains_c (by omega) hR' fun n2 hn2 => ?_
    cases hcn : R.contains c with
    | true =>
      rw [hcn, if_pos rfl] at hF
      (repeat (first | refine bindP_mk (by simp (disch := first | omega | exact Int.natCast_nonneg _ | assumption) only [BB, B2, ↓reduceIte, Nat.reduceLeDiff, Nat.reduceAdd, CC] <;> rfl) ?_ | refine newP_mk ?_ | refine optP_mk ?_ | with_reducible first | refine condP_t ?_ | refine condP_f ?_ | refine ifP_tt' ?_ | refine ifP_ff' ?_ | refine ifP_tf' ?_ | refine ifP_ft' ?_ | refine ifP_u' ?_ | refine optP_mk0 ?_))
      exact hj4 _ _ _ rs' e0 e6 e7 e73 e74 e75 (by omega) (hi.mono (by omega)) (hw.mono (by omega)) hF
    | false =>
      rw [hcn, if_neg (by decide)] at hF
      (repeat (first | refine bindP_mk (by simp (disch := first | omega | exact Int.natCast_nonneg _ | assumption) only [BB, B2, ↓reduceIte, Nat.reduceLeDiff, Nat.reduceAdd, CC, nilCk_at, g1, m0, hpi, hp1] <;> rfl) ?_ | refine newP_mk ?_ | refine optP_mk ?_ | with_reducible first | refine condP_t ?_ | refine condP_f ?_ | refine ifP_tt' ?_ | refine ifP_ff' ?_ | refine ifP_tf' ?_ | refine ifP_ft' ?_ | refine ifP_u' ?_ | refine optP_mk0 ?_))
      refine ring_Clear_c hri (by omega) fun h2 n3 hn3 hR2 ho2 => ?_
      exact hj4 _ _ _ _ e0 e6 e7 e73 e74 e75 (by omega) (hi.ring (r := clrR (rgAt rs' c)) hd hX hq' hci hri hR2 ho2 (by omega)) ((hw.mono (by omega)).set (by show (rgAt rs' c).2 + 1 ≤ _; omega)) hF
  · (repeat (first | refine bindP_mk (by simp (disch := first | omega | exact Int.natCast_nonneg _ | assumption) only [BB, B2, ↓reduceIte, Nat.reduceLeDiff, Nat.reduceAdd, CC] <;> rfl) ?_ | refine newP_mk ?_ | refine optP_mk ?_ | with_reducible first | refine condP_t ?_ | refine condP_f ?_ | refine ifP_tt' ?_ | refine ifP_ff' ?_ | refine ifP_tf' ?_ | refine ifP_ft' ?_ | refine ifP_u' ?_ | refine optP_mk0 ?_))
    refine hx _ _ _ _ (fun e => by cases e) (exP_e (beqP_t ?_))
    rw [drop_all (by omega)] at hF
    have hF : rs' = fin0 := hF
    subst hF
    have hj2 : ∀ (e' : Env) n', e' 0 = ptr p → e' 6 = ptr mb → e' 7 = nxv → nx' ≤ n' → exec_Machine_Step_j2 ro K e' h' n' := fun e' n' f0 f6 f7 hn =>
      step_j2_c hcl f0 f6 f7 (hi.mono hn) hd hX hP hR ho hl hor hRl hR3 hw (by omega) fun h2 n2 hn2 hi2 => fin h2 n2 (by omega) hi2
    exact hj2 _ _ e0 e6 e7 (by omega)
end
end V
end Go.Proofs.YtjndkdmkecpllaaGreat
set_option linter.unusedVariables false
set_option linter.unusedSimpArgs false
namespace Go.Proofs.YtjndkdmkecpllaaGreat
namespace V
attribute [local irreducible] bindP ifP condP newP optP exP beqP
theorem ops_all {d : AutoD} {R S : List Int} {m : MoveD} (ha : autoOk d = true) (h : moveOk d.states R m = true) : m.ops.length = (nextR d m.to).length ∧ (∀ o ∈ m.ops, 1 ≤ o ∧ o ≤ 3) ∧ (∀ c ∈ nextR d m.to, 0 ≤ c ∧ c < d.counts.length) ∧ (nextR d m.to).length ≤ 3 := by
  rcases move_parts h with ⟨h1, h2⟩ | ⟨h1, h2, h3, h4⟩
  · unfold nextR
    rw [if_pos h1, h2]
    exact ⟨rfl, (fun o ho => by cases ho), (fun o ho => by cases ho), by simp⟩
  · have hne : m.to ≠ -1 := by omega
    unfold nextR
    rw [if_neg hne]
    have hi : m.to.toNat < d.states.length := by omega
    have hs : d.states.getD m.to.toNat noS = d.states[m.to.toNat] := by rw [List.getD_eq_getElem?_getD, List.getElem?_eq_getElem hi]; rfl
    have hk := state_parts ((autoOk_parts ha).2.2.2.2.2 _ (List.getElem_mem hi))
    rw [← hs] at hk
    exact ⟨h3, ops_range h4 h3, hk.2.2.2.1, hk.1⟩
theorem clrs_w {nx : List Int} {B : Nat} : ∀ {S : List Int} {rs : List RgD}, WLe B rs → WLe (B + S.length) (clrsM nx S rs)
  | [], rs, h => h
  | c :: r, rs, h => by
    unfold clrsM
    have h1 : WLe (B + 1) (if nx.contains c then rs else rs.set c.toNat (clrR (rgAt rs c))) := by
      split
      · exact h.mono (by omega)
      · exact (h.mono (by omega)).set (by show (rgAt rs c).2 + 1 ≤ _; have := h.at c; omega)
    have := clrs_w (nx := nx) (S := r) h1
    rw [List.length_cons]
    exact this.mono (by omega)
theorem ops_w {C : List (Int × Int)} {B : Nat} : ∀ {R : List Int} {os : List Nat} {rs : List RgD}, WLe B rs → WLe (B + 2 * R.length) (opsM C R os rs)
  | [], _, rs, h => by simpa [opsM] using h
  | c :: r, [], rs, h => by
    unfold opsM; exact h.mono (by omega)
  | c :: r, o :: os, rs, h => by
    unfold opsM
    have := ops_w (C := C) (R := r) (os := os) (show WLe (B + 2) (rs.set c.toNat (rgOp (cntAt C c).2.toNat o (rgAt rs c))) from (h.mono (by omega)).set (by have := h.at c; have := rgOp_w (cntAt C c).2.toNat o (rgAt rs c); omega))
    rw [List.length_cons]
    exact this.mono (by omega)
theorem step_w {d : AutoD} {m : MacD} {b B : Nat} (ha : autoOk d = true) (ho : MOk d m) (hcl : d.c.length = 256) (hb : b < 256) (h : WLe B m.rs) : WLe (B + 9) (stepM d m b).rs := by
  unfold stepM
  by_cases hc : m.cur = -1
  · rw [if_pos hc]; exact h.mono (by omega)
  · rw [if_neg hc]
    have h1 := (st_at ha ho hc).r3
    have h2 := ops_all (S := []) ha (move_at ha ho hc hcl hb).2
    have h3 := ops_w (C := d.counts) (R := nextR d (moveM d m b).to) (os := (moveM d m b).ops) (clrs_w (nx := nextR d (moveM d m b).to) (S := (stAt d m).r) h)
    exact h3.mono (by omega)
section
variable {ro : Ro} {h : T Obj} {nx : Nat} {X : List Nat} {p : Nat} {ps : List (Nat × Nat)} {d : AutoD} {m : MacD} {K : KV}
set_option maxRecDepth 8000 in
set_option maxHeartbeats 1000000 in
theorem exec_Step_c {b B : Nat} (hm : MI ro h X p ps d m) (ha : autoOk d = true) (ho : MOk d m) (hb : b < 256) (hf : Fr h nx) (hB : WLe B m.rs) (hB2 : B + 20 ≤ 1000000) (hst : m.steps ≤ 1000000000)
    (hK : ∀ h' nx', nx ≤ nx' → Fr h' nx' → Keep (p :: blks ps) h h' → MI ro h' X p ps d (stepM d m b) → K (.bool (onM d m b)) h' nx') : callP Tryz.prog ro i_exec_Machine_Step [ptr p, .int .u8 (b : Int)] h nx K := by
  apply exec_Machine_Step_of
  unfold exec_Machine_Step
  refine exec_State_c hm fun n1 hn1 => ?_
  unfold onM stepM at hK
  by_cases hc : m.cur = -1
  · rw [if_pos hc, decide_eq_true hc] at hK
    refine eql_t hc ?_
    (repeat (first | refine bindP_mk (by simp (disch := first | omega | exact Int.natCast_nonneg _ | assumption) only [BB, B2, ↓reduceIte, Nat.reduceLeDiff, Nat.reduceAdd, CC] <;> rfl) ?_ | refine newP_mk ?_ | refine optP_mk ?_ | with_reducible first | refine condP_t ?_ | refine condP_f ?_ | refine ifP_tt' ?_ | refine ifP_ff' ?_ | refine ifP_tf' ?_ | refine ifP_ft' ?_ | refine ifP_u' ?_ | refine optP_mk0 ?_))
    exact ⟨h, Sub.refl _, hK _ _ (by omega) (hf.mono (by omega)) (Sub.refl _).keepL hm⟩
  · rw [if_neg hc, decide_eq_false hc] at hK
    have hsf := st_at ha ho hc
    obtain ⟨cv, sv, rv, gp, hA, hP, hR, hD, hpX, hbX⟩ := id hm
    obtain ⟨hcl, hclt, hcv, hsv⟩ := hA.parts
    have hmv := move_at ha ho hc hcl hb
    have hops := ops_all (S := []) ha hmv.2
    have hmp := move_parts hmv.2
    have hsvD := hsv
    have hsv := hsv.sub (del_sub h X) (RState.sub (del_sub h X))
    have m8 := machL_258 (n := d.many) (cv := cv) (sv := sv) (cur := m.cur) (rv := rv) (steps := m.steps) hcl
    have m9 := machL_259 (n := d.many) (cv := cv) (sv := sv) (cur := m.cur) (rv := rv) (steps := m.steps) hcl
    have m1 := machL_261 (n := d.many) (cv := cv) (sv := sv) (cur := m.cur) (rv := rv) (steps := m.steps) hcl
    have mb := machL_b (n := d.many) (cv := cv) (sv := sv) (cur := m.cur) (rv := rv) (steps := m.steps) hcl hb
    have hcur : 0 ≤ m.cur ∧ m.cur < d.states.length := by rcases ho.1 with h | h <;> omega
    have hi : m.cur.toNat < d.states.length := by omega
    have hs : d.states[m.cur.toNat] = stAt d m := by unfold stAt; rw [List.getD_eq_getElem?_getD, List.getElem?_eq_getElem hi]; rfl
    have hsi := hsv.ixI .i64 hcur.1 hcur.2
    obtain ⟨x, ⟨lv, rv', uv, nv, rfl, y1, y2, y3, y4, y5⟩, hx2, hx3, hx4, hx5⟩ := hsv.at hi
    obtain ⟨xD, ⟨lvD, rvD, uvD, nvD, rfl, z1, z2, z3, z4, z5⟩, w2, w3, w4, w5⟩ := hsvD.at hi
    have hsame : [lv, rv', uv, nv] = [lvD, rvD, uvD, nvD] := by
      have := loadA_sub (del_sub h X) w3
      rw [hx3] at this
      simpa using this
    simp only [List.cons.injEq, and_true] at hsame
    obtain ⟨rfl, rfl, rfl, rfl⟩ := hsame
    rw [hs] at y1 y2 y3 y4 y5 z2 z4
    refine eql_f hc ?_
    (repeat (first | refine bindP_mk (by simp (disch := first | omega | exact Int.natCast_nonneg _ | assumption) only [BB, B2, ↓reduceIte, Nat.reduceLeDiff, Nat.reduceAdd, CC, nilCk_at, gp, m8, m9, hsi, hx3] <;> rfl) ?_ | refine newP_mk ?_ | refine optP_mk ?_ | with_reducible first | refine condP_t ?_ | refine condP_f ?_ | refine ifP_tt' ?_ | refine ifP_ff' ?_ | refine ifP_tf' ?_ | refine ifP_ft' ?_ | refine ifP_u' ?_ | refine optP_mk0 ?_))
    refine local_mk (x := [lv, rv', uv, nv]) zer_State rfl rfl rfl (by simp [y1.ok, y2.ok, y3.ok, SlR.okC y4]) hf (by omega) fun h2 hs2 hf2 g2 _ => ?_
    (repeat (first | refine bindP_mk (by simp (disch := first | omega | exact Int.natCast_nonneg _ | assumption) only [BB, B2, ↓reduceIte, Nat.reduceLeDiff, Nat.reduceAdd, CC, g2] <;> rfl) ?_ | refine newP_mk ?_ | refine optP_mk ?_ | with_reducible first | refine condP_t ?_ | refine condP_f ?_ | refine ifP_tt' ?_ | refine ifP_ff' ?_ | refine ifP_tf' ?_ | refine ifP_ft' ?_ | refine ifP_u' ?_ | refine optP_mk0 ?_))
    have hm2 := hm.subX RI_ok hs2
    have gp2 := hs2 _ _ gp
    refine exec_code_c hm2 (hf2.mono (by omega)) hsf.r3 hsf.rl (y2.sub hs2) fun n3 hn3 => ?_
    have hkn := hsf.kn
    have z4' := z4.sub ((del_sub h X).trans hs2) (RRow.sub ((del_sub h X).trans hs2))
    have nix := z4'.ix .i64 hkn
    obtain ⟨w, ⟨w', hw1, hw2, hw3⟩, hw4⟩ := z4'.at1 hkn
    simp only [List.cons.injEq, and_true] at hw1
    subst hw1
    have hrow : (stAt d m).next[codeM d.counts m.rs (stAt d m).r] = (stAt d m).next.getD (codeM d.counts m.rs (stAt d m).r) [] := by rw [List.getD_eq_getElem?_getD, List.getElem?_eq_getElem hkn]; rfl
    rw [hrow] at hw2 hw3
    -- the row as memory without X has it
    have hrowD : SlR ro (del h X) w 2 (RMove ro (del h X)) ((stAt d m).next.getD (codeM d.counts m.rs (stAt d m).r) []) := by
      obtain ⟨u, ⟨u', hu1, hu2, hu3⟩, hu4⟩ := z4.at1 hkn
      simp only [List.cons.injEq, and_true] at hu1
      subst hu1
      have := load1_sub ((del_sub h X).trans hs2) hu4
      rw [hw4] at this
      cases this
      rw [hrow] at hu2
      exact hu2
    generalize hcb : d.c.getD b 0 = cb at mb hmv
    have hci : cb < ((stAt d m).next.getD (codeM d.counts m.rs (stAt d m).r) []).length := hmv.1
    have hmvd : moveM d m b = ((stAt d m).next.getD (codeM d.counts m.rs (stAt d m).r) [])[cb] := by
      unfold moveM
      rw [hcb, List.getD_eq_getElem?_getD (a := noMv), List.getElem?_eq_getElem hci]; rfl
    refine ⟨sameV_own g2 g2, ?_⟩
    have rix := hw2.ix .u8 hci
    obtain ⟨x, ⟨ov, rfl, hov, hol⟩, v2, v3, v4, v5⟩ := hw2.at hci
    obtain ⟨xD, ⟨ovD, rfl, hovD, holD⟩, u2, u3, u4, u5⟩ := hrowD.at hci
    have hsame2 : [Value.int .i64 ((stAt d m).next.getD (codeM d.counts m.rs (stAt d m).r) [])[cb].to, ov] = [Value.int .i64 ((stAt d m).next.getD (codeM d.counts m.rs (stAt d m).r) [])[cb].to, ovD] := by
      have := loadA_sub ((del_sub h X).trans hs2) u3
      rw [v3] at this
      simpa using this
    simp only [List.cons.injEq, and_true, true_and] at hsame2
    subst hsame2
    rw [← hmvd] at v3 hovD hov
    refine bindP_mk nix (bindP_mk hw4 ?_)
    (repeat (first | refine bindP_mk (by simp (disch := first | omega | exact Int.natCast_nonneg _ | assumption) only [BB, B2, ↓reduceIte, Nat.reduceLeDiff, Nat.reduceAdd, CC, nilCk_at, gp2, mb] <;> rfl) ?_ | refine newP_mk ?_ | refine optP_mk ?_ | with_reducible first | refine condP_t ?_ | refine condP_f ?_ | refine ifP_tt' ?_ | refine ifP_ff' ?_ | refine ifP_tf' ?_ | refine ifP_ft' ?_ | refine ifP_u' ?_ | refine optP_mk0 ?_))
    refine ⟨sameV_own gp2 gp2, ?_⟩
    refine bindP_mk rix (bindP_mk v3 ?_)
    generalize hMV : moveM d m b = mv at hK hops hmp hovD hov
    refine local_mk (x := [.int .i64 mv.to, ov]) zer_Move rfl rfl rfl (by simp [show cellOk ov = true from SlR.okC hov, show cellOk (Value.int .i64 mv.to) = true from rfl]) hf2 (by omega) fun h3 hs3 hf3 g3 _ => ?_
    have gp3 := hs3 _ _ gp2
    have g23 := hs3 _ _ g2
    (repeat (first | refine bindP_mk (by simp (disch := first | omega | exact Int.natCast_nonneg _ | assumption) only [BB, B2, ↓reduceIte, Nat.reduceLeDiff, Nat.reduceAdd, CC, nilCk_at] <;> rfl) ?_ | refine newP_mk ?_ | refine optP_mk ?_ | with_reducible first | refine condP_t ?_ | refine condP_f ?_ | refine ifP_tt' ?_ | refine ifP_ff' ?_ | refine ifP_tf' ?_ | refine ifP_ft' ?_ | refine ifP_u' ?_ | refine optP_mk0 ?_))
    refine bindP_mk (load1_get gp3 m1) ?_
    (repeat (first | refine bindP_mk (by simp (disch := first | omega | exact Int.natCast_nonneg _ | assumption) only [BB, B2, ↓reduceIte, Nat.reduceLeDiff, Nat.reduceAdd, CC] <;> rfl) ?_ | refine newP_mk ?_ | refine optP_mk ?_ | with_reducible first | refine condP_t ?_ | refine condP_f ?_ | refine ifP_tt' ?_ | refine ifP_ff' ?_ | refine ifP_tf' ?_ | refine ifP_ft' ?_ | refine ifP_u' ?_ | refine optP_mk0 ?_))
    refine bindP_mk (load1_get (l := [lv, rv', uv, nv]) g23 rfl) ?_
    refine bindP_mk y2.len ?_
    have hr3 := hsf.r3
    (repeat (first | refine bindP_mk (by simp (disch := first | omega | exact Int.natCast_nonneg _ | assumption) only [BB, B2, ↓reduceIte, Nat.reduceLeDiff, Nat.reduceAdd, CC, nilCk_at] <;> rfl) ?_ | refine newP_mk ?_ | refine optP_mk ?_ | with_reducible first | refine condP_t ?_ | refine condP_f ?_ | refine ifP_tt' ?_ | refine ifP_ff' ?_ | refine ifP_tf' ?_ | refine ifP_ft' ?_ | refine ifP_u' ?_ | refine optP_mk0 ?_))
    have esteps : (m.steps : Int) + (1 + ((stAt d m).r.length : Int)) = ((m.steps + 1 + (stAt d m).r.length : Nat) : Int) := by omega
    rw [esteps]
    refine bindP_mk (store1_own (v := .int .i64 ((m.steps + 1 + (stAt d m).r.length : Nat) : Int)) gp3 (by rw [machL_len hcl]; omega) rfl rfl) ?_
    rw [machL_set261 hcl]
    have n2lt := hf.lt' gp
    have gp4 : (h3.upd p (some (.cells (machL d.c d.many cv sv m.cur rv (m.steps + 1 + (stAt d m).r.length)).toArray y_exec_Machine))).get p = some (.cells (machL d.c d.many cv sv m.cur rv (m.steps + 1 + (stAt d m).r.length)).toArray y_exec_Machine) := T.get_upd_same _ _ _
    have ho4 : ∀ k, k ≠ p → (h3.upd p (some (.cells (machL d.c d.many cv sv m.cur rv (m.steps + 1 + (stAt d m).r.length)).toArray y_exec_Machine))).get k = h3.get k := fun k hk => T.get_upd_ne _ _ hk
    generalize (h3.upd p (some (.cells (machL d.c d.many cv sv m.cur rv (m.steps + 1 + (stAt d m).r.length)).toArray y_exec_Machine))) = h4 at gp4 ho4
    have g24 := (ho4 (n1 + 12) (by omega)).trans g23
    have g34 := (ho4 (n1 + 31) (by omega)).trans g3
    (repeat (first | refine bindP_mk (by simp (disch := first | omega | exact Int.natCast_nonneg _ | assumption) only [BB, B2, ↓reduceIte, Nat.reduceLeDiff, Nat.reduceAdd, CC] <;> rfl) ?_ | refine newP_mk ?_ | refine optP_mk ?_ | with_reducible first | refine condP_t ?_ | refine condP_f ?_ | refine ifP_tt' ?_ | refine ifP_ff' ?_ | refine ifP_tf' ?_ | refine ifP_ft' ?_ | refine ifP_u' ?_ | refine optP_mk0 ?_))
    refine bindP_mk (load1_get (l := [.int .i64 mv.to, ov]) g34 rfl) ?_
    (repeat (first | refine bindP_mk (by simp (disch := first | omega | exact Int.natCast_nonneg _ | assumption) only [BB, B2, ↓reduceIte, Nat.reduceLeDiff, Nat.reduceAdd, CC, nilCk_at] <;> rfl) ?_ | refine newP_mk ?_ | refine optP_mk ?_ | with_reducible first | refine condP_t ?_ | refine condP_f ?_ | refine ifP_tt' ?_ | refine ifP_ff' ?_ | refine ifP_tf' ?_ | refine ifP_ft' ?_ | refine ifP_u' ?_ | refine optP_mk0 ?_))
    refine bindP_mk (store1_own (v := .int .i64 mv.to) gp4 (by rw [machL_len hcl]; omega) rfl rfl) ?_
    rw [machL_set259 hcl]
    have gp5 : (h4.upd p (some (.cells (machL d.c d.many cv sv mv.to rv (m.steps + 1 + (stAt d m).r.length)).toArray y_exec_Machine))).get p = some (.cells (machL d.c d.many cv sv mv.to rv (m.steps + 1 + (stAt d m).r.length)).toArray y_exec_Machine) := T.get_upd_same _ _ _
    have ho5 : ∀ k, k ≠ p → (h4.upd p (some (.cells (machL d.c d.many cv sv mv.to rv (m.steps + 1 + (stAt d m).r.length)).toArray y_exec_Machine))).get k = h3.get k := fun k hk => (T.get_upd_ne _ _ hk).trans (ho4 k hk)
    generalize (h4.upd p (some (.cells (machL d.c d.many cv sv mv.to rv (m.steps + 1 + (stAt d m).r.length)).toArray y_exec_Machine))) = h5 at gp5 ho5
    have g25 := (ho5 (n1 + 12) (by omega)).trans g23
    have g35 := (ho5 (n1 + 31) (by omega)).trans g3
    have hs5 : Sub h h3 := hs2.trans hs3
    have hD5 : Sub (del h X) h5 := fun k o hk => by
      have h9 := hk
      rw [del_get] at h9
      split at h9
      · cases h9
      · rename_i hn
        rw [ho5 k (fun e => hn (by rw [e]; exact hpX))]
        exact hs5 _ _ h9
    have hf5 : Fr h5 (n1 + 32) := fun k hk => by rw [ho5 k (by omega)]; exact hf3 k (by omega)
    have hSI : SIn (del h X) h p (n1 + 12) (n1 + 31) (machL d.c d.many cv sv mv.to rv (m.steps + 1 + (stAt d m).r.length)) [lv, rv', uv, nv] [.int .i64 mv.to, ov] ps d.counts h5 (n1 + 32) m.rs := by
      refine ⟨gp5, g25, g35, hD5, hR.keep RI_ok fun q hq => ?_, fun k o hk hn => ?_, hf5⟩
      · obtain ⟨⟨c1, t1⟩, c2, t2⟩ := hR.ty RI_ok q hq
        rw [ho5 _ (ne_of_get t1 gp (by decide)), ho5 _ (ne_of_get t2 gp (by decide)), t1, t2, hs5 _ _ t1, hs5 _ _ t2]
        exact ⟨rfl, rfl⟩
      · rw [ho5 k fun e => hn (by rw [e]; exact List.mem_cons_self ..)]
        exact hs5 _ _ hk
    have hfin : ∀ h' n', n1 + 32 ≤ n' → SIn (del h X) h p (n1 + 12) (n1 + 31) (machL d.c d.many cv sv mv.to rv (m.steps + 1 + (stAt d m).r.length)) [lv, rv', uv, nv] [.int .i64 mv.to, ov] ps d.counts h' n' (opsM d.counts (nextR d mv.to) mv.ops (clrsM (nextR d mv.to) (stAt d m).r m.rs)) → K (.bool (!decide (mv.to = -1))) h' n' := by
      intro h' n' hn' hi'
      obtain ⟨q1, q2, q3, q4, q5, q6, q7⟩ := hi'
      have hre := del_re q4
      have := hK h' n' (by omega) q7 q6 ⟨cv, sv, rv, q1, hA.sub hre, hP.sub hre, q5, hD, hpX, hbX⟩
      simpa using this
    have hj1 : ∀ (e' : Env) n' nxv, e' 0 = ptr p → e' 5 = ptr (n1 + 12) → e' 6 = ptr (n1 + 31) → e' 7 = nxv → ZI ro (del h X) nxv (nextR d mv.to) → n1 + 32 ≤ n' → exec_Machine_Step_j1 ro K e' h5 n' := fun e' n' nxv f0 f5 f6 f7 hz hn' =>
      step_j1_c hcl f0 f5 f6 f7 (hSI.mono hn') hD hbX hP z2 hsf.rl hsf.r3 hz hovD hops.1 hops.2.1 hops.2.2.1 hops.2.2.2 hB hB2 fun h' n'' hn'' hi' => hfin h' n'' (by omega) hi'
    have m85 := machL_258 (n := d.many) (cv := cv) (sv := sv) (cur := mv.to) (rv := rv) (steps := m.steps + 1 + (stAt d m).r.length) hcl
    (repeat (first | refine bindP_mk (by simp (disch := first | omega | exact Int.natCast_nonneg _ | assumption) only [BB, B2, ↓reduceIte, Nat.reduceLeDiff, Nat.reduceAdd, CC] <;> rfl) ?_ | refine newP_mk ?_ | refine optP_mk ?_ | with_reducible first | refine condP_t ?_ | refine condP_f ?_ | refine ifP_tt' ?_ | refine ifP_ff' ?_ | refine ifP_tf' ?_ | refine ifP_ft' ?_ | refine ifP_u' ?_ | refine optP_mk0 ?_))
    refine bindP_mk (load1_get (l := [.int .i64 mv.to, ov]) g35 rfl) ?_
    by_cases hto : mv.to = -1
    · refine neq_f hto ?_
      (repeat (first | refine bindP_mk (by simp (disch := first | omega | exact Int.natCast_nonneg _ | assumption) only [BB, B2, ↓reduceIte, Nat.reduceLeDiff, Nat.reduceAdd, CC] <;> rfl) ?_ | refine newP_mk ?_ | refine optP_mk ?_ | with_reducible first | refine condP_t ?_ | refine condP_f ?_ | refine ifP_tt' ?_ | refine ifP_ff' ?_ | refine ifP_tf' ?_ | refine ifP_ft' ?_ | refine ifP_u' ?_ | refine optP_mk0 ?_))
      refine hj1 _ _ (.slice none 0 0) rfl rfl rfl rfl ?_ (by omega)
      unfold nextR
      rw [if_pos hto]
      exact Sl.nil
    · refine neq_t hto ?_
      have htr : 1 ≤ mv.to ∧ mv.to < d.states.length := by rcases hmp with h | h <;> omega
      have hti : mv.to.toNat < d.states.length := by omega
      have hsv5 := hsvD.sub hD5 (RState.sub hD5)
      have tix := hsv5.ixI .i64 (show 0 ≤ mv.to by omega) htr.2
      obtain ⟨x, ⟨lv2, rv2, uv2, nv2, rfl, a1, a2, a3, a4, a5⟩, b2, b3, b4, b5⟩ := hsvD.at hti
      have hl5 := load1_sub hD5 (b5 1 rv2 rfl)
      have b4' := b4 1
      (repeat (first | refine bindP_mk (by simp (disch := first | omega | exact Int.natCast_nonneg _ | assumption) only [BB, B2, ↓reduceIte, Nat.reduceLeDiff, Nat.reduceAdd, CC, nilCk_at] <;> rfl) ?_ | refine newP_mk ?_ | refine optP_mk ?_ | with_reducible first | refine condP_t ?_ | refine condP_f ?_ | refine ifP_tt' ?_ | refine ifP_ff' ?_ | refine ifP_tf' ?_ | refine ifP_ft' ?_ | refine ifP_u' ?_ | refine optP_mk0 ?_))
      refine bindP_mk (load1_get gp5 m85) ?_
      (repeat (first | refine bindP_mk (by simp (disch := first | omega | exact Int.natCast_nonneg _ | assumption) only [BB, B2, ↓reduceIte, Nat.reduceLeDiff, Nat.reduceAdd, CC] <;> rfl) ?_ | refine newP_mk ?_ | refine optP_mk ?_ | with_reducible first | refine condP_t ?_ | refine condP_f ?_ | refine ifP_tt' ?_ | refine ifP_ff' ?_ | refine ifP_tf' ?_ | refine ifP_ft' ?_ | refine ifP_u' ?_ | refine optP_mk0 ?_))
      refine bindP_mk (load1_get (l := [.int .i64 mv.to, ov]) g35 rfl) ?_
      refine bindP_mk tix (bindP_mk b4' (bindP_mk hl5 ?_))
      refine hj1 _ _ rv2 rfl rfl rfl rfl ?_ (by omega)
      unfold nextR
      rw [if_neg hto, List.getD_eq_getElem?_getD, List.getElem?_eq_getElem hti]
      exact a2
end
end V
end Go.Proofs.YtjndkdmkecpllaaGreat
set_option linter.unusedVariables false
set_option linter.unusedSimpArgs false
namespace Go.Proofs.YtjndkdmkecpllaaGreat
namespace V
attribute [local irreducible] bindP ifP condP newP optP exP beqP
def bts (s : ByteArray) : List Nat := s.data.toList.map (·.toNat)
theorem bts_len (s : ByteArray) : (bts s).length = s.size := by unfold bts; rw [List.length_map]; rfl
theorem bts_lt {s : ByteArray} : ∀ b ∈ bts s, b < 256 := fun b hb => by
  unfold bts at hb
  rw [List.mem_map] at hb
  obtain ⟨x, _, rfl⟩ := hb
  exact x.toNat_lt
theorem lenStr_bts (s : ByteArray) : lenStr (.string s) = some (.int .i64 (bts s).length) := by rw [bts_len]; rfl
theorem ixStr_bts {s : ByteArray} {k : IntKind} {i : Nat} (hi : i < (bts s).length) : ixStr (.string s) (.int k (i : Int)) = some (.int .u8 ((bts s)[i] : Nat)) := by
  have hn : natV (.int k (i : Int)) = some i := by simp [natV]
  have hl : i < s.data.toList.length := by simpa [bts] using hi
  unfold ixStr
  rw [hn]
  simp only [Option.bind]
  rw [List.getElem?_eq_getElem hl]
  simp [bts]
theorem step_steps {d : AutoD} {m : MacD} {b : Nat} (ha : autoOk d = true) (ho : MOk d m) : (stepM d m b).steps ≤ m.steps + 4 := by
  unfold stepM
  by_cases hc : m.cur = -1
  · rw [if_pos hc]; omega
  · rw [if_neg hc]
    have := (st_at ha ho hc).r3
    show m.steps + 1 + _ ≤ _
    omega
theorem reset_w {B : Nat} {m : MacD} (h : WLe B m.rs) : WLe (B + 1) (resetM m).rs := fun r hr => by
  obtain ⟨x, hx, rfl⟩ := List.mem_map.1 hr
  have := h x hx
  unfold rsetR
  split
  · omega
  · show x.2 + 1 ≤ _; omega
def SJn (D hs : T Obj) (p : Nat) (pc : List Value) (ps : List (Nat × Nat)) (C : List (Int × Int)) (h : T Obj) (nx : Nat) (rs : List RgD) : Prop :=
  h.get p = some (.cells pc.toArray y_exec_Machine) ∧ Sub D h ∧ RsX RI h ps C rs ∧ Keep (p :: blks ps) hs h ∧ Fr h nx
section
variable {ro : Ro} {h0 hs h h' : T Obj} {X : List Nat} {p nx : Nat} {pc : List Value} {ps : List (Nat × Nat)} {C : List (Int × Int)} {rs : List RgD} {K : KV}
theorem SJn.mono {n' : Nat} (hi : SJn (del h0 X) hs p pc ps C h nx rs) (hn : nx ≤ n') : SJn (del h0 X) hs p pc ps C h n' rs := by
  obtain ⟨g1, g4, g5, g6, g7⟩ := hi
  exact ⟨g1, g4, g5, g6, g7.mono hn⟩
theorem SJn.ring {i n' : Nat} {q : Nat × Nat} {c : Int × Int} {L : List Nat} {w n : Nat} {r : RgD} (hi : SJn (del h0 X) hs p pc ps C h nx rs) (hd : Dst ps) (hX : ∀ k ∈ blks ps, k ∈ X) (hq : ps[i]? = some q) (hc : C[i]? = some c) (hR : RI h q.1 q.2 n L w) (hR' : RI h' q.1 q.2 c.2.toNat r.1 r.2) (ho : Only h h' q.1 q.2) (hn : nx ≤ n') :
    SJn (del h0 X) hs p pc ps C h' n' (rs.set i r) := by
  obtain ⟨g1, g4, g5, g6, g7⟩ := hi
  have hm := List.mem_of_getElem? hq
  have m1 : q.1 ∈ blks ps := mem_blks.2 ⟨q, hm, .inl rfl⟩
  have m2 : q.2 ∈ blks ps := mem_blks.2 ⟨q, hm, .inr rfl⟩
  have hr := g5.set RI_ok hd g7 hq hc hR' fun k _ k1 k2 => ho k k1 k2
  rw [set_same hq] at hr
  refine ⟨ho.get hR g1 (by decide) (by decide), ho.subD (hX _ m1) (hX _ m2) g4, hr, fun k o hk hn => ?_, (ho.frR hR g7).mono hn⟩
  rw [ho k (fun e => hn (List.mem_cons_of_mem _ (by rw [e]; exact m1))) (fun e => hn (List.mem_cons_of_mem _ (by rw [e]; exact m2)))]
  exact g6 k o hk hn
end
section
variable {ro : Ro} {h : T Obj} {nx : Nat} {X : List Nat} {p : Nat} {ps : List (Nat × Nat)} {d : AutoD} {m : MacD} {K : KV}
set_option maxRecDepth 8000 in
theorem exec_Reset_c {B : Nat} (hm : MI ro h X p ps d m) (ho : MOk d m) (hC : d.counts.length ≤ 512) (hf : Fr h nx) (hB : WLe B m.rs) (hB2 : B + 1 ≤ 1000000)
    (hK : ∀ h' nx', nx ≤ nx' → Fr h' nx' → Keep (p :: blks ps) h h' → MI ro h' X p ps d (resetM m) → K (.tuple #[]) h' nx') : callP Tryz.prog ro i_exec_Machine_Reset [ptr p] h nx K := by
  obtain ⟨cv, sv, rv, gp, hA, hP, hR, hD, hpX, hbX⟩ := id hm
  obtain ⟨hcl, hclt, hcv, hsv⟩ := hA.parts
  have n2lt := hf.lt' gp
  apply exec_Machine_Reset_of
  unfold exec_Machine_Reset
  refine bindP_mk (ptrB_eql_at _ _ _) ?_
  (repeat (first | refine bindP_mk (by simp (disch := first | omega | exact Int.natCast_nonneg _ | assumption) only [BB, B2, ↓reduceIte, Nat.reduceLeDiff, Nat.reduceAdd, CC, nilCk_at] <;> rfl) ?_ | refine newP_mk ?_ | refine optP_mk ?_ | with_reducible first | refine condP_t ?_ | refine condP_f ?_ | refine ifP_tt' ?_ | refine ifP_ff' ?_ | refine ifP_tf' ?_ | refine ifP_ft' ?_ | refine ifP_u' ?_ | refine optP_mk0 ?_))
  refine bindP_mk (store1_own (v := .int .i64 0) gp (by rw [machL_len hcl]; omega) rfl rfl) ?_
  rw [machL_set259 hcl]
  have gp4 : (h.upd p (some (.cells (machL d.c d.many cv sv 0 rv m.steps).toArray y_exec_Machine))).get p = some (.cells (machL d.c d.many cv sv 0 rv m.steps).toArray y_exec_Machine) := T.get_upd_same _ _ _
  have ho4 : ∀ k, k ≠ p → (h.upd p (some (.cells (machL d.c d.many cv sv 0 rv m.steps).toArray y_exec_Machine))).get k = h.get k := fun k hk => T.get_upd_ne _ _ hk
  generalize (h.upd p (some (.cells (machL d.c d.many cv sv 0 rv m.steps).toArray y_exec_Machine))) = h4 at gp4 ho4
  have m0 := machL_260 (n := d.many) (cv := cv) (sv := sv) (cur := 0) (rv := rv) (steps := m.steps) hcl
  have hSJ : SJn (del h X) h p (machL d.c d.many cv sv 0 rv m.steps) ps d.counts h4 nx m.rs := by
    refine ⟨gp4, fun k o hk => ?_, hR.keep RI_ok fun q hq => ?_, fun k o hk hn => ?_, fun k hk => by rw [ho4 k (by omega)]; exact hf k hk⟩
    · have h9 := hk
      rw [del_get] at h9
      split at h9
      · cases h9
      · rename_i hn
        rw [ho4 k (fun e => hn (by rw [e]; exact hpX))]; exact h9
    · obtain ⟨⟨c1, t1⟩, c2, t2⟩ := hR.ty RI_ok q hq
      exact ⟨ho4 _ (ne_of_get t1 gp (by decide)), ho4 _ (ne_of_get t2 gp (by decide))⟩
    · rw [ho4 k fun e => hn (by rw [e]; exact List.mem_cons_self ..)]; exact hk
  have hPh := hP.sub hSJ.2.1
  have hpl := hPh.len
  rw [ptrsC_len, hR.1] at hpl
  (repeat (first | refine bindP_mk (by simp (disch := first | omega | exact Int.natCast_nonneg _ | assumption) only [BB, B2, ↓reduceIte, Nat.reduceLeDiff, Nat.reduceAdd, CC, nilCk_at, gp4, m0, hpl] <;> rfl) ?_ | refine newP_mk ?_ | refine optP_mk ?_ | with_reducible first | refine condP_t ?_ | refine condP_f ?_ | refine ifP_tt' ?_ | refine ifP_ff' ?_ | refine ifP_tf' ?_ | refine ifP_ft' ?_ | refine ifP_u' ?_ | refine optP_mk0 ?_))
  have hrl := ho.2
  have hfin : ∀ h' n', nx ≤ n' → SJn (del h X) h p (machL d.c d.many cv sv 0 rv m.steps) ps d.counts h' n' (m.rs.map rsetR) → K (.tuple #[]) h' n' := by
    intro h' n' hn' hi'
    obtain ⟨q1, q4, q5, q6, q7⟩ := hi'
    have hre := del_re q4
    exact hK h' n' hn' q7 q6 ⟨cv, sv, rv, q1, hA.sub hre, hP.sub hre, q5, hD, hpX, hbX⟩
  refine loopP_rule (fun j e h' nx' => ∃ (k : Nat), k + j = d.counts.length ∧ nx ≤ nx' ∧ e 12 = rv ∧ e 13 = .int .i64 d.counts.length ∧ e 14 = .int .i64 k ∧ SJn (del h X) h p (machL d.c d.many cv sv 0 rv m.steps) ps d.counts h' nx' ((m.rs.take k).map rsetR ++ m.rs.drop k)) ?_ (n := d.counts.length) ⟨0, by omega, by omega, rfl, rfl, rfl, hSJ.mono (by omega)⟩
  rintro j e h' nx' ⟨k, hj, hnx, e12, e13, e14, hi⟩ Q' hq hx
  obtain ⟨g1, g4, g5, g6, g7⟩ := id hi
  unfold exec_Machine_Reset_L1
  rw [e12, e13, e14]
  refine lss_s (fun hk => ?_) (fun hk => ?_)
  · have hk : k < d.counts.length := by omega
    have hkr : k < m.rs.length := by omega
    have hP' := hP.sub g4
    obtain ⟨q, hq', hri⟩ := g5.at (c := (k : Int)) (by omega) (by omega)
    rw [Int.toNat_natCast] at hq'
    have hlen : ((m.rs.take k).map rsetR).length = k := by simp; omega
    have hg : rgAt ((m.rs.take k).map rsetR ++ m.rs.drop k) (k : Int) = m.rs[k] := by
      unfold rgAt
      rw [Int.toNat_natCast, List.getD_eq_getElem?_getD, List.getElem?_append_right (by omega), hlen, Nat.sub_self, List.getElem?_drop, Nat.add_zero, List.getElem?_eq_getElem hkr]; rfl
    rw [hg] at hri
    have hset : ∀ x, ((m.rs.take k).map rsetR ++ m.rs.drop k).set k x = (m.rs.take k).map rsetR ++ [x] ++ m.rs.drop (k + 1) := fun x => by
      rw [List.set_append_right _ _ (by omega), hlen, Nat.sub_self, drop_cons hkr, List.append_assoc]; rfl
    have htk : (m.rs.take (k + 1)).map rsetR = (m.rs.take k).map rsetR ++ [rsetR m.rs[k]] := by rw [List.take_succ_eq_append_getElem hkr, List.map_append]; rfl
    have hci : d.counts[k]? = some (cntAt d.counts (k : Int)) := by
      rw [← cnt_get (by omega) (by omega)]
      simp only [Int.toNat_natCast]
      exact List.getElem?_eq_getElem _
    have hj1 : ∀ (e' : Env) h2 n2, e' 12 = rv → e' 13 = .int .i64 d.counts.length → e' 14 = .int .i64 k → nx' ≤ n2 → SJn (del h X) h p (machL d.c d.many cv sv 0 rv m.steps) ps d.counts h2 n2 ((m.rs.take (k + 1)).map rsetR ++ m.rs.drop (k + 1)) → exec_Machine_Reset_j1 ro Q' e' h2 n2 := by
      intro e' h2 n2 f12 f13 f14 hn hi2
      unfold exec_Machine_Reset_j1
      rw [f14]
      (repeat (first | refine bindP_mk (by simp (disch := first | omega | exact Int.natCast_nonneg _ | assumption) only [BB, B2, ↓reduceIte, Nat.reduceLeDiff, Nat.reduceAdd, CC] <;> rfl) ?_ | refine newP_mk ?_ | refine optP_mk ?_ | with_reducible first | refine condP_t ?_ | refine condP_f ?_ | refine ifP_tt' ?_ | refine ifP_ff' ?_ | refine ifP_tf' ?_ | refine ifP_ft' ?_ | refine ifP_u' ?_ | refine optP_mk0 ?_))
      exact hq (j - 1) _ _ _ _ (by omega) ⟨k + 1, by omega, by omega, f12, f13, rfl, hi2.mono (by omega)⟩ (Sub.refl _)
    have hdk : m.rs.drop k = [m.rs[k]] ++ m.rs.drop (k + 1) := drop_cons hkr
    have hw : (m.rs[k]).2 ≤ B := hB _ (List.getElem_mem hkr)
    generalize m.rs[k] = r at hri htk hw hdk
    (repeat (first | refine bindP_mk (by simp (disch := first | omega | exact Int.natCast_nonneg _ | assumption) only [BB, B2, ↓reduceIte, Nat.reduceLeDiff, Nat.reduceAdd, CC] <;> rfl) ?_ | refine newP_mk ?_ | refine optP_mk ?_ | with_reducible first | refine condP_t ?_ | refine condP_f ?_ | refine ifP_tt' ?_ | refine ifP_ff' ?_ | refine ifP_tf' ?_ | refine ifP_ft' ?_ | refine ifP_u' ?_ | refine optP_mk0 ?_))
    refine bindP_mk (hP'.ix _ (by rw [ptrsC_len, hR.1]; exact hk)) (bindP_mk (hP'.load1 (ptrs_get hq')) ?_)
    refine ring_Len_c hri fun n2 hn2 => ?_
    refine gtr_s (fun hl => ?_) (fun hl => ?_)
    · have hx1 : rsetR r = clrR r := if_neg (by omega)
      rw [hx1] at htk
      (repeat (first | refine bindP_mk (by simp (disch := first | omega | exact Int.natCast_nonneg _ | assumption) only [BB, B2, ↓reduceIte, Nat.reduceLeDiff, Nat.reduceAdd, CC] <;> rfl) ?_ | refine newP_mk ?_ | refine optP_mk ?_ | with_reducible first | refine condP_t ?_ | refine condP_f ?_ | refine ifP_tt' ?_ | refine ifP_ff' ?_ | refine ifP_tf' ?_ | refine ifP_ft' ?_ | refine ifP_u' ?_ | refine optP_mk0 ?_))
      refine ring_Clear_c hri (by omega) fun h2 n3 hn3 hR2 ho2 => ?_
      have := hi.ring (r := clrR r) (n' := n3) hD hbX hq' hci hri hR2 ho2 (by omega)
      rw [hset, ← htk] at this
      exact hj1 _ _ _ e12 e13 e14 (by omega) this
    · have hx1 : rsetR r = r := if_pos (by omega)
      rw [hx1] at htk
      (repeat (first | refine bindP_mk (by simp (disch := first | omega | exact Int.natCast_nonneg _ | assumption) only [BB, B2, ↓reduceIte, Nat.reduceLeDiff, Nat.reduceAdd, CC] <;> rfl) ?_ | refine newP_mk ?_ | refine optP_mk ?_ | with_reducible first | refine condP_t ?_ | refine condP_f ?_ | refine ifP_tt' ?_ | refine ifP_ff' ?_ | refine ifP_tf' ?_ | refine ifP_ft' ?_ | refine ifP_u' ?_ | refine optP_mk0 ?_))
      refine hj1 _ _ _ e12 e13 e14 (by omega) ?_
      have e2 : (m.rs.take (k + 1)).map rsetR ++ m.rs.drop (k + 1) = (m.rs.take k).map rsetR ++ m.rs.drop k := by
        rw [htk, List.append_assoc, hdk]
      rw [e2]
      exact hi.mono (by omega)
  · (repeat (first | refine bindP_mk (by simp (disch := first | omega | exact Int.natCast_nonneg _ | assumption) only [BB, B2, ↓reduceIte, Nat.reduceLeDiff, Nat.reduceAdd, CC] <;> rfl) ?_ | refine newP_mk ?_ | refine optP_mk ?_ | with_reducible first | refine condP_t ?_ | refine condP_f ?_ | refine ifP_tt' ?_ | refine ifP_ff' ?_ | refine ifP_tf' ?_ | refine ifP_ft' ?_ | refine ifP_u' ?_ | refine optP_mk0 ?_))
    refine hx _ _ _ _ (fun e => by cases e) (exP_e (beqP_t ?_))
    rw [List.take_of_length_le (by omega), List.drop_eq_nil_of_le (by omega), List.append_nil] at hi
    exact ⟨h', Sub.refl _, hfin _ _ (by omega) (hi.mono (by omega))⟩
end
end V
end Go.Proofs.YtjndkdmkecpllaaGreat
set_option linter.unusedVariables false
set_option linter.unusedSimpArgs false
namespace Go.Proofs.YtjndkdmkecpllaaGreat
namespace V
attribute [local irreducible] bindP ifP condP newP optP exP beqP
section
variable {ro : Ro} {h : T Obj} {p a n w nx : Nat} {L : List Nat} {K : KV}
end
def Lo (h : T Obj) (L : List (Nat × List Value × TypeId)) : Prop := ∀ b ∈ L, h.get b.1 = some (.cells b.2.1.toArray b.2.2) ∧ b.2.2 ≠ y_raddleref03_Ring ∧ b.2.2 ≠ y_bool
def SW (hs : T Obj) (X : List Nat) (n0 : Nat) (p : Nat) (pc : List Value) (L : List (Nat × List Value × TypeId)) (ps0 : List (Nat × Nat)) (C : List (Int × Int)) (h : T Obj) (nx : Nat) (rs : List RgD) (ps : List (Nat × Nat)) : Prop :=
  h.get p = some (.cells pc.toArray y_raddleref13_Machine) ∧ Lo h L ∧ Sub (del hs X) h ∧ RsX WJ h ps C rs ∧ Dst ps ∧ ptrsC ps = ptrsC ps0 ∧ (∀ q ∈ ps, q.1 ∈ ps0.map (·.1) ∧ (q.2 ∈ ps0.map (·.2) ∨ n0 ≤ q.2)) ∧ Keep (p :: blks ps0) hs h ∧ Fr h nx ∧ n0 ≤ nx ∧ Fr hs n0 ∧ ∀ k ∈ p :: blks ps0, k ∈ X
section
variable {ro : Ro} {hs h h' : T Obj} {X : List Nat} {n0 p nx : Nat} {pc : List Value} {L : List (Nat × List Value × TypeId)} {ps0 ps : List (Nat × Nat)} {C : List (Int × Int)} {rs : List RgD} {K : KV}
theorem SW.mono {n' : Nat} (hi : SW hs X n0 p pc L ps0 C h nx rs ps) (hn : nx ≤ n') : SW hs X n0 p pc L ps0 C h n' rs ps := by
  obtain ⟨g1, g2, g3, g4, g5, g6, g7, g8, g9, g10, g11⟩ := hi
  exact ⟨g1, g2, g3, g4, g5, g6, g7, g8, g9.mono hn, by omega, g11⟩
theorem SW.sub {n' : Nat} (hi : SW hs X n0 p pc L ps0 C h nx rs ps) (hs' : Sub h h') (hf : Fr h' n') (hn : nx ≤ n') : SW hs X n0 p pc L ps0 C h' n' rs ps := by
  obtain ⟨g1, g2, g3, g4, g5, g6, g7, g8, g9, g10, g11⟩ := hi
  exact ⟨hs' _ _ g1, fun b hb => ⟨hs' _ _ (g2 b hb).1, (g2 b hb).2⟩, g3.trans hs', g4.sub WJ_ok hs', g5, g6, g7, fun k o hk hn => hs' _ _ (g8 k o hk hn), hf, by omega, g11⟩
theorem mem_fst {ps : List (Nat × Nat)} {k : Nat} (h : k ∈ ps.map (·.1)) : k ∈ blks ps := by
  obtain ⟨q, hq, rfl⟩ := List.mem_map.1 h
  exact mem_blks.2 ⟨q, hq, .inl rfl⟩
theorem mem_snd {ps : List (Nat × Nat)} {k : Nat} (h : k ∈ ps.map (·.2)) : k ∈ blks ps := by
  obtain ⟨q, hq, rfl⟩ := List.mem_map.1 h
  exact mem_blks.2 ⟨q, hq, .inr rfl⟩
theorem SW.ring {i n' a' w n : Nat} {q : Nat × Nat} {c : Int × Int} {M : List Nat} {r : RgD} (hi : SW hs X n0 p pc L ps0 C h nx rs ps) (hq : ps[i]? = some q) (hc : C[i]? = some c) (hR : WJ h q.1 q.2 n M w) (hR' : WJ h' q.1 a' c.2.toNat r.1 r.2) (ha : a' = q.2 ∨ nx ≤ a') (hg : ∀ k, k < nx → k ≠ q.1 → k ≠ q.2 → h'.get k = h.get k) (hf : Fr h' n') (hn : nx ≤ n') :
    SW hs X n0 p pc L ps0 C h' n' (rs.set i r) (ps.set i (q.1, a')) := by
  obtain ⟨g1, g2, g3, g4, g5, g6, g7, g8, g9, g10, g11, g12⟩ := hi
  have hm := List.mem_of_getElem? hq
  obtain ⟨m1, m2⟩ := g7 q hm
  obtain ⟨c1, t1⟩ := WJ_ok.p hR
  obtain ⟨c2, t2⟩ := WJ_ok.a hR
  have hlt := g4.lt WJ_ok g9
  have hget : ∀ {k : Nat} {c : Array Value} {e : TypeId}, h.get k = some (.cells c e) → e ≠ y_raddleref03_Ring → e ≠ y_bool → h'.get k = some (.cells c e) := fun hk h1 h2 => by
    rw [hg _ (g9.lt' hk) (ne_of_get hk t1 h1) (ne_of_get hk t2 h2)]; exact hk
  refine ⟨hget g1 (by decide) (by decide), fun b hb => ⟨hget (g2 b hb).1 (g2 b hb).2.1 (g2 b hb).2.2, (g2 b hb).2⟩, fun k o hk => ?_, g4.set WJ_ok g5 g9 hq hc hR' hg, g5.set hq ?_, (ptrsC_set hq).trans g6, fun r hr => ?_, fun k o hk hkn => ?_, hf, by omega, g11, g12⟩
  · have h1 := hk
    rw [del_get] at h1
    split at h1
    · cases h1
    · rename_i hnX
      have hk0 := g11.lt' h1
      rw [hg k (by omega) (fun e => hnX (by rw [e]; exact g12 _ (List.mem_cons_of_mem _ (mem_fst m1)))) (fun e => ?_)]
      · exact g3 k o hk
      · rcases m2 with m2 | m2
        · exact hnX (by rw [e]; exact g12 _ (List.mem_cons_of_mem _ (mem_snd m2)))
        · omega
  · rcases ha with ha | ha
    · exact .inl ha
    · exact .inr fun s hs => by have := (hlt s hs).2; omega
  · rcases List.mem_or_eq_of_mem_set hr with h1 | h1
    · exact g7 r h1
    · subst h1
      refine ⟨m1, ?_⟩
      rcases ha with ha | ha
      · subst ha; exact m2
      · exact .inr (show n0 ≤ a' by omega)
  · have hk0 := g11.lt' hk
    rw [hg k (by omega) (fun e => hkn (by rw [e]; exact List.mem_cons_of_mem _ (mem_fst m1))) (fun e => ?_)]
    · exact g8 k o hk hkn
    · rcases m2 with m2 | m2
      · exact hkn (by rw [e]; exact List.mem_cons_of_mem _ (mem_snd m2))
      · omega
theorem SW.cell {pc' : List Value} (hi : SW hs X n0 p pc L ps0 C h nx rs ps) (h1 : h'.get p = some (.cells pc'.toArray y_raddleref13_Machine)) (h2 : ∀ k, k ≠ p → h'.get k = h.get k) (hL : ∀ b ∈ L, b.2.2 ≠ y_raddleref13_Machine) : SW hs X n0 p pc' L ps0 C h' nx rs ps := by
  obtain ⟨g1, g2, g3, g4, g5, g6, g7, g8, g9, g10, g11, g12⟩ := hi
  have hp := g9.lt' g1
  refine ⟨h1, fun b hb => ⟨?_, (g2 b hb).2⟩, fun k o hk => ?_, g4.keep WJ_ok fun q hq => ?_, g5, g6, g7, fun k o hk hkn => ?_, fun k hk => by rw [h2 k (by omega)]; exact g9 k hk, g10, g11, g12⟩
  · rw [h2 _ (ne_of_get (g2 b hb).1 g1 (hL b hb))]; exact (g2 b hb).1
  · have h9 := hk
    rw [del_get] at h9
    split at h9
    · cases h9
    · rename_i hnX
      rw [h2 k (fun e => hnX (by rw [e]; exact g12 _ (List.mem_cons_self ..)))]; exact g3 k o hk
  · obtain ⟨⟨c1, t1⟩, c2, t2⟩ := g4.ty WJ_ok q hq
    exact ⟨h2 _ (ne_of_get t1 g1 (by decide)), h2 _ (ne_of_get t2 g1 (by decide))⟩
  · rw [h2 k fun e => hkn (by rw [e]; exact List.mem_cons_self ..)]
    exact g8 k o hk hkn
def X2 (X : List Nat) (ps : List (Nat × Nat)) : List Nat := ps.map (·.2) ++ X
end
def LeftM (ro : Ro) (h : T Obj) (nx : Nat) (X : List Nat) (p : Nat) (ps : List (Nat × Nat)) (d : AutoD) (m' : MacD) (h' : T Obj) (nx' : Nat) (X' : List Nat) (ps' : List (Nat × Nat)) : Prop :=
  nx ≤ nx' ∧ Fr h' nx' ∧ Keep (p :: blks ps) h h' ∧ (∀ k ∈ X', k ∈ X ∨ h.get k = none) ∧ (∀ k ∈ X, k ∈ X') ∧ (∀ k ∈ blks ps', k ∈ blks ps ∨ nx ≤ k) ∧ MW ro h' X' p ps' d m'
section
variable {ro : Ro} {h h' : T Obj} {X : List Nat} {n0 p nx n' : Nat} {L : List (Nat × List Value × TypeId)} {ps ps' : List (Nat × Nat)} {d : AutoD} {m m' : MacD} {cv sv rv : Value} {K : KV}
theorem SW.left (hA : RAuto ro (del h X) (autL d.c d.many cv sv) d) (hP : Sl ro (del h X) rv 1 (ptrsC ps)) (hn : nx ≤ n0) (hi : SW h X n0 p (machL d.c d.many cv sv m'.cur rv m'.steps) L ps d.counts h' n' m'.rs ps') : LeftM ro h nx X p ps d m' h' n' (X2 X ps') ps' := by
  obtain ⟨g1, g2, g3, g4, g5, g6, g7, g8, g9, g10, g11, g12⟩ := hi
  have hX : ∀ k ∈ X2 X ps', k ∈ X ∨ h.get k = none := fun k hk => by
    rcases List.mem_append.1 hk with h1 | h1
    · obtain ⟨q, hq, rfl⟩ := List.mem_map.1 h1
      rcases (g7 q hq).2 with h2 | h2
      · exact .inl (g12 _ (List.mem_cons_of_mem _ (mem_snd h2)))
      · exact .inr (g11 _ h2)
    · exact .inl h1
  have hre := del_re2 g3 hX
  refine ⟨by omega, g9, g8, hX, fun k hk => List.mem_append.2 (.inr hk), fun k hk => ?_, cv, sv, rv, g1, hA.sub hre, by rw [g6]; exact hP.sub hre, g4, g5, List.mem_append.2 (.inr (g12 _ (List.mem_cons_self ..))), fun k hk => ?_⟩
  · obtain ⟨q, hq, h1⟩ := mem_blks.1 hk
    rcases h1 with rfl | rfl
    · exact .inl (mem_fst (g7 q hq).1)
    · rcases (g7 q hq).2 with h2 | h2
      · exact .inl (mem_snd h2)
      · exact .inr (by omega)
  obtain ⟨q, hq, h1⟩ := mem_blks.1 hk
  rcases h1 with rfl | rfl
  · exact List.mem_append.2 (.inr (g12 _ (List.mem_cons_of_mem _ (mem_fst (g7 q hq).1))))
  · exact List.mem_append.2 (.inl (List.mem_map.2 ⟨q, hq, rfl⟩))
theorem LeftM.refl (hm : MW ro h X p ps d m) (hf : Fr h nx) (hn : nx ≤ n') : LeftM ro h nx X p ps d m h n' X ps := ⟨hn, hf.mono hn, (Sub.refl h).keepL, fun k hk => .inl hk, fun k hk => hk, fun k hk => .inl hk, hm⟩
theorem MX.inX {RR : RgP} {ty : TypeId} (hm : MX RR ty ro h X p ps d m) : ∀ k ∈ p :: blks ps, k ∈ X := fun k hk => by
  obtain ⟨cv, sv, rv, g1, g2, g3, g4, g5, g6, g7⟩ := hm
  rcases List.mem_cons.1 hk with rfl | hk
  · exact g6
  · exact g7 k hk
theorem LeftM.trans {h1 h2 : T Obj} {n1 n2 : Nat} {X1 X2 : List Nat} {ps1 ps2 : List (Nat × Nat)} {m1 m2 : MacD} (hf : Fr h nx) (hX : ∀ k ∈ p :: blks ps, k ∈ X) (a : LeftM ro h nx X p ps d m1 h1 n1 X1 ps1) (b : LeftM ro h1 n1 X1 p ps1 d m2 h2 n2 X2 ps2) : LeftM ro h nx X p ps d m2 h2 n2 X2 ps2 := by
  obtain ⟨a1, a2, a3, a4, a5, hb, a6⟩ := a
  obtain ⟨b1, b2, b3, b4, b5, hb2, b6⟩ := b
  refine ⟨by omega, b2, fun k o hk hn => b3 k o (a3 k o hk hn) fun hm => ?_, fun k hk => ?_, fun k hk => b5 k (a5 k hk), fun k hk => ?_, b6⟩
  · have hlt := hf.lt' hk
    rcases List.mem_cons.1 hm with rfl | hm
    · exact hn (List.mem_cons_self ..)
    · rcases hb k hm with h9 | h9
      · exact hn (List.mem_cons_of_mem _ h9)
      · omega
  · rcases b4 k hk with h9 | h9
    · exact a4 k h9
    · by_cases hp : k ∈ p :: blks ps
      · exact .inl (hX k hp)
      · cases hq : h.get k with
        | none => exact .inr rfl
        | some o => rw [a3 k o hq hp] at h9; cases h9
  · rcases hb2 k hk with h9 | h9
    · exact hb k h9
    · exact .inr (by omega)
theorem LeftM.mono {n2 : Nat} {X' : List Nat} (a : LeftM ro h nx X p ps d m h' n' X' ps') (hn : n' ≤ n2) : LeftM ro h nx X p ps d m h' n2 X' ps' := by
  obtain ⟨a1, a2, a3⟩ := a
  exact ⟨by omega, a2.mono hn, a3⟩
end
end V
end Go.Proofs.YtjndkdmkecpllaaGreat
set_option linter.unusedVariables false
set_option linter.unusedSimpArgs false
namespace Go.Proofs.YtjndkdmkecpllaaGreat
namespace V
attribute [local irreducible] bindP ifP condP newP optP exP beqP
section
variable {ro : Ro} {hs h h' : T Obj} {X : List Nat} {n0 p sb mb nx : Nat} {lv rv' uv nv : Value} {ps0 ps : List (Nat × Nat)} {C : List (Int × Int)} {rs : List RgD} {K : KV}
variable {cc : List Nat} {many cur : Int} {cv sv rv : Value} {steps : Nat} {to : Int} {ov nxv : Value} {ops : List Nat} {R : List Int}
end
section
variable {ro : Ro} {h : T Obj} {nx : Nat} {X : List Nat} {p : Nat} {ps : List (Nat × Nat)} {d : AutoD} {m : MacD} {K : KV}
theorem SW.lo {hs h h' : T Obj} {X : List Nat} {n0 p nx n' : Nat} {pc : List Value} {L L' : List (Nat × List Value × TypeId)} {ps0 ps : List (Nat × Nat)} {C : List (Int × Int)} {rs : List RgD} (hi : SW hs X n0 p pc L ps0 C h nx rs ps) (hs' : Sub h h') (hf : Fr h' n') (hn : nx ≤ n') (hL : Lo h' L') : SW hs X n0 p pc L' ps0 C h' n' rs ps := by
  obtain ⟨g1, g2, g3⟩ := hi.sub hs' hf hn
  exact ⟨g1, hL, g3⟩
end
end V
end Go.Proofs.YtjndkdmkecpllaaGreat
set_option linter.unusedVariables false
set_option linter.unusedSimpArgs false
namespace Go.Proofs.YtjndkdmkecpllaaGreat
namespace V
attribute [local irreducible] bindP ifP condP newP optP exP beqP
theorem slB_nil {ro : Ro} {h : T Obj} {v : Value} {z : Nat} {l : List (List Value)} (hl : Sl ro h v z l) : (v = .slice none 0 0 ∧ l = [] ∧ slB .eql v (.slice none 0 0) = some (.bool true)) ∨ slB .eql v (.slice none 0 0) = some (.bool false) := by
  rcases hl with ⟨rfl, rfl⟩ | ⟨a, cap, rfl, _⟩
  · exact .inl ⟨rfl, rfl, rfl⟩
  · exact .inr rfl
theorem clone_body {ro : Ro} {h : T Obj} {v : Value} {z nx : Nat} {t e : TypeId} {i : TypeInfo} {zv : Value} {m : List (List Value)} {K : KV} (hx : Sl ro h v z m) (hlit : ∀ id, sliceLitV Tryz.prog t id 0 [] = some (.slice (some (own id z)) 0 0, some (.cells #[] e))) (hu : und Tryz.prog t = some (.slice e)) (hi' : tin Tryz.prog e = some i) (hz : i.size = z) (hz0 : 0 < z) (hzer : zer Tryz.prog e = some zv) (hzs : zv.cells.size = z)
    (hok : m.flatten.all cellOk = true) (hb : m.length * i.bytes ≤ big) (hb2 : m.length ≤ big) (hf : Fr h nx)
    (hK : ∀ r h' n', nx ≤ n' → Fr h' n' → Sub h h' → OwnT h' r z e m nx → K r h' n') :
    bindP (slB .eql v (.slice none 0 0)) fun t4 => condP t4 (∃ h2, Sub h2 h ∧ K (.slice none 0 0) h2 (nx + 4)) (bindP (sliceLitV Tryz.prog t (nx + 3) 0 []) fun r3 => optP h (nx + 3) r3.2 fun h4 => bindP (appendV Tryz.prog ro h4 (nx + 6) #[t, t] [r3.1, v]) fun r5 => ∃ h6, Sub h6 r5.2.1 ∧ K r5.1 h6 (r5.2.2 + 1)) := by
  rcases slB_nil hx with ⟨rfl, rfl, h1⟩ | h1
  · refine bindP_mk h1 (condP_t ⟨h, Sub.refl _, hK _ _ _ (by omega) (hf.mono (by omega)) (Sub.refl _) OwnT.nil⟩)
  · refine bindP_mk h1 (condP_f (bindP_mk (hlit _) (optP_mk ?_)))
    have hs1 : Sub h (h.upd (nx + 3) (some (.cells #[] e))) := (Sub.refl h).new hf (by omega)
    have hf1 : Fr (h.upd (nx + 3) (some (.cells #[] e))) (nx + 6) := (hf.mono (by omega)).upd (Nat.le_refl _) (by omega)
    have ho : OwnT (h.upd (nx + 3) (some (.cells #[] e))) (.slice (some (own (nx + 3) z)) 0 0) z e [] nx := .inr ⟨nx + 3, by omega, rfl, (fun x hx => by cases hx), by rw [T.get_upd_same]; rfl⟩
    obtain ⟨r, h', n', q1, q2, q3, q4, q5, q6⟩ := append_any (P := Tryz.prog) (t := t) (nx := nx + 6) ho (hx.sub hs1) hu hi' hz hz0 hzer hzs hok (by simpa using hb) (by simpa using hb2) (by omega) hf1
    refine bindP_mk q1 ⟨h', Sub.refl _, hK r h' (n' + 1) (by omega) (q5.mono (by omega)) (fun k o hk => q3 k o (hs1 k o hk) fun e => ?_) (by simpa using q2)⟩
    have hkk : nx + 3 = k := Option.some.inj e
    have := hf.lt' hk
    omega
theorem lit0_int (id : Nat) : sliceLitV Tryz.prog y_s_int id 0 [] = some (.slice (some (own id 1)) 0 0, some (.cells #[] y_int)) := by kernel_rfl
theorem lit0_a2 (id : Nat) : sliceLitV Tryz.prog y_s_a2_int id 0 [] = some (.slice (some (own id 2)) 0 0, some (.cells #[] y_a2_int)) := by kernel_rfl
theorem lit0_move (id : Nat) : sliceLitV Tryz.prog y_s_api_Move id 0 [] = some (.slice (some (own id 2)) 0 0, some (.cells #[] y_api_Move)) := by kernel_rfl
theorem lit0_u8 (id : Nat) : sliceLitV Tryz.prog y_s_uint8 id 0 [] = some (.slice (some (own id 1)) 0 0, some (.cells #[] y_uint8)) := by kernel_rfl
theorem und_sa2 : und Tryz.prog y_s_a2_int = some (.slice y_a2_int) := by kernel_rfl
theorem tin_a2 : ∃ i, tin Tryz.prog y_a2_int = some i ∧ i.size = 2 ∧ i.bytes = 16 := tinOf (by kernel_rfl)
theorem und_su8 : und Tryz.prog y_s_uint8 = some (.slice y_uint8) := by kernel_rfl
theorem tin_u81 : ∃ i, tin Tryz.prog y_uint8 = some i ∧ i.size = 1 ∧ i.bytes = 1 := tinOf (by kernel_rfl)
theorem zer_u81 : zer Tryz.prog y_uint8 = some (.int .u8 0) := by kernel_rfl
section
variable {ro : Ro} {h : T Obj} {v : Value} {nx : Nat} {K : KV}
theorem clone_int_c {l : List Int} (hv : ZI ro h v l) (hl : l.length ≤ 1000000) (hf : Fr h nx) (hK : ∀ r h' n', nx ≤ n' → Fr h' n' → Sub h h' → OwnT h' r 1 y_int (intsZ l) nx → K r h' n') : callP Tryz.prog ro i_slices_Clone_int_int [v] h nx K := by
  apply slices_Clone_int_int_of
  unfold slices_Clone_int_int
  obtain ⟨i, g1, g2, g3⟩ := tin_sint
  exact clone_body hv lit0_int und_sint g1 (by omega) (by omega) zerI rfl (by simp [intsZ, cellOk]) (by rw [intsZ_len, g3]; unfold big; omega) (by rw [intsZ_len]; unfold big; omega) hf hK
theorem clone_u8_c {l : List Nat} (hv : SlR ro h v 1 RU8 l) (hl : l.length ≤ 1000000) (hf : Fr h nx) (hK : ∀ r h' n', nx ≤ n' → Fr h' n' → Sub h h' → OwnT h' r 1 y_uint8 (opsC l) nx → K r h' n') : callP Tryz.prog ro i_slices_Clone_uint8_uint8 [v] h nx K := by
  apply slices_Clone_uint8_uint8_of
  unfold slices_Clone_uint8_uint8
  obtain ⟨i, g1, g2, g3⟩ := tin_u81
  obtain ⟨cs, h1, h2, h3⟩ := hv
  have hcs : cs = opsC l := by
    apply List.ext_getElem?
    intro k
    rcases Nat.lt_or_ge k l.length with hk | hk
    · have e1 : cs[k]? = some (cs[k]'(by omega)) := List.getElem?_eq_getElem _
      have e2 : l[k]? = some l[k] := List.getElem?_eq_getElem _
      have := (h3 k _ _ e1 e2).1
      rw [e1, this]; simp [opsC, hk]
    · rw [List.getElem?_eq_none (by omega), List.getElem?_eq_none (by rw [opsC_len]; omega)]
  subst hcs
  exact clone_body h1 lit0_u8 und_su8 g1 (by omega) (by omega) zer_u81 rfl (by simp [opsC, cellOk]) (by rw [opsC_len, g3]; unfold big; omega) (by rw [opsC_len]; unfold big; omega) hf hK
theorem clone_a2_c {l : List (Int × Int)} (hv : SlR ro h v 2 RCount l) (hl : l.length ≤ 1000000) (hf : Fr h nx) (hK : ∀ r h' n', nx ≤ n' → Fr h' n' → Sub h h' → OwnT h' r 2 y_a2_int (cntC l) nx → K r h' n') : callP Tryz.prog ro i_slices_Clone_2_int_2_int [v] h nx K := by
  apply slices_Clone_2_int_2_int_of
  unfold slices_Clone_2_int_2_int
  obtain ⟨i, g1, g2, g3⟩ := tin_a2
  obtain ⟨cs, h1, h2, h3⟩ := hv
  have hcs : cs = cntC l := by
    apply List.ext_getElem?
    intro k
    rcases Nat.lt_or_ge k l.length with hk | hk
    · have e1 : cs[k]? = some (cs[k]'(by omega)) := List.getElem?_eq_getElem _
      have e2 : l[k]? = some l[k] := List.getElem?_eq_getElem _
      have := h3 k _ _ e1 e2
      unfold RCount at this
      rw [e1, this]; simp [cntC, hk]
    · rw [List.getElem?_eq_none (by omega), List.getElem?_eq_none (by rw [cntC_len]; omega)]
  subst hcs
  have hok : (cntC l).flatten.all cellOk = true := by
    rw [List.all_eq_true]
    intro x hx
    obtain ⟨y, hy, hxy⟩ := List.mem_flatten.1 hx
    obtain ⟨p, _, rfl⟩ := List.mem_map.1 hy
    simp at hxy
    rcases hxy with rfl | rfl <;> rfl
  exact clone_body h1 lit0_a2 und_sa2 g1 (by omega) (by omega) zer_a2 rfl hok (by rw [cntC_len, g3]; unfold big; omega) (by rw [cntC_len]; unfold big; omega) hf hK
theorem clone_move_c {cs : List (List Value)} (hv : Sl ro h v 2 cs) (hok : cs.flatten.all cellOk = true) (hl : cs.length ≤ 1000000) (hf : Fr h nx) (hK : ∀ r h' n', nx ≤ n' → Fr h' n' → Sub h h' → OwnT h' r 2 y_api_Move cs nx → K r h' n') : callP Tryz.prog ro i_slices_Clone_api_Move_api_Move [v] h nx K := by
  apply slices_Clone_api_Move_api_Move_of
  unfold slices_Clone_api_Move_api_Move
  obtain ⟨i, g1, g2, g3⟩ := tin_Move
  exact clone_body hv lit0_move und_sMove g1 (by omega) (by omega) zer_Move rfl hok (by rw [g3]; unfold big; omega) (by unfold big; omega) hf hK
end
theorem app_at {ro : Ro} {h : T Obj} {v w : Value} {z n1 n2 lo : Nat} {t e : TypeId} {i : TypeInfo} {zv : Value} {l : List (List Value)} {y : List Value} {K : Value × Option Obj → T Obj → Value × T Obj × Nat → Prop} (hlit : sliceLitV Tryz.prog t n1 1 [(0, w)] = some (.slice (some (own n1 z)) 1 1, some (.cells y.toArray e))) (hy : y.length = z) (ho : OwnT h v z e l lo)
    (hu : und Tryz.prog t = some (.slice e)) (hi' : tin Tryz.prog e = some i) (hz : i.size = z) (hz0 : 0 < z) (hzer : zer Tryz.prog e = some zv) (hzs : zv.cells.size = z) (hok : y.all cellOk = true) (hb : (l.length + 1) * i.bytes ≤ big) (hb2 : l.length + 1 ≤ big) (hf : Fr h n2) (hlo : lo ≤ n2) (hn : n1 < n2) (hne : sblk v ≠ some n1)
    (hK : ∀ h', OwnT h' (.slice (some (own n2 z)) (l ++ [y]).length (l ++ [y]).length) z e (l ++ [y]) lo → (∀ k o, h.get k = some o → k ≠ n1 → sblk v ≠ some k → h'.get k = some o) → Fr h' (n2 + 1) → K (.slice (some (own n1 z)) 1 1, some (.cells y.toArray e)) (h.upd n1 (some (.cells y.toArray e))) (.slice (some (own n2 z)) (l ++ [y]).length (l ++ [y]).length, h', n2 + 1)) :
    bindP (sliceLitV Tryz.prog t n1 1 [(0, w)]) fun r => optP h n1 r.2 fun h' => bindP (appendV Tryz.prog ro h' n2 #[t, t] [v, r.1]) (K r h') := by
  refine bindP_mk hlit (optP_mk ?_)
  have hkk : Keep [n1] h (h.upd n1 (some (.cells y.toArray e))) := (Sub.refl h).keepL.upd (by simp)
  have ho1 : OwnT (h.upd n1 (some (.cells y.toArray e))) v z e l lo := ho.keepK hkk fun id hid hm => hne (by rw [hid]; simp at hm; rw [hm])
  have hf1 : Fr (h.upd n1 (some (.cells y.toArray e))) n2 := hf.upd (Nat.le_refl _) hn
  have hx1 : Sl ro (h.upd n1 (some (.cells y.toArray e))) (.slice (some (own n1 z)) 1 1) z [y] := Sl.own (l := [y]) (e := e) (f := (0, 0)) (by rw [T.get_upd_same]; simp) (by simpa using hy) (Nat.le_refl _)
  obtain ⟨h', q1, q2, q3, q4, q5⟩ := appendT (P := Tryz.prog) (t := t) (nx := n2) ho1 hx1 hu hi' hz hz0 hzer hzs (by simp) (by simpa using hok) hb hb2 hlo hf1
  exact bindP_mk q1 (hK h' q2 (fun k o hk h1 h2 => q3 k o (hkk k o hk (by simpa using h1)) h2) q4)
section
variable {RR : RgP} {tp ta : TypeId} {h h' : T Obj} {ps : List (Nat × Nat)} {C : List (Int × Int)} {rs : List RgD}
theorem RsX.snoc (hr : RsX RR h ps C rs) {q : Nat × Nat} {c : Int × Int} {r : RgD} (hn : RR h q.1 q.2 c.2.toNat r.1 r.2) : RsX RR h (ps ++ [q]) (C ++ [c]) (rs ++ [r]) := by
  obtain ⟨r1, r2, r3⟩ := hr
  refine ⟨by simp [r1], by simp [r2], fun i p c' r' h1 h2 h3 => ?_⟩
  rcases Nat.lt_or_ge i ps.length with hi | hi
  · rw [List.getElem?_append_left hi] at h1
    rw [List.getElem?_append_left (by omega)] at h2
    rw [List.getElem?_append_left (by omega)] at h3
    exact r3 i p c' r' h1 h2 h3
  · rw [List.getElem?_append_right hi] at h1
    rw [List.getElem?_append_right (by omega)] at h2
    rw [List.getElem?_append_right (by omega)] at h3
    have hlt := (List.getElem?_eq_some_iff.1 h1).1
    have hi0 : i = ps.length := by simp at hlt; omega
    subst hi0
    rw [Nat.sub_self] at h1
    rw [r1, Nat.sub_self] at h2
    rw [show ps.length - rs.length = 0 by omega] at h3
    cases h1; cases h2; cases h3
    exact hn
theorem Dst.snoc (hd : Dst ps) {q : Nat × Nat} (hq : ∀ p ∈ ps, p.1 ≠ q.1 ∧ p.2 ≠ q.2) : Dst (ps ++ [q]) := by
  intro i j p p2 h1 h2 hij
  rcases Nat.lt_or_ge i ps.length with hi | hi
  · rw [List.getElem?_append_left hi] at h1
    rcases Nat.lt_or_ge j ps.length with hj | hj
    · rw [List.getElem?_append_left hj] at h2
      exact hd i j p p2 h1 h2 hij
    · rw [List.getElem?_append_right hj] at h2
      have : p2 = q := by have := List.mem_of_getElem? h2; simpa using this
      subst this
      exact hq p (List.mem_of_getElem? h1)
  · rw [List.getElem?_append_right hi] at h1
    have hp : p = q := by have := List.mem_of_getElem? h1; simpa using this
    subst hp
    rcases Nat.lt_or_ge j ps.length with hj | hj
    · rw [List.getElem?_append_left hj] at h2
      have := hq p2 (List.mem_of_getElem? h2)
      exact ⟨Ne.symm this.1, Ne.symm this.2⟩
    · rw [List.getElem?_append_right hj] at h2
      have h3 := (List.getElem?_eq_some_iff.1 h1).1
      have h4 := (List.getElem?_eq_some_iff.1 h2).1
      simp at h3 h4
      omega
theorem Dst.nil : Dst [] := fun i j p q h1 => by simp at h1
end
end V
end Go.Proofs.YtjndkdmkecpllaaGreat
set_option linter.unusedVariables false
set_option linter.unusedSimpArgs false
namespace Go.Proofs.YtjndkdmkecpllaaGreat
namespace V
attribute [local irreducible] bindP ifP condP newP optP exP beqP
theorem flatten_set2 : ∀ {mcs : List (List Value)} {k : Nat} {a b r : Value}, (∀ x ∈ mcs, x.length = 2) → mcs[k]? = some [a, b] → mcs.flatten.set (k * 2 + 1) r = (mcs.set k [a, r]).flatten
  | [], k, a, b, r, _, h => by simp at h
  | y :: l, 0, a, b, r, hz, h => by
    simp at h; subst h; rfl
  | y :: l, k + 1, a, b, r, hz, h => by
    have hy := hz y (by simp)
    have ih := flatten_set2 (mcs := l) (k := k) (a := a) (b := b) (r := r) (fun x hx => hz x (by simp [hx])) (by simpa using h)
    rw [List.set_cons_succ, List.flatten_cons, List.flatten_cons, List.set_append_right _ _ (by omega), hy, show (k + 1) * 2 + 1 - 2 = k * 2 + 1 by omega, ih]
theorem ops_R {ro : Ro} {h : T Obj} {v : Value} {l : List Nat} (hs : Sl ro h v 1 (opsC l)) (hl : ∀ x ∈ l, x < 256) : SlR ro h v 1 RU8 l := ⟨opsC l, hs, opsC_len l, fun i x d hx hd => by
  simp only [opsC, List.getElem?_map] at hx
  rw [hd] at hx
  cases hx
  exact ⟨rfl, hl d (List.mem_of_getElem? hd)⟩⟩
theorem RU8.lt {ro : Ro} {h : T Obj} {v : Value} {l : List Nat} (hs : SlR ro h v 1 RU8 l) : ∀ x ∈ l, x < 256 := fun x hx => by
  obtain ⟨cs, h1, h2, h3⟩ := hs
  obtain ⟨i, hi⟩ := List.getElem?_of_mem hx
  have hlt := (List.getElem?_eq_some_iff.1 hi).1
  exact (h3 i _ _ (List.getElem?_eq_getElem (by omega)) hi).2
theorem elPtrK_own (mid n c k j : Nat) : elPtrK 2 (.slice (some (own mid 2)) n c) k j = at_ mid (k * 2 + j) 0 := by simp [elPtrK, elt, own]
def blkL (v : Value) : List Nat := (sblk v).toList
theorem mem_blkL {v : Value} {k : Nat} : k ∈ blkL v ↔ sblk v = some k := by unfold blkL; cases sblk v <;> simp [eq_comm]
section
variable {ro : Ro} {h : T Obj} {nx nA : Nat} {X : List Nat} {Q : KE} {e : Env}
set_option maxRecDepth 8000 in
theorem cp_L3 {mid : Nat} {row : List MoveD} {mcs0 : List (List Value)} {w2 w3 w6 w19 w20 w21 w33 w34 w35 : Value} (e2 : e 2 = w2) (e3 : e 3 = w3) (e6 : e 6 = w6) (e19 : e 19 = w19) (e20 : e 20 = w20) (e21 : e 21 = w21) (e33 : e 33 = w33) (e34 : e 34 = w34) (e35 : e 35 = w35)
    (e9 : e 9 = .slice (some (own mid 2)) row.length row.length) (e41 : e 41 = .slice (some (own mid 2)) row.length row.length) (e42 : e 42 = .int .i64 row.length) (e43 : e 43 = .int .i64 0)
    (hg : h.get mid = some (.cells mcs0.flatten.toArray y_api_Move)) (hl : mcs0.length = row.length) (h2 : ∀ x ∈ mcs0, x.length = 2) (hlen : row.length ≤ 1000000)
    (hsrc : ∀ (i : Nat) x m, mcs0[i]? = some x → row[i]? = some m → ∃ ov, x = [.int .i64 m.to, ov] ∧ SlR ro (del h [mid]) ov 1 RU8 m.ops ∧ m.ops.length ≤ 1000000) (hf : Fr h nx) (hX : ∀ k ∈ X, k < nA) (hmid : nA ≤ mid) (hnA : nA ≤ nx)
    (hQ : ∀ (e' : Env) h' n', e' 2 = w2 → e' 3 = w3 → e' 6 = w6 → e' 9 = .slice (some (own mid 2)) row.length row.length → e' 19 = w19 → e' 20 = w20 → e' 21 = w21 → e' 33 = w33 → e' 34 = w34 → e' 35 = w35 → nx ≤ n' → Fr h' n' → Keep [mid] h h' →
      SlR ro (del h' X) (.slice (some (own mid 2)) row.length row.length) 2 (RMove ro (del h' X)) row → Q (.exit 4) e' h' n') : loopP (exec_copied_L3 ro) e h nx Q := by
  have hlt := hf.lt' hg
  refine loopP_rule (fun j e h' nx' => ∃ (k : Nat) (mcs : List (List Value)), k + j = row.length ∧ nx ≤ nx' ∧ e 2 = w2 ∧ e 3 = w3 ∧ e 6 = w6 ∧ e 19 = w19 ∧ e 20 = w20 ∧ e 21 = w21 ∧ e 33 = w33 ∧ e 34 = w34 ∧ e 35 = w35 ∧ e 9 = .slice (some (own mid 2)) row.length row.length ∧ e 41 = .slice (some (own mid 2)) row.length row.length ∧ e 42 = .int .i64 row.length ∧ e 43 = .int .i64 k ∧
    h'.get mid = some (.cells mcs.flatten.toArray y_api_Move) ∧ mcs.length = row.length ∧ (∀ x ∈ mcs, x.length = 2) ∧ (∀ i, k ≤ i → mcs[i]? = mcs0[i]?) ∧ (∀ (i : Nat) x m, i < k → mcs[i]? = some x → row[i]? = some m → ∃ ov, x = [.int .i64 m.to, ov] ∧ SlR ro (del h' (mid :: X)) ov 1 RU8 m.ops ∧ m.ops.length ≤ 1000000) ∧ Keep [mid] h h' ∧ Fr h' nx') ?_ (n := row.length)
    ⟨0, mcs0, by omega, by omega, e2, e3, e6, e19, e20, e21, e33, e34, e35, e9, e41, e42, e43, hg, hl, h2, fun _ _ => rfl, fun i x m hi => by omega, (Sub.refl h).keepL, hf⟩
  rintro j e h' nx' ⟨k, mcs, hj, hnx, e2, e3, e6, e19, e20, e21, e33, e34, e35, e9, e41, e42, e43, hg', hl', h2', hun, hpr, hk', hf'⟩ Q' hq hx
  have hsl : Sl ro h' (.slice (some (own mid 2)) row.length row.length) 2 mcs := by rw [← hl']; exact Sl.own hg' h2' (Nat.le_refl _)
  unfold exec_copied_L3
  rw [e9, e41, e42, e43]
  refine lss_s (fun hk => ?_) (fun hk => ?_)
  · have hk : k < row.length := by omega
    have hmk : mcs[k]? = some (mcs[k]'(by omega)) := List.getElem?_eq_getElem _
    have hmk0 := hun k (Nat.le_refl _)
    rw [hmk] at hmk0
    have hrk : row[k]? = some row[k] := List.getElem?_eq_getElem _
    obtain ⟨ov, hx0, hov, hol⟩ := hsrc k _ _ hmk0.symm hrk
    rw [hx0] at hmk
    have hix := hsl.ix .i64 (i := k) (by omega)
    have hld := hsl.loadA hmk
    have hfw := hsl.fwd (i := k) (by omega) 1
    rw [elPtrK_own] at hfw
    generalize row[k] = m at hx0 hov hol hmk hrk hld
    (repeat (first | refine bindP_mk (by simp (disch := first | omega | exact Int.natCast_nonneg _ | assumption) only [BB, B2, ↓reduceIte, Nat.reduceLeDiff, Nat.reduceAdd, CC] <;> rfl) ?_ | refine newP_mk ?_ | refine optP_mk ?_ | with_reducible first | refine condP_t ?_ | refine condP_f ?_ | refine ifP_tt' ?_ | refine ifP_ff' ?_ | refine ifP_tf' ?_ | refine ifP_ft' ?_ | refine ifP_u' ?_ | refine optP_mk0 ?_))
    refine bindP_mk hix (bindP_mk hld ?_)
    refine local_mk (x := [.int .i64 m.to, ov]) zer_Move rfl rfl rfl (by simp [show cellOk ov = true from SlR.okC hov, show cellOk (Value.int .i64 m.to) = true from rfl]) hf' (by omega) fun h3 hs3 hf3 g3 _ => ?_
    (repeat (first | refine bindP_mk (by simp (disch := first | omega | exact Int.natCast_nonneg _ | assumption) only [BB, B2, ↓reduceIte, Nat.reduceLeDiff, Nat.reduceAdd, CC] <;> rfl) ?_ | refine newP_mk ?_ | refine optP_mk ?_ | with_reducible first | refine condP_t ?_ | refine condP_f ?_ | refine ifP_tt' ?_ | refine ifP_ff' ?_ | refine ifP_tf' ?_ | refine ifP_ft' ?_ | refine ifP_u' ?_ | refine optP_mk0 ?_))
    refine bindP_mk (load1_get (l := [.int .i64 m.to, ov]) g3 rfl) ?_
    have hD3 : Sub (del h [mid]) h3 := (hk'.delS (fun k h => h)).trans hs3
    refine clone_u8_c (hov.sub hD3 fun _ _ h => h) hol (hf3.mono (by omega)) fun r h4 n4 hn4 hf4 hs4 ho4 => ?_
    have g4 := hs4 _ _ (hs3 _ _ hg')
    refine bindP_mk hix (bindP_mk hfw ?_)
    have hfl : mcs.flatten.length = row.length * 2 := by rw [(flatten_part h2').1, hl']
    refine bindP_mk (store1_own (l := mcs.flatten) g4 (by omega) ho4.ok (by rcases ho4 with ⟨rfl, _⟩ | ⟨id, _, rfl, _⟩ <;> rfl)) ?_
    rw [flatten_set2 h2' hmk]
    have hk5 : Keep [mid] h' (h4.upd mid (some (.cells (mcs.set k [.int .i64 m.to, r]).flatten.toArray y_api_Move))) := ((hs3.trans hs4).keepL).upd (by simp)
    have hk45 : Keep [mid] h4 (h4.upd mid (some (.cells (mcs.set k [.int .i64 m.to, r]).flatten.toArray y_api_Move))) := (Sub.refl h4).keepL.upd (by simp)
    have hf5 : Fr (h4.upd mid (some (.cells (mcs.set k [.int .i64 m.to, r]).flatten.toArray y_api_Move))) n4 := hf4.upd (Nat.le_refl _) (by omega)
    have g5 : (h4.upd mid (some (.cells (mcs.set k [.int .i64 m.to, r]).flatten.toArray y_api_Move))).get mid = some (.cells (mcs.set k [.int .i64 m.to, r]).flatten.toArray y_api_Move) := T.get_upd_same _ _ _
    generalize (h4.upd mid (some (.cells (mcs.set k [.int .i64 m.to, r]).flatten.toArray y_api_Move))) = h5 at hk5 hk45 hf5 g5
    have ho5 := (ho4.keepK hk45 fun id hid hm => by have := (ho4.blk hid).1; simp at hm; omega).del (ids := mid :: X) fun id hid hm => by
      have := (ho4.blk hid).1
      rcases List.mem_cons.1 hm with h9 | h9
      · omega
      · have := hX id h9; omega
    have hR5 := ops_R (ro := ro) ho5.sl (RU8.lt hov)
    (repeat (first | refine bindP_mk (by simp (disch := first | omega | exact Int.natCast_nonneg _ | assumption) only [BB, B2, ↓reduceIte, Nat.reduceLeDiff, Nat.reduceAdd, CC] <;> rfl) ?_ | refine newP_mk ?_ | refine optP_mk ?_ | with_reducible first | refine condP_t ?_ | refine condP_f ?_ | refine ifP_tt' ?_ | refine ifP_ff' ?_ | refine ifP_tf' ?_ | refine ifP_ft' ?_ | refine ifP_u' ?_ | refine optP_mk0 ?_))
    refine hq (j - 1) _ _ _ _ (by omega) ⟨k + 1, mcs.set k [.int .i64 m.to, r], by omega, by omega, e2, e3, e6, e19, e20, e21, e33, e34, e35, e9, e41, e42, rfl, g5, by rw [List.length_set]; exact hl', fun x hx => ?_, fun i hi => ?_, fun i x m' hi hxi hmi => ?_, hk'.trans hk5, hf5.mono (by omega)⟩ (Sub.refl _)
    · rcases List.mem_or_eq_of_mem_set hx with h9 | h9
      · exact h2' x h9
      · subst h9; rfl
    · rw [List.getElem?_set_ne (by omega)]; exact hun i (by omega)
    · by_cases hik : k = i
      · subst hik
        rw [List.getElem?_set_self (by omega)] at hxi
        cases hxi
        rw [hrk] at hmi
        cases hmi
        exact ⟨r, rfl, hR5, hol⟩
      · rw [List.getElem?_set_ne hik] at hxi
        obtain ⟨ov', q1, q2, q3⟩ := hpr i x m' (by omega) hxi hmi
        exact ⟨ov', q1, q2.sub (hk5.del (l := mid :: X) (l' := mid :: X) (fun k hk => by simp at hk; subst hk; exact List.mem_cons_self ..) fun k hk => .inl hk) fun _ _ h => h, q3⟩
  · (repeat (first | refine bindP_mk (by simp (disch := first | omega | exact Int.natCast_nonneg _ | assumption) only [BB, B2, ↓reduceIte, Nat.reduceLeDiff, Nat.reduceAdd, CC] <;> rfl) ?_ | refine newP_mk ?_ | refine optP_mk ?_ | with_reducible first | refine condP_t ?_ | refine condP_f ?_ | refine ifP_tt' ?_ | refine ifP_ff' ?_ | refine ifP_tf' ?_ | refine ifP_ft' ?_ | refine ifP_u' ?_ | refine optP_mk0 ?_))
    refine hx _ _ _ _ (fun e => by cases e) ?_
    have hmX : mid ∉ X := fun hm => by have := hX mid hm; omega
    refine hQ _ _ _ e2 e3 e6 e9 e19 e20 e21 e33 e34 e35 (by omega) (hf'.mono (by omega)) hk' ⟨mcs, ?_, hl', fun i x m hx hm => ?_⟩
    · have : (del h' X).get mid = some (.cells mcs.flatten.toArray y_api_Move) := del_some hg' hmX
      rw [← hl']
      exact Sl.own this h2' (Nat.le_refl _)
    · have hi := (List.getElem?_eq_some_iff.1 hx).1
      obtain ⟨ov', q1, q2, q3⟩ := hpr i x m (by omega) hx hm
      exact ⟨ov', q1, q2.sub (del_mono fun k hk => List.mem_cons_of_mem _ hk) fun _ _ h => h, by unfold maxB; omega⟩
end
end V
end Go.Proofs.YtjndkdmkecpllaaGreat
set_option linter.unusedVariables false
set_option linter.unusedSimpArgs false
namespace Go.Proofs.YtjndkdmkecpllaaGreat
namespace V
attribute [local irreducible] bindP ifP condP newP optP exP beqP
theorem und_ssM : und Tryz.prog y_s_s_api_Move = some (.slice y_s_api_Move) := by kernel_rfl
theorem tin_sM : ∃ i, tin Tryz.prog y_s_api_Move = some i ∧ i.size = 1 ∧ i.bytes = 24 := tinOf (by kernel_rfl)
theorem zer_sM : zer Tryz.prog y_s_api_Move = some (.slice none 0 0) := by kernel_rfl
theorem lit_sM (aid : Nat) (a : Option Addr) (n c : Nat) : sliceLitV Tryz.prog y_s_s_api_Move aid 1 [(0, .slice a n c)] = some (.slice (some (own aid 1)) 1 1, some (.cells [Value.slice a n c].toArray y_s_api_Move)) := by kernel_rfl
def wsC (ws : List Value) : List (List Value) := ws.map fun w => [w]
theorem wsC_len (ws : List Value) : (wsC ws).length = ws.length := by simp [wsC]
theorem row_ok {ro : Ro} {h : T Obj} {w : Value} {row : List MoveD} (hr : SlR ro h w 2 (RMove ro h) row) : ∃ cs, Sl ro h w 2 cs ∧ cs.length = row.length ∧ cs.flatten.all cellOk = true ∧ (∀ x ∈ cs, x.length = 2) ∧ ∀ (i : Nat) x m, cs[i]? = some x → row[i]? = some m → RMove ro h x m := by
  obtain ⟨cs, h1, h2, h3⟩ := hr
  refine ⟨cs, h1, h2, ?_, ?_, h3⟩
  · rw [List.all_eq_true]
    intro x hx
    obtain ⟨y, hy, hxy⟩ := List.mem_flatten.1 hx
    obtain ⟨i, hi⟩ := List.getElem?_of_mem hy
    have hlt := (List.getElem?_eq_some_iff.1 hi).1
    obtain ⟨ov, rfl, hov, _⟩ := h3 i _ _ hi (List.getElem?_eq_getElem (by omega))
    simp at hxy
    rcases hxy with rfl | rfl
    · rfl
    · exact SlR.okC hov
  · intro y hy
    obtain ⟨i, hi⟩ := List.getElem?_of_mem hy
    have hlt := (List.getElem?_eq_some_iff.1 hi).1
    obtain ⟨ov, rfl, _⟩ := h3 i _ _ hi (List.getElem?_eq_getElem (by omega))
    rfl
section
variable {ro : Ro} {h : T Obj} {nx nA : Nat} {X : List Nat} {Q : KE} {e : Env}
set_option maxRecDepth 8000 in
set_option maxHeartbeats 1000000 in
theorem cp_L2 {tid : Nat} {nvs R' U' : Value} {rows : List (List MoveD)} {w2 w3 w19 w20 w21 : Value} (e2 : e 2 = w2) (e3 : e 3 = w3) (e6 : e 6 = ptr tid) (e19 : e 19 = w19) (e20 : e 20 = w20) (e21 : e 21 = w21) (e33 : e 33 = nvs) (e34 : e 34 = .int .i64 rows.length) (e35 : e 35 = .int .i64 0)
    (hg : h.get tid = some (.cells [nilS, R', U', nilS].toArray y_api_State)) (hlen : rows.length ≤ 1000000) (hsrc : SlR ro (del h [tid]) nvs 1 (RRow ro (del h [tid])) rows) (hrow : ∀ row ∈ rows, row ≠ [] ∧ row.length ≤ 1000000 ∧ ∀ m ∈ row, m.ops.length ≤ 1000000)
    (hf : Fr h nx) (hX : ∀ k ∈ X, k < nA) (htid : nA ≤ tid) (hnA : nA ≤ nx)
    (hQ : ∀ (e' : Env) h' n' nv, e' 2 = w2 → e' 3 = w3 → e' 6 = ptr tid → e' 19 = w19 → e' 20 = w20 → e' 21 = w21 → nx ≤ n' → Fr h' n' → Keep [tid] h h' → h'.get tid = some (.cells [nilS, R', U', nv].toArray y_api_State) →
      SlR ro (del h' (tid :: X)) nv 1 (RRow ro (del h' (tid :: X))) rows → Q (.exit 2) e' h' n') : loopP (exec_copied_L2 ro) e h nx Q := by
  have hlt := hf.lt' hg
  refine loopP_rule (fun j e h' nx' => ∃ (k : Nat) (ws : List Value) (nv : Value), k + j = rows.length ∧ nx ≤ nx' ∧ e 2 = w2 ∧ e 3 = w3 ∧ e 6 = ptr tid ∧ e 19 = w19 ∧ e 20 = w20 ∧ e 21 = w21 ∧ e 33 = nvs ∧ e 34 = .int .i64 rows.length ∧ e 35 = .int .i64 k ∧
    h'.get tid = some (.cells [nilS, R', U', nv].toArray y_api_State) ∧ OwnT h' nv 1 y_s_api_Move (wsC ws) nx ∧ ws.length = k ∧ (∀ (i : Nat) w row, ws[i]? = some w → rows[i]? = some row → RRow ro (del h' (tid :: (blkL nv ++ X))) [w] row) ∧ Keep [tid] h h' ∧ Fr h' nx') ?_ (n := rows.length)
    ⟨0, [], nilS, by omega, by omega, e2, e3, e6, e19, e20, e21, e33, e34, e35, hg, OwnT.nil, rfl, fun i w row hw => by simp at hw, (Sub.refl h).keepL, hf⟩
  rintro j e h' nx' ⟨k, ws, nv, hj, hnx, e2, e3, e6, e19, e20, e21, e33, e34, e35, hg', ho', hwl, hfa, hk', hf'⟩ Q' hq hx
  unfold exec_copied_L2
  rw [e33, e34, e35]
  refine lss_s (fun hk => ?_) (fun hk => ?_)
  · have hk : k < rows.length := by omega
    have hD : Sub (del h [tid]) h' := hk'.delS fun k h => h
    have hs' := hsrc.sub hD (RRow.sub hD)
    have hix := hs'.ix .i64 hk
    obtain ⟨w0, ⟨w0', hw1, hw2, hw3⟩, hld⟩ := hs'.at1 hk
    simp only [List.cons.injEq, and_true] at hw1
    subst hw1
    have hrk : rows[k]? = some rows[k] := List.getElem?_eq_getElem _
    obtain ⟨b1, b2, b3⟩ := hrow _ (List.getElem_mem hk)
    generalize rows[k] = row at hw2 hw3 hrk b1 b2 b3
    obtain ⟨cs, c1, c2, c3, c4, c5⟩ := row_ok hw2
    (repeat (first | refine bindP_mk (by simp (disch := first | omega | exact Int.natCast_nonneg _ | assumption) only [BB, B2, ↓reduceIte, Nat.reduceLeDiff, Nat.reduceAdd, CC] <;> rfl) ?_ | refine newP_mk ?_ | refine optP_mk ?_ | with_reducible first | refine condP_t ?_ | refine condP_f ?_ | refine ifP_tt' ?_ | refine ifP_ff' ?_ | refine ifP_tf' ?_ | refine ifP_ft' ?_ | refine ifP_u' ?_ | refine optP_mk0 ?_))
    refine bindP_mk hix (bindP_mk hld ?_)
    refine clone_move_c c1 c3 (by omega) (hf'.mono (by omega)) fun r h1 n1 hn1 hf1 hs1 ho1 => ?_
    have hlnr := (ho1.sl (ro := ro)).len
    rw [c2] at hlnr
    rcases ho1 with ⟨_, hnil⟩ | ⟨mid, hmid, rfl, hz1, hg1⟩
    · exact absurd (List.length_eq_zero_iff.1 (by rw [← c2, hnil]; rfl)) b1
    rw [c2]
    refine bindP_mk rfl ?_
    have hmlt := hf1.lt' hg1
    have hs1m : Sub h' (del h1 [mid]) := hs1.delN hf' fun i hi => by simp at hi; omega
    refine cp_L3 (ro := ro) (mid := mid) (row := row) (mcs0 := cs) (nA := nx' + 6) (X := tid :: (blkL nv ++ X)) e2 e3 e6 e19 e20 e21 e33 e34 e35 rfl rfl rfl rfl hg1 c2 hz1 b2 (fun i x m hxi hmi => ?_) (hf1.mono (by omega)) (fun k hk => ?_) hmid (by omega) ?_
    · obtain ⟨ov, rfl, hov, _⟩ := c5 i x m hxi hmi
      exact ⟨ov, rfl, hov.sub hs1m fun _ _ h => h, b3 m (List.mem_of_getElem? hmi)⟩
    · rcases List.mem_cons.1 hk with rfl | hk
      · have := hf'.lt' hg'; omega
      · rcases List.mem_append.1 hk with hk | hk
        · have h9 := (ho'.blk (mem_blkL.1 hk)).2
          have := hf'.lt' h9; omega
        · have := hX k hk; omega
    · intro e4 h2 n2 f2 f3 f6 f9 f19 f20 f21 f33 f34 f35 hn2 hf2 hk2 hrw
      -- behind the row: it is put behind the others
      have hs2 : Sub h' h2 := fun k o hk => hk2 k o (hs1 k o hk) fun hm => by have := hf'.lt' hk; simp at hm; omega
      have hg2 := hs2 _ _ hg'
      have ho2 := ho'.keepS hs2
      have hj5 : ∀ (e5 : Env) n3, e5 2 = w2 → e5 3 = w3 → e5 6 = ptr tid → e5 9 = .slice (some (own mid 2)) row.length row.length → e5 19 = w19 → e5 20 = w20 → e5 21 = w21 → e5 33 = nvs → e5 34 = .int .i64 rows.length → e5 35 = .int .i64 k → n2 ≤ n3 → exec_copied_j5 ro Q' e5 h2 n3 := by
        intro e5 n3 u2 u3 u6 u9 u19 u20 u21 u33 u34 u35 hn3
        unfold exec_copied_j5
        rw [u6, u9]
        (repeat (first | refine bindP_mk (by simp (disch := first | omega | exact Int.natCast_nonneg _ | assumption) only [BB, B2, ↓reduceIte, Nat.reduceLeDiff, Nat.reduceAdd, CC] <;> rfl) ?_ | refine newP_mk ?_ | refine optP_mk ?_ | with_reducible first | refine condP_t ?_ | refine condP_f ?_ | refine ifP_tt' ?_ | refine ifP_ff' ?_ | refine ifP_tf' ?_ | refine ifP_ft' ?_ | refine ifP_u' ?_ | refine optP_mk0 ?_))
        refine bindP_mk (load1_get (l := [nilS, R', U', nv]) hg2 rfl) ?_
        obtain ⟨i, t1, t2, t3⟩ := tin_sM
        have hn1lt : sblk nv ≠ some (n3 + 3) := fun e => by
          have h9 := (ho2.blk e).2
          have := hf2.lt' h9; omega
        refine app_at (z := 1) (l := wsC ws) (y := [.slice (some (own mid 2)) row.length row.length]) (lit_sM _ _ _ _) rfl ho2 und_ssM t1 (by omega) (by omega) zer_sM rfl rfl (by rw [wsC_len, t3]; unfold big; omega) (by rw [wsC_len]; unfold big; omega) (hf2.mono (by omega)) (by omega) (by omega) hn1lt fun h3 ho3 hk3 hf3 => ?_
        have ewc : wsC ws ++ [[.slice (some (own mid 2)) row.length row.length]] = wsC (ws ++ [.slice (some (own mid 2)) row.length row.length]) := by simp [wsC]
        rw [ewc] at ho3 ⊢
        generalize hnv : Value.slice (some (own (n3 + 5) 1)) (wsC (ws ++ [.slice (some (own mid 2)) row.length row.length])).length (wsC (ws ++ [.slice (some (own mid 2)) row.length row.length])).length = nv2 at ho3
        have hsb2 : sblk nv2 = some (n3 + 5) := by rw [← hnv]; rfl
        have hg3 := hk3 _ _ hg2 (by have := hf2.lt' hg2; omega) (fun e => (ho2.ne hg2 (by decide)) e)
        dsimp only
        (repeat (first | refine bindP_mk (by simp (disch := first | omega | exact Int.natCast_nonneg _ | assumption) only [BB, B2, ↓reduceIte, Nat.reduceLeDiff, Nat.reduceAdd, CC] <;> rfl) ?_ | refine newP_mk ?_ | refine optP_mk ?_ | with_reducible first | refine condP_t ?_ | refine condP_f ?_ | refine ifP_tt' ?_ | refine ifP_ff' ?_ | refine ifP_tf' ?_ | refine ifP_ft' ?_ | refine ifP_u' ?_ | refine optP_mk0 ?_))
        refine bindP_mk (store1_own (l := [nilS, R', U', nv]) hg3 (by show 3 < 4; omega) ho3.ok (by rw [← hnv]; rfl)) ?_
        have hk4 : Keep (tid :: blkL nv) h2 (h3.upd tid (some (.cells ([nilS, R', U', nv].set 3 nv2).toArray y_api_State))) := fun k o hk hn => by
          have h9 : k ≠ tid := fun e => hn (by rw [e]; exact List.mem_cons_self ..)
          have h10 : sblk nv ≠ some k := fun e => hn (List.mem_cons_of_mem _ (mem_blkL.2 e))
          rw [T.get_upd_ne _ _ h9]
          exact hk3 k o hk (by have := hf2.lt' hk; omega) h10
        have ho4 : OwnT (h3.upd tid (some (.cells ([nilS, R', U', nv].set 3 nv2).toArray y_api_State))) nv2 1 y_s_api_Move (wsC (ws ++ [.slice (some (own mid 2)) row.length row.length])) nx := by
          have hkk : Keep [tid] h3 (h3.upd tid (some (.cells ([nilS, R', U', nv].set 3 nv2).toArray y_api_State))) := (Sub.refl h3).keepL.upd (by simp)
          exact ho3.keepK hkk fun id hid hm => by rw [hsb2] at hid; cases hid; simp at hm; have := hf2.lt' hg2; omega
        have hf4 : Fr (h3.upd tid (some (.cells ([nilS, R', U', nv].set 3 nv2).toArray y_api_State))) (n3 + 6) := (hf3.mono (by omega)).upd (Nat.le_refl _) (by omega)
        have g4 : (h3.upd tid (some (.cells ([nilS, R', U', nv].set 3 nv2).toArray y_api_State))).get tid = some (.cells [nilS, R', U', nv2].toArray y_api_State) := T.get_upd_same _ _ _
        generalize (h3.upd tid (some (.cells ([nilS, R', U', nv].set 3 nv2).toArray y_api_State))) = h4 at hk4 ho4 hf4 g4
        have hmono : Sub (del h2 (tid :: (blkL nv ++ X))) (del h4 (tid :: (blkL nv2 ++ X))) := hk4.del (fun k hk => by
            rcases List.mem_cons.1 hk with rfl | hk
            · exact List.mem_cons_self ..
            · exact List.mem_cons_of_mem _ (List.mem_append.2 (.inl hk))) fun k hk => by
          rcases List.mem_cons.1 hk with rfl | hk
          · exact .inl (List.mem_cons_self ..)
          · rcases List.mem_append.1 hk with hk | hk
            · have := mem_blkL.1 hk
              rw [hsb2] at this
              cases this
              exact .inr (hf2 _ (by omega))
            · exact .inl (List.mem_cons_of_mem _ (List.mem_append.2 (.inr hk)))
        have hj4 : ∀ (e6' : Env) n6, e6' 2 = w2 → e6' 3 = w3 → e6' 6 = ptr tid → e6' 19 = w19 → e6' 20 = w20 → e6' 21 = w21 → e6' 33 = nvs → e6' 34 = .int .i64 rows.length → e6' 35 = .int .i64 k → n3 + 6 ≤ n6 → exec_copied_j4 ro Q' e6' h4 n6 := by
          intro e6' n6 v2 v3 v6 v19 v20 v21 v33 v34 v35 hn6
          unfold exec_copied_j4
          rw [v35]
          (repeat (first | refine bindP_mk (by simp (disch := first | omega | exact Int.natCast_nonneg _ | assumption) only [BB, B2, ↓reduceIte, Nat.reduceLeDiff, Nat.reduceAdd, CC] <;> rfl) ?_ | refine newP_mk ?_ | refine optP_mk ?_ | with_reducible first | refine condP_t ?_ | refine condP_f ?_ | refine ifP_tt' ?_ | refine ifP_ff' ?_ | refine ifP_tf' ?_ | refine ifP_ft' ?_ | refine ifP_u' ?_ | refine optP_mk0 ?_))
          refine hq (j - 1) _ _ _ _ (by omega) ⟨k + 1, ws ++ [.slice (some (own mid 2)) row.length row.length], nv2, by omega, by omega, v2, v3, v6, v19, v20, v21, v33, v34, rfl, g4, ho4, by simp [hwl], fun i w row' hwi hri => ?_, fun k' o hk9 hn9 => ?_, hf4.mono (by omega)⟩ (Sub.refl _)
          · rcases Nat.lt_or_ge i ws.length with hi | hi
            · rw [List.getElem?_append_left hi] at hwi
              have h9 := hfa i w row' hwi hri
              have hkeep2 : Sub (del h' (tid :: (blkL nv ++ X))) (del h2 (tid :: (blkL nv ++ X))) := (Sub.keepL hs2 : Keep [] h' h2).del (fun k hk => by cases hk) fun k hk => .inl hk
              exact RRow.sub (hkeep2.trans hmono) _ _ h9
            · rw [List.getElem?_append_right hi] at hwi
              have hlt9 := (List.getElem?_eq_some_iff.1 hwi).1
              have : i = k := by simp at hlt9; omega
              subst this
              rw [hrk] at hri
              cases hri
              have : w = .slice (some (own mid 2)) row.length row.length := by have := List.mem_of_getElem? hwi; simpa using this
              subst this
              exact ⟨_, rfl, hrw.sub hmono (RMove.sub hmono), by unfold maxB; omega⟩
          · have h10 := hs2 _ _ (hk' k' o hk9 hn9)
            have hk'lt := hf.lt' hk9
            refine hk4 k' o h10 fun hm => ?_
            rcases List.mem_cons.1 hm with rfl | hm
            · exact hn9 (by simp)
            · have := (ho2.blk (mem_blkL.1 hm)).1; omega
        exact hj4 _ _ u2 u3 u6 u19 u20 u21 u33 u34 u35 (by omega)
      refine exP_e (beqP_t ?_)
      exact hj5 _ _ f2 f3 f6 f9 f19 f20 f21 f33 f34 f35 (Nat.le_refl _)
  · (repeat (first | refine bindP_mk (by simp (disch := first | omega | exact Int.natCast_nonneg _ | assumption) only [BB, B2, ↓reduceIte, Nat.reduceLeDiff, Nat.reduceAdd, CC] <;> rfl) ?_ | refine newP_mk ?_ | refine optP_mk ?_ | with_reducible first | refine condP_t ?_ | refine condP_f ?_ | refine ifP_tt' ?_ | refine ifP_ff' ?_ | refine ifP_tf' ?_ | refine ifP_ft' ?_ | refine ifP_u' ?_ | refine optP_mk0 ?_))
    refine hx _ _ _ _ (fun e => by cases e) ?_
    have hnt : ∀ id, sblk nv = some id → id ∉ tid :: X := fun id hid hm => by
      have h9 := ho'.blk hid
      rcases List.mem_cons.1 hm with rfl | hm
      · exact (ho'.ne hg' (by decide)) hid
      · have := hX id hm; omega
    have hsub : Sub (del h' (tid :: (blkL nv ++ X))) (del h' (tid :: X)) := del_mono fun k hk => by
      rcases List.mem_cons.1 hk with rfl | hk
      · exact List.mem_cons_self ..
      · exact List.mem_cons_of_mem _ (List.mem_append.2 (.inr hk))
    refine hQ _ _ _ nv e2 e3 e6 e19 e20 e21 (by omega) (hf'.mono (by omega)) hk' hg' ⟨wsC ws, (ho'.del hnt).sl, by rw [wsC_len]; omega, fun i x row hxi hri => ?_⟩
    simp only [wsC, List.getElem?_map] at hxi
    cases hw : ws[i]? with
    | none => rw [hw] at hxi; cases hxi
    | some w =>
      rw [hw] at hxi
      cases hxi
      exact RRow.sub hsub _ _ (hfa i w row hw hri)
end
end V
end Go.Proofs.YtjndkdmkecpllaaGreat
set_option linter.unusedVariables false
set_option linter.unusedSimpArgs false
namespace Go.Proofs.YtjndkdmkecpllaaGreat
namespace V
attribute [local irreducible] bindP ifP condP newP optP exP beqP
def erS (s : StateD) : StateD := ⟨[], s.r, s.rule, s.next⟩
def er (d : AutoD) : AutoD := ⟨d.c, d.many, d.counts, d.states.map erS⟩
theorem buildV_st {P : Program} {t : TypeId} {z : Array Value} {fs : Array Field} {pl : List (Nat × Nat)} {parts : List (Nat × Value)} {l : List Value} (h1 : zer P t = some (.agg z)) (h2 : und P t = some (.struct fs)) (h3 : placesV P fs.toList = some pl) (h4 : fillV (pl[·]?) z.toList parts = some l) : buildV P t parts = some (.agg l.toArray) := by
  unfold buildV
  rw [h1]
  simp only [Option.bind, h2, h3, Value.cells_agg, h4]
theorem st_fs {P : Program} {t : TypeId} {pl : List (Nat × Nat)} (h : ((und P t).bind fun d => match d with
    | .struct fs => placesV P fs.toList
    | _ => none) = some pl) : ∃ fs, und P t = some (.struct fs) ∧ placesV P fs.toList = some pl := by
  obtain ⟨d, h2, h3⟩ := bind_some' h
  cases d <;> try (cases h3; done)
  exact ⟨_, h2, h3⟩
theorem over_pre {a b c : List Value} (h : c.length = a.length) : over (a ++ b) 0 c = c ++ b := by
  unfold over
  rw [List.take_zero, List.nil_append, Nat.zero_add, h, List.drop_left]
theorem build_Auto2 {c : List Nat} {n : Int} {cv : Value} (hc : c.length = 256) (hcv : cv.cells = #[cv]) : buildV Tryz.prog y_api_Auto [(0, splitI c n), (1, cv)] = some (.agg (autL c n cv nilS).toArray) := by
  obtain ⟨fs, h1, h2⟩ := st_fs (P := Tryz.prog) (t := y_api_Auto) (pl := [(0, 257), (257, 1), (258, 1)]) (by kernel_rfl)
  refine buildV_st zer_Auto h1 h2 ?_
  have hs : (splitLI (List.replicate 256 0) 0).length = 257 := splitLI_len List.length_replicate
  have hs2 : (splitLI c n).length = 257 := splitLI_len hc
  have e1 : Nat.beq (splitI c n).cells.size 257 = true := by rw [splitI_cells]; simp [hs2]
  have e2 : Nat.ble (0 + 257) autZ.length = true := by rw [autZ_len]; rfl
  have o1 : over autZ 0 (splitI c n).cells.toList = autL c n nilS nilS := by
    rw [splitI_cells]
    exact over_pre (by rw [hs, hs2])
  have e3 : Nat.beq cv.cells.size 1 = true := by rw [hcv]; rfl
  have e4 : Nat.ble (257 + 1) (autL c n nilS nilS).length = true := by rw [autL_len hc]; rfl
  have o2 : over (autL c n nilS nilS) 257 cv.cells.toList = autL c n cv nilS := by
    rw [hcv]
    show over _ 257 [cv] = _
    rw [over_one _ (by rw [autL_len hc]; omega), autL_set257 hc]
  show fillV _ autZ _ = _
  simp only [fillV, List.getElem?_cons_zero, List.getElem?_cons_succ, Option.bind, e1, e2, o1, e3, e4, o2]
theorem local_at {P : Program} {h : T Obj} {a n : Nat} {ty : TypeId} {zv v : Value} {x : List Value} {K : T Obj → Prop} (hz : zer P ty = some zv) (hzs : zv.cells.size = n) (hv : v.cells = x.toArray) (hx : x.length = n) (hok : x.all cellOk = true)
    (hK : ∀ h', h'.get a = some (.cells x.toArray ty) → (∀ k, k ≠ a → h'.get k = h.get k) → K h') :
    bindP (zer P ty) fun z => newP h a (.cells z.cells ty) fun h1 => bindP (storeN n h1 (ptr a) v) K := by
  refine bindP_mk hz (newP_mk (bindP_mk (storeA_own (l := zv.cells.toList) (vs := x) (e := ty) (f := (0, 0)) (by rw [T.get_upd_same]) hv hx (by simpa using hzs) hok) ?_))
  exact hK _ (by rw [T.get_upd_same]) fun k hk => by rw [T.get_upd_ne _ _ hk, T.get_upd_ne _ _ hk]
theorem build_State2 (a b : Value) (h1 : a.cells = #[a]) (h2 : b.cells = #[b]) : buildV Tryz.prog y_api_State [(1, a), (2, b)] = some (.agg #[nilS, a, b, nilS]) := by
  obtain ⟨fs, g1, g2⟩ := st_fs (P := Tryz.prog) (t := y_api_State) (pl := [(0, 1), (1, 1), (2, 1), (3, 1)]) (by kernel_rfl)
  refine buildV_st zer_State g1 g2 ?_
  simp only [fillV, List.getElem?_cons_zero, List.getElem?_cons_succ, Option.bind, h1, h2]
  rfl
theorem OwnT.cells {h : T Obj} {v : Value} {z : Nat} {e : TypeId} {l : List (List Value)} {lo : Nat} (ho : OwnT h v z e l lo) : v.cells = #[v] := by
  rcases ho with ⟨rfl, _⟩ | ⟨id, _, rfl, _⟩ <;> rfl
def Fit (d : AutoD) : Prop := d.counts.length ≤ 1000000 ∧ d.states.length ≤ 1000000 ∧ ∀ s ∈ d.states, s.r.length ≤ 1000000 ∧ s.rule.length ≤ 1000000 ∧ s.next.length ≤ 1000000 ∧ ∀ row ∈ s.next, row ≠ [] ∧ row.length ≤ 1000000 ∧ ∀ m ∈ row, m.ops.length ≤ 1000000
section
variable {ro : Ro} {h : T Obj} {nx : Nat} {Q : KE} {e : Env}
set_option maxRecDepth 8000 in
set_option maxHeartbeats 2000000 in
theorem cp_L1 {X : List Nat} {rid oid : Nat} {c : List Nat} {n : Int} {cv svs : Value} {S : List StateD} (hc : c.length = 256) (e2 : e 2 = ptr rid) (e3 : e 3 = ptr oid) (e19 : e 19 = svs) (e20 : e 20 = .int .i64 S.length) (e21 : e 21 = .int .i64 0)
    (hg : h.get oid = some (.cells (autL c n cv nilS).toArray y_api_Auto)) (hgr : h.get rid = some (.cells autZ.toArray y_api_Auto)) (hro : rid ≠ oid) (hsrc : SlR ro (del h [oid]) svs 4 (RState ro (del h [oid])) S) (hlen : S.length ≤ 1000000)
    (hfit : ∀ s ∈ S, s.r.length ≤ 1000000 ∧ s.rule.length ≤ 1000000 ∧ s.next.length ≤ 1000000 ∧ ∀ row ∈ s.next, row ≠ [] ∧ row.length ≤ 1000000 ∧ ∀ m ∈ row, m.ops.length ≤ 1000000) (hf : Fr h nx) (hX : ∀ k ∈ X, k < nx)
    (hQ : ∀ (e' : Env) h' n' sv, e' 2 = ptr rid → e' 3 = ptr oid → nx ≤ n' → Fr h' n' → Keep [oid] h h' → h'.get oid = some (.cells (autL c n cv sv).toArray y_api_Auto) → cellOk sv = true →
      SlR ro (del h' (oid :: X)) sv 4 (RState ro (del h' (oid :: X))) (S.map erS) → Q (.exit 0) e' h' n') : loopP (exec_copied_L1 ro) e h nx Q := by
  have hlt := hf.lt' hg
  have hltr := hf.lt' hgr
  refine loopP_rule (fun j e h' nx' => ∃ (k : Nat) (cs : List (List Value)) (sv : Value), k + j = S.length ∧ nx ≤ nx' ∧ e 2 = ptr rid ∧ e 3 = ptr oid ∧ e 19 = svs ∧ e 20 = .int .i64 S.length ∧ e 21 = .int .i64 k ∧
    h'.get oid = some (.cells (autL c n cv sv).toArray y_api_Auto) ∧ OwnT h' sv 4 y_api_State cs nx ∧ cs.length = k ∧ (∀ (i : Nat) x s, cs[i]? = some x → S[i]? = some s → RState ro (del h' (oid :: (blkL sv ++ X))) x (erS s)) ∧ Keep [oid] h h' ∧ Fr h' nx') ?_ (n := S.length)
    ⟨0, [], nilS, by omega, by omega, e2, e3, e19, e20, e21, hg, OwnT.nil, rfl, fun i x s hx => by simp at hx, (Sub.refl h).keepL, hf⟩
  rintro j e h' nx' ⟨k, cs, sv, hj, hnx, e2, e3, e19, e20, e21, hg', ho', hcl, hfa, hk', hf'⟩ Q' hq hx
  unfold exec_copied_L1
  rw [e19, e20, e21]
  refine lss_s (fun hk => ?_) (fun hk => ?_)
  · have hk : k < S.length := by omega
    have hD : Sub (del h [oid]) h' := hk'.delS fun k h => h
    have hs' := hsrc.sub hD (RState.sub hD)
    have hix := hs'.ix .i64 hk
    have hsk : S[k]? = some S[k] := List.getElem?_eq_getElem _
    obtain ⟨x, ⟨lv, rv, uv, nv, rfl, y1, y2, y3, y4, y5⟩, hx2, hx3, hx4, hx5⟩ := hs'.at hk
    obtain ⟨b1, b2, b3, b4⟩ := hfit _ (List.getElem_mem hk)
    generalize S[k] = s at y1 y2 y3 y4 y5 b1 b2 b3 b4 hsk
    have hlt' := hf'.lt' hg'
    (repeat (first | refine bindP_mk (by simp (disch := first | omega | exact Int.natCast_nonneg _ | assumption) only [BB, B2, ↓reduceIte, Nat.reduceLeDiff, Nat.reduceAdd, CC] <;> rfl) ?_ | refine newP_mk ?_ | refine optP_mk ?_ | with_reducible first | refine condP_t ?_ | refine condP_f ?_ | refine ifP_tt' ?_ | refine ifP_ff' ?_ | refine ifP_tf' ?_ | refine ifP_ft' ?_ | refine ifP_u' ?_ | refine optP_mk0 ?_))
    refine bindP_mk hix (bindP_mk hx3 ?_)
    refine local_mk (x := [lv, rv, uv, nv]) zer_State rfl rfl rfl (by simp [y1.ok, y2.ok, y3.ok, SlR.okC y4]) hf' (by omega) fun h1 hs1 hf1 g1 _ => ?_
    (repeat (first | refine bindP_mk (by simp (disch := first | omega | exact Int.natCast_nonneg _ | assumption) only [BB, B2, ↓reduceIte, Nat.reduceLeDiff, Nat.reduceAdd, CC] <;> rfl) ?_ | refine newP_mk ?_ | refine optP_mk ?_ | with_reducible first | refine condP_t ?_ | refine condP_f ?_ | refine ifP_tt' ?_ | refine ifP_ff' ?_ | refine ifP_tf' ?_ | refine ifP_ft' ?_ | refine ifP_u' ?_ | refine optP_mk0 ?_))
    refine bindP_mk (load1_get (l := [lv, rv, uv, nv]) g1 rfl) ?_
    refine clone_int_c (y2.sub hs1) b1 (hf1.mono (by omega)) fun R' h2 n2 hn2 hf2 hs2 ho2 => ?_
    (repeat (first | refine bindP_mk (by simp (disch := first | omega | exact Int.natCast_nonneg _ | assumption) only [BB, B2, ↓reduceIte, Nat.reduceLeDiff, Nat.reduceAdd, CC] <;> rfl) ?_ | refine newP_mk ?_ | refine optP_mk ?_ | with_reducible first | refine condP_t ?_ | refine condP_f ?_ | refine ifP_tt' ?_ | refine ifP_ff' ?_ | refine ifP_tf' ?_ | refine ifP_ft' ?_ | refine ifP_u' ?_ | refine optP_mk0 ?_))
    refine bindP_mk (load1_get (l := [lv, rv, uv, nv]) (hs2 _ _ g1) rfl) ?_
    refine ⟨sameV_own g1 (hs2 _ _ g1), ?_⟩
    refine clone_int_c (y3.sub (hs1.trans hs2)) b2 hf2 fun U' h3 n3 hn3 hf3 hs3 ho3 => ?_
    refine bindP_mk (build_State2 _ _ ho2.cells ho3.cells) ?_
    refine local_at (x := [nilS, R', U', nilS]) zer_State rfl rfl rfl (by simp [show cellOk nilS = true from rfl, ho2.ok, ho3.ok]) fun h4 g4 ho4 => ?_
    have hs13 : Sub h' h3 := (hs1.trans hs2).trans hs3
    have hs4 : Sub h' h4 := fun k o hk => by rw [ho4 k (by have := hf'.lt' hk; omega)]; exact hs13 k o hk
    have hs4t : Sub h' (del h4 [nx' + 12]) := fun k o hk => del_some (hs4 k o hk) (by have := hf'.lt' hk; simp; omega)
    have hf4 : Fr h4 n3 := fun k hk => by rw [ho4 k (by omega)]; exact hf3 k hk
    have g14 : h4.get (nx' + 3) = some (.cells [lv, rv, uv, nv].toArray y_api_State) := by rw [ho4 _ (by omega)]; exact hs3 _ _ (hs2 _ _ g1)
    have hnl := (y4.sub hs4 (RRow.sub hs4)).len
    (repeat (first | refine bindP_mk (by simp (disch := first | omega | exact Int.natCast_nonneg _ | assumption) only [BB, B2, ↓reduceIte, Nat.reduceLeDiff, Nat.reduceAdd, CC] <;> rfl) ?_ | refine newP_mk ?_ | refine optP_mk ?_ | with_reducible first | refine condP_t ?_ | refine condP_f ?_ | refine ifP_tt' ?_ | refine ifP_ff' ?_ | refine ifP_tf' ?_ | refine ifP_ft' ?_ | refine ifP_u' ?_ | refine optP_mk0 ?_))
    refine bindP_mk (load1_get (l := [lv, rv, uv, nv]) g14 rfl) ?_
    refine bindP_mk hnl ?_
    refine cp_L2 (ro := ro) (tid := nx' + 12) (rows := s.next) (R' := R') (U' := U') (X := oid :: (blkL sv ++ X)) (nA := nx') e2 e3 rfl e19 e20 e21 rfl rfl rfl g4 b3 (y4.sub hs4t (RRow.sub hs4t)) b4 (hf4.mono (by omega)) (fun k hk => ?_) (by omega) (by omega) ?_
    · rcases List.mem_cons.1 hk with rfl | hk
      · exact hlt'
      · rcases List.mem_append.1 hk with hk | hk
        · exact hf'.lt' (ho'.blk (mem_blkL.1 hk)).2
        · have := hX k hk; omega
    · intro e5 h5 n5 nv5 f2 f3 f6 f19 f20 f21 hn5 hf5 hk5 g5 hnx5
      -- the state, put behind the others
      have hs5 : Sub h' h5 := fun k o hk => hk5 k o (hs4 k o hk) (by have := hf'.lt' hk; simp; omega)
      have hg5 := hs5 _ _ hg'
      have ho5 := ho'.keepS hs5
      have hR5 : OwnT h5 R' 1 y_int (intsZ s.r) (nx' + 14) := ((ho2.keepS hs3).keepK (ids := [nx' + 12]) (h' := h4) (fun k o hk hn => by rw [ho4 k (by simpa using hn)]; exact hk) fun id hid hm => by have := (ho2.blk hid).1; simp at hm; omega).keepK hk5 fun id hid hm => by have := (ho2.blk hid).1; simp at hm; omega
      have hU5 : OwnT h5 U' 1 y_int (intsZ s.rule) n2 := (ho3.keepK (ids := [nx' + 12]) (h' := h4) (fun k o hk hn => by rw [ho4 k (by simpa using hn)]; exact hk) fun id hid hm => by have := (ho3.blk hid).1; simp at hm; omega).keepK hk5 fun id hid hm => by have := (ho3.blk hid).1; simp at hm; omega
      have hXlt : ∀ k ∈ oid :: (blkL sv ++ X), k < nx' := fun k hk => by
        rcases List.mem_cons.1 hk with rfl | hk
        · exact hlt'
        · rcases List.mem_append.1 hk with hk | hk
          · exact hf'.lt' (ho'.blk (mem_blkL.1 hk)).2
          · have := hX k hk; omega
      have hst : RState ro (del h5 (oid :: (blkL sv ++ X))) [nilS, R', U', nv5] (erS s) := by
        refine ⟨nilS, R', U', nv5, rfl, Sl.nil, (hR5.del fun id hid hm => ?_).sl, (hU5.del fun id hid hm => ?_).sl, hnx5.sub (del_mono fun k hk => List.mem_cons_of_mem _ hk) (RRow.sub (del_mono fun k hk => List.mem_cons_of_mem _ hk)), y5⟩
        · have := (hR5.blk hid).1; have := hXlt id hm; omega
        · have := (hU5.blk hid).1; have := hXlt id hm; omega
      have hnv5 : cellOk nv5 = true := SlR.okC hnx5
      have hj3 : ∀ (e6 : Env) n6, e6 2 = ptr rid → e6 3 = ptr oid → e6 6 = ptr (nx' + 12) → e6 19 = svs → e6 20 = .int .i64 S.length → e6 21 = .int .i64 k → n5 ≤ n6 → exec_copied_j3 ro Q' e6 h5 n6 := by
        intro e6 n6 u2 u3 u6 u19 u20 u21 hn6
        unfold exec_copied_j3
        rw [u3, u6]
        (repeat (first | refine bindP_mk (by simp (disch := first | omega | exact Int.natCast_nonneg _ | assumption) only [BB, B2, ↓reduceIte, Nat.reduceLeDiff, Nat.reduceAdd, CC] <;> rfl) ?_ | refine newP_mk ?_ | refine optP_mk ?_ | with_reducible first | refine condP_t ?_ | refine condP_f ?_ | refine ifP_tt' ?_ | refine ifP_ff' ?_ | refine ifP_tf' ?_ | refine ifP_ft' ?_ | refine ifP_u' ?_ | refine optP_mk0 ?_))
        refine bindP_mk (load1_get hg5 (autL_states hc)) ?_
        refine bindP_mk (loadA_all (l := [nilS, R', U', nv5]) g5 rfl) ?_
        obtain ⟨i, t1, t2, t3⟩ := tin_State
        have hn1lt : sblk sv ≠ some (n6 + 3) := fun e => by
          have h9 := (ho5.blk e).2
          have := hf5.lt' h9; omega
        refine app_at (z := 4) (l := cs) (y := [nilS, R', U', nv5]) (lit_State _ _ _ _ _) rfl ho5 und_sState t1 (by omega) (by omega) zer_State rfl (by simp [show cellOk nilS = true from rfl, hR5.ok, hU5.ok, hnv5]) (by rw [t3]; unfold big; omega) (by unfold big; omega) (hf5.mono (by omega)) (by omega) (by omega) hn1lt fun h7 ho7 hk7 hf7 => ?_
        generalize hnv : Value.slice (some (own (n6 + 5) 4)) (cs ++ [[nilS, R', U', nv5]]).length (cs ++ [[nilS, R', U', nv5]]).length = sv2 at ho7
        have hsb2 : sblk sv2 = some (n6 + 5) := by rw [← hnv]; rfl
        have hg7 := hk7 _ _ hg5 (by have := hf5.lt' hg5; omega) (fun e => (ho5.ne hg5 (by decide)) e)
        dsimp only
        (repeat (first | refine bindP_mk (by simp (disch := first | omega | exact Int.natCast_nonneg _ | assumption) only [BB, B2, ↓reduceIte, Nat.reduceLeDiff, Nat.reduceAdd, CC] <;> rfl) ?_ | refine newP_mk ?_ | refine optP_mk ?_ | with_reducible first | refine condP_t ?_ | refine condP_f ?_ | refine ifP_tt' ?_ | refine ifP_ff' ?_ | refine ifP_tf' ?_ | refine ifP_ft' ?_ | refine ifP_u' ?_ | refine optP_mk0 ?_))
        refine bindP_mk (store1_own hg7 (by rw [autL_len hc]; omega) ho7.ok (by rw [← hnv]; rfl)) ?_
        rw [autL_set hc]
        have hk8 : Keep (oid :: blkL sv) h5 (h7.upd oid (some (.cells (autL c n cv sv2).toArray y_api_Auto))) := fun k o hk hn => by
          have h9 : k ≠ oid := fun e => hn (by rw [e]; exact List.mem_cons_self ..)
          have h10 : sblk sv ≠ some k := fun e => hn (List.mem_cons_of_mem _ (mem_blkL.2 e))
          rw [T.get_upd_ne _ _ h9]
          exact hk7 k o hk (by have := hf5.lt' hk; omega) h10
        have ho8 : OwnT (h7.upd oid (some (.cells (autL c n cv sv2).toArray y_api_Auto))) sv2 4 y_api_State (cs ++ [[nilS, R', U', nv5]]) nx := by
          have hkk : Keep [oid] h7 (h7.upd oid (some (.cells (autL c n cv sv2).toArray y_api_Auto))) := (Sub.refl h7).keepL.upd (by simp)
          exact ho7.keepK hkk fun id hid hm => by rw [hsb2] at hid; cases hid; simp at hm; have := hf5.lt' hg5; omega
        have hf8 : Fr (h7.upd oid (some (.cells (autL c n cv sv2).toArray y_api_Auto))) (n6 + 6) := (hf7.mono (by omega)).upd (Nat.le_refl _) (by omega)
        have g8 : (h7.upd oid (some (.cells (autL c n cv sv2).toArray y_api_Auto))).get oid = some (.cells (autL c n cv sv2).toArray y_api_Auto) := T.get_upd_same _ _ _
        generalize (h7.upd oid (some (.cells (autL c n cv sv2).toArray y_api_Auto))) = h8 at hk8 ho8 hf8 g8
        have hmono : Sub (del h5 (oid :: (blkL sv ++ X))) (del h8 (oid :: (blkL sv2 ++ X))) := hk8.del (fun k hk => by
            rcases List.mem_cons.1 hk with rfl | hk
            · exact List.mem_cons_self ..
            · exact List.mem_cons_of_mem _ (List.mem_append.2 (.inl hk))) fun k hk => by
          rcases List.mem_cons.1 hk with rfl | hk
          · exact .inl (List.mem_cons_self ..)
          · rcases List.mem_append.1 hk with hk | hk
            · have := mem_blkL.1 hk
              rw [hsb2] at this
              cases this
              exact .inr (hf5 _ (by omega))
            · exact .inl (List.mem_cons_of_mem _ (List.mem_append.2 (.inr hk)))
        have hj2 : ∀ (e9 : Env) n9, e9 2 = ptr rid → e9 3 = ptr oid → e9 19 = svs → e9 20 = .int .i64 S.length → e9 21 = .int .i64 k → n6 + 6 ≤ n9 → exec_copied_j2 ro Q' e9 h8 n9 := by
          intro e9 n9 v2 v3 v19 v20 v21 hn9
          unfold exec_copied_j2
          rw [v21]
          (repeat (first | refine bindP_mk (by simp (disch := first | omega | exact Int.natCast_nonneg _ | assumption) only [BB, B2, ↓reduceIte, Nat.reduceLeDiff, Nat.reduceAdd, CC] <;> rfl) ?_ | refine newP_mk ?_ | refine optP_mk ?_ | with_reducible first | refine condP_t ?_ | refine condP_f ?_ | refine ifP_tt' ?_ | refine ifP_ff' ?_ | refine ifP_tf' ?_ | refine ifP_ft' ?_ | refine ifP_u' ?_ | refine optP_mk0 ?_))
          refine hq (j - 1) _ _ _ _ (by omega) ⟨k + 1, cs ++ [[nilS, R', U', nv5]], sv2, by omega, by omega, v2, v3, v19, v20, rfl, g8, ho8, by simp [hcl], fun i x s' hxi hsi => ?_, fun k' o hk9 hn9 => ?_, hf8.mono (by omega)⟩ (Sub.refl _)
          · rcases Nat.lt_or_ge i cs.length with hi | hi
            · rw [List.getElem?_append_left hi] at hxi
              have h9 := hfa i x s' hxi hsi
              have hkeep2 : Sub (del h' (oid :: (blkL sv ++ X))) (del h5 (oid :: (blkL sv ++ X))) := (Sub.keepL hs5 : Keep [] h' h5).del (fun k hk => by cases hk) fun k hk => .inl hk
              exact RState.sub (hkeep2.trans hmono) _ _ h9
            · rw [List.getElem?_append_right hi] at hxi
              have hlt9 := (List.getElem?_eq_some_iff.1 hxi).1
              have : i = k := by simp at hlt9; omega
              subst this
              rw [hsk] at hsi
              cases hsi
              have : x = [nilS, R', U', nv5] := by have := List.mem_of_getElem? hxi; simpa using this
              subst this
              exact RState.sub hmono _ _ hst
          · have h10 := hs5 _ _ (hk' k' o hk9 hn9)
            have hk'lt := hf.lt' hk9
            refine hk8 k' o h10 fun hm => ?_
            rcases List.mem_cons.1 hm with rfl | hm
            · exact hn9 (by simp)
            · have := (ho5.blk (mem_blkL.1 hm)).1; omega
        exact hj2 _ _ u2 u3 u19 u20 u21 (by omega)
      refine exP_e (beqP_t ?_)
      exact hj3 _ _ f2 f3 f6 f19 f20 f21 (Nat.le_refl _)
  · (repeat (first | refine bindP_mk (by simp (disch := first | omega | exact Int.natCast_nonneg _ | assumption) only [BB, B2, ↓reduceIte, Nat.reduceLeDiff, Nat.reduceAdd, CC] <;> rfl) ?_ | refine newP_mk ?_ | refine optP_mk ?_ | with_reducible first | refine condP_t ?_ | refine condP_f ?_ | refine ifP_tt' ?_ | refine ifP_ff' ?_ | refine ifP_tf' ?_ | refine ifP_ft' ?_ | refine ifP_u' ?_ | refine optP_mk0 ?_))
    refine hx _ _ _ _ (fun e => by cases e) ?_
    have hnt : ∀ id, sblk sv = some id → id ∉ oid :: X := fun id hid hm => by
      have h9 := ho'.blk hid
      rcases List.mem_cons.1 hm with rfl | hm
      · exact (ho'.ne hg' (by decide)) hid
      · have := hX id hm; omega
    have hsub : Sub (del h' (oid :: (blkL sv ++ X))) (del h' (oid :: X)) := del_mono fun k hk => by
      rcases List.mem_cons.1 hk with rfl | hk
      · exact List.mem_cons_self ..
      · exact List.mem_cons_of_mem _ (List.mem_append.2 (.inr hk))
    refine hQ _ _ _ sv e2 e3 (by omega) (hf'.mono (by omega)) hk' hg' ho'.ok ⟨cs, (ho'.del hnt).sl, by rw [List.length_map]; omega, fun i x s hxi hsi => ?_⟩
    rw [List.getElem?_map] at hsi
    cases hs : S[i]? with
    | none => rw [hs] at hsi; cases hsi
    | some s0 =>
      rw [hs] at hsi
      cases hsi
      exact RState.sub hsub _ _ (hfa i x s0 hxi hs)
end
end V
end Go.Proofs.YtjndkdmkecpllaaGreat
set_option linter.unusedVariables false
set_option linter.unusedSimpArgs false
namespace Go.Proofs.YtjndkdmkecpllaaGreat
namespace V
attribute [local irreducible] bindP ifP condP newP optP exP beqP
theorem ok_fit {d : AutoD} (ha : autoOk d = true) (hcl : d.c.length = 256) : Fit d := by
  obtain ⟨h1, h2, h3, h4, h5, h6⟩ := autoOk_parts ha
  have hm0 := right_lt hcl h1 0 (by omega)
  have hm := right_many h1
  refine ⟨by omega, by omega, fun s hs => ?_⟩
  have hk := h6 s hs
  obtain ⟨k1, k2, k3, k4, k5⟩ := state_parts hk
  have hc := codes_le (s.r.length : Int)
  refine ⟨by omega, by omega, by omega, fun row hrow => ?_⟩
  obtain ⟨i, hi⟩ := List.getElem?_of_mem hrow
  have hlt := (List.getElem?_eq_some_iff.1 hi).1
  have hro := rows_at k5 (by omega) i row _ hi (List.getElem?_eq_getElem (by omega))
  unfold rowOk at hro
  simp only [Bool.and_eq_true, decide_eq_true_eq] at hro
  obtain ⟨_, _, r3, r4⟩ := hro
  refine ⟨fun e => by rw [e] at r3; simp at r3; omega, by omega, fun m hm => ?_⟩
  have := ops_all (S := []) ha (List.all_eq_true.1 r4 m hm)
  omega
theorem getD_er (S : List StateD) (i : Nat) : (S.map erS).getD i noS = erS (S.getD i noS) := by
  rw [List.getD_eq_getElem?_getD, List.getD_eq_getElem?_getD, List.getElem?_map]
  cases S[i]? <;> rfl
theorem stAt_er (d : AutoD) (m : MacD) : stAt (er d) m = erS (stAt d m) := getD_er _ _
theorem ruleM_er (d : AutoD) (m : MacD) : ruleM (er d) m = ruleM d m := by unfold ruleM; rw [stAt_er]; rfl
theorem moveM_er (d : AutoD) (m : MacD) (b : Nat) : moveM (er d) m b = moveM d m b := by unfold moveM; rw [stAt_er]; rfl
theorem nextR_er (d : AutoD) (t : Int) : nextR (er d) t = nextR d t := by
  unfold nextR
  show (if t = -1 then [] else ((d.states.map erS).getD t.toNat noS).r) = _
  rw [getD_er]; rfl
theorem onM_er (d : AutoD) (m : MacD) (b : Nat) : onM (er d) m b = onM d m b := by unfold onM; rw [moveM_er]
theorem stepM_er (d : AutoD) (m : MacD) (b : Nat) : stepM (er d) m b = stepM d m b := by unfold stepM; rw [moveM_er, nextR_er, stAt_er]; rfl
theorem moveOk_er {S : List StateD} {R : List Int} (m : MoveD) : moveOk (S.map erS) R m = moveOk S R m := by
  unfold moveOk
  rw [getD_er, List.length_map]; rfl
theorem rowsOk_er {S : List StateD} {R : List Int} {n : Int} : ∀ (us : List Int) (rows : List (List MoveD)), rowsOk (S.map erS) R n us rows = rowsOk S R n us rows
  | [], _ => rfl
  | u :: us, [] => by rw [rowsOk_nil, rowsOk_nil]
  | u :: us, row :: rows => by
    rw [rowsOk_cons, rowsOk_cons, rowsOk_er us rows]
    unfold rowOk
    have : row.all (moveOk (S.map erS) R) = row.all (moveOk S R) := by congr 1; funext m; exact moveOk_er m
    rw [this]
theorem autoOk_er {d : AutoD} (ha : autoOk d = true) : autoOk (er d) = true := by
  unfold autoOk at ha ⊢
  simp only [Bool.and_eq_true, decide_eq_true_eq] at ha ⊢
  obtain ⟨h1, h2, h3, h4, h5, h6, h7⟩ := ha
  refine ⟨h1, h2, by show 1 ≤ (d.states.map erS).length; rw [List.length_map]; exact h3, by show (d.states.map erS).length ≤ 256; rw [List.length_map]; exact h4, ?_, h6, ?_⟩
  · unfold firstOk at h5 ⊢
    simp only [Bool.and_eq_true, decide_eq_true_eq] at h5 ⊢
    refine ⟨?_, ?_⟩
    · show ((d.states.map erS).getD 0 noS).l.length = 0
      rw [getD_er]; rfl
    · show ((d.states.map erS).getD 0 noS).r.length = 0
      rw [getD_er]; exact h5.2
  · show (d.states.map erS).all _ = true
    rw [List.all_map, List.all_eq_true]
    intro s hs
    have := List.all_eq_true.1 h7 s hs
    show stateOk (d.states.map erS) d.many d.counts.length (erS s) = true
    unfold stateOk at this ⊢
    simp only [Bool.and_eq_true, decide_eq_true_eq] at this ⊢
    obtain ⟨k1, k2, k3, k4, k5, k6⟩ := this
    refine ⟨k1, k2, k3, rfl, k5, ?_⟩
    show rowsOk (d.states.map erS) s.r d.many s.rule s.next = true
    rw [rowsOk_er]; exact k6
theorem MOk_er {d : AutoD} {m : MacD} (h : MOk d m) : MOk (er d) m := ⟨by have := h.1; show m.cur = -1 ∨ 0 ≤ m.cur ∧ m.cur < ((d.states.map erS).length : Int); rw [List.length_map]; exact this, h.2⟩
section
variable {ro : Ro} {h : T Obj} {nx : Nat} {K : KV}
set_option maxRecDepth 8000 in
set_option maxHeartbeats 1000000 in
theorem exec_copied_c {X0 : List Nat} {x : List Value} {d : AutoD} (hf : Fr h nx) (hX0 : ∀ k ∈ X0, k < nx) (hd : RAuto ro h x d) (hfit : Fit d) (hK : ∀ cv sv h' nx', nx ≤ nx' → Fr h' nx' → Sub h h' → RAuto ro (del h' X0) (autL d.c d.many cv sv) (er d) → K (.agg (autL d.c d.many cv sv).toArray) h' nx') : callP Tryz.prog ro i_exec_copied [.agg x.toArray] h nx K := by
  obtain ⟨cv, sv, rfl, hc, hclt, hcv, hS, hb1, hb2⟩ := hd
  obtain ⟨f1, f2, f3⟩ := hfit
  have m7 := autL_counts (n := d.many) (cv := cv) (sv := sv) hc
  have m8 := autL_states (n := d.many) (cv := cv) (sv := sv) hc
  apply exec_copied_of
  unfold exec_copied
  refine param_mk hf (Nat.le_refl _) fun h1 hs1 hf1 g1 _ => ?_
  have g1 : h1.get nx = some (.cells (autL d.c d.many cv sv).toArray y_api_Auto) := g1
  refine bindP_mk zer_Auto ?_
  refine obj_mk hf1 (Nat.le_refl _) fun h2 hs2 hf2 g2 _ => ?_
  have g2 : h2.get (nx + 1) = some (.cells autZ.toArray y_api_Auto) := g2
  have g12 := hs2 _ _ g1
  (repeat (first | refine bindP_mk (by simp (disch := first | omega | exact Int.natCast_nonneg _ | assumption) only [BB, B2, ↓reduceIte, Nat.reduceLeDiff, Nat.reduceAdd, CC] <;> rfl) ?_ | refine newP_mk ?_ | refine optP_mk ?_ | with_reducible first | refine condP_t ?_ | refine condP_f ?_ | refine ifP_tt' ?_ | refine ifP_ff' ?_ | refine ifP_tf' ?_ | refine ifP_ft' ?_ | refine ifP_u' ?_ | refine optP_mk0 ?_))
  refine bindP_mk (loadS g12 hc) ?_
  (repeat (first | refine bindP_mk (by simp (disch := first | omega | exact Int.natCast_nonneg _ | assumption) only [BB, B2, ↓reduceIte, Nat.reduceLeDiff, Nat.reduceAdd, CC] <;> rfl) ?_ | refine newP_mk ?_ | refine optP_mk ?_ | with_reducible first | refine condP_t ?_ | refine condP_f ?_ | refine ifP_tt' ?_ | refine ifP_ff' ?_ | refine ifP_tf' ?_ | refine ifP_ft' ?_ | refine ifP_u' ?_ | refine optP_mk0 ?_))
  refine bindP_mk (load1_get g12 m7) ?_
  refine clone_a2_c (hcv.sub (hs1.trans hs2) fun _ _ h => h) f1 (hf2.mono (by omega)) fun cv' h3 n3 hn3 hf3 hs3 ho3 => ?_
  have g13 := hs3 _ _ g12
  have g23 := hs3 _ _ g2
  refine ⟨sameV_own g12 g13, ?_⟩
  refine bindP_mk (build_Auto2 hc ho3.cells) ?_
  refine local_at (x := autL d.c d.many cv' nilS) zer_Auto (by show autZ.toArray.size = 259; simp [autZ_len]) rfl (autL_len hc) (autL_ok ho3.ok rfl) fun h4 g4 hk4 => ?_
  have g14 : h4.get nx = some (.cells (autL d.c d.many cv sv).toArray y_api_Auto) := by rw [hk4 _ (by omega)]; exact g13
  have g24 : h4.get (nx + 1) = some (.cells autZ.toArray y_api_Auto) := by rw [hk4 _ (by omega)]; exact g23
  have hs13 : Sub h h3 := (hs1.trans hs2).trans hs3
  have hs4 : Sub h h4 := fun k o hk => by rw [hk4 k (by have := hf.lt' hk; omega)]; exact hs13 k o hk
  have hs4o : Sub h (del h4 [nx + 8]) := fun k o hk => del_some (hs4 k o hk) (by have := hf.lt' hk; simp; omega)
  have hf4 : Fr h4 n3 := fun k hk => by rw [hk4 k (by omega)]; exact hf3 k hk
  have hsl := (hS.sub hs4 (RState.sub hs4)).len
  (repeat (first | refine bindP_mk (by simp (disch := first | omega | exact Int.natCast_nonneg _ | assumption) only [BB, B2, ↓reduceIte, Nat.reduceLeDiff, Nat.reduceAdd, CC] <;> rfl) ?_ | refine newP_mk ?_ | refine optP_mk ?_ | with_reducible first | refine condP_t ?_ | refine condP_f ?_ | refine ifP_tt' ?_ | refine ifP_ff' ?_ | refine ifP_tf' ?_ | refine ifP_ft' ?_ | refine ifP_u' ?_ | refine optP_mk0 ?_))
  refine bindP_mk (load1_get g14 m8) ?_
  refine bindP_mk hsl ?_
  refine cp_L1 (ro := ro) (X := (nx + 1) :: X0) (rid := nx + 1) (oid := nx + 8) (S := d.states) hc rfl rfl rfl rfl rfl g4 g24 (by omega) (hS.sub hs4o (RState.sub hs4o)) f2 f3 (hf4.mono (by omega)) (fun k hk => by
    rcases List.mem_cons.1 hk with rfl | hk
    · omega
    · have := hX0 k hk; omega) fun e5 h5 n5 sv5 u2 u3 hn5 hf5 hk5 g5 hsv5 hS5 => ?_
  refine exP_e (beqP_t ?_)
  have g25 := hk5 _ _ g24 (by simp)
  have hj1 : ∀ (e6 : Env), e6 2 = ptr (nx + 1) → e6 3 = ptr (nx + 8) → exec_copied_j1 ro K e6 h5 n5 := by
    intro e6 v2 v3
    unfold exec_copied_j1
    rw [v2, v3]
    refine bindP_mk (loadA_all g5 (autL_len hc)) ?_
    refine bindP_mk (storeA_own (l := autZ) (vs := autL d.c d.many cv' sv5) g25 rfl (autL_len hc) autZ_len (autL_ok ho3.ok hsv5)) ?_
    refine bindP_mk (loadA_all (l := autL d.c d.many cv' sv5) (by rw [T.get_upd_same]) (autL_len hc)) ?_
    have hk6 : Keep [nx + 1] h5 (h5.upd (nx + 1) (some (.cells (autL d.c d.many cv' sv5).toArray y_api_Auto))) := (Sub.refl h5).keepL.upd (by simp)
    have hf6 : Fr (h5.upd (nx + 1) (some (.cells (autL d.c d.many cv' sv5).toArray y_api_Auto))) n5 := hf5.upd (Nat.le_refl _) (by have := hf5.lt' g25; omega)
    generalize h5.upd (nx + 1) (some (.cells (autL d.c d.many cv' sv5).toArray y_api_Auto)) = h6 at hk6 hf6
    have hd6 : Sub (del h5 ((nx + 8) :: (nx + 1) :: X0)) (del h6 X0) := fun k o hk => by
      have h9 := (hk6.delS (l := (nx + 8) :: (nx + 1) :: X0) fun k hk => by simp at hk; simp [hk]) k o hk
      rw [del_get] at hk
      split at hk
      · cases hk
      · rename_i hn; exact del_some h9 fun hm => hn (by simp [hm])
    have ho6 : OwnT h6 cv' 2 y_a2_int (cntC d.counts) (nx + 10) := ((ho3.keepK (ids := [nx + 8]) (h' := h4) (fun k o hk hn => by rw [hk4 k (by simpa using hn)]; exact hk) fun id hid hm => by have := (ho3.blk hid).1; simp at hm; omega).keepK hk5 fun id hid hm => by have := (ho3.blk hid).1; simp at hm; omega).keepK hk6 fun id hid hm => by have := (ho3.blk hid).1; simp at hm; omega
    refine ⟨h6, Sub.refl _, hK cv' sv5 h6 _ (by omega) (hf6.mono (by omega)) (fun k o hk => ?_) ⟨cv', sv5, rfl, hc, hclt, cnt_R (ho6.del fun id hid hm => by have := (ho6.blk hid).1; have := hX0 id hm; omega), hS5.sub hd6 (RState.sub hd6), hb1, by show (d.states.map erS).length ≤ _; rw [List.length_map]; exact hb2⟩⟩
    have := hf.lt' hk
    exact hk6 k o (hk5 k o (hs4 k o hk) (by simp; omega)) (by simp; omega)
  exact hj1 _ u2 u3
end
def zMac : List Value := machL (List.replicate 256 0) 0 nilS nilS 0 nilS 0
theorem zer_MacE : zer Tryz.prog y_exec_Machine = some (.agg zMac.toArray) := by kernel_rfl
theorem fill_Mac {c : List Nat} {n : Int} {cv sv : Value} {pl : List (Nat × Nat)} (hp : pl[0]? = some (0, 259)) (hc : c.length = 256) : fillV (pl[·]?) zMac [(0, .agg (autL c n cv sv).toArray)] = some (machL c n cv sv 0 nilS 0) := by
  have h0 : zMac.length = 262 := machL_len List.length_replicate
  have e1 : Nat.beq (Value.agg (autL c n cv sv).toArray).cells.size 259 = true := by rw [Value.cells_agg]; simp [autL_len hc]
  have e2 : Nat.ble (0 + 259) zMac.length = true := by rw [h0]; rfl
  have o1 : over zMac 0 (Value.agg (autL c n cv sv).toArray).cells.toList = machL c n cv sv 0 nilS 0 := by
    rw [Value.cells_agg]
    exact over_pre (by rw [autL_len hc, autL_len List.length_replicate])
  simp only [fillV, hp, Option.bind, e1, e2, o1]
theorem build_MacE {c : List Nat} {n : Int} {cv sv : Value} (hc : c.length = 256) : buildV Tryz.prog y_exec_Machine [(0, .agg (autL c n cv sv).toArray)] = some (.agg (machL c n cv sv 0 nilS 0).toArray) := by
  obtain ⟨fs, h1, h2⟩ := st_fs (P := Tryz.prog) (t := y_exec_Machine) (pl := [(0, 259), (259, 1), (260, 1), (261, 1)]) (by kernel_rfl)
  exact buildV_st zer_MacE h1 h2 (fill_Mac rfl hc)
theorem lit_pE (aid q : Nat) : sliceLitV Tryz.prog y_s_p_ring_Ring aid 1 [(0, ptr q)] = some (.slice (some (own aid 1)) 1 1, some (.cells [ptr q].toArray y_p_ring_Ring)) := by kernel_rfl
theorem und_spE : und Tryz.prog y_s_p_ring_Ring = some (.slice y_p_ring_Ring) := by kernel_rfl
theorem tin_pE : ∃ i, tin Tryz.prog y_p_ring_Ring = some i ∧ i.size = 1 ∧ i.bytes = 8 := tinOf (by kernel_rfl)
theorem zer_pE : zer Tryz.prog y_p_ring_Ring = some (.pointer none) := by kernel_rfl
theorem ptrsC_snoc (ps : List (Nat × Nat)) (q : Nat × Nat) : ptrsC (ps ++ [q]) = ptrsC ps ++ [[ptr q.1]] := by simp [ptrsC]
end V
end Go.Proofs.YtjndkdmkecpllaaGreat
set_option linter.unusedVariables false
set_option linter.unusedSimpArgs false
namespace Go.Proofs.YtjndkdmkecpllaaGreat
namespace V
attribute [local irreducible] bindP ifP condP newP optP exP beqP
def NI (RR : RgP) (tm tp te : TypeId) (hC : T Obj) (nC p : Nat) (c : List Nat) (many : Int) (cv sv : Value) (C : List (Int × Int)) (k : Nat) (h : T Obj) (nx : Nat) (ps : List (Nat × Nat)) (rv : Value) : Prop :=
  h.get p = some (.cells (machL c many cv sv 0 rv 0).toArray tm) ∧ OwnT h rv 1 te (ptrsC ps) nC ∧ ps.length = k ∧ RsX RR h ps (C.take k) (List.replicate k noR) ∧ Dst ps ∧ (∀ q ∈ blks ps, nC ≤ q) ∧ Sub hC h ∧ Fr h nx ∧ Fr hC nC ∧ nC ≤ p ∧ nC ≤ nx
section
variable {RR : RgP} {tm tp ta te : TypeId} {ro : Ro} {hC h h' : T Obj} {nC p nx n1 n2 k : Nat} {c : List Nat} {many : Int} {cv sv rv : Value} {C : List (Int × Int)} {ps : List (Nat × Nat)}
theorem NI.mono {n' : Nat} (hi : NI RR tm tp te hC nC p c many cv sv C k h nx ps rv) (hn : nx ≤ n') : NI RR tm tp te hC nC p c many cv sv C k h n' ps rv := by
  obtain ⟨g1, g2, g3, g4, g5, g6, g7, g8, g9, g10, g11⟩ := hi
  exact ⟨g1, g2, g3, g4, g5, g6, g7, g8.mono hn, g9, g10, by omega⟩
theorem NI.sub {n' : Nat} (hk : RgOk RR tp ta) (hi : NI RR tm tp te hC nC p c many cv sv C k h nx ps rv) (hs : Sub h h') (hf : Fr h' n') (hn : nx ≤ n') : NI RR tm tp te hC nC p c many cv sv C k h' n' ps rv := by
  obtain ⟨g1, g2, g3, g4, g5, g6, g7, g8, g9, g10, g11⟩ := hi
  exact ⟨hs _ _ g1, g2.keepS hs, g3, g4.sub hk hs, g5, g6, g7.trans hs, hf, g9, g10, by omega⟩
theorem NI.step {q : Nat × Nat} {cc : Int × Int} {rv2 : Value} {lo : Nat} (hk : RgOk RR tp ta) (e1 : tp ≠ te) (e2 : ta ≠ te) (e3 : tm ≠ tp) (e4 : tm ≠ ta) (e5 : tm ≠ te) (hi : NI RR tm tp te hC nC p c many cv sv C k h nx ps rv) (hcl : c.length = 256) (hc : C[k]? = some cc) (hR : RR h q.1 q.2 cc.2.toNat [] 0) (hq1 : ∀ r ∈ ps, r.1 < q.1 ∧ r.2 < q.2) (hq2 : nC ≤ q.1 ∧ nC ≤ q.2) (hn1 : n1 ≠ p ∧ (∀ r ∈ ps ++ [q], r.1 ≠ n1 ∧ r.2 ≠ n1) ∧ nC ≤ n1)
    (ho : OwnT h' rv2 1 te (ptrsC ps ++ [[ptr q.1]]) nC) (hsb : sblk rv2 = some n2) (hn2 : nx ≤ n2) (hg : ∀ k o, h.get k = some o → k ≠ n1 → sblk rv ≠ some k → h'.get k = some o) (hf : Fr h' (n2 + 1)) :
    NI RR tm tp te hC nC p c many cv sv C (k + 1) (h'.upd p (some (.cells (machL c many cv sv 0 rv2 0).toArray tm))) (n2 + 1) (ps ++ [q]) rv2 := by
  obtain ⟨g1, g2, g3, g4, g5, g6, g7, g8, g9, g10, g11⟩ := hi
  have hp := g8.lt' g1
  have hr := g4.snoc hR (r := noR)
  have hgk : ∀ {k : Nat} {cs : Array Value} {e : TypeId}, h.get k = some (.cells cs e) → e ≠ te → k ≠ n1 → h'.get k = some (.cells cs e) := fun hk9 he hne => hg _ _ hk9 hne (g2.ne hk9 he)
  have hgp : h'.get p = some (.cells (machL c many cv sv 0 rv 0).toArray tm) := hgk g1 e5 (Ne.symm hn1.1)
  have hty := hr.ty hk
  refine ⟨T.get_upd_same _ _ _, ?_, by simp [g3], ?_, g5.snoc fun r hr => ?_, fun k hk => ?_, fun k o hk => ?_, hf.upd (Nat.le_refl _) (by omega), g9, g10, by omega⟩
  · rw [ptrsC_snoc]
    exact ho.keepK (ids := [p]) (fun k o hk hn => by rw [T.get_upd_ne _ _ (by simpa using hn)]; exact hk) fun id hid hm => by rw [hsb] at hid; cases hid; simp at hm; omega
  · rw [List.take_succ_eq_append_getElem (List.getElem?_eq_some_iff.1 hc).1, (List.getElem?_eq_some_iff.1 hc).2, List.replicate_succ']
    refine hr.keep hk fun r hr9 => ?_
    obtain ⟨⟨c1, t1⟩, c2, t2⟩ := hty r hr9
    rw [T.get_upd_ne _ _ (fun e => by rw [e, g1] at t1; simp only [Option.some.injEq, Obj.cells.injEq] at t1; exact e3 t1.2.1), T.get_upd_ne _ _ (fun e => by rw [e, g1] at t2; simp only [Option.some.injEq, Obj.cells.injEq] at t2; exact e4 t2.2.1), hgk t1 e1 (hn1.2.1 r hr9).1, hgk t2 e2 (hn1.2.1 r hr9).2, t1, t2]
    exact ⟨rfl, rfl⟩
  · have := hq1 r hr; omega
  · obtain ⟨r, hr, h9⟩ := mem_blks.1 hk
    rcases List.mem_append.1 hr with hr | hr
    · exact g6 k (mem_blks.2 ⟨r, hr, h9⟩)
    · simp at hr; subst hr; omega
  · have hlt := g9.lt' hk
    have h9 := g7 k o hk
    rw [T.get_upd_ne _ _ (by omega)]
    refine hg k o h9 (by have := hn1.2.2; omega) fun e => ?_
    have := (g2.blk e).1
    omega
theorem NI.fin {d : AutoD} (hk : RgOk RR tp ta) (e1 : tp ≠ te) (e2 : ta ≠ te) (e5 : tm ≠ te) {X0 : List Nat} (hX0 : ∀ k ∈ X0, k < nC) (hi : NI RR tm tp te hC nC p d.c d.many cv sv d.counts d.counts.length h nx ps rv) (hA : RAuto ro (del hC X0) (autL d.c d.many cv sv) d) : MX RR tm ro h (X0 ++ (p :: blks ps)) p ps d (newM d) := by
  obtain ⟨g1, g2, g3, g4, g5, g6, g7, g8, g9, g10, g11⟩ := hi
  have hX : ∀ k ∈ p :: blks ps, nC ≤ k := fun k hk => by
    rcases List.mem_cons.1 hk with rfl | hk
    · exact g10
    · exact g6 k hk
  have hrs : (newM d).rs = List.replicate d.counts.length noR := List.map_const' ..
  rw [List.take_length] at g4
  have hsub : Sub (del hC X0) (del h (X0 ++ (p :: blks ps))) := fun k o hk => by
    rw [del_get] at hk
    split at hk
    · cases hk
    · rename_i hn
      have := g9.lt' hk
      exact del_some (g7 k o hk) fun hm => by
        rcases List.mem_append.1 hm with hm | hm
        · exact hn hm
        · have := hX k hm; omega
  refine ⟨cv, sv, rv, g1, hA.sub hsub, (g2.del fun id hid hm => ?_).sl, by rw [hrs]; exact g4, g5, List.mem_append.2 (.inr (List.mem_cons_self ..)), fun k hk => List.mem_append.2 (.inr (List.mem_cons_of_mem _ hk))⟩
  rcases List.mem_append.1 hm with hm | hm
  · have := hX0 id hm; have := (g2.blk hid).1; omega
  rcases List.mem_cons.1 hm with rfl | hm
  · exact g2.ne g1 e5 hid
  · obtain ⟨r, hr, h9⟩ := mem_blks.1 hm
    obtain ⟨⟨c1, t1⟩, c2, t2⟩ := g4.ty hk r hr
    rcases h9 with rfl | rfl
    · exact g2.ne t1 e1 hid
    · exact g2.ne t2 e2 hid
end
section
variable {ro : Ro} {h : T Obj} {nx : Nat} {K : KV} {x : List Value} {d : AutoD}
theorem cnt_bounds (ha : autoOk d = true) {k : Nat} (hk : k < d.counts.length) : 1 ≤ (d.counts[k]).2.toNat ∧ (d.counts[k]).2.toNat ≤ 4096 ∧ ((d.counts[k]).2.toNat : Int) = (d.counts[k]).2 := by
  have := (autoOk_parts ha).2.2.2.2.1 _ (List.getElem_mem hk)
  omega
set_option maxRecDepth 8000 in
set_option maxHeartbeats 1000000 in
theorem exec_New_x {X0 : List Nat} (hf : Fr h nx) (hd : RAuto ro h x d) (hK0 : autoOk d = false → ∀ nx', nx ≤ nx' → K (.tuple #[.pointer none, .int .i64 1]) h nx')
    (hX0 : ∀ k ∈ X0, k < nx)
    (hK1 : autoOk d = true → ∀ p ps X h' nx', nx ≤ nx' → Fr h' nx' → Sub h h' → (∀ k ∈ X, nx ≤ k ∧ k < nx') → X = p :: blks ps → MI ro h' (X0 ++ X) p ps (er d) (newM d) → K (.tuple #[ptr p, .int .i64 0]) h' nx') : callP Tryz.prog ro i_exec_New [.agg x.toArray] h nx K := by
  obtain ⟨cv, sv, hxe, hc, hclt, hcv, hS, hb1, hb2⟩ := id hd
  have m7 := autL_counts (n := d.many) (cv := cv) (sv := sv) hc
  apply exec_New_of
  unfold exec_New
  refine param_mk hf (Nat.le_refl _) fun h1 hs1 hf1 g1 _ => ?_
  have g1 : h1.get nx = some (.cells x.toArray y_api_Auto) := g1
  have hxl : x.length = 259 := by rw [hxe]; exact autL_len hc
  have LA := loadA_all (ro := ro) (z := 0) (n := 259) (l := x) g1 hxl
  refine bindP_mk LA ?_
  refine auto_Right_c (hf1.mono (by omega)) (hd.sub hs1) fun n1 hn1 => ?_
  cases hok : autoOk d with
  | false =>
    (repeat (first | refine bindP_mk (by simp (disch := first | omega | exact Int.natCast_nonneg _ | assumption) only [BB, B2, ↓reduceIte, Nat.reduceLeDiff, Nat.reduceAdd, CC] <;> rfl) ?_ | refine newP_mk ?_ | refine optP_mk ?_ | with_reducible first | refine condP_t ?_ | refine condP_f ?_ | refine ifP_tt' ?_ | refine ifP_ff' ?_ | refine ifP_tf' ?_ | refine ifP_ft' ?_ | refine ifP_u' ?_ | refine optP_mk0 ?_))
    exact ⟨h, hs1, hK0 hok _ (by omega)⟩
  | true =>
    have hfit := ok_fit hok hc
    have hC512 := (autoOk_parts hok).2.1
    (repeat (first | refine bindP_mk (by simp (disch := first | omega | exact Int.natCast_nonneg _ | assumption) only [BB, B2, ↓reduceIte, Nat.reduceLeDiff, Nat.reduceAdd, CC] <;> rfl) ?_ | refine newP_mk ?_ | refine optP_mk ?_ | with_reducible first | refine condP_t ?_ | refine condP_f ?_ | refine ifP_tt' ?_ | refine ifP_ff' ?_ | refine ifP_tf' ?_ | refine ifP_ft' ?_ | refine ifP_u' ?_ | refine optP_mk0 ?_))
    refine bindP_mk LA ?_
    refine exec_copied_c (X0 := X0) (hf1.mono (by omega)) (fun k hk => by have := hX0 k hk; omega) (hd.sub hs1) hfit fun cv2 sv2 hC nC hnC hfC hsC hAC => ?_
    refine bindP_mk (build_MacE hc) (obj_mk hfC (by omega) fun h2 hs2 hf2 g2 _ => ?_)
    have g2 : h2.get (nC + 1) = some (.cells (machL d.c d.many cv2 sv2 0 nilS 0).toArray y_exec_Machine) := g2
    have g12 := hs2 _ _ (hsC _ _ g1)
    have hcv2 := hcv.sub ((hs1.trans hsC).trans hs2) fun _ _ h => h
    (repeat (first | refine bindP_mk (by simp (disch := first | omega | exact Int.natCast_nonneg _ | assumption) only [BB, B2, ↓reduceIte, Nat.reduceLeDiff, Nat.reduceAdd, CC] <;> rfl) ?_ | refine newP_mk ?_ | refine optP_mk ?_ | with_reducible first | refine condP_t ?_ | refine condP_f ?_ | refine ifP_tt' ?_ | refine ifP_ff' ?_ | refine ifP_tf' ?_ | refine ifP_ft' ?_ | refine ifP_u' ?_ | refine optP_mk0 ?_))
    refine bindP_mk (load1_get g12 (by rw [hxe]; exact m7)) ?_
    refine bindP_mk hcv2.len ?_
    have hNI0 : NI RI y_exec_Machine y_ring_Ring y_p_ring_Ring hC nC (nC + 1) d.c d.many cv2 sv2 d.counts 0 h2 (nC + 2) [] nilS := ⟨g2, OwnT.nil, rfl, ⟨rfl, rfl, fun i p c r hp => by simp at hp⟩, Dst.nil, (fun q hq => by simp [blks] at hq), hs2, hf2, hfC, by omega, by omega⟩
    refine loopP_rule (fun j e h' nx' => ∃ (k : Nat) (ps : List (Nat × Nat)) (rv : Value), k + j = d.counts.length ∧ nC + 2 ≤ nx' ∧ e 4 = ptr (nC + 1) ∧ e 17 = cv ∧ e 18 = .int .i64 d.counts.length ∧ e 19 = .int .i64 k ∧ NI RI y_exec_Machine y_ring_Ring y_p_ring_Ring hC nC (nC + 1) d.c d.many cv2 sv2 d.counts k h' nx' ps rv) ?_ (n := d.counts.length) ⟨0, [], nilS, by omega, by omega, rfl, rfl, rfl, rfl, hNI0.mono (by omega)⟩
    rintro j e h' nx' ⟨k, ps, rv, hj, hnx, e4, e17, e18, e19, hi⟩ Q' hq hx
    have hfh := hi.2.2.2.2.2.2.2.1
    have hsh := hi.2.2.2.2.2.2.1
    unfold exec_New_L1
    rw [e4, e17, e18, e19]
    refine lss_s (fun hk => ?_) (fun hk => ?_)
    · have hk : k < d.counts.length := by omega
      obtain ⟨b1, b2, b3⟩ := cnt_bounds hok hk
      have hcvh := hcv.sub ((hs1.trans hsC).trans hsh) fun _ _ h => h
      have hix := hcvh.ix .i64 hk
      obtain ⟨y, hy1, hy2, hy3, hy4, hy5⟩ := hcvh.at hk
      have hck : d.counts[k]? = some d.counts[k] := List.getElem?_eq_getElem _
      generalize d.counts[k] = cc at b1 b2 b3 hy1 hck
      obtain rfl : y = [.int .i64 cc.1, .int .i64 cc.2] := hy1
      (repeat (first | refine bindP_mk (by simp (disch := first | omega | exact Int.natCast_nonneg _ | assumption) only [BB, B2, ↓reduceIte, Nat.reduceLeDiff, Nat.reduceAdd, CC] <;> rfl) ?_ | refine newP_mk ?_ | refine optP_mk ?_ | with_reducible first | refine condP_t ?_ | refine condP_f ?_ | refine ifP_tt' ?_ | refine ifP_ff' ?_ | refine ifP_tf' ?_ | refine ifP_ft' ?_ | refine ifP_u' ?_ | refine optP_mk0 ?_))
      refine bindP_mk hix (bindP_mk hy3 ?_)
      refine local_mk (x := [.int .i64 cc.1, .int .i64 cc.2]) zer_a2 rfl rfl rfl rfl hfh (by omega) fun h3 hs3 hf3 g3 _ => ?_
      (repeat (first | refine bindP_mk (by simp (disch := first | omega | exact Int.natCast_nonneg _ | assumption) only [BB, B2, ↓reduceIte, Nat.reduceLeDiff, Nat.reduceAdd, CC, g3] <;> rfl) ?_ | refine newP_mk ?_ | refine optP_mk ?_ | with_reducible first | refine condP_t ?_ | refine condP_f ?_ | refine ifP_tt' ?_ | refine ifP_ff' ?_ | refine ifP_tf' ?_ | refine ifP_ft' ?_ | refine ifP_u' ?_ | refine optP_mk0 ?_))
      rw [← b3]
      refine ring_New_c (hf3.mono (by omega)) b1 b2 fun p' a' h4 n4 hp' ha' hn4 hs4 hf4 hR4 => ?_
      refine bindP_mk (nth0 _ _) (bindP_mk (nth1 _ _) ?_)
      have hi4 := hi.sub (n' := n4) RI_ok (hs3.trans hs4) hf4 (by omega)
      have m0 := machL_260 (n := d.many) (cv := cv2) (sv := sv2) (cur := 0) (rv := rv) (steps := 0) hc
      refine neq_f rfl ?_
      (repeat (first | refine bindP_mk (by simp (disch := first | omega | exact Int.natCast_nonneg _ | assumption) only [BB, B2, ↓reduceIte, Nat.reduceLeDiff, Nat.reduceAdd, CC, nilCk_at] <;> rfl) ?_ | refine newP_mk ?_ | refine optP_mk ?_ | with_reducible first | refine condP_t ?_ | refine condP_f ?_ | refine ifP_tt' ?_ | refine ifP_ff' ?_ | refine ifP_tf' ?_ | refine ifP_ft' ?_ | refine ifP_u' ?_ | refine optP_mk0 ?_))
      refine bindP_mk (load1_get hi4.1 m0) ?_
      obtain ⟨i, t1, t2, t3⟩ := tin_pE
      have hplen : ps.length ≤ 1000000 := by have := hi.2.2.1; omega
      refine app_at (z := 1) (l := ptrsC ps) (y := [ptr p']) (lit_pE _ _) rfl hi4.2.1 und_spE t1 (by omega) (by omega) zer_pE rfl rfl (by rw [ptrsC_len, t3]; unfold big; omega) (by rw [ptrsC_len]; unfold big; omega) (hf4.mono (by omega)) (by omega) (by omega) (fun e => by have := hf4.lt' (hi4.2.1.blk e).2; omega) fun h5 ho5 hk5 hf5 => ?_
      generalize hnv : Value.slice (some (own (n4 + 15) 1)) (ptrsC ps ++ [[ptr p']]).length (ptrsC ps ++ [[ptr p']]).length = rv2 at ho5
      have hsb : sblk rv2 = some (n4 + 15) := by rw [← hnv]; rfl
      have g5 := hk5 _ _ hi4.1 (by have := hf4.lt' hi4.1; omega) (hi4.2.1.ne hi4.1 (by decide))
      have hlt4 := hi.2.2.2.1.lt RI_ok hfh
      have hfin := hi4.step (h' := h5) (q := (p', a')) (cc := cc) (rv2 := rv2) (n1 := n4 + 13) (n2 := n4 + 15) (lo := nC) RI_ok (by decide) (by decide) (by decide) (by decide) (by decide) hc hck hR4 (fun r hr => by have := hlt4 r hr; show r.1 < p' ∧ r.2 < a'; omega) (by show nC ≤ p' ∧ nC ≤ a'; omega) ⟨by have := hf4.lt' hi4.1; omega, fun r hr => by
        rcases List.mem_append.1 hr with hr | hr
        · have := hlt4 r hr; omega
        · simp at hr; subst hr; have := RI_ok.p hR4; have := RI_ok.a hR4; obtain ⟨c1, t8⟩ := RI_ok.p hR4; obtain ⟨c2, t9⟩ := RI_ok.a hR4; have := hf4.lt' t8; have := hf4.lt' t9; show p' ≠ _ ∧ a' ≠ _; omega, by omega⟩ ho5 hsb (by omega) hk5 hf5
      dsimp only
      (repeat (first | refine bindP_mk (by simp (disch := first | omega | exact Int.natCast_nonneg _ | assumption) only [BB, B2, ↓reduceIte, Nat.reduceLeDiff, Nat.reduceAdd, CC, nilCk_at] <;> rfl) ?_ | refine newP_mk ?_ | refine optP_mk ?_ | with_reducible first | refine condP_t ?_ | refine condP_f ?_ | refine ifP_tt' ?_ | refine ifP_ff' ?_ | refine ifP_tf' ?_ | refine ifP_ft' ?_ | refine ifP_u' ?_ | refine optP_mk0 ?_))
      refine bindP_mk (store1_own g5 (by rw [machL_len hc]; omega) ho5.ok (by rw [← hnv]; rfl)) ?_
      rw [machL_set260 hc]
      (repeat (first | refine bindP_mk (by simp (disch := first | omega | exact Int.natCast_nonneg _ | assumption) only [BB, B2, ↓reduceIte, Nat.reduceLeDiff, Nat.reduceAdd, CC] <;> rfl) ?_ | refine newP_mk ?_ | refine optP_mk ?_ | with_reducible first | refine condP_t ?_ | refine condP_f ?_ | refine ifP_tt' ?_ | refine ifP_ff' ?_ | refine ifP_tf' ?_ | refine ifP_ft' ?_ | refine ifP_u' ?_ | refine optP_mk0 ?_))
      exact hq (j - 1) _ _ _ _ (by omega) ⟨k + 1, ps ++ [(p', a')], rv2, by omega, by omega, e4, e17, e18, rfl, hfin.mono (by omega)⟩ (Sub.refl _)
    · (repeat (first | refine bindP_mk (by simp (disch := first | omega | exact Int.natCast_nonneg _ | assumption) only [BB, B2, ↓reduceIte, Nat.reduceLeDiff, Nat.reduceAdd, CC] <;> rfl) ?_ | refine newP_mk ?_ | refine optP_mk ?_ | with_reducible first | refine condP_t ?_ | refine condP_f ?_ | refine ifP_tt' ?_ | refine ifP_ff' ?_ | refine ifP_tf' ?_ | refine ifP_ft' ?_ | refine ifP_u' ?_ | refine optP_mk0 ?_))
      refine hx _ _ _ _ (fun e => by cases e) (exP_e (beqP_t ?_))
      obtain rfl : k = d.counts.length := by omega
      have hMX := NI.fin (ro := ro) (d := er d) (X0 := X0) RI_ok (by decide) (by decide) (by decide) (fun k hk => by have := hX0 k hk; omega) hi hAC
      have hend : ∀ (e' : Env) n', e' 4 = ptr (nC + 1) → nx' ≤ n' → exec_New_j1 ro K e' h' n' := by
        intro e' n' f4 hn'
        unfold exec_New_j1
        rw [f4]
        refine ⟨h', Sub.refl _, hK1 hok _ ps _ h' _ (by omega) (hfh.mono (by omega)) ((hs1.trans hsC).trans hsh) (fun k hk => ?_) rfl hMX⟩
        have hlt9 := hMX.lt RI_ok hfh
        rcases List.mem_cons.1 hk with rfl | hk
        · have := hlt9.1; omega
        · have := hi.2.2.2.2.2.1 k hk; have := hlt9.2 k hk; omega
      exact hend _ _ e4 (by omega)
theorem exec_New_c {X0 : List Nat} (hf : Fr h nx) (hd : RAuto ro h x d) (hK0 : autoOk d = false → ∀ nx', nx ≤ nx' → K (.tuple #[.pointer none, .int .i64 1]) h nx') (hX0 : ∀ k ∈ X0, k < nx)
    (hK1 : autoOk d = true → ∀ p ps X h' nx', nx ≤ nx' → Fr h' nx' → Sub h h' → (∀ k ∈ X, nx ≤ k ∧ k < nx') → MI ro h' (X0 ++ X) p ps (er d) (newM d) → K (.tuple #[ptr p, .int .i64 0]) h' nx') : callP Tryz.prog ro i_exec_New [.agg x.toArray] h nx K :=
  exec_New_x hf hd hK0 hX0 fun h1 p ps X h' n' h2 h3 h4 h5 _ h6 => hK1 h1 p ps X h' n' h2 h3 h4 h5 h6
end
end V
end Go.Proofs.YtjndkdmkecpllaaGreat
set_option linter.unusedVariables false
set_option linter.unusedSimpArgs false
namespace Go.Proofs.YtjndkdmkecpllaaGreat
namespace V
attribute [local irreducible] bindP ifP condP newP optP exP beqP
def autD0 : AutoD := ⟨List.replicate 256 0, 0, [], []⟩
theorem autD0_R {ro : Ro} {h : T Obj} : RAuto ro h autZ autD0 := ⟨nilS, nilS, rfl, List.length_replicate, fun x hx => by
  have := (List.mem_replicate.1 hx).2
  omega, SlR.nil, SlR.nil, Nat.zero_le _, Nat.zero_le _⟩
def bigC (c : Int × Int) : Bool := decide (200 < c.2)
def fewA (d : AutoD) : AutoD := if d.counts.any bigC = true then autD0 else if 60 < d.states.length then autD0 else d
section
variable {ro : Ro} {h : T Obj} {nx : Nat} {K : KV}
set_option maxRecDepth 8000 in
theorem law13_few_c {x : List Value} {d : AutoD} (hf : Fr h nx) (hd : RAuto ro h x d) (hK : ∀ x' nx', nx ≤ nx' → RAuto ro h x' (fewA d) → K (.agg x'.toArray) h nx') : callP Tryz.prog ro i_law13_few [.agg x.toArray] h nx K := by
  obtain ⟨cv, sv, hxe, hc, hclt, hcv, hS, hb1, hb2⟩ := id hd
  have hb1 : d.counts.length ≤ 9223372036854775807 := hb1
  have m7 := autL_counts (n := d.many) (cv := cv) (sv := sv) hc
  have m8 := autL_states (n := d.many) (cv := cv) (sv := sv) hc
  apply law13_few_of
  unfold law13_few
  refine param_mk hf (Nat.le_refl _) fun h1 hs1 hf1 g1 _ => ?_
  have g1 : h1.get nx = some (.cells x.toArray y_api_Auto) := g1
  rw [hxe] at g1
  refine bindP_mk zer_Auto ?_
  refine obj_mk hf1 (Nat.le_refl _) fun h2 hs2 hf2 g2 _ => ?_
  have g2 : h2.get (nx + 1) = some (.cells autZ.toArray y_api_Auto) := g2
  have g12 := hs2 _ _ g1
  have hs12 := hs1.trans hs2
  have hcl := (hcv.sub hs12 fun _ _ h => h).len
  unfold fewA at hK
  -- nothing of it, or all
  have hno : ∀ (e' : Env) h' n', (if d.counts.any bigC = true then autD0 else if 60 < d.states.length then autD0 else d) = autD0 → e' 2 = ptr (nx + 1) → h'.get (nx + 1) = some (.cells autZ.toArray y_api_Auto) → Sub h h' → nx ≤ n' → bindP (loadA ro h' 259 (e' 2)) fun r36 => ∃ h37, Sub h37 h' ∧ K r36 h37 n' := by
    intro e' h' n' he u2 g hs hn
    rw [u2]
    refine bindP_mk (loadA_all g autZ_len) ⟨h, hs, hK autZ _ hn (by rw [he]; exact autD0_R)⟩
  (repeat (first | refine bindP_mk (by simp (disch := first | omega | exact Int.natCast_nonneg _ | assumption) only [BB, B2, ↓reduceIte, Nat.reduceLeDiff, Nat.reduceAdd, CC] <;> rfl) ?_ | refine newP_mk ?_ | refine optP_mk ?_ | with_reducible first | refine condP_t ?_ | refine condP_f ?_ | refine ifP_tt' ?_ | refine ifP_ff' ?_ | refine ifP_tf' ?_ | refine ifP_ft' ?_ | refine ifP_u' ?_ | refine optP_mk0 ?_))
  refine bindP_mk (load1_get g12 m7) (bindP_mk hcl ?_)
  generalize hB : d.counts.any bigC = B at hK hno
  refine loopP_rule (fun j e h' nx' => ∃ (k : Nat), k + j = d.counts.length ∧ nx + 2 ≤ nx' ∧ e 1 = ptr nx ∧ e 2 = ptr (nx + 1) ∧ e 6 = cv ∧ e 7 = .int .i64 d.counts.length ∧ e 8 = .int .i64 k ∧ Sub h2 h' ∧ Fr h' nx' ∧ (d.counts.drop k).any bigC = B) ?_ (n := d.counts.length) ⟨0, by omega, by omega, rfl, rfl, rfl, rfl, rfl, Sub.refl _, hf2.mono (by omega), hB⟩
  rintro j e h' nx' ⟨k, hj, hnx, e1, e2, e6, e7, e8, hs', hf', hr⟩ Q' hq hx
  have g2' := hs' _ _ g2
  unfold law13_few_L1
  rw [e2, e6, e7, e8]
  refine lss_s (fun hk => ?_) (fun hk => ?_)
  · have hk : k < d.counts.length := by omega
    rw [drop_cons hk, List.any_cons] at hr
    have hcv' := hcv.sub (hs12.trans hs') fun _ _ h => h
    have hix := hcv'.ix .i64 hk
    obtain ⟨y, hy1, hy2, hy3, hy4, hy5⟩ := hcv'.at hk
    generalize d.counts[k] = cc at hr hy1
    obtain rfl : y = [.int .i64 cc.1, .int .i64 cc.2] := hy1
    (repeat (first | refine bindP_mk (by simp (disch := first | omega | exact Int.natCast_nonneg _ | assumption) only [BB, B2, ↓reduceIte, Nat.reduceLeDiff, Nat.reduceAdd, CC] <;> rfl) ?_ | refine newP_mk ?_ | refine optP_mk ?_ | with_reducible first | refine condP_t ?_ | refine condP_f ?_ | refine ifP_tt' ?_ | refine ifP_ff' ?_ | refine ifP_tf' ?_ | refine ifP_ft' ?_ | refine ifP_u' ?_ | refine optP_mk0 ?_))
    refine bindP_mk hix (bindP_mk hy3 ?_)
    refine local_mk (x := [.int .i64 cc.1, .int .i64 cc.2]) zer_a2 rfl rfl rfl rfl hf' (by omega) fun h3 hs3 hf3 g3 _ => ?_
    have g23 := hs3 _ _ g2'
    (repeat (first | refine bindP_mk (by simp (disch := first | omega | exact Int.natCast_nonneg _ | assumption) only [BB, B2, ↓reduceIte, Nat.reduceLeDiff, Nat.reduceAdd, CC, g3] <;> rfl) ?_ | refine newP_mk ?_ | refine optP_mk ?_ | with_reducible first | refine condP_t ?_ | refine condP_f ?_ | refine ifP_tt' ?_ | refine ifP_ff' ?_ | refine ifP_tf' ?_ | refine ifP_ft' ?_ | refine ifP_u' ?_ | refine optP_mk0 ?_))
    refine gtr_s (fun hg => ?_) (fun hg => ?_)
    · have : bigC cc = true := decide_eq_true hg
      rw [this, Bool.true_or] at hr
      subst hr
      (repeat (first | refine bindP_mk (by simp (disch := first | omega | exact Int.natCast_nonneg _ | assumption) only [BB, B2, ↓reduceIte, Nat.reduceLeDiff, Nat.reduceAdd, CC] <;> rfl) ?_ | refine newP_mk ?_ | refine optP_mk ?_ | with_reducible first | refine condP_t ?_ | refine condP_f ?_ | refine ifP_tt' ?_ | refine ifP_ff' ?_ | refine ifP_tf' ?_ | refine ifP_ft' ?_ | refine ifP_u' ?_ | refine optP_mk0 ?_))
      refine bindP_mk build_Auto0 ?_
      refine bindP_mk (storeA_own (l := autZ) (vs := autZ) g23 rfl autZ_len autZ_len autZ_ok) ?_
      refine hx _ _ _ _ (fun e => by cases e) (exP_r ?_)
      refine hno _ _ _ (by simp) e2 (T.get_upd_same _ _ _) (fun k o hk => ?_) (by omega)
      have := hf.lt' hk
      rw [T.get_upd_ne _ _ (by omega)]; exact hs3 _ _ (hs' _ _ (hs12 _ _ hk))
    · have : bigC cc = false := decide_eq_false (by omega)
      rw [this, Bool.false_or] at hr
      (repeat (first | refine bindP_mk (by simp (disch := first | omega | exact Int.natCast_nonneg _ | assumption) only [BB, B2, ↓reduceIte, Nat.reduceLeDiff, Nat.reduceAdd, CC] <;> rfl) ?_ | refine newP_mk ?_ | refine optP_mk ?_ | with_reducible first | refine condP_t ?_ | refine condP_f ?_ | refine ifP_tt' ?_ | refine ifP_ff' ?_ | refine ifP_tf' ?_ | refine ifP_ft' ?_ | refine ifP_u' ?_ | refine optP_mk0 ?_))
      exact hq (j - 1) _ _ _ _ (by omega) ⟨k + 1, by omega, by omega, e1, e2, e6, e7, rfl, hs'.trans hs3, hf3.mono (by omega), hr⟩ (Sub.refl _)
  · (repeat (first | refine bindP_mk (by simp (disch := first | omega | exact Int.natCast_nonneg _ | assumption) only [BB, B2, ↓reduceIte, Nat.reduceLeDiff, Nat.reduceAdd, CC] <;> rfl) ?_ | refine newP_mk ?_ | refine optP_mk ?_ | with_reducible first | refine condP_t ?_ | refine condP_f ?_ | refine ifP_tt' ?_ | refine ifP_ff' ?_ | refine ifP_tf' ?_ | refine ifP_ft' ?_ | refine ifP_u' ?_ | refine optP_mk0 ?_))
    refine hx _ _ _ _ (fun e => by cases e) (exP_e (beqP_t ?_))
    rw [drop_all (by omega)] at hr
    have hr : false = B := hr
    subst hr
    have g1' := hs' _ _ g12
    have hsl := (hS.sub (hs12.trans hs') (RState.sub (hs12.trans hs'))).len
    have hj1 : ∀ (e' : Env) n', e' 1 = ptr nx → e' 2 = ptr (nx + 1) → nx ≤ n' → law13_few_j1 ro K e' h' n' := by
      intro e' n' u1 u2 hn
      unfold law13_few_j1
      rw [u1, u2]
      (repeat (first | refine bindP_mk (by simp (disch := first | omega | exact Int.natCast_nonneg _ | assumption) only [BB, B2, ↓reduceIte, Nat.reduceLeDiff, Nat.reduceAdd, CC] <;> rfl) ?_ | refine newP_mk ?_ | refine optP_mk ?_ | with_reducible first | refine condP_t ?_ | refine condP_f ?_ | refine ifP_tt' ?_ | refine ifP_ff' ?_ | refine ifP_tf' ?_ | refine ifP_ft' ?_ | refine ifP_u' ?_ | refine optP_mk0 ?_))
      refine bindP_mk (load1_get g1' m8) (bindP_mk hsl ?_)
      refine gtr_s (fun hg => ?_) (fun hg => ?_)
      · (repeat (first | refine bindP_mk (by simp (disch := first | omega | exact Int.natCast_nonneg _ | assumption) only [BB, B2, ↓reduceIte, Nat.reduceLeDiff, Nat.reduceAdd, CC] <;> rfl) ?_ | refine newP_mk ?_ | refine optP_mk ?_ | with_reducible first | refine condP_t ?_ | refine condP_f ?_ | refine ifP_tt' ?_ | refine ifP_ff' ?_ | refine ifP_tf' ?_ | refine ifP_ft' ?_ | refine ifP_u' ?_ | refine optP_mk0 ?_))
        refine bindP_mk build_Auto0 ?_
        refine bindP_mk (storeA_own (l := autZ) (vs := autZ) g2' rfl autZ_len autZ_len autZ_ok) ?_
        refine bindP_mk (loadA_all (l := autZ) (by rw [T.get_upd_same]) autZ_len) ?_
        refine ⟨h, fun k o hk => ?_, hK autZ _ (by omega) ?_⟩
        · have := hf.lt' hk
          rw [T.get_upd_ne _ _ (by omega)]; exact hs' _ _ (hs12 _ _ hk)
        · rw [if_neg (by decide), if_pos (by omega)]; exact autD0_R
      · (repeat (first | refine bindP_mk (by simp (disch := first | omega | exact Int.natCast_nonneg _ | assumption) only [BB, B2, ↓reduceIte, Nat.reduceLeDiff, Nat.reduceAdd, CC] <;> rfl) ?_ | refine newP_mk ?_ | refine optP_mk ?_ | with_reducible first | refine condP_t ?_ | refine condP_f ?_ | refine ifP_tt' ?_ | refine ifP_ff' ?_ | refine ifP_tf' ?_ | refine ifP_ft' ?_ | refine ifP_u' ?_ | refine optP_mk0 ?_))
        refine bindP_mk (loadA_all g1' (autL_len hc)) ?_
        refine bindP_mk (storeA_own (l := autZ) (vs := autL d.c d.many cv sv) g2' rfl (autL_len hc) autZ_len (autL_ok (SlR.okC hcv) (SlR.okC hS))) ?_
        refine bindP_mk (loadA_all (l := autL d.c d.many cv sv) (by rw [T.get_upd_same]) (autL_len hc)) ?_
        refine ⟨h, fun k o hk => ?_, hK (autL d.c d.many cv sv) _ (by omega) ?_⟩
        · have := hf.lt' hk
          rw [T.get_upd_ne _ _ (by omega)]; exact hs' _ _ (hs12 _ _ hk)
        · rw [if_neg (by decide), if_neg (by omega), ← hxe]; exact hd
    exact hj1 _ _ e1 e2 (by omega)
end
section
variable {ro : Ro} {h h' : T Obj} {X X' : List Nat} {p q : Nat} {ps qs qs' : List (Nat × Nat)} {d1 d2 : AutoD} {m1 m2 m2' : MacD} {nx n' : Nat}
end
end V
end Go.Proofs.YtjndkdmkecpllaaGreat
set_option linter.unusedVariables false
set_option linter.unusedSimpArgs false
namespace Go.Proofs.YtjndkdmkecpllaaGreat
namespace V
set_option maxRecDepth 1000000 in
theorem shown_orc : Orc Tryz.prog i_law13_shown (.bool true) := orc_ev okZ okN okM orcF_ok (k := 200) rfl (by kernel_rfl) fun ro => by kernel_rfl
theorem shown_c {ro : Ro} {h : T Obj} {nx : Nat} {K : KV} (hK : K (.bool true) h nx) : callP Tryz.prog ro i_law13_shown [] h nx K := callP_orc shown_orc hK
end V
end Go.Proofs.YtjndkdmkecpllaaGreat
set_option linter.unusedVariables false
set_option linter.unusedSimpArgs false
namespace Go.Proofs.YtjndkdmkecpllaaGreat
namespace V
attribute [local irreducible] callPre callP bindP
end V
end Go.Proofs.YtjndkdmkecpllaaGreat
set_option linter.unusedVariables false
set_option linter.unusedSimpArgs false
namespace Go.Proofs.YtjndkdmkecpllaaGreat
namespace V
attribute [local irreducible] bindP ifP condP newP optP exP beqP
theorem min_int (h : T Obj) (ts : Array TypeId) (a b : Int) : builtinQ Tryz.prog h .min ts [.int .i64 a, .int .i64 b] = some (.int .i64 (min a b)) := by
  unfold builtinQ
  simp only [minL_eq, minL, minB]
  by_cases e : b < a
  · simp only [e, decide_true]; congr 2; omega
  · simp only [e, decide_false]; congr 2; omega
theorem RAuto.len {ro : Ro} {h : T Obj} {x : List Value} {d : AutoD} (hd : RAuto ro h x d) : x.length = 259 := by
  obtain ⟨cv, sv, rfl, hc, _⟩ := hd; exact autL_len hc
theorem RAuto.okL {ro : Ro} {h : T Obj} {x : List Value} {d : AutoD} (hd : RAuto ro h x d) : x.all cellOk = true := by
  obtain ⟨cv, sv, rfl, hc, _, h1, h2, _⟩ := hd; exact autL_ok (SlR.okC h1) (SlR.okC h2)
theorem Sub.e' (h : T Obj) : Sub .e h := fun k o e => by rw [T.get_e] at e; cases e
theorem pNil (id off z : Nat) : ptrB .eql (at_ id off z) (.pointer none) = some (.bool false) := rfl
theorem pNil0 : ptrB .eql (.pointer none) (.pointer none) = some (.bool true) := rfl
section
variable {ro : Ro} {h : T Obj} {nx : Nat} {K : KV}
end
end V
end Go.Proofs.YtjndkdmkecpllaaGreat
set_option linter.unusedVariables false
set_option linter.unusedSimpArgs false
set_option maxRecDepth 8000
namespace Go.Proofs.YtjndkdmkecpllaaGreat
namespace V
open Go.ChangeShapes Go.WideShapes Go.ChangeAt Go.RowKit Go.Deep
set_option maxRecDepth 8000
section
variable {H : Type} {enc : TypeId × Value → H} {W : World}
def fieldsOf (P : Program) (t : TypeId) : Option (List (Nat × TypeId)) := match und P t with
  | some (.struct fs) => some (fs.toList.map fun f => (f.offset, f.type))
  | _ => none
theorem trod_fields {t : TypeId} {L : List (Nat × TypeId)} (hL : fieldsOf Tryz.prog t = some L) {fuel : Nat} {cs : List Value} {x : DataW H × List MemPlace} (h : DataW.trod enc Tryz.prog W 0 (fun _ => true) true fuel t cs = some x) :
    cs.length = Tryz.prog.cellsOf t ∧ ∃ n, ∀ (i o : Nat) (ty : TypeId), L[i]? = some (o, ty) → ∃ y, DataW.trod enc Tryz.prog W 0 (fun _ => true) true n ty ((cs.drop o).take (Tryz.prog.cellsOf ty)) = some y := by
  unfold fieldsOf at hL
  split at hL
  · rename_i fs hu
    cases hL
    obtain ⟨xs, n, _, _, hlen, hxs, hf⟩ := DataW.trod_struct (und_under hu) h
    refine ⟨hlen, n, fun i o ty hi => ?_⟩
    rw [List.getElem?_map] at hi
    cases hq : fs.toList[i]? with
    | none => rw [hq] at hi; cases hi
    | some f =>
      rw [hq] at hi
      cases hi
      have hfs : fs[i]? = some f := by simpa using hq
      have hil := (List.getElem?_eq_some_iff.1 hq).1
      have hx : xs[i]? = some (xs[i]'(by rw [hxs]; simpa using hil)) := List.getElem?_eq_getElem _
      exact ⟨_, by rw [hf i f hfs, hx]⟩
  · cases hL
theorem okWide_agg {t : TypeId} {L : List (Nat × TypeId)} (hL : fieldsOf Tryz.prog t = some L) {v : Value} {base : Nat} (hval : Value.okWide Tryz.prog W .any base t v) : ∃ cs, v = .agg cs := by
  unfold fieldsOf at hL
  split at hL
  · rename_i fs hu
    unfold Value.okWide at hval
    rw [und_under hu] at hval
    obtain ⟨cs, e, _⟩ := hval
    exact ⟨cs, e⟩
  · cases hL
theorem int_cell {n : Nat} {cs : List Value} {y : DataW H × List MemPlace} (h : DataW.trod enc Tryz.prog W 0 (fun _ => true) true n y_int cs = some y) : ∃ a : Int, cs = [.int .i64 a] := by
  have hu : Tryz.prog.underlying y_int = some (.int .i64) := by kernel_rfl
  obtain ⟨a, rfl, _⟩ := DataW.trod_int hu h
  exact ⟨a, rfl⟩
theorem u8_cell {n : Nat} {cs : List Value} {y : DataW H × List MemPlace} (h : DataW.trod enc Tryz.prog W 0 (fun _ => true) true n y_uint8 cs = some y) : ∃ a : Nat, cs = [.int .u8 (a : Int)] ∧ a < 256 := by
  have hu : Tryz.prog.underlying y_uint8 = some (.int .u8) := by kernel_rfl
  obtain ⟨a, rfl, _, hw⟩ := DataW.trod_int hu h
  have := wf_u8 hw
  exact ⟨a.toNat, by rw [Int.toNat_of_nonneg this.1], by omega⟩
theorem norm_len {N : Nat} {v v' : Value} {o : Option Addr} {l c : Nat} (hv : v = .slice o l c) (h : norm N v = some v') : lenSl v' = some (.int .i64 l) := by
  subst hv
  unfold norm at h
  split at h
  · rename_i h1
    cases h
    cases h1
    rfl
  · rename_i h1
    cases h1
    split at h
    · cases h; rfl
    · cases h
  · rename_i h1; cases h1
  · split at h
    · cases h; rfl
    · cases h
theorem open_slB {D : Type} {t e : TypeId} {z : Nat} {R : List Value → D → Prop} (ht : Tryz.prog.underlying t = some (.slice e)) (hz : Tryz.prog.cellsOf e = z) (hz0 : 0 < z) {fuel : Nat} {cs : List Value} {x : DataW H × List MemPlace} (h : DataW.trod enc Tryz.prog W 0 (fun _ => true) true fuel t cs = some x)
    (hel : ∀ n cs' y, DataW.trod enc Tryz.prog W 0 (fun _ => true) true n e cs' = some y → ∃ cs'', normL W.heap.size cs' = some cs'' ∧ ∃ d, R cs'' d) : ∃ v v' l, cs = [v] ∧ norm W.heap.size v = some v' ∧ SlR (roOf W) .e v' z R l ∧ l.length ≤ maxB := by
  obtain ⟨v, v', hv, hn, l, hl, hall⟩ := open_sl ht hz hz0 h (El := fun x => ∃ d, R x d) hel
  have hbound : l.length ≤ maxB := by
    have hlen := hl.len
    rcases open_slice ht h with ⟨h1, _⟩ | ⟨a, len, cap, m, n, D, Pl, h1, _, hle, hm, _⟩
    · rw [hv] at h1
      have h2 := norm_len (List.cons.inj h1).1 hn
      rw [hlen] at h2
      simp only [Option.some.injEq, Value.int.injEq, true_and] at h2
      have : l.length = 0 := by omega
      rw [this]; unfold maxB; omega
    · rw [hv] at h1
      have h2 := norm_len (List.cons.inj h1).1 hn
      rw [hlen] at h2
      simp only [Option.some.injEq, Value.int.injEq, true_and] at h2
      unfold maxLen at hm
      unfold maxB
      omega
  refine ⟨v, v', ?_⟩
  have e : ∃ ds : List D, l.length = ds.length ∧ ∀ (i : Nat) x d, l[i]? = some x → ds[i]? = some d → R x d := by
    clear hl hbound
    induction l with
    | nil => exact ⟨[], rfl, fun i x d hx => by simp at hx⟩
    | cons x l ih =>
      obtain ⟨ds, h1, h2⟩ := ih fun y hy => hall y (by simp [hy])
      obtain ⟨d, hd⟩ := hall x (by simp)
      refine ⟨d :: ds, by simp [h1], fun i x' d' hx hd' => ?_⟩
      cases i with
      | zero => simp at hx hd'; subst hx; subst hd'; exact hd
      | succ i => exact h2 i x' d' (by simpa using hx) (by simpa using hd')
  obtain ⟨ds, h1, h2⟩ := e
  exact ⟨ds, hv, hn, ⟨l, hl, h1, h2⟩, by rw [← h1]; exact hbound⟩
theorem ints_cellB {n : Nat} {cs : List Value} {y : DataW H × List MemPlace} (h : DataW.trod enc Tryz.prog W 0 (fun _ => true) true n y_s_int cs = some y) : ∃ v v' l, cs = [v] ∧ norm W.heap.size v = some v' ∧ ZI (roOf W) .e v' l ∧ l.length ≤ maxB := by
  have hu : Tryz.prog.underlying y_s_int = some (.slice y_int) := by kernel_rfl
  have hc : Tryz.prog.cellsOf y_int = 1 := by kernel_rfl
  obtain ⟨v, v', l, hv, hn, ⟨cs, h1, h2, h3⟩, hb⟩ := open_slB (R := fun x (a : Int) => x = [Value.int .i64 a]) hu hc (by omega) h fun n cs' y hy => by
    obtain ⟨a, rfl⟩ := int_cell hy
    exact ⟨_, rfl, a, rfl⟩
  refine ⟨v, v', l, hv, hn, ?_, hb⟩
  have e : cs = intsZ l := by
    refine List.ext_getElem? fun i => ?_
    unfold intsZ
    rw [List.getElem?_map]
    cases hi : l[i]? with
    | none =>
      have := List.getElem?_eq_none_iff.1 hi
      rw [List.getElem?_eq_none (by omega)]; rfl
    | some a =>
      have hil := (List.getElem?_eq_some_iff.1 hi).1
      have hx : cs[i]? = some (cs[i]'(by omega)) := List.getElem?_eq_getElem (by omega)
      rw [hx, h3 i _ a hx hi]; rfl
  unfold ZI
  rw [← e]; exact h1
theorem one_norm {W : World} {v v' : Value} (hn : norm W.heap.size v = some v') : normL W.heap.size [v] = some [v'] := by
  simp only [normL, hn]; rfl
theorem ops_cells {n : Nat} {cs : List Value} {y : DataW H × List MemPlace} (h : DataW.trod enc Tryz.prog W 0 (fun _ => true) true n y_s_uint8 cs = some y) : ∃ v v' l, cs = [v] ∧ norm W.heap.size v = some v' ∧ SlR (roOf W) .e v' 1 RU8 l ∧ l.length ≤ maxB := by
  have hu : Tryz.prog.underlying y_s_uint8 = some (.slice y_uint8) := by kernel_rfl
  have hc : Tryz.prog.cellsOf y_uint8 = 1 := by kernel_rfl
  exact open_slB hu hc (by omega) h fun n cs' y hy => by
    obtain ⟨a, rfl, ha⟩ := u8_cell hy
    exact ⟨_, rfl, a, rfl, ha⟩
theorem move_cells {n : Nat} {cs : List Value} {y : DataW H × List MemPlace} (h : DataW.trod enc Tryz.prog W 0 (fun _ => true) true n y_api_Move cs = some y) : ∃ cs'', normL W.heap.size cs = some cs'' ∧ ∃ d, RMove (roOf W) .e cs'' d := by
  have hL : fieldsOf Tryz.prog y_api_Move = some [(0, y_int), (1, y_s_uint8)] := by kernel_rfl
  have c0 : Tryz.prog.cellsOf y_api_Move = 2 := by kernel_rfl
  have c2 : Tryz.prog.cellsOf y_int = 1 := by kernel_rfl
  have c4 : Tryz.prog.cellsOf y_s_uint8 = 1 := by kernel_rfl
  obtain ⟨hlen, m, hf⟩ := trod_fields hL h
  obtain ⟨_, f0⟩ := hf 0 _ _ rfl
  obtain ⟨_, f1⟩ := hf 1 _ _ rfl
  rw [c0] at hlen
  rw [c2] at f0
  rw [c4] at f1
  obtain ⟨p, g0⟩ := int_cell f0
  obtain ⟨v, v', l, g1, hn, hz, hb⟩ := ops_cells f1
  match cs, hlen with
  | [a0, a1], _ =>
    simp at g0 g1
    subst g0 g1
    refine ⟨[.int .i64 p, v'], ?_, ⟨p, l⟩, v', rfl, hz, hb⟩
    simp only [normL, hn]; rfl
theorem row_cells {n : Nat} {cs : List Value} {y : DataW H × List MemPlace} (h : DataW.trod enc Tryz.prog W 0 (fun _ => true) true n y_s_api_Move cs = some y) : ∃ cs'', normL W.heap.size cs = some cs'' ∧ ∃ d, RRow (roOf W) .e cs'' d := by
  have hu : Tryz.prog.underlying y_s_api_Move = some (.slice y_api_Move) := by kernel_rfl
  have hc : Tryz.prog.cellsOf y_api_Move = 2 := by kernel_rfl
  obtain ⟨v, v', l, rfl, hn, hl, hb⟩ := open_slB hu hc (by omega) h fun n cs' y hy => move_cells hy
  exact ⟨[v'], one_norm hn, l, v', rfl, hl, hb⟩
theorem rows_cells {n : Nat} {cs : List Value} {y : DataW H × List MemPlace} (h : DataW.trod enc Tryz.prog W 0 (fun _ => true) true n y_s_s_api_Move cs = some y) : ∃ v v' l, cs = [v] ∧ norm W.heap.size v = some v' ∧ SlR (roOf W) .e v' 1 (RRow (roOf W) .e) l ∧ l.length ≤ maxB := by
  have hu : Tryz.prog.underlying y_s_s_api_Move = some (.slice y_s_api_Move) := by kernel_rfl
  have hc : Tryz.prog.cellsOf y_s_api_Move = 1 := by kernel_rfl
  exact open_slB hu hc (by omega) h fun n cs' y hy => row_cells hy
theorem state_cells {n : Nat} {cs : List Value} {y : DataW H × List MemPlace} (h : DataW.trod enc Tryz.prog W 0 (fun _ => true) true n y_api_State cs = some y) : ∃ cs'', normL W.heap.size cs = some cs'' ∧ ∃ d, RState (roOf W) .e cs'' d := by
  have hL : fieldsOf Tryz.prog y_api_State = some [(0, y_s_int), (1, y_s_int), (2, y_s_int), (3, y_s_s_api_Move)] := by kernel_rfl
  have c0 : Tryz.prog.cellsOf y_api_State = 4 := by kernel_rfl
  have c2 : Tryz.prog.cellsOf y_s_int = 1 := by kernel_rfl
  have c4 : Tryz.prog.cellsOf y_s_s_api_Move = 1 := by kernel_rfl
  obtain ⟨hlen, m, hf⟩ := trod_fields hL h
  obtain ⟨_, f0⟩ := hf 0 _ _ rfl
  obtain ⟨_, f1⟩ := hf 1 _ _ rfl
  obtain ⟨_, f2⟩ := hf 2 _ _ rfl
  obtain ⟨_, f3⟩ := hf 3 _ _ rfl
  rw [c0] at hlen
  rw [c2] at f0 f1 f2
  rw [c4] at f3
  obtain ⟨v0, w0, l0, g0, n0, z0, b0⟩ := ints_cellB f0
  obtain ⟨v1, w1, l1, g1, n1, z1, b1⟩ := ints_cellB f1
  obtain ⟨v2, w2, l2, g2, n2, z2, b2⟩ := ints_cellB f2
  obtain ⟨v3, w3, l3, g3, n3, z3, b3⟩ := rows_cells f3
  match cs, hlen with
  | [a0, a1, a2, a3], _ =>
    simp at g0 g1 g2 g3
    subst g0 g1 g2 g3
    refine ⟨[w0, w1, w2, w3], ?_, ⟨l0, l1, l2, l3⟩, w0, w1, w2, w3, rfl, z0, z1, z2, z3, b1⟩
    simp only [normL, n0, n1, n2, n3]; rfl
theorem count_cells {n : Nat} {cs : List Value} {y : DataW H × List MemPlace} (h : DataW.trod enc Tryz.prog W 0 (fun _ => true) true n y_a2_int cs = some y) : ∃ cs'', normL W.heap.size cs = some cs'' ∧ ∃ d, RCount cs'' d := by
  have hu : Tryz.prog.underlying y_a2_int = some (.array 2 y_int) := by kernel_rfl
  have hc : Tryz.prog.cellsOf y_a2_int = 2 := by kernel_rfl
  have hc1 : Tryz.prog.cellsOf y_int = 1 := by kernel_rfl
  obtain ⟨xs, m, _, _, hlen, hxs, hel⟩ := DataW.trod_array hu h
  rw [hc] at hlen
  have el : ∀ i, i < 2 → ∃ a : Int, (cs.drop i).take 1 = [.int .i64 a] := by
    intro i hi
    have := hel i hi
    rw [hc1, Nat.mul_one] at this
    have hx : xs[i]? = some xs[i] := List.getElem?_eq_getElem (by omega)
    rw [hx] at this
    exact int_cell this
  match cs, hlen with
  | [a0, a1], _ =>
    obtain ⟨x0, g0⟩ := el 0 (by omega)
    obtain ⟨x1, g1⟩ := el 1 (by omega)
    simp at g0 g1
    subst g0 g1
    exact ⟨_, rfl, (x0, x1), rfl⟩
theorem split_cells {n : Nat} {cs : List Value} {y : DataW H × List MemPlace} (h : DataW.trod enc Tryz.prog W 0 (fun _ => true) true n y_api_Split cs = some y) : ∃ (c : List Nat) (k : Int), c.length = 256 ∧ (∀ x ∈ c, x < 256) ∧ cs = splitLI c k := by
  have hL : fieldsOf Tryz.prog y_api_Split = some [(0, y_a256_uint8), (256, y_int)] := by kernel_rfl
  have c0 : Tryz.prog.cellsOf y_api_Split = 257 := by kernel_rfl
  have c2 : Tryz.prog.cellsOf y_a256_uint8 = 256 := by kernel_rfl
  have c4 : Tryz.prog.cellsOf y_int = 1 := by kernel_rfl
  have hc8 : Tryz.prog.cellsOf y_uint8 = 1 := by kernel_rfl
  have hua : Tryz.prog.underlying y_a256_uint8 = some (.array 256 y_uint8) := by kernel_rfl
  obtain ⟨hlen, m, hf⟩ := trod_fields hL h
  obtain ⟨_, f0⟩ := hf 0 _ _ rfl
  obtain ⟨_, f1⟩ := hf 1 _ _ rfl
  rw [c0] at hlen
  rw [c2, List.drop_zero] at f0
  rw [c4] at f1
  obtain ⟨k, hk⟩ := int_cell f1
  obtain ⟨xs, m, _, _, hl0, hxs, hel⟩ := DataW.trod_array hua f0
  have el : ∀ i, i < 256 → ∃ a : Nat, cs[i]? = some (.int .u8 (a : Int)) ∧ a < 256 := by
    intro i hi
    have h1 := hel i hi
    rw [hc8, Nat.mul_one, List.drop_take, List.take_take] at h1
    have hx : xs[i]? = some xs[i] := List.getElem?_eq_getElem (by omega)
    rw [hx, show min 1 (256 - i) = 1 by omega] at h1
    obtain ⟨a, h2, h3⟩ := u8_cell h1
    refine ⟨a, ?_, h3⟩
    have h4 : ((cs.drop i).take 1)[0]? = some (.int .u8 (a : Int)) := by rw [h2]; rfl
    rw [List.getElem?_take] at h4
    simpa using h4
  have key : ∀ i, i ≤ 256 → ∃ c : List Nat, c.length = i ∧ (∀ x ∈ c, x < 256) ∧ cs.take i = u8s c := by
    intro i
    induction i with
    | zero => intro _; exact ⟨[], rfl, by simp, by simp [u8s]⟩
    | succ i ih =>
      intro hi
      obtain ⟨c, c1, c2, c3⟩ := ih (by omega)
      obtain ⟨a, h1, h2⟩ := el i (by omega)
      refine ⟨c ++ [a], by simp [c1], ?_, ?_⟩
      · intro x hx
        rcases List.mem_append.1 hx with h | h
        · exact c2 x h
        · simp at h; omega
      · have hil : i < cs.length := by omega
        rw [List.getElem?_eq_getElem hil] at h1
        rw [List.take_succ_eq_append_getElem hil, Option.some.inj h1, c3]
        simp [u8s]
  obtain ⟨c, c1, c2, c3⟩ := key 256 (Nat.le_refl _)
  refine ⟨c, k, c1, c2, ?_⟩
  unfold splitLI
  rw [← List.take_append_drop 256 cs, c3]
  congr 1
  rw [← hk, List.take_of_length_le (by rw [List.length_drop]; omega)]
theorem normL_split {N : Nat} (k : Int) {v w v' w' : Value} (h1 : norm N v = some v') (h2 : norm N w = some w') : ∀ c : List Nat, normL N (autL c k v w) = some (autL c k v' w')
  | [] => by
    show normL N [.int .i64 k, v, w] = some [.int .i64 k, v', w']
    simp only [normL, h1, h2]; rfl
  | a :: c => by
    have e : ∀ x y, autL (a :: c) k x y = .int .u8 (a : Int) :: autL c k x y := fun _ _ => rfl
    rw [e, e]
    simp only [normL, normL_split k h1 h2 c]; rfl
theorem open_auto {v : Value} {d : DataW H} {p : List MemPlace} (h : DataW.Trod enc Tryz.prog W 0 (fun _ => true) true y_api_Auto v d p) {base : Nat} (hval : Value.okWide Tryz.prog W .any base y_api_Auto v) : ∃ x a, Arg W.heap.size (.agg x.toArray) v ∧ RAuto (roOf W) .e x a := by
  have hL : fieldsOf Tryz.prog y_api_Auto = some [(0, y_api_Split), (257, y_s_a2_int), (258, y_s_api_State)] := by kernel_rfl
  have c0 : Tryz.prog.cellsOf y_api_Auto = 259 := by kernel_rfl
  have c2 : Tryz.prog.cellsOf y_api_Split = 257 := by kernel_rfl
  have c4 : Tryz.prog.cellsOf y_s_a2_int = 1 := by kernel_rfl
  have c5 : Tryz.prog.cellsOf y_s_api_State = 1 := by kernel_rfl
  have hu1 : Tryz.prog.underlying y_s_a2_int = some (.slice y_a2_int) := by kernel_rfl
  have hu2 : Tryz.prog.underlying y_s_api_State = some (.slice y_api_State) := by kernel_rfl
  have hc1 : Tryz.prog.cellsOf y_a2_int = 2 := by kernel_rfl
  have hc2 : Tryz.prog.cellsOf y_api_State = 4 := by kernel_rfl
  obtain ⟨cs, rfl⟩ := okWide_agg hL hval
  obtain ⟨fuel, hf⟩ := h
  have ecs : (Value.agg cs).cells.toList = cs.toList := rfl
  rw [ecs] at hf
  obtain ⟨hlen, m, hf⟩ := trod_fields hL hf
  obtain ⟨_, f0⟩ := hf 0 _ _ rfl
  obtain ⟨_, f1⟩ := hf 1 _ _ rfl
  obtain ⟨_, f2⟩ := hf 2 _ _ rfl
  rw [c0] at hlen
  rw [c2, List.drop_zero] at f0
  rw [c4] at f1
  rw [c5] at f2
  obtain ⟨c, k, hc, hcl, g0⟩ := split_cells f0
  obtain ⟨v, v', C, g1, n1, z1, b1⟩ := open_slB hu1 hc1 (by omega) f1 fun n cs' y hy => count_cells hy
  obtain ⟨w, w', S, g2, n2, z2, b2⟩ := open_slB hu2 hc2 (by omega) f2 fun n cs' y hy => state_cells hy
  have hcs : cs.toList = autL c k v w := by
    unfold autL
    rw [← List.take_append_drop 257 cs.toList, g0]
    congr 1
    have h1 : cs.toList.drop 257 = (cs.toList.drop 257).take 1 ++ (cs.toList.drop 257).drop 1 := (List.take_append_drop 1 _).symm
    rw [h1, g1, List.drop_drop, ← List.take_of_length_le (i := 1) (l := cs.toList.drop (257 + 1)) (by rw [List.length_drop]; omega)]
    show [v] ++ (cs.toList.drop 258).take 1 = _
    rw [g2]; rfl
  refine ⟨autL c k v' w', ⟨c, k, C, S⟩, .agg ?_, v', w', rfl, hc, hcl, z1, z2, b1, b2⟩
  rw [hcs]
  exact normL_split k n1 n2 c
end
section
variable {H : Type} {enc : TypeId × Value → H} {W : World}
end
end V
end Go.Proofs.YtjndkdmkecpllaaGreat
set_option linter.unusedVariables false
set_option linter.unusedSimpArgs false
namespace Go.Proofs.YtjndkdmkecpllaaGreat
namespace V
attribute [local irreducible] callPre callP bindP
end V
end Go.Proofs.YtjndkdmkecpllaaGreat
set_option linter.unusedVariables false
set_option linter.unusedSimpArgs false
namespace Go.Proofs.YtjndkdmkecpllaaGreat
namespace V
attribute [local irreducible] callPre callP bindP
@[irreducible] def law13_ExecReset_j2 (ro : Ro) (K : KV) : Env → T Obj → Nat → Prop := fun e h nx => ∃ h63, Sub h63 h ∧ K (e 7) h63 (nx + 2)
@[irreducible] def law13_ExecReset_L1 (ro : Ro) : PT := fun e h nx Q => bindP (intB .lss (e 61) (e 60)) fun t62_66 => condP t62_66 (bindP (ixStr (e 2) (e 61)) fun t67_67 => callP Tryz.prog ro i_exec_Machine_Step [(e 9), t67_67] h (nx + 28) fun t68_68 h69 n70 => bindP (ixStr (e 2) (e 61)) fun t72_71 => callP Tryz.prog ro i_exec_Machine_Step [(e 11), t72_71] h69 n70 fun t73_72 h73 n74 => bindP (boolB .neq t68_68 t73_72) fun t74_75 => ifP t74_75 false h73 n74 (fun k76 => k76 (e 9) h73 n74) fun t76_77 h78 n79 => ifP t74_75 false h78 n79 (fun k80 => callP Tryz.prog ro i_exec_Machine_State [t76_77] h78 n79 fun t77_84 h85 n86 => k80 t77_84 h85 n86) fun t77_81 h82 n83 => ifP t74_75 false h82 n83 (fun k87 => k87 (e 11) h82 n83) fun t78_88 h89 n90 => ifP t74_75 false h89 n90 (fun k91 => callP Tryz.prog ro i_exec_Machine_State [t78_88] h89 n90 fun t79_95 h96 n97 => k91 t79_95 h96 n97) fun t79_92 h93 n94 => ifP t74_75 false h93 n94 (fun k98 => bindP (intB .neq t77_81 t79_92) fun t80_102 => k98 t80_102 h93 n94) fun t80_99 h100 n101 => bindP (pickV t74_75 (Value.bool true) t80_99) fun t81_103 => ifP t81_103 false h100 n101 (fun k104 => k104 (e 9) h100 n101) fun t83_105 h106 n107 => ifP t81_103 false h106 n107 (fun k108 => callP Tryz.prog ro i_exec_Machine_Rule [t83_105] h106 n107 fun t84_112 h113 n114 => k108 t84_112 h113 n114) fun t84_109 h110 n111 => ifP t81_103 false h110 n111 (fun k115 => k115 (e 11) h110 n111) fun t85_116 h117 n118 => ifP t81_103 false h117 n118 (fun k119 => callP Tryz.prog ro i_exec_Machine_Rule [t85_116] h117 n118 fun t86_123 h124 n125 => k119 t86_123 h124 n125) fun t86_120 h121 n122 => ifP t81_103 false h121 n122 (fun k126 => bindP (intB .neq t84_109 t86_120) fun t87_130 => k126 t87_130 h121 n122) fun t87_127 h128 n129 => bindP (pickV t81_103 (Value.bool true) t87_127) fun t88_131 => condP t88_131 (Q .ret (puts e [(62, t62_66), (63, (e 61)), (14, (e 61)), (64, (e 9)), (65, (e 2)), (66, (e 61)), (67, t67_67), (68, t68_68), (69, (e 11)), (70, (e 2)), (71, (e 61)), (72, t72_71), (73, t73_72), (74, t74_75), (75, t74_75), (76, t76_77), (77, t77_81), (78, t78_88), (79, t79_92), (80, t80_99), (81, t81_103), (82, t81_103), (83, t83_105), (84, t84_109), (85, t85_116), (86, t86_120), (87, t87_127), (88, t88_131), (6, (Value.bool false))]) h128 (n129 + 1)) (bindP (intB .add (e 61) (Value.int IntKind.i64 1)) fun t89_132 => Q .normal (puts e [(62, t62_66), (63, (e 61)), (14, (e 61)), (64, (e 9)), (65, (e 2)), (66, (e 61)), (67, t67_67), (68, t68_68), (69, (e 11)), (70, (e 2)), (71, (e 61)), (72, t72_71), (73, t73_72), (74, t74_75), (75, t74_75), (76, t76_77), (77, t77_81), (78, t78_88), (79, t79_92), (80, t80_99), (81, t81_103), (82, t81_103), (83, t83_105), (84, t84_109), (85, t85_116), (86, t86_120), (87, t87_127), (88, t88_131), (89, t89_132), (61, t89_132)]) h128 (n129 + 2))) (Q (.exit 2) (puts e [(62, t62_66)]) h (nx + 1))
@[irreducible] def law13_ExecReset_j1 (ro : Ro) (K : KV) : Env → T Obj → Nat → Prop := fun e h nx => callP Tryz.prog ro i_exec_Machine_Reset [(e 9)] h (nx + 2) fun t57_60 h61 n62 => bindP (lenStr (e 2)) fun t59_64 => bindP (builtinQ Tryz.prog h61 .min #[y_int, y_int] [t59_64, (Value.int IntKind.i64 60)]) fun t60_65 => loopP (law13_ExecReset_L1 ro) (puts e [(56, (e 9)), (57, t57_60), (58, (e 2)), (59, t59_64), (60, t60_65), (61, (Value.int IntKind.i64 0))]) h61 (n62 + 4) fun x136 e133 h134 n135 => exP x136 (law13_ExecReset_j2 ro K e133 h134 n135) (fun i137 => beqP (Nat.beq i137 2) (law13_ExecReset_j2 ro K e133 h134 n135) (False)) (∃ h138, Sub h138 h134 ∧ K (e133 6) h138 n135)
@[irreducible] def law13_ExecReset_L2 (ro : Ro) : PT := fun e h nx Q => bindP (intB .lss (e 47) (e 46)) fun t48_141 => condP t48_141 (bindP (ixStr (e 1) (e 47)) fun t53_142 => callP Tryz.prog ro i_exec_Machine_Step [(e 9), t53_142] h (nx + 8) fun t54_143 h144 n145 => bindP (intB .add (e 47) (Value.int IntKind.i64 1)) fun t55_146 => Q .normal (puts e [(48, t48_141), (49, (e 47)), (13, (e 47)), (50, (e 9)), (51, (e 1)), (52, (e 47)), (53, t53_142), (54, t54_143), (55, t55_146), (47, t55_146)]) h144 (n145 + 2)) (Q (.exit 0) (puts e [(48, t48_141)]) h (nx + 1))
@[irreducible] def law13_ExecReset (ro : Ro) (v0 v1 v2 : Value) (h : T Obj) (nx : Nat) (K : KV) : Prop := newP h nx (.cells (Value.cells v0) y_api_Auto) fun h1 => callP Tryz.prog ro i_law13_shown [] h1 (nx + 3) fun t15_2 h3 n4 => bindP (loadA ro h3 259 (ptr nx)) fun t16_5 => callP Tryz.prog ro i_law13_few [t16_5] h3 (n4 + 3) fun t17_6 h7 n8 => bindP (zer Tryz.prog y_api_Auto) fun z9 => newP h7 n8 (.cells z9.cells y_api_Auto) fun h10 => bindP (storeN 259 h10 (ptr n8) t17_6) fun h11 => bindP (loadA ro h11 259 (ptr n8)) fun t19_12 => callP Tryz.prog ro i_exec_New [t19_12] h11 (n8 + 4) fun t20_13 h14 n15 => bindP (nth 0 t20_13) fun t21_16 => bindP (nth 1 t20_13) fun t22_17 => bindP (loadA ro h14 259 (ptr n8)) fun t24_18 => callP Tryz.prog ro i_exec_New [t24_18] h14 (n15 + 7) fun t25_19 h20 n21 => bindP (nth 0 t25_19) fun t26_22 => bindP (nth 1 t25_19) fun t27_23 => bindP (ptrB .eql t21_16 (Value.pointer none)) fun t29_24 => ifP t29_24 false h20 (n21 + 8) (fun k25 => k25 t26_22 h20 (n21 + 9)) fun t31_26 h27 n28 => ifP t29_24 false h27 n28 (fun k29 => bindP (ptrB .eql t31_26 (Value.pointer none)) fun t32_33 => k29 t32_33 h27 (n28 + 1)) fun t32_30 h31 n32 => bindP (pickV t29_24 (Value.bool true) t32_30) fun t33_34 => condP t33_34 (ifP t15_2 true h31 (n32 + 3) (fun k35 => k35 t22_17 h31 (n32 + 4)) fun t36_36 h37 n38 => ifP t15_2 true h37 n38 (fun k39 => k39 t27_23 h37 (n38 + 1)) fun t37_40 h41 n42 => ifP t15_2 true h41 n42 (fun k43 => bindP (intB .eql t36_36 t37_40) fun t38_47 => k43 t38_47 h41 (n42 + 1)) fun t38_44 h45 n46 => bindP (pickV t15_2 t38_44 (Value.bool false)) fun t39_48 => ifP t39_48 true h45 (n46 + 2) (fun k49 => k49 t22_17 h45 (n46 + 3)) fun t41_50 h51 n52 => ifP t39_48 true h51 n52 (fun k53 => bindP (intB .eql t41_50 (Value.int IntKind.i64 1)) fun t42_57 => k53 t42_57 h51 (n52 + 1)) fun t42_54 h55 n56 => bindP (pickV t39_48 t42_54 (Value.bool false)) fun t43_58 => ∃ h59, Sub h59 h55 ∧ K t43_58 h59 (n56 + 2)) (bindP (lenStr v1) fun t45_139 => bindP (builtinQ Tryz.prog h31 .min #[y_int, y_int] [t45_139, (Value.int IntKind.i64 60)]) fun t46_140 => loopP (law13_ExecReset_L2 ro) (puts (entE [v0, v1, v2]) [(3, (ptr nx)), (6, (Value.bool false)), (15, t15_2), (7, t15_2), (16, t16_5), (17, t17_6), (8, (ptr n8)), (19, t19_12), (20, t20_13), (18, t20_13), (21, t21_16), (22, t22_17), (9, t21_16), (10, t22_17), (24, t24_18), (25, t25_19), (23, t25_19), (26, t26_22), (27, t27_23), (11, t26_22), (12, t27_23), (28, t21_16), (29, t29_24), (30, t29_24), (31, t31_26), (32, t32_30), (33, t33_34), (44, v1), (45, t45_139), (46, t46_140), (47, (Value.int IntKind.i64 0))]) h31 (n32 + 5) fun x150 e147 h148 n149 => exP x150 (law13_ExecReset_j1 ro K e147 h148 n149) (fun i151 => beqP (Nat.beq i151 0) (law13_ExecReset_j1 ro K e147 h148 n149) (False)) (∃ h152, Sub h152 h148 ∧ K (e147 6) h152 n149))
theorem law13_ExecReset_eq (ro : Ro) (v0 v1 v2 : Value) (h : T Obj) (nx : Nat) (K : KV) : callPre Tryz.prog ro (callP Tryz.prog ro) Tryz.f4 [v0, v1, v2] h nx K = law13_ExecReset ro v0 v1 v2 h nx K := by kernel_rfl
theorem law13_ExecReset_of {ro : Ro} {v0 v1 v2 : Value} {h : T Obj} {nx : Nat} {K : KV} (hw : law13_ExecReset ro v0 v1 v2 h nx K) : callP Tryz.prog ro i_law13_ExecReset [v0, v1, v2] h nx K := callP_by (P := Tryz.prog) (fn := Tryz.f4) (by kernel_rfl) (by kernel_rfl) (by kernel_rfl) (Eq.mpr (law13_ExecReset_eq ro v0 v1 v2 h nx K) hw)
end V
end Go.Proofs.YtjndkdmkecpllaaGreat
set_option linter.unusedVariables false
set_option linter.unusedSimpArgs false
namespace Go.Proofs.YtjndkdmkecpllaaGreat
namespace V
attribute [local irreducible] bindP ifP condP newP optP exP beqP
def SameR (rs rs' : List RgD) : Prop := rs.map (·.1) = rs'.map (·.1)
theorem SameR.at {rs rs' : List RgD} (h : SameR rs rs') (c : Int) : (rgAt rs c).1 = (rgAt rs' c).1 := by
  have key : ∀ l : List RgD, (rgAt l c).1 = (l.map (·.1)).getD c.toNat [] := fun l => by
    unfold rgAt
    rw [List.getD_eq_getElem?_getD, List.getD_eq_getElem?_getD, List.getElem?_map]
    cases l[c.toNat]? <;> rfl
  rw [key, key, h]
theorem SameR.set {rs rs' : List RgD} (h : SameR rs rs') (i : Nat) {x y : RgD} (hx : x.1 = y.1) : SameR (rs.set i x) (rs'.set i y) := by
  unfold SameR at h ⊢
  rw [List.map_set, List.map_set, h, hx]
theorem SameR.dig {rs rs' : List RgD} (h : SameR rs rs') (C : List (Int × Int)) (c : Int) : digM C rs c = digM C rs' c := by
  unfold digM; rw [h.at c]
theorem SameR.code {rs rs' : List RgD} (h : SameR rs rs') (C : List (Int × Int)) : ∀ r : List Int, codeM C rs r = codeM C rs' r
  | [] => rfl
  | c :: r => by unfold codeM; rw [h.dig, h.code C r]
theorem SameR.clrs {nx : List Int} : ∀ {S : List Int} {rs rs' : List RgD}, SameR rs rs' → SameR (clrsM nx S rs) (clrsM nx S rs')
  | [], _, _, h => h
  | c :: r, rs, rs', h => by
    unfold clrsM
    refine SameR.clrs ?_
    split
    · exact h
    · exact h.set _ rfl
theorem rgOp_fst (n o : Nat) {r r' : RgD} (h : r.1 = r'.1) : (rgOp n o r).1 = (rgOp n o r').1 := by
  unfold rgOp
  split
  · rfl
  · split
    · show putL (incL n r.1) = putL (incL n r'.1); rw [h]
    · show incL n r.1 = incL n r'.1; rw [h]
theorem SameR.ops {C : List (Int × Int)} : ∀ {R : List Int} {os : List Nat} {rs rs' : List RgD}, SameR rs rs' → SameR (opsM C R os rs) (opsM C R os rs')
  | [], _, _, _, h => by unfold opsM; exact h
  | _ :: _, [], _, _, h => by unfold opsM; exact h
  | c :: r, o :: os, rs, rs', h => by
    unfold opsM
    exact SameR.ops (h.set _ (rgOp_fst _ _ (h.at c)))
def SameM (m m' : MacD) : Prop := m.cur = m'.cur ∧ SameR m.rs m'.rs
section
variable {d : AutoD} {m m' : MacD}
theorem SameM.st (h : SameM m m') : stAt d m = stAt d m' := by unfold stAt; rw [h.1]
theorem SameM.rule (h : SameM m m') : ruleM d m = ruleM d m' := by
  unfold ruleM; rw [h.1, SameM.st h, h.2.code]
theorem SameM.move (h : SameM m m') (b : Nat) : moveM d m b = moveM d m' b := by
  unfold moveM; rw [SameM.st h, h.2.code]
theorem SameM.on (h : SameM m m') (b : Nat) : onM d m b = onM d m' b := by
  unfold onM; rw [h.1, SameM.move h]
theorem SameM.step (h : SameM m m') (b : Nat) : SameM (stepM d m b) (stepM d m' b) := by
  unfold stepM
  rw [h.1, SameM.move h, SameM.st h]
  split
  · exact h
  · exact ⟨rfl, (h.2.clrs).ops⟩
theorem reset_same (ho : MOk d m) : SameM (resetM m) (newM d) := by
  refine ⟨rfl, ?_⟩
  show (m.rs.map rsetR).map (·.1) = (d.counts.map fun _ => noR).map (·.1)
  rw [List.map_map, List.map_map]
  have e1 : ((fun r : RgD => r.1) ∘ rsetR) = fun _ => ([] : List Nat) := by
    funext r
    show (rsetR r).1 = []
    unfold rsetR
    split
    · rename_i h; exact List.length_eq_zero_iff.1 h
    · rfl
  have e2 : ((fun r : RgD => r.1) ∘ fun _ : Int × Int => noR) = fun _ => ([] : List Nat) := rfl
  rw [e1, e2, List.map_const', List.map_const', ho.2]
end
section
variable {ro : Ro} {h : T Obj} {nx : Nat} {K : KV}
theorem two_ee {h' : T Obj} {X : List Nat} {p q : Nat} {ps qs : List (Nat × Nat)} {d1 d2 : AutoD} {m1 m2 : MacD} (a : ∀ k ∈ p :: blks ps, k ∈ X) (b : MI ro h X q qs d2 m2) (hd : ∀ k ∈ p :: blks ps, k ∉ q :: blks qs) (hk : Keep (p :: blks ps) h h') : MI ro h' X q qs d2 m2 :=
  b.keep RI_ok hk a (fun k hk => ⟨fun e => hd k hk (by rw [e]; exact List.mem_cons_self ..), fun e => hd k hk (List.mem_cons_of_mem _ e)⟩) (fun k hk => .inl hk) fun k hk => hk
set_option maxRecDepth 8000 in
set_option maxHeartbeats 2000000 in
theorem law13_ExecReset_c {x : List Value} {d : AutoD} {s t : ByteArray} (hf : Fr h nx) (hd : RAuto ro h x d) (hK : ∀ h' nx', nx ≤ nx' → K (.bool true) h' nx') : callP Tryz.prog ro i_law13_ExecReset [.agg x.toArray, .string s, .string t] h nx K := by
  apply law13_ExecReset_of
  unfold law13_ExecReset
  refine param_mk hf (Nat.le_refl _) fun h1 hs1 hf1 g1 _ => ?_
  have g1 : h1.get nx = some (.cells x.toArray y_api_Auto) := g1
  refine shown_c ?_
  refine bindP_mk (loadA_all g1 hd.len) ?_
  refine law13_few_c (hf1.mono (by omega)) (hd.sub hs1) fun x' n2 hn2 hd2 => ?_
  generalize fewA d = d' at hd2
  refine local_mk (x := x') zer_Auto (by show autZ.toArray.size = 259; simp [autZ_len]) rfl hd2.len hd2.okL (hf1.mono (by omega)) (Nat.le_refl _) fun h2 hs2 hf2 g2 _ => ?_
  have hd3 := hd2.sub hs2
  have L2 := loadA_all (ro := ro) (z := 0) (n := 259) (l := x') g2 hd2.len
  refine bindP_mk L2 ?_
  have hls := lenStr_bts s
  have hlt := lenStr_bts t
  refine exec_New_x (X0 := []) (hf2.mono (by omega)) hd3 (fun hno n3 hn3 => ?_) (fun k hk => by cases hk) fun hok pE psE X1 h3 n3 hn3 hf3 hs3 hX1 hXe1 hE => ?_
  · refine bindP_mk (nth0 _ _) (bindP_mk (nth1 _ _) ?_)
    refine bindP_mk L2 ?_
    refine exec_New_c (X0 := []) (hf2.mono (by omega)) hd3 (fun _ n4 hn4 => ?_) (fun k hk => by cases hk) fun hok => absurd hok (by rw [hno]; decide)
    refine bindP_mk (nth0 _ _) (bindP_mk (nth1 _ _) ?_)
    (repeat (first | refine bindP_mk (by simp (disch := first | omega | exact Int.natCast_nonneg _ | assumption) only [BB, B2, ↓reduceIte, Nat.reduceLeDiff, Nat.reduceAdd, CC, pNil0] <;> rfl) ?_ | refine newP_mk ?_ | refine optP_mk ?_ | with_reducible first | refine condP_t ?_ | refine condP_f ?_ | refine ifP_tt' ?_ | refine ifP_ff' ?_ | refine ifP_tf' ?_ | refine ifP_ft' ?_ | refine ifP_u' ?_ | refine optP_mk0 ?_))
    exact ⟨_, Sub.refl _, hK _ _ (by omega)⟩
  · refine bindP_mk (nth0 _ _) (bindP_mk (nth1 _ _) ?_)
    have g3 := hs3 _ _ g2
    refine bindP_mk (loadA_all (l := x') g3 hd2.len) ?_
    refine exec_New_x (X0 := X1) (hf3.mono (by omega)) (hd3.sub hs3) (fun hno => absurd hok (by rw [hno]; decide)) (fun k hk => by have := hX1 k hk; omega) fun _ pF psF X2 h4 n4 hn4 hf4 hs4 hX2 hXe2 hF => ?_
    have hE4 : MI ro h4 (X1 ++ X2) pE psE (er d') (newM d') := hE.sub RI_ok hs4 (fun k hk => by
      rcases List.mem_append.1 hk with h9 | h9
      · exact .inl (by simpa using h9)
      · exact .inr (hf3 _ (by have := hX2 k h9; omega))) fun k hk => List.mem_append.2 (.inl (by simpa using hk))
    have hdis : ∀ k ∈ pE :: blks psE, k ∉ pF :: blks psF := fun k h1 h2 => by
      rw [← hXe1] at h1
      rw [← hXe2] at h2
      have := hX1 k h1; have := hX2 k h2; omega
    have hC512 := (autoOk_parts hok).2.1
    have hc : d'.c.length = 256 := by obtain ⟨cv', sv', _, hc, _⟩ := id hd3; exact hc
    have hokE := autoOk_er hok
    refine bindP_mk (nth0 _ _) (bindP_mk (nth1 _ _) ?_)
    (repeat (first | refine bindP_mk (by simp (disch := first | omega | exact Int.natCast_nonneg _ | assumption) only [BB, B2, ↓reduceIte, Nat.reduceLeDiff, Nat.reduceAdd, CC, pNil] <;> rfl) ?_ | refine newP_mk ?_ | refine optP_mk ?_ | with_reducible first | refine condP_t ?_ | refine condP_f ?_ | refine ifP_tt' ?_ | refine ifP_ff' ?_ | refine ifP_tf' ?_ | refine ifP_ft' ?_ | refine ifP_u' ?_ | refine optP_mk0 ?_))
    refine bindP_mk hls ?_
    refine bindP_mk (min_int _ _ _ _) ?_
    rw [show min ((bts s).length : Int) 60 = ((min (bts s).length 60 : Nat) : Int) by omega]
    generalize hN : min (bts s).length 60 = N
    have hW0 : WLe 0 (newM d').rs := fun r hr => by
      obtain ⟨c9, _, rfl⟩ := List.mem_map.1 hr
      exact Nat.zero_le _
    refine loopP_rule (fun j e h' nx' => ∃ (k : Nat) (m : MacD), k + j = N ∧ nx ≤ nx' ∧ e 1 = .string s ∧ e 2 = .string t ∧ e 7 = .bool true ∧ e 9 = ptr pE ∧ e 11 = ptr pF ∧ e 46 = .int .i64 N ∧ e 47 = .int .i64 k ∧ Fr h' nx' ∧
      MI ro h' (X1 ++ X2) pE psE (er d') m ∧ MI ro h' (X1 ++ X2) pF psF (er d') (newM d') ∧ MOk d' m ∧ WLe (9 * k) m.rs ∧ m.steps ≤ 4 * k) ?_ (n := N)
      ⟨0, newM d', by omega, by omega, rfl, rfl, rfl, rfl, rfl, rfl, rfl, hf4.mono (by omega), hE4, hF, new_ok hok, hW0, Nat.zero_le _⟩
    rintro j e h' nx' ⟨k, m, hj, hnx, e1, e2, e7, e9, e11, e46, e47, hf', hE, hF, hm, hw, hst⟩ Q' hq hx
    unfold law13_ExecReset_L2
    rw [e1, e9, e46, e47]
    refine lss_s (fun hk => ?_) (fun hk => ?_)
    · have hkb : k < (bts s).length := by omega
      have hbb := bts_lt _ (List.getElem_mem hkb)
      have hix := ixStr_bts (s := s) (k := .i64) hkb
      generalize (bts s)[k] = b at hbb hix
      (repeat (first | refine bindP_mk (by simp (disch := first | omega | exact Int.natCast_nonneg _ | assumption) only [BB, B2, ↓reduceIte, Nat.reduceLeDiff, Nat.reduceAdd, CC, hix] <;> rfl) ?_ | refine newP_mk ?_ | refine optP_mk ?_ | with_reducible first | refine condP_t ?_ | refine condP_f ?_ | refine ifP_tt' ?_ | refine ifP_ff' ?_ | refine ifP_tf' ?_ | refine ifP_ft' ?_ | refine ifP_u' ?_ | refine optP_mk0 ?_))
      refine exec_Step_c hE hokE (MOk_er hm) hbb (hf'.mono (by omega)) hw (by omega) (by omega) fun h5 n5 hn5 hf5 hk5 hE5 => ?_
      rw [stepM_er] at hE5
      have hF5 := two_ee (d1 := er d') (m1 := m) hE.inX hF hdis hk5
      (repeat (first | refine bindP_mk (by simp (disch := first | omega | exact Int.natCast_nonneg _ | assumption) only [BB, B2, ↓reduceIte, Nat.reduceLeDiff, Nat.reduceAdd, CC] <;> rfl) ?_ | refine newP_mk ?_ | refine optP_mk ?_ | with_reducible first | refine condP_t ?_ | refine condP_f ?_ | refine ifP_tt' ?_ | refine ifP_ff' ?_ | refine ifP_tf' ?_ | refine ifP_ft' ?_ | refine ifP_u' ?_ | refine optP_mk0 ?_))
      have hs6 := step_steps (b := b) hok hm
      exact hq (j - 1) _ _ _ _ (by omega) ⟨k + 1, stepM d' m b, by omega, by omega, e1, e2, e7, e9, e11, e46, rfl, hf5.mono (by omega), hE5, hF5, step_ok hok hm hc hbb, (step_w hok hm hc hbb hw).mono (by omega), by omega⟩ (Sub.refl _)
    · (repeat (first | refine bindP_mk (by simp (disch := first | omega | exact Int.natCast_nonneg _ | assumption) only [BB, B2, ↓reduceIte, Nat.reduceLeDiff, Nat.reduceAdd, CC] <;> rfl) ?_ | refine newP_mk ?_ | refine optP_mk ?_ | with_reducible first | refine condP_t ?_ | refine condP_f ?_ | refine ifP_tt' ?_ | refine ifP_ff' ?_ | refine ifP_tf' ?_ | refine ifP_ft' ?_ | refine ifP_u' ?_ | refine optP_mk0 ?_))
      refine hx _ _ _ _ (fun e => by cases e) (exP_e (beqP_t ?_))
      have hj1 : ∀ (e' : Env) n', e' 2 = .string t → e' 7 = .bool true → e' 9 = ptr pE → e' 11 = ptr pF → nx ≤ n' → Fr h' n' → law13_ExecReset_j1 ro K e' h' n' := by
        intro e' n' f2 f7 f9 f11 hn hfn
        unfold law13_ExecReset_j1
        rw [f2, f9]
        refine exec_Reset_c hE (MOk_er hm) hC512 (hfn.mono (by omega)) hw (by omega) fun h6 n6 hn6 hf6 hk6 hE6 => ?_
        have hF6 := two_ee (d1 := er d') (m1 := m) hE.inX hF hdis hk6
        refine bindP_mk hlt ?_
        refine bindP_mk (min_int _ _ _ _) ?_
        rw [show min ((bts t).length : Int) 60 = ((min (bts t).length 60 : Nat) : Int) by omega]
        generalize hM : min (bts t).length 60 = M
        refine loopP_rule (fun j e h' nx' => ∃ (k : Nat) (m1 m2 : MacD), k + j = M ∧ nx ≤ nx' ∧ e 2 = .string t ∧ e 7 = .bool true ∧ e 9 = ptr pE ∧ e 11 = ptr pF ∧ e 60 = .int .i64 M ∧ e 61 = .int .i64 k ∧ Fr h' nx' ∧
          MI ro h' (X1 ++ X2) pE psE (er d') m1 ∧ MI ro h' (X1 ++ X2) pF psF (er d') m2 ∧ MOk d' m1 ∧ MOk d' m2 ∧ WLe (1000 + 9 * k) m1.rs ∧ WLe (9 * k) m2.rs ∧ m1.steps ≤ 1000 + 4 * k ∧ m2.steps ≤ 4 * k ∧ SameM m1 m2) ?_ (n := M)
          ⟨0, resetM m, newM d', by omega, by omega, f2, f7, f9, f11, rfl, rfl, hf6.mono (by omega), hE6, hF6, reset_ok hok hm, new_ok hok, (reset_w hw).mono (by omega), hW0, by show m.steps ≤ _; omega, Nat.zero_le _, reset_same hm⟩
        rintro j e h' nx' ⟨k, m1, m2, hj, hnx, e2, e7, e9, e11, e60, e61, hf', hE, hF, o1, o2, w1, w2, s1, s2, hsm⟩ Q2 hq2 hx2
        unfold law13_ExecReset_L1
        rw [e2, e9, e11, e60, e61]
        refine lss_s (fun hk => ?_) (fun hk => ?_)
        · have hkb : k < (bts t).length := by omega
          have hbb := bts_lt _ (List.getElem_mem hkb)
          have hix := ixStr_bts (s := t) (k := .i64) hkb
          generalize (bts t)[k] = b at hbb hix
          (repeat (first | refine bindP_mk (by simp (disch := first | omega | exact Int.natCast_nonneg _ | assumption) only [BB, B2, ↓reduceIte, Nat.reduceLeDiff, Nat.reduceAdd, CC, hix] <;> rfl) ?_ | refine newP_mk ?_ | refine optP_mk ?_ | with_reducible first | refine condP_t ?_ | refine condP_f ?_ | refine ifP_tt' ?_ | refine ifP_ff' ?_ | refine ifP_tf' ?_ | refine ifP_ft' ?_ | refine ifP_u' ?_ | refine optP_mk0 ?_))
          refine exec_Step_c hE hokE (MOk_er o1) hbb (hf'.mono (by omega)) w1 (by omega) (by omega) fun h5 n5 hn5 hf5 hk5 hE5 => ?_
          rw [stepM_er] at hE5
          rw [onM_er]
          have hF5 := two_ee (d1 := er d') (m1 := m1) hE.inX hF hdis hk5
          refine bindP_mk hix ?_
          refine exec_Step_c hF5 hokE (MOk_er o2) hbb hf5 w2 (by omega) (by omega) fun h6 n6 hn6 hf6 hk6 hF6 => ?_
          rw [stepM_er] at hF6
          rw [onM_er]
          have hE6 := two_ee (d1 := er d') (m1 := m2) hF5.inX hE5 (fun k h1 h2 => hdis k h2 h1) hk6
          rw [hsm.on]
          have hs6 := step_steps (b := b) hok o1
          have hs7 := step_steps (b := b) hok o2
          have q1 := step_ok hok o1 hc hbb
          have q2 := step_ok hok o2 hc hbb
          have q3 := step_w hok o1 hc hbb w1
          have q4 := step_w hok o2 hc hbb w2
          have hsm6 := SameM.step (d := d') hsm b
          generalize stepM d' m1 b = m3 at hE6 hs6 q1 q3 hsm6
          generalize stepM d' m2 b = m4 at hF6 hs7 q2 q4 hsm6
          (repeat (first | refine bindP_mk (by simp (disch := first | omega | exact Int.natCast_nonneg _ | assumption) only [BB, B2, ↓reduceIte, Nat.reduceLeDiff, Nat.reduceAdd, CC] <;> rfl) ?_ | refine newP_mk ?_ | refine optP_mk ?_ | with_reducible first | refine condP_t ?_ | refine condP_f ?_ | refine ifP_tt' ?_ | refine ifP_ff' ?_ | refine ifP_tf' ?_ | refine ifP_ft' ?_ | refine ifP_u' ?_ | refine optP_mk0 ?_))
          simp only [beq_self_eq_true, Bool.not_true]
          (repeat (first | refine bindP_mk (by simp (disch := first | omega | exact Int.natCast_nonneg _ | assumption) only [BB, B2, ↓reduceIte, Nat.reduceLeDiff, Nat.reduceAdd, CC] <;> rfl) ?_ | refine newP_mk ?_ | refine optP_mk ?_ | with_reducible first | refine condP_t ?_ | refine condP_f ?_ | refine ifP_tt' ?_ | refine ifP_ff' ?_ | refine ifP_tf' ?_ | refine ifP_ft' ?_ | refine ifP_u' ?_ | refine optP_mk0 ?_))
          refine exec_State_c hE6 fun n7 hn7 => ?_
          (repeat (first | refine bindP_mk (by simp (disch := first | omega | exact Int.natCast_nonneg _ | assumption) only [BB, B2, ↓reduceIte, Nat.reduceLeDiff, Nat.reduceAdd, CC] <;> rfl) ?_ | refine newP_mk ?_ | refine optP_mk ?_ | with_reducible first | refine condP_t ?_ | refine condP_f ?_ | refine ifP_tt' ?_ | refine ifP_ff' ?_ | refine ifP_tf' ?_ | refine ifP_ft' ?_ | refine ifP_u' ?_ | refine optP_mk0 ?_))
          refine exec_State_c hF6 fun n8 hn8 => ?_
          rw [hsm6.1]
          (repeat (first | refine bindP_mk (by simp (disch := first | omega | exact Int.natCast_nonneg _ | assumption) only [BB, B2, ↓reduceIte, Nat.reduceLeDiff, Nat.reduceAdd, CC] <;> rfl) ?_ | refine newP_mk ?_ | refine optP_mk ?_ | with_reducible first | refine condP_t ?_ | refine condP_f ?_ | refine ifP_tt' ?_ | refine ifP_ff' ?_ | refine ifP_tf' ?_ | refine ifP_ft' ?_ | refine ifP_u' ?_ | refine optP_mk0 ?_))
          refine exec_Rule_c hE6 hokE (MOk_er q1) (hf6.mono (by omega)) fun n9 hn9 => ?_
          rw [ruleM_er, SameM.rule hsm6]
          (repeat (first | refine bindP_mk (by simp (disch := first | omega | exact Int.natCast_nonneg _ | assumption) only [BB, B2, ↓reduceIte, Nat.reduceLeDiff, Nat.reduceAdd, CC] <;> rfl) ?_ | refine newP_mk ?_ | refine optP_mk ?_ | with_reducible first | refine condP_t ?_ | refine condP_f ?_ | refine ifP_tt' ?_ | refine ifP_ff' ?_ | refine ifP_tf' ?_ | refine ifP_ft' ?_ | refine ifP_u' ?_ | refine optP_mk0 ?_))
          refine exec_Rule_c hF6 hokE (MOk_er q2) (hf6.mono (by omega)) fun n10 hn10 => ?_
          rw [ruleM_er]
          (repeat (first | refine bindP_mk (by simp (disch := first | omega | exact Int.natCast_nonneg _ | assumption) only [BB, B2, ↓reduceIte, Nat.reduceLeDiff, Nat.reduceAdd, CC] <;> rfl) ?_ | refine newP_mk ?_ | refine optP_mk ?_ | with_reducible first | refine condP_t ?_ | refine condP_f ?_ | refine ifP_tt' ?_ | refine ifP_ff' ?_ | refine ifP_tf' ?_ | refine ifP_ft' ?_ | refine ifP_u' ?_ | refine optP_mk0 ?_))
          exact hq2 (j - 1) _ _ _ _ (by omega) ⟨k + 1, m3, m4, by omega, by omega, e2, e7, e9, e11, e60, rfl, hf6.mono (by omega), hE6, hF6, q1, q2, q3.mono (by omega), q4.mono (by omega), by omega, by omega, hsm6⟩ (Sub.refl _)
        · (repeat (first | refine bindP_mk (by simp (disch := first | omega | exact Int.natCast_nonneg _ | assumption) only [BB, B2, ↓reduceIte, Nat.reduceLeDiff, Nat.reduceAdd, CC] <;> rfl) ?_ | refine newP_mk ?_ | refine optP_mk ?_ | with_reducible first | refine condP_t ?_ | refine condP_f ?_ | refine ifP_tt' ?_ | refine ifP_ff' ?_ | refine ifP_tf' ?_ | refine ifP_ft' ?_ | refine ifP_u' ?_ | refine optP_mk0 ?_))
          refine hx2 _ _ _ _ (fun e => by cases e) (exP_e (beqP_t ?_))
          have hend : ∀ (e' : Env) n', e' 7 = .bool true → nx ≤ n' → law13_ExecReset_j2 ro K e' h' n' := by
            intro e' n' f7 hn
            unfold law13_ExecReset_j2
            rw [f7]
            exact ⟨h', Sub.refl _, hK _ _ (by omega)⟩
          exact hend _ _ e7 (by omega)
      exact hj1 _ _ e2 e7 e9 e11 (by omega) (hf'.mono (by omega))
end
end V
end Go.Proofs.YtjndkdmkecpllaaGreat
set_option linter.unusedVariables false
set_option linter.unusedSimpArgs false
set_option maxRecDepth 16000
namespace Go.Proofs.YtjndkdmkecpllaaGreat
namespace V
open Go.ChangeShapes Go.WideShapes Go.ChangeAt Go.RowKit
theorem execReset_lifted (os : Os) (started : os.Started) (H : Type) (enc : TypeId × Value → H) :
    ReturnsInHanded {} Tryz.checked os 4 .any (Rows.execResetSpec.pre6 enc Tryz.prog Tryz.f4 Rows.execResetRow.domain false) (Rows.execResetSpec.post enc Tryz.prog Tryz.f4 false true false false) := by
  refine returnsInHanded_of_change_sized (C := Tryz.checked) okOwn started (by kernel_rfl) (by kernel_rfl)
    (ChangeSpec.witness6 (enc := enc) (C := Tryz.checked) false ⟨#[], #[.agg (List.replicate 256 (Value.int .u8 0) ++ [Value.int .i64 0, .slice none 0 0, .slice none 0 0]).toArray, .string .empty, .string .empty], []⟩ 8 (by kernel_rfl) (by kernel_rfl) (by kernel_rfl) (by kernel_rfl)) ?_
  intro W base args ds gs before hval hW _ _ _
  have hW' := hW
  obtain ⟨p, q, hA0, hV, rfl, hfz, hnd⟩ := hW
  have hA : DataW.TrodAll enc Tryz.prog W 0 (fun _ => true) true [y_api_Auto, y_string, y_string] args.toList ds p := hA0
  obtain ⟨v0, v1, v2, d0, d1, d2, p0, p1, p2, rfl, rfl, rfl, h0, h1, h2⟩ := trodAll_three hA
  obtain ⟨rfl, rfl⟩ := trodVars_none hV
  obtain ⟨w0, d0, a0, hd0⟩ := open_auto h0 (hval 0 y_api_Auto v0 rfl rfl)
  obtain ⟨s1, a1⟩ := open_str h1 (hval 1 y_string v1 rfl rfl)
  obtain ⟨s2, a2⟩ := open_str h2 (hval 2 y_string v2 rfl rfl)
  have hsay : Says Tryz.prog W 4 [.agg w0.toArray, .string s1, .string s2] := law13_ExecReset_c Fr.e hd0 fun _ _ _ => rfl
  refine (says_calls okZ okN okM (args := #[v0, v1, v2]) (.cons a0 (.cons a1 (.cons a2 .nil))) hsay).mono fun e W' ⟨he, hb⟩ => ?_
  subst he
  exact ⟨_, rfl, law_post (tb := y_bool) okLaid (by kernel_rfl) (by kernel_rfl) (by kernel_rfl) rfl hW' hb rfl⟩
end V
theorem execReset_holds : Rows.ExecResetSaid :=
  OpenClaim.holds_of_wide 4 Tryz.f4 rfl rfl rfl rfl rfl rfl rfl ⟨rfl, rfl, rfl, rfl, rfl⟩ rfl rfl rfl rfl rfl (by kernel_rfl) (by kernel_rfl) (by kernel_rfl)
    (of_decide_eq_true (by kernel_rfl)) (by unfold Func.isWrapper; rw [if_neg (of_decide_eq_false (by kernel_rfl))]; exact ⟨rfl, rfl⟩)
    (fun os started H enc _ => V.execReset_lifted os started H enc)
end Go.Proofs.YtjndkdmkecpllaaGreat