/- What nca's step hands back.
   No condition. -/
import Derived.Test.YtepbdkfkfcckoaaNG
set_option linter.unusedVariables false
set_option linter.unusedSimpArgs false
namespace Go.Proofs.Ytepbdkfkfcckoaa
namespace V
open PA
attribute [local irreducible] bindP ifP condP newP optP exP beqP
theorem und_ints : und Try.prog y_s_int = some (.slice y_int) := by kernel_rfl
theorem und_helds : und Try.prog y_s_api_Held = some (.slice y_api_Held) := by kernel_rfl
theorem und_rows : und Try.prog y_s_s_int = some (.slice y_s_int) := by kernel_rfl
theorem tin_of {t : TypeId} {s b : Nat} (h : (tin Try.prog t).map (fun i => (i.size, i.bytes)) = some (s, b)) : ∃ i, tin Try.prog t = some i ∧ i.size = s ∧ i.bytes = b := by
  cases hi : tin Try.prog t with
  | none => rw [hi] at h; cases h
  | some i => rw [hi] at h; simp at h; exact ⟨i, rfl, h.1, h.2⟩
theorem tin_int : ∃ i, tin Try.prog y_int = some i ∧ i.size = 1 ∧ i.bytes = 8 := tin_of (by kernel_rfl)
theorem tin_held : ∃ i, tin Try.prog y_api_Held = some i ∧ i.size = 2 ∧ i.bytes = 32 := tin_of (by kernel_rfl)
theorem tin_row : ∃ i, tin Try.prog y_s_int = some i ∧ i.size = 1 ∧ i.bytes = 24 := tin_of (by kernel_rfl)
theorem zer_int : zer Try.prog y_int = some (.int .i64 0) := by kernel_rfl
theorem zer_row : zer Try.prog y_s_int = some (.slice none 0 0) := by kernel_rfl
theorem zer_rows : zer Try.prog y_s_s_int = some (.slice none 0 0) := by kernel_rfl
theorem zer_Config : zer Try.prog y_api_Config = some (.agg #[.bool false, .slice none 0 0]) := by kernel_rfl
theorem lit_held (aid : Nat) (q w : Value) : sliceLitV Try.prog y_s_api_Held aid 1 [(0, .agg #[q, w])] = some (.slice (some (own aid 2)) 1 1, some (.cells #[q, w] y_api_Held)) := by kernel_rfl
theorem build_held (q w : Value) (hw : w.cells = #[w]) (hq : q.cells = #[q]) : buildV Try.prog y_api_Held [(0, q), (1, w)] = some (.agg #[q, w]) := by
  have hz := zer_Held
  have hp : (match und Try.prog y_api_Held with | some (.struct fs) => placesV Try.prog fs.toList | _ => none) = some [(0, 1), (1, 1)] := by kernel_rfl
  unfold buildV
  rw [hz]
  simp only [Option.bind]
  cases hu : und Try.prog y_api_Held with
  | none => rw [hu] at hp; cases hp
  | some d =>
    rw [hu] at hp
    cases d <;> try (cases hp; done)
    rename_i fs
    simp only at hp ⊢
    rw [hp]
    simp only [fillV, hq, hw]
    rfl
theorem zerosV_nil : ∀ n : Nat, zerosV [.slice none 0 0] n = List.replicate n (.slice none 0 0)
  | 0 => rfl
  | n + 1 => by simp [zerosV, zerosV_nil n, List.replicate_succ]
theorem make_rows {aid n : Nat} (h1 : n ≤ 1000000) : makeV Try.prog y_s_s_int aid (.int .i64 (n : Int)) (.int .i64 (n : Int)) = some (.slice (some (own aid 1)) n n, some (.cells (List.replicate n (Value.slice none 0 0)).toArray y_s_int)) := by
  obtain ⟨i, g1, g2, g3⟩ := tin_row
  have hb : Nat.ble (n * 24) big = true := Nat.ble_eq_true_of_le (by unfold big; omega)
  have e1 : decide ((0 : Int) ≤ (n : Int)) = true := by simp
  have e2 : decide ((n : Int) ≤ (n : Int)) = true := by simp
  have e3 : decide ((n : Int) ≤ 70368744177664) = true := by simp; omega
  have hz : zrow Try.prog y_s_int n = some (List.replicate n (.slice none 0 0)) := by
    cases n with
    | zero => rfl
    | succ m =>
      have hs : siz Try.prog y_s_int = some 1 := by kernel_rfl
      unfold zrow
      simp only [zer_row, hs, Option.bind_some]
      have h3 : Nat.beq (Value.cells (.slice none 0 0)).size 1 = true := rfl
      have h4 : Nat.blt 0 1 = true := rfl
      rw [h3, h4]
      simp only
      rw [← zerosV_nil]; rfl
  unfold makeV
  simp only [und_rows, e1, e2, g1, Option.bind_some, g3, Int.toNat_natCast, hb, e3, hz, g2]
/-! ### Plain -/
/-- Those that are entered, of some of those that are held. -/
def nexts (g : GlD) (l : List HeldD) : List Int := l.flatMap fun h => if ripeD g h then (g.at h.p).next else []
theorem nexts_snoc (g : GlD) (l : List HeldD) (d : HeldD) : nexts g (l ++ [d]) = nexts g l ++ (if ripeD g d then (g.at d.p).next else []) := by simp [nexts]
def entE0 (g : GlD) (c : CfgD) : List Int := if c.b then g.first else []
theorem enters_eq {g : GlD} {c : CfgD} (hc : fitsD g c = true) (q : Int) : (entE0 g c ++ nexts g c.l).contains q = entersD g c q := by
  unfold entE0 entersD
  by_cases hb : c.b = true
  · have : c.l = [] := by unfold fitsD at hc; rw [if_pos hb] at hc; simpa using hc
    rw [if_pos hb, if_pos hb, this]; simp [nexts]
  · rw [if_neg hb, if_neg hb, List.nil_append, Bool.eq_iff_iff]
    simp only [List.contains_iff_mem, nexts, List.mem_flatMap, List.any_eq_true, Bool.and_eq_true]
    constructor
    · rintro ⟨h, h1, h2⟩
      by_cases hr : ripeD g h = true
      · rw [if_pos hr] at h2; exact ⟨h, h1, hr, h2⟩
      · rw [if_neg hr] at h2; cases h2
    · rintro ⟨h, h1, h2, h3⟩
      exact ⟨h, h1, by rw [if_pos h2]; exact h3⟩
theorem st_cnt {g : GlD} {c : CfgD} {b : Nat} {cs : List (List Int)} (hc : fitsD g c = true) (h : StI g b (entE0 g c ++ nexts g c.l) c.l cs) {q : Nat} (hq : q < g.p.length) : cs.getD q [] = cntD g c b q := by
  rw [h.2 q hq, enters_eq hc]; rfl
def outL (cs : List (List Int)) (k : Nat) : List HeldD := (List.range k).flatMap fun q : Nat => heldOf q (cs.getD q [])
theorem outL_succ (cs : List (List Int)) (k : Nat) : outL cs (k + 1) = outL cs k ++ heldOf k (cs.getD k []) := by simp [outL, List.range_succ]
theorem outL_len (cs : List (List Int)) : ∀ k, (outL cs k).length ≤ k
  | 0 => by simp [outL]
  | k + 1 => by
    rw [outL_succ, List.length_append]
    have := outL_len cs k
    unfold heldOf
    split <;> simp <;> omega
theorem outL_step {g : GlD} {c : CfgD} {b : Nat} {cs : List (List Int)} (h : ∀ q : Nat, q < g.p.length → cs.getD q [] = cntD g c b q) : outL cs g.p.length = stepL g c b := by
  unfold outL stepL
  have : ∀ l : List Nat, (∀ q ∈ l, q < g.p.length) → l.flatMap (fun q : Nat => heldOf q (cs.getD q [])) = l.flatMap (fun q : Nat => heldOf q (cntD g c b q)) := by
    intro l
    induction l with
    | nil => intro _; rfl
    | cons x r ih =>
      intro hl
      rw [List.flatMap_cons, List.flatMap_cons, ih fun q hq => hl q (by simp [hq]), h x (hl x (by simp))]
  exact this _ fun q hq => by simpa using hq
end V
end Go.Proofs.Ytepbdkfkfcckoaa
