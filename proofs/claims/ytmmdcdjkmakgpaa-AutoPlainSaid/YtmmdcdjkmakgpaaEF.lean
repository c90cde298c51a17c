/- Automata without counted places; classes' least bytes. Plain: no program in sight.
   No condition. -/
import Derived.Test.YtmmdcdjkmakgpaaES
set_option linter.unusedVariables false
set_option linter.unusedSimpArgs false
namespace Go.Proofs.Ytmmdcdjkmakgpaa
namespace V
open PA
theorem ofZ_ok {g : GlD} (h : (ofZ g).1 = 0) : rightD g = true ∧ ∃ S, (ofZ g).2 = ofD g S ∧ Made g (ofB g) S S.length 0 ∧ (allZ g (ofB g) 256 0 [noS]) = (0, S) := by
  unfold ofZ at h ⊢
  cases hr : rightD g with
  | false => rw [hr, if_neg (by decide)] at h; exact absurd h (by show ¬ (1 : Int) = 0; decide)
  | true =>
    rw [hr, if_pos rfl] at h
    rw [if_pos rfl]
    by_cases hz : (allZ g (ofB g) 256 0 [noS]).1 = 0
    · rw [if_pos hz]
      exact ⟨rfl, _, rfl, all_made hz, by rw [← hz]⟩
    · rw [if_neg hz] at h; exact absurd h hz
/-- What a byte's class is, and its least byte. -/
theorem class_byte (g : GlD) {b : Nat} (hb : b < 256) : ∃ k b', (cls (setsL g.p))[b]? = some k ∧ k < many (setsL g.p) ∧ (ofB g)[k]? = some b' ∧ b' < 256 ∧ ∀ en st, lZ g en st b' = lZ g en st b := by
  have hc := cls_length (setsL g.p)
  have hk : (cls (setsL g.p)).getD b 0 < many (setsL g.p) := cls_many hb
  obtain ⟨h1, h2, _⟩ := lb_cls hk
  refine ⟨(cls (setsL g.p)).getD b 0, lb (cls (setsL g.p)) ((cls (setsL g.p)).getD b 0) 0, ?_, hk, ?_, h1, fun en st => ?_⟩
  · rw [List.getD_eq_getElem?_getD, List.getElem?_eq_getElem (by omega)]; rfl
  · unfold ofB
    rw [firstZ_cls, List.getElem?_map, List.getElem?_range hk]; rfl
  · have hs := (cls_eq h1 hb).1 h2
    unfold lZ
    refine List.filter_congr fun q hq => ?_
    obtain ⟨q1, q2⟩ := placesZ_mem hq
    unfold takesZ
    have : (g.at q).s.testBit (lb (cls (setsL g.p)) ((cls (setsL g.p)).getD b 0) 0) = (g.at q).s.testBit b := by
      have hl : q.toNat < g.p.length := by omega
      have e1 := congrArg (fun l => l[q.toNat]?) hs
      simp only [sig, setsL, List.map_map, List.getElem?_map, List.getElem?_eq_getElem hl, Option.map_some, Function.comp, Option.some.injEq] at e1
      unfold GlD.at
      rw [List.getD_eq_getElem?_getD, List.getElem?_eq_getElem hl]
      exact e1
    rw [this]
theorem ofB_many (g : GlD) : (ofB g).length = many (setsL g.p) := by
  unfold ofB
  rw [firstZ_cls, List.length_map, List.length_range]
def oneP (p : PosD) : PosD := ⟨p.s, 1, 1, p.rule, p.last, p.next⟩
def plainG (x : GlD) : GlD := ⟨x.first, x.p.map oneP⟩
theorem plain_ctd (x : GlD) (q : Int) : ctd (plainG x) q = false := by
  unfold ctd GlD.at plainG
  rw [List.getD_eq_getElem?_getD, List.getElem?_map]
  cases x.p[q.toNat]? with
  | none => rfl
  | some p => rfl
theorem plain_regs (x : GlD) (l : List Int) : regsZ (plainG x) l = [] := by
  unfold regsZ
  have : l.filter (ctd (plainG x)) = [] := List.filter_eq_nil_iff.2 fun q _ => by rw [plain_ctd]; decide
  rw [this]; rfl
theorem plain_cnts (x : GlD) : cntsL (plainG x).p = [] := by
  unfold cntsL
  have : (plainG x).p.filter ctdP = [] := List.filter_eq_nil_iff.2 fun p hp => by
    obtain ⟨q, _, rfl⟩ := List.mem_map.1 hp
    show ¬ decide (1 < (1 : Int)) = true
    decide
  rw [this]; rfl
/-- Each state has one code. -/
theorem plain_state {x : GlD} {S : List StateD} (hm : Made (plainG x) (ofB (plainG x)) S S.length 0) {i : Nat} {s : StateD} (hs : S[i]? = some s) : s.r = [] ∧ s.rule.length = 1 ∧ s.next.length = 1 ∧ ∀ row, s.next[0]? = some row → row.length = many (setsL (plainG x).p) := by
  obtain ⟨o1, o2, o3⟩ := hm.base.ok s (List.mem_of_getElem? hs)
  rw [plain_regs] at o2
  obtain ⟨c1, c2⟩ := hm.codes hs
  rw [o2] at c1 c2
  refine ⟨o2, c1, c2, fun row hr => ?_⟩
  rw [(hm.next i s 0 row hs hr).1, ofB_many]
/-- From the beginning one goes just where some first place takes the byte. -/
theorem plain_begin {x : GlD} {S : List StateD} (hr : rightD (plainG x) = true) (hm : Made (plainG x) (ofB (plainG x)) S S.length 0) {b : Nat} (hb : b < 256) : ∃ k s row m, (cls (setsL (plainG x).p))[b]? = some k ∧ k < many (setsL (plainG x).p) ∧ S[0]? = some s ∧ s.rule[0]? = some (-1) ∧ s.next[0]? = some row ∧ row[k]? = some m ∧ decide (0 < m.to) = x.first.any fun q => ((plainG x).at q).s.testBit b := by
  obtain ⟨s, hs, hl⟩ := hm.base.zero
  obtain ⟨h1, h2, h3, h4⟩ := plain_state hm hs
  obtain ⟨k, b', hk, hkm, hB, hb', hlz⟩ := class_byte (plainG x) hb
  obtain ⟨row, hrow⟩ : ∃ row, s.next[0]? = some row := ⟨_, List.getElem?_eq_getElem (by omega)⟩
  obtain ⟨ru, hru⟩ : ∃ ru, s.rule[0]? = some ru := ⟨_, List.getElem?_eq_getElem (by omega)⟩
  have hrl := h4 row hrow
  obtain ⟨m, hmm⟩ : ∃ m, row[k]? = some m := ⟨_, List.getElem?_eq_getElem (by omega)⟩
  have hrule := hm.rule 0 s 0 ru hs hru
  have hmv := (hm.next 0 s 0 row hs hrow).2 k b' m hB hmm
  rw [hl] at hrule hmv
  have hrule : ru = -1 := hrule
  subst hrule
  refine ⟨k, s, row, m, hk, hkm, hs, hru, hrow, hmm, ?_⟩
  have hmem : ∀ q, q ∈ lZ (plainG x) (entersZ (plainG x) 0 (digs (plainG x) [] (0 : Nat))) (staysZ (digs (plainG x) [] (0 : Nat))) b ↔ q ∈ x.first ∧ ((plainG x).at q).s.testBit b = true := by
    intro q
    unfold lZ
    rw [List.mem_filter]
    have hen : entersZ (plainG x) 0 (digs (plainG x) [] (0 : Nat)) q = x.first.contains q := by
      unfold entersZ digs
      simp; rfl
    have hst : staysZ (digs (plainG x) [] (0 : Nat)) q = false := rfl
    unfold takesZ
    rw [hen, hst, Bool.or_false, Bool.and_eq_true]
    constructor
    · rintro ⟨_, h5, h6⟩
      exact ⟨by simpa using h6, h5⟩
    · rintro ⟨h5, h6⟩
      refine ⟨?_, h6, by simpa using h5⟩
      obtain ⟨_, hfr, _⟩ := right_parts hr
      have := rz_mem hfr q h5
      simp only [placesZ, List.mem_map, List.mem_range]
      exact ⟨q.toNat, by omega, by omega⟩
  rw [← Bool.eq_iff_iff.2 (show (decide (0 < m.to) = true ↔ _) from Iff.rfl)]
  rcases hmv with ⟨g1, g2, g3⟩ | ⟨g1, kk, t, g2, g3, g4, g5⟩
  · rw [hlz] at g1
    have : x.first.any (fun q => ((plainG x).at q).s.testBit b) = false := by
      rw [List.any_eq_false]
      intro q hq hbit
      have := (hmem q).2 ⟨hq, hbit⟩
      rw [g1] at this; cases this
    rw [this, g2]; rfl
  · rw [hlz] at g1 g4
    have h0 : kk ≠ 0 := by
      rintro rfl
      rw [hs] at g3
      cases g3
      exact g1 (by rw [← g4]; exact hl)
    have : x.first.any (fun q => ((plainG x).at q).s.testBit b) = true := by
      rw [List.any_eq_true]
      obtain ⟨q, hq⟩ := List.exists_mem_of_ne_nil _ g1
      obtain ⟨h5, h6⟩ := (hmem q).1 hq
      exact ⟨q, h5, h6⟩
    rw [this, g2]
    exact decide_eq_true (by omega)
end V
end Go.Proofs.Ytmmdcdjkmakgpaa
