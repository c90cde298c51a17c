/- The machine of VA held against the model's: slices, indexes, conversions, lengths.
   No condition. -/
import Derived.Test.YtepbdkfkfcckoaaVG
set_option linter.unusedVariables false
set_option linter.unusedSimpArgs false
namespace Go.Proofs.Ytepbdkfkfcckoaa
namespace V

section
variable {P : Program} {ro : Ro} {N : Nat} {φ : Phi} {w0 w : World} {H : Nat → Option Obj} {h : T Obj}
theorem natV_int {v : Value} {n : Nat} (h : natV v = some n) : ∃ k m, v = .int k m ∧ 0 ≤ m ∧ m.toNat = n := by
  unfold natV at h
  cases v <;> simp at h
  rename_i k m
  by_cases hm : 0 ≤ m <;> simp [hm] at h
  exact ⟨k, m, rfl, hm, h⟩
theorem natV_same {v v' : Value} {n : Nat} (h : natV v = some n) (hv : VR N φ v v') : v' = v := by
  obtain ⟨k, m, rfl, _, _⟩ := natV_int h
  exact hv.of_int
theorem bound_run {v : Value} {n y : Nat} (code : BoundsCode) (h : natV v = some n) (hy : n ≤ y) : (Instr.sliceBound v y code).run P w = .ok n w := by
  obtain ⟨k, m, rfl, h0, rfl⟩ := natV_int h
  simp only [Instr.sliceBound, asIntOf, Sem.run_bind, Sem.run_pure, Result.andThen_ok]
  rw [if_pos (by omega)]; rfl
/-- A bound. -/
inductive BR (o : Option Value) (d top : Nat) (n : Nat) : Prop where
  | no (h : o = none) (hn : n = d)
  | yes (v : Value) (h : o = some v) (hv : natV v = some n) (hn : n ≤ top)
theorem boundV_BR {o : Option Value} {d top n : Nat} (h : boundV o d top = some n) : BR o d top n := by
  unfold boundV at h
  cases o with
  | none => simp at h; exact .no rfl h.symm
  | some v =>
    simp only at h
    cases hv : natV v with
    | none => rw [hv] at h; cases h
    | some k =>
      rw [hv] at h
      simp only [Option.bind] at h
      cases hb : Nat.ble k top with
      | false => rw [hb] at h; cases h
      | true => rw [hb] at h; cases h; exact .yes v rfl hv (Nat.le_of_ble_eq_true hb)
theorem bounds_run {isS : Bool} {len cap l hh m : Nat} {lo hi mx : Option Value} (hm : BR mx cap cap m) (hx : (mx.isNone || hi.isSome) = true) (hh' : BR hi len m hh) (hl : BR lo 0 hh l) :
    (Instr.sliceBounds isS len cap lo hi mx).run P w = .ok (l, hh, m) w := by
  unfold Instr.sliceBounds
  rcases hm with ⟨rfl, rfl⟩ | ⟨vm, rfl, hmv, hmn⟩
  · rcases hh' with ⟨rfl, rfl⟩ | ⟨vh, rfl, hhv, hhn⟩ <;> rcases hl with ⟨rfl, rfl⟩ | ⟨vl, rfl, hlv, hln⟩
    · simp
    · simp [bound_run _ hlv hln]
    · simp [bound_run _ hhv hhn]
    · simp [bound_run _ hlv hln, bound_run _ hhv hhn]
  · rcases hh' with ⟨rfl, rfl⟩ | ⟨vh, rfl, hhv, hhn⟩
    · simp at hx
    · rcases hl with ⟨rfl, rfl⟩ | ⟨vl, rfl, hlv, hln⟩
      · simp [bound_run _ hhv hhn, bound_run _ hmv hmn]
      · simp [bound_run _ hhv hhn, bound_run _ hmv hmn, bound_run _ hlv hln]
/-- A bound is a number, if there is one. -/
def numO (o : Option Value) : Prop := ∀ v, o = some v → ∃ k n, v = Value.int k n
theorem BR.num {o : Option Value} {d top n : Nat} (h : BR o d top n) : numO o := by
  intro v e
  rcases h with ⟨rfl, _⟩ | ⟨u, rfl, hv, _⟩
  · cases e
  · cases e
    obtain ⟨k, m, rfl, _⟩ := natV_int hv
    exact ⟨k, m, rfl⟩
theorem slice_sound {t : TypeId} {x x' v : Value} {lo hi mx : Option Value} (hs : sliceV P t x lo hi mx = some v) (hx : VR N φ x x') :
    (∃ v', (Instr.sliceAt t x' lo hi mx).run P w = .ok v' w ∧ VR N φ v v') ∧ numO lo ∧ numO hi ∧ numO mx := by
  unfold sliceV at hs
  cases hu : und P t with
  | none => rw [hu] at hs; cases hs
  | some d =>
    rw [hu] at hs
    cases d <;> cases x <;> simp only at hs <;> try (cases hs; done)
    case string.string s0 =>
      cases mx with
      | some m => cases hs
      | none =>
        simp only at hs
        cases hh : boundV hi s0.size s0.size with
        | none => rw [hh] at hs; cases hs
        | some hb =>
          rw [hh] at hs
          simp only [Option.bind] at hs
          cases hl : boundV lo 0 hb with
          | none => rw [hl] at hs; cases hs
          | some lb =>
            rw [hl] at hs; cases hs
            have b1 := boundV_BR hh
            have b2 := boundV_BR hl
            refine ⟨?_, b2.num, b1.num, by intro v e; cases e⟩
            rw [hx.of_string]
            refine ⟨_, ?_, .flat rfl⟩
            unfold Instr.sliceAt Instr.slice
            have hbr : (Instr.sliceBounds false s0.size s0.size lo hi none).run P w = .ok (lb, hb, s0.size) w := bounds_run (.no rfl rfl) (by simp) b1 b2
            simp [run_und hu, hbr]
    case slice.slice e a len cap =>
      cases hz : siz P e with
      | none => rw [hz] at hs; cases hs
      | some z =>
        rw [hz] at hs
        simp only [Option.bind] at hs
        cases hm : boundV mx cap cap with
        | none => rw [hm] at hs; cases hs
        | some m =>
          rw [hm] at hs
          simp only at hs
          cases hh : boundV hi len m with
          | none => rw [hh] at hs; cases hs
          | some hb =>
            rw [hh] at hs
            simp only at hs
            cases hl : boundV lo 0 hb with
            | none => rw [hl] at hs; cases hs
            | some l =>
              rw [hl] at hs
              simp only at hs
              cases h1 : Nat.ble hb m with
              | false => rw [h1] at hs; cases hs
              | true =>
                cases hmx : (mx.isNone || hi.isSome) with
                | false => rw [h1, hmx] at hs; cases hs
                | true =>
                  rw [h1, hmx] at hs
                  simp only at hs
                  have hbm := Nat.le_of_ble_eq_true h1
                  have b0 := boundV_BR hm
                  have b1 := boundV_BR hh
                  have b2 := boundV_BR hl
                  have hlh : l ≤ hb := by rcases b2 with ⟨_, rfl⟩ | ⟨_, _, _, h⟩ <;> omega
                  refine ⟨?_, b2.num, b1.num, b0.num⟩
                  cases a with
                  | none =>
                    simp only at hs; cases hs
                    rw [hx.of_nilSlice]
                    refine ⟨_, ?_, .flat rfl⟩
                    unfold Instr.sliceAt Instr.slice
                    have hbr : (Instr.sliceBounds true len cap lo hi mx).run P w = .ok (l, hb, m) w := bounds_run b0 hmx b1 b2
                    simp [run_und hu, hbr, run_siz hz]
                  | some b =>
                    simp only at hs
                    obtain ⟨b', c', rfl, hsr⟩ := hx.of_slice
                    have hcc : cap ≤ c' := by
                      rcases hsr with hsr | ⟨_, rfl, rfl, _⟩
                      · cases hsr with
                        | ro _ _ => exact Nat.le_refl _
                        | own _ _ h _ => exact h
                      · exact Nat.le_refl _
                    have hm' : ∃ m', BR mx c' c' m' ∧ m ≤ m' ∧ m' ≤ c' ∧ (mx ≠ none → m' = m) ∧ (mx = none → m' = c' ∧ m = cap) := by
                      rcases b0 with ⟨rfl, rfl⟩ | ⟨vm, rfl, hmv, hmn⟩
                      · exact ⟨c', .no rfl rfl, hcc, Nat.le_refl _, by simp, fun _ => ⟨rfl, rfl⟩⟩
                      · exact ⟨m, .yes vm rfl hmv (by omega), Nat.le_refl _, by omega, fun _ => rfl, by simp⟩
                    obtain ⟨m', q1, q2, q3, q4, q5⟩ := hm'
                    have b1' : BR hi len m' hb := by
                      rcases b1 with ⟨rfl, rfl⟩ | ⟨vh, rfl, hv, hn⟩
                      · exact .no rfl rfl
                      · exact .yes vh rfl hv (by omega)
                    have hbr : (Instr.sliceBounds true len c' lo hi mx).run P w = .ok (l, hb, m') w := bounds_run q1 hmx b1' b2
                    have hrun : (Instr.sliceAt t (.slice (some b') len c') lo hi mx).run P w = .ok (.slice (if m' = l then some b' else (some b').map (·.add (l * z))) (hb - l) (m' - l)) w := by
                      unfold Instr.sliceAt Instr.slice
                      simp [run_und hu, hbr, run_siz hz]
                    refine ⟨_, hrun, ?_⟩
                    rcases hsr with hsr | ⟨rfl, rfl, rfl, hsr⟩
                    · cases hsr with
                      | ro hs0 hb0 =>
                        rw [hs0] at hs
                        simp only at hs
                        have hmm : m' = m := by
                          by_cases e : mx = none
                          · have := q5 e; omega
                          · exact q4 e
                        subst hmm
                        cases hq : Nat.beq m' l with
                        | true =>
                          rw [hq] at hs; cases hs
                          rw [if_pos (Nat.eq_of_beq_eq_true hq)]
                          exact .sliceRo hs0 hb0
                        | false =>
                          rw [hq] at hs; cases hs
                          have hne : m' ≠ l := by intro e; rw [e] at hq; simp at hq
                          rw [if_neg hne]
                          have he : b.add (l * z) = fwd b (l * z) := by rw [add_spot hs0]; unfold fwd; rw [hs0]
                          show VR N φ _ (.slice (some (b.add (l * z))) _ _)
                          rw [he]
                          exact .sliceRo hs0 hb0
                      | own hφ hs0 hc hr =>
                        rename_i z0 B o r
                        rw [hs0] at hs
                        simp only at hs
                        cases hq : Nat.beq z z0 with
                        | false => rw [hq] at hs; cases hs
                        | true =>
                          rw [hq] at hs; cases hs
                          have e := Nat.eq_of_beq_eq_true hq
                          subst e
                          by_cases hml : m' = l
                          · rw [if_pos hml]
                            have e1 : m - l = 0 := by omega
                            have e2 : m' - l = 0 := by omega
                            have e3 : hb - l = 0 := by omega
                            rw [e1, e2, e3]
                            exact .sliceEnd (a := fwd b (l * z)) hφ hs0
                          · rw [if_neg hml]
                            show VR N φ _ (.slice (some (Addr.add ⟨B, o + b.off, none⟩ (l * z))) _ _)
                            rw [Addr.add_lit, Nat.add_assoc]
                            refine .sliceOwn (a := fwd b (l * z)) hφ hs0 (by omega) ?_
                            have : l * z + (m' - l) * z = m' * z := by rw [← Nat.add_mul]; congr 1; omega
                            have : m' * z ≤ c' * z := Nat.mul_le_mul_right _ q3
                            show b.off + l * z + (m' - l) * z ≤ r
                            omega
                    · have e1 : m' = 0 := by omega
                      have e2 : m = 0 := by omega
                      have e3 : hb = 0 := by omega
                      have e4 : l = 0 := by omega
                      subst e1 e2 e3 e4
                      rcases hsr with hs0 | ⟨z0, B, o, r, hs0, hφ, hb0, hB⟩
                      · rw [hs0] at hs
                        simp only at hs
                        cases hs
                        exact .sliceNo hs0
                      rw [hs0] at hs
                      simp only at hs
                      cases hq : Nat.beq z z0 with
                      | false => rw [hq] at hs; cases hs
                      | true =>
                        rw [hq] at hs; cases hs
                        obtain ⟨bb, bo, bs⟩ := b'
                        change bs = none at hb0; change bb = B at hB; subst hb0 hB
                        exact .sliceEnd (a := fwd b (0 * z)) hφ hs0
theorem indexAddr_sound {t : TypeId} {x x' i i' v : Value} (hs : indexAddrV P t x i = some v) (hx : VR N φ x x') (hi : VR N φ i i') :
    ∃ v', (Instr.indexAt t x' i').run P w = .ok v' w ∧ VR N φ v v' := by
  unfold indexAddrV at hs
  cases hn : natV i with
  | none => rw [hn] at hs; cases hs
  | some n =>
    rw [hn] at hs
    rw [natV_same hn hi]
    obtain ⟨k, m, rfl, h0, rfl⟩ := natV_int hn
    simp only [Option.bind] at hs
    cases hu : und P t with
    | none => rw [hu] at hs; cases hs
    | some d =>
      rw [hu] at hs
      cases d <;> cases x <;> (try simp only at hs) <;> try (cases hs; done)
      case array.pointer l e a =>
        cases a with
        | none => cases hs
        | some a =>
          dsimp only at hs
          cases hz : siz P e with
          | none => rw [hz] at hs; cases hs
          | some z =>
            rw [hz] at hs
            simp only at hs
            cases hb : Nat.blt m.toNat l with
            | false => rw [hb] at hs; cases hs
            | true =>
              rw [hb] at hs; cases hs
              have hlt : m.toNat < l := by have := hb; simp [Nat.blt] at this; omega
              obtain ⟨b, rfl, ha⟩ := hx.of_ptr
              refine ⟨_, ?_, (ha.fwd (m.toNat * z)).ptr⟩
              have hc : 0 ≤ m ∧ m < (l : Int) := ⟨h0, by omega⟩
              simp [Instr.indexAt, asIntOf, run_und hu, Instr.sureAddr, hc, run_siz hz]
      case slice.slice e a len cap =>
        cases a with
        | none => cases hs
        | some a =>
          dsimp only at hs
          cases hz : siz P e with
          | none => rw [hz] at hs; cases hs
          | some z =>
            rw [hz] at hs
            simp only at hs
            cases hb : Nat.blt m.toNat len with
            | false => rw [hb] at hs; cases hs
            | true =>
              rw [hb] at hs
              simp only at hs
              have hlt : m.toNat < len := by have := hb; simp [Nat.blt] at this; omega
              obtain ⟨b, c', rfl, hsr⟩ := hx.of_slice
              have hc : 0 ≤ m ∧ m < (len : Int) := ⟨h0, by omega⟩
              have hrun : (Instr.indexAt t (.slice (some b) len c') (.int k m)).run P w = .ok (.pointer (some (b.add (m.toNat * z)))) w := by
                simp [Instr.indexAt, asIntOf, run_und hu, Instr.sureAddr, hc, run_siz hz]
              refine ⟨_, hrun, ?_⟩
              rcases hsr with hsr | ⟨e0, _⟩
              · cases hsr with
                | ro hs0 hb0 =>
                  rw [hs0] at hs; cases hs
                  exact (AR.fwd (.inl ⟨hs0, hb0, rfl⟩) _).ptr
                | own hφ hs0 hcc hr =>
                  rename_i z0 B o r
                  rw [hs0] at hs
                  simp only at hs
                  cases hq : Nat.beq z z0 with
                  | false => rw [hq] at hs; cases hs
                  | true =>
                    rw [hq] at hs; cases hs
                    rw [Addr.add_lit, Nat.add_assoc]
                    exact .ptrOwn (a := elt a (m.toNat * z)) (z := 0) hφ (by simp [elt, hs0])
              · omega
theorem part_sound {t : TypeId} {xs ys : Array Value} {off : Nat} {v : Value} (hp : partV P t xs off = some v) (hl : LR N φ xs.toList ys.toList) :
    ∃ v', (part t ys off).run P w = .ok v' w ∧ VR N φ v v' := by
  unfold partV at hp
  cases hg : isAgg P t with
  | none => rw [hg] at hp; cases hp
  | some g =>
    rw [hg] at hp
    cases g with
    | true =>
      simp only at hp
      cases hs : siz P t with
      | none => rw [hs] at hp; cases hp
      | some n =>
        rw [hs] at hp
        simp only [Option.bind] at hp
        cases hb : Nat.ble (off + n) xs.size with
        | false => rw [hb] at hp; cases hp
        | true =>
          rw [hb] at hp; cases hp
          refine ⟨.agg (ys.extract off (off + n)), ?_, VR.aggL ?_⟩
          · unfold part; simp [run_agg hg, run_siz hs]
          · have e : (ys.extract off (off + n)).toList = (ys.toList.drop off).take n := by simp [List.extract_eq_take_drop]
            rw [e]
            exact (hl.drop off).take n
    | false =>
      simp only at hp
      obtain ⟨y, hy, hv⟩ := hl.some (by simpa using hp : xs.toList[off]? = some v)
      refine ⟨y, ?_, hv⟩
      have : ys[off]? = some y := by simpa using hy
      unfold part; simp [run_agg hg, this]
theorem bytes_get (s : ByteArray) (n : Nat) : s[n]? = s.data.toList[n]? := by
  obtain ⟨⟨l⟩⟩ := s
  show (if h : n < (ByteArray.mk ⟨l⟩).size then some (ByteArray.mk ⟨l⟩)[n] else none) = l[n]?
  by_cases h : n < l.length
  · rw [dif_pos (show n < (ByteArray.mk ⟨l⟩).size from h), List.getElem?_eq_getElem h]; rfl
  · rw [dif_neg (show ¬ n < (ByteArray.mk ⟨l⟩).size from h), List.getElem?_eq_none (by omega)]
theorem index_sound {t : TypeId} {x x' i i' v : Value} (hs : indexV P t x i = some v) (hx : VR N φ x x') (hi : VR N φ i i') :
    ∃ v', (Instr.index t x' i').run P w = .ok v' w ∧ VR N φ v v' := by
  unfold indexV at hs
  cases hn : natV i with
  | none => rw [hn] at hs; cases hs
  | some n =>
    rw [hn] at hs
    rw [natV_same hn hi]
    obtain ⟨k, m, rfl, h0, rfl⟩ := natV_int hn
    simp only [Option.bind] at hs
    cases hu : und P t with
    | none => rw [hu] at hs; cases hs
    | some d =>
      rw [hu] at hs
      cases d <;> cases x <;> simp only at hs <;> try (cases hs; done)
      case array.agg l e xs =>
        cases hz : siz P e with
        | none => rw [hz] at hs; cases hs
        | some z =>
          rw [hz] at hs
          simp only at hs
          cases hb : Nat.blt m.toNat l with
          | false => rw [hb] at hs; cases hs
          | true =>
            rw [hb] at hs
            simp only at hs
            have hlt : m.toNat < l := by have := hb; simp [Nat.blt] at this; omega
            obtain ⟨ys, rfl, hl⟩ := hx.of_agg
            obtain ⟨v', hv', hr⟩ := part_sound (w := w) hs hl
            refine ⟨v', ?_, hr⟩
            have hc : 0 ≤ m ∧ m < (l : Int) := ⟨h0, by omega⟩
            simp [Instr.index, asIntOf, run_und hu, hc, run_siz hz, hv']
      case string.string s0 =>
        cases hb : s0.data.toList[m.toNat]? with
        | none => rw [hb] at hs; cases hs
        | some b =>
          rw [hb] at hs; cases hs
          rw [hx.of_string]
          refine ⟨_, ?_, .flat rfl⟩
          have e : s0[m.toNat]? = some b := by rw [bytes_get]; exact hb
          simp [Instr.index, asIntOf, run_und hu, h0, e]
end
end V
end Go.Proofs.Ytepbdkfkfcckoaa
