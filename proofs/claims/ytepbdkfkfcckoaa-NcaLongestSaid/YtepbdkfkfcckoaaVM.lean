/- The machine of VA held against the model's: appends, copies, maps.
   No condition. -/
import Derived.Test.YtepbdkfkfcckoaaVL
set_option linter.unusedVariables false
set_option linter.unusedSimpArgs false
namespace Go.Proofs.Ytepbdkfkfcckoaa
namespace V
section
variable {P : Program} {ro : Ro} {N : Nat} {φ : Phi} {w0 w : World} {h : T Obj} {nx : Nat}
/-- What is appended, in the model: how many elements, which cells. -/
inductive Src (P : Program) (w : World) (e : TypeId) (i : TypeInfo) (t1 : TypeId) (x' : Value) (n : Nat) (news : List Value) : Prop where
  | plain (d : TypeDesc) (hd : und P t1 = some d) (hni : d = .string ∨ ∃ e1, d = .slice e1) (hlen : ∀ u : World, (Builtin.lenOf x').run P u = .ok n u)
      (hc : ∀ u : World, u.heap = w.heap → (Builtin.firstCells i.size n x').run P u = .ok news.toArray u)
  | zeros (k k' : IntKind) (hd : und P t1 = some (.int k)) (hx : x' = .int k' (n : Int)) (hn : n ≤ 70368744177664) (hb : n * i.bytes ≤ 70368744177664)
      (hc : (n * i.size = 0 ∧ news = []) ∨ (n * i.size ≠ 0 ∧ ∃ z, zer P e = some z ∧ news = (Builtin.zeroCells z.cells n).toList))
set_option maxHeartbeats 2000000 in
theorem append_in {t0 t1 ty e : TypeId} {ts : Array TypeId} {i : TypeInfo} {x' : Value} {n : Nat} {news : List Value} (h0 : ts[0]? = some t0) (h1 : ts[1]? = some t1) (hu : und P t0 = some (.slice e)) (hi : tin P e = some i)
    (hs : Src P w e i t1 x' n news) (base : Option Addr) (sLen sCap : Nat) (hle : sLen + n ≤ sCap) (w' : World) (hst : (match base with | some a => storeCells (a.add (sLen * i.size)) news | none => pure () : Sem Unit).run P w = .ok () w') :
    (Builtin.append_ ts ty #[.slice base sLen sCap, x']).run P w = .ok (.slice base (sLen + n) sCap) w' := by
  have hii := tin_info hi
  cases hs with
  | plain d hd hni hlen hc =>
    have hcw := hc w rfl
    cases base with
    | none =>
      cases hst
      rcases hni with rfl | ⟨e1, rfl⟩ <;>
        simp [Builtin.append_, h0, h1, run_und hu, run_und hd, sizeOf, typeInfo, hii, hlen, hle, hcw]
    | some a =>
      simp only at hst
      rcases hni with rfl | ⟨e1, rfl⟩ <;>
        simp [Builtin.append_, h0, h1, run_und hu, run_und hd, sizeOf, typeInfo, hii, hlen, hle, hcw, hst]
  | zeros k k' hd hx hn hb hc =>
    subst hx
    have hw : IntKind.i64.wrap (n : Int) = n := by rw [IntKind.wrap_i64]; omega
    have n1 : ¬ ((n : Int) < 0) := by omega
    have hbc : (n : Int) * (i.bytes : Int) = ((n * i.bytes : Nat) : Int) := by rw [Int.natCast_mul]
    have n2 : ¬ (281474976710656 < (n : Int) * (i.bytes : Int)) := by rw [hbc]; omega
    rcases hc with ⟨hz, rfl⟩ | ⟨hz, z, hze, rfl⟩
    · have hz' : n = 0 ∨ i.size = 0 := Nat.mul_eq_zero.1 hz
      cases base with
      | none => cases hst; simp [Builtin.append_, h0, h1, run_und hu, run_und hd, sizeOf, typeInfo, hii, asInt, asIntOf, hw, n1, n2, hle, hz, hz']
      | some a => simp only at hst; simp [Builtin.append_, h0, h1, run_und hu, run_und hd, sizeOf, typeInfo, hii, asInt, asIntOf, hw, n1, n2, hle, hz, hz', hst]
    · have hz' : ¬ (n = 0 ∨ i.size = 0) := fun h => hz (Nat.mul_eq_zero.2 h)
      cases base with
      | none => cases hst; simp [Builtin.append_, h0, h1, run_und hu, run_und hd, sizeOf, typeInfo, hii, asInt, asIntOf, hw, n1, n2, hle, hz, hz', run_zer hze]
      | some a => simp only at hst; simp [Builtin.append_, h0, h1, run_und hu, run_und hd, sizeOf, typeInfo, hii, asInt, asIntOf, hw, n1, n2, hle, hz, hz', run_zer hze, hst]
set_option maxHeartbeats 2000000 in
theorem append_grow {t0 t1 ty e : TypeId} {ts : Array TypeId} {i : TypeInfo} {x' z : Value} {n : Nat} {news olds : List Value} (h0 : ts[0]? = some t0) (h1 : ts[1]? = some t1) (hu : und P t0 = some (.slice e)) (hi : tin P e = some i) (hz : i.zero = some z)
    (hs : Src P w e i t1 x' n news) (base : Option Addr) (sLen sCap : Nat) (hlt : sCap < sLen + n) (hb1 : (sLen + n) * i.bytes ≤ 70368744177664) (hb2 : sLen + n ≤ 70368744177664)
    (hold : ∀ u : World, u.heap = w.heap → (Builtin.firstCells i.size sLen (.slice base sLen sCap)).run P u = .ok olds.toArray u) :
    ∃ cap' C w', (Builtin.append_ ts ty #[.slice base sLen sCap, x']).run P w = .ok (.slice (some ⟨w.heap.size, 0, none⟩) (sLen + n) cap') w' ∧ sLen + n ≤ cap' ∧
      w'.heap = w.heap.push (.cells C e) ∧ w'.os = w.os ∧ w'.tape = w.tape ∧ w'.output = w.output ∧ C = olds.toArray ++ news.toArray ++ Builtin.zeroCells z.cells (cap' - (sLen + n)) := by
  have hii := tin_info hi
  have hn : ¬ (sLen + n ≤ sCap) := by omega
  have h63' : ¬ (9223372036854775807 < ((sLen : Int) + (n : Int))) := by omega
  have hfit := growslice_fits (bytes := i.bytes) hlt (by omega)
  have h48' : ¬ (281474976710656 < Builtin.nextslicecap (sLen + n) sCap * i.bytes) := by omega
  have hzr : ∀ u : World, (zeroValue e).run P u = .ok z u := fun u => by simp [zeroValue, typeInfo, hii, hz]
  have ho := hold w.drew rfl
  refine ⟨grownCap w (sLen + n) sCap e, _, w.drew.alloc (.cells (olds.toArray ++ news.toArray ++ Builtin.zeroCells z.cells (grownCap w (sLen + n) sCap e - (sLen + n))) e), ?_, grownCap_ge w _ _ _, rfl, rfl, rfl, rfl, rfl⟩
  cases hs with
  | plain d hd hni hlen hc =>
    have hcw := hc w.drew rfl
    rcases hni with rfl | ⟨e1, rfl⟩ <;>
      simp [Builtin.append_, h0, h1, run_und hu, run_und hd, sizeOf, typeInfo, zeroValue, hii, hz, hlen, hn, h63', h48', hcw, ho, Question.forced, newRow, grownCap] <;>
      (congr 2; apply Array.ext'; simp [List.append_assoc])
  | zeros k k' hd hx hn' hb hc =>
    subst hx
    have hw : IntKind.i64.wrap (n : Int) = n := by rw [IntKind.wrap_i64]; omega
    have n1 : ¬ ((n : Int) < 0) := by omega
    have hbc : (n : Int) * (i.bytes : Int) = ((n * i.bytes : Nat) : Int) := by rw [Int.natCast_mul]
    have n2 : ¬ (281474976710656 < (n : Int) * (i.bytes : Int)) := by rw [hbc]; omega
    rcases hc with ⟨hzz, rfl⟩ | ⟨hzz, z', hze, rfl⟩
    · have hz' : n = 0 ∨ i.size = 0 := Nat.mul_eq_zero.1 hzz
      simp [Builtin.append_, h0, h1, run_und hu, run_und hd, sizeOf, typeInfo, zeroValue, hii, hz, asInt, asIntOf, hw, n1, n2, hn, h63', h48', hzz, hz', ho, Question.forced, newRow, grownCap]
    · have hz' : ¬ (n = 0 ∨ i.size = 0) := fun h => hzz (Nat.mul_eq_zero.2 h)
      obtain ⟨i', hi', hz2⟩ := zer_info hze
      rw [hii] at hi'; cases hi'
      rw [hz] at hz2; cases hz2
      simp [Builtin.append_, h0, h1, run_und hu, run_und hd, sizeOf, typeInfo, zeroValue, hii, hz, asInt, asIntOf, hw, n1, n2, hn, h63', h48', hzz, hz', ho, Question.forced, newRow, grownCap]
theorem src_sound (hz : zerosOk P = true) (s : SS ro N w0 φ h nx w) {e t1 : TypeId} {i : TypeInfo} {x x' : Value} {n : Nat} {l : List Value} (hi : tin P e = some i) (hsr : srcV P ro h e i.size i.bytes t1 x = some (n, l)) (hx : VR N φ x x') :
    ∃ news, Src P w e i t1 x' n news ∧ LR N φ l news ∧ l.length = n * i.size := by
  have hsz : siz P e = some i.size := by unfold siz; rw [hi]; rfl
  unfold srcV at hsr
  split at hsr
  · rename_i k k' m hu
    by_cases h0 : 0 ≤ m
    · by_cases h1 : m ≤ 70368744177664
      · cases hb : Nat.ble (m.toNat * i.bytes) big with
        | false => simp [h0, h1, hb] at hsr
        | true =>
          simp only [h0, h1, hb, decide_true] at hsr
          obtain ⟨r, hr, hsr⟩ := bind_some' hsr
          cases hsr
          have hle : m.toNat * i.bytes ≤ 70368744177664 := Nat.le_of_ble_eq_true hb
          obtain ⟨s', hm⟩ := zrow_made (φ := φ) (N := N) hz hr
          rcases hm with ⟨e1, e2⟩ | ⟨e1, e2, e3, z, e4, e5, e6⟩
          · subst e2
            exact ⟨[], .zeros k k' hu (by rw [hx.of_int, Int.toNat_of_nonneg h0]) (by omega) hle (.inl ⟨by rw [e1]; simp, rfl⟩), .nil, by rw [e1]; simp⟩
          · rw [hsz] at e1; cases e1
            refine ⟨_, .zeros k k' hu (by rw [hx.of_int, Int.toNat_of_nonneg h0]) (by omega) hle (.inr ⟨by omega, z, e4, rfl⟩), ?_, e2⟩
            unfold Builtin.zeroCells
            rw [e6] at e5 ⊢
            first | exact e5 | simpa using e5
      · simp [h0, h1] at hsr
    · simp [h0] at hsr
  · rename_i e1 m c hu
    cases m with
    | succ m => cases hsr
    | zero =>
      cases hsr
      rw [hx.of_nilSlice]
      exact ⟨[], .plain _ hu (.inr ⟨_, rfl⟩) (fun u => rfl) (fun u _ => rfl), .nil, by simp⟩
  · rename_i e1 a m c hu
    obtain ⟨cs, hcs, hsr⟩ := bind_some' hsr
    cases hsr
    obtain ⟨b, c', cs', rfl, g1, g2, g3⟩ := s.sim.sliceCells (fun _ _ h => h) hx hcs
    refine ⟨cs', .plain _ hu (.inr ⟨_, rfl⟩) (fun u => rfl) (fun u hu' => ?_), g1, g2⟩
    refine run_firstCells_some (P := P) u i.size n b n c' cs' (by rw [← g1.length, g2]) (fun j v hj => ?_)
    have := g3 j v hj
    unfold World.cell? at this ⊢
    rw [hu']; exact this
  · rename_i s1 hu
    cases hb : Nat.beq i.size 1 with
    | false => rw [hb] at hsr; cases hsr
    | true =>
      rw [hb] at hsr; cases hsr
      have e1 := Nat.eq_of_beq_eq_true hb
      rw [hx.of_string, e1]
      refine ⟨_, .plain _ hu (.inl rfl) (fun u => rfl) (fun u _ => ?_), LR.flat (fun x hx => ?_), ?_⟩
      · have h1 : (Array.map (fun b : UInt8 => Value.int IntKind.u8 (b.toNat : Int)) s1.data).extract 0 s1.size = Array.map (fun b : UInt8 => Value.int IntKind.u8 (b.toNat : Int)) s1.data := by
          have hs : s1.size = (Array.map (fun b : UInt8 => Value.int IntKind.u8 (b.toNat : Int)) s1.data).size := by rw [Array.size_map]; rfl
          rw [hs, Array.extract_size]
        simp [Builtin.firstCells, h1]
        apply Array.ext'; simp
      · simp at hx; obtain ⟨b, _, rfl⟩ := hx; rfl
      · simp
  · cases hsr
theorem firstCells_none (z l c : Nat) (u : World) : (Builtin.firstCells z l (.slice none l c)).run P u = .ok (#[] : Array Value) u := by simp [Builtin.firstCells]
/-- A block that is let go of. -/
theorem SS.drop (s : SS ro N w0 φ h nx w) (k : Nat) : Step ro N w0 φ h nx w φ (h.upd k none) nx w where
  le := Phi.le_refl _
  ss := ⟨s.sim.sub (fun i o hi => by
    rw [T.get_upd] at hi
    split at hi
    · cases hi
    · exact hi), s.fresh⟩
  up := Nat.le_refl _
  new := fun _ _ => rfl
  size := Nat.le_refl _
  frame := fun _ _ _ => rfl
  img := fun i B o r hi hφ => .inr ⟨i, o, r, fun e => hi (by rw [T.get_upd]; split <;> first | rfl | exact e), hφ⟩
  os := rfl
  tape := rfl
  output := rfl
/-- A grown row in a block of its own. -/
theorem grow_new (s : SS ro N w0 φ h nx w) {e : TypeId} {n cap' z : Nat} {l olds' news' : List Value} {rest : Array Value} {w' : World} (hl : LR N φ l (olds' ++ news')) (hlen : l.length = n * z) (hn : n ≤ cap') (hr : rest.size = (cap' - n) * z)
    (hh : w'.heap = w.heap.push (.cells (olds'.toArray ++ news'.toArray ++ rest) e)) (hos : w'.os = w.os) (ht : w'.tape = w.tape) (hout : w'.output = w.output) :
    Step ro N w0 φ h nx w (φ.add nx w.heap.size (cap' * z)) (h.upd nx (some (.cells l.toArray e))) (nx + 1) w' ∧ VR N (φ.add nx w.heap.size (cap' * z)) (.slice (some (own nx z)) n n) (.slice (some ⟨w.heap.size, 0, none⟩) n cap') := by
  have hle := Phi.le_add (φ := φ) (B := w.heap.size) (r := cap' * z) (s.fresh nx (Nat.le_refl _))
  have hsum : n * z + (cap' - n) * z = cap' * z := by rw [← Nat.add_mul]; congr 1; omega
  have hll := hl.length
  simp at hll
  refine ⟨s.alloc hh hos ht hout ⟨?_, ?_, ?_, .inl rfl⟩, .sliceOwn (a := own nx z) Phi.add_same rfl hn (by simp [own])⟩
  · simp [hr]; omega
  · simp [hlen]; omega
  · intro i x hx
    obtain ⟨y, hy, hv⟩ := hl.some (by simpa using hx : l[i]? = some x)
    refine ⟨y, ?_, hv.mono hle⟩
    have hlt : i < olds'.length + news'.length := by have := (List.getElem?_eq_some_iff.1 hy).1; simpa using this
    rw [Nat.zero_add, Array.getElem?_append, if_pos (by simpa using hlt)]
    have : (olds'.toArray ++ news'.toArray) = (olds' ++ news').toArray := by simp
    rw [this, List.getElem?_toArray]; exact hy
theorem append_sound (hz : zerosOk P = true) (s : SS ro N w0 φ h nx w) {ts : Array TypeId} {ty : TypeId} {vs vs' : List Value} {v : Value} {h' : T Obj} {nx' : Nat} (ha : appendV P ro h nx ts vs = some (v, h', nx')) (hv : LR N φ vs vs') :
    ∃ v' w' φ', (Builtin.append_ ts ty vs'.toArray).run P w = .ok v' w' ∧ Step ro N w0 φ h nx w φ' h' nx' w' ∧ VR N φ' v v' := by
  unfold appendV at ha
  split at ha
  case h_2 => cases ha
  rename_i t0 t1 base len cap x h0 h1
  cases hv with
  | cons hb ht => cases ht with
    | cons hx ht => cases ht with
      | nil =>
        rename_i b' x'
        split at ha
        case h_2 => cases ha
        rename_i e hu
        obtain ⟨i, hi, ha⟩ := bind_some' ha
        obtain ⟨⟨n, l⟩, hsr, ha⟩ := bind_some' ha
        obtain ⟨news, g1, g2, g3⟩ := src_sound (w := w) hz s hi hsr hx
        simp only at ha
        cases hroom : Nat.ble (len + n) cap with
        | true =>
          rw [hroom] at ha
          simp only at ha
          have hle : len + n ≤ cap := Nat.le_of_ble_eq_true hroom
          cases n with
          | zero =>
            simp only at ha
            cases ha
            have hn0 : news = [] := by have := g2.length; rw [g3] at this; simp at this; exact List.eq_nil_of_length_eq_zero this.symm
            subst hn0
            cases base with
            | none =>
              rw [hb.of_nilSlice]
              refine ⟨_, w, φ, append_in (ty := ty) h0 h1 hu hi g1 none len cap hle w rfl, Step.refl s, .flat rfl⟩
            | some a =>
              obtain ⟨b, c', rfl, hsl⟩ := hb.of_slice
              have hcc : cap ≤ c' := by
                rcases hsl with hsl | ⟨_, rfl, rfl, _⟩
                · cases hsl with
                  | ro _ _ => exact Nat.le_refl _
                  | own _ _ h _ => exact h
                · exact Nat.le_refl _
              exact ⟨_, w, φ, append_in (ty := ty) h0 h1 hu hi g1 (some b) len c' (by omega) w rfl, Step.refl s, hb⟩
          | succ n =>
            simp only at ha
            cases base with
            | none => cases ha
            | some a =>
              simp only at ha
              cases hsp : a.spot with
              | none => rw [hsp] at ha; cases ha
              | some z =>
                rw [hsp] at ha
                simp only at ha
                cases hzz : Nat.beq z i.size with
                | false => rw [hzz] at ha; cases ha
                | true =>
                  rw [hzz] at ha
                  obtain ⟨h2, hst, ha⟩ := bind_some' ha
                  cases ha
                  have ez := Nat.eq_of_beq_eq_true hzz
                  obtain ⟨b, c', rfl, hsl⟩ := hb.of_slice
                  rcases hsl with hsl | ⟨_, rfl, _⟩
                  · cases hsl with
                    | ro h _ => rw [h] at hsp; cases hsp
                    | own hφ hs0 hc hr =>
                      rename_i z0 B o r
                      have har : AR N φ (fwd a (len * i.size)) (Addr.add ⟨B, o + a.off, none⟩ (len * i.size)) := AR.fwd (.inr ⟨z0, B, o, r, hs0, hφ, rfl⟩) _
                      obtain ⟨w', q1, q2⟩ := storeAt_sound (P := P) s har g2 hst
                      exact ⟨_, w', φ, append_in (ty := ty) h0 h1 hu hi g1 (some _) len c' (by omega) w' q1, q2, .sliceOwn hφ hs0 (by omega) hr⟩
                  · omega
        | false =>
          rw [hroom] at ha
          simp only at ha
          have hgt : cap < len + n := by
            rcases Nat.lt_or_ge cap (len + n) with h | h
            · exact h
            · rw [Nat.ble_eq_true_of_le h] at hroom; cases hroom
          obtain ⟨zv, hzv, ha⟩ := bind_some' ha
          cases hb1 : Nat.ble ((len + n) * i.bytes) big with
          | false => rw [hb1] at ha; cases ha
          | true =>
            cases hb2 : Nat.ble (len + n) big with
            | false => rw [hb1, hb2] at ha; cases ha
            | true =>
              cases hb3 : Nat.blt 0 i.size with
              | false => rw [hb1, hb2, hb3] at ha; cases ha
              | true =>
                cases hb4 : (Nat.beq zv.cells.size i.size && l.all cellOk) with
                | false => rw [hb1, hb2, hb3, hb4] at ha; cases ha
                | true =>
                  rw [hb1, hb2, hb3, hb4] at ha
                  obtain ⟨⟨olds, h2⟩, hold, ha⟩ := bind_some' ha
                  cases ha
                  have q1 : (len + n) * i.bytes ≤ 70368744177664 := Nat.le_of_ble_eq_true hb1
                  have q2 : len + n ≤ 70368744177664 := Nat.le_of_ble_eq_true hb2
                  have q3 : 0 < i.size := by have := hb3; simp [Nat.blt] at this; omega
                  rw [Bool.and_eq_true] at hb4
                  have q4 : zv.cells.size = i.size := Nat.eq_of_beq_eq_true hb4.1
                  obtain ⟨i', hi', hiz⟩ := zer_info hzv
                  rw [tin_info hi] at hi'; cases hi'
                  have hrest : ∀ m, (Builtin.zeroCells zv.cells m).size = m * i.size := fun m => by simp [Builtin.zeroCells, q4]
                  have fin : ∀ (base' : Option Addr) (c' : Nat) (olds' : List Value) (hs2 : Step ro N w0 φ h nx w φ h2 nx w), c' < len + n → olds.length = len * i.size → LR N φ olds olds' →
                      (∀ u : World, u.heap = w.heap → (Builtin.firstCells i.size len (.slice base' len c')).run P u = .ok olds'.toArray u) →
                      ∃ v' w' φ', (Builtin.append_ ts ty #[.slice base' len c', x']).run P w = .ok v' w' ∧ Step ro N w0 φ h nx w φ' (h2.upd nx (some (.cells (olds ++ l).toArray e))) (nx + 1) w' ∧ VR N φ' (.slice (some (own nx i.size)) (len + n) (len + n)) v' := by
                    intro base' c' olds' hs2 hlt ho hlo hfc
                    obtain ⟨cap', C, w', r1, r2, r3, r4, r5, r6, r7⟩ := append_grow (ty := ty) h0 h1 hu hi hiz g1 base' len c' hlt q1 q2 hfc
                    subst r7
                    obtain ⟨m1, m2⟩ := grow_new hs2.ss (z := i.size) (hlo.append g2) (by simp [ho, g3, Nat.add_mul]) r2 (hrest _) r3 r4 r5 r6
                    exact ⟨_, w', _, r1, hs2.trans m1, m2⟩
                  unfold oldV at hold
                  cases base with
                  | none =>
                    cases len with
                    | succ len => cases hold
                    | zero =>
                      cases hold
                      rw [hb.of_nilSlice]
                      exact fin none cap [] (Step.refl s) hgt (by simp) .nil (fun u _ => firstCells_none _ _ _ u)
                  | some a =>
                    obtain ⟨lc, hlc, hold⟩ := bind_some' hold
                    obtain ⟨b, c', cs', rfl, p1, p2, p3⟩ := s.sim.sliceCells (fun _ _ h => h) hb hlc
                    have hfc : ∀ (c2 : Nat) (u : World), u.heap = w.heap → (Builtin.firstCells i.size len (.slice (some b) len c2)).run P u = .ok cs'.toArray u := fun c2 u hu' =>
                      run_firstCells_some (P := P) u i.size len b len c2 cs' (by rw [← p1.length, p2]) (fun j v hj => by
                        have := p3 j v hj
                        unfold World.cell? at this ⊢
                        rw [hu']; exact this)
                    cases hsp : a.spot with
                    | none =>
                      rw [hsp] at hold; cases hold
                      have hcc : c' = cap := by
                        obtain ⟨b2, c2, e2, hsl⟩ := hb.of_slice
                        cases e2
                        rcases hsl with hsl | ⟨_, e9, e8, _⟩
                        · cases hsl with
                          | ro _ _ => rfl
                          | own _ h9 _ _ => rw [h9] at hsp; cases hsp
                        · omega
                      subst hcc
                      exact fin (some b) c' cs' (Step.refl s) hgt p2 p1 (hfc c')
                    | some z =>
                      rw [hsp] at hold
                      simp only at hold
                      cases hzz : Nat.beq z i.size with
                      | false => rw [hzz] at hold; cases hold
                      | true =>
                        rw [hzz] at hold; cases hold
                        have ez := Nat.eq_of_beq_eq_true hzz
                        subst ez
                        by_cases hin : len + n ≤ c'
                        · obtain ⟨b2, c2, e2, hsl⟩ := hb.of_slice
                          cases e2
                          rcases hsl with hsl | ⟨_, _, rfl, _⟩
                          · cases hsl with
                            | ro h9 _ => rw [h9] at hsp; cases hsp
                            | own hφ hs0 hc hr =>
                              rename_i z0 B o r
                              rw [hs0] at hsp; cases hsp
                              have hkk : ∃ ob, h.get a.block = some ob := by
                                unfold cellsAt at hlc
                                rw [hs0] at hlc
                                cases hk : h.get a.block with
                                | none => rw [hk] at hlc; cases hlc
                                | some ob => exact ⟨ob, rfl⟩
                              obtain ⟨ob, hk⟩ := hkk
                              obtain ⟨B', b', r', o', e1, e2, e3⟩ := s.sim.own _ _ hk
                              rw [hφ] at e1; cases e1
                              have hob : ∃ C E F, o' = .cells C E F ∧ o + r ≤ C.size ∧ FrOk C.size F := by
                                unfold cellsAt at hlc
                                rw [hs0, hk] at hlc
                                cases ob <;> (try (cases hlc; done))
                                cases o' <;> simp only [OR] at e3
                                exact ⟨_, _, _, rfl, e3.1, e3.2.2.2⟩
                              obtain ⟨C, E, F, rfl, y1, y2⟩ := hob
                              have hnl : news.length = n * i.size := by rw [← g2.length, g3]
                              have hfit : len * i.size + n * i.size ≤ c' * i.size := by rw [← Nat.add_mul]; exact Nat.mul_le_mul_right _ hin
                              have hone : ∀ u ∈ news, u.oneCell' = true := by
                                intro u hu
                                obtain ⟨j, hj⟩ := List.getElem?_of_mem hu
                                have hlt : j < l.length := by rw [g2.length]; exact (List.getElem?_eq_some_iff.1 hj).1
                                exact (g2.get j l[j] u (List.getElem?_eq_getElem hlt) hj).oneCell (List.all_eq_true.1 hb4.2 _ (by simp))
                              have hrun := run_storeCells_own (P := P) (B := B) (o := o + a.off + len * i.size) (e := E) (F := F) news 0 C w e2 y2.no (by omega) hone
                              have hrun2 := append_in (ty := ty) h0 h1 hu hi g1 (some ⟨B, o + a.off, none⟩) len c' hin _ (by simp only [Addr.add_lit]; exact hrun)
                              have hnx : φ nx = none := s.fresh nx (Nat.le_refl _)
                              have hak : a.block ≠ nx := fun e => by rw [e, hnx] at hφ; cases hφ
                              let ψ : Phi := fun k => if k = nx then some (B, o + a.off, r - a.off) else φ k
                              have hψ1 : ψ nx = some (B, o + a.off, r - a.off) := if_pos rfl
                              have hψ2 : ∀ k, k ≠ nx → ψ k = φ k := fun k hk => if_neg hk
                              have hle : Phi.le φ ψ := fun k p hk => by rw [hψ2 k (fun e => by rw [e, hnx] at hk; cases hk)]; exact hk
                              have hC : ∀ j u, cs'[j]? = some u → C[o + a.off + j]? = some u := by
                                intro j u hj
                                have := p3 j u hj
                                rw [Addr.add_lit] at this
                                simpa [World.cell?, e2] using this
                              have hgone : ∀ k x, ((h.upd a.block none).upd nx (some (.cells (olds ++ l).toArray e))).get k = some x → (k = nx ∧ x = .cells (olds ++ l).toArray e) ∨ (k ≠ nx ∧ k ≠ a.block ∧ h.get k = some x) := by
                                intro k x hk
                                rw [T.get_upd] at hk
                                split at hk
                                · rename_i e; cases hk; exact .inl ⟨e, rfl⟩
                                · rename_i ne
                                  rw [T.get_upd] at hk
                                  split at hk
                                  · cases hk
                                  · rename_i ne2; exact .inr ⟨ne, ne2, hk⟩
                              have hgn : ∀ k, ((h.upd a.block none).upd nx (some (.cells (olds ++ l).toArray e))).get k ≠ none → k = nx ∨ (k ≠ nx ∧ k ≠ a.block ∧ h.get k ≠ none) := by
                                intro k hk
                                cases hx : ((h.upd a.block none).upd nx (some (.cells (olds ++ l).toArray e))).get k with
                                | none => exact absurd hx hk
                                | some x =>
                                  rcases hgone k x hx with ⟨e, _⟩ | ⟨e1, e2, e3⟩
                                  · exact .inl e
                                  · exact .inr ⟨e1, e2, by rw [e3]; simp⟩
                              have hdomB := s.sim.dom _ _ _ _ hφ
                              refine ⟨_, _, ψ, hrun2, ⟨hle, ⟨{ n := s.sim.n, le := by rw [setAt_size]; exact s.sim.le, old := fun x hx => by rw [setAt_ne (by omega)]; exact s.sim.old x hx, dom := ?_, inj := ?_, own := ?_, ro := s.sim.ro }, fun k hk => by rw [hψ2 k (by omega)]; exact s.fresh k (by omega)⟩,
                                Nat.le_succ _, fun k hk => hψ2 k (by omega), by rw [setAt_size]; exact Nat.le_refl _, fun x hx hn => setAt_ne (fun e => hn a.block B o r (by rw [hk]; simp) hφ e.symm), ?_, rfl, rfl, rfl⟩, ?_⟩
                              · intro k B2 o2 r2 hk2
                                rw [setAt_size]
                                by_cases e : k = nx
                                · subst e; rw [hψ1] at hk2; cases hk2; exact hdomB
                                · rw [hψ2 k e] at hk2; exact s.sim.dom k B2 o2 r2 hk2
                              · intro k k' B1 o1 r1 B2 o2 r2 hk1 hk2 f1 f2 hne
                                rcases hgn k hk1 with e | ⟨n1, n2, n3⟩
                                · subst e
                                  rw [hψ1] at f1; cases f1
                                  rcases hgn k' hk2 with e | ⟨n1, n2, n3⟩
                                  · exact absurd e.symm hne
                                  · rw [hψ2 k' n1] at f2
                                    exact s.sim.inj a.block k' _ _ _ _ _ _ (by rw [hk]; simp) n3 hφ f2 (Ne.symm n2)
                                · rw [hψ2 k n1] at f1
                                  rcases hgn k' hk2 with e | ⟨m1, m2, m3⟩
                                  · subst e
                                    rw [hψ1] at f2; cases f2
                                    exact s.sim.inj k a.block _ _ _ _ _ _ n3 (by rw [hk]; simp) f1 hφ n2
                                  · rw [hψ2 k' m1] at f2
                                    exact s.sim.inj k k' _ _ _ _ _ _ n3 m3 f1 f2 hne
                              · intro k x hkx
                                rcases hgone k x hkx with ⟨rfl, rfl⟩ | ⟨n1, n2, n3⟩
                                · refine ⟨B, o + a.off, r - a.off, _, hψ1, setAt_get e2, ?_, ?_, ?_, ?_⟩
                                  · rw [List.size_toArray, over_length _ _ _ (by simp; omega)]; simp; omega
                                  · simp [p2, g3]; omega
                                  · intro j u hj
                                    rw [List.getElem?_toArray, List.getElem?_append] at hj
                                    rw [List.getElem?_toArray, over_get _ _ _ (by simp; omega)]
                                    by_cases hjl : j < olds.length
                                    · rw [if_pos hjl] at hj
                                      rw [if_pos (by omega)]
                                      obtain ⟨y, hy, hv⟩ := p1.some hj
                                      exact ⟨y, by have := hC j y hy; simpa using this, hv.mono hle⟩
                                    · rw [if_neg hjl] at hj
                                      obtain ⟨y, hy, hv⟩ := g2.some hj
                                      have hyl := (List.getElem?_eq_some_iff.1 hy).1
                                      rw [if_neg (by omega), if_pos (by omega)]
                                      refine ⟨y, ?_, hv.mono hle⟩
                                      rw [← hy]; congr 1; omega
                                  · rw [List.size_toArray, over_length _ _ _ (by simp; omega)]; simpa using y2
                                · obtain ⟨B2, b2, r2, x', f1, f2, f3⟩ := s.sim.own k x n3
                                  have hne : B2 ≠ B := s.sim.inj k a.block _ _ _ _ _ _ (by rw [n3]; simp) (by rw [hk]; simp) f1 hφ n2
                                  exact ⟨B2, b2, r2, x', by rw [hψ2 k n1]; exact f1, by rw [setAt_ne hne]; exact f2, f3.mono hle⟩
                              · intro k B2 o2 r2 hk2 f2
                                rcases hgn k hk2 with e | ⟨n1, n2, n3⟩
                                · subst e; rw [hψ1] at f2; cases f2
                                  exact .inr ⟨a.block, o, r, by rw [hk]; simp, hφ⟩
                                · rw [hψ2 k n1] at f2
                                  exact .inr ⟨k, o2, r2, n3, f2⟩
                              · exact .sliceOwn (a := own nx i.size) hψ1 rfl hin (by simp [own]; omega)
                          · omega
                        · exact fin (some b) c' cs' (s.drop a.block) (by omega) p2 p1 (hfc c')
end
end V
end Go.Proofs.Ytepbdkfkfcckoaa
