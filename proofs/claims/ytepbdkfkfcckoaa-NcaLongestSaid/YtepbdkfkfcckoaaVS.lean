/- What the evaluator has carried out once holds in whatever world.
   No condition. -/
import Derived.Test.YtepbdkfkfcckoaaVR
import Derived.Test.YtepbdkfkfcckoaaWA
set_option linter.unusedVariables false
set_option linter.unusedSimpArgs false
namespace Go.Proofs.Ytepbdkfkfcckoaa
namespace V
theorem orc_ev {P : Program} (hz : zerosOk P = true) (hn : namesOk P = true) (hm : P.follows .mixedOrders = true) {f : FuncId} {want : Value} {k : Nat} (hf : flat want = true) (hb : ((P.funcs[f]?).bind (·.body)).isSome = true)
    (he : ∀ ro : Ro, callE P ro k f [] .e 0 (endB want) = true) : Orc P f want := by
  refine ⟨hf, ?_, fun W => ?_⟩
  · cases hq : P.funcs[f]? with
    | none => rw [hq] at hb; cases hb
    | some fn =>
      rw [hq] at hb
      refine ⟨fn, rfl, ?_⟩
      simp only [Option.bind_some] at hb
      cases hc : fn.body with
      | none => rw [hc] at hb; cases hb
      | some b => rfl
  · obtain ⟨j, v, h', nx', hc, hv⟩ := callP_ev (K := fun v _ _ => v = want) (he (roOf W)) fun _ => rfl
    subst hv
    have hs : SS (roOf W) W.heap.size W (fun _ => none) .e 0 W := ⟨roOf_sim W, fun _ _ => rfl⟩
    refine ((call_sound (ro := roOf W) (N := W.heap.size) (w0 := W) hz hn hm _ _ _ _ _ _ _ hc).2 _ W #[] hs .nil).mono fun e W' ⟨v', φ', he, hst, hv⟩ => ?_
    subst he
    exact ⟨by rw [hv.of_flat hf], hst.size, fun b hb => hst.frame b hb fun k B o r hk _ => absurd (T.get_e k) hk, hst.os, hst.tape, hst.output⟩
end V
end Go.Proofs.Ytepbdkfkfcckoaa
