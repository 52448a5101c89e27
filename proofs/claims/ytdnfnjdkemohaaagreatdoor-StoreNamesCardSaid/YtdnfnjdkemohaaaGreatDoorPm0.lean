/- From a contract that leaves all that lay before as it was, to a contract over the abstract heap. -/
import Derived.Test.YtdnfnjdkemohaaaGreatDoorAb32
namespace Go.Ab
open Go.RowKit (Below)

theorem Sim.grown {N : Nat} {w0 w w' : World} {μ : Mu} {T : Hp} (h : Sim N w0 μ T w) (hb : Below w.heap.size w w') : Sim N w0 μ T w' := by
  refine ⟨h.below.trans (hb.mono h.n_le), Nat.le_trans h.n_le hb.size, h.dom, fun i ob hi => ?_, h.sep, h.own, h.low⟩
  obtain ⟨loc, hl, ho⟩ := h.obj i ob hi
  exact ⟨loc, hl, ho.of_block (hb.block _ ho.block)⟩

def isSc : Value → Bool
  | .bool _ | .int _ _ | .string _ | .float _ _ => true
  | _ => false

theorem VR.sc {μ : Mu} {v v' : Value} (h : VR μ v v') (hs : isSc v = true) : v' = v := by
  cases h <;> first | rfl | (simp [isSc] at hs)

theorem VRL.sc {μ : Mu} : ∀ {l l' : List Value}, VRL μ l l' → l.all isSc = true → l' = l := by
  intro l
  induction l with
  | nil => intro l' h _; exact h.cases_nil
  | cons v l ih =>
    intro l' h hs
    obtain ⟨v', m, rfl, hv, hm⟩ := h.cases_cons
    simp only [List.all_cons, Bool.and_eq_true] at hs
    rw [hv.sc hs.1, ih hm hs.2]

/-- A function of scalars that lets all be. -/
theorem tri_sc {P : Program} {f : FuncId} {args : List Value} {v : Value} {H : Hp} (hf : fnOk P f) (hs : args.all isSc = true) (hv : ∀ μ, VR μ v v)
    (h : ∀ w, Calls P f args.toArray w fun e w' => e = .returned v ∧ Below w.heap.size w w') : Tri P f args H fun v' H' => v' = v ∧ H' = H := by
  refine ⟨hf, fun X => ⟨v, H, ⟨rfl, rfl⟩, Avo.refl _ _⟩, fun N w0 μ T w args' hG hsub hsim hvr => ?_⟩
  have : args' = args.toArray := by
    have := hvr.sc hs
    rw [← Array.toArray_toList (xs := args'), this]
  subst this
  exact (h w).mono fun e w' ⟨he, hb⟩ => ⟨v, v, H, T, μ, he, ⟨rfl, rfl⟩, Mu.le_refl μ, hsub, Fr.refl _ _, hsim.grown hb, hv μ⟩

end Go.Ab
