/- From a contract over the abstract heap to what a row asks of its function: it returns true, and whatever came in reads as it did. -/
import Derived.Test.YtdnfnjdkemohaaaGreatDoorAb33
import Derived.Carry
import Derived.ChangeSame
import Derived.ProofKit
import Derived.LaidMore
import Derived.OpenShut
import Derived.Stop.Joined
namespace Go.Ab
open Go.RowKit Go.ChangeShapes Go.WideElems

/-- The arguments read behind the call as they did. -/
theorem trodAll_below {H : Type} {enc : TypeId × Value → H} {P : Program} (hl : laidOutB P = true) {W W' : World} (hb : Below W.heap.size W W') (sp : Nat → Bool) :
    ∀ {ts : List TypeId} {vs : List Value} {ds : List (DataW H)} {ps : List MemPlace}, (∀ t ∈ ts, P.readableRec t = true ∧ t < P.types.size) → DataW.TrodAll enc P W 0 (fun _ => true) true ts vs ds ps →
      (∀ x ∈ ps, x.block < W.heap.size) → (∀ x ∈ ps, sp x.block = true) → DataW.TrodAll enc P W' 0 sp true ts vs ds ps := by
  intro ts
  induction ts with
  | nil =>
    intro vs ds ps _ h _ _
    cases vs with
    | nil => cases ds with
      | nil => exact h
      | cons d ds => exact h.elim
    | cons v vs => exact h.elim
  | cons t ts ih =>
    intro vs ds ps ht h hlt hsp
    cases vs with
    | nil => exact h.elim
    | cons v vs =>
      cases ds with
      | nil => exact h.elim
      | cons d ds =>
        obtain ⟨p, q, h1, h2, e⟩ := h
        subst e
        refine ⟨p, q, ?_, ih (fun t ht' => ht t (by simp [ht'])) h2 (fun x hx => hlt x (by simp [hx])) (fun x hx => hsp x (by simp [hx])), rfl⟩
        exact WideElems.Trod_stays hl (ht t (by simp)).1 (ht t (by simp)).2 h1 (fun x hx => hb.same (hlt x (by simp [hx]))) (fun x hx => hsp x (by simp [hx]))

theorem post_of_below {H : Type} {enc : TypeId × Value → H} {P : Program} {f : Func} {s : ChangeSpec} {apart fresh handsOn again : Bool} {W W' : World} {args : Array Value} {v : Value} {ds gs : List (DataW H)} {before pa pv : List MemPlace}
    (hW : DataW.Whole enc P f.params.toList s.vars apart W args.toList ds gs before)
    (hres : ∀ (b : Nat) (sp : Nat → Bool) (hd : Bool), DataW.TrodAll enc P W' b sp hd f.resultTypes.toList (v.resultList f.resultTypes.size) (s.fn H (ds ++ gs)).results [])
    (hargs : ∀ sp : Nat → Bool, (∀ p ∈ before, sp p.block = true) → DataW.TrodAll enc P W' 0 sp true f.params.toList args.toList (s.fn H (ds ++ gs)).args pa)
    (hvars : ∀ sp : Nat → Bool, (∀ p ∈ before, sp p.block = true) → DataW.TrodVars enc P W' sp s.vars (s.fn H (ds ++ gs)).vars pv)
    (hps : before = pa ++ pv) (hb : Below W.heap.size W W')
    (hok : ∀ (j : Nat) (t : TypeId) (r : Value), f.resultTypes[j]? = some t → (v.resultList f.resultTypes.size)[j]? = some r → Value.okWide P W' .any 0 t r) :
    s.post enc P f apart fresh handsOn again W args v W' := by
  have hold : ∀ p ∈ before, (fun b => decide (b < W.heap.size)) p.block = true := fun p hp => by simpa using hW.lt p hp
  have hlt := hW.lt
  refine ⟨ds, gs, before, [], pa, pv, hW, hres _ _ _, hargs _ hold, hvars _ hold, hb.frame _, fun _ => ?_⟩
  obtain ⟨_, _, _, _, _, hz, hn⟩ := hW
  refine ⟨hok, _, _, ([] ++ pa) ++ pv, ⟨[] ++ pa, pv, trodAll_append (hargs _ (fun _ _ => rfl)) (hres _ _ _), hvars _ (fun _ _ => rfl), rfl, ?_, ?_⟩, ?_⟩
  · intro b off hp
    have hp' : MemPlace.cell b off ∈ before := by rw [hps]; simpa using hp
    rw [hb.frozen (hlt _ hp')]
    exact hz b off hp'
  · intro ha
    have := hn ha
    rw [hps] at this
    simpa using this
  · intro p hp _
    rw [hps]
    simpa using hp

/-- What a law's contract leaves: it returned true, and below nothing has turned. -/
theorem calls_of_tri {P : Program} {f : FuncId} {args : List Value} {H0 : Hp} {W : World} {μ : Mu} {args' : Array Value} (hG : P.globals.size ≤ W.heap.size) (hsim : Sim W.heap.size W μ H0 W)
    (hv : VRL μ args args'.toList) (h : Tri P f args H0 fun v _ => v = .bool true) : Calls P f args' W fun e W' => e = .returned (.bool true) ∧ Below W.heap.size W W' :=
  (h.2.2 _ W μ H0 W args' hG (Hp.sub_refl _) hsim hv).mono fun e w' he => by
    obtain ⟨v, v', H', T', μ', e1, q, _, _, _, sim, vr⟩ := he
    subst q
    cases vr
    exact ⟨e1, sim.below⟩

def emp : Hp := ⟨fun _ => none, ⟨0, fun _ _ => rfl⟩⟩

theorem sim_emp (W : World) : Sim W.heap.size W (fun _ => none) emp W where
  below := Below.refl _ _
  n_le := Nat.le_refl _
  dom := ⟨0, fun _ _ => rfl⟩
  obj := fun i ob h => by cases h
  sep := fun i j oi oj li lj _ h => by cases h
  own := fun i oi li h => by cases h
  low := fun i li _ h => by cases h

end Go.Ab
