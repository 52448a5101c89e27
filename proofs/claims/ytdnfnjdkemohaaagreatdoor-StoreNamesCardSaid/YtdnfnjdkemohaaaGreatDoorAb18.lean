/- One operation of a region, as a step of the proof: contracts of functions over the abstract heap (Tri), and what an operation leaves to its continuation. -/
import Derived.Test.YtdnfnjdkemohaaaGreatDoorAb17
import Derived.Orders
namespace Go.Ab
open Go.RowKit (Below)

/-- What lies beside H in T stays, and is not touched. -/
def Fr (H T H' T' : Hp) : Prop := ∀ i ob, T i = some ob → H i = none → T' i = some ob ∧ H' i = none

theorem Fr.refl (H T : Hp) : Fr H T H T := fun _ _ h k => ⟨h, k⟩
theorem Fr.trans {H T H' T' H'' T'' : Hp} (h : Fr H T H' T') (k : Fr H' T' H'' T'') : Fr H T H'' T'' := fun i ob a b =>
  let ⟨c, d⟩ := h i ob a b
  k i ob c d

/-- What stands in X and not in H does not stand in H' either. -/
def Avo (H X H' : Hp) : Prop := ∀ i, X i ≠ none → H i = none → H' i = none

theorem Avo.refl (H X : Hp) : Avo H X H := fun _ _ h => h
theorem Avo.trans {H X H' H'' : Hp} (h : Avo H X H') (k : Avo H' X H'') : Avo H X H'' := fun i a b => k i a (h i a b)

theorem Hp.fresh2 (H X : Hp) : ∃ i, H i = none ∧ X i = none := by
  obtain ⟨A, hA⟩ := H.fin
  obtain ⟨B, hB⟩ := X.fin
  exact ⟨max A B, hA _ (by omega), hB _ (by omega)⟩

theorem Avo.put_new {H X : Hp} {i : Nat} (ob : Ob) (hX : X i = none) : Avo H X (H.put i ob) := by
  intro j a b
  rw [Hp.put_ne]
  · exact b
  · intro e; subst e; exact a hX

theorem Avo.put_old {H X : Hp} {i : Nat} (ob : Ob) (hH : H i ≠ none) : Avo H X (H.put i ob) := by
  intro j a b
  rw [Hp.put_ne]
  · exact b
  · intro e; subst e; exact hH b

theorem Avo.eraO {H X : Hp} (er : Option Nat) : Avo H X (eraO H er) := by
  cases er with
  | none => exact Avo.refl _ _
  | some i => intro j a b; simp only [Ab.eraO, Hp.era_get]; split <;> first | rfl | exact b

/-- The contract of a function over the abstract heap: called so, it answers v and leaves H' with Q v H' (or the machine has no room). -/
def Tri (P : Program) (f : FuncId) (args : List Value) (H : Hp) (Q : Value → Hp → Prop) : Prop :=
  fnOk P f ∧ (∀ X : Hp, ∃ v H', Q v H' ∧ Avo H X H') ∧ ∀ (N : Nat) (w0 : World) (μ : Mu) (T : Hp) (w : World) (args' : Array Value), P.globals.size ≤ N → H.sub T → Sim N w0 μ T w → VRL μ args args'.toList →
    Calls P f args' w fun e w' => ∃ v v' H' T' μ', e = .returned v' ∧ Q v H' ∧ μ.le μ' ∧ H'.sub T' ∧ Fr H T H' T' ∧ Sim N w0 μ' T' w' ∧ VR μ' v v'

theorem Tri.mono {P : Program} {f : FuncId} {args : List Value} {H : Hp} {Q Q' : Value → Hp → Prop} (h : Tri P f args H Q) (hq : ∀ v H', Q v H' → Q' v H') : Tri P f args H Q' :=
  ⟨h.1, fun X => let ⟨v, H', q, a⟩ := h.2.1 X; ⟨v, H', hq v H' q, a⟩, fun N w0 μ T w args' hG hs hsim hv => (h.2.2 N w0 μ T w args' hG hs hsim hv).mono fun _ _ he =>
    let ⟨v, v', H', T', μ', e1, q, r⟩ := he
    ⟨v, v', H', T', μ', e1, hq _ _ q, r⟩⟩

/-- What is left of an operation that has its effect. -/
def effW (P : Program) (eff : Eff) (dst : Option Nat) (K : Tm → Hp → Prop) (tm : Tm) (H : Hp) : Prop :=
  match eff with
  | .val v => K (tm.put dst v) H
  | .new ob mk => ∀ id, H id = none → K (tm.put dst (mk.val id)) (H.put id ob)
  | .wr id ob v => K (tm.put dst v) (H.put id ob)
  | .app er ob mk => ∀ id, H id = none → K (tm.put dst (mk.val id)) ((eraO H er).put id ob)
  | .call f args => Tri P f args H fun v H' => K (tm.put dst v) H'

def guardA (tm : Tm) : Option (Nat × Bool) → Option Bool
  | none => some true
  | some (t, want) => match tm.get t with
    | some (.bool b) => some (b == want)
    | some _ => some false
    | none => none

section
variable {P : Program} {N : Nat} {w0 : World} {μ : Mu} {H T : Hp} {n : Nat} {tm : Tm} {a : Act} {w : World}

/-- A state of the World that fits what the continuation wants, behind (H0, T0, μ0). -/
def SK (P : Program) (N : Nat) (w0 : World) (n : Nat) (K : Tm → Hp → Prop) (μ0 : Mu) (H0 T0 : Hp) (a : Act) (w : World) : Prop :=
  ∃ tm H T μ, K tm H ∧ μ0.le μ ∧ Fr H0 T0 H T ∧ Cx P N w0 μ H T n tm a w

theorem SK.mono {K K' : Tm → Hp → Prop} {μ0 : Mu} {H0 T0 : Hp} (h : SK P N w0 n K μ0 H0 T0 a w) (hk : ∀ tm H, K tm H → K' tm H) : SK P N w0 n K' μ0 H0 T0 a w :=
  let ⟨tm, H, T, μ, k, r⟩ := h
  ⟨tm, H, T, μ, hk _ _ k, r⟩

theorem SK.trans {K K' : Tm → Hp → Prop} {μ0 : Mu} {H0 T0 : Hp} (h : SK P N w0 n K μ0 H0 T0 a w)
    (hk : ∀ tm H T μ, K tm H → Cx P N w0 μ H T n tm a w → SK P N w0 n K' μ H T a w) : SK P N w0 n K' μ0 H0 T0 a w := by
  obtain ⟨tm, H, T, μ, k, hm, hf, c⟩ := h
  obtain ⟨tm', H', T', μ', k', hm', hf', c'⟩ := hk tm H T μ k c
  exact ⟨tm', H', T', μ', k', Mu.le_trans hm hm', hf.trans hf', c'⟩

theorem Hp.sub_put {H T : Hp} (h : H.sub T) (i : Nat) (ob : Ob) : (H.put i ob).sub (T.put i ob) := by
  intro j o e
  rw [Hp.put_get] at e ⊢
  split at e
  · rename_i hj; rw [if_pos hj]; exact e
  · rename_i hj; rw [if_neg hj]; exact h j o e

theorem Hp.sub_eraO {H T : Hp} (h : H.sub T) (er : Option Nat) : (eraO H er).sub (eraO T er) := by
  cases er with
  | none => exact h
  | some i =>
    intro j o e
    simp only [eraO, Hp.era_get] at e ⊢
    split at e
    · cases e
    · rename_i hj; rw [if_neg hj]; exact h j o e

theorem Fr.put_new {H T : Hp} {i : Nat} (ob : Ob) (hT : T i = none) : Fr H T (H.put i ob) (T.put i ob) := by
  intro j o h1 h2
  have hne : j ≠ i := fun e => by rw [e, hT] at h1; cases h1
  rw [Hp.put_ne _ _ hne, Hp.put_ne _ _ hne]
  exact ⟨h1, h2⟩

theorem Fr.put_old {H T : Hp} {i : Nat} (ob : Ob) (hH : H i ≠ none) : Fr H T (H.put i ob) (T.put i ob) := by
  intro j o h1 h2
  have hne : j ≠ i := fun e => by rw [e] at h2; exact hH h2
  rw [Hp.put_ne _ _ hne, Hp.put_ne _ _ hne]
  exact ⟨h1, h2⟩

theorem Fr.eraO {H T : Hp} {er : Option Nat} (hH : ∀ i, er = some i → H i ≠ none) : Fr H T (eraO H er) (eraO T er) := by
  cases er with
  | none => exact Fr.refl _ _
  | some i =>
    intro j o h1 h2
    have hne : j ≠ i := fun e => by rw [e] at h2; exact hH i rfl h2
    simp only [Ab.eraO, Hp.era_ne _ hne]
    exact ⟨h1, h2⟩

theorem Sim.none_of_mu (h : Sim N w0 μ T w) {i : Nat} (hi : μ i = none) : T i = none := by
  cases hx : T i with
  | none => rfl
  | some ob => obtain ⟨l, h1, _⟩ := h.obj i ob hx; rw [hi] at h1; cases h1

theorem sub_none {H T : Hp} (h : H.sub T) {i : Nat} (hi : T i = none) : H i = none := by
  cases hx : H i with
  | none => rfl
  | some ob => rw [h i ob hx] at hi; cases hi

theorem Oper.upon_ok {o : Oper} {a : Act} {next : Act → World → Prop} {Q : Exit → Act → World → Prop} {x : Next} {v' : Value} {w' : World} (h : (execOp a.eval o).run P w = .ok x w')
    (hx : x = .value v' ∨ (x = .skip ∧ v' = undef)) (hn : next (a.put o.dst v') w') : o.wp P a w next Q := by
  unfold Oper.wp
  rw [h]
  rcases hx with rfl | ⟨rfl, rfl⟩
  · exact hn
  · exact hn

theorem evalA_wr {op : AOp} {id : Nat} {ob : Ob} {v : Value} (h : evalA H tm op = some (.wr id ob v)) : H id ≠ none := by
  cases op <;> simp only [evalA] at h <;> (repeat' (split at h)) <;> first
    | (cases h; done)
    | (cases h; simp_all; done)

theorem evalA_app {op : AOp} {i : Nat} {ob : Ob} {mk : Mk} (h : evalA H tm op = some (.app (some i) ob mk)) : H i ≠ none := by
  cases op <;> simp only [evalA] at h <;> (repeat' (split at h)) <;> first
    | (cases h; done)
    | (cases h; simp_all; done)

/-- One operation that runs. -/
theorem step_sound {o : Oper} {ao : AOp} {eff : Eff} {K : Tm → Hp → Prop} {next : Act → World → Prop} {Q : Exit → Act → World → Prop} (hc : cOp P o.op = some ao) (c : Cx P N w0 μ H T n tm a w)
    (hd : ∀ t, o.dst = some t → t < n) (he : evalA H tm ao = some eff) (hk : effW P eff o.dst K tm H)
    (hn : ∀ a' w', SK P N w0 n K μ H T a' w' → next a' w') : o.wp P a w next Q ∨ (o.asks P a w ∧ LetsOut Q) := by
  refine .inl ?_
  have hs := op_sound c hc he
  cases eff with
  | val v =>
    obtain ⟨v', hrun, hv⟩ := hs
    exact (Oper.upon_ok hrun (.inl rfl) (hn _ _ ⟨_, H, T, μ, hk, Mu.le_refl μ, Fr.refl _ _, c.hs, c.sim, c.hG, c.tr.put hd hv⟩))
  | new ob mk =>
    obtain ⟨id, hid, hμ, hT⟩ := c.sim.fresh
    obtain ⟨v', w', μ', hrun, hle, hsim, hv⟩ := hs id hid hμ
    exact (Oper.upon_ok hrun (.inl rfl) (hn _ _ ⟨_, _, _, μ', hk id (sub_none c.hs hT), hle, Fr.put_new ob hT, Hp.sub_put c.hs _ _, hsim, c.hG, (c.tr.mono hle).put hd hv⟩))
  | wr id ob v =>
    obtain ⟨x, v', w', hrun, hx, hsim, hv⟩ := hs
    exact (Oper.upon_ok hrun hx (hn _ _ ⟨_, _, _, μ, hk, Mu.le_refl μ, Fr.put_old ob (evalA_wr he), Hp.sub_put c.hs _ _, hsim, c.hG, c.tr.put hd hv⟩))
  | app er ob mk =>
    obtain ⟨id, hid, hμ, hT⟩ := c.sim.fresh
    obtain ⟨v', w', μ', hrun, hle, hsim, hv⟩ := hs id hid hμ
    have hT' : eraO T er id = none := by
      cases er with
      | none => exact hT
      | some i => simp only [eraO, Hp.era_get]; split <;> first | rfl | exact hT
    exact (Oper.upon_ok hrun (.inl rfl) (hn _ _ ⟨_, _, _, μ', hk id (sub_none c.hs hT), hle, (Fr.eraO (fun i hi => by subst hi; exact evalA_app he)).trans (Fr.put_new ob hT'), Hp.sub_put (Hp.sub_eraO c.hs er) _ _, hsim, c.hG, (c.tr.mono hle).put hd hv⟩))
  | call f args =>
    obtain ⟨args', hrun, hv⟩ := hs hk.1
    unfold Oper.wp
    rw [hrun, Oper.upon_enter]
    refine (hk.2.2 N w0 μ T w args' c.hG c.hs c.sim hv).mono fun e w' he => ?_
    obtain ⟨v, v', H', T', μ', rfl, hq, hle, hsub, hfr, hsim, hvr⟩ := he
    exact hn _ _ ⟨_, H', T', μ', hq, hle, hfr, hsub, hsim, c.hG, (c.tr.mono hle).put hd hvr⟩

theorem guard_sound {ops : Array Oper} {o : Oper} {ao : AOper} {b : Bool} (hc : cOper P ops o = some ao) (c : Cx P N w0 μ H T n tm a w) (hg : guardA tm ao.guard = some b) :
    Region.wanted o (yielded ops a.tmps) = b ∧ cOp P o.op = some ao.op ∧ ao.dst = o.dst := by
  unfold cOper at hc
  split at hc
  · rename_i op hop
    split at hc
    · rename_i hgd
      cases hc
      simp only [guardA, Option.some.injEq] at hg
      subst hg
      exact ⟨by simp [Region.wanted, hgd], hop, rfl⟩
    · rename_i j want hgd
      split at hc
      · rename_i t ht
        cases hc
        refine ⟨?_, hop, rfl⟩
        simp only [guardA] at hg
        simp only [Region.wanted, hgd, yielded, ht, Option.bind_some]
        split at hg
        · rename_i b0 hb
          obtain ⟨v', h1, h2⟩ := c.tr.2.2 t _ hb
          have := h2.bool_inv
          subst this
          cases hg
          rw [h1]
          cases b0 <;> cases want <;> rfl
        · rename_i v hv hnb
          obtain ⟨v', h1, h2⟩ := c.tr.2.2 t v hnb
          cases hg
          rw [h1]
          cases h2 <;> first | rfl | (exact absurd rfl (hv _))
        · cases hg
      · cases hc
  · cases hc

/-- One operation, run or passed over. -/
theorem oper_sound {ops : Array Oper} {o : Oper} {ao : AOper} {i : Nat} {K : Tm → Hp → Prop} {next : Act → World → Prop} {Q : Exit → Act → World → Prop} (hi : ops[i]? = some o)
    (hc : cOper P ops o = some ao) (c : Cx P N w0 μ H T n tm a w) (hd : ∀ t, ao.dst = some t → t < n)
    (hk : match guardA tm ao.guard with
      | some false => K (tm.put ao.dst undef) H
      | some true => ∃ eff, evalA H tm ao.op = some eff ∧ effW P eff ao.dst K tm H
      | none => False)
    (hn : ∀ a' w', SK P N w0 n K μ H T a' w' → next a' w') : wpOp P ops Q i next a w := by
  unfold wpOp
  rw [hi]
  split at hk
  · rename_i hg
    obtain ⟨h1, h2, h3⟩ := guard_sound hc c hg
    rw [h3] at hk hd
    simp only [h1, Bool.false_eq_true, if_false]
    exact hn _ _ ⟨_, H, T, μ, hk, Mu.le_refl μ, Fr.refl _ _, c.hs, c.sim, c.hG, c.tr.put hd undef_vr⟩
  · rename_i hg
    obtain ⟨h1, h2, h3⟩ := guard_sound hc c hg
    rw [h3] at hk hd
    obtain ⟨eff, he, hk⟩ := hk
    simp only [h1, if_true]
    exact step_sound h2 c hd he hk hn
  · exact hk.elim

end
end Go.Ab
