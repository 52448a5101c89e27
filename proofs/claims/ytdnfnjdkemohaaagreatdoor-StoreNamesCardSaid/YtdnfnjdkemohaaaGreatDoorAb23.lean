/- What the abstract code shows holds of the Go code. -/
import Derived.Test.YtdnfnjdkemohaaaGreatDoorAb22
namespace Go.Ab

/-- A loop, by a measure that stands beside the state. -/
theorem wp_loop_rel {P : Program} {Q : Exit → Act → World → Prop} {c : Code} (I : Nat → Act → World → Prop) {a : Act} {w : World} (k : Nat) (h0 : I k a w)
    (round : ∀ k a w, I k a w → c.wp P (Exit.then (fun a' w' => ∃ k', k' < k ∧ I k' a' w') Q) a w) : (Code.loop c).wp P Q a w := by
  intro b k0 cs
  have key : ∀ k a w, I k a w → ∃ e a' w', Q e a' w' ∧ Arrives P (lone (b.at a (.code c :: .inLoop c :: k0)) cs w) b k0 cs e a' w' := by
    intro k
    induction k using Nat.strongRecOn with
    | _ k ih =>
      intro a w hI
      obtain ⟨e, a1, w1, hq, harr⟩ := round k a w hI b (.inLoop c :: k0) cs
      cases e with
      | normal =>
        obtain ⟨k', hlt, hI'⟩ := hq
        obtain ⟨e2, a2, w2, hq2, harr2⟩ := ih k' hlt a1 w1 hI'
        exact ⟨e2, a2, w2, hq2, .of_steps (Steps.trans harr (.one step_inLoop)) harr2⟩
      | exit id => exact ⟨_, a1, w1, hq, .pass (x := .inLoop c) rfl (fun _ _ => .inl (by simp)) harr⟩
      | goto l => exact ⟨_, a1, w1, hq, .pass (x := .inLoop c) rfl (fun _ _ => .inl (by simp)) harr⟩
      | ret => exact ⟨_, a1, w1, hq, .pass (x := .inLoop c) rfl (fun _ _ => .inl (by simp)) harr⟩
      | panic ch => exact ⟨_, a1, w1, hq, .pass (x := .inLoop c) rfl (fun _ _ => .inl (by simp)) harr⟩
      | outgrown => exact ⟨_, a1, w1, hq, .pass (x := .inLoop c) rfl (fun _ _ => .inl (by simp)) harr⟩
  obtain ⟨e, a', w', hq, harr⟩ := key k a w h0
  exact ⟨e, a', w', hq, .of_steps (.one step_loop) harr⟩

/-- A scope, by a measure that stands beside the state. -/
theorem wp_scope_rel {P : Program} {Q : Exit → Act → World → Prop} {c rest : Code} (l : Nat) (J : Nat → Act → World → Prop) {a : Act} {w : World} (hf : findLabel c l = some rest)
    (first : c.wp P (Exit.jump l (fun a w => ∃ k, J k a w) Q) a w)
    (pass : ∀ k a w, J k a w → rest.wp P (Exit.jump l (fun a' w' => ∃ k', k' < k ∧ J k' a' w') Q) a w) : (Code.scope c).wp P Q a w := by
  intro b k0 cs
  have hg : gotoIn l (.inScope c :: k0) = some (.code rest :: .inScope c :: k0) := by simp [gotoIn, hf]
  have key : ∀ k a w, J k a w → ∃ e a' w', Q e a' w' ∧ Arrives P (lone (b.at a (.code rest :: .inScope c :: k0)) cs w) b k0 cs e a' w' := by
    intro k
    induction k using Nat.strongRecOn with
    | _ k ih =>
      intro a w hJ
      obtain ⟨e, a1, w1, hq, harr⟩ := pass k a w hJ b (.inScope c :: k0) cs
      cases e with
      | normal => exact ⟨.normal, a1, w1, hq, Steps.trans harr (.one step_inScope)⟩
      | exit id => exact ⟨.exit id, a1, w1, hq, fun k' hk => harr k' (by simp [exitTo, hk])⟩
      | goto l' =>
        obtain ⟨rfl, k', hlt, hJ'⟩ := hq
        obtain ⟨e2, a2, w2, hq2, harr2⟩ := ih k' hlt a1 w1 hJ'
        exact ⟨e2, a2, w2, hq2, .of_steps (harr _ hg) harr2⟩
      | ret => exact ⟨_, a1, w1, hq, harr⟩
      | panic ch => exact ⟨_, a1, w1, hq, harr⟩
      | outgrown => exact ⟨_, a1, w1, hq, harr⟩
  obtain ⟨e, a1, w1, hq, harr⟩ := first b (.inScope c :: k0) cs
  cases e with
  | normal => exact ⟨.normal, a1, w1, hq, .head step_scope (Steps.trans harr (.one step_inScope))⟩
  | exit id => exact ⟨.exit id, a1, w1, hq, fun k' hk => .head step_scope (harr k' (by simp [exitTo, hk]))⟩
  | goto l' =>
    obtain ⟨rfl, k', hJ'⟩ := hq
    obtain ⟨e2, a2, w2, hq2, harr2⟩ := key k' a1 w1 hJ'
    exact ⟨e2, a2, w2, hq2, .of_steps (.head step_scope (harr _ hg)) harr2⟩
  | ret => exact ⟨_, a1, w1, hq, .of_steps (.one step_scope) harr⟩
  | panic ch => exact ⟨_, a1, w1, hq, .of_steps (.one step_scope) harr⟩
  | outgrown => exact ⟨_, a1, w1, hq, .of_steps (.one step_scope) harr⟩

section
variable {P : Program} {N : Nat} {w0 : World} {n : Nat}

theorem SK.weak {K I : Tm → Hp → Prop} {μ : Mu} {H T : Hp} {a : Act} {w : World} (h : SK P N w0 n K μ H T a w) (hk : ∀ tm H, K tm H → Weak I tm H) : SK P N w0 n I μ H T a w := by
  obtain ⟨tm, H', T', μ', k, hm, hf, c⟩ := h
  obtain ⟨tm2, H2, ht, hh, hi⟩ := hk tm H' k
  refine ⟨tm2, H2, T', μ', hi, hm, fun i ob a b => ?_, c.weak ht hh⟩
  obtain ⟨e1, e2⟩ := hf i ob a b
  refine ⟨e1, ?_⟩
  cases hx : H2 i with
  | none => rfl
  | some o => rw [hh i o hx] at e2; cases e2

theorem aw_sound {ann : Nat → Ann} (hm : P.follows .mixedOrders = true) : ∀ (k : Nat) (c : Code) (ac : ACode), cCode P n ann k c = some ac → ∀ (Q : AExit → Tm → Hp → Prop) {μ : Mu} {H T : Hp} {tm : Tm} {a : Act} {w : World},
    Cx P N w0 μ H T n tm a w → AW P ac Q tm H → c.wp P (RQ P N w0 n Q μ H T) a w := by
  intro k
  induction k with
  | zero => intro c ac h; simp [cCode] at h
  | succ k ih =>
    intro c ac h Q μ H T tm a w cx haw
    have here : ∀ {K : Tm → Hp → Prop}, K tm H → SK P N w0 n K μ H T a w := fun hk => ⟨tm, H, T, μ, hk, Mu.le_refl μ, Fr.refl _ _, cx⟩
    cases c with
    | skip => simp only [cCode, Option.some.injEq] at h; subst h; exact wp_skip (here haw)
    | label l => simp only [cCode, Option.some.injEq] at h; subst h; exact wp_label (here haw)
    | exit i => simp only [cCode, Option.some.injEq] at h; subst h; exact wp_exit (here haw)
    | goto l => simp only [cCode, Option.some.injEq] at h; subst h; exact wp_goto (here haw)
    | ret => simp only [cCode, Option.some.injEq] at h; subst h; exact wp_ret (here haw)
    | refuse s => simp [cCode] at h
    | rangeFunc a b c d => simp [cCode] at h
    | region i ops d =>
      cases d with
      | false =>
        simp only [cCode] at h
        split at h
        · rename_i al hal
          cases h
          refine wp_region (rw_sound (ali_range hal) cx haw fun a' w' hs => ?_)
          exact hs.weak fun tm' H' hk => ⟨_, H', fun t v => keep_sub _ tm' t v, Hp.sub_refl _, hk⟩
        · cases h
      | true =>
        simp only [cCode] at h
        split at h
        · rename_i l hl
          cases h
          refine wp_region_any hm (rwd_sound hl (K := fun tm H => Q .normal (tm.keep (ann i).live) H) (fun tm tm' H he hk => by rw [← keep_ext _ tm tm' he]; exact hk)
            ⟨cx.hs, cx.sim.drawn _, cx.hG, cx.tr⟩ haw fun a' w' hs => ?_)
          exact hs.weak fun tm' H' hk => ⟨_, H', fun t v => keep_sub _ tm' t v, Hp.sub_refl _, hk⟩
        · cases h
    | seq x y =>
      simp only [cCode] at h
      split at h
      · rename_i ax ay hx hy
        cases h
        refine wp_seq (wp_mono (ih x ax hx _ cx haw) fun e a' w' he => ?_)
        cases e with
        | normal =>
          obtain ⟨tm', H', T', μ', hk, hle, hfr, c'⟩ := he
          exact wp_mono (ih y ay hy Q c' hk) fun e2 a2 w2 h2 => RQ.back hle hfr h2
        | exit i => exact he
        | goto l => exact he
        | ret => exact he
        | panic p => exact he
        | outgrown => exact he
      · cases h
    | cond c x y =>
      simp only [cCode] at h
      split at h
      · rename_i c0 ax ay hc hx hy
        cases h
        simp only [AW] at haw
        split at haw
        · rename_i t ht
          have hb := (cx.aev hc ht).bool_inv
          refine wp_cond hb ?_
          cases t
          · simp only [Bool.false_eq_true, if_false] at haw ⊢
            exact ih y ay hy Q cx haw
          · simp only [if_true] at haw ⊢
            exact ih x ax hx Q cx haw
        · exact haw.elim
      · cases h
    | block i x =>
      simp only [cCode] at h
      split at h
      · rename_i ax hx
        cases h
        refine wp_block (wp_mono (ih x ax hx _ cx haw) fun e a' w' he => ?_)
        cases e with
        | normal => exact he
        | exit j =>
          simp only [Exit.inBlock]
          by_cases hj : j = i
          · subst hj
            rw [if_pos rfl]
            exact SK.mono he fun tm H hk => by simpa [AExit.inBlock] using hk
          · rw [if_neg hj]
            exact SK.mono he fun tm H hk => by simpa [AExit.inBlock, hj] using hk
        | goto l => exact he
        | ret => exact he
        | panic p => exact he
        | outgrown => exact he
      · cases h
    | loop x =>
      simp only [cCode] at h
      split at h
      · rename_i ax hx
        cases h
        obtain ⟨I, ⟨k0, h0⟩, hr⟩ := haw
        refine wp_loop_rel (fun k a w => SK P N w0 n (I k) μ H T a w) k0 (SK.weak (here (K := Weak (I k0)) h0) fun _ _ h => h) fun j a' w' hs => ?_
        obtain ⟨tm', H', T', μ', hk, hle, hfr, c'⟩ := hs
        refine wp_mono (ih x ax hx _ c' (hr j tm' H' hk)) fun e a2 w2 h2 => ?_
        cases e with
        | normal =>
          obtain ⟨tm2, H2, T2, μ2, ⟨k', hlt, hw⟩, hle2, hfr2, c2⟩ := h2
          refine ⟨k', hlt, ?_⟩
          exact SK.back hle hfr (SK.weak (K := Weak (I k')) ⟨tm2, H2, T2, μ2, hw, hle2, hfr2, c2⟩ fun _ _ h => h)
        | exit j => exact SK.back hle hfr h2
        | goto l => exact SK.back hle hfr h2
        | ret => exact SK.back hle hfr h2
        | panic p => exact h2
        | outgrown => exact h2
      · cases h
    | scope x =>
      simp only [cCode] at h
      split at h
      · rename_i l hfl
        split at h
        · rename_i r hr
          split at h
          · rename_i ax ar hx har
            cases h
            obtain ⟨J, h1, h2⟩ := haw
            refine wp_scope_rel l (fun k a w => SK P N w0 n (J k) μ H T a w) hr (wp_mono (ih x ax hx _ cx h1) fun e a' w' he => ?_) fun j a' w' hs => ?_
            · cases e with
              | normal => exact he
              | exit j => exact he
              | goto l' =>
                obtain ⟨tm2, H2, T2, μ2, ⟨hl, k', hw⟩, hle2, hfr2, c2⟩ := he
                exact ⟨hl, k', SK.weak (K := Weak (J k')) ⟨tm2, H2, T2, μ2, hw, hle2, hfr2, c2⟩ fun _ _ h => h⟩
              | ret => exact he
              | panic p => exact he
              | outgrown => exact he
            · obtain ⟨tm', H', T', μ', hk, hle, hfr, c'⟩ := hs
              refine wp_mono (ih r ar har _ c' (h2 j tm' H' hk)) fun e a2 w2 he => ?_
              cases e with
              | normal => exact SK.back hle hfr he
              | exit j => exact SK.back hle hfr he
              | goto l' =>
                obtain ⟨tm2, H2, T2, μ2, ⟨hl, k', hlt, hw⟩, hle2, hfr2, c2⟩ := he
                exact ⟨hl, k', hlt, SK.back hle hfr (SK.weak (K := Weak (J k')) ⟨tm2, H2, T2, μ2, hw, hle2, hfr2, c2⟩ fun _ _ h => h)⟩
              | ret => exact SK.back hle hfr he
              | panic p => exact he
              | outgrown => exact he
          · cases h
        · cases h
      · cases h

end
end Go.Ab
