/- The evaluator is sound: code and functions. -/
import Derived.Test.YtdnfnjdkemohaaaGreatDoorAb30
namespace Go.Ab

section
variable {P : Program}

theorem rw_imp {K K' : Tm → Hp → Prop} (hk : ∀ tm H, K tm H → K' tm H) : ∀ {l : List AOper} {tm : Tm} {H : Hp}, RW P K l tm H → RW P K' l tm H := by
  intro l
  induction l with
  | nil => intro tm H h; exact hk _ _ h
  | cons o l ih =>
    intro tm H h
    simp only [RW] at h ⊢
    split at h
    · exact ih h
    · obtain ⟨eff, e1, e2⟩ := h; exact ⟨eff, e1, effW_map (fun v H' => ih) e2⟩
    · exact h.elim

theorem stepD_imp {bef : Nat → Nat → Bool} {R R' : RD} {i : Nat} {o : AOper} (hr : ∀ p tm H, R p tm H → R' p tm H) {p : Pend} {tm : Tm} {H : Hp} (h : stepD P bef R i o p tm H) : stepD P bef R' i o p tm H := by
  unfold stepD at h ⊢
  split at h
  · exact hr _ _ _ h
  · obtain ⟨eff, e1, e2⟩ := h
    exact ⟨eff, e1, effW_map (fun v H' hh => ⟨hh.1, hr _ _ _ hh.2⟩) e2⟩
  · exact h.elim

theorem rwd_imp {bef : Nat → Nat → Bool} {K K' : Tm → Hp → Prop} (hk : ∀ tm H, K tm H → K' tm H) : ∀ {l : List (Nat × AOper)} {p : Pend} {tm : Tm} {H : Hp}, RWD P bef K l p tm H → RWD P bef K' l p tm H := by
  intro l
  induction l with
  | nil => intro p tm H h; exact hk _ _ h
  | cons o l ih =>
    obtain ⟨i, o⟩ := o
    intro p tm H h
    rw [rwd_cons] at h ⊢
    exact stepD_imp (fun p tm H h => ih h) h

theorem aw_imp : ∀ (c : ACode) {Q Q' : AExit → Tm → Hp → Prop}, (∀ e tm H, Q e tm H → Q' e tm H) → ∀ {tm : Tm} {H : Hp}, AW P c Q tm H → AW P c Q' tm H := by
  intro c
  induction c with
  | skip => intro Q Q' hq tm H h; exact hq _ _ _ h
  | label l => intro Q Q' hq tm H h; exact hq _ _ _ h
  | exit l => intro Q Q' hq tm H h; exact hq _ _ _ h
  | goto l => intro Q Q' hq tm H h; exact hq _ _ _ h
  | ret => intro Q Q' hq tm H h; exact hq _ _ _ h
  | region ops live => intro Q Q' hq tm H h; exact rw_imp (fun tm H => hq _ _ _) h
  | regionD masks ops live => intro Q Q' hq tm H h; exact rwd_imp (fun tm H => hq _ _ _) h
  | seq a b iha ihb =>
    intro Q Q' hq tm H h
    refine iha (fun e tm H hh => ?_) h
    cases e with
    | normal => exact ihb hq hh
    | exit i => exact hq _ _ _ hh
    | goto i => exact hq _ _ _ hh
    | ret => exact hq _ _ _ hh
  | cond x a b iha ihb =>
    intro Q Q' hq tm H h
    simp only [AW] at h ⊢
    split at h
    · split at h
      · rename_i ht; rw [if_pos ht]; exact iha hq h
      · rename_i ht; rw [if_neg ht]; exact ihb hq h
    · exact h.elim
  | block i a ih =>
    intro Q Q' hq tm H h
    refine ih (fun e tm H hh => ?_) h
    cases e with
    | normal => exact hq _ _ _ hh
    | exit j =>
      simp only [AExit.inBlock] at hh ⊢
      split at hh
      · rename_i e; rw [if_pos e]; exact hq _ _ _ hh
      · rename_i e; rw [if_neg e]; exact hq _ _ _ hh
    | goto i => exact hq _ _ _ hh
    | ret => exact hq _ _ _ hh
  | loop a ih =>
    intro Q Q' hq tm H h
    obtain ⟨I, h0, hr⟩ := h
    refine ⟨I, h0, fun k tm H hi => ih (fun e tm H hh => ?_) (hr k tm H hi)⟩
    cases e with
    | normal => exact hh
    | exit i => exact hq _ _ _ hh
    | goto i => exact hq _ _ _ hh
    | ret => exact hq _ _ _ hh
  | scope l a r iha ihr =>
    intro Q Q' hq tm H h
    obtain ⟨J, h0, hr⟩ := h
    refine ⟨J, iha (fun e tm H hh => ?_) h0, fun k tm H hi => ihr (fun e tm H hh => ?_) (hr k tm H hi)⟩ <;> cases e <;> first
      | exact hh
      | exact hq _ _ _ hh

end

section
variable {R : Type} {P : Program} {G : Nat}

def PRel (r : Nat → Nat) (G c : Nat) (p : Nat × Tm × AOp × Value) (q : Nat × (Hp → Prop)) : Prop :=
  p.1 = q.1 ∧ ∀ r' c' h' H', Agr r r' c c' → Rel r' G [] h' c' [] H' → evalA h'.hp p.2.1 p.2.2.1 = some (.val p.2.2.2) → q.2 H'

theorem recheck_sound {bef : Nat → Nat → Bool} {i : Nat} {h : Tr} : ∀ {pe : PendE}, recheck bef i h pe = true → ∀ p ∈ pe, bef p.1 i = false → evalA h.hp p.2.1 p.2.2.1 = some (.val p.2.2.2) := by
  intro pe
  induction pe with
  | nil => intro _ p hp; cases hp
  | cons x pe ih =>
    obtain ⟨j, tm, op, v⟩ := x
    intro hc p hp hb
    simp only [recheck, Bool.and_eq_true, Bool.or_eq_true] at hc
    rcases List.mem_cons.1 hp with rfl | hp
    · rcases hc.1 with h1 | h1
      · simp only at hb; rw [hb] at h1; cases h1
      · simp only
        split at h1
        · rename_i u e; rw [e, beqV_sound _ _ h1]
        · cases h1
    · exact ih hc.2 p hp hb

theorem evOpsD_sound {bef : Nat → Nat → Bool} {call : Caller R} (hc : CallOk P G call) {k : KT R} {res : R} : ∀ {l : List (Nat × AOper)} {pe : PendE} {p₁ : Pend} {tm tm₁ : Tm} {h : Tr} {c : Nat} {r : Nat → Nat} {H₁ : Hp}, (∀ o ∈ l, opOk G o.2.op = true) →
    evOpsD bef call l pe tm h c k = some res → Rel r G tm h c tm₁ H₁ → (∀ q ∈ p₁, ∃ p ∈ pe, PRel r G c p q) → RWD P bef (KR G k res r c) l p₁ tm₁ H₁ := by
  intro l
  induction l with
  | nil => intro pe p₁ tm tm₁ h c r H₁ _ he a _; exact ⟨tm, h, c, r, he, Agr.refl r c, a⟩
  | cons o l ih =>
    obtain ⟨i, o⟩ := o
    intro pe p₁ tm tm₁ h c r H₁ ho he a hp
    have ho' := fun o (ho' : o ∈ l) => ho o (List.mem_cons_of_mem _ ho')
    have hoo := ho _ (List.mem_cons_self ..)
    have tr : ∀ {r' c'}, Agr r r' c c' → ∀ q ∈ p₁, ∃ p ∈ pe, PRel r' G c' p q := fun g q hq =>
      let ⟨p, h1, h2, h3⟩ := hp q hq
      ⟨p, h1, h2, fun r2 c2 h2 H2 g2 => h3 r2 c2 h2 H2 (g.trans g2)⟩
    simp only [evOpsD] at he
    rw [rwd_cons]
    split at he
    · rename_i hg
      rw [stepD_off (guard_ren a hg)]
      exact ih ho' he (a.put o.dst (v := undef) rfl) hp
    · rename_i hg
      rw [stepD_on (guard_ren a hg)]
      split at he
      · rename_i hh
        cases hev : evalA h.hp tm o.op with
        | none => rw [hev] at he; simp [evEff] at he
        | some eff =>
          rw [hev] at he
          refine ⟨renEff r eff, evalA_ren a.st hoo hev, effW_map (fun v H' hk => ?_) (evEff_sound hc hev he a)⟩
          obtain ⟨tm2, h2, c2, r2, e2, g2, a2⟩ := hk
          dsimp only at e2
          split at e2
          · rename_i hre
            have hre := recheck_sound hre
            refine ⟨fun _ q hq hb => ?_, ?_⟩
            · obtain ⟨p, m, e, hpq⟩ := hp q hq
              exact hpq r2 c2 h2 H' g2 a2.bare (hre p m (by rw [e]; exact hb))
            · have : ext i o (renEff r eff) p₁ tm₁ = p₁ := by simp [ext, hh]
              rw [this]
              exact rwd_imp (fun tm H hk => hk.back g2) (ih ho' e2 a2 (tr g2))
          · cases e2
      · rename_i hh
        have hh' : isHeavy o.op = false := by simpa using hh
        split at he
        · rename_i hl
          split at he
          · rename_i v hev
            simp only [fVal_eq] at he
            split at he
            · rename_i w
              refine ⟨.val (ren r v), evalA_ren a.st hoo hev, fun hx => absurd hx hh, ?_⟩
              have : ext i o (.val (ren r v)) p₁ tm₁ = (i, fun H' => evalA H' tm₁ o.op = some (.val (ren r v))) :: p₁ := by simp [ext, hh', hl]
              rw [this]
              refine ih ho' he (a.put o.dst w) fun q hq => ?_
              rcases List.mem_cons.1 hq with rfl | hq
              · refine ⟨_, List.mem_cons_self .., rfl, fun r' c' h' H' g b e => ?_⟩
                have := evalA_ren (a.join g b).st hoo e
                simp only [renEff, g.ren w] at this
                exact this
              · obtain ⟨p, m, hpq⟩ := hp q hq
                exact ⟨p, List.mem_cons_of_mem _ m, hpq⟩
            · cases he
          · cases he
        · rename_i hl
          cases hev : evalA h.hp tm o.op with
          | none => rw [hev] at he; simp [evEff] at he
          | some eff =>
            rw [hev] at he
            refine ⟨renEff r eff, evalA_ren a.st hoo hev, effW_map (fun v H' hk => ?_) (evEff_sound hc hev he a)⟩
            obtain ⟨tm2, h2, c2, r2, e2, g2, a2⟩ := hk
            refine ⟨fun hx => absurd hx hh, ?_⟩
            have : ext i o (renEff r eff) p₁ tm₁ = p₁ := by simp [ext, hl]
            rw [this]
            exact rwd_imp (fun tm H hk => hk.back g2) (ih ho' e2 a2 (tr g2))
    · cases he

def codeOk (G : Nat) : ACode → Bool
  | .region ops _ => ops.all fun o => opOk G o.op
  | .regionD _ ops _ => ops.all fun o => opOk G o.2.op
  | .seq a b => codeOk G a && codeOk G b
  | .cond x a b => xOk G x && codeOk G a && codeOk G b
  | .block _ a => codeOk G a
  | .loop a => codeOk G a
  | .scope _ a r => codeOk G a && codeOk G r
  | _ => true

theorem Rel.keep {r : Nat → Nat} {tm tm₁ : Tm} {h : Tr} {c : Nat} {H₁ : Hp} (a : Rel r G tm h c tm₁ H₁) (live : List Nat) : Rel r G (tm.keep live) h c (tm₁.keep live) H₁ := by
  refine ⟨⟨?_, a.st.hp, a.st.gl⟩, fun t v e => a.wt t v (keep_sub live tm t v e), a.wh, a.inj, a.gc⟩
  induction live with
  | nil => intro t v e; simp [Tm.keep, Tm.get] at e
  | cons u live ih =>
    intro t v e
    simp only [Tm.keep] at e ⊢
    split at e
    · rename_i x hx
      rw [a.st.tm u x hx]
      simp only [Tm.get] at e ⊢
      split at e
      · rename_i ht; cases e; rw [if_pos ht]
      · rename_i ht; rw [if_neg ht]; exact ih t v e
    · rename_i hx
      split
      · rename_i y hy
        simp only [Tm.get]
        split
        · rename_i ht
          have := keep_sub live tm t v e
          rw [ht, hx] at this; cases this
        · exact ih t v e
      · exact ih t v e

theorem resA_ren {r : Nat → Nat} {tm tm₁ : Tm} {h : Tr} {c : Nat} {H₁ : Hp} (a : Rel r G tm h c tm₁ H₁) {x : ARes} {v : Value} (e : resA h.hp tm x = some v) : resA H₁ tm₁ x = some (ren r v) := by
  cases x with
  | tmp t => exact a.st.tm t v e
  | cell t agg n =>
    simp only [resA] at e ⊢
    split at e
    · rename_i id o e1
      rw [a.st.tm t _ e1]
      split at e
      · rename_i ro l e2
        simp only [ren, renAd, hp_ren a.st e2, renOb, List.length_map]
        split at e
        · rename_i hg
          split at e
          · rename_i hh; cases e; rw [if_pos hg, if_pos hh, ← List.map_drop, ← List.map_take]; simp only [ren, renA_toArray]
          · cases e
        · rename_i hg
          rw [if_neg hg]
          exact get_ren e
      · cases e
    · cases e

theorem resAs_ren {r : Nat → Nat} {tm tm₁ : Tm} {h : Tr} {c : Nat} {H₁ : Hp} (a : Rel r G tm h c tm₁ H₁) : ∀ {l : List ARes} {vs : List Value}, resAs h.hp tm l = some vs → resAs H₁ tm₁ l = some (vs.map (ren r)) := by
  intro l
  induction l with
  | nil => intro vs e; simp only [resAs, Option.some.injEq] at e ⊢; subst e; rfl
  | cons x l ih =>
    intro vs e
    simp only [resAs] at e ⊢
    split at e
    · rename_i v ws e1 e2; cases e; rw [resA_ren a e1, ih e2]; rfl
    · cases e

theorem resV_ren (r : Nat → Nat) (vs : List Value) : resV (vs.map (ren r)) = ren r (resV vs) := by
  match vs with
  | [] => simp [resV, ren, renA, renL]
  | [v] => rfl
  | v :: u :: l => simp [resV, ren, renA, renL_map]

/-- What an entry of the table has to keep to. -/
def EntOk (P : Program) (G f : Nat) : FEnt → Prop
  | .code af => codeOk G af.body = true ∧ ∀ args H Q, args.length ≤ af.n → AW P af.body (fnQ af.res Q) (initTm 0 args) H → Tri P f args H Q
  | .prim p => ∀ args h c v h' c' r H₁, p args h c = some (v, h', c') → wfL c args = true → Rel r G [] h c [] H₁ →
      Tri P f (args.map (ren r)) H₁ fun v₁ H₁' => ∃ r', Agr r r' c c' ∧ v₁ = ren r' v ∧ wf c' v = true ∧ Rel r' G [] h' c' [] H₁'

theorem initTm_ren {r : Nat → Nat} : ∀ (l : List Value) (i t : Nat) (v : Value), (initTm i l).get t = some v → (initTm i (l.map (ren r))).get t = some (ren r v) := by
  intro l
  induction l with
  | nil => intro i t v e; simp [initTm, Tm.get] at e
  | cons x l ih =>
    intro i t v e
    simp only [List.map_cons, initTm, Tm.get] at e ⊢
    split at e
    · rename_i ht; cases e; rw [if_pos ht]
    · rename_i ht; rw [if_neg ht]; exact ih _ _ _ e

theorem initTm_wf {c : Nat} : ∀ (l : List Value) (i t : Nat) (v : Value), wfL c l = true → (initTm i l).get t = some v → wf c v = true := by
  intro l
  induction l with
  | nil => intro i t v _ e; simp [initTm, Tm.get] at e
  | cons x l ih =>
    intro i t v w e
    simp only [wfL, Bool.and_eq_true] at w
    simp only [initTm, Tm.get] at e
    split at e
    · cases e; exact w.1
    · exact ih _ _ _ w.2 e

theorem call_sound {E : Nat → Option FEnt} (hE : ∀ f x, E f = some x → EntOk P G f x) {body : ACode → Tm → Tr → Nat → KC R → Option R}
    (hb : ∀ x tm h c k res r tm₁ H₁, body x tm h c k = some res → codeOk G x = true → Rel r G tm h c tm₁ H₁ → AW P x (fun e => KR G (k e) res r c) tm₁ H₁) : CallOk P G (evCall E body) := by
  intro f args h c k res r H₁ he w a
  unfold evCall at he
  split at he
  · rename_i af hf
    split at he
    · rename_i hl
      obtain ⟨hco, htri⟩ := hE f _ hf
      have ai : Rel r G (initTm 0 args) h c (initTm 0 (args.map (ren r))) H₁ :=
        ⟨⟨fun t v e => initTm_ren args 0 t v e, a.st.hp, a.st.gl⟩, fun t v e => initTm_wf args 0 t v w e, a.wh, a.inj, a.gc⟩
      refine htri _ _ _ (by simpa using hl) (aw_imp _ (fun e tm H hh => ?_) (hb af.body _ _ _ _ _ _ _ _ he hco ai))
      obtain ⟨tm', h', c', r', e1, g, a'⟩ := hh
      have fin : ∀ {vs}, resAs h'.hp tm' af.res = some vs → (fVal (resV vs) fun v => if wf c' v = true then k v h' c' else none) = some res →
          ∃ vs H', resAs H tm af.res = some vs ∧ Hp.sub H' H ∧ ∃ v h' c' r', k v h' c' = some res ∧ Agr r r' c c' ∧ resV vs = ren r' v ∧ wf c' v = true ∧ Rel r' G [] h' c' [] H' := by
        intro vs e2 e3
        simp only [fVal_eq] at e3
        split at e3
        · rename_i w'
          exact ⟨_, H, resAs_ren a' e2, Hp.sub_refl H, _, h', c', r', e3, g, resV_ren r' vs, w', a'.bare⟩
        · cases e3
      cases e with
      | normal =>
        simp only [evRes] at e1
        split at e1
        · rename_i vs e2; exact fin e2 e1
        · cases e1
      | ret =>
        simp only [evRes] at e1
        split at e1
        · rename_i vs e2; exact fin e2 e1
        · cases e1
      | exit i => simp [evRes] at e1
      | goto i => simp [evRes] at e1
    · cases he
  · rename_i p hf
    split at he
    · rename_i v h' c' e1
      refine Tri.mono (hE f _ hf args h c v h' c' r H₁ e1 w a) fun v₁ H₁' hh => ?_
      obtain ⟨r', g, e2, w', a'⟩ := hh
      exact ⟨v, h', c', r', he, g, e2, w', a'⟩
    · cases he
  · cases he

end
end Go.Ab
