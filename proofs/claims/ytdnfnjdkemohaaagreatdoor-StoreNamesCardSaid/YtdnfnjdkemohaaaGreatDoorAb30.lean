/- The evaluator is sound. -/
import Derived.Test.YtdnfnjdkemohaaaGreatDoorAb29
namespace Go.Ab

structure Rel (r : Nat → Nat) (G : Nat) (tm : Tm) (h : Tr) (c : Nat) (tm₁ : Tm) (H₁ : Hp) : Prop where
  st : StR r G tm h.hp tm₁ H₁
  wt : ∀ t v, tm.get t = some v → wf c v = true
  wh : ∀ i o, h.get i = some o → i < c ∧ wfOb c o = true
  inj : ∀ i j oi oj, h.get i = some oi → h.get j = some oj → r i = r j → i = j
  gc : G ≤ c

/-- r' goes on where r stood. -/
def Agr (r r' : Nat → Nat) (c c' : Nat) : Prop := c ≤ c' ∧ ∀ i, i < c → r' i = r i

theorem Agr.refl (r : Nat → Nat) (c : Nat) : Agr r r c c := ⟨Nat.le_refl _, fun _ _ => rfl⟩
theorem Agr.trans {r r' r'' : Nat → Nat} {c c' c'' : Nat} (h : Agr r r' c c') (k : Agr r' r'' c' c'') : Agr r r'' c c'' :=
  ⟨Nat.le_trans h.1 k.1, fun i hi => (k.2 i (Nat.lt_of_lt_of_le hi h.1)).trans (h.2 i hi)⟩
theorem Agr.ren {r r' : Nat → Nat} {c c' : Nat} (h : Agr r r' c c') {v : Value} (w : wf c v = true) : Ab.ren r' v = Ab.ren r v := ren_congr h.2 v w
theorem Agr.renOb {r r' : Nat → Nat} {c c' : Nat} (h : Agr r r' c c') {o : Ob} (w : wfOb c o = true) : Ab.renOb r' o = Ab.renOb r o := renOb_congr h.2 w

section
variable {r r' : Nat → Nat} {G : Nat} {tm tm₁ : Tm} {h h' : Tr} {c c' : Nat} {H₁ H₁' : Hp}

/-- The slots of the one, the heap of the other. -/
theorem Rel.join (a : Rel r G tm h c tm₁ H₁) (g : Agr r r' c c') (b : Rel r' G [] h' c' [] H₁') : Rel r' G tm h' c' tm₁ H₁' :=
  ⟨⟨fun t v e => by rw [a.st.tm t v e, g.ren (a.wt t v e)], b.st.hp, b.st.gl⟩, fun t v e => wf_mono g.1 v (a.wt t v e), b.wh, b.inj, b.gc⟩

theorem Rel.bare (a : Rel r G tm h c tm₁ H₁) : Rel r G [] h c [] H₁ :=
  ⟨⟨fun t v e => by simp [Tm.get] at e, a.st.hp, a.st.gl⟩, fun t v e => by simp [Tm.get] at e, a.wh, a.inj, a.gc⟩

theorem Rel.put (a : Rel r G tm h c tm₁ H₁) (d : Option Nat) {v : Value} (w : wf c v = true) : Rel r G (tm.put d v) h c (tm₁.put d (ren r v)) H₁ := by
  cases d with
  | none => exact a
  | some d =>
    refine ⟨⟨fun t u e => ?_, a.st.hp, a.st.gl⟩, fun t u e => ?_, a.wh, a.inj, a.gc⟩
    · simp only [Tm.put, Tm.get] at e ⊢
      split at e
      · rename_i ht; cases e; rw [if_pos ht]
      · rename_i ht; rw [if_neg ht]; exact a.st.tm t u e
    · simp only [Tm.put, Tm.get] at e
      split at e
      · cases e; exact w
      · exact a.wt t u e

theorem Rel.new (a : Rel r G tm h c tm₁ H₁) {ob : Ob} (w : wfOb c ob = true) {id : Nat} (hid : H₁ id = none) :
    ∃ r', Agr r r' c (c + 1) ∧ r' c = id ∧ Rel r' G tm (h.put c ob) (c + 1) tm₁ (H₁.put id (renOb r ob)) := by
  have ag : Agr r (fun i => if i = c then id else r i) c (c + 1) := ⟨Nat.le_succ c, fun i hi => if_neg (by omega)⟩
  refine ⟨_, ag, if_pos rfl, ⟨⟨fun t v e => ?_, fun i o e => ?_, fun i hi => ?_⟩, fun t v e => wf_mono ag.1 v (a.wt t v e), fun i o e => ?_, fun i j oi oj ei ej e => ?_, Nat.le_succ_of_le a.gc⟩⟩
  · rw [a.st.tm t v e, ag.ren (a.wt t v e)]
  · simp only [Tr.hp, Tr.put_get] at e
    split at e
    · rename_i hi
      subst hi
      cases e
      rw [if_pos rfl, Hp.put_same, ag.renOb w]
    · rename_i hi
      have h1 := a.wh i o e
      have h2 := a.st.hp i o e
      rw [if_neg hi, Hp.put_ne, h2, ag.renOb h1.2]
      intro e2; rw [e2, hid] at h2; cases h2
  · have := a.gc
    rw [if_neg (by omega)]; exact a.st.gl i hi
  · rw [Tr.put_get] at e
    split at e
    · rename_i hi; subst hi; cases e; exact ⟨Nat.lt_succ_self _, wfOb_mono ag.1 w⟩
    · have := a.wh i o e; exact ⟨by omega, wfOb_mono ag.1 this.2⟩
  · rw [Tr.put_get] at ei ej
    have ne : ∀ i o, i ≠ c → h.get i = some o → r i ≠ id := fun i o _ e1 e2 => by
      have := a.st.hp i o e1
      rw [e2, hid] at this; cases this
    by_cases h1 : i = c
    · by_cases h2 : j = c
      · rw [h1, h2]
      · rw [if_neg h2] at ej
        rw [if_pos h1, if_neg h2] at e
        exact absurd e.symm (ne j oj h2 ej)
    · rw [if_neg h1] at ei
      by_cases h2 : j = c
      · rw [if_neg h1, if_pos h2] at e
        exact absurd e (ne i oi h1 ei)
      · rw [if_neg h2] at ej
        rw [if_neg h1, if_neg h2] at e
        exact a.inj i j oi oj ei ej e

theorem Rel.wr (a : Rel r G tm h c tm₁ H₁) {ob : Ob} (w : wfOb c ob = true) {id : Nat} (hid : h.get id ≠ none) : Rel r G tm (h.put id ob) c tm₁ (H₁.put (r id) (renOb r ob)) := by
  obtain ⟨old, ho⟩ : ∃ o, h.get id = some o := by
    cases e : h.get id with
    | none => exact absurd e hid
    | some o => exact ⟨o, rfl⟩
  refine ⟨⟨a.st.tm, fun i o e => ?_, a.st.gl⟩, a.wt, fun i o e => ?_, fun i j oi oj ei ej e => ?_, a.gc⟩
  · simp only [Tr.hp, Tr.put_get] at e
    split at e
    · rename_i hi; subst hi; cases e; rw [Hp.put_same]
    · rename_i hi
      rw [Hp.put_ne, a.st.hp i o e]
      intro e2; exact hi (a.inj i id o old e ho e2)
  · rw [Tr.put_get] at e
    split at e
    · rename_i hi; subst hi; cases e; exact ⟨(a.wh _ _ ho).1, w⟩
    · exact a.wh i o e
  · rw [Tr.put_get] at ei ej
    have he : ∀ k o, (if k = id then some ob else h.get k) = some o → ∃ o', h.get k = some o' := fun k o e => by
      split at e
      · rename_i hk; rw [hk]; exact ⟨old, ho⟩
      · exact ⟨o, e⟩
    obtain ⟨_, ei⟩ := he i oi ei
    obtain ⟨_, ej⟩ := he j oj ej
    exact a.inj i j _ _ ei ej e

theorem Rel.era (a : Rel r G tm h c tm₁ H₁) {id : Nat} (hid : h.get id ≠ none) : Rel r G tm (h.era id) c tm₁ (H₁.era (r id)) := by
  obtain ⟨old, ho⟩ : ∃ o, h.get id = some o := by
    cases e : h.get id with
    | none => exact absurd e hid
    | some o => exact ⟨o, rfl⟩
  have he : ∀ k o, (h.era id).get k = some o → k ≠ id ∧ h.get k = some o := fun k o e => by
    rw [Tr.era_get] at e
    split at e
    · cases e
    · rename_i hk; exact ⟨hk, e⟩
  refine ⟨⟨a.st.tm, fun i o e => ?_, a.st.gl⟩, a.wt, fun i o e => a.wh i o (he i o e).2, fun i j oi oj ei ej e => a.inj i j oi oj (he i oi ei).2 (he j oj ej).2 e, a.gc⟩
  obtain ⟨h1, h2⟩ := he i o e
  rw [Hp.era_ne, a.st.hp i o h2]
  intro e2; exact h1 (a.inj i id o old h2 ho e2)

end

section
variable {R : Type} {P : Program} {G : Nat}

/-- The continuation is reached, at a state that the present one renames. -/
def KR (G : Nat) (k : KT R) (res : R) (r : Nat → Nat) (c : Nat) : Tm → Hp → Prop := fun tm₁ H₁ =>
  ∃ tm h c' r', k tm h c' = some res ∧ Agr r r' c c' ∧ Rel r' G tm h c' tm₁ H₁

theorem KR.back {k : KT R} {res : R} {r r' : Nat → Nat} {c c' : Nat} (g : Agr r r' c c') {tm₁ : Tm} {H₁ : Hp} (h : KR G k res r' c' tm₁ H₁) : KR G k res r c tm₁ H₁ := by
  obtain ⟨tm, h, c2, r2, e, g2, a⟩ := h
  exact ⟨tm, h, c2, r2, e, g.trans g2, a⟩

/-- What a call has to keep to. -/
def CallOk (P : Program) (G : Nat) (call : Caller R) : Prop := ∀ (f : Nat) (args : List Value) (h : Tr) (c : Nat) (k : KF R) (res : R) (r : Nat → Nat) (H₁ : Hp),
  call f args h c k = some res → wfL c args = true → Rel r G [] h c [] H₁ →
  Tri P f (args.map (ren r)) H₁ fun v₁ H₁' => ∃ v h' c' r', k v h' c' = some res ∧ Agr r r' c c' ∧ v₁ = ren r' v ∧ wf c' v = true ∧ Rel r' G [] h' c' [] H₁'

theorem evEff_sound {call : Caller R} (hc : CallOk P G call) {dst : Option Nat} {tm tm₁ : Tm} {h : Tr} {c : Nat} {k : KT R} {eff : Eff} {res : R} {r : Nat → Nat} {H₁ : Hp} {op : AOp}
    (ha : evalA h.hp tm op = some eff) (he : evEff call dst tm h c k (some eff) = some res) (a : Rel r G tm h c tm₁ H₁) : effW P (renEff r eff) dst (KR G k res r c) tm₁ H₁ := by
  cases eff with
  | val v =>
    simp only [evEff, fVal_eq] at he
    split at he
    · rename_i w
      exact ⟨_, _, _, r, he, Agr.refl r c, a.put dst w⟩
    · cases he
  | new ob mk =>
    simp only [evEff, fOb_eq, fVal_eq, putK, Tr.setK_eq, fNat_eq] at he
    split at he
    · rename_i w
      intro id hid
      obtain ⟨r', g, e, b⟩ := a.new w hid
      refine ⟨_, _, _, r', he, g, ?_⟩
      have hm : ren r' (mk.val c) = mk.val id := by cases mk <;> simp only [Mk.val, ren, renAd, e]
      have hw : wf (c + 1) (mk.val c) = true := by cases mk <;> simp [Mk.val, wf]
      have := b.put dst hw
      rw [hm] at this
      exact this
    · cases he
  | wr id ob v =>
    simp only [evEff, fOb_eq, fVal_eq, Tr.setK_eq, fNat_eq] at he
    split at he
    · rename_i w
      simp only [Bool.and_eq_true] at w
      exact ⟨_, _, _, r, he, Agr.refl r c, (a.wr w.1 (evalA_wr ha)).put dst w.2⟩
    · cases he
  | app er ob mk =>
    simp only [evEff, fOb_eq, fVal_eq, putK, Tr.setK_eq, fNat_eq] at he
    split at he
    · rename_i w
      intro id hid
      have fin : ∀ {h' : Tr} {H' : Hp}, Rel r G tm h' c tm₁ H' → H' id = none → k (tm.put dst (mk.val c)) (Tr.set (c + 1) h' c (some ob)) (c + 1) = some res → KR G k res r c (tm₁.put dst (mk.val id)) (H'.put id (renOb r ob)) := by
        intro h' H' a' hid' he'
        obtain ⟨r', g, e, b⟩ := a'.new w hid'
        refine ⟨_, _, _, r', he', g, ?_⟩
        have hm : ren r' (mk.val c) = mk.val id := by cases mk <;> simp only [Mk.val, ren, renAd, e]
        have hw : wf (c + 1) (mk.val c) = true := by cases mk <;> simp [Mk.val, wf]
        have := b.put dst hw
        rw [hm] at this
        exact this
      cases er with
      | none => exact fin a hid he
      | some i =>
        refine fin (a.era (evalA_app ha)) ?_ he
        simp only [eraO, Option.map_some, Hp.era_get]
        split
        · rfl
        · exact hid
    · cases he
  | call f args =>
    simp only [evEff, fNat_eq, fLst_eq] at he
    split at he
    · rename_i w
      refine Tri.mono (hc f args h c _ res r H₁ he w a.bare) fun v₁ H₁' hh => ?_
      obtain ⟨v, h', c', r', e1, g, rfl, w', b⟩ := hh
      exact ⟨_, _, _, r', e1, g, (a.join g b).put dst w'⟩
    · cases he

theorem guard_ren {r : Nat → Nat} {tm tm₁ : Tm} {h : Tr} {c : Nat} {H₁ : Hp} (a : Rel r G tm h c tm₁ H₁) {g : Option (Nat × Bool)} {b : Bool} (hg : guardA tm g = some b) : guardA tm₁ g = some b := by
  cases g with
  | none => exact hg
  | some g =>
    obtain ⟨t, w⟩ := g
    simp only [guardA] at hg ⊢
    split at hg
    · rename_i x e; rw [a.st.tm t _ e]; exact hg
    · rename_i v nb e
      rw [a.st.tm t _ e]
      cases v <;> first
        | exact hg
        | (exact absurd rfl (nb _))
        | (rename_i p; cases p <;> exact hg)
        | (rename_i p _ _; cases p <;> exact hg)
    · cases hg

theorem evOps_sound {call : Caller R} (hc : CallOk P G call) {k : KT R} {res : R} : ∀ {l : List AOper} {tm tm₁ : Tm} {h : Tr} {c : Nat} {r : Nat → Nat} {H₁ : Hp}, (∀ o ∈ l, opOk G o.op = true) →
    evOps call l tm h c k = some res → Rel r G tm h c tm₁ H₁ → RW P (KR G k res r c) l tm₁ H₁ := by
  intro l
  induction l with
  | nil => intro tm tm₁ h c r H₁ _ he a; exact ⟨tm, h, c, r, he, Agr.refl r c, a⟩
  | cons o l ih =>
    intro tm tm₁ h c r H₁ ho he a
    simp only [evOps] at he
    have mono : ∀ {r' c' tm' H'}, Agr r r' c c' → RW P (KR G k res r' c') l tm' H' → RW P (KR G k res r c) l tm' H' := by
      intro r' c' tm' H' g
      have : ∀ (l : List AOper) tm' H', RW P (KR G k res r' c') l tm' H' → RW P (KR G k res r c) l tm' H' := by
        intro l
        induction l with
        | nil => intro tm' H' hh; exact hh.back g
        | cons o l ih2 =>
          intro tm' H' hh
          simp only [RW] at hh ⊢
          split at hh
          · exact ih2 _ _ hh
          · obtain ⟨eff, e1, e2⟩ := hh; exact ⟨eff, e1, effW_map (fun v H' => ih2 _ _) e2⟩
          · exact hh.elim
      exact this l tm' H'
    simp only [RW]
    split at he
    · rename_i hg
      rw [guard_ren a hg]
      exact ih (fun o ho' => ho o (List.mem_cons_of_mem _ ho')) he (a.put o.dst (v := undef) rfl)
    · rename_i hg
      rw [guard_ren a hg]
      cases hev : evalA h.hp tm o.op with
      | none => rw [hev] at he; simp [evEff] at he
      | some eff =>
        rw [hev] at he
        refine ⟨renEff r eff, evalA_ren a.st (ho o (List.mem_cons_self ..)) hev, effW_map (fun v H' hh => ?_) (evEff_sound hc hev he a)⟩
        obtain ⟨tm2, h2, c2, r2, e2, g2, a2⟩ := hh
        exact mono g2 (ih (fun o ho' => ho o (List.mem_cons_of_mem _ ho')) e2 a2)
    · cases he

end
end Go.Ab
