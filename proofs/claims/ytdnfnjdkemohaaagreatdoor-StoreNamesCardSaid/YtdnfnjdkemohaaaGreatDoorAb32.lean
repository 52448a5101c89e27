/- The evaluator is sound: the whole. -/
import Derived.Test.YtdnfnjdkemohaaaGreatDoorAb31
namespace Go.Ab
section
variable {R : Type} {P : Program} {G : Nat}

theorem Weak.self {I : Tm → Hp → Prop} {tm : Tm} {H : Hp} (h : I tm H) : Weak I tm H := ⟨tm, H, fun _ _ e => e, Hp.sub_refl H, h⟩

theorem ev_sound {E : Nat → Option FEnt} (hE : ∀ f x, E f = some x → EntOk P G f x) : ∀ (n : Nat) (x : ACode) (tm : Tm) (h : Tr) (c : Nat) (k : KC R) (res : R) (r : Nat → Nat) (tm₁ : Tm) (H₁ : Hp),
    evC E n x tm h c k = some res → codeOk G x = true → Rel r G tm h c tm₁ H₁ → AW P x (fun e => KR G (k e) res r c) tm₁ H₁ := by
  intro n
  induction n using Nat.strongRecOn with
  | _ n ihs =>
    cases n with
    | zero => intro x tm h c k res r tm₁ H₁ he; simp [evC] at he
    | succ n =>
    have ih := ihs n (Nat.lt_succ_self n)
    have hcall : CallOk P G (evCall E (evC (R := R) E n)) := call_sound hE fun x tm h c k res r tm₁ H₁ => ih x tm h c k res r tm₁ H₁
    intro x tm h c k res r tm₁ H₁ he hok a
    cases x with
    | skip => exact ⟨tm, h, c, r, he, Agr.refl r c, a⟩
    | label l => exact ⟨tm, h, c, r, he, Agr.refl r c, a⟩
    | exit i => exact ⟨tm, h, c, r, he, Agr.refl r c, a⟩
    | goto i => exact ⟨tm, h, c, r, he, Agr.refl r c, a⟩
    | ret => exact ⟨tm, h, c, r, he, Agr.refl r c, a⟩
    | region ops live =>
      simp only [evC] at he
      simp only [codeOk, List.all_eq_true] at hok
      refine rw_imp (fun tm' H' hh => ?_) (evOps_sound hcall hok he a)
      obtain ⟨tm2, h2, c2, r2, e2, g2, a2⟩ := hh
      exact ⟨_, h2, c2, r2, e2, g2, a2.keep live⟩
    | regionD masks ops live =>
      simp only [evC] at he
      simp only [codeOk, List.all_eq_true] at hok
      refine rwd_imp (fun tm' H' hh => ?_) (evOpsD_sound hcall hok he a fun q hq => by cases hq)
      obtain ⟨tm2, h2, c2, r2, e2, g2, a2⟩ := hh
      exact ⟨_, h2, c2, r2, e2, g2, a2.keep live⟩
    | seq x y =>
      simp only [evC] at he
      simp only [codeOk, Bool.and_eq_true] at hok
      refine aw_imp x (fun e tm' H' hh => ?_) (ih x tm h c _ res r tm₁ H₁ he hok.1 a)
      obtain ⟨tm2, h2, c2, r2, e2, g2, a2⟩ := hh
      cases e with
      | normal => exact aw_imp y (fun e tm H hk => hk.back g2) (ih y tm2 h2 c2 k res r2 tm' H' e2 hok.2 a2)
      | exit i => exact ⟨tm2, h2, c2, r2, e2, g2, a2⟩
      | goto i => exact ⟨tm2, h2, c2, r2, e2, g2, a2⟩
      | ret => exact ⟨tm2, h2, c2, r2, e2, g2, a2⟩
    | cond x u v =>
      simp only [evC] at he
      simp only [codeOk, Bool.and_eq_true] at hok
      simp only [AW]
      split at he
      · rename_i t e
        rw [aev_ren a.st hok.1.1 e]
        simp only [ren]
        split at he
        · rename_i ht; rw [if_pos ht]; exact ih u tm h c k res r tm₁ H₁ he hok.1.2 a
        · rename_i ht; rw [if_neg ht]; exact ih v tm h c k res r tm₁ H₁ he hok.2 a
      · cases he
    | block i x =>
      simp only [evC] at he
      simp only [codeOk] at hok
      refine aw_imp x (fun e tm' H' hh => ?_) (ih x tm h c _ res r tm₁ H₁ he hok a)
      obtain ⟨tm2, h2, c2, r2, e2, g2, a2⟩ := hh
      cases e with
      | normal => exact ⟨tm2, h2, c2, r2, e2, g2, a2⟩
      | exit j =>
        simp only [AExit.inBlock]
        dsimp only at e2
        split at e2
        · rename_i hj; rw [if_pos hj]; exact ⟨tm2, h2, c2, r2, e2, g2, a2⟩
        · rename_i hj; rw [if_neg hj]; exact ⟨tm2, h2, c2, r2, e2, g2, a2⟩
      | goto i => exact ⟨tm2, h2, c2, r2, e2, g2, a2⟩
      | ret => exact ⟨tm2, h2, c2, r2, e2, g2, a2⟩
    | loop x =>
      have hok' := hok
      simp only [codeOk] at hok
      refine ⟨fun j tm₁ H₁ => j ≤ n + 1 ∧ ∃ tm h c' r', evC E j (.loop x) tm h c' k = some res ∧ Agr r r' c c' ∧ Rel r' G tm h c' tm₁ H₁, ⟨n + 1, Weak.self ⟨Nat.le_refl _, tm, h, c, r, he, Agr.refl r c, a⟩⟩, ?_⟩
      rintro j tm' H' ⟨hj, tm2, h2, c2, r2, e2, g2, a2⟩
      cases j with
      | zero => simp [evC] at e2
      | succ j =>
        simp only [evC] at e2
        refine aw_imp x (fun e tm3 H3 hh => ?_) (ihs j (by omega) x tm2 h2 c2 _ res r2 tm' H' e2 hok a2)
        obtain ⟨tm4, h4, c4, r4, e4, g4, a4⟩ := hh
        cases e with
        | normal => exact ⟨j, Nat.lt_succ_self j, Weak.self ⟨by omega, tm4, h4, c4, r4, e4, g2.trans g4, a4⟩⟩
        | exit i => exact ⟨tm4, h4, c4, r4, e4, g2.trans g4, a4⟩
        | goto i => exact ⟨tm4, h4, c4, r4, e4, g2.trans g4, a4⟩
        | ret => exact ⟨tm4, h4, c4, r4, e4, g2.trans g4, a4⟩
    | scope l x y =>
      simp only [codeOk, Bool.and_eq_true] at hok
      simp only [evC] at he
      refine ⟨fun j tm₁ H₁ => j ≤ n ∧ ∃ tm h c' r', evC E j (.scope l y y) tm h c' k = some res ∧ Agr r r' c c' ∧ Rel r' G tm h c' tm₁ H₁, ?_, ?_⟩
      · refine aw_imp x (fun e tm' H' hh => ?_) (ih x tm h c _ res r tm₁ H₁ he hok.1 a)
        obtain ⟨tm2, h2, c2, r2, e2, g2, a2⟩ := hh
        cases e with
        | normal => exact ⟨tm2, h2, c2, r2, e2, g2, a2⟩
        | exit i => exact ⟨tm2, h2, c2, r2, e2, g2, a2⟩
        | goto i =>
          dsimp only at e2
          split at e2
          · rename_i hi; exact ⟨hi, n, Weak.self ⟨Nat.le_refl n, tm2, h2, c2, r2, e2, g2, a2⟩⟩
          · cases e2
        | ret => exact ⟨tm2, h2, c2, r2, e2, g2, a2⟩
      · rintro j tm' H' ⟨hj, tm2, h2, c2, r2, e2, g2, a2⟩
        cases j with
        | zero => simp [evC] at e2
        | succ j =>
          simp only [evC] at e2
          refine aw_imp y (fun e tm3 H3 hh => ?_) (ihs j (by omega) y tm2 h2 c2 _ res r2 tm' H' e2 hok.2 a2)
          obtain ⟨tm4, h4, c4, r4, e4, g4, a4⟩ := hh
          cases e with
          | normal => exact ⟨tm4, h4, c4, r4, e4, g2.trans g4, a4⟩
          | exit i => exact ⟨tm4, h4, c4, r4, e4, g2.trans g4, a4⟩
          | goto i =>
            dsimp only at e4
            split at e4
            · rename_i hi; exact ⟨hi, j, Nat.lt_succ_self j, Weak.self ⟨by omega, tm4, h4, c4, r4, e4, g2.trans g4, a4⟩⟩
            · cases e4
          | ret => exact ⟨tm4, h4, c4, r4, e4, g2.trans g4, a4⟩

/-- A run that answers is a contract. -/
theorem evF_tri {E : Nat → Option FEnt} (hE : ∀ f x, E f = some x → EntOk P G f x) {n f : Nat} {args : List Value} {h : Tr} {c : Nat} {k : KF R} {res : R} {r : Nat → Nat} {H₁ : Hp}
    (he : evF E n f args h c k = some res) (w : wfL c args = true) (a : Rel r G [] h c [] H₁) :
    Tri P f (args.map (ren r)) H₁ fun v₁ H₁' => ∃ v h' c' r', k v h' c' = some res ∧ Agr r r' c c' ∧ v₁ = ren r' v ∧ wf c' v = true ∧ Rel r' G [] h' c' [] H₁' :=
  call_sound hE (fun x tm h c k res r tm₁ H₁ => ev_sound hE n x tm h c k res r tm₁ H₁) f args h c k res r H₁ he w a

end
end Go.Ab
