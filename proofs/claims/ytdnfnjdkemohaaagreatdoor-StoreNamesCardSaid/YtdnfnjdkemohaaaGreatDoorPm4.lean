/- Names of an empty disk, and the entries of the evaluator's table. -/
import Derived.Test.YtdnfnjdkemohaaaGreatDoorPm3
import Derived.Lib.SmallJoins
namespace Go.Ab.Pr
open Go.Proofs Go.RowKit Go.Ab

theorem fnOk114 : fnOk Tryz.prog 114 := ⟨Tryz.f114, _, Tryz.func114, rfl, by decide⟩

theorem names_empty_tri {H : Hp} {d m o : Nat} {ro : Bool} {cs : List Value} (hd : H d = some (.cells ro cs)) (h0 : cs[o]? = some (.map (some m)))
    (h2 : cs[o + 2]? = some (.bool false)) (hm : H m = some (.map [] 0)) :
    Tri Tryz.prog 114 [.pointer (some ⟨d, o, none⟩)] H fun v H' => v = .slice none 0 0 ∧ H' = H := by
  refine ⟨fnOk114, fun X => ⟨_, H, ⟨rfl, rfl⟩, Avo.refl _ _⟩, fun N w0 μ T w args' hG hsub hsim hvr => ?_⟩
  obtain ⟨v', l', hl, hv', hr⟩ := hvr.cases_cons
  have hnil := hr.cases_nil
  subst hnil
  have hargs : args' = #[v'] := by rw [← Array.toArray_toList (xs := args'), hl]
  subst hargs
  obtain ⟨loc, hloc, rfl⟩ := hv'.ptr_inv
  obtain ⟨loc', hl', arr, el, fz, g1, g2, g3, g4, g5⟩ := hsim.obj d _ (hsub d _ hd)
  rw [hloc] at hl'; cases hl'
  obtain ⟨_, u0, k0, r0⟩ := g4 o _ h0
  obtain ⟨_, u2, k2, r2⟩ := g4 (o + 2) _ h2
  obtain ⟨locm, hlm, rfl⟩ := r0.map_inv
  have e2 := r2.bool_inv
  subst e2
  obtain ⟨locm', hlm', q1, q2, l, q3, q4, q5, q6⟩ := hsim.obj m _ (hsub m _ hm)
  rw [hlm] at hlm'; cases hlm'
  have hl0 : l = [] := by have := q4.1; simpa using this.symm
  subst hl0
  have own : w.ownsMap Tryz.prog 9 (fun _ => (none : Option (DataW Unit × List MemPlace))) locm.b 0 (.map []) := ⟨#[], 0, q3, ⟨by simp, Go.MapKept.stamped_empty 0, by simp⟩, Nat.le_refl _, rfl⟩
  refine (Tryz.names_walk loc.b (loc.o + o) locm.b _ _ _ w own (by decide) (by decide) ?_ ?_).mono ?_
  · simp [World.cell?, g1, Nat.add_assoc, k2]
  · simp [World.cell?, g1, k0]
  · rintro e w' ⟨v, ss, he, hS, hrow, hnil, hb⟩
    have : ss = [] := by have h0 : ss.Perm [] := hS; simpa using h0
    rw [hnil.2 this] at he
    exact ⟨_, _, H, T, μ, he, ⟨rfl, rfl⟩, Mu.le_refl μ, hsub, Fr.refl _ _, hsim.grown hb, .nils⟩

/-! The entries. -/
def one (p : List Value → Tr → Option Value) : FEnt := .prim fun args h c => match p args h with
  | some v => some (v, h, c)
  | none => none

theorem ent_one {G f : Nat} {p : List Value → Tr → Option Value} (h : ∀ args h v (c : Nat) (r : Nat → Nat) H₁, p args h = some v → wfL c args = true → Rel r G [] h c [] H₁ →
      wf c v = true ∧ Tri Tryz.prog f (args.map (ren r)) H₁ fun v₁ H' => v₁ = ren r v ∧ H' = H₁) : EntOk Tryz.prog G f (one p) := by
  intro args h0 c v h' c' r H₁ hp hw hr
  simp only at hp
  split at hp
  · rename_i u hu
    cases hp
    obtain ⟨h1, h2⟩ := h args h0 v c r H₁ hu hw hr
    exact h2.mono fun v₁ H' ⟨e1, e2⟩ => ⟨r, Agr.refl r c, e1, h1, by rw [e2]; exact hr⟩
  · cases hp

def repeatP : List Value → Tr → Option Value := fun args _ => match args with
  | [.string s, .int .i64 n] => if 0 ≤ n ∧ n ≤ 1000 ∧ (bl s).length ≤ 1000 then some (.string (str (Lib.repeatL (bl s) n.toNat))) else none
  | _ => none

theorem ent105 {G : Nat} : EntOk Tryz.prog G 105 (one repeatP) := by
  refine ent_one fun args h v c r H₁ hp hw hr => ?_
  unfold repeatP at hp
  split at hp
  · rename_i s n
    split at hp
    · rename_i hc
      cases hp
      refine ⟨rfl, ?_⟩
      have := repeat_tri (bl s) n.toNat H₁ (by have := Nat.mul_le_mul hc.2.2 (show n.toNat ≤ 1000 by omega); omega) (by omega)
      rw [str_bl, Int.toNat_of_nonneg hc.1] at this
      exact this
    · cases hp
  · cases hp

def namesP : List Value → Tr → Option Value := fun args h => match args with
  | [.pointer (some ⟨d, o, none⟩)] => (match h.get d with
    | some (.cells _ cs) => (match cs[o]?, cs[o + 2]? with
      | some (.map (some m)), some (.bool false) => (match h.get m with
        | some (.map [] 0) => some (.slice none 0 0)
        | _ => none)
      | _, _ => none)
    | _ => none)
  | _ => none

theorem ent114 {G : Nat} : EntOk Tryz.prog G 114 (one namesP) := by
  refine ent_one fun args h v c r H₁ hp hw hr => ?_
  unfold namesP at hp
  split at hp
  · rename_i d o
    split at hp
    · rename_i ro cs hd
      split at hp
      · rename_i m h0 h2
        split at hp
        · rename_i hm
          cases hp
          refine ⟨rfl, ?_⟩
          have e1 := hr.st.hp d _ hd
          have e2 := hr.st.hp m _ hm
          simp only [renOb] at e1 e2
          exact names_empty_tri e1 (m := r m) (by simp [h0, ren]) (by simp [h2, ren]) (by simpa using e2)
        · cases hp
      · cases hp
    · cases hp
  · cases hp

def lenB (h : Tr) (v : Value) : Option Int := match v with
  | .pointer (some ⟨f, o, none⟩) => (match h.get f with
    | some (.cells _ c) => (match c[o]? with
      | some (.slice _ n _) => some n
      | _ => none)
    | _ => none)
  | _ => none

def usedP : List Value → Tr → Option Value := fun args h => match args with
  | [.pointer (some ⟨d, o, none⟩)] => (match h.get d with
    | some (.cells _ cs) => (match cs[o]?, cs[o + 2]? with
      | some (.map (some m)), some (.bool false) => (match h.get m with
        | some (.map [(.string _, v, b)] clk) => (match lenB h v with
          | some n => if b < clk ∧ 0 ≤ n ∧ n ≤ 1000000 then some (.int .i64 n) else none
          | none => none)
        | _ => none)
      | _, _ => none)
    | _ => none)
  | _ => none

theorem ent212 {G : Nat} : EntOk Tryz.prog G 212 (one usedP) := by
  refine ent_one fun args h v c r H₁ hp hw hr => ?_
  unfold usedP at hp
  split at hp
  · rename_i d o
    split at hp
    · rename_i ro cs hd
      split at hp
      · rename_i m h0 h2
        split at hp
        · rename_i s u b clk hm
          split at hp
          · rename_i n hn
            split at hp
            · rename_i hc
              cases hp
              refine ⟨rfl, ?_⟩
              have e1 := hr.st.hp d _ hd
              have e2 := hr.st.hp m _ hm
              simp only [renOb, List.map_cons, List.map_nil] at e1 e2
              have e3 : isLen H₁ (ren r u) ∧ lenA H₁ (ren r u) = n := by
                unfold lenB at hn
                split at hn
                · rename_i f fo
                  split at hn
                  · rename_i rof fc hf
                    split at hn
                    · rename_i a k sz hk
                      cases hn
                      have e4 := hr.st.hp f _ hf
                      simp only [renOb] at e4
                      have e5 : (fc.map (ren r))[fo]? = some (ren r (.slice a k sz)) := by simp [hk]
                      cases a with
                      | none => exact ⟨⟨_, _, _, _, _, _, _, rfl, e4, e5⟩, by simp [lenA, ren, renAd, e4, hk]⟩
                      | some a => exact ⟨⟨_, _, _, _, _, _, _, rfl, e4, e5⟩, by simp [lenA, ren, renAd, e4, hk]⟩
                    · cases hn
                  · cases hn
                · cases hn
              have := used_tri e1 (m := r m) (o := o) (by simp [h0, ren]) (by simp [h2, ren]) e2 (by simpa using hc.1) (by simp) (by simp [isSc, ren]) (by simp) (by simpa using e3.1)
              simp only [List.map_cons, List.map_nil, List.sum_cons, List.sum_nil, e3.2, Int.add_zero] at this
              rw [IntWalk.wrap64_in n (by omega)] at this
              exact this
            · cases hp
          · cases hp
        · cases hp
      · cases hp
    · cases hp
  · cases hp

end Go.Ab.Pr
