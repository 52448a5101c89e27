/- Abstract code, and what it has to show. -/
import Derived.Test.YtdnfnjdkemohaaaGreatDoorAb21
import Derived.ScopeJumps
namespace Go.Ab

inductive ACode where
  | skip
  | region (ops : List AOper) (live : List Nat)
  | regionD (masks : List Nat) (ops : List (Nat × AOper)) (live : List Nat)
  | seq (a b : ACode)
  | cond (c : AOpr) (a b : ACode)
  | block (id : Nat) (c : ACode)
  | loop (c : ACode)
  | exit (id : Nat)
  | scope (l : Nat) (c rest : ACode)
  | label (l : Nat)
  | goto (l : Nat)
  | ret

inductive AExit where
  | normal
  | exit (id : Nat)
  | goto (l : Nat)
  | ret

def Tm.sub (tm tm' : Tm) : Prop := ∀ t v, tm.get t = some v → tm'.get t = some v

/-- I holds of a part of what is known. -/
def Weak (I : Tm → Hp → Prop) (tm : Tm) (H : Hp) : Prop := ∃ tm' H', tm'.sub tm ∧ Hp.sub H' H ∧ I tm' H'

def AExit.then (K : Tm → Hp → Prop) (Q : AExit → Tm → Hp → Prop) : AExit → Tm → Hp → Prop
  | .normal, tm, H => K tm H
  | e, tm, H => Q e tm H

def AExit.inBlock (id : Nat) (Q : AExit → Tm → Hp → Prop) : AExit → Tm → Hp → Prop
  | .exit i, tm, H => if i = id then Q .normal tm H else Q (.exit i) tm H
  | e, tm, H => Q e tm H

def AExit.jump (l : Nat) (J : Tm → Hp → Prop) (Q : AExit → Tm → Hp → Prop) : AExit → Tm → Hp → Prop
  | .goto l', tm, H => l' = l ∧ J tm H
  | e, tm, H => Q e tm H

/-- What the code has to show, that Q holds where it ends. -/
def AW (P : Program) : ACode → (AExit → Tm → Hp → Prop) → Tm → Hp → Prop
  | .skip, Q => Q .normal
  | .label _, Q => Q .normal
  | .exit id, Q => Q (.exit id)
  | .goto l, Q => Q (.goto l)
  | .ret, Q => Q .ret
  | .region ops live, Q => RW P (fun tm H => Q .normal (tm.keep live) H) ops
  | .regionD masks ops live, Q => RWD P (befM masks) (fun tm H => Q .normal (tm.keep live) H) ops []
  | .seq a b, Q => AW P a (AExit.then (AW P b Q) Q)
  | .cond c a b, Q => fun tm H => match aev H tm c with
    | some (.bool t) => if t = true then AW P a Q tm H else AW P b Q tm H
    | _ => False
  | .block id c, Q => AW P c (AExit.inBlock id Q)
  | .loop c, Q => fun tm H => ∃ I : Nat → Tm → Hp → Prop, (∃ k, Weak (I k) tm H) ∧ ∀ k tm H, I k tm H → AW P c (AExit.then (fun tm' H' => ∃ k', k' < k ∧ Weak (I k') tm' H') Q) tm H
  | .scope l c rest, Q => fun tm H => ∃ J : Nat → Tm → Hp → Prop, AW P c (AExit.jump l (fun tm' H' => ∃ k, Weak (J k) tm' H') Q) tm H ∧
      ∀ k tm H, J k tm H → AW P rest (AExit.jump l (fun tm' H' => ∃ k', k' < k ∧ Weak (J k') tm' H') Q) tm H

def firstLabel : Code → Option Nat
  | .seq a b => match firstLabel a with
    | some l => some l
    | none => firstLabel b
  | .label l => some l
  | _ => none

/-- How a region is annotated: the slots that are known behind it; the order, and the masks, if it draws. -/
structure Ann where
  live : List Nat
  order : List Nat
  masks : List Nat

def cCode (P : Program) (n : Nat) (ann : Nat → Ann) : Nat → Code → Option ACode
  | 0, _ => none
  | k + 1, c => match c with
    | .skip => some .skip
    | .label l => some (.label l)
    | .exit i => some (.exit i)
    | .goto l => some (.goto l)
    | .ret => some .ret
    | .region i ops false => match cOpers P n ops ops.toList with
      | some al => some (.region al (ann i).live)
      | none => none
    | .region i ops true => match cRegD P n ops (ann i).order (ann i).masks with
      | some l => some (.regionD (ann i).masks l (ann i).live)
      | none => none
    | .seq a b => match cCode P n ann k a, cCode P n ann k b with
      | some a, some b => some (.seq a b)
      | _, _ => none
    | .cond c a b => match cOpr P c, cCode P n ann k a, cCode P n ann k b with
      | some c, some a, some b => some (.cond c a b)
      | _, _, _ => none
    | .block i c => match cCode P n ann k c with
      | some c => some (.block i c)
      | none => none
    | .loop c => match cCode P n ann k c with
      | some c => some (.loop c)
      | none => none
    | .scope c => match firstLabel c with
      | some l => match findLabel c l with
        | some r => match cCode P n ann k c, cCode P n ann k r with
          | some c, some r => some (.scope l c r)
          | _, _ => none
        | none => none
      | none => none
    | _ => none

section
variable {P : Program} {N : Nat} {w0 : World} {μ : Mu} {H T : Hp} {n : Nat} {tm : Tm} {a : Act} {w : World}

/-- What is shown, said of the World. -/
def RQ (P : Program) (N : Nat) (w0 : World) (n : Nat) (Q : AExit → Tm → Hp → Prop) (μ : Mu) (H T : Hp) : Exit → Act → World → Prop
  | .normal, a, w => SK P N w0 n (Q .normal) μ H T a w
  | .exit i, a, w => SK P N w0 n (Q (.exit i)) μ H T a w
  | .goto l, a, w => SK P N w0 n (Q (.goto l)) μ H T a w
  | .ret, a, w => SK P N w0 n (Q .ret) μ H T a w
  | .panic _, _, _ => False
  | .outgrown, _, _ => False

theorem SK.back {K : Tm → Hp → Prop} {μ μ' : Mu} {H T H' T' : Hp} (hm : μ.le μ') (hf : Fr H T H' T') (h : SK P N w0 n K μ' H' T' a w) : SK P N w0 n K μ H T a w := by
  obtain ⟨tm, H2, T2, μ2, k, hm2, hf2, c⟩ := h
  exact ⟨tm, H2, T2, μ2, k, Mu.le_trans hm hm2, hf.trans hf2, c⟩

theorem RQ.back {Q : AExit → Tm → Hp → Prop} {μ μ' : Mu} {H T H' T' : Hp} (hm : μ.le μ') (hf : Fr H T H' T') {e : Exit} {a : Act} {w : World} (h : RQ P N w0 n Q μ' H' T' e a w) :
    RQ P N w0 n Q μ H T e a w := by
  cases e <;> first | exact h | exact SK.back hm hf h

theorem keep_sub : ∀ (live : List Nat) (tm : Tm) (t : Nat) (v : Value), (tm.keep live).get t = some v → tm.get t = some v := by
  intro live
  induction live with
  | nil => intro tm t v h; simp [Tm.keep, Tm.get] at h
  | cons u live ih =>
    intro tm t v h
    simp only [Tm.keep] at h
    split at h
    · rename_i x hx
      simp only [Tm.get] at h
      split at h
      · rename_i htu; subst htu; cases h; exact hx
      · exact ih tm t v h
    · exact ih tm t v h

theorem keep_ext : ∀ (live : List Nat) (tm tm' : Tm), (∀ t, tm.get t = tm'.get t) → tm.keep live = tm'.keep live := by
  intro live
  induction live with
  | nil => intro tm tm' _; rfl
  | cons u live ih => intro tm tm' h; simp only [Tm.keep, h u, ih tm tm' h]

theorem Cx.weak (c : Cx P N w0 μ H T n tm a w) {tm' : Tm} {H' : Hp} (ht : tm'.sub tm) (hh : H'.sub H) : Cx P N w0 μ H' T n tm' a w :=
  ⟨fun i o e => c.hs i o (hh i o e), c.sim, c.hG, c.tr.1, c.tr.2.1, fun t v e => c.tr.2.2 t v (ht t v e)⟩

end
end Go.Ab
