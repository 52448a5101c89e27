/- Functions: what is shown of the abstract body is a contract of the Go function. -/
import Derived.Test.YtdnfnjdkemohaaaGreatDoorAb23
namespace Go.Ab

inductive ARes where
  | tmp (t : Nat)
  | cell (t : Nat) (agg : Bool) (n : Nat)

structure AFunc where
  n : Nat
  body : ACode
  res : List ARes

def resA (H : Hp) (tm : Tm) : ARes → Option Value
  | .tmp t => tm.get t
  | .cell t agg n => match tm.get t with
    | some (.pointer (some ⟨id, o, none⟩)) => (match H id with
      | some (.cells _ c) => if agg then (if o + n ≤ c.length then some (.agg ((c.drop o).take n).toArray) else none) else c[o]?
      | _ => none)
    | _ => none

def resAs (H : Hp) (tm : Tm) : List ARes → Option (List Value)
  | [] => some []
  | r :: l => match resA H tm r, resAs H tm l with
    | some v, some vs => some (v :: vs)
    | _, _ => none

def resV (vs : List Value) : Value :=
  match vs with
  | [v] => v
  | vs => .tuple vs.toArray

def fnQ (res : List ARes) (Q : Value → Hp → Prop) : AExit → Tm → Hp → Prop
  | .normal, tm, H | .ret, tm, H => ∃ vs H', resAs H tm res = some vs ∧ Hp.sub H' H ∧ Q (resV vs) H'
  | _, _, _ => False

def initTm : Nat → List Value → Tm
  | _, [] => []
  | i, v :: l => (i, v) :: initTm (i + 1) l

def cRes (P : Program) : ResultVar → Option ARes
  | .tmp t => some (.tmp t)
  | .cell a t => match szOf P t, P.underlying t with
    | some n, some d => some (.cell a (isAggD (some d)) n)
    | _, _ => none

def cRess (P : Program) : List ResultVar → Option (List ARes)
  | [] => some []
  | r :: l => match cRes P r, cRess P l with
    | some a, some m => some (a :: m)
    | _, _ => none

def cFunc (P : Program) (ann : Nat → Ann) (fuel : Nat) (fn : Func) : Option AFunc :=
  match fn.body with
  | some c => match cCode P fn.ntmps ann fuel c, cRess P fn.results.toList with
    | some b, some r => some ⟨fn.ntmps, b, r⟩
    | _, _ => none
  | none => none

section
variable {P : Program} {N : Nat} {w0 : World} {μ : Mu} {H T : Hp} {n : Nat} {tm : Tm} {a : Act} {w : World}

theorem res_run (c : Cx P N w0 μ H T n tm a w) {r : ResultVar} {ar : ARes} {v : Value} (h1 : cRes P r = some ar) (h2 : resA H tm ar = some v) :
    ∃ v', (match r with
      | .tmp t => pure (a.tmps.getD t undef)
      | .cell x t => do loadVar t (← asAddr (a.tmps.getD x undef)) : Sem Value).run P w = .ok v' w ∧ VR μ v v' := by
  cases r with
  | tmp t =>
    simp only [cRes, Option.some.injEq] at h1
    subst h1
    simp only [resA] at h2
    obtain ⟨v', g1, g2⟩ := c.tr.2.2 t v h2
    exact ⟨v', by simp [Array.getD_eq_getD_getElem?, g1], g2⟩
  | cell x t =>
    simp only [cRes] at h1
    split at h1
    · rename_i m d hz hd
      cases h1
      -- as a load of that slot
      have hl : ∃ v', (execOp a.eval { (default : Oper) with op := .load t (.tmp x) }).run P w = .ok (.value v') w ∧ VR μ v v' := by
        simp only [resA] at h2
        split at h2
        · rename_i id off hx
          split at h2
          · rename_i ro cs hH
            refine val_load c (o := { (default : Oper) with op := .load t (.tmp x) }) (ax := .tmp x) rfl rfl hz hd hx hH ?_
            split at h2
            · rename_i hagg
              split at h2
              · rename_i hb; cases h2; rw [if_pos hagg]; exact ⟨hb, rfl⟩
              · cases h2
            · rename_i hagg; rw [if_neg hagg]; exact h2
          · cases h2
        · cases h2
      obtain ⟨v', hrun, hv⟩ := hl
      refine ⟨v', ?_, hv⟩
      simp only [resA] at h2
      split at h2
      · rename_i id off hx
        obtain ⟨v0, g1, g2⟩ := c.tr.2.2 x _ hx
        obtain ⟨loc, _, rfl⟩ := g2.ptr_inv
        simp only [execOp, Act.eval, Array.getD_eq_getD_getElem?, g1, Option.getD_some, Instr.loadAt, Instr.sureAddr, Sem.run_bind, Sem.run_pure, Result.andThen_ok] at hrun
        simp only [Array.getD_eq_getD_getElem?, g1, Option.getD_some, asAddr, Sem.run_bind, Sem.run_pure, Result.andThen_ok]
        generalize (loadVar t ⟨loc.b, loc.o + off, none⟩).run P w = r at hrun
        cases r with
        | ok x w2 => simp at hrun; obtain ⟨rfl, rfl⟩ := hrun; rfl
        | halt x w2 => simp at hrun
      · cases h2
    · cases h1

theorem ress_run (c : Cx P N w0 μ H T n tm a w) : ∀ {rs : List ResultVar} {ars : List ARes} {vs : List Value}, cRess P rs = some ars → resAs H tm ars = some vs →
    ∃ vs', (rs.mapM (fun r => match r with
      | .tmp t => pure (a.tmps.getD t undef)
      | .cell x t => do loadVar t (← asAddr (a.tmps.getD x undef))) : Sem (List Value)).run P w = .ok vs' w ∧ VRL μ vs vs' := by
  intro rs
  induction rs with
  | nil =>
    intro ars vs h1 h2
    simp only [cRess, Option.some.injEq] at h1
    subst h1
    simp only [resAs, Option.some.injEq] at h2
    subst h2
    exact ⟨[], by simp, .nil⟩
  | cons r rs ih =>
    intro ars vs h1 h2
    simp only [cRess] at h1
    split at h1
    · rename_i ar m h3 h4
      cases h1
      simp only [resAs] at h2
      split at h2
      · rename_i v vs' h5 h6
        cases h2
        obtain ⟨v', g1, g2⟩ := res_run c h3 h5
        obtain ⟨l', g3, g4⟩ := ih h4 h6
        refine ⟨v' :: l', ?_, VRL.cons g2 g4⟩
        rw [List.mapM_cons, Sem.run_bind, g1, Result.andThen_ok, Sem.run_bind, g3]
        rfl
      · cases h2
    · cases h1

theorem resV_vr {vs vs' : List Value} (h : VRL μ vs vs') : VR μ (resV vs) (resV vs') := by
  have tup : ∀ l l' : List Value, VRL μ l l' → VR μ (.tuple l.toArray) (.tuple l'.toArray) := fun l l' h =>
    .tuple _ _ (by simpa using h.1) fun i v v' a b => h.2 i v v' (by simpa using a) (by simpa using b)
  cases vs with
  | nil => rw [h.cases_nil]; exact tup [] [] .nil
  | cons v vs =>
    obtain ⟨v', l', rfl, hv, hl⟩ := h.cases_cons
    cases vs with
    | nil => rw [hl.cases_nil]; exact hv
    | cons x vs =>
      obtain ⟨x', m', rfl, hx, hm⟩ := hl.cases_cons
      exact tup _ _ h

theorem results_run (c : Cx P N w0 μ H T n tm a w) {fn : Func} {ars : List ARes} {vs : List Value} (h1 : cRess P fn.results.toList = some ars) (h2 : resAs H tm ars = some vs) :
    ∃ v', (results fn a.tmps).run P w = .ok v' w ∧ VR μ (resV vs) v' := by
  obtain ⟨vs', g1, g2⟩ := ress_run c h1 h2
  refine ⟨resV vs', ?_, resV_vr g2⟩
  unfold results
  rw [Sem.run_bind, Array.mapM_eq_mapM_toList, Sem.run_map]
  erw [g1]
  simp only [Result.andThen_ok, Sem.run_pure]
  congr 1
  unfold resV
  split
  · rename_i h
    have hl : vs'.length = 1 := by simpa using h
    match vs', hl with
    | [v], _ => rfl
  · rename_i h
    have hl : vs'.length ≠ 1 := by simpa using h
    match vs', hl with
    | [], _ => rfl
    | x :: y :: l, _ => rfl

theorem initTm_get : ∀ (l : List Value) (i t : Nat) (v : Value), (initTm i l).get t = some v → i ≤ t ∧ l[t - i]? = some v := by
  intro l
  induction l with
  | nil => intro i t v h; simp [initTm, Tm.get] at h
  | cons x l ih =>
    intro i t v h
    simp only [initTm, Tm.get] at h
    split at h
    · rename_i ht; subst ht; cases h; exact ⟨Nat.le_refl _, by simp⟩
    · rename_i ht
      obtain ⟨h1, h2⟩ := ih (i + 1) t v h
      refine ⟨by omega, ?_⟩
      rw [show t - i = (t - (i + 1)) + 1 from by omega]
      simpa using h2

theorem rw_ex {P : Program} {K : Tm → Hp → Prop} {X : Hp} : ∀ {l : List AOper} {tm : Tm} {H : Hp}, RW P K l tm H → ∃ tm' H', K tm' H' ∧ Avo H X H' := by
  intro l
  induction l with
  | nil => intro tm H h; exact ⟨_, _, h, Avo.refl _ _⟩
  | cons o l ih =>
    intro tm H h
    simp only [RW] at h
    split at h
    · exact ih h
    · obtain ⟨eff, he, h⟩ := h
      obtain ⟨_, _, h', a⟩ := effW_ex he h X
      obtain ⟨_, _, h2, b⟩ := ih h'
      exact ⟨_, _, h2, a.trans b⟩
    · exact h.elim

theorem rwd_ex {P : Program} {bef : Nat → Nat → Bool} {K : Tm → Hp → Prop} {X : Hp} : ∀ {l : List (Nat × AOper)} {pend : List (Nat × (Hp → Prop))} {tm : Tm} {H : Hp}, RWD P bef K l pend tm H → ∃ tm' H', K tm' H' ∧ Avo H X H' := by
  intro l
  induction l with
  | nil => intro pend tm H h; exact ⟨_, _, h, Avo.refl _ _⟩
  | cons o l ih =>
    intro pend tm H h
    obtain ⟨i, o⟩ := o
    simp only [RWD] at h
    split at h
    · exact ih h
    · obtain ⟨eff, he, h⟩ := h
      split at h
      · obtain ⟨_, _, ⟨_, h'⟩, a⟩ := effW_ex he h X
        obtain ⟨_, _, h2, b⟩ := ih h'
        exact ⟨_, _, h2, a.trans b⟩
      · split at h
        · obtain ⟨_, _, h', a⟩ := effW_ex he h X
          obtain ⟨_, _, h2, b⟩ := ih h'
          exact ⟨_, _, h2, a.trans b⟩
        · obtain ⟨_, _, h', a⟩ := effW_ex he h X
          obtain ⟨_, _, h2, b⟩ := ih h'
          exact ⟨_, _, h2, a.trans b⟩
    · exact h.elim

theorem Avo.weak {H X H' H2 : Hp} (h : Avo H X H') (hs : H2.sub H') : Avo H X H2 := fun i a b => sub_none hs (h i a b)
theorem Avo.start {H X H' H0 : Hp} (hs : H0.sub H) (h : Avo H0 X H') : Avo H X H' := fun i a b => h i a (sub_none hs b)

theorem aw_ex {P : Program} {X : Hp} : ∀ (c : ACode) {Q : AExit → Tm → Hp → Prop} {tm : Tm} {H : Hp}, AW P c Q tm H → ∃ e tm' H', Q e tm' H' ∧ Avo H X H' := by
  intro c
  induction c with
  | skip => intro Q tm H h; exact ⟨_, _, _, h, Avo.refl _ _⟩
  | label l => intro Q tm H h; exact ⟨_, _, _, h, Avo.refl _ _⟩
  | exit l => intro Q tm H h; exact ⟨_, _, _, h, Avo.refl _ _⟩
  | goto l => intro Q tm H h; exact ⟨_, _, _, h, Avo.refl _ _⟩
  | ret => intro Q tm H h; exact ⟨_, _, _, h, Avo.refl _ _⟩
  | region ops live => intro Q tm H h; obtain ⟨_, _, h', a⟩ := rw_ex (X := X) h; exact ⟨_, _, _, h', a⟩
  | regionD masks ops live => intro Q tm H h; obtain ⟨_, _, h', a⟩ := rwd_ex (X := X) h; exact ⟨_, _, _, h', a⟩
  | seq a b iha ihb =>
    intro Q tm H h
    obtain ⟨e, tm', H', h', av⟩ := iha h
    cases e with
    | normal => obtain ⟨e, tm2, H2, h2, av2⟩ := ihb h'; exact ⟨_, _, _, h2, av.trans av2⟩
    | exit i => exact ⟨_, _, _, h', av⟩
    | goto i => exact ⟨_, _, _, h', av⟩
    | ret => exact ⟨_, _, _, h', av⟩
  | cond c a b iha ihb =>
    intro Q tm H h
    simp only [AW] at h
    split at h
    · split at h
      · exact iha h
      · exact ihb h
    · exact h.elim
  | block i c ih =>
    intro Q tm H h
    obtain ⟨e, tm', H', h', av⟩ := ih h
    cases e with
    | normal => exact ⟨_, _, _, h', av⟩
    | exit j =>
      simp only [AExit.inBlock] at h'
      split at h' <;> exact ⟨_, _, _, h', av⟩
    | goto i => exact ⟨_, _, _, h', av⟩
    | ret => exact ⟨_, _, _, h', av⟩
  | loop c ih =>
    intro Q tm H h
    obtain ⟨I, ⟨k, tm0, H0, _, hs0, h0⟩, hr⟩ := h
    have key : ∀ k tm H, I k tm H → ∃ e tm' H', Q e tm' H' ∧ Avo H X H' := by
      intro k
      induction k using Nat.strongRecOn with
      | _ k ihk =>
        intro tm H hI
        obtain ⟨e, tm', H', h', av⟩ := ih (hr k tm H hI)
        cases e with
        | normal =>
          obtain ⟨k', hlt, tm2, H2, _, hs2, h2⟩ := h'
          obtain ⟨e3, tm3, H3, h3, av3⟩ := ihk k' hlt tm2 H2 h2
          exact ⟨e3, tm3, H3, h3, (av.weak hs2).trans av3⟩
        | exit j => exact ⟨_, _, _, h', av⟩
        | goto i => exact ⟨_, _, _, h', av⟩
        | ret => exact ⟨_, _, _, h', av⟩
    obtain ⟨e, tm', H', h', av⟩ := key k tm0 H0 h0
    exact ⟨e, tm', H', h', av.start hs0⟩
  | scope l c rest ihc ihr =>
    intro Q tm H h
    obtain ⟨J, h1, hr⟩ := h
    have key : ∀ k tm H, J k tm H → ∃ e tm' H', Q e tm' H' ∧ Avo H X H' := by
      intro k
      induction k using Nat.strongRecOn with
      | _ k ihk =>
        intro tm H hJ
        obtain ⟨e, tm', H', h', av⟩ := ihr (hr k tm H hJ)
        cases e with
        | normal => exact ⟨_, _, _, h', av⟩
        | exit j => exact ⟨_, _, _, h', av⟩
        | goto i =>
          obtain ⟨_, k', hlt, tm2, H2, _, hs2, h2⟩ := h'
          obtain ⟨e3, tm3, H3, h3, av3⟩ := ihk k' hlt tm2 H2 h2
          exact ⟨e3, tm3, H3, h3, (av.weak hs2).trans av3⟩
        | ret => exact ⟨_, _, _, h', av⟩
    obtain ⟨e, tm', H', h', av⟩ := ihc h1
    cases e with
    | normal => exact ⟨_, _, _, h', av⟩
    | exit j => exact ⟨_, _, _, h', av⟩
    | goto i =>
      obtain ⟨_, k', tm2, H2, _, hs2, h2⟩ := h'
      obtain ⟨e3, tm3, H3, h3, av3⟩ := key k' tm2 H2 h2
      exact ⟨e3, tm3, H3, h3, (av.weak hs2).trans av3⟩
    | ret => exact ⟨_, _, _, h', av⟩

/-- What is shown of the abstract body is a contract of the Go function. -/
theorem tri_of {f : Nat} {fn : Func} {af : AFunc} {ann : Nat → Ann} {fuel : Nat} {args : List Value} {H : Hp} {Q : Value → Hp → Prop} (hm : P.follows .mixedOrders = true) (hf : P.funcs[f]? = some fn)
    (hn : fn.name ≠ "runtime.NumGoroutine") (hc : cFunc P ann fuel fn = some af) (hl : args.length ≤ af.n) (haw : AW P af.body (fnQ af.res Q) (initTm 0 args) H) : Tri P f args H Q := by
  unfold cFunc at hc
  split at hc
  · rename_i c hb
    split at hc
    · rename_i b r hcode hres
      cases hc
      have hex : ∀ X : Hp, ∃ v H', Q v H' ∧ Avo H X H' := by
        intro X
        obtain ⟨e, tm', H', h', av⟩ := aw_ex (X := X) _ haw
        cases e with
        | normal => obtain ⟨vs, H2, _, h2, h3⟩ := h'; exact ⟨_, _, h3, av.weak h2⟩
        | ret => obtain ⟨vs, H2, _, h2, h3⟩ := h'; exact ⟨_, _, h3, av.weak h2⟩
        | exit i => exact h'.elim
        | goto i => exact h'.elim
      refine ⟨⟨fn, c, hf, hb, hn⟩, hex, fun N w0 μ T w args' hG hs hsim hv => ?_⟩
      have hlen : args'.size = args.length := by have := hv.1; simpa using this.symm
      have hsz : (args' ++ Array.replicate (fn.ntmps - args'.size) undef).size = fn.ntmps := by
        simp only at hl
        simp; omega
      have cx : Cx P N w0 μ H T fn.ntmps (initTm 0 args) { tmps := args' ++ Array.replicate (fn.ntmps - args'.size) undef, defers := [] } w := by
        refine ⟨hs, hsim, hG, hsz, rfl, fun t v ht => ?_⟩
        obtain ⟨_, h2⟩ := initTm_get args 0 t v ht
        simp only [Nat.sub_zero] at h2
        obtain ⟨v', g1, g2⟩ := hv.get h2
        refine ⟨v', ?_, g2⟩
        have hlt : t < args'.size := by have := (List.getElem?_eq_some_iff.1 g1).1; simpa using this
        rw [Array.getElem?_append_left hlt]
        simpa using g1
      refine calls_of_wp hf hb (wp_mono (aw_sound hm fuel c b hcode (fnQ r Q) cx haw) fun e a' w' he => ?_)
      have fin : ∀ K : Tm → Hp → Prop, (∀ tm H, K tm H → ∃ vs H', resAs H tm r = some vs ∧ Hp.sub H' H ∧ Q (resV vs) H') → SK P N w0 fn.ntmps K μ H T a' w' →
          a'.defers = [] ∧ ∃ v, (results fn a'.tmps).run P w' = .ok v w' ∧ (∃ v0 v' H' T' μ', Ending.returned v = .returned v' ∧ Q v0 H' ∧ μ.le μ' ∧ H'.sub T' ∧ Fr H T H' T' ∧ Sim N w0 μ' T' w' ∧ VR μ' v0 v') := by
        rintro K hK ⟨tm', H', T', μ', hk, hle, hfr, c'⟩
        obtain ⟨vs, H2, h1, h2, h3⟩ := hK tm' H' hk
        obtain ⟨v', g1, g2⟩ := results_run c' hres h1
        refine ⟨c'.tr.2.1, v', g1, resV vs, v', H2, T', μ', rfl, h3, hle, fun i o e => c'.hs i o (h2 i o e), fun i ob x y => ?_, c'.sim, g2⟩
        obtain ⟨e1, e2⟩ := hfr i ob x y
        exact ⟨e1, sub_none (T := H') h2 e2⟩
      cases e with
      | normal => exact fin _ (fun tm H h => h) he
      | ret => exact fin _ (fun tm H h => h) he
      | exit i => obtain ⟨_, _, _, _, hk, _⟩ := he; exact hk.elim
      | goto l => obtain ⟨_, _, _, _, hk, _⟩ := he; exact hk.elim
      | panic p => exact he.elim
      | outgrown => exact he.elim
    · cases hc
  · cases hc

end
end Go.Ab
