/- Each light operation of the abstract program is what the model's operation does: same value, the World unchanged. -/
import Derived.Test.YtdnfnjdkemohaaaGreatDoorAb2
import Derived.Laws.Sem
import Derived.Laws.World
import Derived.Laws.Cells
namespace Go.Ab
open Go.RowKit (Below)

section
variable {P : Program} {w : World}

theorem rUnder {t : TypeId} {d : TypeDesc} (h : P.underlying t = some d) : (underlying t).run P w = .ok d w := by simp [underlying, h]
theorem rInfo {t : TypeId} {i : TypeInfo} (h : P.info? t = some i) : (typeInfo t).run P w = .ok i w := by simp [typeInfo, h]
theorem rSize {t : TypeId} {n : Nat} (h : szOf P t = some n) : (sizeOf t).run P w = .ok n w := by
  simp only [szOf] at h
  cases hi : P.info? t with
  | none => simp [hi] at h
  | some i => simp [hi] at h; simp [sizeOf, rInfo hi, h]
theorem rAgg {t : TypeId} {d : TypeDesc} (h : P.underlying t = some d) : (isAgg t).run P w = .ok (isAggD (some d)) w := by
  simp only [isAgg, Sem.run_bind, rUnder h, Result.andThen_ok]
  cases d <;> rfl

theorem flat_vr {μ : Mu} {v : Value} (h : flat v = true) : VR μ v v := by
  match v, h with
  | .bool b, _ => exact .bool b
  | .int k n, _ => exact .int k n
  | .float k n, _ => exact .float k n
  | .string s, _ => exact .string s
  | .pointer none, _ => exact .nilp
  | .slice none 0 0, _ => exact .nils
  | .map none, _ => exact .nilm
  | .nilFunc, _ => exact .nilFunc
  | .nilIface, _ => exact .nilIface
  | .func fn f c, h =>
    simp [flat] at h
    obtain ⟨rfl, rfl⟩ := h
    exact .func fn #[] #[] #[] #[] rfl (by simp) rfl (by simp)

theorem flats_vrl {μ : Mu} {l : List Value} (h : l.all flat = true) : VRL μ l l := by
  refine ⟨rfl, fun i v v' a b => ?_⟩
  rw [a] at b; cases b
  exact flat_vr (List.all_eq_true.1 h v (List.mem_of_getElem? a))

theorem okConst_vr {μ : Mu} {v : Value} (h : okConst v = true) : VR μ v v := by
  cases v with
  | agg cs => simp only [okConst] at h; exact VR.agg_list.2 (flats_vrl h)
  | tuple cs =>
    simp only [okConst] at h
    have := flats_vrl (μ := μ) h
    exact .tuple cs cs rfl fun i v v' a b => this.2 i v v' (by simpa using a) (by simpa using b)
  | iface t v => simp only [okConst] at h; exact .iface t v v (flat_vr h)
  | _ => exact flat_vr h

theorem cellsL_vrl {μ : Mu} {v v' : Value} (h : VR μ v v') : VRL μ (cellsL v) (cellsL v') := by
  cases h with
  | agg c c' hc hcv => exact ⟨by simpa [cellsL] using hc, fun i v v' a b => hcv i v v' (by simpa [cellsL] using a) (by simpa [cellsL] using b)⟩
  | bool b => exact VRL.cons (.bool b) .nil
  | int k n => exact VRL.cons (.int k n) .nil
  | float k n => exact VRL.cons (.float k n) .nil
  | string s => exact VRL.cons (.string s) .nil
  | nilp => exact VRL.cons .nilp .nil
  | ptr id off loc h => exact VRL.cons (.ptr id off loc h) .nil
  | nils => exact VRL.cons .nils .nil
  | slice id off len cap e loc h hc hr => exact VRL.cons (.slice id off len cap e loc h hc hr) .nil
  | slice0 a e a' => exact VRL.cons (.slice0 a e a') .nil
  | nilm => exact VRL.cons .nilm .nil
  | map id loc h => exact VRL.cons (.map id loc h) .nil
  | nilFunc => exact VRL.cons .nilFunc .nil
  | func fn f f' c c' a b d e => exact VRL.cons (.func fn f f' c c' a b d e) .nil
  | nilIface => exact VRL.cons .nilIface .nil
  | iface t v v' h => exact VRL.cons (.iface t v v' h) .nil
  | tuple c c' a b => exact VRL.cons (.tuple c c' a b) .nil

theorem cellsL_eq (v : Value) : v.cells.toList = cellsL v := by cases v <;> rfl
theorem cellsL_size (v : Value) : v.cells.size = (cellsL v).length := by rw [← cellsL_eq]; simp

theorem zeroL_spec {t : TypeId} {z : List Value} (h : zeroL P t = some z) :
    ∃ i v, P.info? t = some i ∧ i.zero = some v ∧ cellsL v = z ∧ z.all flat = true ∧ z.length = i.size := by
  unfold zeroL at h
  cases hi : P.info? t with
  | none => simp [hi] at h
  | some i =>
    simp only [hi] at h
    cases hz : i.zero with
    | none => simp [hz] at h
    | some v =>
      simp only [hz] at h
      split at h
      · rename_i hc
        simp at hc h
        exact ⟨i, v, rfl, hz, h, by rw [← h]; simpa using hc.1, by rw [← h]; exact hc.2⟩
      · cases h

theorem flat_scalar {v : Value} (h : flat v = true) : scalar v = true := by
  cases v <;> first | rfl | (simp [flat] at h)

theorem flats_scalar {z : List Value} (h : z.all flat = true) : ∀ v ∈ z, scalar v = true := fun v hv => flat_scalar (List.all_eq_true.1 h v hv)

theorem rZero {t : TypeId} {i : TypeInfo} {v : Value} (hi : P.info? t = some i) (hz : i.zero = some v) : (zeroValue t).run P w = .ok v w := by
  simp [zeroValue, rInfo hi, hz]
end

/-- The slots of a frame, as far as they are known. -/
def TR (μ : Mu) (n : Nat) (tm : Tm) (a : Act) : Prop :=
  a.tmps.size = n ∧ a.defers = [] ∧ ∀ t v, tm.get t = some v → ∃ v', a.tmps[t]? = some v' ∧ VR μ v v'

theorem TR.mono {μ μ' : Mu} {n : Nat} {tm : Tm} {a : Act} (hm : μ.le μ') (h : TR μ n tm a) : TR μ' n tm a :=
  ⟨h.1, h.2.1, fun t v e => let ⟨v', a, b⟩ := h.2.2 t v e; ⟨v', a, b.mono hm⟩⟩

theorem TR.put {μ : Mu} {n : Nat} {tm : Tm} {a : Act} {d : Option Nat} {v v' : Value} (h : TR μ n tm a) (hd : ∀ t, d = some t → t < n) (hv : VR μ v v') :
    TR μ n (tm.put d v) (a.put d v') := by
  cases d with
  | none => exact h
  | some t =>
    refine ⟨by simp [Act.put, h.1], h.2.1, fun u x hx => ?_⟩
    simp only [Tm.put, Tm.get] at hx
    split at hx
    · rename_i hu
      subst hu
      cases hx
      exact ⟨v', by simp [Act.put, h.1, hd u rfl], hv⟩
    · rename_i hu
      obtain ⟨x', h1, h2⟩ := h.2.2 u x hx
      exact ⟨x', by simp only [Act.put]; rw [Array.getElem?_setIfInBounds_ne (Ne.symm hu)]; exact h1, h2⟩

/-- What stands around an operation: the abstract heap H is part of T, which lies in the World. -/
structure Cx (P : Program) (N : Nat) (w0 : World) (μ : Mu) (H T : Hp) (n : Nat) (tm : Tm) (a : Act) (w : World) : Prop where
  hs : H.sub T
  sim : Sim N w0 μ T w
  hG : P.globals.size ≤ N
  tr : TR μ n tm a

section
variable {P : Program} {N : Nat} {w0 : World} {μ : Mu} {H T : Hp} {n : Nat} {tm : Tm} {a : Act} {w : World}

theorem Cx.aev (c : Cx P N w0 μ H T n tm a w) {o : Operand} {x : AOpr} {v : Value} (hc : cOpr P o = some x) (he : aev H tm x = some v) : VR μ v (a.eval o) := by
  cases o with
  | tmp t =>
    simp only [cOpr, Option.some.injEq] at hc
    subst hc
    obtain ⟨v', h1, h2⟩ := c.tr.2.2 t v he
    simp only [Act.eval, Array.getD_eq_getD_getElem?, h1, Option.getD_some]
    exact h2
  | const k =>
    simp only [cOpr] at hc
    split at hc
    · rename_i hk
      cases hc
      simp only [Ab.aev, Option.some.injEq] at he
      subst he
      exact okConst_vr hk
    · cases hc
  | global g =>
    simp only [cOpr] at hc
    split at hc
    · rename_i hg
      cases hc
      simp only [Ab.aev] at he
      split at he
      · rename_i ro cs hh
        cases he
        obtain ⟨loc, h1, h2⟩ := c.sim.obj g _ (c.hs _ _ hh)
        obtain ⟨e1, e2⟩ := c.sim.low g loc (by have := c.hG; omega) h1
        have := VR.ptr g 0 loc h1
        rw [e1, e2] at this
        exact this
      · cases he
    · cases hc
  | func f =>
    simp only [cOpr, Option.some.injEq] at hc
    subst hc
    simp only [Ab.aev, Option.some.injEq] at he
    subst he
    exact .func _ #[] #[] #[] #[] rfl (by simp) rfl (by simp)

theorem Cx.aevs (c : Cx P N w0 μ H T n tm a w) : ∀ {os : List Operand} {xs : List AOpr} {vs : List Value}, cOprs P os = some xs → Ab.aevs H tm xs = some vs →
    VRL μ vs (os.map a.eval) := by
  intro os
  induction os with
  | nil => intro xs vs hc he; simp only [cOprs, Option.some.injEq] at hc; subst hc; simp only [Ab.aevs, Option.some.injEq] at he; subst he; exact .nil
  | cons o os ih =>
    intro xs vs hc he
    simp only [cOprs] at hc
    split at hc
    · rename_i y m h1 h2
      cases hc
      simp only [Ab.aevs] at he
      split at he
      · rename_i v vs' h3 h4
        cases he
        exact VRL.cons (c.aev h1 h3) (ih h2 h4)
      · cases he
    · cases hc

theorem Cx.aparts (c : Cx P N w0 μ H T n tm a w) {place : Nat → Option (Nat × Nat)} : ∀ {os : List (Nat × Operand)} {xs : List (Nat × Nat × AOpr)} {vs : List (Nat × Nat × Value)},
    cParts P place os = some xs → Ab.aparts H tm xs = some vs →
    vs.length = os.length ∧ ∀ (i : Nat) o m v ix x, vs[i]? = some (o, m, v) → os[i]? = some (ix, x) → place ix = some (o, m) ∧ VR μ v (a.eval x) := by
  intro os
  induction os with
  | nil => intro xs vs hc he; simp only [cParts, Option.some.injEq] at hc; subst hc; simp only [Ab.aparts, Option.some.injEq] at he; subst he; simp
  | cons o os ih =>
    intro xs vs hc he
    obtain ⟨ix, x⟩ := o
    simp only [cParts] at hc
    split at hc
    · rename_i o' m' y l h1 h2 h3
      cases hc
      simp only [Ab.aparts] at he
      split at he
      · rename_i v vs' h4 h5
        cases he
        obtain ⟨hl, hi⟩ := ih h3 h5
        refine ⟨by simp [hl], fun i o m v ix x hv ho => ?_⟩
        cases i with
        | zero =>
          simp at hv ho
          obtain ⟨rfl, rfl, rfl⟩ := hv
          obtain ⟨rfl, rfl⟩ := ho
          exact ⟨h1, c.aev h2 h4⟩
        | succ i => exact hi i o m v ix x (by simpa using hv) (by simpa using ho)
      · cases he
    · cases hc

theorem Cx.get (c : Cx P N w0 μ H T n tm a w) {i : Nat} {ob : Ob} (h : H i = some ob) : ∃ loc, μ i = some loc ∧ ObR μ w loc ob := c.sim.obj i ob (c.hs _ _ h)

/-- A cell of an object, in the World. -/
theorem Cx.cell (c : Cx P N w0 μ H T n tm a w) {i : Nat} {ro : Bool} {cs : List Value} (h : H i = some (.cells ro cs)) :
    ∃ loc, μ i = some loc ∧ cs.length ≤ loc.room ∧ ∀ (j : Nat) v, cs[j]? = some v → scalar v = true ∧ ∃ v', w.cell? ⟨loc.b, loc.o + j, none⟩ = some v' ∧ VR μ v v' := by
  obtain ⟨loc, h1, arr, el, fz, h2, h3, h4, h5, h6⟩ := c.get h
  refine ⟨loc, h1, h3, fun j v hv => ?_⟩
  obtain ⟨hs, v', h7, h8⟩ := h5 j v hv
  exact ⟨hs, v', by simp [World.cell?, h2, h7], h8⟩

end
end Go.Ab
