/- Regions in the order of the text. -/
import Derived.Test.YtdnfnjdkemohaaaGreatDoorAb18
namespace Go.Ab

/-- Operations one behind the other, and then K. -/
def RW (P : Program) (K : Tm → Hp → Prop) : List AOper → Tm → Hp → Prop
  | [], tm, H => K tm H
  | o :: l, tm, H => match guardA tm o.guard with
    | some false => RW P K l (tm.put o.dst undef) H
    | some true => ∃ eff, evalA H tm o.op = some eff ∧ effW P eff o.dst (RW P K l) tm H
    | none => False

/-- The operations of a region, turned. -/
def cOpers (P : Program) (n : Nat) (ops : Array Oper) : List Oper → Option (List AOper)
  | [] => some []
  | o :: l => match cOper P ops o, cOpers P n ops l with
    | some a, some m => if a.dst.all (fun d => decide (d < n)) = true then some (a :: m) else none
    | _, _ => none

/-- That an index and an abstract operation belong together. -/
def Ali (P : Program) (n : Nat) (ops : Array Oper) (i : Nat) (o : AOper) : Prop :=
  (∃ op, ops[i]? = some op ∧ cOper P ops op = some o) ∧ ∀ t, o.dst = some t → t < n

theorem cOpers_get {P : Program} {n : Nat} {ops : Array Oper} : ∀ {l : List Oper} {m : List AOper}, cOpers P n ops l = some m → m.length = l.length ∧
    ∀ (i : Nat) o, l[i]? = some o → ∃ a, m[i]? = some a ∧ cOper P ops o = some a ∧ ∀ t, a.dst = some t → t < n := by
  intro l
  induction l with
  | nil => intro m h; simp only [cOpers, Option.some.injEq] at h; subst h; simp
  | cons x l ih =>
    intro m h
    simp only [cOpers] at h
    split at h
    · rename_i a m' h1 h2
      split at h
      · rename_i hd
        cases h
        obtain ⟨g1, g2⟩ := ih h2
        refine ⟨by simp [g1], fun i o ho => ?_⟩
        cases i with
        | zero =>
          simp at ho
          subst ho
          refine ⟨a, rfl, h1, fun t ht => ?_⟩
          rw [ht] at hd
          simpa using hd
        | succ i => exact g2 i o (by simpa using ho)
      · cases h
    · cases h

section
variable {P : Program} {N : Nat} {w0 : World} {μ : Mu} {H T : Hp} {n : Nat} {tm : Tm} {a : Act} {w : World}

/-- The index list with its abstract operations. -/
inductive AliL (P : Program) (n : Nat) (ops : Array Oper) : List Nat → List AOper → Prop
  | nil : AliL P n ops [] []
  | cons {i : Nat} {o : AOper} {l : List Nat} {m : List AOper} (h : Ali P n ops i o) (t : AliL P n ops l m) : AliL P n ops (i :: l) (o :: m)

theorem rw_sound {ops : Array Oper} {Q : Exit → Act → World → Prop} {K : Tm → Hp → Prop} : ∀ {l : List Nat} {al : List AOper}, AliL P n ops l al →
    ∀ {μ : Mu} {H T : Hp} {tm : Tm} {a : Act} {w : World}, Cx P N w0 μ H T n tm a w → RW P K al tm H → (∀ a' w', SK P N w0 n K μ H T a' w' → Q .normal a' w') → wpOps P ops Q l a w := by
  intro l al hal
  induction hal with
  | nil =>
    intro μ H T tm a w c hk hq
    exact hq a w ⟨tm, H, T, μ, hk, Mu.le_refl μ, Fr.refl _ _, c⟩
  | @cons i0 o0 l0 m0 h t ih =>
    intro μ H T tm a w c hk hq
    obtain ⟨⟨op, hop, hco⟩, hd⟩ := h
    rw [wpOps_cons]
    refine oper_sound hop hco c hd ?_ (K := RW P K m0) fun a' w' hs => ?_
    · simp only [RW] at hk
      exact hk
    · obtain ⟨tm', H', T', μ', hk', hle, hfr, c'⟩ := hs
      exact ih c' hk' fun a2 w2 h2 => hq a2 w2 (by
        obtain ⟨tm2, H2, T2, μ2, k2, hle2, hfr2, c2⟩ := h2
        exact ⟨tm2, H2, T2, μ2, k2, Mu.le_trans hle hle2, hfr.trans hfr2, c2⟩)

theorem ali_range {ops : Array Oper} {al : List AOper} (h : cOpers P n ops ops.toList = some al) : AliL P n ops (List.range ops.size) al := by
  obtain ⟨hl, hg⟩ := cOpers_get h
  have key : ∀ (m : List AOper) (k : Nat), k + m.length = ops.size → (∀ i, m[i]? = al[k + i]?) → AliL P n ops (List.range' k m.length) m := by
    intro m
    induction m with
    | nil => intro k _ _; exact .nil
    | cons x m ih =>
      intro k hk hi
      simp only [List.length_cons] at hk
      rw [List.length_cons, List.range'_succ]
      have hlt : k < ops.toList.length := by rw [Array.length_toList]; omega
      obtain ⟨a, h1, h2, h3⟩ := hg k ops.toList[k] (by simp)
      have hx : x = a := by
        have := hi 0
        simp only [List.getElem?_cons_zero, Nat.add_zero, h1, Option.some.injEq] at this
        exact this
      subst hx
      refine .cons ⟨⟨ops.toList[k], ?_, h2⟩, h3⟩ (ih (k + 1) (by omega) fun i => ?_)
      · have hlt' : k < ops.size := by simpa using hlt
        simp [hlt']
      · have := hi (i + 1)
        simp only [List.getElem?_cons_succ] at this
        rw [this]; congr 1; omega
  have := key al 0 (by rw [hl, Array.length_toList]; omega) (fun i => by simp)
  rw [hl, Array.length_toList, ← List.range_eq_range'] at this
  exact this

end
end Go.Ab
