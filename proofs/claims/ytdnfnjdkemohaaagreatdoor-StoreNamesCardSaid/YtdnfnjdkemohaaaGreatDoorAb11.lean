/- The operations that write: what becomes of the abstract heap when an object's cells are written. -/
import Derived.Test.YtdnfnjdkemohaaaGreatDoorAb10
namespace Go.Ab
open Go.RowKit (Below)

def setBlk (w : World) (b : Nat) (o : Obj) : World := { w with heap := w.heap.setIfInBounds b o }

section
variable {P : Program} {N : Nat} {w0 : World} {μ : Mu} {H T : Hp} {n : Nat} {tm : Tm} {a : Act} {w : World} {o : Oper}

theorem setBlk_same {b : Nat} {o : Obj} (h : b < w.heap.size) : (setBlk w b o).heap[b]? = some o := by
  simp [setBlk, h]
theorem setBlk_other {b k : Nat} {o : Obj} (h : k ≠ b) : (setBlk w b o).heap[k]? = w.heap[k]? := by
  simp only [setBlk]
  rw [Array.getElem?_setIfInBounds_ne (Ne.symm h)]
theorem setBlk_size {b : Nat} {o : Obj} : (setBlk w b o).heap.size = w.heap.size := by simp [setBlk]
theorem setBlk_setBlk {b : Nat} {o o' : Obj} : setBlk (setBlk w b o) b o' = setBlk w b o' := by
  simp [setBlk]
theorem setBlk_self {b : Nat} {o : Obj} (h : w.heap[b]? = some o) : setBlk w b o = w := by
  have hb : b < w.heap.size := (Array.getElem?_eq_some_iff.1 h).1
  have he : w.heap.setIfInBounds b o = w.heap := by
    apply Array.ext_getElem?
    intro i
    by_cases hi : i = b
    · subst hi; rw [h]; simp [hb]
    · rw [Array.getElem?_setIfInBounds_ne (Ne.symm hi)]
  simp only [setBlk, he]

theorem below_setBlk {b : Nat} {o : Obj} (h : Below N w0 w) (hb : N ≤ b) : Below N w0 (setBlk w b o) :=
  ⟨h.os, h.tape, h.output, by rw [setBlk_size]; exact h.size, fun k hk => by rw [setBlk_other (by omega)]; exact h.block k hk⟩

/-- Writing into a mutable object of one row. -/
theorem Sim.updG (h : Sim N w0 μ T w) {id : Nat} {loc : Loc} {o0 ob' : Ob} {arr arr' : Array Value} {el : TypeId} {fz : Nat × Nat} (hT : T id = some o0) (hr0 : o0.ro = false) (hr1 : ob'.ro = false) (hμ : μ id = some loc)
    (hb : w.heap[loc.b]? = some (.cells arr el fz)) (hsz : arr'.size = arr.size) (hout : ∀ j, j < loc.o ∨ loc.o + loc.room ≤ j → arr'[j]? = arr[j]?)
    (hob' : ∀ w' : World, w'.heap[loc.b]? = some (.cells arr' el fz) → ObR μ w' loc ob') :
    Sim N w0 μ (T.put id ob') (setBlk w loc.b (.cells arr' el fz)) := by
  have hbl : loc.b < w.heap.size := (Array.getElem?_eq_some_iff.1 hb).1
  have hNb : N ≤ loc.b := h.own id _ loc hT hμ hr0
  refine ⟨below_setBlk h.below hNb, by rw [setBlk_size]; exact h.n_le, h.dom, fun i ob hi => ?_, fun i j oi oj li lj hn hi hj hli hlj hro => ?_, fun i oi li hi hli hro => ?_, h.low⟩
  · by_cases hii : i = id
    · subst hii
      rw [Hp.put_same] at hi
      cases hi
      exact ⟨loc, hμ, hob' _ (setBlk_same hbl)⟩
    · rw [Hp.put_ne _ _ hii] at hi
      obtain ⟨li, hli, hob⟩ := h.obj i ob hi
      refine ⟨li, hli, ?_⟩
      by_cases hblk : li.b = loc.b
      · have hap := h.sep id i _ ob loc li (Ne.symm hii) hT hi hμ hli hr0
        cases ob with
        | cells ro ci =>
          obtain ⟨arri, eli, fzi, hbi, g3, g4, g5, g6⟩ := hob
          rw [hblk, hb] at hbi
          cases hbi
          refine ⟨arr', el, fz, by rw [hblk]; exact setBlk_same hbl, g3, by rw [hsz]; exact g4, fun k v hv => ?_, g6⟩
          obtain ⟨hs, v', h1, h2⟩ := g5 k v hv
          have hk : k < ci.length := (List.getElem?_eq_some_iff.1 hv).1
          refine ⟨hs, v', ?_, h2⟩
          rw [hout _ ?_]
          · exact h1
          · rcases hap with h | h | h
            · exact absurd hblk.symm h
            · right; omega
            · left; omega
        | map es cl =>
          obtain ⟨_, _, l, hbi, _⟩ := hob
          rw [hblk, hb] at hbi
          cases hbi
        | bld B p s =>
          obtain ⟨g1, g2, g3, g4, p', s', fzi, hbi, g5, g6, g7⟩ := hob
          rw [hblk, hb] at hbi
          cases hbi
          have h0 : arr' = #[p', s'] := by
            refine Array.ext_getElem? fun k => ?_
            by_cases hk : k < 2
            · refine hout k ?_
              rcases hap with h | h | h
              · exact absurd hblk.symm h
              · omega
              · omega
            · rw [Array.getElem?_eq_none (by rw [hsz]; simp; omega), Array.getElem?_eq_none (by simp; omega)]
          refine ⟨g1, g2, g3, g4, p', s', fz, ?_, g5, g6, g7⟩
          rw [hblk, ← h0]
          exact setBlk_same hbl
      · exact hob.of_block (setBlk_other hblk)
  · have hi' : ∃ oi', T i = some oi' ∧ oi'.ro = oi.ro := by
      by_cases hii : i = id
      · subst hii; rw [Hp.put_same] at hi; cases hi; exact ⟨_, hT, by rw [hr0, hr1]⟩
      · rw [Hp.put_ne _ _ hii] at hi; exact ⟨_, hi, rfl⟩
    have hj' : ∃ oj', T j = some oj' := by
      by_cases hjj : j = id
      · subst hjj; exact ⟨_, hT⟩
      · rw [Hp.put_ne _ _ hjj] at hj; exact ⟨_, hj⟩
    obtain ⟨oi', g1, g2⟩ := hi'
    obtain ⟨oj', g3⟩ := hj'
    exact h.sep i j oi' oj' li lj hn g1 g3 hli hlj (by rw [g2]; exact hro)
  · by_cases hii : i = id
    · subst hii; exact h.own i _ li hT hli hr0
    · rw [Hp.put_ne _ _ hii] at hi; exact h.own i oi li hi hli hro

/-- Writing into a mutable object of cells. -/
theorem Sim.upd (h : Sim N w0 μ T w) {id : Nat} {loc : Loc} {c c' : List Value} {arr arr' : Array Value} {el : TypeId} {fz : Nat × Nat} (hT : T id = some (.cells false c)) (hμ : μ id = some loc)
    (hb : w.heap[loc.b]? = some (.cells arr el fz)) (hsz : arr'.size = arr.size) (hout : ∀ j, j < loc.o ∨ loc.o + loc.room ≤ j → arr'[j]? = arr[j]?) (hlen : c'.length ≤ loc.room)
    (hin : ∀ (i : Nat) v, c'[i]? = some v → scalar v = true ∧ ∃ v', arr'[loc.o + i]? = some v' ∧ VR μ v v') :
    Sim N w0 μ (T.put id (.cells false c')) (setBlk w loc.b (.cells arr' el fz)) := by
  obtain ⟨loc0, hl0, arr0, el0, fz0, hb0, h30, h40, h50, h60⟩ := h.obj id _ hT
  rw [hμ] at hl0; cases hl0
  rw [hb] at hb0; cases hb0
  exact h.updG hT rfl rfl hμ hb hsz hout fun w' hw' => ⟨arr', el, fz, hw', hlen, by rw [hsz]; exact h40, hin, h60⟩

/-- Writing a map. -/
theorem Sim.updMap (h : Sim N w0 μ T w) {id : Nat} {loc : Loc} {es es' : List (Value × Value × Nat)} {cl cl' : Nat} {l l' : List MapEntry} (hT : T id = some (.map es cl)) (hμ : μ id = some loc)
    (hb : w.heap[loc.b]? = some (.map l.toArray cl)) (h1 : VRL μ (es'.map (·.1)) (l'.map (·.key))) (h2 : VRL μ (es'.map (·.2.1)) (l'.map (·.val))) (h3 : es'.map (·.2.2) = l'.map (·.born)) :
    Sim N w0 μ (T.put id (.map es' cl')) (setBlk w loc.b (.map l'.toArray cl')) := by
  have hbl : loc.b < w.heap.size := (Array.getElem?_eq_some_iff.1 hb).1
  have hNb : N ≤ loc.b := h.own id _ loc hT hμ rfl
  obtain ⟨loc0, hl0, ho0, hr0, l0, hb0, _⟩ := h.obj id _ hT
  rw [hμ] at hl0; cases hl0
  refine ⟨below_setBlk h.below hNb, by rw [setBlk_size]; exact h.n_le, h.dom, fun i ob hi => ?_, fun i j oi oj li lj hn hi hj hli hlj hro => ?_, fun i oi li hi hli hro => ?_, h.low⟩
  · by_cases hii : i = id
    · subst hii
      rw [Hp.put_same] at hi
      cases hi
      exact ⟨loc, hμ, ho0, hr0, l', setBlk_same hbl, h1, h2, h3⟩
    · rw [Hp.put_ne _ _ hii] at hi
      obtain ⟨li, hli, hob⟩ := h.obj i ob hi
      refine ⟨li, hli, ?_⟩
      by_cases hblk : li.b = loc.b
      · have hap := h.sep id i _ ob loc li (Ne.symm hii) hT hi hμ hli rfl
        cases ob with
        | cells ro ci =>
          obtain ⟨arri, eli, fzi, hbi, _⟩ := hob
          rw [hblk, hb] at hbi
          cases hbi
        | map es2 cl2 =>
          obtain ⟨e1, e2, _⟩ := hob
          exfalso
          rcases hap with h | h | h
          · exact h hblk.symm
          · omega
          · omega
        | bld B p s =>
          obtain ⟨_, _, _, _, p', s', fzi, hbi, _⟩ := hob
          rw [hblk, hb] at hbi
          cases hbi
      · exact hob.of_block (setBlk_other hblk)
  · have hi' : ∃ oi', T i = some oi' ∧ oi'.ro = oi.ro := by
      by_cases hii : i = id
      · subst hii; rw [Hp.put_same] at hi; cases hi; exact ⟨_, hT, rfl⟩
      · rw [Hp.put_ne _ _ hii] at hi; exact ⟨_, hi, rfl⟩
    have hj' : ∃ oj', T j = some oj' := by
      by_cases hjj : j = id
      · subst hjj; exact ⟨_, hT⟩
      · rw [Hp.put_ne _ _ hjj] at hj; exact ⟨_, hj⟩
    obtain ⟨oi', g1, g2⟩ := hi'
    obtain ⟨oj', g3⟩ := hj'
    exact h.sep i j oi' oj' li lj hn g1 g3 hli hlj (by rw [g2]; exact hro)
  · by_cases hii : i = id
    · subst hii; exact h.own i _ li hT hli rfl
    · rw [Hp.put_ne _ _ hii] at hi; exact h.own i oi li hi hli hro

theorem oneCell_scalar {v : Value} : v.oneCell' = scalar v := by cases v <;> rfl

/-- Storing cells into a row. -/
theorem run_storeList {b : Nat} {el : TypeId} {fz : Nat × Nat} : ∀ (xs : List Value) (o i : Nat) (w : World) (arr : Array Value), w.heap[b]? = some (.cells arr el fz) → o + i + xs.length ≤ arr.size →
    (∀ v ∈ xs, scalar v = true) → (∀ j, o + i ≤ j → j < o + i + xs.length → ¬ (fz.1 ≤ j ∧ j < fz.2)) →
    (storeCells ⟨b, o, none⟩ xs i).run P w = .ok () (setBlk w b (.cells (spl arr.toList (o + i) xs).toArray el fz)) := by
  intro xs
  induction xs with
  | nil =>
    intro o i w arr hb _ _ _
    simp only [storeCells, Sem.run_pure, spl, Array.toArray_toList]
    rw [setBlk_self hb]
  | cons x xs ih =>
    intro o i w arr hb hlen hs hf
    simp only [List.length_cons] at hlen hf
    have hlt : o + i < arr.size := by omega
    have hbl : b < w.heap.size := (Array.getElem?_eq_some_iff.1 hb).1
    have hc : w.cell? ⟨b, o + i, none⟩ = some arr[o + i] := by simp [World.cell?, hb, hlt]
    have hfr : w.frozen? ⟨b, o + i, none⟩ = false := by
      have := hf (o + i) (Nat.le_refl _) (by omega)
      unfold World.frozen?
      simp only [hb]
      simpa using this
    have hset : w.setCell ⟨b, o + i, none⟩ x = setBlk w b (.cells (arr.setIfInBounds (o + i) x) el fz) := by
      simp only [World.setCell, setBlk]
      congr 1
      apply Array.ext_getElem?
      intro k
      rw [Array.getElem?_modify]
      by_cases hk : b = k
      · subst hk
        rw [if_pos rfl, hb]
        simp [hbl]
      · rw [if_neg hk, Array.getElem?_setIfInBounds_ne hk]
    have hx : scalar x = true := hs x (by simp)
    have hst := run_store P w ⟨b, o + i, none⟩ x .plain (by rw [oneCell_scalar]; exact hx)
    rw [hc, hfr, hset] at hst
    simp only [Bool.false_eq_true, if_false] at hst
    rw [storeCells, addr_add, Sem.run_bind, hst, Result.andThen_ok]
    have := ih o (i + 1) (setBlk w b (.cells (arr.setIfInBounds (o + i) x) el fz)) (arr.setIfInBounds (o + i) x) (setBlk_same hbl) (by simp; omega)
      (fun v hv => hs v (by simp [hv])) (fun j h1 h2 => hf j (by omega) (by omega))
    rw [this, setBlk_setBlk]
    simp [spl, Nat.add_assoc]

theorem spl_get : ∀ (xs c : List Value) (o j : Nat), (spl c o xs)[j]? = if o ≤ j ∧ j < o + xs.length ∧ j < c.length then xs[j - o]? else c[j]? := by
  intro xs
  induction xs with
  | nil => intro c o j; simp [spl]; intro h1 h2; omega
  | cons x xs ih =>
    intro c o j
    rw [spl, ih]
    simp only [List.length_set, List.length_cons]
    by_cases h : o + 1 ≤ j ∧ j < o + 1 + xs.length ∧ j < c.length
    · rw [if_pos h, if_pos (by omega)]
      rw [show j - o = (j - (o + 1)) + 1 from by omega]
      simp
    · rw [if_neg h]
      by_cases hj : j = o
      · subst hj
        by_cases hl : j < c.length
        · rw [if_pos (by omega)]
          simp [hl]
        · rw [if_neg (by omega)]
          rw [List.getElem?_eq_none (by simp; omega), List.getElem?_eq_none (by omega)]
      · rw [if_neg (by omega)]
        rw [List.getElem?_set_ne (Ne.symm hj)]

end
end Go.Ab
