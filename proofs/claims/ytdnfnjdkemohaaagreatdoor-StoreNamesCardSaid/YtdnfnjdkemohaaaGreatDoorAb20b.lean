/- What an operation looks at: the same operands give the same effect; a bigger heap gives the same effect. -/
import Derived.Test.YtdnfnjdkemohaaaGreatDoorAb20
namespace Go.Ab

section
variable {H H' : Hp} {tm tm' : Tm}

theorem aevs_congr : ∀ {l : List AOpr}, (∀ x ∈ l, aev H tm x = aev H' tm' x) → aevs H tm l = aevs H' tm' l := by
  intro l
  induction l with
  | nil => intro _; rfl
  | cons x l ih =>
    intro h
    have e1 := h x (List.mem_cons_self ..)
    have e2 := ih fun y hy => h y (List.mem_cons_of_mem _ hy)
    simp only [aevs, e1, e2]

theorem aparts_congr : ∀ {l : List (Nat × Nat × AOpr)}, (∀ x ∈ l.map (·.2.2), aev H tm x = aev H' tm' x) → aparts H tm l = aparts H' tm' l := by
  intro l
  induction l with
  | nil => intro _; rfl
  | cons x l ih =>
    intro h
    obtain ⟨o, n, x⟩ := x
    have e1 := h x (by simp)
    have e2 := ih fun y hy => h y (by simp only [List.map_cons, List.mem_cons]; exact .inr hy)
    simp only [aparts, e1, e2]

theorem oint_congr {d : Int} {o : Option AOpr} (h : ∀ x ∈ o.toList, aev H tm x = aev H' tm' x) : oint d H tm o = oint d H' tm' o := by
  cases o with
  | none => rfl
  | some x => simp only [oint, h x (by simp)]

theorem evalA_congr {op : AOp} (h : ∀ x ∈ oprs op, aev H tm x = aev H tm' x) : evalA H tm op = evalA H tm' op := by
  cases op <;> simp only [oprs, List.mem_cons, List.mem_append, List.not_mem_nil, or_false, forall_eq_or_imp, forall_eq] at h <;>
    first
    | rfl
    | (simp only [evalA, h]; done)
    | (simp only [evalA, aparts_congr h]; done)
    | (simp only [evalA, h.1, oint_congr fun x hx => h.2 x (.inl hx), oint_congr fun x hx => h.2 x (.inr hx)]; done)
    | (simp only [evalA, h.1, oint_congr fun x hx => h.2 x (.inl (.inl hx)), oint_congr fun x hx => h.2 x (.inl (.inr hx)), oint_congr fun x hx => h.2 x (.inr hx)]; done)
    | (simp only [evalA, aevs_congr fun x hx => h x (.inl hx), aevs_congr fun x hx => h x (.inr hx)]; done)
    | (simp only [evalA, aevs_congr h]; done)
    | (simp only [evalA, h.1, aevs_congr h.2]; done)

/-- What neither writes nor reads the heap looks at its operands alone. -/
theorem evalA_pure {op : AOp} (h1 : isHeavy op = false) (h2 : isLoad op = false) (h : ∀ x ∈ oprs op, aev H tm x = aev H' tm' x) : evalA H tm op = evalA H' tm' op := by
  cases op <;> simp only [oprs, List.mem_cons, List.mem_append, List.not_mem_nil, or_false, forall_eq_or_imp, forall_eq] at h <;>
    first
    | (cases h1; done)
    | (simp only [isLoad, Bool.true_or] at h2; cases h2; done)
    | rfl
    | (simp only [evalA, h]; done)
    | (simp only [evalA, aparts_congr h]; done)
    | (simp only [evalA, h.1, oint_congr fun x hx => h.2 x (.inl hx), oint_congr fun x hx => h.2 x (.inr hx)]; done)
    | (simp only [evalA, h.1, oint_congr fun x hx => h.2 x (.inl (.inl hx)), oint_congr fun x hx => h.2 x (.inl (.inr hx)), oint_congr fun x hx => h.2 x (.inr hx)]; done)
    | (simp only [evalA, aevs_congr fun x hx => h x (.inl hx), aevs_congr fun x hx => h x (.inr hx)]; done)
    | (simp only [evalA, aevs_congr h]; done)

theorem aev_mono (hs : H.sub H') {x : AOpr} {v : Value} (h : aev H tm x = some v) : aev H' tm x = some v := by
  cases x with
  | tmp t => exact h
  | con c => exact h
  | glob g =>
    simp only [aev] at h ⊢
    split at h
    · rename_i r c e; rw [hs _ _ e]; exact h
    · cases h

theorem aevs_mono (hs : H.sub H') : ∀ {l : List AOpr} {vs : List Value}, aevs H tm l = some vs → aevs H' tm l = some vs := by
  intro l
  induction l with
  | nil => intro vs h; exact h
  | cons x l ih =>
    intro vs h
    simp only [aevs] at h ⊢
    split at h
    · rename_i v ws e1 e2; rw [aev_mono hs e1, ih e2]; exact h
    · cases h

theorem aparts_mono (hs : H.sub H') : ∀ {l : List (Nat × Nat × AOpr)} {vs : List (Nat × Nat × Value)}, aparts H tm l = some vs → aparts H' tm l = some vs := by
  intro l
  induction l with
  | nil => intro vs h; exact h
  | cons x l ih =>
    intro vs h
    simp only [aparts] at h ⊢
    split at h
    · rename_i v ws e1 e2; rw [aev_mono hs e1, ih e2]; exact h
    · cases h

theorem oint_mono (hs : H.sub H') {d : Int} {o : Option AOpr} {i : Int} (h : oint d H tm o = some i) : oint d H' tm o = some i := by
  cases o with
  | none => exact h
  | some x =>
    simp only [oint] at h ⊢
    split at h
    · rename_i k j e; rw [aev_mono hs e]; exact h
    · cases h

theorem slCells_mono (hs : H.sub H') {n : Nat} {v : Value} {c : List Value} (h : slCells H n v = some c) : slCells H' n v = some c := by
  unfold slCells at h ⊢
  split at h
  · exact h
  · split at h
    · rename_i e; simp only [hs _ _ e]; exact h
    · cases h
  · cases h

theorem apCells_mono (hs : H.sub H') {n : Nat} {v : Value} {c : Nat × List Value} (h : apCells H n v = some c) : apCells H' n v = some c := by
  unfold apCells at h ⊢
  split at h
  · split at h
    · rename_i e; simp only [slCells_mono hs e]; exact h
    · cases h
  · exact h
  · cases h

theorem hs_some (hs : H.sub H') {i : Nat} {o : Ob} (h : H i = some o) : H' i = some o := hs i o h

theorem evalA_mono (hs : H.sub H') {op : AOp} {eff : Eff} (h : evalA H tm op = some eff) : evalA H' tm op = some eff := by
  cases op <;> simp only [evalA] at h ⊢ <;> (repeat' (split at h)) <;> first
    | (cases h; done)
    | exact h
    | (repeat (((first | rewrite [aev_mono hs] | rewrite [aparts_mono hs] | rewrite [aevs_mono hs] | rewrite [hs_some hs] | rewrite [oint_mono hs] | rewrite [slCells_mono hs] | rewrite [apCells_mono hs]) ;  any_goals assumption); (try dsimp only));
       all_goals first | exact h | (simp only [‹List.findIdx? _ _ = _›]; exact h) | (simp only [*]; exact h) | (simp only [*, if_true, if_false]; exact h) | (simp [*]; exact h) | simp_all)

end
end Go.Ab
