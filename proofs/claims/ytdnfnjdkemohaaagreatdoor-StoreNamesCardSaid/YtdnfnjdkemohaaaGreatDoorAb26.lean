/- Operations and renaming. -/
import Derived.Test.YtdnfnjdkemohaaaGreatDoorAb25
namespace Go.Ab
section
variable {r : Nat → Nat} {G : Nat} {tm tm' : Tm} {H H' : Hp}

theorem binI_plain {op : BinOp} {k : IntKind} {x y : Int} {v : Value} (h : binI op k x y = some v) : ren r v = v := by
  unfold binI at h
  split at h <;> (try split at h) <;> first
    | (cases h; rfl)
    | (cases h; done)

theorem binStr_plain {op : BinOp} {x y : ByteArray} {v : Value} (h : binStr op x y = some v) : ren r v = v := by
  unfold binStr at h
  split at h <;> (try split at h) <;> first
    | (cases h; rfl)
    | (cases h; done)

theorem binF_plain {op : BinOp} {k : FloatKind} {x y : Nat} {v : Value} (h : binF op k x y = some v) : ren r v = v := by
  unfold binF at h
  split at h <;> first
    | (cases h; rfl)
    | (cases h; done)

theorem binA_ren {op : BinOp} {a b v : Value} (h : binA op a b = some v) : binA op (ren r a) (ren r b) = some (ren r v) := by
  have key : ren r a = a ∧ ren r b = b ∧ ren r v = v := by
    unfold binA at h
    split at h
    · split at h
      · split at h
        · cases h
        · cases h; exact ⟨rfl, rfl, rfl⟩
      · split at h
        · cases h
        · cases h; exact ⟨rfl, rfl, rfl⟩
      · split at h
        · exact ⟨rfl, rfl, binI_plain h⟩
        · cases h
    · exact ⟨rfl, rfl, binStr_plain h⟩
    · split at h
      · exact ⟨rfl, rfl, binF_plain h⟩
      · cases h
    · cases h
  rw [key.1, key.2.1, key.2.2]
  exact h

theorem unA_ren {op : UnOp} {a v : Value} (h : unA op a = some v) : unA op (ren r a) = some (ren r v) := by
  unfold unA at h
  split at h <;> first
    | (cases h; rfl)
    | (cases h; done)

theorem kEq_ren {kd : Nat} {a b : Value} {t : Bool} (h : kEq kd a b = some t) : kEq kd (ren r a) (ren r b) = some t := by
  have key : ren r a = a ∧ ren r b = b := by
    unfold kEq at h
    split at h <;> first
      | exact ⟨rfl, rfl⟩
      | (cases h; done)
  rw [key.1, key.2]
  exact h

theorem kEqs_ren : ∀ {ks : List Nat} {a b : List Value} {t : Bool}, kEqs ks a b = some t → kEqs ks (a.map (ren r)) (b.map (ren r)) = some t := by
  intro ks
  induction ks with
  | nil =>
    intro a b t h
    cases a <;> cases b <;> first
      | exact h
      | (cases h; done)
  | cons k ks ih =>
    intro a b t h
    cases a with
    | nil => cases h
    | cons x a =>
      cases b with
      | nil => cases h
      | cons y b =>
        simp only [kEqs] at h
        split at h
        · rename_i e1 e2
          cases h
          simp only [List.map_cons, kEqs, kEq_ren e1, ih e2]
        · cases h

theorem nilT_ren {kd : Nat} {a b : Value} {t : Bool} (h : nilT kd a b = some t) : nilT kd (ren r a) (ren r b) = some t := by
  unfold nilT at h
  split at h <;> first
    | (rename_i x _ _; cases h; cases x <;> rfl)
    | (rename_i x; cases h; cases x <;> rfl)
    | (cases h; rfl)
    | (cases h; done)

theorem isKey_ren {kd : Nat} {v : Value} (h : isKey kd v = true) : isKey kd (ren r v) = true := by
  unfold isKey at h
  split at h <;> first
    | rfl
    | (cases h; done)

def renE (r : Nat → Nat) (e : Value × Value × Nat) : Value × Value × Nat := (ren r e.1, ren r e.2.1, e.2.2)

theorem renOb_map (es : List (Value × Value × Nat)) (k : Nat) : renOb r (.map es k) = .map (es.map (renE r)) k := rfl

theorem findA_ren {kd : Nat} {k : Value} : ∀ {es : List (Value × Value × Nat)} {x : Option (Nat × Value × Nat)}, findA kd k es = some x →
    findA kd (ren r k) (es.map (renE r)) = some (x.map fun y => (y.1, ren r y.2.1, y.2.2)) := by
  intro es
  induction es with
  | nil => intro x h; simp only [findA, Option.some.injEq] at h; subst h; rfl
  | cons e es ih =>
    obtain ⟨k', v, b⟩ := e
    intro x h
    simp only [findA] at h
    simp only [List.map_cons, renE, findA]
    split at h
    · rename_i e1
      cases h
      rw [kEq_ren e1]
      rfl
    · rename_i e1
      rw [kEq_ren e1]
      split at h
      · rename_i e2
        cases h
        simp only [ih e2, Option.map_some]
      · rename_i e2
        cases h
        simp only [ih e2, Option.map_none]
      · cases h
    · cases h

theorem minA_ren {mx : Bool} : ∀ {l : List Value} {v x : Value}, minA mx v l = some x → minA mx (ren r v) (l.map (ren r)) = some (ren r x) := by
  intro l
  induction l with
  | nil =>
    intro v x h
    simp only [minA, Option.some.injEq] at h
    subst h
    simp only [List.map_nil, minA]
  | cons y l ih =>
    intro v x h
    unfold minA at h
    split at h
    · rename_i h1; cases h1
    · rename_i h1
      cases h1
      split at h
      · rename_i hk
        have := ih h
        simp only [List.map_cons, ren, minA, if_pos hk] at this ⊢
        exact this
      · cases h
    · cases h

theorem get_ren {c : List Value} {i : Nat} {v : Value} (h : c[i]? = some v) : (c.map (ren r))[i]? = some (ren r v) := by
  rw [List.getElem?_map, h]; rfl

theorem findIdx_ren (p : Nat → Bool) (es : List (Value × Value × Nat)) : (es.map (renE r)).findIdx? (fun e => p e.2.2) = es.findIdx? (fun e => p e.2.2) := by
  induction es with
  | nil => rfl
  | cons e es ih => simp only [List.map_cons, List.findIdx?_cons, ih]; rfl

theorem erase_ren : ∀ (es : List (Value × Value × Nat)) (i : Nat), (es.map (renE r)).eraseIdx i = (es.eraseIdx i).map (renE r) := by
  intro es
  induction es with
  | nil => intro i; rfl
  | cons e es ih =>
    intro i
    cases i with
    | zero => rfl
    | succ i => simp only [List.map_cons, List.eraseIdx_cons_succ, ih]

theorem hp_ren (s : StR r G tm H tm' H') {i : Nat} {o : Ob} (h : H i = some o) : H' (r i) = some (renOb r o) := s.hp i o h

theorem flatRep_ren {z : List Value} (h : wfL 0 z = true) (n : Nat) : (List.replicate n z).flatten.map (ren r) = (List.replicate n z).flatten := by
  rw [List.map_flatten, List.map_replicate, wf0_map h]

theorem evalA_ren (s : StR r G tm H tm' H') {op : AOp} {eff : Eff} (ho : opOk G op = true) (h : evalA H tm op = some eff) : evalA H' tm' op = some (renEff r eff) := by
  simp only [opOk, Bool.and_eq_true, List.all_eq_true] at ho
  obtain ⟨hx, hz⟩ := ho
  have av : ∀ {x v}, x ∈ oprs op → aev H tm x = some v → aev H' tm' x = some (ren r v) := fun hm h => aev_ren s (hx _ hm) h
  cases op with
  | mov x =>
    simp only [evalA] at h ⊢
    split at h
    · rename_i e; cases h; rw [av (by simp [oprs]) e]; rfl
    · cases h
  | pick c a b =>
    simp only [evalA] at h ⊢
    split at h
    · rename_i e; rw [av (by simp [oprs]) e]
      split at h
      · rename_i e2; cases h; simp only [ren, av (show a ∈ oprs (.pick c a b) by simp [oprs]) e2]; rfl
      · cases h
    · rename_i e; rw [av (by simp [oprs]) e]
      split at h
      · rename_i e2; cases h; simp only [ren, av (show b ∈ oprs (.pick c a b) by simp [oprs]) e2]; rfl
      · cases h
    · cases h
  | new z =>
    simp only [evalA, Option.some.injEq] at h ⊢
    subst h
    simp only [renEff, renOb, wf0_map hz]
  | box x =>
    simp only [evalA] at h ⊢
    split at h
    · rename_i e; rw [av (by simp [oprs]) e]
      split at h
      · rename_i hh; cases h; simp only [cellsL_ren, scalars_ren, if_pos hh]; rfl
      · cases h
    · cases h
  | build z ps =>
    simp only [evalA] at h ⊢
    split at h
    · rename_i e; rw [aparts_ren s (fun x hx' => hx x hx') e]
      split at h
      · rename_i e2; cases h; have := fillA_ren (r := r) e2; rw [wf0_map hz] at this; simp only [this, renEff, ren, renA_toArray]
      · cases h
    · cases h
  | buildSlice len size z ps =>
    simp only [evalA] at h ⊢
    split at h
    · rename_i e; rw [aparts_ren s (fun x hx' => hx x hx') e]
      split at h
      · rename_i e2
        have := fillA_ren (r := r) e2
        rw [flatRep_ren hz] at this
        split at h
        · rename_i hh; cases h; simp only [this, scalars_ren, if_pos hh]; rfl
        · cases h
      · cases h
    · cases h
  | newB B =>
    simp only [evalA, Option.some.injEq] at h ⊢
    subst h
    rfl
  | cSl x =>
    simp only [evalA] at h ⊢
    split at h
    · rename_i e; rw [av (by simp [oprs]) e]
      split at h
      · rename_i e2
        split at h
        · cases h
        · rename_i hh; cases h; simp only [ren, renAd, hp_ren s e2, renOb, if_neg hh]; rfl
      · cases h
    · cases h
  | load agg n a =>
    simp only [evalA] at h ⊢
    split at h
    · rename_i e; rw [av (by simp [oprs]) e]
      split at h
      · rename_i e2
        simp only [ren, renAd, hp_ren s e2, renOb, List.length_map]
        split at h
        · rename_i hg
          split at h
          · rename_i hh; cases h; rw [if_pos hg, if_pos hh, ← List.map_drop, ← List.map_take]; simp only [renEff, ren, renA_toArray]
          · cases h
        · rename_i hg
          rw [if_neg hg]
          split at h
          · rename_i e3; cases h; rw [get_ren e3]; rfl
          · cases h
      · rename_i e2
        simp only [ren, renAd, hp_ren s e2, renOb]
        split at h
        · cases h
        · rename_i hg
          rw [if_neg hg]
          split at h
          · rename_i h0; cases h; rw [if_pos h0]; rfl
          · rename_i h0
            rw [if_neg h0]
            split at h
            · rename_i h1; cases h; rw [if_pos h1]; rfl
            · cases h
      · cases h
    · cases h
  | store n a x =>
    simp only [evalA] at h ⊢
    split at h
    · rename_i e1 e2; rw [av (by simp [oprs]) e1, av (by simp [oprs]) e2]
      split at h
      · rename_i e3
        split at h
        · rename_i hh
          cases h
          simp only [ren, renAd, hp_ren s e3, renOb, List.length_map, cellsL_ren, scalars_ren, spl_ren, if_pos hh, renEff]
          rfl
        · cases h
      · rename_i e3
        split at h
        · rename_i hh
          cases h
          simp only [ren, renAd, hp_ren s e3, renOb, scalar_ren, if_pos hh, renEff]
          rfl
        · cases h
      · cases h
    · cases h
  | nilCheck x =>
    simp only [evalA] at h ⊢
    split at h
    · rename_i e; rw [av (by simp [oprs]) e]; cases h; rfl
    · rename_i e; rw [av (by simp [oprs]) e]; cases h; rfl
    · cases h
  | off k a =>
    simp only [evalA] at h ⊢
    split at h
    · rename_i e; rw [av (by simp [oprs]) e]; cases h; rfl
    · cases h
  | field agg o n x =>
    simp only [evalA] at h ⊢
    split at h
    · rename_i e; rw [av (by simp [oprs]) e]
      simp only [ren, renA_toList]
      split at h
      · rename_i hg; cases h; rw [if_pos hg, ← List.map_drop, ← List.map_take]; simp only [renEff, ren, renA_toArray]
      · rename_i hg
        rw [if_neg hg]
        split at h
        · rename_i e3; cases h; rw [get_ren e3]; rfl
        · cases h
    · cases h
  | idxPtr len size a i =>
    simp only [evalA] at h ⊢
    split at h
    · rename_i e1 e2; rw [av (by simp [oprs]) e1, av (by simp [oprs]) e2]
      split at h
      · rename_i hh; cases h; simp only [ren, renAd, if_pos hh]; rfl
      · cases h
    · cases h
  | idxSl size x i =>
    simp only [evalA] at h ⊢
    split at h
    · rename_i e1 e2; rw [av (by simp [oprs]) e1, av (by simp [oprs]) e2]
      split at h
      · rename_i hh; cases h; simp only [ren, renAd, if_pos hh]; rfl
      · cases h
    · cases h
  | idxStr x i =>
    simp only [evalA] at h ⊢
    split at h
    · rename_i e1 e2; rw [av (by simp [oprs]) e1, av (by simp [oprs]) e2]
      split at h
      · rename_i hh
        split at h
        · rename_i e3; cases h; simp only [ren, if_pos hh, e3]; rfl
        · cases h
      · cases h
    · cases h
  | idxAgg agg len size x i =>
    simp only [evalA] at h ⊢
    split at h
    · rename_i e1 e2; rw [av (by simp [oprs]) e1, av (by simp [oprs]) e2]
      split at h
      · rename_i hh
        simp only [ren, renA_toList, if_pos hh]
        split at h
        · rename_i hg; cases h; rw [if_pos hg, ← List.map_drop, ← List.map_take]; simp only [renEff, ren, renA_toArray]
        · rename_i hg
          rw [if_neg hg]
          split at h
          · rename_i e3; cases h; rw [get_ren e3]; rfl
          · cases h
      · cases h
    · cases h
  | bin op x y =>
    simp only [evalA] at h ⊢
    split at h
    · rename_i e1 e2; rw [av (by simp [oprs]) e1, av (by simp [oprs]) e2]
      split at h
      · rename_i e3; cases h; simp only [binA_ren e3]; rfl
      · cases h
    · cases h
  | eqB neg x y =>
    simp only [evalA] at h ⊢
    split at h
    · rename_i e1 e2; rw [av (by simp [oprs]) e1, av (by simp [oprs]) e2]; cases h; rfl
    · cases h
  | eqP neg x y =>
    simp only [evalA] at h ⊢
    split at h
    · rename_i e1 e2; rw [av (by simp [oprs]) e1, av (by simp [oprs]) e2]; cases h; rfl
    · rename_i e1 e2; rw [av (by simp [oprs]) e1, av (by simp [oprs]) e2]; cases h; rfl
    · rename_i e1 e2; rw [av (by simp [oprs]) e1, av (by simp [oprs]) e2]; cases h; rfl
    · rename_i e1 e2; rw [av (by simp [oprs]) e1, av (by simp [oprs]) e2]
      split at h
      · rename_i hh; subst hh; cases h; simp only [ren, renAd, if_true]; rfl
      · cases h
    · cases h
  | eqN kd neg x y =>
    simp only [evalA] at h ⊢
    split at h
    · rename_i e1 e2; rw [av (by simp [oprs]) e1, av (by simp [oprs]) e2]
      split at h
      · rename_i e3; cases h; simp only [nilT_ren e3]; rfl
      · cases h
    · cases h
  | eqA neg ks x y =>
    simp only [evalA] at h ⊢
    split at h
    · rename_i e1 e2; rw [av (by simp [oprs]) e1, av (by simp [oprs]) e2]
      split at h
      · rename_i e3; cases h; simp only [ren, renA_toList, kEqs_ren e3]; rfl
      · cases h
    · cases h
  | un op x =>
    simp only [evalA] at h ⊢
    split at h
    · rename_i e; rw [av (by simp [oprs]) e]
      split at h
      · rename_i e3; cases h; simp only [unA_ren e3]; rfl
      · cases h
    · cases h
  | cInt k x =>
    simp only [evalA] at h ⊢
    split at h
    · rename_i e; rw [av (by simp [oprs]) e]; cases h; rfl
    · cases h
  | cStr x =>
    simp only [evalA] at h ⊢
    split at h
    · rename_i e; rw [av (by simp [oprs]) e]
      split at h
      · rename_i e2
        split at h
        · rename_i e3; cases h; simp only [slCells_ren s e2, bytesOf_ren e3]; rfl
        · cases h
      · cases h
    · cases h
  | cBytes x =>
    simp only [evalA] at h ⊢
    split at h
    · rename_i e; rw [av (by simp [oprs]) e]; cases h; simp only [ren, renEff, renOb, ub_ren]
    · cases h
  | cId x =>
    simp only [evalA] at h ⊢
    split at h
    · rename_i e; rw [av (by simp [oprs]) e]; cases h; rfl
    · cases h
  | mkFunc fn a b =>
    simp only [evalA] at h ⊢
    split at h
    · rename_i e1 e2
      cases h
      rw [aevs_ren s (fun x hx' => hx x (by simp only [oprs, List.mem_append]; exact .inl hx')) e1, aevs_ren s (fun x hx' => hx x (by simp only [oprs, List.mem_append]; exact .inr hx')) e2]
      simp only [renEff, ren, renA_toArray]
    · cases h
  | mkSlice size bytes z l c =>
    simp only [evalA] at h ⊢
    split at h
    · rename_i e1 e2; rw [av (by simp [oprs]) e1, av (by simp [oprs]) e2]
      split at h
      · rename_i hh; cases h; simp only [ren, if_pos hh, renEff, renOb, flatRep_ren hz]
      · cases h
    · cases h
  | mkMap =>
    simp only [evalA, Option.some.injEq] at h ⊢
    subst h
    rfl
  | slStr x lo hi =>
    simp only [evalA] at h ⊢
    split at h
    · rename_i e; rw [av (by simp [oprs]) e]
      split at h
      · rename_i e1
        split at h
        · rename_i e2
          split at h
          · rename_i hh
            cases h
            simp only [ren, oint_ren s (fun y hy => hx y (by simp only [oprs, List.mem_cons, List.mem_append]; exact .inr (.inr hy))) e1,
              oint_ren s (fun y hy => hx y (by simp only [oprs, List.mem_cons, List.mem_append]; exact .inr (.inl hy))) e2, if_pos hh]
            rfl
          · cases h
        · cases h
      · cases h
    · cases h
  | slSl size x lo hi mx =>
    have o1 : ∀ {d i}, oint d H tm lo = some i → oint d H' tm' lo = some i := fun e => oint_ren s (fun y hy => hx y (by simp only [oprs, List.mem_cons, List.mem_append]; exact .inr (.inl (.inl hy)))) e
    have o2 : ∀ {d i}, oint d H tm hi = some i → oint d H' tm' hi = some i := fun e => oint_ren s (fun y hy => hx y (by simp only [oprs, List.mem_cons, List.mem_append]; exact .inr (.inl (.inr hy)))) e
    have o3 : ∀ {d i}, oint d H tm mx = some i → oint d H' tm' mx = some i := fun e => oint_ren s (fun y hy => hx y (by simp only [oprs, List.mem_cons, List.mem_append]; exact .inr (.inr hy))) e
    simp only [evalA] at h ⊢
    split at h
    · rename_i e; rw [av (by simp [oprs]) e]
      split at h
      · rename_i e1 e2 e3; cases h; simp only [ren, o1 e1, o2 e2, o3 e3]; rfl
      · cases h
    · rename_i e; rw [av (by simp [oprs]) e]
      split at h
      · rename_i e1 e2 e3
        split at h
        · rename_i hh; cases h; simp only [ren, renAd, o1 e1, o2 e2, o3 e3, if_pos hh]; rfl
        · cases h
      · cases h
    · cases h
  | lenStr x =>
    simp only [evalA] at h ⊢
    split at h
    · rename_i e; rw [av (by simp [oprs]) e]; cases h; rfl
    · cases h
  | lenSl x =>
    simp only [evalA] at h ⊢
    split at h
    · rename_i a n k e
      rw [av (by simp [oprs]) e]
      cases h
      cases a <;> rfl
    · cases h
  | lenC n =>
    simp only [evalA, Option.some.injEq] at h ⊢
    subst h
    rfl
  | lenMap x =>
    simp only [evalA] at h ⊢
    split at h
    · rename_i e; rw [av (by simp [oprs]) e]; cases h; rfl
    · rename_i e; rw [av (by simp [oprs]) e]
      split at h
      · rename_i e2; cases h; simp only [ren, hp_ren s e2, renOb_map, List.length_map]; rfl
      · cases h
    · cases h
  | append size bytes a x =>
    simp only [evalA] at h ⊢
    split at h
    · rename_i p n k y e1 e2
      rw [av (by simp [oprs]) e1, av (by simp [oprs]) e2]
      split at h
      · rename_i c kk d e3 e4
        have f3 := slCells_ren s e3
        have f4 := apCells_ren s e4
        split at h
        · rename_i hh
          cases p with
          | none =>
            simp only [ren] at f3 ⊢
            simp only [f3, f4, if_pos hh]
            simp only at h
            split at h
            · rename_i hk; cases h; rw [if_pos hk]; rfl
            · rename_i hk; cases h; rw [if_neg hk]; rfl
          | some p =>
            obtain ⟨id, o, sp⟩ := p
            simp only [ren, renAd] at f3 ⊢
            simp only [f3, f4, if_pos hh]
            simp only at h
            split at h
            · rename_i e5; cases h; simp only [hp_ren s e5, renOb, renEff, Option.map_some, List.map_append]
            · cases h
        · cases h
      · cases h
    · cases h
  | copy size dd ss =>
    simp only [evalA] at h ⊢
    split at h
    · rename_i p n k y e1 e2
      rw [av (by simp [oprs]) e1, av (by simp [oprs]) e2]
      split at h
      · rename_i c kk d e3 e4
        have f3 := slCells_ren s e3
        have f4 := apCells_ren s e4
        cases p with
        | none =>
          simp only [ren] at f3 ⊢
          simp only [f3, f4]
          simp only at h
          cases h
          rfl
        | some p =>
          obtain ⟨id, o, sp⟩ := p
          simp only [ren, renAd] at f3 ⊢
          simp only [f3, f4]
          simp only at h
          split at h
          · rename_i e5
            cases h
            simp only [hp_ren s e5, renOb, renEff, List.length_map, ← List.map_take, spl_ren]
            rfl
          · cases h
      · cases h
    · cases h
  | minmax mx xs =>
    simp only [evalA] at h ⊢
    split at h
    · rename_i e
      rw [aevs_ren s (l := xs) (fun x hx' => hx x hx') e]
      split at h
      · rename_i e2; cases h; simp only [List.map_cons, minA_ren e2]; rfl
      · cases h
    · cases h
  | lookup kd z ok m k =>
    simp only [zOk] at hz
    have hz' := wf0_ren (r := r) z hz
    simp only [evalA] at h ⊢
    split at h
    · rename_i e1 e2
      rw [av (by simp [oprs]) e1, av (by simp [oprs]) e2]
      split at h
      · rename_i hh
        cases h
        simp only [ren, isKey_ren hh, if_true, renEff]
        congr 2
        cases ok <;> simp [ren, renA, renL, hz']
      · cases h
    · rename_i e1 e2
      rw [av (by simp [oprs]) e1, av (by simp [oprs]) e2]
      split at h
      · rename_i hh
        split at h
        · rename_i e3
          split at h
          · rename_i e4
            cases h
            simp only [ren, isKey_ren hh, if_true, hp_ren s e3, renOb_map, findA_ren e4, Option.map_some, renEff]
            congr 2
            cases ok <;> simp [ren, renA, renL]
          · rename_i e4
            cases h
            simp only [ren, isKey_ren hh, if_true, hp_ren s e3, renOb_map, findA_ren e4, Option.map_none, renEff]
            congr 2
            cases ok <;> simp [ren, renA, renL, hz']
          · cases h
        · cases h
      · cases h
    · cases h
  | mapSet kd m k v =>
    simp only [evalA] at h ⊢
    split at h
    · rename_i e1 e2 e2'
      rw [av (by simp [oprs]) e1, av (by simp [oprs]) e2, av (by simp [oprs]) e2']
      split at h
      · rename_i hh
        split at h
        · rename_i e3
          split at h
          · rename_i e4
            cases h
            simp only [ren, isKey_ren hh, if_true, hp_ren s e3, renOb_map, findA_ren e4, Option.map_some, renEff, List.map_set, renE]
            rfl
          · rename_i e4
            cases h
            simp only [ren, isKey_ren hh, if_true, hp_ren s e3, renOb_map, findA_ren e4, Option.map_none, renEff, List.map_append, List.map_cons, List.map_nil, renE]
            rfl
          · cases h
        · cases h
      · cases h
    · cases h
  | mapEntry kd z m k =>
    simp only [zOk] at hz
    have hz' := wf0_ren (r := r) z hz
    simp only [evalA] at h ⊢
    split at h
    · rename_i e1 e2
      rw [av (by simp [oprs]) e1, av (by simp [oprs]) e2]
      split at h
      · rename_i hh
        split at h
        · rename_i e3
          split at h
          · rename_i e4
            cases h
            simp only [ren, isKey_ren hh, if_true, hp_ren s e3, renOb_map, findA_ren e4, Option.map_some, renEff, List.map_set, renE, renA, renL]
          · rename_i e4
            cases h
            simp only [ren, isKey_ren hh, if_true, hp_ren s e3, renOb_map, findA_ren e4, Option.map_none, renEff, List.map_append, List.map_cons, List.map_nil, renE, renA, renL, hz']
          · cases h
        · cases h
      · cases h
    · cases h
  | entrySet m st v =>
    simp only [evalA] at h ⊢
    split at h
    · rename_i e1 e2 e2'
      rw [av (by simp [oprs]) e1, av (by simp [oprs]) e2, av (by simp [oprs]) e2']
      split at h
      · rename_i e3
        split at h
        · rename_i e4
          split at h
          · rename_i e5
            cases h
            simp only [ren, hp_ren s e3, renOb_map]
            rw [findIdx_ren (fun c => (c : Int) == _)]
            simp only [e4, List.getElem?_map, e5, Option.map_some, renE, renEff, renOb_map, List.map_set]
            rfl
          · cases h
        · cases h
      · cases h
    · cases h
  | delete kd m k =>
    simp only [evalA] at h ⊢
    split at h
    · rename_i e1 e2
      rw [av (by simp [oprs]) e1, av (by simp [oprs]) e2]
      split at h
      · rename_i hh
        split at h
        · rename_i e3
          split at h
          · rename_i e4
            cases h
            simp only [ren, isKey_ren hh, if_true, hp_ren s e3, renOb_map, findA_ren e4, Option.map_some, renEff, renA, renL, erase_ren]
          · rename_i e4
            cases h
            simp only [ren, isKey_ren hh, if_true, hp_ren s e3, renOb_map, findA_ren e4, Option.map_none, renEff, renA, renL]
          · cases h
        · cases h
      · cases h
    · cases h
  | extract x i =>
    simp only [evalA] at h ⊢
    split at h
    · rename_i e; rw [av (by simp [oprs]) e]
      split at h
      · rename_i e2; cases h; simp only [ren, renA_toList, get_ren e2]; rfl
      · cases h
    · cases h
  | call f args =>
    simp only [evalA] at h ⊢
    split at h
    · rename_i e1 e2
      cases h
      rw [av (by simp [oprs]) e1, aevs_ren s (fun x hx' => hx x (by simp only [oprs, List.mem_cons]; exact .inr hx')) e2]
      simp only [ren, renA_toList, renEff, List.map_append]
    · cases h
  | f64bits x =>
    simp only [evalA] at h ⊢
    split at h
    · rename_i e; rw [av (by simp [oprs]) e]; cases h; rfl
    · cases h
  | add64 x y c =>
    simp only [evalA] at h ⊢
    split at h
    · rename_i e1 e2 e3; rw [av (by simp [oprs]) e1, av (by simp [oprs]) e2, av (by simp [oprs]) e3]
      split at h
      · rename_i hh; cases h; simp only [ren, if_pos hh]; rfl
      · cases h
    · cases h
  | idxByteStr x c =>
    simp only [evalA] at h ⊢
    split at h
    · rename_i e1 e2; rw [av (by simp [oprs]) e1, av (by simp [oprs]) e2]; cases h; rfl
    · cases h

end
end Go.Ab
