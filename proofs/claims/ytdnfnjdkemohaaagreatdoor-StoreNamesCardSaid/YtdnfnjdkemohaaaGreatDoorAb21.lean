/- The soundness of the one order: whichever operation is drawn, it may be moved to the front. -/
import Derived.Test.YtdnfnjdkemohaaaGreatDoorAb20c
namespace Go.Ab

theorem rwd_rext {P : Program} {bef : Nat → Nat → Bool} {K : Tm → Hp → Prop} (hK : ∀ tm tm' H, TE tm tm' → K tm H → K tm' H) : ∀ l, RExt (RWD P bef K l) := by
  intro l
  induction l with
  | nil => intro p p' tm tm' H _ ht h; exact hK _ _ _ ht h
  | cons q l ih =>
    obtain ⟨i, o⟩ := q
    intro p p' tm tm' H hp ht h
    rw [rwd_cons] at h ⊢
    exact stepD_ext ih p p' tm tm' H hp ht h

theorem frontD {P : Program} {bef : Nat → Nat → Bool} {K : Tm → Hp → Prop} (hK : ∀ tm tm' H, TE tm tm' → K tm H → K tm' H) {iy : Nat} {y : AOper} {l2 : List (Nat × AOper)} :
    ∀ (l1 : List (Nat × AOper)), (∀ q ∈ l1, bef q.1 iy = false ∧ compat q.2 y = true) → ∀ p tm H, PMono p → RWD P bef K (l1 ++ (iy, y) :: l2) p tm H → RWD P bef K ((iy, y) :: (l1 ++ l2)) p tm H := by
  intro l1
  induction l1 with
  | nil => intro _ p tm H _ h; exact h
  | cons q l1 ih =>
    obtain ⟨ix, x⟩ := q
    intro hq p tm H hp h
    rw [List.cons_append, rwd_cons] at h
    have h2 : stepD P bef (stepD P bef (RWD P bef K (l1 ++ l2)) iy y) ix x p tm H :=
      stepD_mono (fun p tm H hp h => rwd_cons.1 (ih (fun q hq' => hq q (List.mem_cons_of_mem _ hq')) p tm H hp h)) hp h
    obtain ⟨h3, h4⟩ := hq _ (List.mem_cons_self ..)
    have h5 := swapD (rwd_rext hK (l1 ++ l2)) h4 h3 hp h2
    rw [rwd_cons]
    exact stepD_mono (fun p tm H _ h => rwd_cons.2 h) hp h5

theorem regOk_iff {bef : Nat → Nat → Bool} : ∀ {l : List (Nat × AOper)}, regOk bef l = true → (∀ q ∈ l, bef q.1 q.1 = false) ∧
    l.Pairwise (fun p q => bef q.1 p.1 = false ∧ q.1 ≠ p.1 ∧ (bef p.1 q.1 = true ∨ compat p.2 q.2 = true)) := by
  intro l
  induction l with
  | nil => intro _; exact ⟨fun q h => (by cases h), .nil⟩
  | cons p l ih =>
    intro h
    obtain ⟨i, x⟩ := p
    simp only [regOk, Bool.and_eq_true, Bool.not_eq_true', List.all_eq_true, Bool.or_eq_true, bne_iff_ne] at h
    obtain ⟨⟨h1, h2⟩, h3⟩ := h
    obtain ⟨g1, g2⟩ := ih h3
    refine ⟨fun q hq => ?_, .cons (fun q hq => ?_) g2⟩
    · rcases List.mem_cons.1 hq with rfl | hq
      · exact h1
      · exact g1 q hq
    · have := h2 q hq
      exact ⟨this.1.1, this.1.2, this.2⟩

theorem maskOf_bit (masks : List Nat) (i : Nat) : ∀ l : List Edge, (maskOf masks l).testBit i = true ↔ ∃ e ∈ l, Region.binds .any e = true ∧ (e.on = i ∨ (masks.getD e.on 0).testBit i = true) := by
  intro l
  induction l with
  | nil => simp [maskOf]
  | cons e l ih =>
    simp only [maskOf]
    split
    · rename_i hb
      simp only [Nat.testBit_or, Nat.testBit_two_pow, Bool.or_eq_true, decide_eq_true_eq, ih]
      constructor
      · rintro (h | ⟨e', h1, h2⟩)
        · exact ⟨e, List.mem_cons_self .., hb, h⟩
        · exact ⟨e', List.mem_cons_of_mem _ h1, h2⟩
      · rintro ⟨e', h1, h2, h3⟩
        rcases List.mem_cons.1 h1 with rfl | h1
        · exact .inl h3
        · exact .inr ⟨e', h1, h2, h3⟩
    · rename_i hb
      rw [ih]
      constructor
      · rintro ⟨e', h1, h2⟩
        exact ⟨e', List.mem_cons_of_mem _ h1, h2⟩
      · rintro ⟨e', h1, h2, h3⟩
        rcases List.mem_cons.1 h1 with rfl | h1
        · exact absurd h2 hb
        · exact ⟨e', h1, h2, h3⟩

theorem masks_iff {ops : Array Oper} {masks : List Nat} (h : masksOk ops masks = true) {j : Nat} {o : Oper} (ho : ops[j]? = some o) :
    (∀ i, befM masks i j = true ↔ ∃ e ∈ o.after.toList, Region.binds .any e = true ∧ (e.on = i ∨ befM masks i e.on = true)) ∧ ∀ e ∈ o.after.toList, Region.binds .any e = true → e.on < ops.size := by
  simp only [masksOk, Bool.and_eq_true, List.all_eq_true, List.mem_range] at h
  have hj : j < ops.size := (Array.getElem?_eq_some_iff.1 ho).1
  have := h.2 j hj
  rw [ho] at this
  simp only [Bool.and_eq_true, beq_iff_eq, List.all_eq_true, Bool.or_eq_true, Bool.not_eq_true', decide_eq_true_eq] at this
  refine ⟨fun i => ?_, fun e he hb => ?_⟩
  · unfold befM
    rw [this.1]
    exact maskOf_bit masks i _
  · rcases this.2 e he with h1 | h1
    · rw [h1] at hb; cases hb
    · exact h1

theorem ready_iff {ops : Array Oper} {listed : Array Bool} {j : Nat} : j ∈ Region.ready .any ops listed ↔ ∃ o, ops[j]? = some o ∧ listed[j]? = some false ∧
    ∀ e ∈ o.after.toList, Region.binds .any e = true → listed[e.on]? = some true := by
  simp only [Region.ready, List.mem_filter, List.mem_range, Bool.and_eq_true, Bool.not_eq_true', Array.getD_eq_getD_getElem?]
  constructor
  · rintro ⟨h1, h2, h3⟩
    have ho : ops[j]? = some ops[j] := by simp [h1]
    rw [ho] at h3
    simp only [Option.map_some, Option.getD_some, Array.all_eq_true'] at h3
    refine ⟨_, ho, ?_, fun e he hb => ?_⟩
    · cases hl : listed[j]? with
      | none => rw [hl] at h2; simp at h2
      | some b => rw [hl] at h2; simp at h2; rw [h2]
    · have := h3 e (by simpa using he)
      rw [hb] at this
      simp only [Bool.not_true, Bool.false_or] at this
      cases hl : listed[e.on]? with
      | none => rw [hl] at this; simp at this
      | some b => rw [hl] at this; simp at this; rw [this]
  · rintro ⟨o, ho, h2, h3⟩
    refine ⟨(Array.getElem?_eq_some_iff.1 ho).1, by rw [h2]; rfl, ?_⟩
    rw [ho]
    simp only [Option.map_some, Option.getD_some, Array.all_eq_true']
    intro e he
    by_cases hb : Region.binds .any e = true
    · rw [h3 e (by simpa using he) hb]; simp
    · simp [hb]

section
variable {P : Program} {N : Nat} {w0 : World} {n : Nat}

theorem any_sound {ops : Array Oper} {masks : List Nat} (hmk : masksOk ops masks = true) {Q : Exit → Act → World → Prop} {K : Tm → Hp → Prop}
    (hK : ∀ tm tm' H, TE tm tm' → K tm H → K tm' H) : ∀ (fuel : Nat) (l : List (Nat × AOper)) (listed : Array Bool), l.length = fuel → listed.size = ops.size →
    (∀ q ∈ l, Ali P n ops q.1 q.2 ∧ listed[q.1]? = some false) → (∀ i, listed[i]? = some false → ∃ o, (i, o) ∈ l) → (∀ j, listed[j]? = some true → ∀ i, befM masks i j = true → listed[i]? = some true) →
    ((∀ q ∈ l, befM masks q.1 q.1 = false) ∧ l.Pairwise (fun p q => befM masks q.1 p.1 = false ∧ q.1 ≠ p.1 ∧ (befM masks p.1 q.1 = true ∨ compat p.2 q.2 = true))) →
    ∀ {μ : Mu} {H T : Hp} {tm : Tm} {a : Act} {w : World}, Cx P N w0 μ H T n tm a w → RWD P (befM masks) K l [] tm H → (∀ a' w', SK P N w0 n K μ H T a' w' → Q .normal a' w') →
    wpAny P .any ops Q fuel listed a w := by
  intro fuel
  induction fuel with
  | zero =>
    intro l listed hl hsz hA hB hD hC μ H T tm a w c hk hq
    have : l = [] := List.length_eq_zero_iff.1 hl
    subst this
    refine ⟨?_, hq a w ⟨tm, H, T, μ, hk, Mu.le_refl μ, Fr.refl _ _, c⟩⟩
    refine List.eq_nil_iff_forall_not_mem.2 fun j hj => ?_
    obtain ⟨o, _, h2, _⟩ := ready_iff.1 hj
    obtain ⟨o, ho⟩ := hB j h2
    cases ho
  | succ fuel ih =>
    intro l listed hl hsz hA hB hD hC μ H T tm a w c hk hq
    refine ⟨fun hr => ?_, fun j hj => ?_⟩
    · -- the first of the list is ready
      exfalso
      cases l with
      | nil => cases hl
      | cons q l =>
        obtain ⟨i0, x0⟩ := q
        obtain ⟨⟨⟨op, hop, _⟩, _⟩, hli⟩ := hA _ (List.mem_cons_self ..)
        have : i0 ∈ Region.ready .any ops listed := by
          refine ready_iff.2 ⟨op, hop, hli, fun e he hb => ?_⟩
          obtain ⟨hm1, hm2⟩ := masks_iff hmk hop
          have hbef : befM masks e.on i0 = true := (hm1 e.on).2 ⟨e, he, hb, .inl rfl⟩
          have hlt := hm2 e he hb
          have hx : listed[e.on]? = some listed[e.on] := by simp [hsz, hlt]
          cases hv : listed[e.on] with
          | true => rw [hx, hv]
          | false =>
            rw [hv] at hx
            obtain ⟨o, ho⟩ := hB _ hx
            rcases List.mem_cons.1 ho with h | h
            · cases h
              have := hC.1 _ (List.mem_cons_self ..)
              rw [hbef] at this; cases this
            · have := (List.pairwise_cons.1 hC.2).1 _ h
              rw [hbef] at this; cases this.1
        rw [hr] at this
        cases this
    · obtain ⟨o, ho, h2, h3⟩ := ready_iff.1 hj
      obtain ⟨y, hy⟩ := hB j h2
      obtain ⟨l1, l2, rfl⟩ := List.append_of_mem hy
      obtain ⟨hm1, _⟩ := masks_iff hmk ho
      have hnb : ∀ q ∈ l1 ++ (j, y) :: l2, befM masks q.1 j = false := by
        intro q hq'
        cases hbq : befM masks q.1 j with
        | false => rfl
        | true =>
          exfalso
          obtain ⟨e, he, hb, h4⟩ := (hm1 q.1).1 hbq
          have hl1 := h3 e he hb
          have hu := (hA q hq').2
          rcases h4 with h4 | h4
          · rw [h4, hu] at hl1; cases hl1
          · rw [hD _ hl1 _ h4] at hu; cases hu
      have hpw := List.pairwise_append.1 hC.2
      have hfr : ∀ q ∈ l1, befM masks q.1 j = false ∧ compat q.2 y = true := by
        intro q hq'
        have h5 := hnb q (List.mem_append_left _ hq')
        refine ⟨h5, ?_⟩
        have := (hpw.2.2 q hq' (j, y) (List.mem_cons_self ..)).2.2
        rcases this with h6 | h6
        · rw [h5] at h6; cases h6
        · exact h6
      have hk2 := rwd_cons.1 (frontD hK l1 hfr [] tm H (fun q hq' => by cases hq') hk)
      obtain ⟨⟨⟨op, hop, hco⟩, hd⟩, _⟩ := hA (j, y) hy
      refine oper_sound hop hco c hd (K := RWD P (befM masks) K (l1 ++ l2) []) ?_ fun a' w' hs => ?_
      · rcases stepD_cases hk2 with g | g
        · rw [stepD_off g] at hk2; rw [g]; exact hk2
        · rw [stepD_on g] at hk2; rw [g]
          obtain ⟨eff, he, h⟩ := hk2
          exact ⟨eff, he, effW_map (fun v H' h => rwd_rext hK _ _ _ _ _ _ (fun q hq' => by cases hq') (TE.refl _) h.2) h⟩
      · obtain ⟨tm', H', T', μ', hk', hle, hfr', c'⟩ := hs
        have hjs : j < listed.size := by rw [hsz]; exact (Array.getElem?_eq_some_iff.1 ho).1
        have hne : ∀ q ∈ l1 ++ l2, q.1 ≠ j := by
          intro q hq'
          rcases List.mem_append.1 hq' with h | h
          · exact Ne.symm (hpw.2.2 q h (j, y) (List.mem_cons_self ..)).2.1
          · exact ((List.pairwise_cons.1 hpw.2.1).1 q h).2.1
        have hsub : ∀ q ∈ l1 ++ l2, q ∈ l1 ++ (j, y) :: l2 := fun q hq' => by
          rcases List.mem_append.1 hq' with h | h
          · exact List.mem_append_left _ h
          · exact List.mem_append_right _ (List.mem_cons_of_mem _ h)
        refine ih (l1 ++ l2) _ ?_ (by simpa using hsz) (fun q hq' => ⟨(hA q (hsub q hq')).1, ?_⟩) (fun i hi => ?_) (fun k hk3 i hbi => ?_) ⟨fun q hq' => hC.1 q (hsub q hq'), ?_⟩ c' hk' fun a2 w2 h2 => hq a2 w2 ?_
        · simp only [List.length_append, List.length_cons] at hl ⊢; omega
        · rw [Array.getElem?_setIfInBounds_ne (Ne.symm (hne q hq'))]
          exact (hA q (hsub q hq')).2
        · have hij : i ≠ j := by
            intro e
            rw [e, Array.getElem?_setIfInBounds_self_of_lt hjs] at hi
            cases hi
          rw [Array.getElem?_setIfInBounds_ne (Ne.symm hij)] at hi
          obtain ⟨o2, ho2⟩ := hB i hi
          refine ⟨o2, ?_⟩
          rcases List.mem_append.1 ho2 with h | h
          · exact List.mem_append_left _ h
          · rcases List.mem_cons.1 h with h | h
            · cases h; exact absurd rfl hij
            · exact List.mem_append_right _ h
        · by_cases hij : i = j
          · rw [hij, Array.getElem?_setIfInBounds_self_of_lt hjs]
          · rw [Array.getElem?_setIfInBounds_ne (Ne.symm hij)]
            by_cases hkj : k = j
            · subst hkj
              obtain ⟨e, he, hb, h4⟩ := (hm1 i).1 hbi
              have hl1 := h3 e he hb
              rcases h4 with h4 | h4
              · rw [← h4]; exact hl1
              · exact hD _ hl1 _ h4
            · rw [Array.getElem?_setIfInBounds_ne (Ne.symm hkj)] at hk3
              exact hD k hk3 i hbi
        · exact hC.2.sublist (List.Sublist.append (List.Sublist.refl l1) (List.sublist_cons_self _ _))
        · obtain ⟨tm2, H2, T2, μ2, k2, hle2, hfr2, c2⟩ := h2
          exact ⟨tm2, H2, T2, μ2, k2, Mu.le_trans hle hle2, hfr'.trans hfr2, c2⟩

theorem cOrder_get {ops : Array Oper} : ∀ {order : List Nat} {l : List (Nat × AOper)}, cOrder P n ops order = some l → l.map (·.1) = order ∧ ∀ q ∈ l, Ali P n ops q.1 q.2 := by
  intro order
  induction order with
  | nil => intro l h; simp only [cOrder, Option.some.injEq] at h; subst h; exact ⟨rfl, fun q hq => by cases hq⟩
  | cons i order ih =>
    intro l h
    simp only [cOrder] at h
    split at h
    · rename_i o ho
      split at h
      · rename_i a m ha hm
        split at h
        · rename_i hd
          cases h
          obtain ⟨g1, g2⟩ := ih hm
          refine ⟨by simp [g1], fun q hq => ?_⟩
          rcases List.mem_cons.1 hq with rfl | hq
          · refine ⟨⟨o, ho, ha⟩, fun t ht => ?_⟩
            simp only at ht
            rw [ht] at hd
            simpa using hd
          · exact g2 q hq
        · cases h
      · cases h
    · cases h

theorem rwd_sound {μ : Mu} {H T : Hp} {tm : Tm} {a : Act} {w : World} {ops : Array Oper} {order masks : List Nat} {l : List (Nat × AOper)} (hl : cRegD P n ops order masks = some l) {Q : Exit → Act → World → Prop} {K : Tm → Hp → Prop}
    (hK : ∀ tm tm' H, (∀ t, tm.get t = tm'.get t) → K tm H → K tm' H) (c : Cx P N w0 μ H T n tm a w) (hk : RWD P (befM masks) K l [] tm H)
    (hq : ∀ a' w', SK P N w0 n K μ H T a' w' → Q .normal a' w') : wpAny P .any ops Q ops.size (Array.replicate ops.size false) a w := by
  unfold cRegD at hl
  split at hl
  · rename_i hh
    obtain ⟨hmk, hlen, hall⟩ := hh
    split at hl
    · rename_i l' hl'
      split at hl
      · rename_i hok
        cases hl
        obtain ⟨g1, g2⟩ := cOrder_get hl'
        have hlt : ∀ q ∈ l, q.1 < ops.size := fun q hq => by
          obtain ⟨⟨op, hop, _⟩, _⟩ := g2 q hq
          exact (Array.getElem?_eq_some_iff.1 hop).1
        refine any_sound hmk hK ops.size l _ ?_ (by simp) (fun q hq' => ⟨g2 q hq', by simp [hlt q hq']⟩) (fun i hi => ?_) (fun j hj => ?_) (regOk_iff hok) c hk hq
        · rw [← hlen, ← g1, List.length_map]
        · have hi' : i < ops.size := by
            simp only [Array.getElem?_replicate] at hi
            split at hi
            · assumption
            · cases hi
          have := hall i (List.mem_range.2 hi')
          rw [← g1] at this
          obtain ⟨q, h1, h2⟩ := List.mem_map.1 this
          exact ⟨q.2, by rw [← h2]; exact h1⟩
        · simp only [Array.getElem?_replicate] at hj
          split at hj <;> cases hj
      · cases hl
    · cases hl
  · cases hl

end
end Go.Ab
