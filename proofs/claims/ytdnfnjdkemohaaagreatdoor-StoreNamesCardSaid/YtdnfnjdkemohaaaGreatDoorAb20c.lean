/- The soundness of the one order. -/
import Derived.Test.YtdnfnjdkemohaaaGreatDoorAb20b
namespace Go.Ab

theorem effW_ex {P : Program} {eff : Eff} {dst : Option Nat} {K : Tm → Hp → Prop} {tm : Tm} {H : Hp} {op : AOp} (he : evalA H tm op = some eff) (h : effW P eff dst K tm H) (X : Hp) : ∃ v H', K (tm.put dst v) H' ∧ Avo H X H' := by
  cases eff with
  | val v => exact ⟨_, _, h, Avo.refl _ _⟩
  | new ob mk => obtain ⟨id, hid, hx⟩ := H.fresh2 X; exact ⟨_, _, h id hid, Avo.put_new _ hx⟩
  | wr id ob v => exact ⟨_, _, h, Avo.put_old _ (evalA_wr he)⟩
  | app er ob mk => obtain ⟨id, hid, hx⟩ := H.fresh2 X; exact ⟨_, _, h id hid, (Avo.eraO er).trans (Avo.put_new _ hx)⟩
  | call f args => obtain ⟨v, H', h', a⟩ := h.2.1 X; exact ⟨_, _, h', a⟩


abbrev Pend := List (Nat × (Hp → Prop))

/-- The second asks no more than the first. -/
def PW (p p' : Pend) : Prop := ∀ q' ∈ p', ∃ q ∈ p, q.1 = q'.1 ∧ ∀ H, q.2 H → q'.2 H
def PMono (p : Pend) : Prop := ∀ q ∈ p, ∀ H H' : Hp, H.sub H' → q.2 H → q.2 H'
def TE (tm tm' : Tm) : Prop := ∀ t, tm.get t = tm'.get t
def chk (bef : Nat → Nat → Bool) (i : Nat) (p : Pend) (H : Hp) : Prop := ∀ q ∈ p, bef q.1 i = false → q.2 H

theorem PW.refl (p : Pend) : PW p p := fun q h => ⟨q, h, rfl, fun _ h => h⟩
theorem PW.cons {p p' : Pend} (h : PW p p') (i : Nat) {q q' : Hp → Prop} (hq : ∀ H, q H → q' H) : PW ((i, q) :: p) ((i, q') :: p') := by
  intro r hr
  rcases List.mem_cons.1 hr with rfl | hr
  · exact ⟨_, List.mem_cons_self .., rfl, hq⟩
  · obtain ⟨s, h1, h2⟩ := h r hr
    exact ⟨s, List.mem_cons_of_mem _ h1, h2⟩
theorem PW.drop {p p' : Pend} (h : PW p p') (r : Nat × (Hp → Prop)) : PW (r :: p) p' := fun q hq =>
  let ⟨s, h1, h2⟩ := h q hq
  ⟨s, List.mem_cons_of_mem _ h1, h2⟩
theorem PW.swap {p p' : Pend} (h : PW p p') (i j : Nat) {q q' r r' : Hp → Prop} (hq : ∀ H, q H → q' H) (hr : ∀ H, r H → r' H) : PW ((i, q) :: (j, r) :: p) ((j, r') :: (i, q') :: p') := by
  intro s hs
  rcases List.mem_cons.1 hs with rfl | hs
  · exact ⟨_, List.mem_cons_of_mem _ (List.mem_cons_self ..), rfl, hr⟩
  · rcases List.mem_cons.1 hs with rfl | hs
    · exact ⟨_, List.mem_cons_self .., rfl, hq⟩
    · obtain ⟨t, h1, h2⟩ := h s hs
      exact ⟨t, List.mem_cons_of_mem _ (List.mem_cons_of_mem _ h1), h2⟩
theorem PW.chk {bef : Nat → Nat → Bool} {i : Nat} {p p' : Pend} {H : Hp} (h : PW p p') (hc : Ab.chk bef i p H) : Ab.chk bef i p' H := fun q' hq' hb =>
  let ⟨q, h1, h2, h3⟩ := h q' hq'
  h3 H (hc q h1 (by rw [h2]; exact hb))

theorem TE.refl (tm : Tm) : TE tm tm := fun _ => rfl
theorem TE.put {tm tm' : Tm} (h : TE tm tm') (d : Option Nat) (v : Value) : TE (tm.put d v) (tm'.put d v) := by
  intro t
  cases d with
  | none => exact h t
  | some d => simp only [Tm.put, Tm.get, h t]
theorem TE.swap (tm : Tm) {d e : Option Nat} (v u : Value) (hne : ∀ t, d = some t → e ≠ some t) : TE ((tm.put d v).put e u) ((tm.put e u).put d v) := by
  intro t
  cases d with
  | none => rfl
  | some d =>
    cases e with
    | none => rfl
    | some e =>
      have : e ≠ d := fun h => hne d rfl (by rw [h])
      simp only [Tm.put, Tm.get]
      by_cases h1 : t = e
      · rw [if_pos h1, if_neg (by rw [h1]; exact this), if_pos h1]
      · rw [if_neg h1]
        by_cases h2 : t = d
        · rw [if_pos h2, if_pos h2]
        · rw [if_neg h2, if_neg h2, if_neg h1]

theorem TE.aev {tm tm' : Tm} (h : TE tm tm') (H : Hp) (x : AOpr) : Ab.aev H tm x = Ab.aev H tm' x := by
  cases x with
  | tmp t => exact h t
  | con v => rfl
  | glob g => rfl

theorem TE.guard {tm tm' : Tm} (h : TE tm tm') (g : Option (Nat × Bool)) : guardA tm g = guardA tm' g := by
  cases g with
  | none => rfl
  | some g => obtain ⟨t, b⟩ := g; simp only [guardA, h t]

theorem effW_map {P : Program} {eff : Eff} {d : Option Nat} {K K' : Tm → Hp → Prop} {tm tm' : Tm} {H : Hp} (hk : ∀ v H', K (tm.put d v) H' → K' (tm'.put d v) H') (h : effW P eff d K tm H) : effW P eff d K' tm' H := by
  cases eff with
  | val v => exact hk _ _ h
  | new ob mk => exact fun id hid => hk _ _ (h id hid)
  | wr id ob v => exact hk _ _ h
  | app er ob mk => exact fun id hid => hk _ _ (h id hid)
  | call f args => exact Tri.mono h fun v H' => hk v H'

theorem Hp.sub_new {H : Hp} {id : Nat} (ob : Ob) (h : H id = none) : H.sub (H.put id ob) := by
  intro i o e
  rw [Hp.put_ne]
  · exact e
  · intro hi; rw [hi, h] at e; cases e

/-- What does not write leaves what is there. -/
theorem effW_light {P : Program} {eff : Eff} {d : Option Nat} {K K' : Tm → Hp → Prop} {tm tm' : Tm} {H : Hp} (hl : (∃ v, eff = .val v) ∨ ∃ ob mk, eff = .new ob mk)
    (hk : ∀ v H', H.sub H' → K (tm.put d v) H' → K' (tm'.put d v) H') (h : effW P eff d K tm H) : effW P eff d K' tm' H := by
  rcases hl with ⟨v, rfl⟩ | ⟨ob, mk, rfl⟩
  · exact hk _ _ (Hp.sub_refl H) h
  · exact fun id hid => hk _ _ (Hp.sub_new ob hid) (h id hid)

theorem Tri.frame {P : Program} {f : FuncId} {args : List Value} {H : Hp} {Q : Value → Hp → Prop} (h : Tri P f args H Q) {id : Nat} (hid : H id = none) (ob : Ob) :
    Tri P f args (H.put id ob) fun v H'' => ∃ H0, Q v H0 ∧ H0 id = none ∧ H'' = H0.put id ob := by
  refine ⟨h.1, fun X => ?_, fun N w0 μ T w args' hG hs hsim hv => (h.2.2 N w0 μ T w args' hG (Hp.sub_trans (Hp.sub_new ob hid) hs) hsim hv).mono fun e w' he => ?_⟩
  · obtain ⟨v, H0, hq, ha⟩ := h.2.1 (X.put id ob)
    have h0 : H0 id = none := ha id (by rw [Hp.put_same]; exact fun e => by cases e) hid
    refine ⟨v, _, ⟨H0, hq, h0, rfl⟩, fun i a b => ?_⟩
    have hne : i ≠ id := fun e => by rw [e, Hp.put_same] at b; cases b
    rw [Hp.put_ne _ _ hne] at b ⊢
    exact ha i (by rw [Hp.put_ne _ _ hne]; exact a) b
  · obtain ⟨v, v', H', T', μ', e1, hq, hle, hsub, hfr, hsim', hvr⟩ := he
    have hT : T id = some ob := hs id ob (Hp.put_same _ _ _)
    obtain ⟨hT', h0⟩ := hfr id ob hT hid
    refine ⟨v, v', H'.put id ob, T', μ', e1, ⟨H', hq, h0, rfl⟩, hle, fun i o e => ?_, fun i o a b => ?_, hsim', hvr⟩
    · by_cases hi : i = id
      · subst hi; rw [Hp.put_same] at e; cases e; exact hT'
      · rw [Hp.put_ne _ _ hi] at e; exact hsub i o e
    · have hne : i ≠ id := fun e => by rw [e, Hp.put_same] at b; cases b
      rw [Hp.put_ne _ _ hne] at b ⊢
      exact hfr i o a b

theorem put_comm {H : Hp} {i j : Nat} (a b : Ob) (h : i ≠ j) : (H.put i a).put j b = (H.put j b).put i a := by
  refine Hp.ext' fun k => ?_
  simp only [Hp.put_get]
  by_cases h1 : k = j
  · rw [if_pos h1, if_neg (by omega), if_pos h1]
  · rw [if_neg h1, if_neg h1]

/-- Beside an object that is not looked at. -/
theorem effW_frame {P : Program} {eff : Eff} {op : AOp} {d : Option Nat} {K K' : Tm → Hp → Prop} {tm tm' : Tm} {H : Hp} {id : Nat} {ob : Ob} (he : evalA H tm op = some eff) (hid : H id = none)
    (hk : ∀ v H', H' id = none → K (tm.put d v) H' → K' (tm'.put d v) (H'.put id ob)) (h : effW P eff d K tm H) : effW P eff d K' tm' (H.put id ob) := by
  cases eff with
  | val v => exact hk _ _ hid h
  | new o mk =>
    intro i hi
    have hne : i ≠ id := fun e => by rw [e, Hp.put_same] at hi; cases hi
    rw [Hp.put_ne _ _ hne] at hi
    have := hk _ _ (by rw [Hp.put_ne _ _ (Ne.symm hne)]; exact hid) (h i hi)
    rw [put_comm _ _ hne] at this
    exact this
  | wr i o v =>
    have hne : i ≠ id := fun e => by have := evalA_wr he; rw [e] at this; exact this hid
    have := hk _ _ (by rw [Hp.put_ne _ _ (Ne.symm hne)]; exact hid) h
    rw [put_comm _ _ hne] at this
    exact this
  | app er o mk =>
    intro i hi
    have hne : i ≠ id := fun e => by rw [e, Hp.put_same] at hi; cases hi
    rw [Hp.put_ne _ _ hne] at hi
    have he0 : eraO H er id = none := by cases er with
      | none => exact hid
      | some j => simp only [eraO, Hp.era_get]; split <;> first | rfl | exact hid
    have hee : eraO (H.put id ob) er = (eraO H er).put id ob := by
      cases er with
      | none => rfl
      | some j =>
        have hj : j ≠ id := fun e => by have := evalA_app he; rw [e] at this; exact this hid
        refine Hp.ext' fun k => ?_
        simp only [eraO, Hp.era_get, Hp.put_get]
        by_cases h1 : k = id
        · rw [if_pos h1, if_neg (by omega), if_pos h1]
        · rw [if_neg h1, if_neg h1]
    have := hk _ _ (by rw [Hp.put_ne _ _ (Ne.symm hne)]; exact he0) (h i hi)
    rw [put_comm _ _ hne, ← hee] at this
    exact this
  | call f args =>
    exact Tri.mono (Tri.frame h hid ob) fun v H'' ⟨H0, hq, h0, e⟩ => by subst e; exact hk v H0 h0 hq

theorem eff_light {H : Hp} {tm : Tm} {op : AOp} {eff : Eff} (h1 : isHeavy op = false) (h2 : isAlloc op = false) (h : evalA H tm op = some eff) : ∃ v, eff = .val v := by
  cases op <;> simp only [evalA] at h <;> (repeat' (split at h)) <;> first
    | (cases h1; done)
    | (cases h2; done)
    | (cases h; done)
    | (cases h; exact ⟨_, rfl⟩)

theorem eff_alloc {H : Hp} {tm : Tm} {op : AOp} {eff : Eff} (h2 : isAlloc op = true) (h : evalA H tm op = some eff) : ∃ ob mk, eff = .new ob mk := by
  cases op <;> simp only [evalA] at h <;> (repeat' (split at h)) <;> first
    | (cases h2; done)
    | (cases h; done)
    | (cases h; exact ⟨_, _, rfl⟩)

theorem alloc_light {op : AOp} (h : isAlloc op = true) : isHeavy op = false := by
  cases op <;> first | rfl | cases h

theorem alloc_noload {op : AOp} (h : isAlloc op = true) (hg : (oprs op).any AOpr.isGlob = false) : isLoad op = false := by
  cases op <;> simp only [isLoad, hg, Bool.and_false, Bool.or_false] <;> cases h

theorem looks_put {y : AOper} {d : Option Nat} {v : Value} {tm : Tm} {H : Hp} (h : ∀ t, d = some t → looks y t = false) :
    (∀ x ∈ oprs y.op, aev H (tm.put d v) x = aev H tm x) ∧ guardA (tm.put d v) y.guard = guardA tm y.guard := by
  cases d with
  | none => exact ⟨fun _ _ => rfl, rfl⟩
  | some t =>
    have h := h t rfl
    simp only [looks, Bool.or_eq_false_iff] at h
    obtain ⟨h1, h2⟩ := h
    constructor
    · intro x hx
      have := List.any_eq_false.1 h1 x hx
      cases x with
      | tmp u =>
        simp only [AOpr.isTmp, beq_iff_eq, Tm.put, aev, Tm.get] at this ⊢
        rw [if_neg this]
      | con c => rfl
      | glob g => rfl
    · cases hg : y.guard with
      | none => rfl
      | some g =>
        obtain ⟨u, b⟩ := g
        rw [hg] at h2
        simp only [beq_eq_false_iff_ne, ne_eq] at h2
        simp only [guardA, Tm.put, Tm.get, if_neg h2]

abbrev RD := Pend → Tm → Hp → Prop

def RExt (R : RD) : Prop := ∀ p p' tm tm' H, PW p p' → TE tm tm' → R p tm H → R p' tm' H

/-- What is to be asked again behind an operation. -/
def ext (i : Nat) (o : AOper) (eff : Eff) (p : Pend) (tm : Tm) : Pend :=
  if isHeavy o.op = false ∧ isLoad o.op = true then (i, fun H' => evalA H' tm o.op = some eff) :: p else p

def after (bef : Nat → Nat → Bool) (R : RD) (i : Nat) (o : AOper) (eff : Eff) (p : Pend) (tm : Tm) (tm' : Tm) (H' : Hp) : Prop :=
  (isHeavy o.op = true → chk bef i p H') ∧ R (ext i o eff p tm) tm' H'

/-- One operation ahead of R. -/
def stepD (P : Program) (bef : Nat → Nat → Bool) (R : RD) (i : Nat) (o : AOper) : RD := fun pend tm H =>
  match guardA tm o.guard with
  | some false => R pend (tm.put o.dst undef) H
  | some true => ∃ eff, evalA H tm o.op = some eff ∧ effW P eff o.dst (after bef R i o eff pend tm) tm H
  | none => False

theorem rwd_cons {P : Program} {bef : Nat → Nat → Bool} {K : Tm → Hp → Prop} {i : Nat} {o : AOper} {l : List (Nat × AOper)} {p : Pend} {tm : Tm} {H : Hp} :
    RWD P bef K ((i, o) :: l) p tm H ↔ stepD P bef (RWD P bef K l) i o p tm H := by
  rcases hg : guardA tm o.guard with _ | (_ | _)
  · simp only [RWD, stepD, hg]
  · simp only [RWD, stepD, hg]
  · simp only [RWD, stepD, hg]
    refine exists_congr fun eff => and_congr_right fun _ => ?_
    by_cases h1 : isHeavy o.op = true
    · have he : ∀ p tm, ext i o eff p tm = p := fun p tm => by simp [ext, h1]
      rw [if_pos h1]
      constructor <;> refine effW_map fun v H' => ?_
      · rintro ⟨a, b⟩; exact ⟨fun _ => a, by rw [he]; exact b⟩
      · rintro ⟨a, b⟩; rw [he] at b; exact ⟨a h1, b⟩
    · rw [if_neg h1]
      have h1' : isHeavy o.op = false := by simpa using h1
      by_cases h2 : isLoad o.op = true
      · have he : ∀ p tm, ext i o eff p tm = (i, fun H' => evalA H' tm o.op = some eff) :: p := fun p tm => by simp [ext, h1', h2]
        rw [if_pos h2]
        constructor <;> refine effW_map fun v H' => ?_
        · intro b; exact ⟨fun h => absurd h h1, by rw [he]; exact b⟩
        · rintro ⟨a, b⟩; rw [he] at b; exact b
      · have he : ∀ p tm, ext i o eff p tm = p := fun p tm => by simp [ext, h2]
        rw [if_neg h2]
        constructor <;> refine effW_map fun v H' => ?_
        · intro b; exact ⟨fun h => absurd h h1, by rw [he]; exact b⟩
        · rintro ⟨a, b⟩; rw [he] at b; exact b

section
variable {P : Program} {bef : Nat → Nat → Bool} {R : RD} {p : Pend} {tm : Tm} {H : Hp} {i : Nat} {o : AOper}

theorem PW.ext {p p' : Pend} (hp : PW p p') {tm tm' : Tm} {eff : Eff} (h : ∀ H', evalA H' tm o.op = evalA H' tm' o.op) : PW (ext i o eff p tm) (ext i o eff p' tm') := by
  unfold Ab.ext
  split
  · exact hp.cons i fun H' e => by rw [← h]; exact e
  · exact hp

theorem PMono.ext {p : Pend} (hp : PMono p) (eff : Eff) (tm : Tm) : PMono (ext i o eff p tm) := by
  unfold Ab.ext
  split
  · intro q hq
    rcases List.mem_cons.1 hq with rfl | hq
    · exact fun H H' hs e => evalA_mono hs e
    · exact hp q hq
  · exact hp

theorem stepD_ext (hR : RExt R) : RExt (stepD P bef R i o) := by
  intro p p' tm tm' H hp ht h
  have hop : ∀ H', evalA H' tm o.op = evalA H' tm' o.op := fun H' => evalA_congr fun x _ => ht.aev H' x
  unfold stepD at h ⊢
  rw [← ht.guard]
  split at h
  · exact hR _ _ _ _ _ hp (ht.put _ _) h
  · obtain ⟨eff, he, h⟩ := h
    refine ⟨eff, by rw [← hop]; exact he, ?_⟩
    exact effW_map (fun v H' h => ⟨fun hh => hp.chk (h.1 hh), hR _ _ _ _ _ (hp.ext hop) (ht.put _ _) h.2⟩) h
  · exact h.elim

theorem stepD_mono {R' : RD} (hr : ∀ p tm H, PMono p → R p tm H → R' p tm H) (hp : PMono p) (h : stepD P bef R i o p tm H) : stepD P bef R' i o p tm H := by
  unfold stepD at h ⊢
  split at h
  · exact hr _ _ _ hp h
  · obtain ⟨eff, he, h⟩ := h
    exact ⟨eff, he, effW_map (fun v H' h => ⟨h.1, hr _ _ _ (hp.ext eff tm) h.2⟩) h⟩
  · exact h.elim

theorem stepD_off (hg : guardA tm o.guard = some false) : stepD P bef R i o p tm H ↔ R p (tm.put o.dst undef) H := by
  unfold stepD; rw [hg]

theorem stepD_on (hg : guardA tm o.guard = some true) : stepD P bef R i o p tm H ↔ ∃ eff, evalA H tm o.op = some eff ∧ effW P eff o.dst (after bef R i o eff p tm) tm H := by
  unfold stepD; rw [hg]

theorem stepD_cases (h : stepD P bef R i o p tm H) : guardA tm o.guard = some false ∨ guardA tm o.guard = some true := by
  unfold stepD at h
  split at h
  · rename_i hg; exact .inl hg
  · rename_i hg; exact .inr hg
  · exact h.elim

theorem run_val {v : Value} : effW P (.val v) o.dst (after bef R i o (.val v) p tm) tm H ↔ after bef R i o (.val v) p tm (tm.put o.dst v) H := Iff.rfl

/-- Two neighbours change places. -/
theorem swapD (hR : RExt R) {ix iy : Nat} {x y : AOper} (hc : compat x y = true) (hb : bef ix iy = false) (hp : PMono p) (h : stepD P bef (stepD P bef R iy y) ix x p tm H) :
    stepD P bef (stepD P bef R ix x) iy y p tm H := by
  -- the two do not look at each other
  simp only [compat, Bool.and_eq_true, Bool.not_eq_true', Bool.and_eq_false_iff, Bool.or_eq_false_iff] at hc
  obtain ⟨⟨⟨⟨⟨c1, c2⟩, c3⟩, c4⟩, c5⟩, c6⟩ := hc
  have lx : ∀ t, x.dst = some t → looks y t = false ∧ y.dst ≠ some t := by
    intro t ht
    rw [ht] at c1
    simpa using c1
  have ly : ∀ t, y.dst = some t → looks x t = false := by
    intro t ht
    rw [ht] at c2
    simpa using c2
  have yo : ∀ (H' : Hp) (v : Value), evalA H' (tm.put x.dst v) y.op = evalA H' tm y.op := fun H' v => evalA_congr (looks_put (H := H') fun t ht => (lx t ht).1).1
  have yg : ∀ v : Value, guardA (tm.put x.dst v) y.guard = guardA tm y.guard := fun v => (looks_put (H := H) fun t ht => (lx t ht).1).2
  have xo : ∀ (H' : Hp) (v : Value), evalA H' (tm.put y.dst v) x.op = evalA H' tm x.op := fun H' v => evalA_congr (looks_put (H := H') ly).1
  have xg : ∀ v : Value, guardA (tm.put y.dst v) x.guard = guardA tm x.guard := fun v => (looks_put (H := H) ly).2
  have sw : ∀ v u : Value, TE ((tm.put x.dst v).put y.dst u) ((tm.put y.dst u).put x.dst v) := fun v u => TE.swap tm v u fun t ht => (lx t ht).2
  rcases stepD_cases h with gx | gx
  · -- x is passed over
    rw [stepD_off gx] at h
    rcases stepD_cases h with gy | gy
    · rw [stepD_off gy] at h
      rw [yg] at gy
      rw [stepD_off gy, stepD_off ((xg _).trans gx)]
      exact hR _ _ _ _ _ (PW.refl p) (sw _ _) h
    · rw [stepD_on gy] at h
      rw [yg] at gy
      obtain ⟨eff, he, h⟩ := h
      rw [stepD_on gy]
      refine ⟨eff, by rw [← yo]; exact he, effW_map (fun v H' h => ⟨h.1, ?_⟩) h⟩
      rw [stepD_off ((xg _).trans gx)]
      exact hR _ _ _ _ _ (PW.ext (PW.refl p) fun H' => yo H' _) (sw _ _) h.2
  · rw [stepD_on gx] at h
    obtain ⟨ex, hx, h⟩ := h
    -- that y's guard is known
    obtain ⟨v0, H0, ⟨k0, h0⟩, _⟩ := effW_ex hx h H
    by_cases hxh : isHeavy x.op = true
    · have hxe : ∀ (e : Eff) (p : Pend) (t : Tm), ext ix x e p t = p := fun e p t => by simp [ext, hxh]
      have hyh : isHeavy y.op = false ∧ isLoad y.op = false := by
        rcases c3 with c3 | c3
        · rw [hxh] at c3; cases c3
        · exact c3
      have hye : ∀ (e : Eff) (p : Pend) (t : Tm), ext iy y e p t = p := fun e p t => by simp [ext, hyh.2]
      rcases stepD_cases h0 with gy | gy
      · rw [yg] at gy
        rw [stepD_off gy, stepD_on ((xg _).trans gx)]
        refine ⟨ex, by rw [xo]; exact hx, effW_map (fun v H' h => ⟨h.1, ?_⟩) h⟩
        have h2 := h.2
        rw [stepD_off ((yg _).trans gy), hxe] at h2
        rw [hxe]
        exact hR _ _ _ _ _ (PW.refl p) (sw _ _) h2
      · rw [stepD_on gy] at h0
        obtain ⟨ey, hy, h0⟩ := h0
        rw [yg] at gy
        have hpure : ∀ (H1 H2 : Hp) (v : Value), evalA H1 (tm.put x.dst v) y.op = evalA H2 tm y.op := fun H1 H2 v => by
          rw [yo]
          by_cases ha : isAlloc y.op = true
          · refine evalA_pure hyh.1 hyh.2 fun z hz => ?_
            cases z with
            | tmp t => rfl
            | con c => rfl
            | glob g =>
              exfalso
              have hl := hyh.2
              simp only [isLoad, hyh.1, Bool.not_false, Bool.true_and, Bool.or_eq_false_iff] at hl
              have := List.any_eq_false.1 hl.2 _ hz
              exact this rfl
          · refine evalA_pure hyh.1 hyh.2 fun z hz => ?_
            cases z with
            | tmp t => rfl
            | con c => rfl
            | glob g =>
              exfalso
              have hl := hyh.2
              simp only [isLoad, hyh.1, Bool.not_false, Bool.true_and, Bool.or_eq_false_iff] at hl
              have := List.any_eq_false.1 hl.2 _ hz
              exact this rfl
        rw [hpure _ H] at hy
        rw [stepD_on gy]
        refine ⟨ey, hy, ?_⟩
        by_cases ha : isAlloc y.op = true
        · obtain ⟨ob, mk, rfl⟩ := eff_alloc ha hy
          intro id hid
          refine ⟨fun hh => (by rw [hyh.1] at hh; cases hh), ?_⟩
          rw [stepD_on ((xg _).trans gx), hye]
          refine ⟨ex, by rw [xo]; exact evalA_mono (Hp.sub_new ob hid) hx, ?_⟩
          refine effW_frame hx hid (fun v H' hn h => ?_) h
          obtain ⟨h1, h2⟩ := h
          refine ⟨fun hh q hq hbq => hp q hq _ _ (Hp.sub_new ob hn) (h1 hh q hq hbq), ?_⟩
          rw [stepD_on ((yg _).trans gy), hxe] at h2
          obtain ⟨e2, g1, g2⟩ := h2
          rw [hpure _ H, hy] at g1
          cases g1
          have g3 := (g2 id hn).2
          rw [hye] at g3
          rw [hxe]
          exact hR _ _ _ _ _ (PW.refl p) (sw _ _) g3
        · obtain ⟨u, rfl⟩ := eff_light hyh.1 (by simpa using ha) hy
          refine ⟨fun hh => (by rw [hyh.1] at hh; cases hh), ?_⟩
          rw [stepD_on ((xg _).trans gx), hye]
          refine ⟨ex, by rw [xo]; exact hx, effW_map (fun v H' h => ⟨h.1, ?_⟩) h⟩
          obtain ⟨h1, h2⟩ := h
          rw [stepD_on ((yg _).trans gy), hxe] at h2
          obtain ⟨e2, g1, g2⟩ := h2
          rw [hpure _ H, hy] at g1
          cases g1
          have g3 := g2.2
          rw [hye] at g3
          rw [hxe]
          exact hR _ _ _ _ _ (PW.refl p) (sw _ _) g3
    · have hxh' : isHeavy x.op = false := by simpa using hxh
      by_cases hxa : isAlloc x.op = true
      · have hgx : (oprs x.op).any AOpr.isGlob = false := by
          rcases c5 with c5 | c5
          · rw [hxa] at c5; cases c5
          · exact c5
        have hxl := alloc_noload hxa hgx
        have hxe : ∀ (e : Eff) (p : Pend) (t : Tm), ext ix x e p t = p := fun e p t => by simp [ext, hxl]
        have hyh : isHeavy y.op = false ∧ isLoad y.op = false := by
          rcases c4 with c4 | c4
          · rw [hxa] at c4; cases c4
          · exact c4
        have hye : ∀ (e : Eff) (p : Pend) (t : Tm), ext iy y e p t = p := fun e p t => by simp [ext, hyh.2]
        have noglob : ∀ {o : AOper}, isHeavy o.op = false → isLoad o.op = false → ∀ (H1 H2 : Hp) (t : Tm), evalA H1 t o.op = evalA H2 t o.op := by
          intro o h1 h2 H1 H2 t
          refine evalA_pure h1 h2 fun z hz => ?_
          cases z with
          | tmp t => rfl
          | con c => rfl
          | glob g =>
            exfalso
            have hl := h2
            simp only [isLoad, h1, Bool.not_false, Bool.true_and, Bool.or_eq_false_iff] at hl
            have := List.any_eq_false.1 hl.2 _ hz
            exact this rfl
        obtain ⟨ob, mk, rfl⟩ := eff_alloc hxa hx
        rcases stepD_cases h0 with gy | gy
        · rw [yg] at gy
          rw [stepD_off gy, stepD_on ((xg _).trans gx)]
          refine ⟨_, by rw [xo]; exact hx, effW_map (fun v H' h => ⟨h.1, ?_⟩) h⟩
          have h2 := h.2
          rw [stepD_off ((yg _).trans gy), hxe] at h2
          rw [hxe]
          exact hR _ _ _ _ _ (PW.refl p) (sw _ _) h2
        · rw [stepD_on gy] at h0
          obtain ⟨ey, hy, h0⟩ := h0
          rw [yg] at gy
          rw [yo, noglob hyh.1 hyh.2 H0 H] at hy
          rw [stepD_on gy]
          refine ⟨ey, hy, ?_⟩
          by_cases ha : isAlloc y.op = true
          · obtain ⟨ob2, mk2, rfl⟩ := eff_alloc ha hy
            intro id2 hid2
            refine ⟨fun hh => (by rw [hyh.1] at hh; cases hh), ?_⟩
            rw [stepD_on ((xg _).trans gx), hye]
            refine ⟨.new ob mk, (by rw [xo, noglob hxh' hxl _ H]; exact hx), fun id hid => ?_⟩
            have hne : id ≠ id2 := fun e => by rw [e, Hp.put_same] at hid; cases hid
            rw [Hp.put_ne _ _ hne] at hid
            obtain ⟨h1, h2⟩ := h id hid
            refine ⟨fun hh => absurd hh hxh, ?_⟩
            rw [stepD_on ((yg _).trans gy), hxe] at h2
            obtain ⟨e2, g1, g2⟩ := h2
            rw [yo, noglob hyh.1 hyh.2 _ H, hy] at g1
            cases g1
            have g3 := (g2 id2 (by rw [Hp.put_ne _ _ (Ne.symm hne)]; exact hid2)).2
            rw [hye] at g3
            rw [hxe, ← put_comm _ _ hne]
            exact hR _ _ _ _ _ (PW.refl p) (sw _ _) g3
          · obtain ⟨u, rfl⟩ := eff_light hyh.1 (by simpa using ha) hy
            refine ⟨fun hh => (by rw [hyh.1] at hh; cases hh), ?_⟩
            rw [stepD_on ((xg _).trans gx), hye]
            refine ⟨.new ob mk, (by rw [xo]; exact hx), fun id hid => ?_⟩
            obtain ⟨h1, h2⟩ := h id hid
            refine ⟨fun hh => absurd hh hxh, ?_⟩
            rw [stepD_on ((yg _).trans gy), hxe] at h2
            obtain ⟨e2, g1, g2⟩ := h2
            rw [yo, noglob hyh.1 hyh.2 _ H, hy] at g1
            cases g1
            have g3 := g2.2
            rw [hye] at g3
            rw [hxe]
            exact hR _ _ _ _ _ (PW.refl p) (sw _ _) g3
      · obtain ⟨vx, rfl⟩ := eff_light hxh' (by simpa using hxa) hx
        obtain ⟨_, h⟩ := h
        clear k0 h0
        rcases stepD_cases h with gy | gy
        · rw [stepD_off gy] at h
          rw [yg] at gy
          rw [stepD_off gy, stepD_on ((xg _).trans gx)]
          refine ⟨.val vx, by rw [xo]; exact hx, fun hh => absurd hh hxh, ?_⟩
          exact hR _ _ _ _ _ (PW.ext (PW.refl p) fun H' => (xo H' _).symm) (sw _ _) h
        · rw [stepD_on gy] at h
          obtain ⟨ey, hy, h⟩ := h
          rw [yg] at gy
          rw [yo] at hy
          rw [stepD_on gy]
          refine ⟨ey, hy, ?_⟩
          -- what is left behind y
          have fin : ∀ (v : Value) (H' : Hp), evalA H' tm x.op = some (.val vx) → (isHeavy y.op = true → chk bef iy p H') →
              R (ext iy y ey (ext ix x (.val vx) p tm) (tm.put x.dst vx)) ((tm.put x.dst vx).put y.dst v) H' → after bef (stepD P bef R ix x) iy y ey p tm (tm.put y.dst v) H' := by
            intro v H' hxv hck hr
            refine ⟨hck, ?_⟩
            rw [stepD_on ((xg _).trans gx)]
            refine ⟨.val vx, by rw [xo]; exact hxv, fun hh => absurd hh hxh, ?_⟩
            refine hR _ _ _ _ _ ?_ (sw _ _) hr
            unfold ext
            by_cases hxl : isLoad x.op = true
            · simp only [hxh', hxl, and_self, if_true]
              by_cases hyl : isHeavy y.op = false ∧ isLoad y.op = true
              · simp only [hyl, and_self, if_true]
                exact PW.swap (PW.refl p) iy ix (fun H' e => by rw [← yo]; exact e) (fun H' e => by rw [xo]; exact e)
              · simp only [hyl, if_false]
                exact PW.cons (PW.refl p) ix (fun H' e => by rw [xo]; exact e)
            · simp only [hxl, and_false, if_false, Bool.false_eq_true]
              by_cases hyl : isHeavy y.op = false ∧ isLoad y.op = true
              · simp only [hyl, and_self, if_true]
                exact PW.cons (PW.refl p) iy (fun H' e => by rw [← yo]; exact e)
              · simp only [hyl, if_false]
                exact PW.refl p
          by_cases hyh : isHeavy y.op = true
          · refine effW_map (fun v H' h => ?_) h
            obtain ⟨h1, h2⟩ := h
            have h1 := h1 hyh
            refine fin v H' ?_ (fun _ q hq => h1 q ?_) h2
            · by_cases hxl : isLoad x.op = true
              · exact h1 (ix, fun H' => evalA H' tm x.op = some (.val vx)) (by simp [ext, hxh', hxl]) hb
              · rw [evalA_pure hxh' (by simpa using hxl) (H' := H) (tm' := tm)]
                · exact hx
                · intro z hz
                  cases z with
                  | tmp t => rfl
                  | con c => rfl
                  | glob g =>
                    exfalso
                    have hl : isLoad x.op = false := by simpa using hxl
                    simp only [isLoad, hxh', Bool.not_false, Bool.true_and, Bool.or_eq_false_iff] at hl
                    exact List.any_eq_false.1 hl.2 _ hz rfl
            · unfold ext; split
              · exact List.mem_cons_of_mem _ hq
              · exact hq
          · have hyh' : isHeavy y.op = false := by simpa using hyh
            have hlt : (∃ v, ey = .val v) ∨ ∃ ob mk, ey = .new ob mk := by
              by_cases ha : isAlloc y.op = true
              · exact .inr (eff_alloc ha hy)
              · exact .inl (eff_light hyh' (by simpa using ha) hy)
            exact effW_light hlt (fun v H' hs h => fin v H' (evalA_mono hs hx) (fun hh => absurd hh hyh) h.2) h

end
end Go.Ab
