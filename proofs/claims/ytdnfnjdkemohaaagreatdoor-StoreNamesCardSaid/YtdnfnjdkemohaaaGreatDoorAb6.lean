/- The light operations, the rest: nil tests, structs compared, conversions, slices of slices, lengths, maps that are asked, the library's bodies that the model answers. -/
import Derived.Test.YtdnfnjdkemohaaaGreatDoorAb5
import Derived.MapKept
namespace Go.Ab

section
variable {P : Program} {N : Nat} {w0 : World} {μ : Mu} {H T : Hp} {n : Nat} {tm : Tm} {a : Act} {w : World} {o : Oper}

theorem nilT_vr {kd : Nat} {p q p' q' : Value} {r : Bool} (h : nilT kd p q = some r) (hp : VR μ p p') (hq : VR μ q q') : nilT kd p' q' = some r := by
  unfold nilT at h
  split at h <;> cases h <;> cases hp <;> cases hq <;> rfl

def nilTy : Nat → TypeDesc → Bool
  | 0, .slice _ | 1, .map _ _ | 2, .func _ _ _ => true
  | _, _ => false

theorem nilT0 {p q : Value} {r : Bool} (h : nilT 0 p q = some r) :
    ∃ a n c b m d, p = .slice a n c ∧ q = .slice b m d ∧ ((a = none ∧ r = b.isNone) ∨ (∃ x, a = some x ∧ b = none ∧ r = false)) := by
  cases p <;> cases q <;> first
    | (simp [nilT] at h; done)
    | (rename_i x y z u v s
       cases x <;> cases u <;> simp [nilT] at h <;> subst h <;> exact ⟨_, _, _, _, _, _, rfl, rfl, by simp⟩)

theorem nilT1 {p q : Value} {r : Bool} (h : nilT 1 p q = some r) :
    ∃ a b, p = .map a ∧ q = .map b ∧ ((a = none ∧ r = b.isNone) ∨ (∃ x, a = some x ∧ b = none ∧ r = false)) := by
  cases p <;> cases q <;> first
    | (simp [nilT] at h; done)
    | (rename_i x u
       cases x <;> cases u <;> simp [nilT] at h <;> subst h <;> exact ⟨_, _, rfl, rfl, by simp⟩)

theorem nilT2 {p q : Value} {r : Bool} (h : nilT 2 p q = some r) :
    (p = .nilFunc ∧ q = .nilFunc ∧ r = true) ∨ (∃ f a b, p = .nilFunc ∧ q = .func f a b ∧ r = false) ∨ (∃ f a b, p = .func f a b ∧ q = .nilFunc ∧ r = false) := by
  cases p <;> cases q <;> first
    | (simp [nilT] at h; done)
    | (simp [nilT] at h; subst h; simp)

theorem equal_nil {kd : Nat} {t : TypeId} {d : TypeDesc} {p q : Value} {r : Bool} (ht : P.underlying t = some d) (hd : nilTy kd d = true) (h : nilT kd p q = some r) :
    (Op.equal t p q).run P w = .ok r w := by
  refine equal_of fun e => ?_
  match kd, d, hd with
  | 0, .slice el, _ =>
    obtain ⟨a, n, c, b, m, d, rfl, rfl, ⟨rfl, rfl⟩ | ⟨x, rfl, rfl, rfl⟩⟩ := nilT0 h
    · simp [Op.equalIn, rUnder ht]
    · simp [Op.equalIn, rUnder ht]
  | 1, .map k el, _ =>
    obtain ⟨a, b, rfl, rfl, ⟨rfl, rfl⟩ | ⟨x, rfl, rfl, rfl⟩⟩ := nilT1 h
    · simp [Op.equalIn, rUnder ht]
    · simp [Op.equalIn, rUnder ht]
  | 2, .func a b c, _ =>
    obtain ⟨rfl, rfl, rfl⟩ | ⟨f, a, b, rfl, rfl, rfl⟩ | ⟨f, a, b, rfl, rfl, rfl⟩ := nilT2 h <;> simp [Op.equalIn, rUnder ht]

theorem nilT_forms {kd : Nat} {p q : Value} {r : Bool} (h : nilT kd p q = some r) : (∀ c, p ≠ .agg c) ∧ p ≠ .nilIface ∧
    ∀ (op : BinOp) (t : TypeId), op = .eql ∨ op = .neq → binOp op t p q = (do let e ← Op.equal t p q; pure (.bool (if op matches .neq then !e else e))) := by
  have h3 : kd = 0 ∨ kd = 1 ∨ kd = 2 := by
    unfold nilT at h
    split at h <;> first | (left; rfl) | (right; left; rfl) | (right; right; rfl) | cases h
  rcases h3 with rfl | rfl | rfl
  · obtain ⟨a, n, c, b, m, d, rfl, rfl, _⟩ := nilT0 h
    refine ⟨by simp, by simp, ?_⟩
    rintro op t (rfl | rfl) <;> simp [binOp]
  · obtain ⟨a, b, rfl, rfl, _⟩ := nilT1 h
    refine ⟨by simp, by simp, ?_⟩
    rintro op t (rfl | rfl) <;> simp [binOp]
  · obtain ⟨rfl, rfl, rfl⟩ | ⟨f, a, b, rfl, rfl, rfl⟩ | ⟨f, a, b, rfl, rfl, rfl⟩ := nilT2 h
    all_goals
      refine ⟨by simp, by simp, ?_⟩
      rintro op t (rfl | rfl) <;> simp [binOp]

theorem val_eqN (c : Cx P N w0 μ H T n tm a w) {op : BinOp} {kd : Nat} {neg : Bool} {t u : TypeId} {d : TypeDesc} {x y : Operand} {ax ay : AOpr} {p q : Value} {r : Bool} (ho : o.op = .binOp op t x y u)
    (hop : op = if neg then .neq else .eql) (ht : P.underlying t = some d) (hd : nilTy kd d = true)
    (h1 : cOpr P x = some ax) (h2 : cOpr P y = some ay) (hx : aev H tm ax = some p) (hy : aev H tm ay = some q)
    (hr : nilT kd p q = some r) : ValOk P μ o a w (.bool (bnot neg r)) := by
  have hr' := nilT_vr hr (c.aev h1 hx) (c.aev h2 hy)
  refine ⟨_, ?_, .bool _⟩
  simp only [execOp, ho]
  obtain ⟨f1, f2, f3⟩ := nilT_forms hr'
  rw [Sem.run_bind, run_bnot (P := P) (w := w) (r := r) hop (eqGuard_flat f1 f2)]
  · rfl
  · exact fun op' hop' => f3 op' t hop'
  · exact equal_nil ht hd hr'

theorem kEq_vr {k : Nat} {p q p' q' : Value} {r : Bool} (h : kEq k p q = some r) (hp : VR μ p p') (hq : VR μ q q') : p' = p ∧ q' = q := by
  unfold kEq at h
  split at h
  · exact ⟨hp.int_inv, hq.int_inv⟩
  · exact ⟨hp.string_inv, hq.string_inv⟩
  · exact ⟨hp.bool_inv, hq.bool_inv⟩
  · cases h

theorem kEqs_vr : ∀ {ks : List Nat} {l m l' m' : List Value} {r : Bool}, kEqs ks l m = some r → VRL μ l l' → VRL μ m m' → l' = l ∧ m' = m := by
  intro ks
  induction ks with
  | nil =>
    intro l m l' m' r h hl hm
    cases l <;> cases m <;> first | (simp [kEqs] at h; done) | exact ⟨hl.cases_nil, hm.cases_nil⟩
  | cons k ks ih =>
    intro l m l' m' r h hl hm
    cases l with
    | nil => simp [kEqs] at h
    | cons x l =>
      cases m with
      | nil => simp [kEqs] at h
      | cons y m =>
        obtain ⟨x', l1, rfl, hx, hl2⟩ := hl.cases_cons
        obtain ⟨y', m1, rfl, hy, hm2⟩ := hm.cases_cons
        simp only [kEqs] at h
        split at h
        · rename_i b1 b2 e1 e2
          obtain ⟨rfl, rfl⟩ := kEq_vr e1 hx hy
          obtain ⟨rfl, rfl⟩ := ih e2 hl2 hm2
          exact ⟨rfl, rfl⟩
        · cases h

theorem kEq_run {k : Nat} {p q : Value} {r : Bool} {t : TypeId} (h : kEq k p q = some r) (ht : kindOf (P.underlying t) = some k) (e : Nat) :
    (Op.equalIn (e + 1) t p q).run P w = .ok r w := by
  unfold kindOf at ht
  split at ht <;> cases ht
  · rename_i k' hk
    cases p <;> cases q <;> simp [kEq] at h
    obtain ⟨rfl, rfl⟩ := h
    exact run_equalIn_int w e t _ _ _ _ hk
  · rename_i hk
    cases p <;> cases q <;> simp [kEq] at h
    subst h
    rw [run_equalIn_string w e t _ _ hk, bl_toList, bl_toList]
  · rename_i hk
    cases p <;> cases q <;> simp [kEq] at h
    subst h
    exact run_equalIn_bool' w e t _ _ hk

theorem kind_agg {t : TypeId} {k : Nat} (ht : kindOf (P.underlying t) = some k) : (isAgg t).run P w = .ok false w := by
  unfold kindOf at ht
  split at ht <;> cases ht <;> (rename_i hk; simp [isAgg, rUnder hk])

theorem kEqs_run : ∀ (fs : List Field) (ks : List Nat) (pre l m : List Value) (pre' : List Value) (i : Nat) (r : Bool) (e : Nat), flatKinds P i fs = some ks → pre.length = i → pre'.length = i →
    kEqs ks l m = some r → (Op.eqFields (e + 1) (pre ++ l).toArray (pre' ++ m).toArray fs).run P w = .ok r w := by
  intro fs
  induction fs with
  | nil =>
    intro ks pre l m pre' i r e hf hp hp' hk
    simp only [flatKinds, Option.some.injEq] at hf
    subst hf
    cases l <;> cases m <;> simp [kEqs] at hk
    subst hk
    simp [Op.eqFields]
  | cons f fs ih =>
    intro ks pre l m pre' i r e hf hp hp' hk
    simp only [flatKinds] at hf
    split at hf
    · rename_i hn
      split at hf
      · rename_i k ks' h1 h2
        cases hf
        cases l with
        | nil => simp [kEqs] at hk
        | cons x l =>
          cases m with
          | nil => simp [kEqs] at hk
          | cons y m =>
            simp only [kEqs] at hk
            split at hk
            · rename_i b1 b2 e1 e2
              simp only [Option.some.injEq] at hk
              subst hk
              have hx : (pre ++ x :: l)[i]? = some x := by rw [List.getElem?_append_right (by omega)]; simp [hp]
              have hy : (pre' ++ y :: m)[i]? = some y := by rw [List.getElem?_append_right (by omega)]; simp [hp']
              have px : (part f.type (pre ++ x :: l).toArray f.offset).run P w = .ok x w := by
                simp [part, kind_agg h1, hn.2, hx]
              have py : (part f.type (pre' ++ y :: m).toArray f.offset).run P w = .ok y w := by
                simp [part, kind_agg h1, hn.2, hy]
              have := ih ks' (pre ++ [x]) l m (pre' ++ [y]) (i + 1) b2 e h2 (by simp [hp]) (by simp [hp']) e2
              simp only [List.append_assoc, List.cons_append, List.nil_append] at this
              simp only [Op.eqFields, Sem.run_bind, Sem.run_ite, hn.1, ne_eq, not_false_eq_true, if_true, px, py, Result.andThen_ok, kEq_run e1 h1 e]
              cases b1
              · simp
              · simpa using this
            · cases hk
      · cases hf
    · cases hf

theorem equal_of2 {t : TypeId} {p q : Value} {r : Bool} (h : ∀ d, (Op.equalIn (d + 2) t p q).run P w = .ok r w) : (Op.equal t p q).run P w = .ok r w := h 9998

theorem val_eqA (c : Cx P N w0 μ H T n tm a w) {op : BinOp} {neg : Bool} {t u : TypeId} {ks : List Nat} {x y : Operand} {ax ay : AOpr} {p q : Array Value} {r : Bool} (ho : o.op = .binOp op t x y u)
    (hop : op = if neg then .neq else .eql) (ht : flatEq P t = some ks)
    (h1 : cOpr P x = some ax) (h2 : cOpr P y = some ay) (hx : aev H tm ax = some (.agg p)) (hy : aev H tm ay = some (.agg q))
    (hr : kEqs ks p.toList q.toList = some r) : ValOk P μ o a w (.bool (bnot neg r)) := by
  obtain ⟨p', e1, r1⟩ := (c.aev h1 hx).agg_inv
  obtain ⟨q', e2, r2⟩ := (c.aev h2 hy).agg_inv
  obtain ⟨g1, g2⟩ := kEqs_vr hr r1 r2
  have f1 : p' = p := by rw [← Array.toList_inj]; exact g1
  have f2 : q' = q := by rw [← Array.toList_inj]; exact g2
  subst f1; subst f2
  unfold flatEq at ht
  split at ht
  · rename_i fs hu
    split at ht
    · cases ht
    · rename_i hs
      split at ht
      · cases ht
      · rename_i hg
        refine ⟨_, ?_, .bool _⟩
        simp only [execOp, ho, e1, e2]
        rw [Sem.run_bind, run_bnot (P := P) (w := w) (r := r) hop (run_eqGuard_agg w op t x y p' q' (by simpa using hg))]
        · rfl
        · rintro op' (rfl | rfl) <;> simp [binOp]
        · refine equal_of2 fun d => ?_
          have hfs : P.fieldsOf t = fs := by simp [Program.fieldsOf, hu]
          have hu' : P.underlying t = some (.struct (P.fieldsOf t)) := by rw [hfs]; exact hu
          rw [run_equalIn_struct w (d + 1) t p' q' hu' (by simpa using hs), hfs]
          have := kEqs_run (P := P) (w := w) fs.toList ks [] p'.toList q'.toList [] 0 r d ht rfl rfl hr
          simpa using this
  · cases ht

end
end Go.Ab
