/- The light operations, continued: arithmetic, comparisons, conversions, slices, maps that are asked. -/
import Derived.Test.YtdnfnjdkemohaaaGreatDoorAb4
import Derived.Laws.Strings
import Derived.Laws.StructEq
namespace Go.Ab

section
variable {P : Program} {N : Nat} {w0 : World} {μ : Mu} {H T : Hp} {n : Nat} {tm : Tm} {a : Act} {w : World} {o : Oper}

theorem bl_toList (s : ByteArray) : s.toList = bl s := ByteArray.toList_eq s
theorem bl_len (s : ByteArray) : (bl s).length = s.size := by rw [bl, Array.length_toList]; rfl
theorem str_bl (s : ByteArray) : str (bl s) = s := by simp [str, bl]
theorem bl_str (l : List UInt8) : bl (str l) = l := by simp [str, bl]
theorem bl_inj {s t : ByteArray} (h : bl s = bl t) : s = t := by rw [← str_bl s, ← str_bl t, h]
theorem str_append (x y : ByteArray) : x ++ y = str (bl x ++ bl y) := by
  apply bl_inj; rw [bl_str]; simp [bl]
theorem str_extract (s : ByteArray) (l h : Nat) : s.extract l h = str (((bl s).drop l).take (h - l)) := by
  apply bl_inj; rw [bl_str]; simp [bl]

theorem eqGuard_flat {op : BinOp} {t : TypeId} {x y : Operand} {p q : Value} (hp : ∀ c, p ≠ .agg c) (hn : p ≠ .nilIface) :
    (eqGuard op t x y p q).run P w = .ok () w := by
  unfold eqGuard
  cases p <;> first
    | (exact absurd rfl hn)
    | (rename_i c; exact absurd rfl (hp c))
    | (cases op <;> simp)

theorem binA_run {op : BinOp} {t : TypeId} {x y : Operand} {p q v : Value} (h : binA op p q = some v) :
    ((do eqGuard op t x y p q; binOp op t p q : Sem Value)).run P w = .ok v w ∧ VR μ v v := by
  unfold binA at h
  split at h
  · rename_i k i k' j
    rw [Sem.run_bind, eqGuard_flat (by simp) (by simp), Result.andThen_ok]
    cases op <;> simp only at h <;>
      (first
        | (split at h
           · cases h
           · rename_i hy
             simp only [Option.some.injEq] at h
             subst h
             exact ⟨by simp [binOp, Op.shift, hy], .int _ _⟩)
        | (split at h
           · rename_i hk
             subst hk
             simp only [binI, Option.some.injEq, bitA] at h
             first
               | (subst h; exact ⟨by simp [binOp, Op.intArith, Op.intBits, Op.intCmp], by constructor⟩)
               | (split at h
                  · cases h
                  · rename_i hy
                    simp only [Option.some.injEq] at h
                    subst h
                    exact ⟨by simp [binOp, Op.intDiv, hy], .int _ _⟩)
           · cases h))
  · rename_i s r
    rw [Sem.run_bind, eqGuard_flat (by simp) (by simp), Result.andThen_ok]
    unfold binStr at h
    cases op <;> simp only [Option.some.injEq, reduceCtorEq] at h <;>
      first
        | (subst h; exact ⟨by simp [binOp, Op.stringOp, bl_toList], .bool _⟩)
        | (split at h
           · rename_i hlen
             simp only [Option.some.injEq] at h
             subst h
             refine ⟨?_, .string _⟩
             rw [bl_len, bl_len] at hlen
             have hmax : ¬ (((s.size + r.size : Nat) : Int) > IntKind.i64.max) := by
               have : IntKind.i64.max = 9223372036854775807 := by decide
               rw [this]; omega
             simp only [binOp, Op.stringOp, if_neg hmax, str_append]
             rfl
           · cases h)
  · rename_i k i k' j
    rw [Sem.run_bind, eqGuard_flat (by simp) (by simp), Result.andThen_ok]
    split at h
    · rename_i hk
      subst hk
      unfold binF at h
      cases op <;> simp only [Option.some.injEq, reduceCtorEq] at h <;>
        (subst h; exact ⟨by simp [binOp, Op.floatCmp], .bool _⟩)
    · cases h
  · cases h

theorem binA_same {op : BinOp} {p q v p' q' : Value} (h : binA op p q = some v) (hp : VR μ p p') (hq : VR μ q q') : p' = p ∧ q' = q := by
  unfold binA at h
  split at h
  · exact ⟨hp.int_inv, hq.int_inv⟩
  · exact ⟨hp.string_inv, hq.string_inv⟩
  · exact ⟨hp.float_inv, hq.float_inv⟩
  · cases h

theorem val_bin (c : Cx P N w0 μ H T n tm a w) {op : BinOp} {t u : TypeId} {x y : Operand} {ax ay : AOpr} {p q v : Value} (ho : o.op = .binOp op t x y u)
    (h1 : cOpr P x = some ax) (h2 : cOpr P y = some ay) (hx : aev H tm ax = some p) (hy : aev H tm ay = some q) (hv : binA op p q = some v) : ValOk P μ o a w v := by
  obtain ⟨e1, e2⟩ := binA_same hv (c.aev h1 hx) (c.aev h2 hy)
  obtain ⟨h3, h4⟩ := binA_run (P := P) (w := w) (μ := μ) (t := t) (x := x) (y := y) hv
  refine ⟨v, ?_, h4⟩
  simp only [execOp, ho, e1, e2]
  rw [Sem.run_bind, h3]
  rfl

theorem val_un (c : Cx P N w0 μ H T n tm a w) {op : UnOp} {t : TypeId} {x : Operand} {ax : AOpr} {p v : Value} (ho : o.op = .unOp op t x)
    (h1 : cOpr P x = some ax) (hx : aev H tm ax = some p) (hv : unA op p = some v) : ValOk P μ o a w v := by
  have hr := c.aev h1 hx
  unfold unA at hv
  split at hv
  · have e := hr.int_inv
    cases hv
    exact ⟨_, by simp [execOp, ho, e, Op.unary, Op.intArith], .int _ _⟩
  · have e := hr.int_inv
    cases hv
    exact ⟨_, by simp [execOp, ho, e, Op.unary, Op.intBits], .int _ _⟩
  · have e := hr.bool_inv
    cases hv
    exact ⟨_, by simp [execOp, ho, e, Op.unary], .bool _⟩
  · cases hv

theorem run_bnot {op : BinOp} {t : TypeId} {x y : Operand} {p q : Value} {neg r : Bool} (hop : op = if neg then .neq else .eql)
    (hg : (eqGuard op t x y p q).run P w = .ok () w)
    (hb : ∀ op', op' = .eql ∨ op' = .neq → binOp op' t p q = (do let e ← Op.equal t p q; pure (.bool (if op' matches .neq then !e else e))))
    (he : (Op.equal t p q).run P w = .ok r w) : ((do eqGuard op t x y p q; binOp op t p q : Sem Value)).run P w = .ok (.bool (bnot neg r)) w := by
  rw [Sem.run_bind, hg, Result.andThen_ok, hb op (by cases neg <;> simp [hop])]
  cases neg <;> simp [hop, he, bnot]

theorem equal_of {t : TypeId} {p q : Value} {r : Bool} (h : ∀ d, (Op.equalIn (d + 1) t p q).run P w = .ok r w) : (Op.equal t p q).run P w = .ok r w := h 9999

theorem val_eqB (c : Cx P N w0 μ H T n tm a w) {op : BinOp} {neg : Bool} {t u : TypeId} {x y : Operand} {ax ay : AOpr} {p q : Bool} (ho : o.op = .binOp op t x y u)
    (hop : op = if neg then .neq else .eql) (ht : P.underlying t = some .bool)
    (h1 : cOpr P x = some ax) (h2 : cOpr P y = some ay) (hx : aev H tm ax = some (.bool p)) (hy : aev H tm ay = some (.bool q)) : ValOk P μ o a w (.bool (bnot neg (p == q))) := by
  have e1 := (c.aev h1 hx).bool_inv
  have e2 := (c.aev h2 hy).bool_inv
  refine ⟨_, ?_, .bool _⟩
  simp only [execOp, ho, e1, e2]
  rw [Sem.run_bind, run_bnot (P := P) (w := w) (r := p == q) hop (eqGuard_flat (by simp) (by simp))]
  · rfl
  · rintro op' (rfl | rfl) <;> simp [binOp]
  · exact equal_of fun d => by simp [Op.equalIn, rUnder ht]

theorem run_sameAddr_block (x y : Addr) (h : x.block = y.block) : (sameAddr x y).run P w = .ok (x == y) w := by
  simp [sameAddr, h]

theorem equal_ptr {t e : TypeId} {m : Nat} {p q : Option Addr} {r : Bool} (ht : P.underlying t = some (.pointer e)) (hz : szOf P e = some m) (hm : m ≠ 0)
    (hr : (p = none ∧ q = none ∧ r = true) ∨ (p = none ∧ q.isSome ∧ r = false) ∨ (p.isSome ∧ q = none ∧ r = false) ∨
      (∃ i k l, p = some ⟨i, k, none⟩ ∧ q = some ⟨i, l, none⟩ ∧ r = (k == l))) : (Op.equal t (.pointer p) (.pointer q)).run P w = .ok r w := by
  refine equal_of fun d => ?_
  rcases hr with ⟨rfl, rfl, rfl⟩ | ⟨rfl, hq, rfl⟩ | ⟨hp, rfl, rfl⟩ | ⟨i, k, l, rfl, rfl, rfl⟩
  · simp [Op.equalIn, rUnder ht]
  · cases q with
    | none => cases hq
    | some q => simp [Op.equalIn, rUnder ht]
  · cases p with
    | none => cases hp
    | some p => simp [Op.equalIn, rUnder ht]
  · have : ((⟨i, k, none⟩ : Addr) == ⟨i, l, none⟩) = (k == l) := by
      rw [Bool.eq_iff_iff]; simp
    simp [Op.equalIn, rUnder ht, rSize hz, hm, run_sameAddr_block, this]

theorem val_eqP (c : Cx P N w0 μ H T n tm a w) {op : BinOp} {neg : Bool} {t e u : TypeId} {m : Nat} {x y : Operand} {ax ay : AOpr} {p q : Option Addr} {r : Bool} (ho : o.op = .binOp op t x y u)
    (hop : op = if neg then .neq else .eql) (ht : P.underlying t = some (.pointer e)) (hz : szOf P e = some m) (hm : m ≠ 0)
    (h1 : cOpr P x = some ax) (h2 : cOpr P y = some ay) (hx : aev H tm ax = some (.pointer p)) (hy : aev H tm ay = some (.pointer q))
    (hr : (p = none ∧ q = none ∧ r = true) ∨ (p = none ∧ q.isSome ∧ r = false) ∨ (p.isSome ∧ q = none ∧ r = false) ∨
      (∃ i k l, p = some ⟨i, k, none⟩ ∧ q = some ⟨i, l, none⟩ ∧ r = (k == l))) : ValOk P μ o a w (.bool (bnot neg r)) := by
  have r1 := c.aev h1 hx
  have r2 := c.aev h2 hy
  have key : ∃ p' q', a.eval x = .pointer p' ∧ a.eval y = .pointer q' ∧ ((p' = none ∧ q' = none ∧ r = true) ∨ (p' = none ∧ q'.isSome ∧ r = false) ∨ (p'.isSome ∧ q' = none ∧ r = false) ∨
      (∃ i k l, p' = some ⟨i, k, none⟩ ∧ q' = some ⟨i, l, none⟩ ∧ r = (k == l))) := by
    rcases hr with ⟨rfl, rfl, rfl⟩ | ⟨rfl, hq, rfl⟩ | ⟨hp, rfl, rfl⟩ | ⟨i, k, l, rfl, rfl, rfl⟩
    · exact ⟨none, none, r1.nilp_inv, r2.nilp_inv, .inl ⟨rfl, rfl, rfl⟩⟩
    · cases q with
      | none => cases hq
      | some q =>
        generalize hey : a.eval y = ey at r2
        cases r2 with
        | ptr id off loc hl => exact ⟨none, _, r1.nilp_inv, rfl, .inr (.inl ⟨rfl, rfl, rfl⟩)⟩
    · cases p with
      | none => cases hp
      | some p =>
        generalize hex : a.eval x = ex at r1
        cases r1 with
        | ptr id off loc hl => exact ⟨_, none, rfl, r2.nilp_inv, .inr (.inr (.inl ⟨rfl, rfl, rfl⟩))⟩
    · obtain ⟨l1, hl1, e1⟩ := r1.ptr_inv
      obtain ⟨l2, hl2, e2⟩ := r2.ptr_inv
      rw [hl1] at hl2; cases hl2
      refine ⟨_, _, e1, e2, .inr (.inr (.inr ⟨_, _, _, rfl, rfl, ?_⟩))⟩
      rw [Bool.eq_iff_iff]; simp
  obtain ⟨p', q', e1, e2, hr'⟩ := key
  refine ⟨_, ?_, .bool _⟩
  simp only [execOp, ho, e1, e2]
  rw [Sem.run_bind, run_bnot (P := P) (w := w) (r := r) hop (eqGuard_flat (by simp) (by simp))]
  · rfl
  · rintro op' (rfl | rfl) <;> cases p' <;> cases q' <;> rfl
  · exact equal_ptr ht hz hm hr'

end
end Go.Ab
