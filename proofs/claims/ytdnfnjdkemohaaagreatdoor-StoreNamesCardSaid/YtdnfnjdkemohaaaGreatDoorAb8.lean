/- The light operations, the last: lengths, the least and the greatest, maps that are asked, parts of tuples, literals of structs, the library's bodies that the model answers. -/
import Derived.Test.YtdnfnjdkemohaaaGreatDoorAb7
namespace Go.Ab

section
variable {P : Program} {N : Nat} {w0 : World} {μ : Mu} {H T : Hp} {n : Nat} {tm : Tm} {a : Act} {w : World} {o : Oper}

theorem val_extract (c : Cx P N w0 μ H T n tm a w) {x : Operand} {ax : AOpr} {i : Nat} {vs : Array Value} {v : Value} (ho : o.op = .extract x i)
    (h1 : cOpr P x = some ax) (hx : aev H tm ax = some (.tuple vs)) (hv : vs.toList[i]? = some v) : ValOk P μ o a w v := by
  obtain ⟨vs', e, hr⟩ := (c.aev h1 hx).tuple_inv
  obtain ⟨v', h2, h3⟩ := hr.get hv
  have h2' : vs'[i]? = some v' := by simpa using h2
  exact ⟨v', by simp [execOp, ho, Instr.extract, e, h2'], h3⟩

/-- A call of a builtin that answers a value. -/
theorem exec_builtin {b : Builtin} {args : Array Operand} {ts : Array TypeId} {s : Sem Value} (ho : o.op = .call { callee := .builtin b, args := args, argTypes := ts })
    (hs : ∀ cs, builtin b ts o.type cs (args.map a.eval) = (do pure (.value (← s)))) :
    (execOp a.eval o).run P w = (s.run P w).andThen fun v w' => .ok (.value v) w' := by
  simp only [execOp, ho, resolve, Sem.run_bind, Sem.run_pure, Result.andThen_ok, invoke, hs]

theorem val_len (c : Cx P N w0 μ H T n tm a w) {args : Array Operand} {ts : Array TypeId} {t : TypeId} {x : Operand} {ax : AOpr} {v : Value} {k : Nat} {d : TypeDesc}
    (ho : o.op = .call { callee := .builtin .len, args := args, argTypes := ts }) (ha : args.toList = [x]) (hts : ts.toList = [t]) (ht : P.underlying t = some d)
    (h1 : cOpr P x = some ax) (hx : aev H tm ax = some v)
    (hv : (d = .string ∧ ∃ s, v = .string s ∧ k = (bl s).length) ∨ ((∃ e, d = .slice e) ∧ ∃ p q, v = .slice p k q)) : ValOk P μ o a w (.int .i64 k) := by
  have hr := c.aev h1 hx
  have ea : args = #[x] := by rw [← Array.toList_inj]; exact ha
  have et : ts = #[t] := by rw [← Array.toList_inj]; exact hts
  subst ea; subst et
  refine ⟨.int .i64 k, ?_, .int _ _⟩
  rw [exec_builtin (P := P) (w := w) (s := Builtin.len_ #[t] o.type (#[x].map a.eval)) ho (fun _ => rfl)]
  rcases hv with ⟨rfl, s, rfl, rfl⟩ | ⟨⟨e, rfl⟩, p, q, rfl⟩
  · have es := hr.string_inv
    simp [Builtin.len_, rUnder ht, es, bl_len, goInt]
  · generalize he : a.eval x = ex at hr
    cases hr <;> simp [Builtin.len_, rUnder ht, goInt, he]

theorem val_lenC {args : Array Operand} {ts : Array TypeId} {t : TypeId} {x : Operand} {k : Nat} {d : TypeDesc}
    (ho : o.op = .call { callee := .builtin .len, args := args, argTypes := ts }) (ha : args.toList = [x]) (hts : ts.toList = [t]) (ht : P.underlying t = some d)
    (hv : (∃ e, d = .array k e) ∨ (∃ u e, d = .pointer u ∧ P.underlying u = some (.array k e))) : ValOk P μ o a w (.int .i64 k) := by
  have ea : args = #[x] := by rw [← Array.toList_inj]; exact ha
  have et : ts = #[t] := by rw [← Array.toList_inj]; exact hts
  subst ea; subst et
  refine ⟨.int .i64 k, ?_, .int _ _⟩
  rw [exec_builtin (P := P) (w := w) (s := Builtin.len_ #[t] o.type (#[x].map a.eval)) ho (fun _ => rfl)]
  rcases hv with ⟨e, rfl⟩ | ⟨u, e, rfl, hu⟩
  · simp [Builtin.len_, rUnder ht, goInt]
  · simp [Builtin.len_, rUnder ht, rUnder hu, goInt]

/-- A map of the abstract heap, in the World. -/
theorem Cx.map (c : Cx P N w0 μ H T n tm a w) {id : Nat} {es : List (Value × Value × Nat)} {cl : Nat} (h : H id = some (.map es cl)) :
    ∃ loc l, μ id = some loc ∧ w.heap[loc.b]? = some (.map (List.toArray l) cl) ∧ VRL μ (es.map (·.1)) (l.map (·.key)) ∧ VRL μ (es.map (·.2.1)) (l.map (·.val)) ∧ es.map (·.2.2) = l.map (·.born) := by
  obtain ⟨loc, h1, h2, h3, l, h4, h5, h6, h7⟩ := c.get h
  exact ⟨loc, l, h1, h4, h5, h6, h7⟩

theorem VR.map_inv {id : Nat} {v' : Value} (h : VR μ (.map (some id)) v') : ∃ loc, μ id = some loc ∧ v' = .map (some loc.b) := by
  cases h with
  | map _ loc h => exact ⟨loc, h, rfl⟩
theorem VR.nilm_inv {v' : Value} (h : VR μ (.map none) v') : v' = .map none := by cases h; rfl

theorem rObj {r : Nat} {es : Array MapEntry} {cl : Nat} (h : w.heap[r]? = some (.map es cl)) : (getObj r).run P w = .ok (.map es cl) w := by simp [getObj, Sem.run, h]

theorem val_lenMap (c : Cx P N w0 μ H T n tm a w) {args : Array Operand} {ts : Array TypeId} {t kt et : TypeId} {x : Operand} {ax : AOpr} {m : Option Nat} {k : Nat}
    (ho : o.op = .call { callee := .builtin .len, args := args, argTypes := ts }) (ha : args.toList = [x]) (hts : ts.toList = [t]) (ht : P.underlying t = some (.map kt et))
    (h1 : cOpr P x = some ax) (hx : aev H tm ax = some (.map m)) (hv : (m = none ∧ k = 0) ∨ (∃ id es cl, m = some id ∧ H id = some (.map es cl) ∧ k = es.length)) : ValOk P μ o a w (.int .i64 k) := by
  have hr := c.aev h1 hx
  have ea : args = #[x] := by rw [← Array.toList_inj]; exact ha
  have et : ts = #[t] := by rw [← Array.toList_inj]; exact hts
  subst ea; subst et
  refine ⟨.int .i64 k, ?_, .int _ _⟩
  rw [exec_builtin (P := P) (w := w) (s := Builtin.len_ #[t] o.type (#[x].map a.eval)) ho (fun _ => rfl)]
  rcases hv with ⟨rfl, rfl⟩ | ⟨id, es, cl, rfl, hH, rfl⟩
  · simp [Builtin.len_, rUnder ht, hr.nilm_inv, goInt]
  · obtain ⟨loc, hl, e⟩ := hr.map_inv
    obtain ⟨loc', l, hl', hb, hk, _, _⟩ := c.map hH
    rw [hl] at hl'; cases hl'
    have : es.length = l.length := by have := hk.1; simpa using this
    simp [Builtin.len_, rUnder ht, e, rObj hb, goInt, this]

theorem minA_run (mx : Bool) : ∀ (l l' : List Value) (v v' r : Value), minA mx v l = some r → VR μ v v' → VRL μ l l' →
    ∃ r', (l'.foldlM (if mx then Builtin.max2 else Builtin.min2) v').run P w = .ok r' w ∧ VR μ r r' := by
  intro l
  induction l with
  | nil =>
    intro l' v v' r h hv hl
    simp only [minA, Option.some.injEq] at h
    subst h
    rw [hl.cases_nil]
    exact ⟨v', by simp, hv⟩
  | cons x l ih =>
    intro l' v v' r h hv hl
    obtain ⟨x', l1, rfl, hx, hl1⟩ := hl.cases_cons
    cases v <;> try (simp [minA] at h; done)
    rename_i k i
    cases x <;> try (simp [minA] at h; done)
    rename_i k' j
    simp only [minA] at h
    split at h
    · rename_i hk
      subst hk
      have e1 := hv.int_inv
      have e2 := hx.int_inv
      subst e1; subst e2
      obtain ⟨r', h1, h2⟩ := ih l1 _ _ r h (.int _ _) hl1
      refine ⟨r', ?_, h2⟩
      rw [List.foldlM_cons, Sem.run_bind]
      cases mx
      · simpa [Builtin.min2] using h1
      · simpa [Builtin.max2] using h1
    · cases h

theorem val_minmax (c : Cx P N w0 μ H T n tm a w) {mx : Bool} {b : Builtin} {args : Array Operand} {ts : Array TypeId} {as : List AOpr} {v r : Value} {l : List Value}
    (ho : o.op = .call { callee := .builtin b, args := args, argTypes := ts }) (hb : b = if mx then .max else .min) (h1 : cOprs P args.toList = some as)
    (hx : aevs H tm as = some (v :: l)) (hr : minA mx v l = some r) : ValOk P μ o a w r := by
  have hvr := c.aevs h1 hx
  obtain ⟨v', l', e, hv, hl⟩ := hvr.cases_cons
  obtain ⟨r', h2, h3⟩ := minA_run (P := P) (w := w) mx l l' v v' r hr hv hl
  refine ⟨r', ?_, h3⟩
  have ea : (args.map a.eval).toList = v' :: l' := by simpa using e
  cases mx
  · simp only [Bool.false_eq_true, if_false] at hb h2
    subst hb
    rw [exec_builtin (P := P) (w := w) (s := Builtin.min_ ts o.type (args.map a.eval)) ho (fun _ => rfl)]
    simp only [Builtin.min_, ea, h2, Result.andThen_ok]
  · simp only [if_true] at hb h2
    subst hb
    rw [exec_builtin (P := P) (w := w) (s := Builtin.max_ ts o.type (args.map a.eval)) ho (fun _ => rfl)]
    simp only [Builtin.max_, ea, h2, Result.andThen_ok]

theorem findA_none_cases {kd : Nat} {k : Value} {x : Value × Value × Nat} {l : List (Value × Value × Nat)} {r : Option (Nat × Value × Nat)} (h : findA kd k (x :: l) = some r) :
    (kEq kd k x.1 = some true ∧ r = some (0, x.2.1, x.2.2)) ∨ (kEq kd k x.1 = some false ∧ ∃ r', findA kd k l = some r' ∧ r = r'.map fun p => (p.1 + 1, p.2)) := by
  obtain ⟨k', v, b⟩ := x
  simp only [findA] at h
  split at h
  · rename_i e; cases h; exact .inl ⟨e, rfl⟩
  · rename_i e
    refine .inr ⟨e, ?_⟩
    split at h
    · rename_i i r2 e2; cases h; exact ⟨_, e2, rfl⟩
    · rename_i e2; cases h; exact ⟨_, e2, rfl⟩
    · cases h
  · cases h

def keyD : Nat → TypeDesc → Bool
  | 0, .int _ | 1, .string => true
  | _, _ => false

theorem kEq_sameNow {kd : Nat} {d : TypeDesc} {p q : Value} {r : Bool} (hd : keyD kd d = true) (h : kEq kd p q = some r) : Instr.sameNow d p q = some r := by
  unfold keyD at hd
  split at hd
  · cases p <;> cases q <;> simp [kEq] at h
    obtain ⟨rfl, rfl⟩ := h
    simp [Instr.sameNow]
  · cases p <;> cases q <;> simp [kEq] at h
    subst h
    simp [Instr.sameNow, beq_toListBytes, bl_toList]
  · cases hd

/-- Finding a key among a map's entries: the abstract answer is the model's. -/
theorem findNow_of {kd : Nat} {d : TypeDesc} (hd : keyD kd d = true) {k : Value} : ∀ (es : List (Value × Value × Nat)) (l : List MapEntry) (r : Option (Nat × Value × Nat)) (i0 : Nat), findA kd k es = some r →
    VRL μ (es.map (·.1)) (l.map (·.key)) → VRL μ (es.map (·.2.1)) (l.map (·.val)) → es.map (·.2.2) = l.map (·.born) →
    (r = none ∧ Instr.findNow d k l i0 = some none) ∨
    (∃ i v b v' e, r = some (i, v, b) ∧ Instr.findNow d k l i0 = some (some (i0 + i, v')) ∧ VR μ v v' ∧ l[i]? = some e ∧ e.val = v' ∧ e.born = b ∧ Instr.sameNow d k e.key = some true ∧
      (∃ k0, es[i]? = some (k0, v, b) ∧ kEq kd k k0 = some true ∧ k0 = e.key)) := by
  intro es
  induction es with
  | nil =>
    intro l r i0 h h1 h2 h3
    simp only [findA, Option.some.injEq] at h
    subst h
    have : l = [] := by have := h1.1; simp at this; exact List.length_eq_zero_iff.1 this.symm
    subst this
    exact .inl ⟨rfl, rfl⟩
  | cons x es ih =>
    intro l r i0 h h1 h2 h3
    cases l with
    | nil => have := h1.1; simp at this
    | cons e l =>
      have hk : VR μ x.1 e.key := h1.head
      have hv : VR μ x.2.1 e.val := h2.head
      have hb : x.2.2 = e.born := by simp at h3; exact h3.1
      have h3' : es.map (·.2.2) = l.map (·.born) := by simp at h3; simpa using h3.2
      rcases findA_none_cases h with ⟨hkeq, rfl⟩ | ⟨hkeq, r', hr', rfl⟩
      · right
        have e0 : e.key = x.1 := by
          unfold kEq at hkeq
          split at hkeq <;> rename_i q1 q2
          · rw [q2] at hk; rw [q2]; exact hk.int_inv
          · rw [q2] at hk; rw [q2]; exact hk.string_inv
          · rw [q2] at hk; rw [q2]; exact hk.bool_inv
          · cases hkeq
        have hs := kEq_sameNow hd hkeq
        refine ⟨0, x.2.1, x.2.2, e.val, e, rfl, ?_, hv, rfl, rfl, hb.symm, by rw [e0]; exact hs, x.1, rfl, hkeq, e0.symm⟩
        simp [Instr.findNow, e0, hs]
      · have e0 : e.key = x.1 := by
          unfold kEq at hkeq
          split at hkeq <;> rename_i q1 q2
          · rw [q2] at hk; rw [q2]; exact hk.int_inv
          · rw [q2] at hk; rw [q2]; exact hk.string_inv
          · rw [q2] at hk; rw [q2]; exact hk.bool_inv
          · cases hkeq
        have hs := kEq_sameNow hd hkeq
        rcases ih l r' (i0 + 1) hr' h1.tail h2.tail h3' with ⟨rfl, hf⟩ | ⟨i, v, b, v', e', rfl, hf, g1, g2, g3, g4, g5, k0, g6, g7, g8⟩
        · exact .inl ⟨rfl, by simp [Instr.findNow, e0, hs, hf]⟩
        · refine .inr ⟨i + 1, v, b, v', e', rfl, ?_, g1, by simpa using g2, g3, g4, g5, k0, by simpa using g6, g7, g8⟩
          simp [Instr.findNow, e0, hs, hf]
          omega

theorem keyType_spec {t : TypeId} {kd : Nat} (h : keyType P t = some kd) : ∃ d, P.underlying t = some d ∧ keyD kd d = true := by
  unfold keyType at h
  split at h
  · rename_i k hk; cases h; exact ⟨_, hk, rfl⟩
  · rename_i hk; cases h; exact ⟨_, hk, rfl⟩
  · cases h

theorem run_checkKey0 {t : TypeId} {d : TypeDesc} {kd : Nat} (ht : P.underlying t = some d) (hd : keyD kd d = true) (b : Bool) (m : Nat) (k : Value) (hk : isKey kd k = true) :
    (Instr.checkKey b (m + 1) t k).run P w = .ok () w := by
  unfold keyD at hd
  split at hd
  · cases k <;> simp [isKey] at hk <;> simp [Instr.checkKey, rUnder ht]
  · cases k <;> simp [isKey] at hk <;> simp [Instr.checkKey, rUnder ht]
  · cases hd

theorem isKey_vr {kd : Nat} {k k' : Value} (h : isKey kd k = true) (hr : VR μ k k') : k' = k := by
  unfold isKey at h
  split at h
  · exact hr.int_inv
  · exact hr.string_inv
  · cases h

theorem val_lookup (c : Cx P N w0 μ H T n tm a w) {t kt et : TypeId} {kd : Nat} {m k : Operand} {am ak : AOpr} {ok : Bool} {z vm vk : Value} {ti : TypeInfo} {r : Option (Nat × Value × Nat)}
    (ho : o.op = .lookup t m k ok) (ht : P.underlying t = some (.map kt et)) (hkt : keyType P kt = some kd) (hi : P.info? et = some ti) (hz : ti.zero = some z) (hzk : okConst z = true)
    (h1 : cOpr P m = some am) (h2 : cOpr P k = some ak) (hm : aev H tm am = some vm) (hk : aev H tm ak = some vk) (hkey : isKey kd vk = true)
    (hr : (vm = .map none ∧ r = none) ∨ (∃ id es cl, vm = .map (some id) ∧ H id = some (.map es cl) ∧ findA kd vk es = some r)) :
    ValOk P μ o a w (match r with
      | some (_, v, _) => (if ok then .tuple #[v, .bool true] else v)
      | none => (if ok then .tuple #[z, .bool false] else z)) := by
  obtain ⟨d, hd, hkd⟩ := keyType_spec hkt
  have ek := isKey_vr hkey (c.aev h2 hk)
  have hvm := c.aev h1 hm
  have hzr : VR μ z z := okConst_vr hzk
  have tup : ∀ (v v' : Value) (b : Bool), VR μ v v' → VR μ (if ok then .tuple #[v, .bool b] else v) (if ok then .tuple #[v', .bool b] else v') := by
    intro v v' b hv
    cases ok
    · simpa using hv
    · refine .tuple _ _ rfl fun i x x' hx hx' => ?_
      match i with
      | 0 => simp at hx hx'; subst hx; subst hx'; exact hv
      | 1 => simp at hx hx'; subst hx; subst hx'; exact .bool b
      | i + 2 => simp at hx
  have hzero := rZero (P := P) (w := w) hi hz
  rcases hr with ⟨rfl, rfl⟩ | ⟨id, es, cl, rfl, hH, hf⟩
  · refine ⟨_, ?_, tup z z false hzr⟩
    have hck := run_checkKey0 (P := P) (w := w) hd hkd true 9999 vk hkey
    simp [execOp, ho, Instr.lookup, rUnder ht, hvm.nilm_inv, ek, hck, Instr.findKey, rUnder hd, Instr.findNow, hzero]
  · obtain ⟨loc, hl, e⟩ := hvm.map_inv
    obtain ⟨loc', l, hl', hb, g1, g2, g3⟩ := c.map hH
    rw [hl] at hl'; cases hl'
    have hck := run_checkKey0 (P := P) (w := w) hd hkd (List.toArray l).isEmpty 9999 vk hkey
    rcases findNow_of hkd es l r 0 hf g1 g2 g3 with ⟨rfl, hfn⟩ | ⟨i, v, b, v', e', rfl, hfn, hv, _⟩
    · refine ⟨_, ?_, tup z z false hzr⟩
      simp only [execOp, ho, Instr.lookup, e, ek, Sem.run_bind, rUnder ht, Result.andThen_ok, rObj hb, hck, Instr.findKey, rUnder hd, hfn, hzero, Sem.run_pure]
    · refine ⟨_, ?_, tup v v' true hv⟩
      simp only [execOp, ho, Instr.lookup, e, ek, Sem.run_bind, rUnder ht, Result.andThen_ok, rObj hb, hck, Instr.findKey, rUnder hd, hfn, Sem.run_pure]

end
end Go.Ab
