/- Entries of maps written by their stamp, entries taken away, and the builtin copy. -/
import Derived.Test.YtdnfnjdkemohaaaGreatDoorAb12
namespace Go.Ab
open Go.RowKit (Below)

section
variable {P : Program} {N : Nat} {w0 : World} {μ : Mu} {H T : Hp} {n : Nat} {tm : Tm} {a : Act} {w : World} {o : Oper}

theorem findIdx_born {p : Nat → Bool} : ∀ (es : List (Value × Value × Nat)) (l : List MapEntry), es.map (·.2.2) = l.map (·.born) → es.findIdx? (fun e => p e.2.2) = l.findIdx? (fun e => p e.born) := by
  intro es
  induction es with
  | nil => intro l h; cases l with
    | nil => rfl
    | cons => simp at h
  | cons x es ih =>
    intro l h
    cases l with
    | nil => simp at h
    | cons y l =>
      simp only [List.map_cons, List.cons.injEq] at h
      rw [List.findIdx?_cons, List.findIdx?_cons, h.1, ih l h.2]

theorem wr_entrySet (c : Cx P N w0 μ H T n tm a w) {t : TypeId} {m s y : Operand} {am as ay : AOpr} {id i b c0 : Nat} {es : List (Value × Value × Nat)} {cl : Nat} {k : IntKind} {st : Int} {vk v0 vy : Value}
    (ho : o.op = .entryStore t m s y) (h1 : cOpr P m = some am) (h2 : cOpr P s = some as) (h3 : cOpr P y = some ay) (hm : aev H tm am = some (.map (some id))) (hs : aev H tm as = some (.int k st))
    (hy : aev H tm ay = some vy) (hH : H id = some (.map es cl)) (hf : es.findIdx? (fun e => ((e.2.2 : Nat) : Int) == st) = some i) (hi : es[i]? = some (vk, v0, b)) (_hb : b = c0) :
    WrOk P N w0 μ T o a w id (.map (es.set i (vk, vy, b)) cl) undef := by
  obtain ⟨loc, hl, e⟩ := (c.aev h1 hm).map_inv
  have es' := (c.aev h2 hs).int_inv
  have hry := c.aev h3 hy
  obtain ⟨loc', l, hl', hb, g1, g2, g3⟩ := c.map hH
  rw [hl] at hl'; cases hl'
  rw [findIdx_born (p := fun b => ((b : Nat) : Int) == st) es l g3] at hf
  have hlt : i < l.length := by
    have e1 := (List.getElem?_eq_some_iff.1 hi).1
    have := g1.1
    simp at this
    omega
  obtain ⟨q, hq⟩ : ∃ q, l[i]? = some q := ⟨l[i], by simp [hlt]⟩
  have k1 : VR μ vk q.key := g1.2 i _ _ (by rw [List.getElem?_map, hi]; rfl) (by rw [List.getElem?_map, hq]; rfl)
  have k3 : b = q.born := by
    have := congrArg (fun z => z[i]?) g3
    simp only [List.getElem?_map, hi, hq, Option.map_some, Option.some.injEq] at this
    exact this
  obtain ⟨s1, s2, s3⟩ := VRL.set_map g1 g2 g3 i (k := vk) (v := vy) (b := b) (e := { q with val := a.eval y }) k1 hry k3
  refine ⟨.skip, undef, setBlk w loc.b (.map (l.set i { q with val := a.eval y }).toArray cl), ?_, .inr ⟨rfl, rfl⟩, c.sim.updMap (c.hs _ _ hH) hl hb s1 s2 s3, undef_vr⟩
  have hfa : l.toArray.findIdx? (fun e => ((e.born : Nat) : Int) == st) = some i := by simpa using hf
  simp only [execOp, ho, Instr.entryStore, e, es', Sem.run_bind, Result.andThen_ok, rObj hb, asInt, asIntOf, Sem.run_pure, hfa, modify_toArray l i _ q hq, rSet hb]

theorem VRL.eraseIdx {l l' : List Value} (h : VRL μ l l') (i : Nat) : VRL μ (l.eraseIdx i) (l'.eraseIdx i) := by
  induction i generalizing l l' with
  | zero =>
    cases l with
    | nil => rw [h.cases_nil]; exact .nil
    | cons x l => obtain ⟨x', m, rfl, _, hm⟩ := h.cases_cons; exact hm
  | succ i ih =>
    cases l with
    | nil => rw [h.cases_nil]; exact .nil
    | cons x l => obtain ⟨x', m, rfl, hx, hm⟩ := h.cases_cons; exact VRL.cons hx (ih hm)

theorem eraseIdx_map {α β : Type} (f : α → β) : ∀ (l : List α) (i : Nat), (l.eraseIdx i).map f = (l.map f).eraseIdx i := by
  intro l
  induction l with
  | nil => intro i; simp
  | cons x l ih => intro i; cases i with
    | zero => rfl
    | succ i => simp [ih]

theorem wr_delete (c : Cx P N w0 μ H T n tm a w) {args : Array Operand} {ts : Array TypeId} {t kt et : TypeId} {kd : Nat} {m k : Operand} {am ak : AOpr} {id : Nat} {es : List (Value × Value × Nat)} {cl : Nat} {vk : Value}
    {r : Option (Nat × Value × Nat)} (ho : o.op = .call { callee := .builtin .delete, args := args, argTypes := ts }) (ha : args.toList = [m, k]) (hts : ∃ r, ts.toList = t :: r)
    (ht : P.underlying t = some (.map kt et)) (hkt : keyType P kt = some kd)
    (h1 : cOpr P m = some am) (h2 : cOpr P k = some ak) (hm : aev H tm am = some (.map (some id))) (hk : aev H tm ak = some vk)
    (hkey : isKey kd vk = true) (hH : H id = some (.map es cl)) (hf : findA kd vk es = some r) :
    match r with
    | some (i, _, _) => WrOk P N w0 μ T o a w id (.map (es.eraseIdx i) cl) (.tuple #[])
    | none => WrOk P N w0 μ T o a w id (.map es cl) (.tuple #[]) := by
  have ea : args = #[m, k] := by rw [← Array.toList_inj]; exact ha
  subst ea
  obtain ⟨tr, htr⟩ := hts
  have ht0 : ts[0]? = some t := by
    have : ts.toList[0]? = some t := by rw [htr]; rfl
    simpa using this
  obtain ⟨d, hd, hkd⟩ := keyType_spec hkt
  have hrk := c.aev h2 hk
  have ek := isKey_vr hkey hrk
  obtain ⟨loc, hl, e⟩ := (c.aev h1 hm).map_inv
  obtain ⟨loc', l, hl', hb, g1, g2, g3⟩ := c.map hH
  rw [hl] at hl'; cases hl'
  have hck := run_checkKey0 (P := P) (w := w) hd hkd (List.toArray l).isEmpty 9999 vk hkey
  have hargs : (#[m, k].map a.eval) = #[.map (some loc.b), vk] := by simp [e, ek]
  have hex := exec_builtin (P := P) (w := w) (s := Builtin.delete_ ts o.type #[.map (some loc.b), vk]) ho (fun cs => by rw [hargs]; rfl)
  rcases findNow_of hkd es l r 0 hf g1 g2 g3 with ⟨rfl, hfn⟩ | ⟨i, v, b, v', e', rfl, hfn, hv, hli, hev, heb, hsn, k0, hk0, hkeq, hk0e⟩
  · refine ⟨.value (.tuple #[]), .tuple #[], setBlk w loc.b (.map l.toArray cl), ?_, .inl rfl, c.sim.updMap (c.hs _ _ hH) hl hb g1 g2 g3, undef_vr⟩
    rw [hex]
    simp only [Builtin.delete_, ht0, List.getElem?_toArray, List.getElem?_cons_zero, List.getElem?_cons_succ, Sem.run_bind, rUnder ht, Result.andThen_ok, rObj hb, hck, Instr.findKey, rUnder hd, hfn, Sem.run_pure, rSet hb]
  · refine ⟨.value (.tuple #[]), .tuple #[], setBlk w loc.b (.map (l.eraseIdx i).toArray cl), ?_, .inl rfl, c.sim.updMap (c.hs _ _ hH) hl hb ?_ ?_ ?_, undef_vr⟩
    · rw [hex]
      have hlt : i < l.length := (List.getElem?_eq_some_iff.1 hli).1
      have her : l.toArray.eraseIdxIfInBounds i = (l.eraseIdx i).toArray := by simp [Array.eraseIdxIfInBounds, hlt]
      simp only [Builtin.delete_, ht0, List.getElem?_toArray, List.getElem?_cons_zero, List.getElem?_cons_succ, Sem.run_bind, rUnder ht, Result.andThen_ok, rObj hb, hck, Instr.findKey, rUnder hd, hfn, Sem.run_pure, Nat.zero_add, her, rSet hb]
    · rw [eraseIdx_map, eraseIdx_map]; exact g1.eraseIdx i
    · rw [eraseIdx_map, eraseIdx_map]; exact g2.eraseIdx i
    · rw [eraseIdx_map, eraseIdx_map, g3]

/-- What is appended or copied: how many elements, and their cells. -/
theorem Cx.apCells (c : Cx P N w0 μ H T n tm a w) {size k : Nat} {v v' : Value} {cs : List Value} (h : apCells H size v = some (k, cs)) (hr : VR μ v v') :
    cs.length = k * size ∧ (∀ x ∈ cs, scalar x = true) ∧ Builtin.lenOf v' = Sem.pure k ∧
    ∀ j, j ≤ k → ∃ cs', (Builtin.firstCells size j v').run P w = .ok (List.toArray cs') w ∧ VRL μ (cs.take (j * size)) cs' := by
  unfold Ab.apCells at h
  split at h
  · rename_i b m e
    split at h
    · rename_i q hq
      cases h
      rcases c.slCells hq hr with ⟨e1, e2, rfl⟩ | ⟨id, off, len, b', o', cap, ro, all, e1, rfl, hH, hlen, hcs, hcl, hsc, hcells, _⟩ | ⟨id, off, b', ro, all, e1, rfl, hH, hlen, rfl⟩
      · cases e1
        subst e2
        refine ⟨by simp, by simp, rfl, fun j hj => ⟨[], rfl, ?_⟩⟩
        simp only [List.take_nil]
        exact .nil
      · cases e1
        refine ⟨hcl, hsc, rfl, fun j hj => ?_⟩
        obtain ⟨cs', h3, h4⟩ := cells_list hcells
        refine ⟨cs'.take (j * size), ?_, h3.take _⟩
        have hle : j * size ≤ cs'.length := by rw [← h3.1, hcl]; exact Nat.mul_le_mul_right _ hj
        have hl2 : (cs'.take (j * size)).length = j * size := by rw [List.length_take]; omega
        have := run_loadList (P := P) (w := w) (b := ⟨b', o', none⟩) (cs := cs'.take (j * size)) (cs' := cs'.take (j * size)) rfl (fun i u hu => by
          rw [List.getElem?_take] at hu
          split at hu
          · exact h4 i u hu
          · cases hu)
        rw [hl2] at this
        simp only [Builtin.firstCells]
        exact this
      · cases e1
        refine ⟨by simp, by simp, rfl, fun j hj => ⟨[], ?_, ?_⟩⟩
        · have : j = 0 := by omega
          subst this
          simp [Builtin.firstCells, loadCells, loadCellsFrom]
        · simp only [List.take_nil]; exact .nil
    · cases h
  · rename_i s
    split at h
    · rename_i hsz
      subst hsz
      cases h
      have e := hr.string_inv
      subst e
      refine ⟨by simp, ?_, by rw [bl_len]; rfl, fun j hj => ⟨((bl s).take j).map ub, ?_, ?_⟩⟩
      · intro x hx
        obtain ⟨u, _, rfl⟩ := List.mem_map.1 hx
        rfl
      · simp only [Builtin.firstCells, Sem.run_pure]
        congr 1
        rw [← Array.toList_inj]
        simp only [Array.toList_map, List.map_take]
        have : (s.extract 0 j).data.toList = (bl s).take j := by simp [bl]
        rw [this, List.map_take]
        rfl
      · rw [Nat.mul_one, List.map_take]
        exact (VRL.map_self ub (fun _ => .int _ _) _).take j
    · cases h
  · cases h

end
end Go.Ab
