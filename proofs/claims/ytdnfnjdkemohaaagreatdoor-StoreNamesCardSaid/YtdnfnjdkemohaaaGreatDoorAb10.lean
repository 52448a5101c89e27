/- The operations that make memory. -/
import Derived.Test.YtdnfnjdkemohaaaGreatDoorAb9
namespace Go.Ab

/-- What an operation that makes an object owes. -/
def NewOk (P : Program) (N : Nat) (w0 : World) (μ : Mu) (T : Hp) (o : Oper) (a : Act) (w : World) (ob : Ob) (mk : Mk) : Prop :=
  ∀ id, N ≤ id → μ id = none → ∃ v' w' μ', (execOp a.eval o).run P w = .ok (.value v') w' ∧ μ.le μ' ∧ Sim N w0 μ' (T.put id ob) w' ∧ VR μ' (mk.val id) v'

section
variable {P : Program} {N : Nat} {w0 : World} {μ : Mu} {H T : Hp} {n : Nat} {tm : Tm} {a : Act} {w : World} {o : Oper}

theorem run_newRow (e : TypeId) (arr : Array Value) : (newRow e arr).run P w = .ok ⟨w.heap.size, 0, none⟩ (w.alloc (.cells arr e)) := by
  simp [newRow]

/-- A new row of cells, of which the first ones are told. -/
theorem Sim.row (h : Sim N w0 μ T w) {id : Nat} (hid : N ≤ id) (hμ : μ id = none) {c : List Value} {arr : Array Value} (e : TypeId) (fz : Nat × Nat)
    (hlen : c.length ≤ arr.size) (hsc : ∀ v ∈ c, scalar v = true) (hc : ∀ (i : Nat) v, c[i]? = some v → ∃ v', arr[i]? = some v' ∧ VR μ v v')
    (hfz : fz.1 = fz.2 ∨ arr.size ≤ fz.1) :
    Sim N w0 (μ.put id ⟨w.heap.size, 0, arr.size⟩) (T.put id (.cells false c)) (w.alloc (.cells arr e fz)) := by
  refine h.alloc hid hμ _ _ ⟨w.heap.size, 0, arr.size⟩ rfl fun w' hw' => ?_
  refine ⟨arr, e, fz, hw', hlen, by simp, fun i v hv => ⟨hsc v (List.mem_of_getElem? hv), ?_⟩, fun _ => by simpa using hfz⟩
  obtain ⟨v', h1, h2⟩ := hc i v hv
  exact ⟨v', by simpa using h1, h2.mono (Mu.le_put hμ)⟩

theorem new_ptr (h : Sim N w0 μ T w) {c : List Value} {arr : Array Value} {e : TypeId} (hc : VRL μ c arr.toList) (hsc : ∀ v ∈ c, scalar v = true)
    (hrun : (execOp a.eval o).run P w = .ok (.value (.pointer (some ⟨w.heap.size, 0, none⟩))) (w.alloc (.cells arr e))) : NewOk P N w0 μ T o a w (.cells false c) .ptr := by
  intro id hid hμ
  have hlen : c.length ≤ arr.size := by have := hc.1; rw [Array.length_toList] at this; exact Nat.le_of_eq this
  refine ⟨_, _, _, hrun, Mu.le_put hμ, h.row hid hμ e (0, 0) hlen hsc (fun i v hv => ?_) (by simp), ?_⟩
  · obtain ⟨v', h1, h2⟩ := hc.get hv
    exact ⟨v', by simpa using h1, h2⟩
  · have := VR.ptr (μ := μ.put id ⟨w.heap.size, 0, arr.size⟩) id 0 ⟨w.heap.size, 0, arr.size⟩ (Mu.put_same _ _ _)
    exact this

theorem new_alloc (c : Cx P N w0 μ H T n tm a w) {t : TypeId} {z : List Value} (ho : o.op = .alloc t) (hz : zeroL P t = some z) : NewOk P N w0 μ T o a w (.cells false z) .ptr := by
  obtain ⟨i, v, hi, hzv, rfl, hok, _⟩ := zeroL_spec hz
  refine new_ptr (e := t) (arr := v.cells) c.sim (by rw [cellsL_eq]; exact flats_vrl hok) (flats_scalar hok) ?_
  simp [execOp, ho, Instr.alloc, rZero hi hzv, newVar, run_newRow]

theorem isBld_zero {t : TypeId} (h : isBld P t = true) : zeroL P t = some [.pointer none, .slice none 0 0] := by
  unfold isBld at h
  split at h
  · rename_i hz; exact hz
  · cases h

theorem new_allocB (c : Cx P N w0 μ H T n tm a w) {t : TypeId} (ho : o.op = .alloc t) (hb : isBld P t = true) : NewOk P N w0 μ T o a w (.bld t (.pointer none) (.slice none 0 0)) .ptr := by
  obtain ⟨i, v, hi, hzv, hzl, hok, _⟩ := zeroL_spec (isBld_zero hb)
  have hv : v.cells = #[.pointer none, .slice none 0 0] := by rw [← Array.toList_inj, cellsL_eq, hzl]
  intro id hid hμ
  refine ⟨.pointer (some ⟨w.heap.size, 0, none⟩), w.alloc (.cells v.cells t), _, ?_, Mu.le_put hμ, c.sim.alloc hid hμ _ _ ⟨w.heap.size, 0, 2⟩ rfl fun w' hw' => ?_, ?_⟩
  · simp [execOp, ho, Instr.alloc, rZero hi hzv, newVar, run_newRow]
  · exact ⟨rfl, rfl, rfl, rfl, _, _, (0, 0), by rw [hw', hv], .nilp, .nils, .inl rfl⟩
  · exact VR.ptr (μ := μ.put id ⟨w.heap.size, 0, 2⟩) id 0 ⟨w.heap.size, 0, 2⟩ (Mu.put_same _ _ _)

theorem new_box (c : Cx P N w0 μ H T n tm a w) {t : TypeId} {x : Operand} {ax : AOpr} {v : Value} (ho : o.op = .box t x) (h1 : cOpr P x = some ax) (hx : aev H tm ax = some v)
    (hs : (cellsL v).all scalar = true) : NewOk P N w0 μ T o a w (.cells false (cellsL v)) .ptr := by
  refine new_ptr (e := t) (arr := (a.eval x).cells) c.sim (by rw [cellsL_eq]; exact cellsL_vrl (c.aev h1 hx)) (fun x hx => List.all_eq_true.1 hs x hx) ?_
  simp [execOp, ho, Instr.box, newVar, run_newRow]

theorem new_slice {c : List Value} {arr : Array Value} {e : TypeId} {fz : Nat × Nat} {len cap size : Nat} {w1 : World} (hw : Sim N w0 μ T w1)
    (hlen : c.length ≤ arr.size) (hsc : ∀ v ∈ c, scalar v = true) (hc : ∀ (i : Nat) v, c[i]? = some v → ∃ v', arr[i]? = some v' ∧ VR μ v v')
    (hfz : fz.1 = fz.2 ∨ arr.size ≤ fz.1) (hlc : len ≤ cap) (hcap : cap * size ≤ arr.size)
    (hrun : (execOp a.eval o).run P w = .ok (.value (.slice (some ⟨w1.heap.size, 0, none⟩) len cap)) (w1.alloc (.cells arr e fz))) : NewOk P N w0 μ T o a w (.cells false c) (.slice len size) := by
  intro id hid hμ
  refine ⟨_, _, _, hrun, Mu.le_put hμ, hw.row hid hμ e fz hlen hsc hc hfz, ?_⟩
  have := VR.slice (μ := μ.put id ⟨w1.heap.size, 0, arr.size⟩) id 0 len cap size ⟨w1.heap.size, 0, arr.size⟩ (Mu.put_same _ _ _) hlc (by simpa using hcap)
  exact this

theorem rep_cells (z : Array Value) (m : Nat) : (Array.range (m * z.size)).map (fun i => z[i % z.size]!) = (List.replicate m z.toList).flatten.toArray := by
  rw [← Array.toList_inj]
  apply List.ext_getElem?
  intro i
  by_cases hi : i < m * z.size
  · have hz : 0 < z.size := by
      rcases Nat.eq_zero_or_pos z.size with h | h
      · rw [h] at hi; simp at hi
      · exact h
    have hmod : i % z.size < z.size := Nat.mod_lt _ hz
    have hlhs : ((Array.range (m * z.size)).map (fun i => z[i % z.size]!)).toList[i]? = some z[i % z.size] := by
      simp [hi, hmod]
    rw [hlhs]
    clear hlhs
    -- the flat list
    have key : ∀ m i, i < m * z.size → (List.replicate m z.toList).flatten[i]? = some (z[i % z.size]'(Nat.mod_lt _ hz)) := by
      intro m
      induction m with
      | zero => intro i hi; simp at hi
      | succ m ih =>
        intro i hi
        rw [List.replicate_succ, List.flatten_cons]
        by_cases h : i < z.size
        · rw [List.getElem?_append_left (by simpa using h)]
          simp [h, Nat.mod_eq_of_lt h]
        · rw [List.getElem?_append_right (by simpa using h)]
          rw [Array.length_toList, ih (i - z.size) (by rw [Nat.succ_mul] at hi; omega)]
          congr 1
          have e1 : i % z.size = (i - z.size) % z.size := by
            rw [Nat.mod_eq_sub_mod (by omega)]
          simp [e1]
    rw [List.toList_toArray, key m i hi]
  · rw [List.getElem?_eq_none (by simpa using hi), List.getElem?_eq_none]
    simp [List.length_flatten]
    omega

theorem spl_len : ∀ (xs c : List Value) (o : Nat), (spl c o xs).length = c.length := by
  intro xs
  induction xs with
  | nil => intro c o; rfl
  | cons x xs ih => intro c o; simp [spl, ih]

theorem fillA_len : ∀ {vs : List (Nat × Nat × Value)} {c cs : List Value}, fillA c vs = some cs → cs.length = c.length := by
  intro vs
  induction vs with
  | nil => intro c cs h; simp only [fillA, Option.some.injEq] at h; subst h; rfl
  | cons x vs ih =>
    intro c cs h
    obtain ⟨o, m, v⟩ := x
    simp only [fillA] at h
    split at h
    · rw [ih h, spl_len]
    · cases h

theorem rep_flat {z : List Value} (h : z.all flat = true) (m : Nat) : (List.replicate m z).flatten.all flat = true := by
  rw [List.all_eq_true]
  intro x hx
  obtain ⟨l, hl, hxl⟩ := List.mem_flatten.1 hx
  obtain ⟨_, rfl⟩ := List.mem_replicate.1 hl
  exact List.all_eq_true.1 h x hxl

theorem rep_len (z : List Value) (m : Nat) : (List.replicate m z).flatten.length = m * z.length := by simp [List.length_flatten]

theorem new_buildSlice (c : Cx P N w0 μ H T n tm a w) {t e : TypeId} {len size : Nat} {parts : Array (Nat × Operand)} {z cs : List Value} {ps : List (Nat × Nat × AOpr)}
    {vs : List (Nat × Nat × Value)} (ho : o.op = .buildSlice t len parts) (ht : P.underlying t = some (.slice e)) (hsz : szOf P e = some size) (hz : zeroL P e = some z) (hlen : len * size ≤ 16777216)
    (hps : cParts P (fun i => some (i * size, size)) parts.toList = some ps) (hvs : aparts H tm ps = some vs)
    (hf : fillA (List.replicate len z).flatten vs = some cs) (hs : cs.all scalar = true) : NewOk P N w0 μ T o a w (.cells false cs) (.slice len size) := by
  obtain ⟨i, zv, hi, hzv, rfl, hok, hzl⟩ := zeroL_spec hz
  have hsize : size = i.size := by simp [szOf, hi] at hsz; exact hsz.symm
  obtain ⟨hl, hrel⟩ := c.aparts hps hvs
  have hzs : zv.cells.size = size := by rw [cellsL_size]; omega
  have hz0 : VRL μ (List.replicate len (cellsL zv)).flatten (List.replicate len (cellsL zv)).flatten.toArray.toList := flats_vrl (rep_flat hok len)
  obtain ⟨cs', h1, h2⟩ := fill_run (μ := μ) (place := fun i => some (i * size, size)) vs (parts.toList.map fun p => (p.1, a.eval p.2)) _ cs _ hf hz0 (by simp [hl]) (by
    intro i o m v ix v' hv hp
    rw [List.getElem?_map] at hp
    cases hq : parts.toList[i]? with
    | none => rw [hq] at hp; cases hp
    | some q =>
      rw [hq] at hp
      simp only [Option.map_some, Option.some.injEq, Prod.mk.injEq] at hp
      obtain ⟨rfl, rfl⟩ := hp
      exact hrel i o m v q.1 q.2 hv (by rw [hq]))
  have hmap : (parts.map fun (i, x) => (i, a.eval x)).toList = parts.toList.map fun p => (p.1, a.eval p.2) := by simp
  have harr : len * size ≠ 0 → ((Array.range (len * size)).map (fun i => zv.cells[i % zv.cells.size]!)) = (List.replicate len (cellsL zv)).flatten.toArray := by
    intro h0
    rw [← hzs, rep_cells, cellsL_eq]
  have harr0 : len * size = 0 → (List.replicate len (cellsL zv)).flatten.toArray = #[] := by
    intro h0
    have : (List.replicate len (cellsL zv)).flatten = [] := by
      apply List.length_eq_zero_iff.1
      rw [rep_len, hzl, ← hsize, h0]
    rw [this]
  have hcap : cs'.size = len * size := by
    have e1 : cs.length = cs'.size := by have := h2.1; rw [Array.length_toList] at this; exact this
    have e2 : cs.length = (List.replicate len (cellsL zv)).flatten.length := fillA_len hf
    rw [rep_len, hzl, ← hsize] at e2
    omega
  have hlc : cs.length ≤ cs'.size := by have := h2.1; rw [Array.length_toList] at this; exact Nat.le_of_eq this
  refine new_slice (arr := cs') (e := e) (fz := (0, 0)) (cap := len) c.sim hlc (fun x hx => List.all_eq_true.1 hs x hx) (fun i v hv => ?_) (by simp) (Nat.le_refl _) (Nat.le_of_eq hcap.symm) ?_
  · obtain ⟨v', g1, g2⟩ := h2.get hv
    exact ⟨v', by simpa using g1, g2⟩
  · have hbig : ¬ (len * size > 2 ^ 24) := by omega
    simp only [execOp, ho, Instr.buildSlice, Sem.run_bind, rUnder ht, Result.andThen_ok, rSize hsz, Sem.run_ite, if_neg hbig, Sem.run_pure]
    by_cases h0 : len * size = 0
    · simp only [h0, if_true]
      rw [harr0 h0] at h1
      have e0 : (Array.map (fun x => (#[] : Array Value)[x % (#[] : Array Value).size]!) (Array.range 0)) = #[] := by simp
      simp only [hmap, e0, h1, Sem.run_bind, run_newRow, Sem.run_pure, Result.andThen_ok]
    · simp only [if_neg h0, rZero hi hzv, Result.andThen_ok, harr h0, hmap, h1, Sem.run_bind, run_newRow, Sem.run_pure]

theorem freeze_new (c : Array Value) (e : TypeId) : (w.alloc (.cells c e)).freeze ⟨w.heap.size, c.size, none⟩ 1 = w.alloc (.cells c e (c.size, c.size + 1)) := by
  simp only [World.freeze, World.alloc]
  rw [if_neg (by omega)]
  congr 1
  apply Array.ext_getElem?
  intro i
  rw [Array.getElem?_modify]
  by_cases hi : w.heap.size = i
  · subst hi
    simp
  · rw [if_neg hi]
    simp [Array.getElem?_push, Ne.symm hi]

theorem run_markStringish (c : Array Value) (e : TypeId) : (markStringish ⟨w.heap.size, 0, none⟩).run P (w.alloc (.cells c e)) = .ok () (w.alloc (.cells c e (c.size, c.size + 1))) := by
  have hs : (w.alloc (.cells c e)).shape? w.heap.size = some (e, c.size) := by
    have : (w.alloc (.cells c e)).heap[w.heap.size]? = some (.cells c e) := by show (w.heap.push _)[w.heap.size]? = _; simp
    unfold World.shape?
    rw [this]
  simp only [markStringish, Sem.run_bind, run_shape, hs, Result.andThen_ok, run_freeze]
  rw [freeze_new]

theorem new_cBytes (c : Cx P N w0 μ H T n tm a w) {s t e : TypeId} {x : Operand} {ax : AOpr} {b : ByteArray} (ho : o.op = .convert s t x) (hs : P.underlying s = some .string)
    (ht : P.underlying t = some (.slice e)) (he : P.underlying e = some (.int .u8)) (h1 : cOpr P x = some ax) (hx : aev H tm ax = some (.string b)) :
    NewOk P N w0 μ T o a w (.cells false ((bl b).map ub)) (.slice (bl b).length 1) := by
  have ex := (c.aev h1 hx).string_inv
  let q : Question := .appendCap b.size 0 e
  let cap := q.cut (w.tape w.drawn q)
  have hcap : b.size ≤ cap := by simp only [cap, q, Question.cut]; omega
  let arr : Array Value := (b.data.map fun x => Value.int .u8 x.toNat) ++ Array.replicate (cap - b.size) (.int .u8 0)
  have harr : arr.size = cap := by simp only [arr, Array.size_append, Array.size_map, Array.size_replicate]; have : b.data.size = b.size := rfl; omega
  refine new_slice (w1 := w.drew) (arr := arr) (e := e) (fz := (arr.size, arr.size + 1)) (cap := cap) (c.sim.drawn _) ?_ ?_ ?_ ?_ ?_ ?_ ?_
  · rw [List.length_map, bl_len, harr]; exact hcap
  · intro v hv
    obtain ⟨u, _, rfl⟩ := List.mem_map.1 hv
    rfl
  · intro i v hv
    refine ⟨v, ?_, ?_⟩
    · have hi : i < (bl b).length := by have := (List.getElem?_eq_some_iff.1 hv).1; simpa using this
      have hi' : i < b.data.size := by rw [bl_len] at hi; exact hi
      simp only [arr]
      rw [Array.getElem?_append_left (by simpa using hi')]
      rw [List.getElem?_map] at hv
      rw [Array.getElem?_map]
      simp only [bl, Array.getElem?_toList] at hv
      exact hv
    · rw [List.getElem?_map] at hv
      cases hb : (bl b)[i]? with
      | none => rw [hb] at hv; cases hv
      | some u => rw [hb] at hv; simp at hv; subst hv; exact .int _ _
  · exact .inr (Nat.le_refl _)
  · rw [bl_len]; exact hcap
  · rw [harr]; simp
  · have hd : ({ w with drawn := w.drawn + 1 } : World) = w.drew := rfl
    have hch : (choose q).run P w = .ok cap w.drew := by simp [q, Question.forced, cap]
    have hm := run_markStringish (P := P) (w := w.drew) arr e
    have hnr := run_newRow (P := P) (w := w.drew) e arr
    simp only [execOp, ho, convert, ex, Sem.run_bind, rUnder hs, rUnder ht, rUnder he, Result.andThen_ok, Conv.stringToBytes]
    rw [hch]
    simp only [Result.andThen_ok]
    rw [hnr]
    simp only [Result.andThen_ok]
    rw [hm]
    simp only [Result.andThen_ok, Sem.run_pure, bl_len]

theorem i64_in (i : Int) (h1 : -9223372036854775808 ≤ i) (h2 : i ≤ 9223372036854775807) : IntKind.i64.wrap i = i := by
  show (if (true && decide (i % (2 ^ 64 : Int) ≥ (2 ^ 63 : Int))) = true then i % (2 ^ 64 : Int) - (2 ^ 64 : Int) else i % (2 ^ 64 : Int)) = i
  simp only [Bool.true_and, decide_eq_true_eq]
  split <;> omega

theorem new_mkSlice (c : Cx P N w0 μ H T n tm a w) {t e : TypeId} {x y : Operand} {ax ay : AOpr} {ti : TypeInfo} {z : List Value} {l k : Int} (ho : o.op = .makeSlice t x y)
    (ht : P.underlying t = some (.slice e)) (hi : P.info? e = some ti) (hz : zeroL P e = some z) (h1 : cOpr P x = some ax) (h2 : cOpr P y = some ay)
    (hx : aev H tm ax = some (.int .i64 l)) (hy : aev H tm ay = some (.int .i64 k)) (hl : 0 ≤ l ∧ l ≤ k) (hb : k * ti.bytes ≤ 140737488355328) (hk : k ≤ 140737488355328) :
    NewOk P N w0 μ T o a w (.cells false (List.replicate l.toNat z).flatten) (.slice l.toNat ti.size) := by
  obtain ⟨i, zv, hi', hzv, rfl, hok, hzl⟩ := zeroL_spec hz
  rw [hi] at hi'; cases hi'
  have hzs : zv.cells.size = ti.size := by rw [cellsL_size]; omega
  have e1 := (c.aev h1 hx).int_inv
  have e2 := (c.aev h2 hy).int_inv
  have wl : IntKind.i64.wrap l = l := i64_in l (by omega) (by omega)
  have wk : IntKind.i64.wrap k = k := i64_in k (by omega) (by omega)
  let m := k.toNat * ti.size
  let arr : Array Value := (List.replicate k.toNat (cellsL zv)).flatten.toArray
  have harr : arr.size = m := by simp only [arr, m, List.size_toArray, rep_len, hzl]
  have hok2 := rep_flat hok k.toNat
  have hpre : (List.replicate l.toNat (cellsL zv)).flatten = (arr.toList).take (l.toNat * ti.size) := by
    simp only [arr]
    have : k.toNat = l.toNat + (k.toNat - l.toNat) := by omega
    rw [this, ← List.replicate_append_replicate, List.flatten_append, List.take_left']
    rw [rep_len, hzl]
  refine new_slice (arr := arr) (e := e) (fz := (0, 0)) (cap := k.toNat) c.sim ?_ (flats_scalar (rep_flat hok _)) ?_ (by simp) (by omega) (Nat.le_of_eq harr.symm) ?_
  · rw [rep_len, hzl, harr]
    exact Nat.mul_le_mul_right _ (by omega)
  · intro i v hv
    rw [hpre, List.getElem?_take] at hv
    split at hv
    · refine ⟨v, by simpa using hv, ?_⟩
      exact flat_vr (List.all_eq_true.1 hok2 v (List.mem_of_getElem? hv))
    · cases hv
  · have hm : ((ti.bytes : Nat) : Int) * k = k * ti.bytes := Int.mul_comm _ _
    have d1 : decide (k < 0) = false := by simp; omega
    have d2 : decide (((ti.bytes : Nat) : Int) * k > 2 ^ 48) = false := by rw [hm]; simp; omega
    have d3 : decide (l < 0) = false := by simp; omega
    have d4 : decide (l > k) = false := by simp; omega
    have harr2 : k.toNat * ti.size ≠ 0 → (Array.range (k.toNat * ti.size)).map (fun i => zv.cells[i % zv.cells.size]!) = arr := by
      intro _
      simp only [arr]
      rw [← hzs, rep_cells, cellsL_eq]
    have harr0 : k.toNat * ti.size = 0 → arr = #[] := fun h0 => Array.size_eq_zero_iff.1 (by rw [harr]; exact h0)
    simp only [execOp, ho, Instr.makeSlice, Sem.run_bind, rUnder ht, Result.andThen_ok, e1, e2, asInt, asIntOf, Sem.run_pure, rInfo hi, wl, wk, d1, d2, d3, d4, Bool.or_false, Bool.false_eq_true, if_false,
      run_askRoom, rSize (show szOf P e = some ti.size by simp [szOf, hi])]
    by_cases h0 : k.toNat * ti.size = 0
    · simp only [h0, if_true, Sem.run_bind, Sem.run_pure, Result.andThen_ok]
      have e0 : (Array.map (fun x => (#[] : Array Value)[x % (#[] : Array Value).size]!) (Array.range 0)) = #[] := by simp
      rw [e0, harr0 h0]
      simp only [run_newRow, Result.andThen_ok]
    · simp only [if_neg h0, Sem.run_bind, rZero hi hzv, Result.andThen_ok, Sem.run_pure, harr2 h0, run_newRow]

theorem new_mkMap (c : Cx P N w0 μ H T n tm a w) {t : TypeId} (ho : o.op = .makeMap t none) : NewOk P N w0 μ T o a w (.map [] 0) .map := by
  intro id hid hμ
  refine ⟨.map (some w.heap.size), w.alloc (.map #[] 0), μ.put id ⟨w.heap.size, 0, 1⟩, ?_, Mu.le_put hμ, ?_, .map _ _ (Mu.put_same _ _ _)⟩
  · simp [execOp, ho, Instr.makeMap]
  · exact c.sim.alloc hid hμ _ _ _ rfl fun w' hw' => ⟨rfl, rfl, [], by simpa using hw', .nil, .nil, rfl⟩

end
end Go.Ab
