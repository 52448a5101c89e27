/- Stores, copies, and what is done to maps. -/
import Derived.Test.YtdnfnjdkemohaaaGreatDoorAb11
namespace Go.Ab
open Go.RowKit (Below)

/-- What an operation that writes owes. -/
def WrOk (P : Program) (N : Nat) (w0 : World) (μ : Mu) (T : Hp) (o : Oper) (a : Act) (w : World) (id : Nat) (ob : Ob) (v : Value) : Prop :=
  ∃ x v' w', (execOp a.eval o).run P w = .ok x w' ∧ (x = .value v' ∨ (x = .skip ∧ v' = undef)) ∧ Sim N w0 μ (T.put id ob) w' ∧ VR μ v v'

section
variable {P : Program} {N : Nat} {w0 : World} {μ : Mu} {H T : Hp} {n : Nat} {tm : Tm} {a : Act} {w : World} {o : Oper}

theorem undef_vr : VR μ undef undef := .tuple #[] #[] rfl (by simp)

theorem splA_get (xs : List Value) (arr : Array Value) (k j : Nat) : (spl arr.toList k xs).toArray[j]? = if k ≤ j ∧ j < k + xs.length ∧ j < arr.size then xs[j - k]? else arr[j]? := by
  rw [List.getElem?_toArray, spl_get, Array.length_toList (xs := arr), Array.getElem?_toList (xs := arr)]

/-- Writing values over cells of an object. -/
theorem Sim.splice (h : Sim N w0 μ T w) {id : Nat} {loc : Loc} {c xs xs' : List Value} {off : Nat} (hT : T id = some (.cells false c)) (hμ : μ id = some loc) (hlen : off + xs.length ≤ c.length)
    (hx : VRL μ xs xs') (hs : ∀ v ∈ xs, scalar v = true) :
    ∃ w', (storeCells ⟨loc.b, loc.o + off, none⟩ xs').run P w = .ok () w' ∧ Sim N w0 μ (T.put id (.cells false (spl c off xs))) w' := by
  obtain ⟨loc0, hl0, arr, el, fz, hb, h3, h4, h5, h6⟩ := h.obj id _ hT
  rw [hμ] at hl0; cases hl0
  have hxl := hx.1
  have hs' : ∀ v ∈ xs', scalar v = true := by
    intro v hv
    obtain ⟨i, hi⟩ := List.getElem?_of_mem hv
    have hlt : i < xs.length := by have := (List.getElem?_eq_some_iff.1 hi).1; omega
    have := hx.2 i xs[i] v (by simp [hlt]) hi
    rw [this.scalar]
    exact hs _ (List.getElem_mem hlt)
  have hrun := run_storeList (P := P) (el := el) (fz := fz) xs' (loc.o + off) 0 w arr hb (by omega) hs' (fun j h1 h2 => by have := h6 rfl; omega)
  simp only [Nat.add_zero] at hrun
  refine ⟨_, hrun, h.upd hT hμ hb ?_ ?_ ?_ ?_⟩
  · rw [List.size_toArray, spl_len, Array.length_toList]
  · intro j hj
    rw [splA_get, if_neg]
    omega
  · rw [spl_len]; exact h3
  · intro i v hv
    rw [spl_get] at hv
    rw [splA_get]
    split at hv
    · rename_i hc
      rw [if_pos (by omega)]
      have hlt : i - off < xs.length := by omega
      have hv' : xs'[loc.o + i - (loc.o + off)]? = some xs'[i - off] := by
        rw [show loc.o + i - (loc.o + off) = i - off from by omega]
        have : i - off < xs'.length := by omega
        simp [this]
      refine ⟨hs v (List.mem_of_getElem? hv), _, hv', ?_⟩
      exact hx.2 (i - off) v _ hv (by simp)
    · rename_i hc
      have hi : i < c.length := (List.getElem?_eq_some_iff.1 hv).1
      rw [if_neg (by omega)]
      exact h5 i v hv

theorem wr_store (c : Cx P N w0 μ H T n tm a w) {t : TypeId} {x y : Operand} {ax ay : AOpr} {m id off : Nat} {cs : List Value} {v : Value} (ho : o.op = .store t x y)
    (h1 : cOpr P x = some ax) (h2 : cOpr P y = some ay) (hz : szOf P t = some m) (hx : aev H tm ax = some (.pointer (some ⟨id, off, none⟩))) (hy : aev H tm ay = some v)
    (hH : H id = some (.cells false cs)) (hl : (cellsL v).length = m ∧ off + m ≤ cs.length ∧ (cellsL v).all scalar = true) :
    WrOk P N w0 μ T o a w id (.cells false (spl cs off (cellsL v))) undef := by
  obtain ⟨loc, hloc, e⟩ := (c.aev h1 hx).ptr_inv
  have hr := c.aev h2 hy
  have hc := cellsL_vrl hr
  obtain ⟨w', hrun, hsim⟩ := c.sim.splice (P := P) (off := off) (xs := cellsL v) (xs' := (a.eval y).cells.toList) (c.hs _ _ hH) hloc (by omega) (by rw [cellsL_eq]; exact hc) (fun v hv => List.all_eq_true.1 hl.2.2 v hv)
  refine ⟨.skip, undef, w', ?_, .inr ⟨rfl, rfl⟩, hsim, undef_vr⟩
  have hsz : (a.eval y).cells.size = m := by rw [cellsL_size, ← hc.1]; exact hl.1
  simp only [execOp, ho, Instr.storeAt, e, Instr.sureAddr, storeVar, Sem.run_bind, Sem.run_pure, Result.andThen_ok, rSize hz, hsz, ne_eq, not_true_eq_false, if_false, Sem.run_ite]
  rw [hrun]
  rfl

theorem wr_storeB (c : Cx P N w0 μ H T n tm a w) {t : TypeId} {x y : Operand} {ax ay : AOpr} {id B : Nat} {p s v : Value} (ho : o.op = .store t x y)
    (h1 : cOpr P x = some ax) (h2 : cOpr P y = some ay) (hz : szOf P t = some 1) (hx : aev H tm ax = some (.pointer (some ⟨id, 1, none⟩))) (hy : aev H tm ay = some v)
    (hH : H id = some (.bld B p s)) (hs : scalar v = true) : WrOk P N w0 μ T o a w id (.bld B p v) undef := by
  obtain ⟨loc, hloc, e⟩ := (c.aev h1 hx).ptr_inv
  have hr := c.aev h2 hy
  obtain ⟨loc', hl', g1, g2, g3, g4, p', s', fz, g5, g6, g7, g8⟩ := c.sim.obj id _ (c.hs _ _ hH)
  rw [hloc] at hl'; cases hl'
  have hs' : scalar (a.eval y) = true := by rw [hr.scalar]; exact hs
  have hcl : ∀ u : Value, scalar u = true → cellsL u = [u] := by intro u hu; cases u <;> first | rfl | (simp [scalar] at hu)
  have hcells : (a.eval y).cells.toList = [a.eval y] := by rw [cellsL_eq, hcl _ hs']
  have hrun := run_storeList (P := P) (el := B) (fz := fz) [a.eval y] 1 0 w #[p', s'] g5 (by simp) (by simpa using hs') (fun j h1 h2 => by simp at h2; omega)
  refine ⟨.skip, undef, _, ?_, .inr ⟨rfl, rfl⟩, c.sim.updG (c.hs _ _ hH) rfl rfl hloc g5 (arr' := #[p', a.eval y]) (by simp) ?_ ?_, undef_vr⟩
  · have hsz : (a.eval y).cells.size = 1 := by rw [← Array.length_toList, hcells]; rfl
    simp only [execOp, ho, Instr.storeAt, e, g1, Instr.sureAddr, storeVar, Sem.run_bind, Sem.run_pure, Result.andThen_ok, rSize hz, hsz, ne_eq, not_true_eq_false, if_false, Sem.run_ite, hcells, Nat.zero_add]
    rw [hrun]
    rfl
  · intro j hj
    rw [Array.getElem?_eq_none (by simp; omega), Array.getElem?_eq_none (by simp; omega)]
  · intro w' hw'
    exact ⟨g1, g2, g3, hs, p', a.eval y, fz, hw', g6, hr, g8⟩

theorem Sim.freeze (h : Sim N w0 μ T w) {id : Nat} {loc : Loc} {o0 : Ob} {arr : Array Value} {el : TypeId} {fz fz' : Nat × Nat} (hT : T id = some o0) (hr0 : o0.ro = false) (hμ : μ id = some loc)
    (hb : w.heap[loc.b]? = some (.cells arr el fz)) (hfz : ∀ k, k ≤ arr.size → (fz.1 = fz.2 ∨ k ≤ fz.1) → fz'.1 = fz'.2 ∨ k ≤ fz'.1) : Sim N w0 μ T (setBlk w loc.b (.cells arr el fz')) := by
  have hbl : loc.b < w.heap.size := (Array.getElem?_eq_some_iff.1 hb).1
  have hNb : N ≤ loc.b := h.own id _ loc hT hμ hr0
  refine ⟨below_setBlk h.below hNb, by rw [setBlk_size]; exact h.n_le, h.dom, fun i ob hi => ?_, h.sep, h.own, h.low⟩
  obtain ⟨li, hli, hob⟩ := h.obj i ob hi
  refine ⟨li, hli, ?_⟩
  by_cases hblk : li.b = loc.b
  · cases ob with
    | cells ro ci =>
      obtain ⟨arri, eli, fzi, hbi, g3, g4, g5, g6⟩ := hob
      rw [hblk, hb] at hbi
      cases hbi
      exact ⟨arr, el, fz', by rw [hblk]; exact setBlk_same hbl, g3, g4, g5, fun hro => hfz _ g4 (g6 hro)⟩
    | map es cl =>
      obtain ⟨_, _, l, hbi, _⟩ := hob
      rw [hblk, hb] at hbi
      cases hbi
    | bld B p s =>
      obtain ⟨g1, g2, g3, g4, p', s', fzi, hbi, g5, g6, g7⟩ := hob
      rw [hblk, hb] at hbi
      cases hbi
      exact ⟨g1, g2, g3, g4, p', s', fz', by rw [hblk]; exact setBlk_same hbl, g5, g6, hfz 2 (by simp) g7⟩
  · exact hob.of_block (setBlk_other hblk)

theorem wr_cSl (c : Cx P N w0 μ H T n tm a w) {s e0 : TypeId} {x : Operand} {ax : AOpr} {id off len k : Nat} {cs : List Value} (ho : o.op = .convert s s x) (hs : P.underlying s = some (.slice e0))
    (he : P.underlying e0 = some (.int .u8)) (h1 : cOpr P x = some ax) (hx : aev H tm ax = some (.slice (some ⟨id, off, none⟩) len k)) (hH : H id = some (.cells false cs)) (hlen : len ≠ 0) :
    WrOk P N w0 μ T o a w id (.cells false cs) (.slice (some ⟨id, off, none⟩) len k) := by
  have hr := c.aev h1 hx
  have hT := c.hs _ _ hH
  obtain ⟨loc, hl, arr, el, fz, hb, g3, g4, g5, g6⟩ := c.sim.obj id _ hT
  have hsame : T.put id (.cells false cs) = T := by
    apply Hp.ext'
    intro i
    by_cases hi : i = id
    · subst hi; rw [Hp.put_same, hT]
    · rw [Hp.put_ne _ _ hi]
  have hv : ∃ cap', a.eval x = .slice (some ⟨loc.b, loc.o + off, none⟩) len cap' := by
    generalize hq : a.eval x = q at hr
    cases hr with
    | slice _ _ _ cap _ loc2 h2 => rw [hl] at h2; cases h2; exact ⟨_, rfl⟩
    | slice0 => exact absurd rfl hlen
  obtain ⟨cap', hv⟩ := hv
  refine ⟨.value (a.eval x), a.eval x, setBlk w loc.b (.cells arr el (if fz.1 == fz.2 then (arr.size, arr.size + 1) else (min fz.1 arr.size, max fz.2 (arr.size + 1)))), ?_, .inl rfl, ?_, hr⟩
  · have hfr : w.freeze { block := loc.b, off := arr.size } 1 = setBlk w loc.b (.cells arr el (if fz.1 == fz.2 then (arr.size, arr.size + 1) else (min fz.1 arr.size, max fz.2 (arr.size + 1)))) := by
      have hbl : loc.b < w.heap.size := (Array.getElem?_eq_some_iff.1 hb).1
      simp only [World.freeze, setBlk, Nat.one_ne_zero, if_false]
      congr 1
      apply Array.ext_getElem?
      intro k
      rw [Array.getElem?_modify]
      by_cases hk : loc.b = k
      · subst hk
        rw [if_pos rfl, hb]
        obtain ⟨lo, hi⟩ := fz
        simp [hbl]
      · rw [if_neg hk, Array.getElem?_setIfInBounds_ne hk]
    have hsh : w.shape? loc.b = some (el, arr.size) := by simp [World.shape?, hb]
    rw [← hfr]
    simp [execOp, ho, convert, rUnder hs, hv, rUnder he, markStringish, hsh]
  · rw [hsame]
    refine c.sim.freeze hT rfl hl hb fun k hk h => ?_
    split
    · exact .inr hk
    · rename_i hne
      simp only [beq_iff_eq] at hne
      rcases h with h | h
      · exact absurd h hne
      · exact .inr (by simp only; omega)

theorem rSet {r : Nat} {es : Array MapEntry} {cl : Nat} {ob : Obj} (h : w.heap[r]? = some (.map es cl)) : (setObj r ob).run P w = .ok () (setBlk w r ob) := by
  simp [setObj, Sem.run, h, setBlk]

theorem VRL.set_map {es : List (Value × Value × Nat)} {l : List MapEntry} (h1 : VRL μ (es.map (·.1)) (l.map (·.key))) (h2 : VRL μ (es.map (·.2.1)) (l.map (·.val))) (h3 : es.map (·.2.2) = l.map (·.born))
    (i : Nat) {k v : Value} {b : Nat} {e : MapEntry} (hk : VR μ k e.key) (hv : VR μ v e.val) (hb : b = e.born) :
    VRL μ ((es.set i (k, v, b)).map (·.1)) ((l.set i e).map (·.key)) ∧ VRL μ ((es.set i (k, v, b)).map (·.2.1)) ((l.set i e).map (·.val)) ∧ (es.set i (k, v, b)).map (·.2.2) = (l.set i e).map (·.born) := by
  subst hb
  rw [List.map_set, List.map_set, List.map_set, List.map_set, List.map_set, List.map_set]
  exact ⟨h1.set i hk, h2.set i hv, by rw [h3]⟩

theorem sameBits_key {kd : Nat} {k k' : Value} (h : isKey kd k = true) (hk : kEq kd k k' = some true) : Instr.sameBits 10000 k' k = true := by
  unfold isKey at h
  split at h
  · cases k' <;> simp [kEq] at hk
    obtain ⟨rfl, rfl⟩ := hk
    simp [Instr.sameBits]
  · cases k' <;> simp [kEq] at hk
    have := bl_inj hk
    subst this
    simp [Instr.sameBits, beq_toListBytes]
  · cases h

theorem run_keyStays {kd : Nat} {k k' : Value} (h : isKey kd k = true) (hk : kEq kd k k' = some true) : (Instr.keyThatStays k' k).run P w = .ok k w := by
  simp [Instr.keyThatStays, sameBits_key h hk]

theorem modify_toArray (l : List MapEntry) (i : Nat) (f : MapEntry → MapEntry) (e : MapEntry) (h : l[i]? = some e) : l.toArray.modify i f = (l.set i (f e)).toArray := by
  apply Array.ext_getElem?
  intro j
  rw [Array.getElem?_modify]
  simp only [List.getElem?_toArray, List.getElem?_set]
  have hi : i < l.length := (List.getElem?_eq_some_iff.1 h).1
  split
  · rename_i hij; subst hij; rw [h]; simp
  · rfl

theorem wr_mapSet (c : Cx P N w0 μ H T n tm a w) {t kt et : TypeId} {kd : Nat} {m k y : Operand} {am ak ay : AOpr} {id : Nat} {es : List (Value × Value × Nat)} {cl : Nat} {vk vy : Value}
    {r : Option (Nat × Value × Nat)} (ho : o.op = .mapUpdate t m k y) (ht : P.underlying t = some (.map kt et)) (hkt : keyType P kt = some kd)
    (h1 : cOpr P m = some am) (h2 : cOpr P k = some ak) (h3 : cOpr P y = some ay) (hm : aev H tm am = some (.map (some id))) (hk : aev H tm ak = some vk) (hy : aev H tm ay = some vy)
    (hkey : isKey kd vk = true) (hH : H id = some (.map es cl)) (hf : findA kd vk es = some r) :
    match r with
    | some (i, _, b) => WrOk P N w0 μ T o a w id (.map (es.set i (vk, vy, b)) cl) undef
    | none => WrOk P N w0 μ T o a w id (.map (es ++ [(vk, vy, cl)]) (cl + 1)) undef := by
  obtain ⟨d, hd, hkd⟩ := keyType_spec hkt
  have hrk := c.aev h2 hk
  have ek := isKey_vr hkey hrk
  have hry := c.aev h3 hy
  obtain ⟨loc, hl, e⟩ := (c.aev h1 hm).map_inv
  obtain ⟨loc', l, hl', hb, g1, g2, g3⟩ := c.map hH
  rw [hl] at hl'; cases hl'
  have hck := run_checkKey0 (P := P) (w := w) hd hkd false 9999 vk hkey
  rcases findNow_of hkd es l r 0 hf g1 g2 g3 with ⟨rfl, hfn⟩ | ⟨i, v, b, v', e', rfl, hfn, hv, hli, hev, heb, hsn, k0, hk0, hkeq, hk0e⟩
  · refine ⟨.skip, undef, setBlk w loc.b (.map (l ++ [({ key := vk, val := a.eval y, born := cl } : MapEntry)]).toArray (cl + 1)), ?_, .inr ⟨rfl, rfl⟩, ?_, undef_vr⟩
    · simp only [execOp, ho, Instr.mapUpdate, e, ek, Sem.run_bind, rUnder ht, Result.andThen_ok, rObj hb, hck, Instr.findKey, rUnder hd, hfn, Sem.run_pure, rSet hb, List.push_toArray]
    · refine c.sim.updMap (c.hs _ _ hH) hl hb ?_ ?_ ?_
      · rw [List.map_append, List.map_append]; exact g1.append (VRL.cons (by rw [← ek]; exact ek ▸ hrk) .nil)
      · rw [List.map_append, List.map_append]; exact g2.append (VRL.cons hry .nil)
      · rw [List.map_append, List.map_append, g3]; rfl
  · have hkk : kEq kd vk e'.key = some true := by rw [← hk0e]; exact hkeq
    obtain ⟨s1, s2, s3⟩ := VRL.set_map g1 g2 g3 i (k := vk) (v := vy) (b := b) (e := { e' with key := vk, val := a.eval y }) (by rw [ek] at hrk; exact hrk) hry heb.symm
    refine ⟨.skip, undef, setBlk w loc.b (.map (l.set i { e' with key := vk, val := a.eval y }).toArray cl), ?_, .inr ⟨rfl, rfl⟩, c.sim.updMap (c.hs _ _ hH) hl hb s1 s2 s3, undef_vr⟩
    have hkey' : ((l.toArray[i]?).map (·.key)).getD vk = e'.key := by simp [hli]
    simp only [execOp, ho, Instr.mapUpdate, e, ek, Sem.run_bind, rUnder ht, Result.andThen_ok, rObj hb, hck, Instr.findKey, rUnder hd, hfn, Sem.run_pure, Nat.zero_add, hkey', run_keyStays hkey hkk,
      modify_toArray l i _ e' hli, rSet hb]

theorem wr_mapEntry (c : Cx P N w0 μ H T n tm a w) {t kt et : TypeId} {kd : Nat} {m k : Operand} {am ak : AOpr} {id : Nat} {es : List (Value × Value × Nat)} {cl : Nat} {vk z : Value} {ti : TypeInfo}
    {r : Option (Nat × Value × Nat)} (ho : o.op = .mapEntry t m k) (ht : P.underlying t = some (.map kt et)) (hkt : keyType P kt = some kd) (hi : P.info? et = some ti) (hz : ti.zero = some z) (hzk : okConst z = true)
    (h1 : cOpr P m = some am) (h2 : cOpr P k = some ak) (hm : aev H tm am = some (.map (some id))) (hk : aev H tm ak = some vk)
    (hkey : isKey kd vk = true) (hH : H id = some (.map es cl)) (hf : findA kd vk es = some r) :
    match r with
    | some (i, v, b) => WrOk P N w0 μ T o a w id (.map (es.set i (vk, v, b)) cl) (.tuple #[v, .int .i64 b])
    | none => WrOk P N w0 μ T o a w id (.map (es ++ [(vk, z, cl)]) (cl + 1)) (.tuple #[z, .int .i64 cl]) := by
  obtain ⟨d, hd, hkd⟩ := keyType_spec hkt
  have hrk := c.aev h2 hk
  have ek := isKey_vr hkey hrk
  obtain ⟨loc, hl, e⟩ := (c.aev h1 hm).map_inv
  obtain ⟨loc', l, hl', hb, g1, g2, g3⟩ := c.map hH
  rw [hl] at hl'; cases hl'
  have hzr : VR μ z z := okConst_vr hzk
  have hzero := rZero (P := P) (w := w) hi hz
  have hck := run_checkKey0 (P := P) (w := w) hd hkd false 9999 vk hkey
  have tup : ∀ (v v' : Value) (b : Int), VR μ v v' → VR μ (.tuple #[v, .int .i64 b]) (.tuple #[v', .int .i64 b]) := by
    intro v v' b hv
    refine .tuple _ _ rfl fun i x x' hx hx' => ?_
    match i with
    | 0 => simp at hx hx'; subst hx; subst hx'; exact hv
    | 1 => simp at hx hx'; subst hx; subst hx'; exact .int _ _
    | i + 2 => simp at hx
  rcases findNow_of hkd es l r 0 hf g1 g2 g3 with ⟨rfl, hfn⟩ | ⟨i, v, b, v', e', rfl, hfn, hv, hli, hev, heb, hsn, k0, hk0, hkeq, hk0e⟩
  · refine ⟨.value (.tuple #[z, .int .i64 cl]), _, setBlk w loc.b (.map (l ++ [({ key := vk, val := z, born := cl } : MapEntry)]).toArray (cl + 1)), ?_, .inl rfl, ?_, tup z z cl hzr⟩
    · simp only [execOp, ho, Instr.mapEntry, e, ek, Sem.run_bind, rUnder ht, Result.andThen_ok, rObj hb, hck, Instr.findKey, rUnder hd, hfn, Sem.run_pure, hzero, rSet hb, List.push_toArray, goInt]
    · refine c.sim.updMap (c.hs _ _ hH) hl hb ?_ ?_ ?_
      · rw [List.map_append, List.map_append]; exact g1.append (VRL.cons (by rw [ek] at hrk; exact hrk) .nil)
      · rw [List.map_append, List.map_append]; exact g2.append (VRL.cons hzr .nil)
      · rw [List.map_append, List.map_append, g3]; rfl
  · have hkk : kEq kd vk e'.key = some true := by rw [← hk0e]; exact hkeq
    obtain ⟨s1, s2, s3⟩ := VRL.set_map g1 g2 g3 i (k := vk) (v := v) (b := b) (e := { e' with key := vk }) (by rw [ek] at hrk; exact hrk) (by rw [hev]; exact hv) heb.symm
    refine ⟨.value (.tuple #[v', .int .i64 b]), _, setBlk w loc.b (.map (l.set i { e' with key := vk }).toArray cl), ?_, .inl rfl, c.sim.updMap (c.hs _ _ hH) hl hb s1 s2 s3, tup v v' b hv⟩
    have hkey' : ((l.toArray[i]?).map (·.key)).getD vk = e'.key := by simp [hli]
    have hborn' : ((l.toArray[i]?).map (fun x => ((x.born : Nat) : Int))).getD 0 = (b : Int) := by simp [hli, heb]
    simp only [execOp, ho, Instr.mapEntry, e, ek, Sem.run_bind, rUnder ht, Result.andThen_ok, rObj hb, hck, Instr.findKey, rUnder hd, hfn, Sem.run_pure, Nat.zero_add, hkey', hborn', run_keyStays hkey hkk,
      modify_toArray l i _ e' hli, rSet hb, goInt]

end
end Go.Ab
