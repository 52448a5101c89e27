/- The light operations, the last: conversions, function values, slicing, lengths, the least and the greatest, maps that are asked, literals. -/
import Derived.Test.YtdnfnjdkemohaaaGreatDoorAb6
namespace Go.Ab

section
variable {P : Program} {N : Nat} {w0 : World} {μ : Mu} {H T : Hp} {n : Nat} {tm : Tm} {a : Act} {w : World} {o : Oper}

theorem val_cInt (c : Cx P N w0 μ H T n tm a w) {s t : TypeId} {k k' : IntKind} {x : Operand} {ax : AOpr} {k0 : IntKind} {i : Int} (ho : o.op = .convert s t x)
    (hs : P.underlying s = some (.int k0)) (ht : P.underlying t = some (.int k)) (h1 : cOpr P x = some ax) (hx : aev H tm ax = some (.int k' i)) : ValOk P μ o a w (.int k (k.wrap i)) := by
  have e := (c.aev h1 hx).int_inv
  exact ⟨_, by simp [execOp, ho, convert, rUnder hs, rUnder ht, e, Conv.intToInt], .int _ _⟩

theorem val_cId (c : Cx P N w0 μ H T n tm a w) {s t : TypeId} {x : Operand} {ax : AOpr} {b : ByteArray} (ho : o.op = .convert s t x)
    (hs : P.underlying s = some .string) (ht : P.underlying t = some .string) (h1 : cOpr P x = some ax) (hx : aev H tm ax = some (.string b)) : ValOk P μ o a w (.string b) := by
  have e := (c.aev h1 hx).string_inv
  exact ⟨_, by simp [execOp, ho, convert, rUnder hs, rUnder ht, e], .string _⟩

/-- The cells of a slice, in the World. -/
theorem Cx.slCells (c : Cx P N w0 μ H T n tm a w) {size : Nat} {v v' : Value} {cs : List Value} (h : slCells H size v = some cs) (hr : VR μ v v') :
    (v = .slice none 0 0 ∧ v' = .slice none 0 0 ∧ cs = []) ∨
    (∃ id off len b o' cap ro all, v = .slice (some ⟨id, off, none⟩) len size ∧ v' = .slice (some ⟨b, o', none⟩) len cap ∧ H id = some (.cells ro all) ∧ off + len * size ≤ all.length ∧ cs = (all.drop off).take (len * size) ∧ cs.length = len * size ∧
      (∀ v ∈ cs, scalar v = true) ∧
      (∀ (j : Nat) u, cs[j]? = some u → ∃ u', w.cell? ((⟨b, o', none⟩ : Addr).add j) = some u' ∧ VR μ u u') ∧
      (∃ loc, μ id = some loc ∧ ((b = loc.b ∧ o' = loc.o + off ∧ len ≤ cap ∧ off + cap * size ≤ loc.room) ∨ (len = 0 ∧ cap = 0)))) ∨
    (∃ id off b ro all, v = .slice (some ⟨id, off, none⟩) 0 size ∧ v' = .slice (some b) 0 0 ∧ H id = some (.cells ro all) ∧ off ≤ all.length ∧ cs = []) := by
  unfold Ab.slCells at h
  split at h
  · cases h
    cases hr
    exact .inl ⟨rfl, rfl, rfl⟩
  · rename_i id off len e
    split at h
    · rename_i ro all hH
      split at h
      · rename_i hb
        obtain ⟨rfl, hlen⟩ := hb
        cases h
        obtain ⟨loc, hl, hroom, hcell⟩ := c.cell hH
        cases hr with
        | slice _ _ _ cap _ loc' hl' hc hr =>
          rw [hl] at hl'; cases hl'
          refine .inr (.inl ⟨id, off, len, loc.b, loc.o + off, cap, ro, all, rfl, rfl, hH, hlen, rfl, by simp; omega, ?_, ?_, loc, hl, .inl ⟨rfl, rfl, hc, hr⟩⟩)
          · intro u hu
            obtain ⟨j, hj⟩ := List.getElem?_of_mem hu
            rw [List.getElem?_take] at hj
            split at hj
            · rw [List.getElem?_drop] at hj
              exact (hcell _ _ hj).1
            · cases hj
          · intro j u hu
            rw [List.getElem?_take] at hu
            split at hu
            · rw [List.getElem?_drop] at hu
              obtain ⟨_, u', h1, h2⟩ := hcell _ _ hu
              exact ⟨u', by rw [addr_add, Nat.add_assoc]; exact h1, h2⟩
            · cases hu
        | slice0 _ _ a' =>
          exact .inr (.inr ⟨id, off, a', ro, all, rfl, rfl, hH, by omega, by simp⟩)
      · cases h
    · cases h
  · cases h

/-- Loading cells that are known. -/
theorem run_loadList {b : Addr} {cs cs' : List Value} (hl : cs.length = cs'.length) (h : ∀ (j : Nat) u, cs'[j]? = some u → w.cell? (b.add j) = some u) :
    (loadCells b cs.length).run P w = .ok cs'.toArray w := by
  rw [hl]
  exact run_loadCells_list (P := P) (w := w) b cs' h

/-- The World's cells for the abstract ones. -/
theorem cells_list {b : Addr} {cs : List Value} (h : ∀ (j : Nat) u, cs[j]? = some u → ∃ u', w.cell? (b.add j) = some u' ∧ VR μ u u') :
    ∃ cs', VRL μ cs cs' ∧ ∀ (j : Nat) u, cs'[j]? = some u → w.cell? (b.add j) = some u := by
  refine ⟨(List.range cs.length).map fun j => (w.cell? (b.add j)).getD undef, ⟨by simp, fun i v v' hv hv' => ?_⟩, fun j u hu => ?_⟩
  · obtain ⟨u', h1, h2⟩ := h i v hv
    have hi : i < cs.length := (List.getElem?_eq_some_iff.1 hv).1
    rw [List.getElem?_map, List.getElem?_range hi] at hv'
    simp only [h1, Option.map_some, Option.getD_some, Option.some.injEq] at hv'
    rw [← hv']; exact h2
  · by_cases hj : j < cs.length
    · obtain ⟨u', h1, h2⟩ := h j cs[j] (by simp [hj])
      rw [List.getElem?_map, List.getElem?_range hj] at hu
      simp only [h1, Option.map_some, Option.getD_some, Option.some.injEq] at hu
      rw [← hu]; exact h1
    · rw [List.getElem?_eq_none (by simp; omega)] at hu
      cases hu

theorem bytesOf_cells : ∀ {cs : List Value} {l : List UInt8}, bytesOf cs = some l → ∀ {cs' : List Value}, VRL μ cs cs' → cs' = cs ∧ ∀ v ∈ cs, ∃ m, v = .int .u8 m := by
  intro cs
  induction cs with
  | nil => intro l h cs' hr; exact ⟨hr.cases_nil, by simp⟩
  | cons v cs ih =>
    intro l h cs' hr
    obtain ⟨v', m, rfl, hv, hm⟩ := hr.cases_cons
    unfold bytesOf at h
    split at h
    · rename_i heq; cases heq
    · rename_i k r heq
      cases heq
      split at h
      · rename_i q hq
        obtain ⟨rfl, hall⟩ := ih hq hm
        refine ⟨by rw [hv.int_inv], ?_⟩
        intro x hx
        rcases List.mem_cons.1 hx with rfl | hx
        · exact ⟨_, rfl⟩
        · exact hall x hx
      · cases h
    · cases h

theorem forIn_bytes : ∀ (cs : List Value) (l : List UInt8) (s : ByteArray), bytesOf cs = some l →
    (forIn cs s (fun c (s : ByteArray) => match c with
      | Value.int IntKind.u8 n => (pure (ForInStep.yield (s.push (UInt8.ofNat n.toNat))) : Sem (ForInStep ByteArray))
      | _ => do stuck "bytesToString: byte expected"; pure (ForInStep.yield s)) : Sem ByteArray).run P w = .ok (str (bl s ++ l)) w := by
  intro cs
  induction cs with
  | nil => intro l s h; simp only [bytesOf, Option.some.injEq] at h; subst h; simp [str_bl]
  | cons v cs ih =>
    intro l s h
    unfold bytesOf at h
    split at h
    · rename_i heq; cases heq
    · rename_i k r heq
      cases heq
      split at h
      · rename_i q hq
        cases h
        simp only [List.forIn_cons, pure_bind]
        rw [ih q _ hq]
        congr 1
        apply bl_inj
        rw [bl_str, bl_str]
        simp [bl, ByteArray.push]
      · cases h
    · cases h

theorem val_cStr (c : Cx P N w0 μ H T n tm a w) {s t e : TypeId} {x : Operand} {ax : AOpr} {v : Value} {cs : List Value} {l : List UInt8} (ho : o.op = .convert s t x)
    (hs : P.underlying s = some (.slice e)) (ht : P.underlying t = some .string) (he : P.underlying e = some (.int .u8)) (h1 : cOpr P x = some ax) (hx : aev H tm ax = some v)
    (hc : Ab.slCells H 1 v = some cs) (hl : bytesOf cs = some l) : ValOk P μ o a w (.string (str l)) := by
  refine ⟨.string (str l), ?_, .string _⟩
  have hr := c.aev h1 hx
  rcases c.slCells hc hr with ⟨_, e2, rfl⟩ | ⟨id, off, len, b, o', cap, ro, all, rfl, e2, hH, hlen, hcs, hcl, _, hcells, _⟩ | ⟨id, off, b, ro, all, rfl, e2, hH, hlen, rfl⟩
  · simp only [bytesOf, Option.some.injEq] at hl
    subst hl
    simp [execOp, ho, convert, rUnder hs, rUnder ht, e2, rUnder he, Conv.bytesToString]
    rfl
  · obtain ⟨cs', h3, h4⟩ := cells_list hcells
    obtain ⟨rfl, _⟩ := bytesOf_cells hl h3
    have hlen' : len = cs'.length := by omega
    have hload := run_loadList (P := P) (w := w) (b := ⟨b, o', none⟩) (cs := cs') (cs' := cs') rfl h4
    have hfor := forIn_bytes (P := P) (w := w) cs' l ByteArray.empty hl
    simp only [execOp, ho, convert, e2, Sem.run_bind, rUnder hs, rUnder ht, rUnder he, Result.andThen_ok, Conv.bytesToString, hlen', hload, List.forIn_toArray]
    erw [hfor]
    rfl
  · simp only [bytesOf, Option.some.injEq] at hl
    subst hl
    simp [execOp, ho, convert, rUnder hs, rUnder ht, e2, rUnder he, Conv.bytesToString, loadCells, loadCellsFrom]
    rfl

theorem val_mkFunc (c : Cx P N w0 μ H T n tm a w) {fn : Fn} {f g : Array Operand} {af ag : List AOpr} {vf vg : List Value} (ho : o.op = .makeFunc fn f g)
    (h1 : cOprs P f.toList = some af) (h2 : cOprs P g.toList = some ag) (hf : aevs H tm af = some vf) (hg : aevs H tm ag = some vg) : ValOk P μ o a w (.func fn vf.toArray vg.toArray) := by
  have r1 := c.aevs h1 hf
  have r2 := c.aevs h2 hg
  refine ⟨.func fn (f.map a.eval) (g.map a.eval), by simp [execOp, ho, Instr.makeFunc], ?_⟩
  refine .func _ _ _ _ _ ?_ (fun i v v' hv hv' => r1.2 i v v' (by simpa using hv) (by simpa using hv')) ?_ (fun i v v' hv hv' => r2.2 i v v' (by simpa using hv) (by simpa using hv'))
  · simpa using r1.1
  · simpa using r2.1

theorem Cx.oint (c : Cx P N w0 μ H T n tm a w) {d : Int} {x : Option Operand} {ax : Option AOpr} {i : Int} (h1 : cOptOpr P x = some ax) (h2 : Ab.oint d H tm ax = some i) :
    (x = none ∧ i = d) ∨ ∃ y k, x = some y ∧ a.eval y = .int k i := by
  cases x with
  | none =>
    simp only [cOptOpr, Option.some.injEq] at h1
    subst h1
    simp only [Ab.oint, Option.some.injEq] at h2
    exact .inl ⟨rfl, h2.symm⟩
  | some y =>
    simp only [cOptOpr] at h1
    split at h1
    · rename_i z hz
      cases h1
      simp only [Ab.oint] at h2
      split at h2
      · rename_i k j hj
        cases h2
        exact .inr ⟨y, k, rfl, (c.aev hz hj).int_inv⟩
      · cases h2
    · cases h1

theorem run_sliceBound {k : IntKind} {i : Int} {y : Nat} {code : BoundsCode} (h : 0 ≤ i ∧ i ≤ y) : (Instr.sliceBound (.int k i) y code).run P w = .ok i.toNat w := by
  simp [Instr.sliceBound, asIntOf, h]

theorem val_slStr (c : Cx P N w0 μ H T n tm a w) {t : TypeId} {x : Operand} {lo hi : Option Operand} {ax : AOpr} {alo ahi : Option AOpr} {s : ByteArray} {l h : Int}
    (ho : o.op = .slice t x lo hi none) (ht : P.underlying t = some .string) (h1 : cOpr P x = some ax) (h2 : cOptOpr P lo = some alo) (h3 : cOptOpr P hi = some ahi)
    (hx : aev H tm ax = some (.string s)) (hh : Ab.oint (bl s).length H tm ahi = some h) (hl : Ab.oint 0 H tm alo = some l)
    (hb : 0 ≤ l ∧ l ≤ h ∧ h ≤ (bl s).length) : ValOk P μ o a w (.string (str (((bl s).drop l.toNat).take (h.toNat - l.toNat)))) := by
  have e := (c.aev h1 hx).string_inv
  have hlen := bl_len s
  refine ⟨_, ?_, .string _⟩
  have hbound : (Instr.sliceBounds false s.size s.size (lo.map a.eval) (hi.map a.eval) none).run P w = .ok (l.toNat, h.toNat, s.size) w := by
    rcases c.oint h2 hl with ⟨rfl, rfl⟩ | ⟨y, k, rfl, ey⟩ <;> rcases c.oint h3 hh with ⟨rfl, rfl⟩ | ⟨z, k', rfl, ez⟩
    · simp [Instr.sliceBounds, hlen]
    · simp [Instr.sliceBounds, ez, run_sliceBound (P := P) (w := w) (k := k') (i := h) (y := s.size) ⟨by omega, by omega⟩]
    · simp [Instr.sliceBounds, ey, hlen, run_sliceBound (P := P) (w := w) (k := k) (i := l) (y := s.size) ⟨by omega, by omega⟩]
    · simp [Instr.sliceBounds, ey, ez, run_sliceBound (P := P) (w := w) (k := k') (i := h) (y := s.size) ⟨by omega, by omega⟩,
        run_sliceBound (P := P) (w := w) (k := k) (i := l) (y := h.toNat) ⟨by omega, by omega⟩]
  simp [execOp, ho, Instr.sliceAt, rUnder ht, Instr.slice, e, hbound, str_extract]

theorem val_slSl (c : Cx P N w0 μ H T n tm a w) {t el : TypeId} {x : Operand} {lo hi mx : Option Operand} {ax : AOpr} {alo ahi amx : Option AOpr} {id off len size : Nat} {l h m : Int}
    (ho : o.op = .slice t x lo hi mx) (ht : P.underlying t = some (.slice el)) (hz : szOf P el = some size) (h1 : cOpr P x = some ax) (h2 : cOptOpr P lo = some alo) (h3 : cOptOpr P hi = some ahi)
    (h4 : cOptOpr P mx = some amx) (hmh : mx.isSome = true → hi.isSome = true)
    (hx : aev H tm ax = some (.slice (some ⟨id, off, none⟩) len size)) (hl : Ab.oint 0 H tm alo = some l) (hh : Ab.oint len H tm ahi = some h) (hm : Ab.oint len H tm amx = some m)
    (hb : 0 ≤ l ∧ l ≤ h ∧ h ≤ m ∧ m ≤ len) : ValOk P μ o a w (.slice (some ⟨id, off + l.toNat * size, none⟩) (h.toNat - l.toNat) size) := by
  have hr := c.aev h1 hx
  -- what the model reckons, for any actual slice of the length
  have hbound : ∀ cap : Nat, len ≤ cap → ∃ m' : Nat, h ≤ m' ∧ m' ≤ cap ∧ (Instr.sliceBounds true len cap (lo.map a.eval) (hi.map a.eval) (mx.map a.eval)).run P w = .ok (l.toNat, h.toNat, m') w := by
    intro cap hcap
    rcases c.oint h4 hm with ⟨rfl, rfl⟩ | ⟨ym, km, rfl, em⟩
    · refine ⟨cap, by omega, Nat.le_refl _, ?_⟩
      rcases c.oint h2 hl with ⟨rfl, rfl⟩ | ⟨y, k, rfl, ey⟩ <;> rcases c.oint h3 hh with ⟨rfl, rfl⟩ | ⟨z, k', rfl, ez⟩
      · simp [Instr.sliceBounds]
      · simp [Instr.sliceBounds, ez, run_sliceBound (P := P) (w := w) (k := k') (i := h) (y := cap) ⟨by omega, by omega⟩]
      · simp [Instr.sliceBounds, ey, run_sliceBound (P := P) (w := w) (k := k) (i := l) (y := len) ⟨by omega, by omega⟩]
      · simp [Instr.sliceBounds, ey, ez, run_sliceBound (P := P) (w := w) (k := k') (i := h) (y := cap) ⟨by omega, by omega⟩,
          run_sliceBound (P := P) (w := w) (k := k) (i := l) (y := h.toNat) ⟨by omega, by omega⟩]
    · refine ⟨m.toNat, by omega, by omega, ?_⟩
      rcases c.oint h3 hh with ⟨rfl, _⟩ | ⟨z, k', rfl, ez⟩
      · exact absurd (hmh rfl) (by simp)
      · rcases c.oint h2 hl with ⟨rfl, rfl⟩ | ⟨y, k, rfl, ey⟩
        · simp [Instr.sliceBounds, em, ez, run_sliceBound (P := P) (w := w) (k := km) (i := m) (y := cap) ⟨by omega, by omega⟩,
            run_sliceBound (P := P) (w := w) (k := k') (i := h) (y := m.toNat) ⟨by omega, by omega⟩]
        · simp [Instr.sliceBounds, em, ey, ez, run_sliceBound (P := P) (w := w) (k := km) (i := m) (y := cap) ⟨by omega, by omega⟩,
            run_sliceBound (P := P) (w := w) (k := k') (i := h) (y := m.toNat) ⟨by omega, by omega⟩,
            run_sliceBound (P := P) (w := w) (k := k) (i := l) (y := h.toNat) ⟨by omega, by omega⟩]
  generalize he : a.eval x = ex at hr
  cases hr with
  | slice _ _ _ cap _ loc hloc hc hroom =>
    obtain ⟨m', hm1, hm2, hrun⟩ := hbound cap hc
    refine ⟨.slice (if m' = l.toNat then some ⟨loc.b, loc.o + off, none⟩ else some ⟨loc.b, loc.o + off + l.toNat * size, none⟩) (h.toNat - l.toNat) (m' - l.toNat), ?_, ?_⟩
    · simp [execOp, ho, Instr.sliceAt, rUnder ht, Instr.slice, he, hrun, rSize hz, addr_add]
    · split
      · rename_i hml
        have e0 : h.toNat - l.toNat = 0 := by omega
        rw [e0, show m' - l.toNat = 0 from by omega]
        exact .slice0 _ _ _
      · have hcap : (l.toNat + (m' - l.toNat)) * size ≤ cap * size := Nat.mul_le_mul_right _ (by omega)
        rw [Nat.add_mul] at hcap
        have := VR.slice (μ := μ) id (off + l.toNat * size) (h.toNat - l.toNat) (m' - l.toNat) size loc hloc (by omega) (by omega)
        rw [Nat.add_assoc]
        exact this
  | slice0 _ _ a' =>
    obtain ⟨m', hm1, hm2, hrun⟩ := hbound 0 (Nat.le_refl _)
    refine ⟨.slice (some a') 0 0, ?_, ?_⟩
    · have e1 : m' = 0 := by omega
      have e2 : l.toNat = 0 := by omega
      have e3 : h.toNat = 0 := by omega
      subst e1
      rw [e2, e3] at hrun
      simp [execOp, ho, Instr.sliceAt, rUnder ht, Instr.slice, he, hrun, rSize hz]
    · rw [show h.toNat - l.toNat = 0 from by omega]
      exact .slice0 _ _ _

theorem val_slNil (c : Cx P N w0 μ H T n tm a w) {t el : TypeId} {x : Operand} {lo hi mx : Option Operand} {ax : AOpr} {alo ahi amx : Option AOpr} {size : Nat}
    (ho : o.op = .slice t x lo hi mx) (ht : P.underlying t = some (.slice el)) (hz : szOf P el = some size) (h1 : cOpr P x = some ax) (h2 : cOptOpr P lo = some alo) (h3 : cOptOpr P hi = some ahi)
    (h4 : cOptOpr P mx = some amx) (hmh : mx.isSome = true → hi.isSome = true)
    (hx : aev H tm ax = some (.slice none 0 0)) (hl : Ab.oint 0 H tm alo = some 0) (hh : Ab.oint 0 H tm ahi = some 0) (hm : Ab.oint 0 H tm amx = some 0) : ValOk P μ o a w (.slice none 0 0) := by
  have hr := c.aev h1 hx
  have hb := fun (k : IntKind) (y : Nat) (cd : BoundsCode) => run_sliceBound (P := P) (w := w) (k := k) (i := 0) (y := y) (code := cd) ⟨by omega, by omega⟩
  have hrun : (Instr.sliceBounds true 0 0 (lo.map a.eval) (hi.map a.eval) (mx.map a.eval)).run P w = .ok (0, 0, 0) w := by
    rcases c.oint h4 hm with ⟨rfl, _⟩ | ⟨ym, km, rfl, em⟩ <;> rcases c.oint h2 hl with ⟨rfl, _⟩ | ⟨y, k, rfl, ey⟩ <;> rcases c.oint h3 hh with ⟨rfl, _⟩ | ⟨z, k', rfl, ez⟩ <;>
      first
        | (simp only [Instr.sliceBounds, Option.map_some, Option.map_none, Sem.run_bind, Result.andThen_ok, Sem.run_pure, Int.toNat_zero, *]; done)
        | (exfalso; have := hmh rfl; cases this)
  generalize he : a.eval x = ex at hr
  cases hr
  exact ⟨.slice none 0 0, by simp [execOp, ho, Instr.sliceAt, rUnder ht, Instr.slice, he, hrun, rSize hz], .nils⟩

end
end Go.Ab
