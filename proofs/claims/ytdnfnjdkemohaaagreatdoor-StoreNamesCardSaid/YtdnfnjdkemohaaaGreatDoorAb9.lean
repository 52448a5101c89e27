/- Bodies of the library that the model answers by itself: bits of floats, sums with a carry, the place of a byte; and literals of structs and arrays. -/
import Derived.Test.YtdnfnjdkemohaaaGreatDoorAb8
import Derived.KernelRfl
import Derived.Laws.Tables
namespace Go.Ab

section
variable {P : Program} {N : Nat} {w0 : World} {μ : Mu} {H T : Hp} {n : Nat} {tm : Tm} {a : Act} {w : World} {o : Oper}

theorem nextRow0 : Extern.allNextRows.lookup "" = none := by kernel_rfl
theorem nextRowF : Extern.allNextRows.lookup "math.Float64frombits" = none := by kernel_rfl
theorem nextRowA : Extern.allNextRows.lookup "math/bits.Add64" = none := by kernel_rfl
theorem nextRowI : Extern.allNextRows.lookup "internal/bytealg.IndexByteString" = none := by kernel_rfl

theorem run_extern {f : Nat} {fn : Func} {args : Array Value} {e : Array Value → Sem Value} (hf : P.funcs[f]? = some fn) (hb : fn.body = none) (hn : fn.name ≠ "runtime.NumGoroutine")
    (h1 : Extern.findNext fn = none) (h2 : Extern.find fn = some e) : (callFunc f args).run P w = ((e args).run P w).andThen fun v w' => .ok (.value v) w' := by
  simp [callFunc, hf, hb, hn, h1, h2]

theorem exec_extern {f : Nat} {fn : Func} {args : Array Operand} {ts : Array TypeId} {e : Array Value → Sem Value} (ho : o.op = .call { callee := .value (.func f), args := args, argTypes := ts })
    (hf : P.funcs[f]? = some fn) (hb : fn.body = none) (hn : fn.name ≠ "runtime.NumGoroutine") (h1 : Extern.findNext fn = none) (h2 : Extern.find fn = some e) :
    (execOp a.eval o).run P w = ((e (args.map a.eval)).run P w).andThen fun v w' => .ok (.value v) w' := by
  have := run_extern (P := P) (w := w) (args := args.map a.eval) hf hb hn h1 h2
  simp only [execOp, ho, resolve, Act.eval, Deferred.ofValue, Sem.run_bind, Sem.run_pure, Result.andThen_ok, invoke, Array.empty_append, Array.append_empty]
  exact this

theorem find_of {fn : Func} {nm : String} (h1 : fn.name = nm) (h2 : fn.origin = "") (hn : Extern.allNextRows.lookup nm = none) : Extern.findNext fn = none := by
  simp [Extern.findNext, h1, h2, hn, nextRow0]

theorem find_row {fn : Func} {nm : String} {e : Array Value → Sem Value} (h1 : fn.name = nm) (g1 : Extern.allGenericRows.lookup nm = none) (g2 : Extern.allTypedRows.lookup nm = none)
    (g3 : Extern.allRows.lookup nm = some e) : Extern.find fn = some e := by
  simp [Extern.find, h1, g1, g2, g3]

theorem f64_eq (i : Int) : Extern.MathFloatBits.float64frombits #[.int .u64 i] = pure (.float .f64 i.toNat) := rfl
theorem three_eq (nm : String) (x y c : Value) : Extern.MathBitsCarry.three nm #[x, y, c] = (do
    let c := (← asInt c).toNat
    if c > 1 then unsupported (.noEntry ("extern/math/bits." ++ nm ++ ": a carry that is neither 0 nor 1"))
    pure ((← asInt x).toNat, (← asInt y).toNat, c)) := rfl

theorem val_f64bits (c : Cx P N w0 μ H T n tm a w) {f : Nat} {fn : Func} {args : Array Operand} {ts : Array TypeId} {x : Operand} {ax : AOpr} {i : Int}
    (ho : o.op = .call { callee := .value (.func f), args := args, argTypes := ts }) (ha : args.toList = [x]) (hf : P.funcs[f]? = some fn) (hb : fn.body = none)
    (hn : fn.name = "math.Float64frombits") (hor : fn.origin = "") (h1 : cOpr P x = some ax) (hx : aev H tm ax = some (.int .u64 i)) : ValOk P μ o a w (.float .f64 i.toNat) := by
  have ea : args = #[x] := by rw [← Array.toList_inj]; exact ha
  subst ea
  refine ⟨.float .f64 i.toNat, ?_, .float _ _⟩
  rw [exec_extern (P := P) (w := w) ho hf hb (by rw [hn]; decide) (find_of hn hor nextRowF)
    (find_row hn (e := Extern.MathFloatBits.float64frombits) (by kernel_rfl) (by kernel_rfl) (by kernel_rfl))]
  have := (c.aev h1 hx).int_inv
  simp [this, f64_eq]

theorem val_add64 (c : Cx P N w0 μ H T n tm a w) {f : Nat} {fn : Func} {args : Array Operand} {ts : Array TypeId} {x y z : Operand} {ax ay az : AOpr} {i j k : Int}
    (ho : o.op = .call { callee := .value (.func f), args := args, argTypes := ts }) (ha : args.toList = [x, y, z]) (hf : P.funcs[f]? = some fn) (hb : fn.body = none)
    (hn : fn.name = "math/bits.Add64") (hor : fn.origin = "") (h1 : cOpr P x = some ax) (h2 : cOpr P y = some ay) (h3 : cOpr P z = some az) (hx : aev H tm ax = some (.int .u64 i))
    (hy : aev H tm ay = some (.int .u64 j)) (hz : aev H tm az = some (.int .u64 k)) (hk : k.toNat ≤ 1) :
    ValOk P μ o a w (.tuple #[.int .u64 (Int.ofNat ((i.toNat + j.toNat + k.toNat) % 18446744073709551616)), .int .u64 (Int.ofNat ((i.toNat + j.toNat + k.toNat) / 18446744073709551616))]) := by
  have ea : args = #[x, y, z] := by rw [← Array.toList_inj]; exact ha
  subst ea
  have e1 := (c.aev h1 hx).int_inv
  have e2 := (c.aev h2 hy).int_inv
  have e3 := (c.aev h3 hz).int_inv
  have hk' : ¬ (k.toNat > 1) := by omega
  generalize hr : Value.tuple #[.int .u64 (Int.ofNat ((i.toNat + j.toNat + k.toNat) % 18446744073709551616)), .int .u64 (Int.ofNat ((i.toNat + j.toNat + k.toNat) / 18446744073709551616))] = r
  refine ⟨r, ?_, okConst_vr (by subst hr; simp [okConst, flat])⟩
  have hp : Extern.MathBitsCarry.pair ((i.toNat + j.toNat + k.toNat) % Extern.MathBitsCarry.m64) ((i.toNat + j.toNat + k.toNat) / Extern.MathBitsCarry.m64) = r := by
    rw [← hr]; rfl
  have hrow := find_row (e := fun args => do
      let (x, y, c) ← Extern.MathBitsCarry.three "Add64" args
      pure (Extern.MathBitsCarry.pair ((x + y + c) % Extern.MathBitsCarry.m64) ((x + y + c) / Extern.MathBitsCarry.m64))) hn (by kernel_rfl) (by kernel_rfl) (by kernel_rfl)
  rw [exec_extern (P := P) (w := w) ho hf hb (by rw [hn]; decide) (find_of hn hor nextRowA) hrow]
  have hargs : (#[x, y, z].map a.eval) = #[.int .u64 i, .int .u64 j, .int .u64 k] := by simp [e1, e2, e3]
  rw [hargs, Sem.run_bind, three_eq]
  simp only [asInt, asIntOf, Sem.run_bind, Sem.run_pure, Result.andThen_ok, if_neg hk', hp]

theorem VRL.set {l l' : List Value} (h : VRL μ l l') (i : Nat) {v v' : Value} (hv : VR μ v v') : VRL μ (l.set i v) (l'.set i v') := by
  refine ⟨by simp [h.1], fun j x x' hx hx' => ?_⟩
  rw [List.getElem?_set] at hx hx'
  split at hx
  · rename_i hij
    subst hij
    rw [if_pos rfl] at hx'
    split at hx
    · split at hx'
      · cases hx; cases hx'; exact hv
      · cases hx'
    · cases hx
  · rename_i hij
    rw [if_neg hij] at hx'
    exact h.2 j x x' hx hx'

theorem VRL.spl : ∀ {xs xs' l l' : List Value} (o : Nat), VRL μ l l' → VRL μ xs xs' → VRL μ (spl l o xs) (spl l' o xs') := by
  intro xs
  induction xs with
  | nil => intro xs' l l' o hl hx; rw [hx.cases_nil]; exact hl
  | cons x xs ih =>
    intro xs' l l' o hl hx
    obtain ⟨x', m, rfl, hv, hm⟩ := hx.cases_cons
    exact ih (o + 1) (hl.set o hv) hm

theorem foldl_spl (o : Nat) : ∀ (l : List Value) (k : Nat) (arr : Array Value),
    ((l.zipIdx k).foldl (fun (cs : Array Value) (p : Value × Nat) => cs.setIfInBounds (o + p.2) p.1) arr).toList = spl arr.toList (o + k) l := by
  intro l
  induction l with
  | nil => intro k arr; simp [Ab.spl]
  | cons x l ih =>
    intro k arr
    rw [List.zipIdx_cons, List.foldl_cons, ih]
    simp [Ab.spl, Nat.add_assoc]

theorem fill_foldl (o : Nat) (cs arr : Array Value) :
    (cs.zipIdx.foldl (fun (c : Array Value) (p : Value × Nat) => c.setIfInBounds (o + p.2) p.1) arr).toList = spl arr.toList o cs.toList := by
  have := foldl_spl o cs.toList 0 arr
  rw [Nat.add_zero] at this
  rw [← this, ← Array.foldl_toList, Array.toList_zipIdx]

theorem fill_run {place : Nat → Option (Nat × Nat)} : ∀ (vs : List (Nat × Nat × Value)) (ps : List (Nat × Value)) (c cs : List Value) (c' : Array Value), fillA c vs = some cs →
    VRL μ c c'.toList → vs.length = ps.length → (∀ (i : Nat) o m v ix v', vs[i]? = some (o, m, v) → ps[i]? = some (ix, v') → place ix = some (o, m) ∧ VR μ v v') →
    ∃ cs', Instr.fill place c' ps = some cs' ∧ VRL μ cs cs'.toList := by
  intro vs
  induction vs with
  | nil =>
    intro ps c cs c' h hc hl hp
    cases ps with
    | nil => simp only [fillA, Option.some.injEq] at h; subst h; exact ⟨c', rfl, hc⟩
    | cons => simp at hl
  | cons x vs ih =>
    intro ps c cs c' h hc hl hp
    obtain ⟨o, m, v⟩ := x
    cases ps with
    | nil => simp at hl
    | cons p ps =>
      obtain ⟨ix, v'⟩ := p
      simp only [fillA] at h
      split at h
      · rename_i hb
        obtain ⟨hpl, hv⟩ := hp 0 o m v ix v' rfl rfl
        have hcv := cellsL_vrl hv
        have hsz : v'.cells.size = m := by rw [cellsL_size, ← hcv.1]; exact hb.1
        have hlen : c'.size = c.length := by have := hc.1; rw [Array.length_toList] at this; exact this.symm
        have hcond : ¬ ((decide (v'.cells.size ≠ m) || decide (o + v'.cells.size > c'.size)) = true) := by rw [hsz, hlen]; simp; omega
        have hnew : VRL μ (Ab.spl c o (cellsL v)) (v'.cells.zipIdx.foldl (fun (c : Array Value) (p : Value × Nat) => c.setIfInBounds (o + p.2) p.1) c').toList := by
          rw [fill_foldl, cellsL_eq]
          exact hc.spl o hcv
        obtain ⟨cs', h1, h2⟩ := ih ps _ cs _ h hnew (by simpa using hl) (fun i o m v ix v' a b => hp (i + 1) o m v ix v' (by simpa using a) (by simpa using b))
        refine ⟨cs', ?_, h2⟩
        simp only [Instr.fill, hpl]
        rw [if_neg hcond]
        exact h1
      · cases h

theorem mapM_sizes : ∀ (fs : List Field), (∀ f ∈ fs, (szOf P f.type).isSome = true) →
    (fs.mapM (fun f => do pure (f.offset, ← sizeOf f.type)) : Sem (List (Nat × Nat))).run P w = .ok (fs.map fun f => (f.offset, (szOf P f.type).getD 0)) w := by
  intro fs
  induction fs with
  | nil => intro _; simp
  | cons f fs ih =>
    intro h
    obtain ⟨m, hm⟩ := Option.isSome_iff_exists.1 (h f (by simp))
    rw [List.mapM_cons]
    simp only [Sem.run_bind, rSize hm, Result.andThen_ok, Sem.run_pure, ih (fun g hg => h g (by simp [hg])), List.map_cons, hm, Option.getD_some]

theorem val_build (c : Cx P N w0 μ H T n tm a w) {t : TypeId} {parts : Array (Nat × Operand)} {z cs : List Value} {place : Nat → Option (Nat × Nat)} {ps : List (Nat × Nat × AOpr)}
    {vs : List (Nat × Nat × Value)} (ho : o.op = .build t parts) (hz : zeroL P t = some z) (hps : cParts P place parts.toList = some ps) (hvs : aparts H tm ps = some vs) (hf : fillA z vs = some cs)
    (ht : (∃ fs, P.underlying t = some (.struct fs) ∧ (∀ f ∈ fs.toList, (szOf P f.type).isSome = true) ∧
        (place = fun i => match fs[i]? with | some f => (szOf P f.type).map fun n => (f.offset, n) | none => none)) ∨
      (∃ len e k, P.underlying t = some (.array len e) ∧ szOf P e = some k ∧ place = fun i => some (i * k, k))) : ValOk P μ o a w (.agg cs.toArray) := by
  obtain ⟨i, zv, hi, hzv, rfl, hok, hsz⟩ := zeroL_spec hz
  obtain ⟨hlen, hrel⟩ := c.aparts hps hvs
  have hzr : VRL μ (cellsL zv) zv.cells.toList := by rw [cellsL_eq]; exact flats_vrl hok
  obtain ⟨cs', h1, h2⟩ := fill_run (μ := μ) (place := place) vs (parts.toList.map fun p => (p.1, a.eval p.2)) (cellsL zv) cs zv.cells hf hzr (by simp [hlen]) (by
    intro i o m v ix v' hv hp
    rw [List.getElem?_map] at hp
    cases hq : parts.toList[i]? with
    | none => rw [hq] at hp; cases hp
    | some q =>
      rw [hq] at hp
      simp only [Option.map_some, Option.some.injEq, Prod.mk.injEq] at hp
      obtain ⟨rfl, rfl⟩ := hp
      exact hrel i o m v q.1 q.2 hv (by rw [hq]))
  refine ⟨.agg cs', ?_, VR.agg_list.2 (by simpa using h2)⟩
  have hmap : (parts.map fun (i, x) => (i, a.eval x)).toList = parts.toList.map fun p => (p.1, a.eval p.2) := by simp
  rcases ht with ⟨fs, hu, hall, rfl⟩ | ⟨len, e, k, hu, hk, rfl⟩
  · have hplaces : (fs.mapM (fun f => do pure (f.offset, ← sizeOf f.type)) : Sem (Array (Nat × Nat))).run P w = .ok (fs.toList.map fun f => (f.offset, (szOf P f.type).getD 0)).toArray w := by
      rw [Array.mapM_eq_mapM_toList]
      simp only [Sem.run_map, mapM_sizes fs.toList hall, Result.andThen_ok]
    have hpl : (fun i => ((fs.toList.map fun (f : Field) => (f.offset, (szOf P f.type).getD 0)).toArray)[i]?) = fun (i : Nat) => match fs[i]? with | some f => (szOf P f.type).map fun n => (f.offset, n) | none => none := by
      funext i
      simp only [List.getElem?_toArray, List.getElem?_map, Array.getElem?_toList]
      cases hfi : fs[i]? with
      | none => rfl
      | some f =>
        obtain ⟨m, hm⟩ := Option.isSome_iff_exists.1 (hall f (Array.mem_toList_iff.2 (Array.mem_of_getElem? hfi)))
        simp [hm]
    simp only [execOp, ho, Instr.build, Sem.run_bind, rZero hi hzv, rUnder hu, Result.andThen_ok, hplaces, hmap, hpl, h1, Sem.run_pure]
  · simp only [execOp, ho, Instr.build, Sem.run_bind, rZero hi hzv, rUnder hu, Result.andThen_ok, rSize hk, hmap, h1, Sem.run_pure]

end
end Go.Ab
