/- Calls of builtins and of functions; and the whole: what an abstract operation does is what the model's operation does. -/
import Derived.Test.YtdnfnjdkemohaaaGreatDoorAb16
namespace Go.Ab

section
variable {P : Program} {N : Nat} {w0 : World} {μ : Mu} {H T : Hp} {n : Nat} {tm : Tm} {a : Act} {w : World} {o : Oper}

theorem val_copyNil (c : Cx P N w0 μ H T n tm a w) {ts : Array TypeId} {t t2 e : TypeId} {size : Nat} {s x : Operand} {as ax : AOpr} {v : Value} {len k e0 : Nat} {cs ds : List Value}
    (ho : o.op = .call { callee := .builtin .copy, args := #[s, x], argTypes := ts }) (hts : ts.toList = [t, t2]) (ht : P.underlying t = some (.slice e)) (hsz : szOf P e = some size)
    (h1 : cOpr P s = some as) (h2 : cOpr P x = some ax) (hs : aev H tm as = some (.slice none len e0)) (hx : aev H tm ax = some v)
    (_hsl : slCells H size (.slice none len e0) = some cs) (hk : apCells H size v = some (k, ds)) : ValOk P μ o a w (.int .i64 0) := by
  have et : ts = #[t, t2] := by rw [← Array.toList_inj]; exact hts
  subst et
  have hrs := c.aev h1 hs
  obtain ⟨l2, sc2, len2, f2⟩ := c.apCells hk (c.aev h2 hx)
  obtain ⟨new, g2, r2⟩ := f2 0 (Nat.zero_le _)
  have hnew : new = [] := List.length_eq_zero_iff.1 (by rw [← r2.1]; simp)
  subst hnew
  have es : a.eval s = .slice none 0 0 := by generalize a.eval s = q at hrs; cases hrs; rfl
  have hargs : (#[s, x].map a.eval) = #[a.eval s, a.eval x] := by simp
  have hex := exec_builtin (P := P) (w := w) (a := a) (s := Builtin.copy_ #[t, t2] o.type #[a.eval s, a.eval x]) ho fun cs => by rw [hargs]; rfl
  refine ⟨.int .i64 0, ?_, .int _ _⟩
  rw [hex, es]
  simp [Builtin.copy_, rUnder ht, len2, rSize hsz, g2, goInt]

theorem eff_builtin (c : Cx P N w0 μ H T n tm a w) {b : Builtin} {args : Array Operand} {ts : Array TypeId} {as : List AOpr} {ao : AOp} {eff : Eff}
    (ho : o.op = .call { callee := .builtin b, args := args, argTypes := ts }) (h1 : cOprs P args.toList = some as) (hc : cBuiltin P b ts.toList as = some ao)
    (he : evalA H tm ao = some eff) : EffOk P N w0 μ T o a w eff := by
  unfold cBuiltin at hc
  split at hc
  · rename_i t x hts
    obtain ⟨y, ha, hx⟩ := cOprs1 h1
    split at hc
    · rename_i ht
      cases hc
      simp only [evalA] at he
      split at he
      · rename_i s hs; cases he; exact val_len c ho ha hts ht hx hs (.inl ⟨rfl, _, rfl, rfl⟩)
      · cases he
    · rename_i e ht
      cases hc
      simp only [evalA] at he
      split at he
      · rename_i p k q hs; cases he; exact val_len c ho ha hts ht hx hs (.inr ⟨⟨_, rfl⟩, _, _, rfl⟩)
      · cases he
    · rename_i k e ht
      cases hc
      simp only [evalA] at he
      cases he
      exact val_lenC ho ha hts ht (.inl ⟨_, rfl⟩)
    · rename_i u ht
      split at hc
      · rename_i k e hu
        cases hc
        simp only [evalA] at he
        cases he
        exact val_lenC ho ha hts ht (.inr ⟨_, _, rfl, hu⟩)
      · cases hc
    · rename_i kt et ht
      cases hc
      simp only [evalA] at he
      split at he
      · rename_i hm; cases he; exact val_lenMap (k := 0) c ho ha hts ht hx hm (.inl ⟨rfl, rfl⟩)
      · rename_i id hm
        split at he
        · rename_i es cl hH; cases he; exact val_lenMap c ho ha hts ht hx hm (.inr ⟨_, _, _, rfl, hH, rfl⟩)
        · cases he
      · cases he
    · cases hc
  · rename_i t u s0 x0 hts
    obtain ⟨s, m1, ha, hs, h2⟩ := cOprs_cons h1
    obtain ⟨x, rfl, hx⟩ := cOprs1 h2
    have ea : args = #[s, x] := by rw [← Array.toList_inj]; exact ha
    have et : ts = #[t, u] := by rw [← Array.toList_inj]; exact hts
    subst ea; subst et
    split at hc
    · cases hc
    · rename_i e d hd ht hu
      split at hc
      · rename_i ti hi
        split at hc
        · rename_i hz0
          cases hc
          obtain ⟨z, hz⟩ := Option.isSome_iff_exists.1 hz0
          have hsz : szOf P e = some ti.size := by simp [szOf, hi]
          simp only [evalA] at he
          split at he
          · rename_i ad m0 e0 v hsv hxv
            split at he
            · rename_i cs k ds hsl hap
              split at he
              · rename_i hb
                split at he
                · split at he
                  · rename_i hk0
                    subst hk0
                    cases he
                    have e00 : m0 = 0 ∧ e0 = 0 := by
                      unfold slCells at hsl
                      split at hsl
                      · rename_i heq; cases heq; exact ⟨rfl, rfl⟩
                      · rename_i heq; cases heq
                      · cases hsl
                    obtain ⟨rfl, rfl⟩ := e00
                    exact val_appendNil c ho ht hu hd hsz hs hx hsv hxv hap
                  · rename_i hk0
                    cases he
                    have e00 : m0 = 0 ∧ e0 = 0 := by
                      unfold slCells at hsl
                      split at hsl
                      · rename_i heq; cases heq; exact ⟨rfl, rfl⟩
                      · rename_i heq; cases heq
                      · cases hsl
                    obtain ⟨rfl, rfl⟩ := e00
                    exact app_nil c ho ht hu hd hi hz hs hx hsv hxv hap hk0 (by simpa using hb.1) (by simpa using hb.2)
                · rename_i id off sp
                  split at he
                  · rename_i all hH
                    cases he
                    exact app_some c ho ht hu hd hi hz hs hx hsv hxv hsl hap hH hb.1 hb.2
                  · cases he
              · cases he
            · cases he
          · cases he
        · cases hc
      · cases hc
    · cases hc
  · rename_i t t2 s0 x0 hts
    obtain ⟨s, m1, ha, hs, h2⟩ := cOprs_cons h1
    obtain ⟨x, rfl, hx⟩ := cOprs1 h2
    have ea : args = #[s, x] := by rw [← Array.toList_inj]; exact ha
    subst ea
    split at hc
    · rename_i e ht
      obtain ⟨size, hsz, rfl⟩ := map_some hc
      simp only [evalA] at he
      split at he
      · rename_i ad m0 e0 v hsv hxv
        split at he
        · rename_i cs k ds hsl hap
          split at he
          · cases he
            exact val_copyNil c ho hts ht hsz hs hx hsv hxv hsl hap
          · rename_i id off sp
            split at he
            · rename_i all hH
              cases he
              exact wr_copy c ho hts ht hsz hs hx hsv hxv hsl hap hH
            · cases he
        · cases he
      · cases he
    · cases hc
  · cases hc
    simp only [evalA] at he
    split at he
    · rename_i v l hl
      split at he
      · rename_i r hr; cases he; exact val_minmax (mx := false) c ho rfl h1 hl hr
      · cases he
    · cases he
  · cases hc
    simp only [evalA] at he
    split at he
    · rename_i v l hl
      split at he
      · rename_i r hr; cases he; exact val_minmax (mx := true) c ho rfl h1 hl hr
      · cases he
    · cases he
  · rename_i t rest m0 k0 hts
    obtain ⟨m, m1, ha, hm, h2⟩ := cOprs_cons h1
    obtain ⟨k, rfl, hk⟩ := cOprs1 h2
    split at hc
    · rename_i kt et ht
      obtain ⟨kd, hkd, rfl⟩ := map_some hc
      simp only [evalA] at he
      split at he
      · rename_i id kv hmv hkv
        split at he
        · rename_i hkey
          split at he
          · rename_i es cl hH
            split at he
            · rename_i i v b hf; cases he; exact wr_delete (r := some (i, v, b)) c ho ha ⟨_, hts⟩ ht hkd hm hk hmv hkv hkey hH hf
            · rename_i hf; cases he; exact wr_delete (r := none) c ho ha ⟨_, hts⟩ ht hkd hm hk hmv hkv hkey hH hf
            · cases he
          · cases he
        · cases he
      · cases he
    · cases hc
  · cases hc

theorem indexByte_eq (b c : Value) : Extern.BytealgIndexByte.indexByte #[b, c] = (do
    let b ← Extern.Bytes.bytesOf b
    let c ← Extern.Bytes.asByte c
    match (List.range b.size).find? fun i => b[i]! == c with
    | some i => pure (goInt i)
    | none => pure (goInt (-1))) := rfl

theorem find_range (p : UInt8 → Bool) (f : Nat → UInt8) : ∀ (l : List UInt8) (k : Nat), (∀ i (h : i < l.length), f (k + i) = l[i]) →
    (List.range' k l.length).find? (fun i => p (f i)) = (l.findIdx? p).map (k + ·) := by
  intro l
  induction l with
  | nil => intro k _; rfl
  | cons x l ih =>
    intro k h
    have h0 : f k = x := by have := h 0 (by simp); simpa using this
    rw [List.length_cons, List.range'_succ, List.find?_cons, List.findIdx?_cons, h0]
    cases hp : p x with
    | true => simp
    | false =>
      simp only [Bool.false_eq_true, if_false]
      rw [ih (k + 1) (fun i hi => by have := h (i + 1) (by simp; omega); rw [show k + 1 + i = k + (i + 1) from by omega]; simpa using this)]
      cases l.findIdx? p with
      | none => rfl
      | some j => simp; omega

theorem val_idxByte (c : Cx P N w0 μ H T n tm a w) {f : Nat} {fn : Func} {args : Array Operand} {ts : Array TypeId} {x y : Operand} {ax ay : AOpr} {s : ByteArray} {i : Int}
    (ho : o.op = .call { callee := .value (.func f), args := args, argTypes := ts }) (ha : args.toList = [x, y]) (hf : P.funcs[f]? = some fn) (hb : fn.body = none)
    (hn : fn.name = "internal/bytealg.IndexByteString") (hor : fn.origin = "") (h1 : cOpr P x = some ax) (h2 : cOpr P y = some ay) (hx : aev H tm ax = some (.string s))
    (hy : aev H tm ay = some (.int .u8 i)) :
    ValOk P μ o a w (.int .i64 (match (bl s).findIdx? (fun b => b == UInt8.ofNat i.toNat) with | some i => (i : Int) | none => -1)) := by
  have ea : args = #[x, y] := by rw [← Array.toList_inj]; exact ha
  subst ea
  refine ⟨_, ?_, .int _ _⟩
  rw [exec_extern (P := P) (w := w) ho hf hb (by rw [hn]; decide) (find_of hn hor nextRowI)
    (find_row hn (e := Extern.BytealgIndexByte.indexByte) (by kernel_rfl) (by kernel_rfl) (by kernel_rfl))]
  have e1 := (c.aev h1 hx).string_inv
  have e2 := (c.aev h2 hy).int_inv
  have hargs : (#[x, y].map a.eval) = #[.string s, .int .u8 i] := by simp [e1, e2]
  rw [hargs, indexByte_eq]
  simp only [Extern.Bytes.bytesOf, Extern.Bytes.asByte, Sem.run_bind, Sem.run_pure, Result.andThen_ok]
  have hfind := find_range (fun b => b == UInt8.ofNat i.toNat) (fun j => s[j]!) (bl s) 0 (fun j hj => by
    rw [bl_len] at hj
    have hj' : j < s.data.toList.length := by rw [Array.length_toList]; exact hj
    simp only [Nat.zero_add]
    rw [getElem!_pos s j hj]
    rfl)
  rw [bl_len, ← List.range_eq_range'] at hfind
  have hm : (List.range s.size).find? (fun j => s[j]! == i.toNat.toUInt8) = (bl s).findIdx? (fun b => b == UInt8.ofNat i.toNat) := by
    refine Eq.trans hfind ?_
    cases (bl s).findIdx? (fun b => b == UInt8.ofNat i.toNat) <;> simp
  rw [hm]
  cases (bl s).findIdx? (fun b => b == UInt8.ofNat i.toNat) <;> simp [goInt]

theorem eff_call (c : Cx P N w0 μ H T n tm a w) {cl : Call} {as : List AOpr} {ao : AOp} {eff : Eff} (ho : o.op = .call cl) (h1 : cOprs P cl.args.toList = some as) (hc : cCall P cl as = some ao)
    (he : evalA H tm ao = some eff) : EffOk P N w0 μ T o a w eff := by
  obtain ⟨callee, args, ts⟩ := cl
  -- a call through a function value
  have through : ∀ (x : Operand) (ax : AOpr), callee = .value x → cOpr P x = some ax → evalA H tm (.call ax as) = some eff → EffOk P N w0 μ T o a w eff := by
    intro x ax hx hax he
    subst hx
    simp only [evalA] at he
    split at he
    · rename_i g f cp vs hf hvs
      cases he
      rintro ⟨fn, b, hg, hb, hn⟩
      have hr := c.aev hax hf
      have r3 := c.aevs h1 hvs
      have hnb : fn.body.isNone = false := by rw [hb]; rfl
      generalize hex : a.eval x = ex at hr
      cases hr with
      | func _ _ f' _ cp' hfs hfv hcs hcv =>
        refine ⟨f' ++ args.map a.eval ++ cp', ?_, ?_⟩
        · simp only [execOp, ho, resolve, hex, Deferred.ofValue, Sem.run_bind, Sem.run_pure, Result.andThen_ok, invoke, callFunc, run_program, hg]
          simp [hn, hnb]
        · simp only [Array.toList_append, Array.toList_map]
          have r1 : VRL μ f.toList f'.toList := ⟨by simpa using hfs, fun i v v' a b => hfv i v v' (by simpa using a) (by simpa using b)⟩
          have r2 : VRL μ cp.toList cp'.toList := ⟨by simpa using hcs, fun i v v' a b => hcv i v v' (by simpa using a) (by simpa using b)⟩
          exact (r1.append r3).append r2
    · cases he
  cases callee with
  | builtin b => exact eff_builtin c ho h1 hc he
  | invoke r m => simp only [cCall] at hc; cases hc
  | value x =>
    cases x with
    | func f =>
      simp only [cCall] at hc
      split at hc
      · rename_i fn hf
        split at hc
        · rename_i hb
          split at hc
          · cases hc
          · cases hc
            exact through (.func f) _ rfl rfl he
        · rename_i hb
          have hb' : fn.body = none := by cases h : fn.body with | none => rfl | some b => rw [h] at hb; simp at hb
          split at hc
          · rename_i x0
            obtain ⟨x, ha, hx⟩ := cOprs1 h1
            split at hc
            · rename_i hnm
              cases hc
              simp only [evalA] at he
              split at he
              · rename_i i hv; cases he; exact val_f64bits c ho ha hf hb' hnm.1 hnm.2 hx hv
              · cases he
            · cases hc
          · rename_i x0 y0
            obtain ⟨x, m1, ha, hx, h2⟩ := cOprs_cons h1
            obtain ⟨y, rfl, hy⟩ := cOprs1 h2
            split at hc
            · rename_i hnm
              cases hc
              simp only [evalA] at he
              split at he
              · rename_i s k hs hk; cases he; exact val_idxByte c ho ha hf hb' hnm.1 hnm.2 hx hy hs hk
              · cases he
            · cases hc
          · rename_i x0 y0 z0
            obtain ⟨x, m1, ha, hx, h2⟩ := cOprs_cons h1
            obtain ⟨y, m2, rfl, hy, h3⟩ := cOprs_cons h2
            obtain ⟨z, rfl, hz⟩ := cOprs1 h3
            split at hc
            · rename_i hnm
              cases hc
              simp only [evalA] at he
              split at he
              · rename_i i j k hi hj hk
                split at he
                · rename_i hk1; cases he; exact val_add64 c ho ha hf hb' hnm.1 hnm.2 hx hy hz hi hj hk hk1
                · cases he
              · cases he
            · cases hc
          · cases hc
      · cases hc
    | tmp t =>
      simp only [cCall] at hc
      obtain ⟨ax, hax, rfl⟩ := map_some hc
      exact through (.tmp t) ax rfl hax he
    | const k =>
      simp only [cCall] at hc
      obtain ⟨ax, hax, rfl⟩ := map_some hc
      exact through (.const k) ax rfl hax he
    | global g =>
      simp only [cCall] at hc
      obtain ⟨ax, hax, rfl⟩ := map_some hc
      exact through (.global g) ax rfl hax he

/-- What an abstract operation does is what the model's operation does. -/
theorem op_sound (c : Cx P N w0 μ H T n tm a w) {ao : AOp} {eff : Eff} (hc : cOp P o.op = some ao) (he : evalA H tm ao = some eff) : EffOk P N w0 μ T o a w eff := by
  cases hop : o.op <;> rw [hop] at hc <;> simp only [cOp, reduceCtorEq] at hc
  case move x => obtain ⟨ax, h1, rfl⟩ := map_some hc; exact eff_mov c (.inl hop) h1 he
  case assign x => obtain ⟨ax, h1, rfl⟩ := map_some hc; exact eff_mov c (.inr hop) h1 he
  case pick x y z =>
    split at hc
    · rename_i h1 h2 h3; cases hc; exact eff_pick c hop h1 h2 h3 he
    · cases hc
  case alloc t =>
    split at hc
    · rename_i hb
      cases hc
      simp only [evalA, Option.some.injEq] at he
      subst he
      exact new_allocB c hop hb
    · obtain ⟨z, hz, rfl⟩ := map_some hc
      simp only [evalA, Option.some.injEq] at he
      subst he
      exact new_alloc c hop hz
  case box t x =>
    obtain ⟨ax, h1, rfl⟩ := map_some hc
    simp only [evalA] at he
    split at he
    · rename_i v hv
      split at he
      · rename_i hs; cases he; exact new_box c hop h1 hv hs
      · cases he
    · cases he
  case build t parts =>
    split at hc
    · rename_i fs z hu hz
      split at hc
      · rename_i hall
        obtain ⟨ps, hps, rfl⟩ := map_some hc
        exact eff_build c hop hz hps (.inl ⟨fs, hu, fun f hf => List.all_eq_true.1 hall f hf, rfl⟩) he
      · cases hc
    · rename_i len e z hu hz
      split at hc
      · rename_i k hk
        obtain ⟨ps, hps, rfl⟩ := map_some hc
        exact eff_build c hop hz hps (.inr ⟨_, e, k, hu, hk, rfl⟩) he
      · cases hc
    · cases hc
  case buildSlice t len parts =>
    split at hc
    · rename_i e ht
      split at hc
      · rename_i k z hk hz
        split at hc
        · rename_i hlen
          obtain ⟨ps, hps, rfl⟩ := map_some hc
          exact eff_buildSlice c hop ht hk hz hlen hps he
        · cases hc
      · cases hc
    · cases hc
  case load t x =>
    split at hc
    · rename_i ax k h1 hk
      split at hc
      · rename_i hd
        obtain ⟨d, hd⟩ := Option.isSome_iff_exists.1 hd
        cases hc
        rw [hd] at he
        exact eff_load c hop h1 hk hd he
      · cases hc
    · cases hc
  case store t x y =>
    split at hc
    · rename_i ax ay k h1 h2 hk; cases hc; exact eff_store c hop h1 h2 hk he
    · cases hc
  case nilCheck x => obtain ⟨ax, h1, rfl⟩ := map_some hc; exact eff_nilCheck c hop h1 he
  case fieldAddr s x f =>
    split at hc
    · rename_i fs ax hs h1
      split at hc
      · rename_i fd hf
        split at hc
        · cases hc
        · rename_i m hnz hm
          cases hc
          exact eff_off c hop hs hf hm (fun h0 => hnz h0) h1 he
        · cases hc
      · cases hc
    · cases hc
  case field s x f =>
    split at hc
    · rename_i fs ax hs h1
      split at hc
      · rename_i fd hf
        split at hc
        · rename_i m hm
          split at hc
          · rename_i hd
            obtain ⟨d, hd⟩ := Option.isSome_iff_exists.1 hd
            cases hc
            rw [hd] at he
            exact eff_field c hop hs hf hm hd h1 he
          · cases hc
        · cases hc
      · cases hc
    · cases hc
  case indexAddr t x i =>
    split at hc
    · rename_i len e ax ai ht h1 h2
      obtain ⟨k, hk, rfl⟩ := map_some hc
      exact eff_idxPtr c hop ht hk h1 h2 he
    · rename_i e ax ai ht h1 h2
      obtain ⟨k, hk, rfl⟩ := map_some hc
      exact eff_idxSl c hop ht hk h1 h2 he
    · cases hc
  case index t x i =>
    split at hc
    · rename_i len e ax ai ht h1 h2
      split at hc
      · rename_i k hk
        split at hc
        · rename_i hd
          obtain ⟨d, hd⟩ := Option.isSome_iff_exists.1 hd
          cases hc
          rw [hd] at he
          exact eff_idxAgg c hop ht hk hd h1 h2 he
        · cases hc
      · cases hc
    · rename_i ax ai ht h1 h2; cases hc; exact eff_idxStr c hop ht h1 h2 he
    · cases hc
  case binOp op t x y u =>
    split at hc
    · rename_i ax ay h1 h2; exact eff_bin c hop h1 h2 hc he
    · cases hc
  case unOp op t x => obtain ⟨ax, h1, rfl⟩ := map_some hc; exact eff_un c hop h1 he
  case convert s t x =>
    split at hc
    · rename_i ax h1; exact eff_conv c hop h1 hc he
    · cases hc
  case makeFunc fn f g =>
    split at hc
    · rename_i af ag h1 h2; cases hc; exact eff_mkFunc c hop h1 h2 he
    · cases hc
  case makeSlice t l k =>
    split at hc
    · rename_i e al ak ht h1 h2
      split at hc
      · rename_i ti z hi hz; cases hc; exact eff_mkSlice c hop ht hi hz h1 h2 he
      · cases hc
    · cases hc
  case makeMap t r =>
    cases r with
    | none =>
      simp only [Option.some.injEq] at hc
      subst hc
      simp only [evalA, Option.some.injEq] at he
      subst he
      exact new_mkMap c hop
    | some r => simp at hc
  case slice t x lo hi mx =>
    split at hc
    · rename_i ax alo ahi ht h1 h2 h3 h4
      cases hc
      cases mx with
      | some m => simp only [cOptOpr] at h4; split at h4 <;> cases h4
      | none => exact eff_slStr c hop ht h1 h2 h3 he
    · rename_i e ax alo ahi amx ht h1 h2 h3 h4
      split at hc
      · cases hc
      · rename_i hb
        obtain ⟨k, hk, rfl⟩ := map_some hc
        refine eff_slSl c hop ht hk h1 h2 h3 h4 (fun hm => ?_) he
        cases mx with
        | none => cases hm
        | some m =>
          cases hi with
          | some h => rfl
          | none =>
            exfalso
            simp only [cOptOpr, Option.some.injEq] at h3 h4
            subst h3
            split at h4
            · cases h4; simp at hb
            · cases h4
    · cases hc
  case lookup t m k ok =>
    split at hc
    · rename_i kt e am ak ht h1 h2
      split at hc
      · rename_i kd ti hkd hi
        split at hc
        · rename_i z hz
          split at hc
          · rename_i hzk; cases hc; exact eff_lookup c hop ht hkd hi hz hzk h1 h2 he
          · cases hc
        · cases hc
      · cases hc
    · cases hc
  case mapUpdate t m k v =>
    split at hc
    · rename_i kt e am ak av ht h1 h2 h3
      obtain ⟨kd, hkd, rfl⟩ := map_some hc
      exact eff_mapSet c hop ht hkd h1 h2 h3 he
    · cases hc
  case mapEntry t m k =>
    split at hc
    · rename_i kt e am ak ht h1 h2
      split at hc
      · rename_i kd ti hkd hi
        split at hc
        · rename_i z hz
          split at hc
          · rename_i hzk; cases hc; exact eff_mapEntry c hop ht hkd hi hz hzk h1 h2 he
          · cases hc
        · cases hc
      · cases hc
    · cases hc
  case entryStore t m s v =>
    split at hc
    · rename_i am as av h1 h2 h3; cases hc; exact eff_entrySet c hop h1 h2 h3 he
    · cases hc
  case extract x i => obtain ⟨ax, h1, rfl⟩ := map_some hc; exact eff_extract c hop h1 he
  case call cl =>
    split at hc
    · rename_i as h1; exact eff_call c hop h1 hc he
    · cases hc

end
end Go.Ab
