/- Every operation of the abstract program does what the model's operation does: the rest, and the whole. -/
import Derived.Test.YtdnfnjdkemohaaaGreatDoorAb15
namespace Go.Ab

section
variable {P : Program} {N : Nat} {w0 : World} {μ : Mu} {H T : Hp} {n : Nat} {tm : Tm} {a : Act} {w : World} {o : Oper}

theorem eff_un (c : Cx P N w0 μ H T n tm a w) {op : UnOp} {t : TypeId} {x : Operand} {ax : AOpr} {eff : Eff} (ho : o.op = .unOp op t x) (h1 : cOpr P x = some ax)
    (he : evalA H tm (.un op ax) = some eff) : EffOk P N w0 μ T o a w eff := by
  simp only [evalA] at he
  split at he
  · rename_i p hp
    split at he
    · rename_i v hv; cases he; exact val_un c ho h1 hp hv
    · cases he
  · cases he

theorem eff_conv (c : Cx P N w0 μ H T n tm a w) {s t : TypeId} {x : Operand} {ax : AOpr} {ao : AOp} {eff : Eff} (ho : o.op = .convert s t x) (h1 : cOpr P x = some ax)
    (hc : cConv P s t ax = some ao) (he : evalA H tm ao = some eff) : EffOk P N w0 μ T o a w eff := by
  unfold cConv at hc
  split at hc
  · rename_i k hs ht
    cases hc
    simp only [evalA] at he
    split at he
    · rename_i i hx; cases he; exact val_cInt c ho hs ht h1 hx
    · cases he
  · rename_i hs ht
    cases hc
    simp only [evalA] at he
    split at he
    · rename_i i hx; cases he; exact val_cId c ho hs ht h1 hx
    · cases he
  · rename_i e hs ht
    split at hc
    · rename_i hu
      cases hc
      have hu' : P.underlying e = some (.int .u8) := hu
      simp only [evalA] at he
      split at he
      · rename_i i hx; cases he; exact new_cBytes c ho hs ht hu' h1 hx
      · cases he
    · cases hc
  · rename_i e hs ht
    split at hc
    · rename_i hu
      cases hc
      have hu' : P.underlying e = some (.int .u8) := hu
      simp only [evalA] at he
      split at he
      · rename_i v hx
        split at he
        · rename_i cs hcs
          split at he
          · rename_i l hl; cases he; exact val_cStr c ho hs ht hu' h1 hx hcs hl
          · cases he
        · cases he
      · cases he
    · cases hc
  · rename_i e0 e hs ht
    split at hc
    · rename_i hst
      subst hst
      split at hc
      · rename_i hu
        cases hc
        have hu' : P.underlying e = some (.int .u8) := hu
        simp only [evalA] at he
        split at he
        · rename_i id off len k hx
          split at he
          · rename_i cs hH
            split at he
            · cases he
            · rename_i hlen; cases he; exact wr_cSl c ho ht hu' h1 hx hH hlen
          · cases he
        · cases he
      · cases hc
    · cases hc
  · cases hc

theorem eff_mkFunc (c : Cx P N w0 μ H T n tm a w) {fn : Fn} {f g : Array Operand} {af ag : List AOpr} {eff : Eff} (ho : o.op = .makeFunc fn f g)
    (h1 : cOprs P f.toList = some af) (h2 : cOprs P g.toList = some ag) (he : evalA H tm (.mkFunc fn af ag) = some eff) : EffOk P N w0 μ T o a w eff := by
  simp only [evalA] at he
  split at he
  · rename_i p q hp hq; cases he; exact val_mkFunc c ho h1 h2 hp hq
  · cases he

theorem eff_slStr (c : Cx P N w0 μ H T n tm a w) {t : TypeId} {x : Operand} {lo hi : Option Operand} {ax : AOpr} {alo ahi : Option AOpr} {eff : Eff}
    (ho : o.op = .slice t x lo hi none) (ht : P.underlying t = some .string) (h1 : cOpr P x = some ax) (h2 : cOptOpr P lo = some alo) (h3 : cOptOpr P hi = some ahi)
    (he : evalA H tm (.slStr ax alo ahi) = some eff) : EffOk P N w0 μ T o a w eff := by
  simp only [evalA] at he
  split at he
  · rename_i s hx
    split at he
    · rename_i h hh
      split at he
      · rename_i l hl
        split at he
        · rename_i hb; cases he; exact val_slStr c ho ht h1 h2 h3 hx hh hl hb
        · cases he
      · cases he
    · cases he
  · cases he

theorem eff_slSl (c : Cx P N w0 μ H T n tm a w) {t el : TypeId} {x : Operand} {lo hi mx : Option Operand} {ax : AOpr} {alo ahi amx : Option AOpr} {size : Nat} {eff : Eff}
    (ho : o.op = .slice t x lo hi mx) (ht : P.underlying t = some (.slice el)) (hz : szOf P el = some size) (h1 : cOpr P x = some ax) (h2 : cOptOpr P lo = some alo) (h3 : cOptOpr P hi = some ahi)
    (h4 : cOptOpr P mx = some amx) (hmh : mx.isSome = true → hi.isSome = true) (he : evalA H tm (.slSl size ax alo ahi amx) = some eff) : EffOk P N w0 μ T o a w eff := by
  simp only [evalA] at he
  split at he
  · rename_i hx
    split at he
    · rename_i hl hh hm; cases he; exact val_slNil c ho ht hz h1 h2 h3 h4 hmh hx hl hh hm
    · cases he
  · rename_i id off len e hx
    split at he
    · rename_i l h m hl hh hm
      split at he
      · rename_i hb
        obtain ⟨b1, b2, b3, b4, rfl⟩ := hb
        cases he
        exact val_slSl c ho ht hz h1 h2 h3 h4 hmh hx hl hh hm ⟨b1, b2, b3, b4⟩
      · cases he
    · cases he
  · cases he

theorem eff_build (c : Cx P N w0 μ H T n tm a w) {t : TypeId} {parts : Array (Nat × Operand)} {z : List Value} {place : Nat → Option (Nat × Nat)} {ps : List (Nat × Nat × AOpr)} {eff : Eff}
    (ho : o.op = .build t parts) (hz : zeroL P t = some z) (hps : cParts P place parts.toList = some ps)
    (ht : (∃ fs, P.underlying t = some (.struct fs) ∧ (∀ f ∈ fs.toList, (szOf P f.type).isSome = true) ∧
        (place = fun i => match fs[i]? with | some f => (szOf P f.type).map fun n => (f.offset, n) | none => none)) ∨
      (∃ len e k, P.underlying t = some (.array len e) ∧ szOf P e = some k ∧ place = fun i => some (i * k, k)))
    (he : evalA H tm (.build z ps) = some eff) : EffOk P N w0 μ T o a w eff := by
  simp only [evalA] at he
  split at he
  · rename_i vs hvs
    split at he
    · rename_i cs hf; cases he; exact val_build c ho hz hps hvs hf ht
    · cases he
  · cases he

theorem eff_buildSlice (c : Cx P N w0 μ H T n tm a w) {t e : TypeId} {len size : Nat} {parts : Array (Nat × Operand)} {z : List Value} {ps : List (Nat × Nat × AOpr)} {eff : Eff}
    (ho : o.op = .buildSlice t len parts) (ht : P.underlying t = some (.slice e)) (hsz : szOf P e = some size) (hz : zeroL P e = some z) (hlen : len * size ≤ 16777216)
    (hps : cParts P (fun i => some (i * size, size)) parts.toList = some ps) (he : evalA H tm (.buildSlice len size z ps) = some eff) : EffOk P N w0 μ T o a w eff := by
  simp only [evalA] at he
  split at he
  · rename_i vs hvs
    split at he
    · rename_i cs hf
      split at he
      · rename_i hs; cases he; exact new_buildSlice c ho ht hsz hz hlen hps hvs hf hs
      · cases he
    · cases he
  · cases he

theorem eff_mkSlice (c : Cx P N w0 μ H T n tm a w) {t e : TypeId} {x y : Operand} {ax ay : AOpr} {ti : TypeInfo} {z : List Value} {eff : Eff} (ho : o.op = .makeSlice t x y)
    (ht : P.underlying t = some (.slice e)) (hi : P.info? e = some ti) (hz : zeroL P e = some z) (h1 : cOpr P x = some ax) (h2 : cOpr P y = some ay)
    (he : evalA H tm (.mkSlice ti.size ti.bytes z ax ay) = some eff) : EffOk P N w0 μ T o a w eff := by
  simp only [evalA] at he
  split at he
  · rename_i l k hx hy
    split at he
    · rename_i hb; cases he; exact new_mkSlice c ho ht hi hz h1 h2 hx hy ⟨hb.1, hb.2.1⟩ hb.2.2.1 hb.2.2.2
    · cases he
  · cases he

theorem eff_lookup (c : Cx P N w0 μ H T n tm a w) {t kt et : TypeId} {kd : Nat} {m k : Operand} {am ak : AOpr} {ok : Bool} {z : Value} {ti : TypeInfo} {eff : Eff}
    (ho : o.op = .lookup t m k ok) (ht : P.underlying t = some (.map kt et)) (hkt : keyType P kt = some kd) (hi : P.info? et = some ti) (hz : ti.zero = some z) (hzk : okConst z = true)
    (h1 : cOpr P m = some am) (h2 : cOpr P k = some ak) (he : evalA H tm (.lookup kd z ok am ak) = some eff) : EffOk P N w0 μ T o a w eff := by
  simp only [evalA] at he
  split at he
  · rename_i kv hm hk
    split at he
    · rename_i hkey; cases he; exact val_lookup (r := none) c ho ht hkt hi hz hzk h1 h2 hm hk hkey (.inl ⟨rfl, rfl⟩)
    · cases he
  · rename_i id kv hm hk
    split at he
    · rename_i hkey
      split at he
      · rename_i es cl hH
        split at he
        · rename_i i v b hf; cases he; exact val_lookup (r := some (i, v, b)) c ho ht hkt hi hz hzk h1 h2 hm hk hkey (.inr ⟨_, _, _, rfl, hH, hf⟩)
        · rename_i hf; cases he; exact val_lookup (r := none) c ho ht hkt hi hz hzk h1 h2 hm hk hkey (.inr ⟨_, _, _, rfl, hH, hf⟩)
        · cases he
      · cases he
    · cases he
  · cases he

theorem eff_mapSet (c : Cx P N w0 μ H T n tm a w) {t kt et : TypeId} {kd : Nat} {m k y : Operand} {am ak ay : AOpr} {eff : Eff}
    (ho : o.op = .mapUpdate t m k y) (ht : P.underlying t = some (.map kt et)) (hkt : keyType P kt = some kd)
    (h1 : cOpr P m = some am) (h2 : cOpr P k = some ak) (h3 : cOpr P y = some ay) (he : evalA H tm (.mapSet kd am ak ay) = some eff) : EffOk P N w0 μ T o a w eff := by
  simp only [evalA] at he
  split at he
  · rename_i id kv vv hm hk hy
    split at he
    · rename_i hkey
      split at he
      · rename_i es cl hH
        split at he
        · rename_i i v b hf; cases he; exact wr_mapSet (r := some (i, v, b)) c ho ht hkt h1 h2 h3 hm hk hy hkey hH hf
        · rename_i hf; cases he; exact wr_mapSet (r := none) c ho ht hkt h1 h2 h3 hm hk hy hkey hH hf
        · cases he
      · cases he
    · cases he
  · cases he

theorem eff_mapEntry (c : Cx P N w0 μ H T n tm a w) {t kt et : TypeId} {kd : Nat} {m k : Operand} {am ak : AOpr} {z : Value} {ti : TypeInfo} {eff : Eff}
    (ho : o.op = .mapEntry t m k) (ht : P.underlying t = some (.map kt et)) (hkt : keyType P kt = some kd) (hi : P.info? et = some ti) (hz : ti.zero = some z) (hzk : okConst z = true)
    (h1 : cOpr P m = some am) (h2 : cOpr P k = some ak) (he : evalA H tm (.mapEntry kd z am ak) = some eff) : EffOk P N w0 μ T o a w eff := by
  simp only [evalA] at he
  split at he
  · rename_i id kv hm hk
    split at he
    · rename_i hkey
      split at he
      · rename_i es cl hH
        split at he
        · rename_i i v b hf; cases he; exact wr_mapEntry (r := some (i, v, b)) c ho ht hkt hi hz hzk h1 h2 hm hk hkey hH hf
        · rename_i hf; cases he; exact wr_mapEntry (r := none) c ho ht hkt hi hz hzk h1 h2 hm hk hkey hH hf
        · cases he
      · cases he
    · cases he
  · cases he

theorem eff_entrySet (c : Cx P N w0 μ H T n tm a w) {t : TypeId} {m s y : Operand} {am as ay : AOpr} {eff : Eff}
    (ho : o.op = .entryStore t m s y) (h1 : cOpr P m = some am) (h2 : cOpr P s = some as) (h3 : cOpr P y = some ay) (he : evalA H tm (.entrySet am as ay) = some eff) : EffOk P N w0 μ T o a w eff := by
  simp only [evalA] at he
  split at he
  · rename_i id k b vv hm hs hy
    split at he
    · rename_i es cl hH
      split at he
      · rename_i i hf
        split at he
        · rename_i k0 v0 b0 hi; cases he; exact wr_entrySet c ho h1 h2 h3 hm hs hy hH hf hi rfl
        · cases he
      · cases he
    · cases he
  · cases he

theorem eff_extract (c : Cx P N w0 μ H T n tm a w) {x : Operand} {ax : AOpr} {i : Nat} {eff : Eff} (ho : o.op = .extract x i) (h1 : cOpr P x = some ax)
    (he : evalA H tm (.extract ax i) = some eff) : EffOk P N w0 μ T o a w eff := by
  simp only [evalA] at he
  split at he
  · rename_i vs hx
    split at he
    · rename_i v hv; cases he; exact val_extract c ho h1 hx hv
    · cases he
  · cases he

theorem cOprs1 {l : List Operand} {x : AOpr} (h : cOprs P l = some [x]) : ∃ y, l = [y] ∧ cOpr P y = some x := by
  cases l with
  | nil => simp [cOprs] at h
  | cons y l =>
    simp only [cOprs] at h
    split at h
    · rename_i z m h1 h2
      simp only [Option.some.injEq, List.cons.injEq] at h
      obtain ⟨rfl, rfl⟩ := h
      cases l with
      | nil => exact ⟨y, rfl, h1⟩
      | cons y2 l =>
        simp only [cOprs] at h2
        split at h2 <;> simp at h2
    · cases h

theorem cOprs_cons {l : List Operand} {x : AOpr} {xs : List AOpr} (h : cOprs P l = some (x :: xs)) : ∃ y m, l = y :: m ∧ cOpr P y = some x ∧ cOprs P m = some xs := by
  cases l with
  | nil => simp [cOprs] at h
  | cons y l =>
    simp only [cOprs] at h
    split at h
    · rename_i z m h1 h2
      simp only [Option.some.injEq, List.cons.injEq] at h
      obtain ⟨rfl, rfl⟩ := h
      exact ⟨y, l, rfl, h1, h2⟩
    · cases h

theorem cOprs_nil {l : List Operand} (h : cOprs P l = some []) : l = [] := by
  cases l with
  | nil => rfl
  | cons y l =>
    simp only [cOprs] at h
    split at h <;> simp at h

end
end Go.Ab
