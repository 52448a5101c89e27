/- Every operation of the abstract program does what the model's operation does. -/
import Derived.Test.YtdnfnjdkemohaaaGreatDoorAb14
namespace Go.Ab

/-- A function with a body, that a call enters. -/
def fnOk (P : Program) (f : FuncId) : Prop := ∃ fn b, P.funcs[f]? = some fn ∧ fn.body = some b ∧ fn.name ≠ "runtime.NumGoroutine"

def EffOk (P : Program) (N : Nat) (w0 : World) (μ : Mu) (T : Hp) (o : Oper) (a : Act) (w : World) : Eff → Prop
  | .val v => ValOk P μ o a w v
  | .new ob mk => NewOk P N w0 μ T o a w ob mk
  | .wr id ob v => WrOk P N w0 μ T o a w id ob v
  | .app er ob mk => AppOk P N w0 μ T o a w er ob mk
  | .call f args => fnOk P f → ∃ args', (execOp a.eval o).run P w = .ok (.enter f args') w ∧ VRL μ args args'.toList

section
variable {P : Program} {N : Nat} {w0 : World} {μ : Mu} {H T : Hp} {n : Nat} {tm : Tm} {a : Act} {w : World} {o : Oper}

theorem map_some {α β : Type} {f : α → β} {x : Option α} {y : β} (h : x.map f = some y) : ∃ z, x = some z ∧ f z = y := by
  cases x with
  | none => cases h
  | some z => exact ⟨z, rfl, by simpa using h⟩

theorem eff_mov (c : Cx P N w0 μ H T n tm a w) {x : Operand} {ax : AOpr} {eff : Eff} (ho : o.op = .move x ∨ o.op = .assign x) (h1 : cOpr P x = some ax)
    (he : evalA H tm (.mov ax) = some eff) : EffOk P N w0 μ T o a w eff := by
  simp only [evalA] at he
  split at he
  · rename_i v hv; cases he; exact val_mov c ho h1 hv
  · cases he

theorem eff_pick (c : Cx P N w0 μ H T n tm a w) {x y z : Operand} {ax ay az : AOpr} {eff : Eff} (ho : o.op = .pick x y z) (h1 : cOpr P x = some ax) (h2 : cOpr P y = some ay) (h3 : cOpr P z = some az)
    (he : evalA H tm (.pick ax ay az) = some eff) : EffOk P N w0 μ T o a w eff := by
  simp only [evalA] at he
  split at he
  · rename_i hb
    split at he
    · rename_i v hv; cases he; exact val_pick c ho h1 h2 h3 hb (by simpa using hv)
    · cases he
  · rename_i hb
    split at he
    · rename_i v hv; cases he; exact val_pick c ho h1 h2 h3 hb (by simpa using hv)
    · cases he
  · cases he

theorem eff_load (c : Cx P N w0 μ H T n tm a w) {t : TypeId} {x : Operand} {ax : AOpr} {m : Nat} {d : TypeDesc} {eff : Eff} (ho : o.op = .load t x) (h1 : cOpr P x = some ax) (hz : szOf P t = some m)
    (hd : P.underlying t = some d) (he : evalA H tm (.load (isAggD (some d)) m ax) = some eff) : EffOk P N w0 μ T o a w eff := by
  simp only [evalA] at he
  split at he
  · rename_i id off hx
    split at he
    · rename_i ro cs hH
      split at he
      · rename_i hagg
        split at he
        · rename_i hb; cases he; exact val_load c ho h1 hz hd hx hH (by rw [if_pos hagg]; exact ⟨hb, rfl⟩)
        · cases he
      · rename_i hagg
        split at he
        · rename_i v hv; cases he; exact val_load c ho h1 hz hd hx hH (by rw [if_neg hagg]; exact hv)
        · cases he
    · rename_i B p s hH
      split at he
      · cases he
      · rename_i hagg
        have hagg' : isAggD (some d) = false := by simpa using hagg
        split at he
        · rename_i h0; cases he; exact val_loadB c ho h1 hz hd hx hH hagg' (.inl ⟨h0, rfl⟩)
        · split at he
          · rename_i h0; cases he; exact val_loadB c ho h1 hz hd hx hH hagg' (.inr ⟨h0, rfl⟩)
          · cases he
    · cases he
  · cases he

theorem eff_store (c : Cx P N w0 μ H T n tm a w) {t : TypeId} {x y : Operand} {ax ay : AOpr} {m : Nat} {eff : Eff} (ho : o.op = .store t x y) (h1 : cOpr P x = some ax) (h2 : cOpr P y = some ay) (hz : szOf P t = some m)
    (he : evalA H tm (.store m ax ay) = some eff) : EffOk P N w0 μ T o a w eff := by
  simp only [evalA] at he
  split at he
  · rename_i id off v hx hy
    split at he
    · rename_i cs hH
      split at he
      · rename_i hb; cases he; exact wr_store c ho h1 h2 hz hx hy hH hb
      · cases he
    · rename_i B p s hH
      split at he
      · rename_i hb; obtain ⟨hn, hoff, hsc⟩ := hb; subst hn; subst hoff; cases he; exact wr_storeB c ho h1 h2 hz hx hy hH hsc
      · cases he
    · cases he
  · cases he

theorem eff_nilCheck (c : Cx P N w0 μ H T n tm a w) {x : Operand} {ax : AOpr} {eff : Eff} (ho : o.op = .nilCheck x) (h1 : cOpr P x = some ax)
    (he : evalA H tm (.nilCheck ax) = some eff) : EffOk P N w0 μ T o a w eff := by
  simp only [evalA] at he
  split at he
  · rename_i b hx; cases he; exact val_nilCheck c ho h1 hx (.inl ⟨_, rfl⟩)
  · rename_i f p q hx; cases he; exact val_nilCheck c ho h1 hx (.inr ⟨_, _, _, rfl⟩)
  · cases he

theorem eff_off (c : Cx P N w0 μ H T n tm a w) {s : TypeId} {x : Operand} {f : Nat} {fs : Array Field} {fd : Field} {m : Nat} {ax : AOpr} {eff : Eff}
    (ho : o.op = .fieldAddr s x f) (hs : P.underlying s = some (.struct fs)) (hf : fs[f]? = some fd) (hz : szOf P fd.type = some m) (hm : m ≠ 0) (h1 : cOpr P x = some ax)
    (he : evalA H tm (.off fd.offset ax) = some eff) : EffOk P N w0 μ T o a w eff := by
  simp only [evalA] at he
  split at he
  · rename_i id off hx; cases he; exact val_off c ho hs hf hz hm h1 hx
  · cases he

theorem eff_field (c : Cx P N w0 μ H T n tm a w) {s : TypeId} {x : Operand} {f : Nat} {fs : Array Field} {fd : Field} {m : Nat} {d : TypeDesc} {ax : AOpr} {eff : Eff}
    (ho : o.op = .field s x f) (hs : P.underlying s = some (.struct fs)) (hf : fs[f]? = some fd) (hz : szOf P fd.type = some m) (hd : P.underlying fd.type = some d) (h1 : cOpr P x = some ax)
    (he : evalA H tm (.field (isAggD (some d)) fd.offset m ax) = some eff) : EffOk P N w0 μ T o a w eff := by
  simp only [evalA] at he
  split at he
  · rename_i cs hx
    split at he
    · rename_i hagg; cases he; exact val_field c ho hs hf hz hd h1 hx (by rw [if_pos hagg])
    · rename_i hagg
      split at he
      · rename_i v hv; cases he; exact val_field c ho hs hf hz hd h1 hx (by rw [if_neg hagg]; exact hv)
      · cases he
  · cases he

theorem eff_idxPtr (c : Cx P N w0 μ H T n tm a w) {t e : TypeId} {x i : Operand} {len m : Nat} {ax ai : AOpr} {eff : Eff}
    (ho : o.op = .indexAddr t x i) (ht : P.underlying t = some (.array len e)) (hz : szOf P e = some m) (h1 : cOpr P x = some ax) (h2 : cOpr P i = some ai)
    (he : evalA H tm (.idxPtr len m ax ai) = some eff) : EffOk P N w0 μ T o a w eff := by
  simp only [evalA] at he
  split at he
  · rename_i id off k j hx hi
    split at he
    · rename_i hb; cases he; exact val_idxPtr c ho ht hz h1 h2 hx hi hb
    · cases he
  · cases he

theorem eff_idxSl (c : Cx P N w0 μ H T n tm a w) {t e : TypeId} {x i : Operand} {m : Nat} {ax ai : AOpr} {eff : Eff}
    (ho : o.op = .indexAddr t x i) (ht : P.underlying t = some (.slice e)) (hz : szOf P e = some m) (h1 : cOpr P x = some ax) (h2 : cOpr P i = some ai)
    (he : evalA H tm (.idxSl m ax ai) = some eff) : EffOk P N w0 μ T o a w eff := by
  simp only [evalA] at he
  split at he
  · rename_i id off len e0 k j hx hi
    split at he
    · rename_i hb
      obtain ⟨b1, b2, rfl⟩ := hb
      cases he
      exact val_idxSl c ho ht hz h1 h2 hx hi ⟨b1, b2⟩
    · cases he
  · cases he

theorem eff_idxStr (c : Cx P N w0 μ H T n tm a w) {t : TypeId} {x i : Operand} {ax ai : AOpr} {eff : Eff}
    (ho : o.op = .index t x i) (ht : P.underlying t = some .string) (h1 : cOpr P x = some ax) (h2 : cOpr P i = some ai)
    (he : evalA H tm (.idxStr ax ai) = some eff) : EffOk P N w0 μ T o a w eff := by
  simp only [evalA] at he
  split at he
  · rename_i s k j hx hi
    split at he
    · rename_i hb
      split at he
      · rename_i b hbb; cases he; exact val_idxStr c ho ht h1 h2 hx hi hb hbb
      · cases he
    · cases he
  · cases he

theorem eff_idxAgg (c : Cx P N w0 μ H T n tm a w) {t e : TypeId} {x i : Operand} {len m : Nat} {d : TypeDesc} {ax ai : AOpr} {eff : Eff}
    (ho : o.op = .index t x i) (ht : P.underlying t = some (.array len e)) (hz : szOf P e = some m) (hd : P.underlying e = some d) (h1 : cOpr P x = some ax) (h2 : cOpr P i = some ai)
    (he : evalA H tm (.idxAgg (isAggD (some d)) len m ax ai) = some eff) : EffOk P N w0 μ T o a w eff := by
  simp only [evalA] at he
  split at he
  · rename_i cs k j hx hi
    split at he
    · rename_i hb
      split at he
      · rename_i hagg; cases he; exact val_idxAgg c ho ht hz hd h1 h2 hx hi hb (by rw [if_pos hagg])
      · rename_i hagg
        split at he
        · rename_i v hv; cases he; exact val_idxAgg c ho ht hz hd h1 h2 hx hi hb (by rw [if_neg hagg]; exact hv)
        · cases he
    · cases he
  · cases he

theorem eff_bin (c : Cx P N w0 μ H T n tm a w) {op : BinOp} {t u : TypeId} {x y : Operand} {ax ay : AOpr} {ao : AOp} {eff : Eff} (ho : o.op = .binOp op t x y u)
    (h1 : cOpr P x = some ax) (h2 : cOpr P y = some ay) (hc : cBin P op t ax ay = some ao) (he : evalA H tm ao = some eff) : EffOk P N w0 μ T o a w eff := by
  have bin : evalA H tm (.bin op ax ay) = some eff → EffOk P N w0 μ T o a w eff := by
    intro he
    simp only [evalA] at he
    split at he
    · rename_i p q hp hq
      split at he
      · rename_i v hv; cases he; exact val_bin c ho h1 h2 hp hq hv
      · cases he
    · cases he
  have eqB : ∀ neg, (op = if neg then .neq else .eql) → P.underlying t = some .bool → evalA H tm (.eqB neg ax ay) = some eff → EffOk P N w0 μ T o a w eff := by
    intro neg hop ht he
    simp only [evalA] at he
    split at he
    · rename_i p q hp hq; cases he; exact val_eqB c ho hop ht h1 h2 hp hq
    · cases he
  have eqP : ∀ neg e m, (op = if neg then .neq else .eql) → P.underlying t = some (.pointer e) → szOf P e = some m → m ≠ 0 → evalA H tm (.eqP neg ax ay) = some eff → EffOk P N w0 μ T o a w eff := by
    intro neg e m hop ht hz hm he
    simp only [evalA] at he
    split at he
    · rename_i hp hq; cases he; exact val_eqP c ho hop ht hz hm h1 h2 hp hq (.inl ⟨rfl, rfl, rfl⟩)
    · rename_i hp hq; cases he; exact val_eqP c ho hop ht hz hm h1 h2 hp hq (.inr (.inl ⟨rfl, rfl, rfl⟩))
    · rename_i hp hq; cases he; exact val_eqP c ho hop ht hz hm h1 h2 hp hq (.inr (.inr (.inl ⟨rfl, rfl, rfl⟩)))
    · rename_i i k j l hp hq
      split at he
      · rename_i hij
        subst hij
        cases he
        exact val_eqP c ho hop ht hz hm h1 h2 hp hq (.inr (.inr (.inr ⟨_, _, _, rfl, rfl, rfl⟩)))
      · cases he
    · cases he
  have eqN : ∀ kd neg d, (op = if neg then .neq else .eql) → P.underlying t = some d → nilTy kd d = true → evalA H tm (.eqN kd neg ax ay) = some eff → EffOk P N w0 μ T o a w eff := by
    intro kd neg d hop ht hd he
    simp only [evalA] at he
    split at he
    · rename_i p q hp hq
      split at he
      · rename_i r hr; cases he; exact val_eqN c ho hop ht hd h1 h2 hp hq hr
      · cases he
    · cases he
  have eqA : ∀ neg ks, (op = if neg then .neq else .eql) → flatEq P t = some ks → evalA H tm (.eqA neg ks ax ay) = some eff → EffOk P N w0 μ T o a w eff := by
    intro neg ks hop ht he
    simp only [evalA] at he
    split at he
    · rename_i p q hp hq
      split at he
      · rename_i r hr; cases he; exact val_eqA c ho hop ht h1 h2 hp hq hr
      · cases he
    · cases he
  unfold cBin at hc
  split at hc
  · cases hc; exact bin he
  · cases hc; exact bin he
  · cases hc; exact bin he
  · cases hc; exact bin he
  · cases hc; exact bin he
  · rename_i ht; cases hc; exact eqB false rfl ht he
  · rename_i ht; cases hc; exact eqB true rfl ht he
  · rename_i e ht
    split at hc
    · cases hc
    · rename_i hz
      split at hc
      · rename_i hs
        cases hc
        obtain ⟨m, hm⟩ := Option.isSome_iff_exists.1 hs
        exact eqP false e m rfl ht hm (fun h0 => hz (by rw [hm, h0])) he
      · cases hc
  · rename_i e ht
    split at hc
    · cases hc
    · rename_i hz
      split at hc
      · rename_i hs
        cases hc
        obtain ⟨m, hm⟩ := Option.isSome_iff_exists.1 hs
        exact eqP true e m rfl ht hm (fun h0 => hz (by rw [hm, h0])) he
      · cases hc
  · rename_i e ht; cases hc; exact eqN 0 false _ rfl ht rfl he
  · rename_i e ht; cases hc; exact eqN 0 true _ rfl ht rfl he
  · rename_i e f ht; cases hc; exact eqN 1 false _ rfl ht rfl he
  · rename_i e f ht; cases hc; exact eqN 1 true _ rfl ht rfl he
  · rename_i e f g ht; cases hc; exact eqN 2 false _ rfl ht rfl he
  · rename_i e f g ht; cases hc; exact eqN 2 true _ rfl ht rfl he
  · obtain ⟨ks, hk, rfl⟩ := map_some hc; exact eqA false ks rfl hk he
  · obtain ⟨ks, hk, rfl⟩ := map_some hc; exact eqA true ks rfl hk he
  · cases hc

end
end Go.Ab
