/- awake of layer 22: its run, worked out by the kernel, is a contract. -/
import Derived.Test.YtdnfnjdkemohaaaGreatDoorFa
import Derived.Test.YtdnfnjdkemohaaaGreatDoorFb
import Derived.Test.YtdnfnjdkemohaaaGreatDoorPm4
namespace Go.Ab.Pr
open Go.Proofs Go.Ab

theorem mixed : Tryz.prog.follows .mixedOrders = true := by kernel_rfl

theorem ent_code {G f : Nat} {fn : Func} {af : AFunc} {ann : Nat → Ann} {fuel : Nat} (hf : Tryz.prog.funcs[f]? = some fn) (hn : fn.name ≠ "runtime.NumGoroutine") (hc : cFunc Tryz.prog ann fuel fn = some af)
    (hk : codeOk G af.body = true) : EntOk Tryz.prog G f (.code af) :=
  ⟨hk, fun _ _ _ hl haw => tri_of mixed hf hn hc hl haw⟩

def E22 : Nat → Option FEnt := fun f => match f with
  | 36 => some (.code ir36)
  | 37 => some (.code ir37)
  | 40 => some (.code ir40)
  | 45 => some (.code ir45)
  | 49 => some (.code ir49)
  | 52 => some (.code ir52)
  | 54 => some (.code ir54)
  | 105 => some (one repeatP)
  | 106 => some (.code ir106)
  | 113 => some (.code ir113)
  | 114 => some (one namesP)
  | 119 => some (.code ir119)
  | 126 => some (.code ir126)
  | 131 => some (.code ir131)
  | 132 => some (.code ir132)
  | 133 => some (.code ir133)
  | 134 => some (.code ir134)
  | 203 => some (.code ir203)
  | 209 => some (.code ir209)
  | 210 => some (.code ir210)
  | 211 => some (.code ir211)
  | 212 => some (one usedP)
  | 276 => some (.code ir276)
  | 277 => some (.code ir277)
  | 321 => some (.code ir321)
  | _ => none

def kB : KF Bool := fun v _ _ => match v with
  | .bool b => some b
  | _ => none

set_option maxRecDepth 100000 in
theorem run22 : evF E22 100000 36 [] .leaf 4 kB = some true := by kernel_rfl

set_option maxRecDepth 100000 in
theorem E22_ok : ∀ f x, E22 f = some x → EntOk Tryz.prog 4 f x := by
  intro f x h
  unfold E22 at h
  split at h <;> first
    | (cases h; done)
    | (cases h; exact ent105)
    | (cases h; exact ent114)
    | (cases h; exact ent212)
    | (cases h; exact ent_code Tryz.func36 (by decide) comp36 (by kernel_rfl))
    | (cases h; exact ent_code Tryz.func37 (by decide) comp37 (by kernel_rfl))
    | (cases h; exact ent_code Tryz.func40 (by decide) comp40 (by kernel_rfl))
    | (cases h; exact ent_code Tryz.func45 (by decide) comp45 (by kernel_rfl))
    | (cases h; exact ent_code Tryz.func49 (by decide) comp49 (by kernel_rfl))
    | (cases h; exact ent_code Tryz.func52 (by decide) comp52 (by kernel_rfl))
    | (cases h; exact ent_code Tryz.func54 (by decide) comp54 (by kernel_rfl))
    | (cases h; exact ent_code Tryz.func106 (by decide) comp106 (by kernel_rfl))
    | (cases h; exact ent_code Tryz.func113 (by decide) comp113 (by kernel_rfl))
    | (cases h; exact ent_code Tryz.func119 (by decide) comp119 (by kernel_rfl))
    | (cases h; exact ent_code Tryz.func126 (by decide) comp126 (by kernel_rfl))
    | (cases h; exact ent_code Tryz.func131 (by decide) comp131 (by kernel_rfl))
    | (cases h; exact ent_code Tryz.func132 (by decide) comp132 (by kernel_rfl))
    | (cases h; exact ent_code Tryz.func133 (by decide) comp133 (by kernel_rfl))
    | (cases h; exact ent_code Tryz.func134 (by decide) comp134 (by kernel_rfl))
    | (cases h; exact ent_code Tryz.func203 (by decide) comp203 (by kernel_rfl))
    | (cases h; exact ent_code Tryz.func209 (by decide) comp209 (by kernel_rfl))
    | (cases h; exact ent_code Tryz.func210 (by decide) comp210 (by kernel_rfl))
    | (cases h; exact ent_code Tryz.func211 (by decide) comp211 (by kernel_rfl))
    | (cases h; exact ent_code Tryz.func276 (by decide) comp276 (by kernel_rfl))
    | (cases h; exact ent_code Tryz.func277 (by decide) comp277 (by kernel_rfl))
    | (cases h; exact ent_code Tryz.func321 (by decide) comp321 (by kernel_rfl))

theorem rel_leaf (H : Hp) : Rel id 4 [] .leaf 4 [] H where
  st := { tm := fun t v h => (by simp [Tm.get] at h), hp := fun i o h => (by cases h), gl := fun _ _ => rfl }
  wt := fun t v h => by simp [Tm.get] at h
  wh := fun i o h => by cases h
  inj := fun i j oi oj h => by cases h
  gc := Nat.le_refl _

theorem awake22 (H : Hp) : Tri Tryz.prog 36 [] H fun v _ => v = .bool true := by
  have := evF_tri E22_ok run22 rfl (rel_leaf H)
  refine this.mono fun v₁ H' h => ?_
  obtain ⟨v, h', c', r', hk, _, e, _, _⟩ := h
  subst e
  unfold kB at hk
  split at hk
  · cases hk; rfl
  · cases hk

end Go.Ab.Pr
