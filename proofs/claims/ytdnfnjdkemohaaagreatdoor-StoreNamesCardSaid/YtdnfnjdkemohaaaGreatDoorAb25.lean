/- Renaming of ids: what an operation does does not hang on the names of the objects. -/
import Derived.Test.YtdnfnjdkemohaaaGreatDoorAb24
namespace Go.Ab

def renAd (r : Nat → Nat) (a : Addr) : Addr := ⟨r a.block, a.off, a.spot⟩

mutual
def ren (r : Nat → Nat) : Value → Value
  | .pointer (some a) => .pointer (some (renAd r a))
  | .slice (some a) n e => .slice (some (renAd r a)) n e
  | .map (some i) => .map (some (r i))
  | .func f a b => .func f (renA r a) (renA r b)
  | .iface t v => .iface t (ren r v)
  | .agg cs => .agg (renA r cs)
  | .tuple cs => .tuple (renA r cs)
  | .bool b => .bool b
  | .int k n => .int k n
  | .float k b => .float k b
  | .complex k a b => .complex k a b
  | .string s => .string s
  | .pointer none => .pointer none
  | .slice none n e => .slice none n e
  | .map none => .map none
  | .chan c => .chan c
  | .nilFunc => .nilFunc
  | .nilIface => .nilIface
def renA (r : Nat → Nat) : Array Value → Array Value
  | ⟨l⟩ => ⟨renL r l⟩
def renL (r : Nat → Nat) : List Value → List Value
  | [] => []
  | v :: l => ren r v :: renL r l
end

mutual
/-- All ids below c. -/
def wf (c : Nat) : Value → Bool
  | .pointer (some a) => decide (a.block < c)
  | .slice (some a) _ _ => decide (a.block < c)
  | .map (some i) => decide (i < c)
  | .func _ a b => wfA c a && wfA c b
  | .iface _ v => wf c v
  | .agg cs => wfA c cs
  | .tuple cs => wfA c cs
  | _ => true
def wfA (c : Nat) : Array Value → Bool
  | ⟨l⟩ => wfL c l
def wfL (c : Nat) : List Value → Bool
  | [] => true
  | v :: l => wf c v && wfL c l
end

theorem renL_map (r : Nat → Nat) (l : List Value) : renL r l = l.map (ren r) := by
  induction l with
  | nil => rfl
  | cons v l ih => simp [renL, ih]

theorem renA_toList (r : Nat → Nat) (a : Array Value) : (renA r a).toList = a.toList.map (ren r) := by
  cases a; simp [renA, renL_map]

theorem renA_toArray (r : Nat → Nat) (l : List Value) : renA r l.toArray = (l.map (ren r)).toArray := by
  simp [renA, renL_map]

theorem wfL_all (c : Nat) (l : List Value) : wfL c l = true ↔ ∀ v ∈ l, wf c v = true := by
  induction l with
  | nil => simp [wfL]
  | cons v l ih => simp [wfL, ih]

mutual
theorem ren_congr {r r' : Nat → Nat} {c : Nat} (h : ∀ i, i < c → r i = r' i) : ∀ v, wf c v = true → ren r v = ren r' v
  | .pointer (some a), w => by simp only [wf, decide_eq_true_eq] at w; simp only [ren, renAd, h _ w]
  | .slice (some a) n e, w => by simp only [wf, decide_eq_true_eq] at w; simp only [ren, renAd, h _ w]
  | .map (some i), w => by simp only [wf, decide_eq_true_eq] at w; simp only [ren, h _ w]
  | .func f a b, w => by simp only [wf, Bool.and_eq_true] at w; simp only [ren, renA_congr h a w.1, renA_congr h b w.2]
  | .iface t v, w => by simp only [wf] at w; simp only [ren, ren_congr h v w]
  | .agg cs, w => by simp only [wf] at w; simp only [ren, renA_congr h cs w]
  | .tuple cs, w => by simp only [wf] at w; simp only [ren, renA_congr h cs w]
  | .bool _, _ => rfl
  | .int _ _, _ => rfl
  | .float _ _, _ => rfl
  | .complex _ _ _, _ => rfl
  | .string _, _ => rfl
  | .pointer none, _ => rfl
  | .slice none _ _, _ => rfl
  | .map none, _ => rfl
  | .chan _, _ => rfl
  | .nilFunc, _ => rfl
  | .nilIface, _ => rfl
theorem renA_congr {r r' : Nat → Nat} {c : Nat} (h : ∀ i, i < c → r i = r' i) : ∀ a, wfA c a = true → renA r a = renA r' a
  | ⟨l⟩, w => by simp only [wfA] at w; simp only [renA, renL_congr h l w]
theorem renL_congr {r r' : Nat → Nat} {c : Nat} (h : ∀ i, i < c → r i = r' i) : ∀ l, wfL c l = true → renL r l = renL r' l
  | [], _ => rfl
  | v :: l, w => by simp only [wfL, Bool.and_eq_true] at w; simp only [renL, ren_congr h v w.1, renL_congr h l w.2]
end

def renOb (r : Nat → Nat) : Ob → Ob
  | .cells ro c => .cells ro (c.map (ren r))
  | .map es k => .map (es.map fun e => (ren r e.1, ren r e.2.1, e.2.2)) k
  | .bld T p s => .bld T (ren r p) (ren r s)

def wfOb (c : Nat) : Ob → Bool
  | .cells _ l => wfL c l
  | .map es _ => es.all fun e => wf c e.1 && wf c e.2.1
  | .bld _ p s => wf c p && wf c s

theorem renOb_congr {r r' : Nat → Nat} {c : Nat} (h : ∀ i, i < c → r i = r' i) {ob : Ob} (w : wfOb c ob = true) : renOb r ob = renOb r' ob := by
  cases ob with
  | cells ro l =>
    simp only [wfOb, wfL_all] at w
    simp only [renOb]
    congr 1
    exact List.map_congr_left fun v hv => ren_congr h v (w v hv)
  | map es k =>
    simp only [wfOb, List.all_eq_true, Bool.and_eq_true] at w
    simp only [renOb]
    congr 1
    exact List.map_congr_left fun e he => by rw [ren_congr h _ (w e he).1, ren_congr h _ (w e he).2]
  | bld T p s =>
    simp only [wfOb, Bool.and_eq_true] at w
    simp only [renOb, ren_congr h p w.1, ren_congr h s w.2]

def renEff (r : Nat → Nat) : Eff → Eff
  | .val v => .val (ren r v)
  | .new ob mk => .new (renOb r ob) mk
  | .wr id ob v => .wr (r id) (renOb r ob) (ren r v)
  | .app er ob mk => .app (er.map r) (renOb r ob) mk
  | .call f args => .call f (args.map (ren r))

/-- The second state is the first renamed (and may hold more). -/
structure StR (r : Nat → Nat) (G : Nat) (tm : Tm) (H : Hp) (tm' : Tm) (H' : Hp) : Prop where
  tm : ∀ t v, tm.get t = some v → tm'.get t = some (ren r v)
  hp : ∀ i o, H i = some o → H' (r i) = some (renOb r o)
  gl : ∀ i, i < G → r i = i

def globOk (G : Nat) : AOpr → Bool
  | .glob g => decide (g < G)
  | _ => true

mutual
theorem wf0_ren {r : Nat → Nat} : ∀ v, wf 0 v = true → ren r v = v
  | .pointer (some a), w => by simp [wf] at w
  | .slice (some a) n e, w => by simp [wf] at w
  | .map (some i), w => by simp [wf] at w
  | .func f a b, w => by simp only [wf, Bool.and_eq_true] at w; simp only [ren, wf0_renA a w.1, wf0_renA b w.2]
  | .iface t v, w => by simp only [wf] at w; simp only [ren, wf0_ren v w]
  | .agg cs, w => by simp only [wf] at w; simp only [ren, wf0_renA cs w]
  | .tuple cs, w => by simp only [wf] at w; simp only [ren, wf0_renA cs w]
  | .bool _, _ => rfl
  | .int _ _, _ => rfl
  | .float _ _, _ => rfl
  | .complex _ _ _, _ => rfl
  | .string _, _ => rfl
  | .pointer none, _ => rfl
  | .slice none _ _, _ => rfl
  | .map none, _ => rfl
  | .chan _, _ => rfl
  | .nilFunc, _ => rfl
  | .nilIface, _ => rfl
theorem wf0_renA {r : Nat → Nat} : ∀ a, wfA 0 a = true → renA r a = a
  | ⟨l⟩, w => by simp only [wfA] at w; simp only [renA, wf0_renL l w]
theorem wf0_renL {r : Nat → Nat} : ∀ l, wfL 0 l = true → renL r l = l
  | [], _ => rfl
  | v :: l, w => by simp only [wfL, Bool.and_eq_true] at w; simp only [renL, wf0_ren v w.1, wf0_renL l w.2]
end

theorem wf0_map {r : Nat → Nat} {l : List Value} (h : wfL 0 l = true) : l.map (ren r) = l := by rw [← renL_map]; exact wf0_renL l h

/-- An operand may stand in code: a global below G, a constant without ids. -/
def xOk (G : Nat) : AOpr → Bool
  | .tmp _ => true
  | .con v => wf 0 v
  | .glob g => decide (g < G)

def zOk : AOp → Bool
  | .new z | .build z _ | .buildSlice _ _ z _ | .mkSlice _ _ z _ _ => wfL 0 z
  | .lookup _ z _ _ _ | .mapEntry _ z _ _ => wf 0 z
  | _ => true

def opOk (G : Nat) (op : AOp) : Bool := (oprs op).all (xOk G) && zOk op

section
variable {r : Nat → Nat} {G : Nat} {tm tm' : Tm} {H H' : Hp}

theorem aev_ren (s : StR r G tm H tm' H') {x : AOpr} {v : Value} (hx : xOk G x = true) (h : aev H tm x = some v) : aev H' tm' x = some (ren r v) := by
  cases x with
  | tmp t => exact s.tm t v h
  | con c =>
    simp only [aev, Option.some.injEq] at h ⊢
    subst h
    exact (wf0_ren _ hx).symm
  | glob g =>
    simp only [xOk, decide_eq_true_eq] at hx
    simp only [aev] at h ⊢
    split at h
    · rename_i ro c e
      cases h
      have h1 := s.hp g _ e
      rw [s.gl g hx] at h1
      rw [h1]
      simp only [renOb, ren, renAd, s.gl g hx]
    · cases h

theorem aevs_ren (s : StR r G tm H tm' H') : ∀ {l : List AOpr} {vs : List Value}, (∀ x ∈ l, xOk G x = true) → aevs H tm l = some vs → aevs H' tm' l = some (vs.map (ren r)) := by
  intro l
  induction l with
  | nil => intro vs _ h; simp only [aevs, Option.some.injEq] at h ⊢; subst h; rfl
  | cons x l ih =>
    intro vs hx h
    simp only [aevs] at h ⊢
    split at h
    · rename_i v ws e1 e2
      cases h
      rw [aev_ren s (hx x (List.mem_cons_self ..)) e1, ih (fun y hy => hx y (List.mem_cons_of_mem _ hy)) e2]
      rfl
    · cases h

def renPart (r : Nat → Nat) (p : Nat × Nat × Value) : Nat × Nat × Value := (p.1, p.2.1, ren r p.2.2)

theorem aparts_ren (s : StR r G tm H tm' H') : ∀ {l : List (Nat × Nat × AOpr)} {vs : List (Nat × Nat × Value)}, (∀ x ∈ l.map (·.2.2), xOk G x = true) → aparts H tm l = some vs → aparts H' tm' l = some (vs.map (renPart r)) := by
  intro l
  induction l with
  | nil => intro vs _ h; simp only [aparts, Option.some.injEq] at h ⊢; subst h; rfl
  | cons x l ih =>
    obtain ⟨o, n, x⟩ := x
    intro vs hx h
    simp only [aparts] at h ⊢
    split at h
    · rename_i v ws e1 e2
      cases h
      rw [aev_ren s (hx x (by simp)) e1, ih (fun y hy => hx y (by simp only [List.map_cons, List.mem_cons]; exact .inr hy)) e2]
      rfl
    · cases h

theorem oint_ren (s : StR r G tm H tm' H') {d : Int} {o : Option AOpr} {i : Int} (hx : ∀ x ∈ o.toList, xOk G x = true) (h : oint d H tm o = some i) : oint d H' tm' o = some i := by
  cases o with
  | none => exact h
  | some x =>
    simp only [oint] at h ⊢
    split at h
    · rename_i k j e; rw [aev_ren s (hx x (by simp)) e]; exact h
    · cases h

theorem scalar_ren (v : Value) : scalar (ren r v) = scalar v := by
  cases v <;> first
    | rfl
    | (rename_i a; cases a <;> rfl)
    | (rename_i a _ _; cases a <;> rfl)

theorem scalars_ren (l : List Value) : (l.map (ren r)).all scalar = l.all scalar := by
  induction l with
  | nil => rfl
  | cons v l ih => simp only [List.map_cons, List.all_cons, scalar_ren, ih]

theorem cellsL_ren (v : Value) : cellsL (ren r v) = (cellsL v).map (ren r) := by
  cases v <;> first
    | rfl
    | (rename_i a; cases a <;> rfl)
    | (rename_i a _ _; cases a <;> rfl)
    | (simp only [ren, cellsL, renA_toList])

theorem spl_ren : ∀ (x c : List Value) (o : Nat), spl (c.map (ren r)) o (x.map (ren r)) = (spl c o x).map (ren r) := by
  intro x
  induction x with
  | nil => intro c o; rfl
  | cons v x ih =>
    intro c o
    simp only [List.map_cons, spl]
    rw [← ih, List.map_set]

theorem fillA_ren : ∀ {vs : List (Nat × Nat × Value)} {z c : List Value}, fillA z vs = some c → fillA (z.map (ren r)) (vs.map (renPart r)) = some (c.map (ren r)) := by
  intro vs
  induction vs with
  | nil => intro z c h; simp only [fillA, Option.some.injEq] at h; subst h; rfl
  | cons p vs ih =>
    obtain ⟨o, n, v⟩ := p
    intro z c h
    simp only [fillA] at h
    simp only [List.map_cons, renPart, fillA, cellsL_ren, List.length_map]
    split at h
    · rename_i hh
      rw [if_pos hh, spl_ren]
      exact ih h
    · cases h

theorem slCells_ren (s : StR r G tm H tm' H') {n : Nat} {v : Value} {c : List Value} (h : slCells H n v = some c) : slCells H' n (ren r v) = some (c.map (ren r)) := by
  unfold slCells at h
  split at h
  · cases h; rfl
  · split at h
    · rename_i e
      have := s.hp _ _ e
      split at h
      · rename_i hh
        cases h
        simp only [ren, renAd, slCells, this, renOb, List.length_map]
        rw [if_pos hh, List.map_take, List.map_drop]
      · cases h
    · cases h
  · cases h

theorem ub_ren (l : List UInt8) : (l.map ub).map (ren r) = l.map ub := by
  rw [List.map_map]; exact List.map_congr_left fun b _ => rfl

theorem apCells_ren (s : StR r G tm H tm' H') {n : Nat} {v : Value} {c : Nat × List Value} (h : apCells H n v = some c) : apCells H' n (ren r v) = some (c.1, c.2.map (ren r)) := by
  unfold apCells at h
  split at h
  · rename_i a k e
    split at h
    · rename_i c0 hc
      cases h
      have := slCells_ren s hc
      cases a with
      | none => simp only [ren] at this ⊢; simp only [apCells, this]
      | some a => simp only [ren] at this ⊢; simp only [apCells, this]
    · cases h
  · split at h
    · rename_i s0 hh
      cases h
      simp only [ren, apCells, if_pos hh, ub_ren]
    · cases h
  · cases h

theorem bytesOf_ren : ∀ {c : List Value} {l : List UInt8}, bytesOf c = some l → bytesOf (c.map (ren r)) = some l := by
  intro c
  induction c with
  | nil => intro l h; exact h
  | cons v c ih =>
    intro l h
    unfold bytesOf at h
    split at h
    · rename_i h1; cases h1
    · rename_i n l0 h1
      cases h1
      split at h
      · rename_i r0 e
        cases h
        simp only [List.map_cons, ren, bytesOf, ih e]
      · cases h
    · cases h

end
end Go.Ab
