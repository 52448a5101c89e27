/- The abstract heap of this proof, and how it is tied to the model's World: values with logical block numbers, objects (rows of cells, maps), and the relation Sim between an abstract heap and a World. -/
import Derived.Below
import Derived.Calls
namespace Go.Ab
open Go.RowKit (Below)

/-- Where a logical object lies: block, first cell, how many cells it may use. -/
structure Loc where
  b : Nat
  o : Nat
  room : Nat

abbrev Mu := Nat → Option Loc

def scalar : Value → Bool
  | .agg _ | .tuple _ => false
  | _ => true

/-- An abstract value (logical ids in addresses; the cap field of a slice bears its element size) and the value of the World. -/
inductive VR (μ : Mu) : Value → Value → Prop
  | bool (b : Bool) : VR μ (.bool b) (.bool b)
  | int (k : IntKind) (n : Int) : VR μ (.int k n) (.int k n)
  | float (k : FloatKind) (n : Nat) : VR μ (.float k n) (.float k n)
  | string (s : ByteArray) : VR μ (.string s) (.string s)
  | nilp : VR μ (.pointer none) (.pointer none)
  | ptr (id off : Nat) (loc : Loc) (h : μ id = some loc) : VR μ (.pointer (some ⟨id, off, none⟩)) (.pointer (some ⟨loc.b, loc.o + off, none⟩))
  | nils : VR μ (.slice none 0 0) (.slice none 0 0)
  | slice (id off len cap e : Nat) (loc : Loc) (h : μ id = some loc) (hc : len ≤ cap) (hr : off + cap * e ≤ loc.room) :
      VR μ (.slice (some ⟨id, off, none⟩) len e) (.slice (some ⟨loc.b, loc.o + off, none⟩) len cap)
  | slice0 (a : Addr) (e : Nat) (a' : Addr) : VR μ (.slice (some a) 0 e) (.slice (some a') 0 0)
  | nilm : VR μ (.map none) (.map none)
  | map (id : Nat) (loc : Loc) (h : μ id = some loc) : VR μ (.map (some id)) (.map (some loc.b))
  | nilFunc : VR μ .nilFunc .nilFunc
  | func (fn : Fn) (f f' c c' : Array Value) (hf : f.size = f'.size) (hfv : ∀ (i : Nat) v v', f[i]? = some v → f'[i]? = some v' → VR μ v v')
      (hc : c.size = c'.size) (hcv : ∀ (i : Nat) v v', c[i]? = some v → c'[i]? = some v' → VR μ v v') : VR μ (.func fn f c) (.func fn f' c')
  | nilIface : VR μ .nilIface .nilIface
  | iface (t : TypeId) (v v' : Value) (h : VR μ v v') : VR μ (.iface t v) (.iface t v')
  | agg (c c' : Array Value) (hc : c.size = c'.size) (hcv : ∀ (i : Nat) v v', c[i]? = some v → c'[i]? = some v' → VR μ v v') : VR μ (.agg c) (.agg c')
  | tuple (c c' : Array Value) (hc : c.size = c'.size) (hcv : ∀ (i : Nat) v v', c[i]? = some v → c'[i]? = some v' → VR μ v v') : VR μ (.tuple c) (.tuple c')

/-- Lists of values. -/
def VRL (μ : Mu) (l l' : List Value) : Prop := l.length = l'.length ∧ ∀ (i : Nat) v v', l[i]? = some v → l'[i]? = some v' → VR μ v v'

def Mu.le (μ μ' : Mu) : Prop := ∀ id loc, μ id = some loc → μ' id = some loc

theorem Mu.le_refl (μ : Mu) : μ.le μ := fun _ _ h => h
theorem Mu.le_trans {a b c : Mu} (h : a.le b) (k : b.le c) : a.le c := fun i l e => k i l (h i l e)

theorem VR.mono {μ μ' : Mu} (hm : μ.le μ') {v v' : Value} (h : VR μ v v') : VR μ' v v' := by
  induction h with
  | bool b => exact .bool b
  | int k n => exact .int k n
  | float k n => exact .float k n
  | string s => exact .string s
  | nilp => exact .nilp
  | ptr id off loc h => exact .ptr id off loc (hm _ _ h)
  | nils => exact .nils
  | slice id off len cap e loc h hc hr => exact .slice id off len cap e loc (hm _ _ h) hc hr
  | slice0 a e a' => exact .slice0 a e a'
  | nilm => exact .nilm
  | map id loc h => exact .map id loc (hm _ _ h)
  | nilFunc => exact .nilFunc
  | func fn f f' c c' hf _ hc _ ihf ihc => exact .func fn f f' c c' hf ihf hc ihc
  | nilIface => exact .nilIface
  | iface t v v' _ ih => exact .iface t v v' ih
  | agg c c' hc _ ih => exact .agg c c' hc ih
  | tuple c c' hc _ ih => exact .tuple c c' hc ih

theorem VRL.mono {μ μ' : Mu} (hm : μ.le μ') {l l' : List Value} (h : VRL μ l l') : VRL μ' l l' :=
  ⟨h.1, fun i v v' a b => (h.2 i v v' a b).mono hm⟩

theorem VR.scalar {μ : Mu} {v v' : Value} (h : VR μ v v') : scalar v' = scalar v := by cases h <;> rfl

theorem VRL.nil {μ : Mu} : VRL μ [] [] := ⟨rfl, fun i v v' h => by simp at h⟩

theorem VRL.cons {μ : Mu} {v v' : Value} {l l' : List Value} (h : VR μ v v') (t : VRL μ l l') : VRL μ (v :: l) (v' :: l') := by
  refine ⟨by simp [t.1], fun i x x' hx hx' => ?_⟩
  cases i with
  | zero => simp at hx hx'; subst hx; subst hx'; exact h
  | succ i => simp at hx hx'; exact t.2 i x x' hx hx'

theorem VRL.head {μ : Mu} {v v' : Value} {l l' : List Value} (h : VRL μ (v :: l) (v' :: l')) : VR μ v v' := h.2 0 v v' rfl rfl
theorem VRL.tail {μ : Mu} {v v' : Value} {l l' : List Value} (h : VRL μ (v :: l) (v' :: l')) : VRL μ l l' :=
  ⟨by simpa using h.1, fun i x x' hx hx' => h.2 (i + 1) x x' (by simpa using hx) (by simpa using hx')⟩

theorem VRL.cases_cons {μ : Mu} {v : Value} {l m : List Value} (h : VRL μ (v :: l) m) : ∃ v' l', m = v' :: l' ∧ VR μ v v' ∧ VRL μ l l' := by
  cases m with
  | nil => simp [VRL] at h
  | cons v' l' => exact ⟨v', l', rfl, h.head, h.tail⟩

theorem VRL.cases_nil {μ : Mu} {m : List Value} (h : VRL μ [] m) : m = [] := by
  cases m with
  | nil => rfl
  | cons v' l' => simp [VRL] at h

theorem VRL.get {μ : Mu} {l l' : List Value} (h : VRL μ l l') {i : Nat} {v : Value} (hv : l[i]? = some v) : ∃ v', l'[i]? = some v' ∧ VR μ v v' := by
  have hi : i < l.length := (List.getElem?_eq_some_iff.1 hv).1
  have hi' : i < l'.length := by have := h.1; omega
  exact ⟨l'[i], by simp [hi'], h.2 i v _ hv (by simp [hi'])⟩

theorem VRL.append {μ : Mu} {a a' b b' : List Value} (h : VRL μ a a') (k : VRL μ b b') : VRL μ (a ++ b) (a' ++ b') := by
  refine ⟨by simp [h.1, k.1], fun i v v' hv hv' => ?_⟩
  by_cases hi : i < a.length
  · rw [List.getElem?_append_left hi] at hv
    rw [List.getElem?_append_left (by have := h.1; omega)] at hv'
    exact h.2 i v v' hv hv'
  · rw [List.getElem?_append_right (by omega)] at hv
    rw [List.getElem?_append_right (by have := h.1; omega)] at hv'
    rw [← h.1] at hv'
    exact k.2 _ v v' hv hv'

theorem VRL.take {μ : Mu} {a a' : List Value} (n : Nat) (h : VRL μ a a') : VRL μ (a.take n) (a'.take n) := by
  refine ⟨by simp [h.1], fun i v v' hv hv' => ?_⟩
  rw [List.getElem?_take] at hv hv'
  split at hv
  · rename_i hi; simp [hi] at hv'; exact h.2 i v v' hv hv'
  · simp at hv

theorem VRL.drop {μ : Mu} {a a' : List Value} (n : Nat) (h : VRL μ a a') : VRL μ (a.drop n) (a'.drop n) := by
  refine ⟨by simp [h.1], fun i v v' hv hv' => ?_⟩
  rw [List.getElem?_drop] at hv hv'
  exact h.2 _ v v' hv hv'

theorem VRL.map_self {μ : Mu} {α : Type} (f : α → Value) (hf : ∀ x, VR μ (f x) (f x)) (l : List α) : VRL μ (l.map f) (l.map f) := by
  refine ⟨rfl, fun i v v' hv hv' => ?_⟩
  rw [hv] at hv'
  cases hv'
  simp at hv
  obtain ⟨x, _, rfl⟩ := hv
  exact hf x

theorem VR.agg_list {μ : Mu} {c c' : Array Value} : VR μ (.agg c) (.agg c') ↔ VRL μ c.toList c'.toList := by
  constructor
  · intro h
    cases h with
    | agg _ _ hc hcv => exact ⟨by simpa using hc, fun i v v' a b => hcv i v v' (by simpa using a) (by simpa using b)⟩
  · intro h
    exact .agg c c' (by simpa using h.1) fun i v v' a b => h.2 i v v' (by simpa using a) (by simpa using b)

/-- An object of the abstract heap. -/
inductive Ob where
  | cells (ro : Bool) (c : List Value)
  | map (es : List (Value × Value × Nat)) (clock : Nat)
  | bld (T : Nat) (p s : Value)

def Ob.ro : Ob → Bool
  | .cells ro _ => ro
  | _ => false

/-- An abstract heap: finitely many objects under their ids. -/
structure Hp where
  f : Nat → Option Ob
  fin : ∃ B, ∀ i, B ≤ i → f i = none

instance : CoeFun Hp (fun _ => Nat → Option Ob) := ⟨Hp.f⟩

namespace Hp
theorem ext' {H K : Hp} (h : ∀ i, H i = K i) : H = K := by
  obtain ⟨f, p⟩ := H
  obtain ⟨g, q⟩ := K
  have : f = g := funext h
  subst this
  rfl

def put (H : Hp) (i : Nat) (o : Ob) : Hp := ⟨fun j => if j = i then some o else H j, by
  obtain ⟨B, hB⟩ := H.fin
  refine ⟨max B (i + 1), fun j hj => ?_⟩
  rw [if_neg (by omega)]
  exact hB j (by omega)⟩
def era (H : Hp) (i : Nat) : Hp := ⟨fun j => if j = i then none else H j, by
  obtain ⟨B, hB⟩ := H.fin
  refine ⟨B, fun j hj => ?_⟩
  split
  · rfl
  · exact hB j hj⟩
def sub (H H' : Hp) : Prop := ∀ i o, H i = some o → H' i = some o
def empty : Hp := ⟨fun _ => none, 0, fun _ _ => rfl⟩

theorem fresh (H : Hp) : ∃ i, H i = none := let ⟨B, hB⟩ := H.fin; ⟨B, hB B (Nat.le_refl _)⟩
theorem put_get (H : Hp) (i : Nat) (o : Ob) (j : Nat) : H.put i o j = if j = i then some o else H j := rfl
theorem era_get (H : Hp) (i j : Nat) : H.era i j = if j = i then none else H j := rfl
theorem sub_refl (H : Hp) : H.sub H := fun _ _ h => h
theorem sub_trans {A B C : Hp} (h : A.sub B) (k : B.sub C) : A.sub C := fun i o e => k i o (h i o e)
theorem put_same (H : Hp) (i : Nat) (o : Ob) : H.put i o i = some o := by rw [put_get, if_pos rfl]
theorem put_ne (H : Hp) {i j : Nat} (o : Ob) (h : j ≠ i) : H.put i o j = H j := by rw [put_get, if_neg h]
theorem era_same (H : Hp) (i : Nat) : H.era i i = none := by rw [era_get, if_pos rfl]
theorem era_ne (H : Hp) {i j : Nat} (h : j ≠ i) : H.era i j = H j := by rw [era_get, if_neg h]
end Hp

def Loc.apart (l m : Loc) : Prop := l.b ≠ m.b ∨ l.o + l.room ≤ m.o ∨ m.o + m.room ≤ l.o

theorem Loc.apart_symm {l m : Loc} (h : l.apart m) : m.apart l := by
  rcases h with h | h | h
  · exact .inl (Ne.symm h)
  · exact .inr (.inr h)
  · exact .inr (.inl h)

/-- An object as it lies in the World. -/
def ObR (μ : Mu) (w : World) (loc : Loc) : Ob → Prop
  | .cells ro c => ∃ arr el fz, w.heap[loc.b]? = some (.cells arr el fz) ∧ c.length ≤ loc.room ∧ loc.o + loc.room ≤ arr.size ∧
      (∀ (i : Nat) v, c[i]? = some v → scalar v = true ∧ ∃ v', arr[loc.o + i]? = some v' ∧ VR μ v v') ∧
      (ro = false → fz.1 = fz.2 ∨ loc.o + loc.room ≤ fz.1)
  | .map es clock => loc.o = 0 ∧ loc.room = 1 ∧ ∃ (l : List MapEntry), w.heap[loc.b]? = some (.map l.toArray clock) ∧
      VRL μ (es.map (·.1)) (l.map (·.key)) ∧ VRL μ (es.map (·.2.1)) (l.map (·.val)) ∧ es.map (·.2.2) = l.map (·.born)
  | .bld T p s => loc.o = 0 ∧ loc.room = 2 ∧ scalar p = true ∧ scalar s = true ∧ ∃ p' s' fz, w.heap[loc.b]? = some (.cells #[p', s'] T fz) ∧ VR μ p p' ∧ VR μ s s' ∧ (fz.1 = fz.2 ∨ 2 ≤ fz.1)

theorem ObR.mono {μ μ' : Mu} (hm : μ.le μ') {w : World} {loc : Loc} {ob : Ob} (h : ObR μ w loc ob) : ObR μ' w loc ob := by
  cases ob with
  | cells ro c =>
    obtain ⟨arr, el, fz, h1, h3, h4, h5, h6⟩ := h
    refine ⟨arr, el, fz, h1, h3, h4, fun i v hv => ?_, h6⟩
    obtain ⟨hs, v', hv', hr⟩ := h5 i v hv
    exact ⟨hs, v', hv', hr.mono hm⟩
  | map es cl =>
    obtain ⟨h1, h2, l, h3, h4, h5, h6⟩ := h
    exact ⟨h1, h2, l, h3, h4.mono hm, h5.mono hm, h6⟩
  | bld T p s =>
    obtain ⟨h1, h2, h3, h4, p', s', fz, h5, h6, h7, h8⟩ := h
    exact ⟨h1, h2, h3, h4, p', s', fz, h5, h6.mono hm, h7.mono hm, h8⟩

theorem ObR.of_block {μ : Mu} {w w' : World} {loc : Loc} {ob : Ob} (hb : w'.heap[loc.b]? = w.heap[loc.b]?) (h : ObR μ w loc ob) : ObR μ w' loc ob := by
  cases ob with
  | cells ro c =>
    obtain ⟨arr, el, fz, h1, h2⟩ := h
    exact ⟨arr, el, fz, by rw [hb]; exact h1, h2⟩
  | map es cl =>
    obtain ⟨h1, h2, l, h3, h4⟩ := h
    exact ⟨h1, h2, l, by rw [hb]; exact h3, h4⟩
  | bld T p s =>
    obtain ⟨h1, h2, h3, h4, p', s', fz, h5, h6⟩ := h
    exact ⟨h1, h2, h3, h4, p', s', fz, by rw [hb]; exact h5, h6⟩

theorem ObR.block {μ : Mu} {w : World} {loc : Loc} {ob : Ob} (h : ObR μ w loc ob) : loc.b < w.heap.size := by
  have : ∃ o, w.heap[loc.b]? = some o := by
    cases ob with
    | cells ro c => obtain ⟨arr, el, fz, h1, _⟩ := h; exact ⟨_, h1⟩
    | map es cl => obtain ⟨_, _, l, h3, _⟩ := h; exact ⟨_, h3⟩
    | bld T p s => obtain ⟨_, _, _, _, p', s', fz, h5, _⟩ := h; exact ⟨_, h5⟩
  obtain ⟨o, ho⟩ := this
  exact (Array.getElem?_eq_some_iff.1 ho).1

/-- The abstract heap T, as it lies in the World w under μ; blocks below N are as they were in w0. -/
structure Sim (N : Nat) (w0 : World) (μ : Mu) (T : Hp) (w : World) : Prop where
  below : Below N w0 w
  n_le : N ≤ w.heap.size
  dom : ∃ B, ∀ id, B ≤ id → μ id = none
  obj : ∀ i ob, T i = some ob → ∃ loc, μ i = some loc ∧ ObR μ w loc ob
  sep : ∀ i j oi oj li lj, i ≠ j → T i = some oi → T j = some oj → μ i = some li → μ j = some lj → oi.ro = false → li.apart lj
  own : ∀ i oi li, T i = some oi → μ i = some li → oi.ro = false → N ≤ li.b
  low : ∀ i li, i < N → μ i = some li → li.b = i ∧ li.o = 0

/-- Forgetting objects. -/
theorem Sim.sub {N : Nat} {w0 : World} {μ : Mu} {T T' : Hp} {w : World} (h : Sim N w0 μ T w) (hs : T'.sub T) : Sim N w0 μ T' w :=
  ⟨h.below, h.n_le, h.dom, fun i ob e => h.obj i ob (hs i ob e), fun i j oi oj li lj hn a b => h.sep i j oi oj li lj hn (hs _ _ a) (hs _ _ b),
    fun i oi li a => h.own i oi li (hs _ _ a), h.low⟩

/-- A draw. -/
theorem Sim.drawn {N : Nat} {w0 : World} {μ : Mu} {T : Hp} {w : World} (h : Sim N w0 μ T w) (n : Nat) : Sim N w0 μ T { w with drawn := n } := by
  refine ⟨⟨h.below.os, h.below.tape, h.below.output, h.below.size, h.below.block⟩, h.n_le, h.dom, fun i ob e => ?_, h.sep, h.own, h.low⟩
  obtain ⟨loc, h1, h2⟩ := h.obj i ob e
  exact ⟨loc, h1, h2.of_block rfl⟩

theorem Sim.fresh {N : Nat} {w0 : World} {μ : Mu} {T : Hp} {w : World} (h : Sim N w0 μ T w) : ∃ id, N ≤ id ∧ μ id = none ∧ T id = none := by
  obtain ⟨B', hB'⟩ := h.dom
  obtain ⟨B, hBN, hB⟩ : ∃ B, N ≤ B ∧ ∀ id, B ≤ id → μ id = none := ⟨max B' N, by omega, fun id h => hB' id (by omega)⟩
  refine ⟨B, hBN, hB B (Nat.le_refl _), ?_⟩
  cases hT : T B with
  | none => rfl
  | some ob =>
    obtain ⟨loc, h1, _⟩ := h.obj B ob hT
    rw [hB B (Nat.le_refl _)] at h1
    cases h1

def Mu.put (μ : Mu) (i : Nat) (l : Loc) : Mu := fun j => if j = i then some l else μ j

theorem Mu.le_put {μ : Mu} {i : Nat} {l : Loc} (h : μ i = none) : μ.le (μ.put i l) := by
  intro j m e
  unfold Mu.put
  split
  · rename_i hj; subst hj; rw [h] at e; cases e
  · exact e

theorem Mu.put_same (μ : Mu) (i : Nat) (l : Loc) : μ.put i l i = some l := by simp [Mu.put]
theorem Mu.put_ne (μ : Mu) {i j : Nat} (l : Loc) (h : j ≠ i) : μ.put i l j = μ j := by simp [Mu.put, h]

/-- A new block. -/
theorem Sim.alloc {N : Nat} {w0 : World} {μ : Mu} {T : Hp} {w : World} (h : Sim N w0 μ T w) {id : Nat} (hid : N ≤ id) (hμ : μ id = none)
    (o : Obj) (ob : Ob) (loc : Loc) (hl : loc.b = w.heap.size)
    (hob : ∀ w' : World, w'.heap[w.heap.size]? = some o → ObR (μ.put id loc) w' loc ob) :
    Sim N w0 (μ.put id loc) (T.put id ob) (w.alloc o) := by
  have hle : μ.le (μ.put id loc) := Mu.le_put hμ
  refine ⟨h.below.alloc h.n_le o, by have := h.n_le; simp; omega, ?_, ?_, ?_, ?_, ?_⟩
  · obtain ⟨B, hB⟩ := h.dom
    refine ⟨max B (id + 1), fun j hj => ?_⟩
    rw [Mu.put_ne _ _ (by omega)]
    exact hB j (by omega)
  · intro i oi e
    by_cases hi : i = id
    · subst hi
      rw [Hp.put_same] at e
      cases e
      exact ⟨loc, Mu.put_same _ _ _, hob _ (by show (w.heap.push o)[w.heap.size]? = _; simp)⟩
    · rw [Hp.put_ne _ _ hi] at e
      obtain ⟨l, h1, h2⟩ := h.obj i oi e
      exact ⟨l, hle _ _ h1, (h2.mono hle).of_block (Go.RowKit.Below.heap_alloc w o _ h2.block)⟩
  · intro i j oi oj li lj hn hi hj hli hlj hro
    by_cases hii : i = id
    · subst hii
      rw [Mu.put_same] at hli; cases hli
      rw [Hp.put_ne _ _ (Ne.symm hn)] at hj
      rw [Mu.put_ne _ _ (Ne.symm hn)] at hlj
      obtain ⟨l, h1, h2⟩ := h.obj j oj hj
      rw [hlj] at h1; cases h1
      have := h2.block
      exact .inl (by omega)
    · rw [Hp.put_ne _ _ hii] at hi
      rw [Mu.put_ne _ _ hii] at hli
      by_cases hjj : j = id
      · subst hjj
        rw [Mu.put_same] at hlj; cases hlj
        obtain ⟨l, h1, h2⟩ := h.obj i oi hi
        rw [hli] at h1; cases h1
        have := h2.block
        exact .inl (by omega)
      · rw [Hp.put_ne _ _ hjj] at hj
        rw [Mu.put_ne _ _ hjj] at hlj
        exact h.sep i j oi oj li lj hn hi hj hli hlj hro
  · intro i oi li hi hli hro
    by_cases hii : i = id
    · subst hii
      rw [Mu.put_same] at hli; cases hli
      rw [hl]; exact h.n_le
    · rw [Hp.put_ne _ _ hii] at hi
      rw [Mu.put_ne _ _ hii] at hli
      exact h.own i oi li hi hli hro
  · intro i li hi hli
    rw [Mu.put_ne _ _ (by omega)] at hli
    exact h.low i li hi hli

end Go.Ab
