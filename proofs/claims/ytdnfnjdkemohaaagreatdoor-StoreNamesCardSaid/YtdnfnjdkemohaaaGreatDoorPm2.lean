/- Contracts over the abstract heap: (*Disk).Used, and slices.Sorted of an empty map's keys. -/
import Derived.Test.YtdnfnjdkemohaaaGreatDoorPm1
namespace Go.Ab.Pr
open Go.Proofs Go.RowKit Go.Ab

/-- The length of the slice that stands where a pointer shows. -/
def lenA (H : Hp) (v : Value) : Int := match v with
  | .pointer (some ⟨f, o, none⟩) => (match H f with
    | some (.cells _ c) => (match c[o]? with
      | some (.slice _ n _) => n
      | _ => 0)
    | _ => 0)
  | _ => 0

def isLen (H : Hp) (v : Value) : Prop := ∃ f o ro c a n sz, v = .pointer (some ⟨f, o, none⟩) ∧ H f = some (.cells ro c) ∧ c[o]? = some (.slice a n sz)

theorem below_alike {w w1 : World} (h : w1.Alike w) (ht : w1.tape = w.tape) (o : Obj) : Below w.heap.size w (w1.alloc o) := by
  obtain ⟨h1, h2, h3⟩ := h
  refine Below.alloc (a := w) ⟨h2, ht, h3, by rw [h1]; exact Nat.le_refl _, fun k _ => by rw [h1]⟩ (by rw [h1]; exact Nat.le_refl _) o

theorem used_tri {H : Hp} {d m o : Nat} {ro : Bool} {cs : List Value} {es : List (Value × Value × Nat)} {clk : Nat} (hd : H d = some (.cells ro cs)) (h0 : cs[o]? = some (.map (some m)))
    (h2 : cs[o + 2]? = some (.bool false)) (hm : H m = some (.map es clk)) (hb : ∀ e ∈ es, e.2.2 < clk) (hn : (es.map (·.2.2)).Nodup) (hkeys : (es.map (·.1)).all isSc = true) (hkn : (es.map (·.1)).Nodup) (hv : ∀ e ∈ es, isLen H e.2.1) :
    Tri Tryz.prog 212 [.pointer (some ⟨d, o, none⟩)] H fun v H' => v = .int .i64 (wrap64 ((es.map fun e => lenA H e.2.1).sum)) ∧ H' = H := by
  refine ⟨fnOk212, fun X => ⟨_, H, ⟨rfl, rfl⟩, Avo.refl _ _⟩, fun N w0 μ T w args' hG hsub hsim hvr => ?_⟩
  obtain ⟨v', l', hl, hv', hr⟩ := hvr.cases_cons
  have hnil := hr.cases_nil
  subst hnil
  have hargs : args' = #[v'] := by rw [← Array.toArray_toList (xs := args'), hl]
  subst hargs
  obtain ⟨loc, hloc, rfl⟩ := hv'.ptr_inv
  -- cells of an object, in the World
  have cell : ∀ {i : Nat} {ro : Bool} {c : List Value} {loc : Loc}, H i = some (.cells ro c) → μ i = some loc → ∀ (j : Nat) v, c[j]? = some v → ∃ v', w.cell? ⟨loc.b, loc.o + j, none⟩ = some v' ∧ VR μ v v' := by
    intro i ro c loc hi hl j v hj
    obtain ⟨loc', hl', arr, el, fz, g1, g2, g3, g4, g5⟩ := hsim.obj i _ (hsub i _ hi)
    rw [hl] at hl'; cases hl'
    obtain ⟨_, v', g6, g7⟩ := g4 j v hj
    exact ⟨v', by simp [World.cell?, g1, g6], g7⟩
  obtain ⟨c0, k0, r0⟩ := cell hd hloc o _ h0
  obtain ⟨c2, k2, r2⟩ := cell hd hloc (o + 2) _ h2
  obtain ⟨locm, hlm, rfl⟩ := r0.map_inv
  have e2 := r2.bool_inv
  subst e2
  obtain ⟨locm', hlm', g1, g2, l, g3, g4, g5, g6⟩ := hsim.obj m _ (hsub m _ hm)
  rw [hlm] at hlm'; cases hlm'
  have hlen : l.length = es.length := by have := g4.1; simpa using this.symm
  -- each entry
  have ent : ∀ (i : Nat) x e, l[i]? = some x → es[i]? = some e → x.born = e.2.2 ∧ ∃ fb fo a n c, x.val = .pointer (some ⟨fb, fo, none⟩) ∧ w.cell? ⟨fb, fo, none⟩ = some (.slice a n c) ∧ lenA H e.2.1 = n := by
    intro i x e hx he
    refine ⟨?_, ?_⟩
    · have := congrArg (·[i]?) g6
      simp [hx, he] at this
      exact this.symm
    · obtain ⟨f, fo, rof, fc, a, n, sz, e1, e2, e3⟩ := hv e (List.mem_of_getElem? he)
      have hvv : VR μ e.2.1 x.val := g5.2 i _ _ (by simp [he]) (by simp [hx])
      rw [e1] at hvv
      obtain ⟨locf, hlf, e4⟩ := hvv.ptr_inv
      obtain ⟨cf, k5, r5⟩ := cell e2 hlf fo _ e3
      have hle : lenA H e.2.1 = n := by rw [e1]; simp [lenA, e2, e3]
      cases r5 with
      | nils => exact ⟨_, _, _, _, _, e4, k5, hle⟩
      | slice => exact ⟨_, _, _, _, _, e4, k5, hle⟩
      | slice0 => exact ⟨_, _, _, _, _, e4, k5, hle⟩
  have hst : MapKept.Stamped l.toArray clk := by
    refine ⟨fun x hx => ?_, ?_, ?_⟩
    · obtain ⟨i, hi⟩ := List.getElem?_of_mem hx
      simp only at hi
      have hil : i < es.length := by have := (List.getElem?_eq_some_iff.1 hi).1; omega
      rw [(ent i x es[i] hi (by simp [hil])).1]
      exact hb _ (List.getElem_mem hil)
    · rw [← g6]; exact hn
    · have hkk : l.map (·.key) = es.map (·.1) := g4.sc hkeys
      simp only
      rw [hkk]
      exact hkn
  have hsum : ((Go.Proofs.YtdnfnjdkemohaaaGreatDoor.Us.lens w l.toArray).toList.map fun e => valOf e.val) = es.map fun e => lenA H e.2.1 := by
    apply List.ext_getElem?
    intro i
    simp only [Go.Proofs.YtdnfnjdkemohaaaGreatDoor.Us.lens, Array.toList_map, List.map_map, List.getElem?_map]
    rcases Nat.lt_or_ge i es.length with hi | hi
    · have hil : i < l.length := by omega
      obtain ⟨_, fb, fo, a, n, c, e1, e2, e3⟩ := ent i l[i] es[i] (by simp [hil]) (by simp [hi])
      simp only [List.getElem?_eq_getElem hi, List.getElem?_eq_getElem hil, Option.map_some, Function.comp_apply, valOf, e3]
      simp [Go.Proofs.YtdnfnjdkemohaaaGreatDoor.Us.lenAt, e1, e2]
    · simp [List.getElem?_eq_none hi, List.getElem?_eq_none (show l.length ≤ i by omega)]
  refine (Go.Proofs.YtdnfnjdkemohaaaGreatDoor.Us.walk loc.b (loc.o + o) locm.b l.toArray clk w g3 hst (by rw [Nat.add_assoc]; exact k2) k0 ?_).mono ?_
  · intro x hx
    obtain ⟨i, hi⟩ := List.getElem?_of_mem hx
    simp only at hi
    have hil : i < es.length := by have := (List.getElem?_eq_some_iff.1 hi).1; omega
    obtain ⟨_, fb, fo, a, n, c, e1, e2, e3⟩ := ent i x es[i] hi (by simp [hil])
    exact ⟨fb, fo, a, n, c, e1, e2⟩
  · rintro e w' ⟨he, w1, seen, ⟨hal, htp⟩, rfl⟩
    rw [hsum] at he
    exact ⟨_, _, H, T, μ, he, ⟨rfl, rfl⟩, Mu.le_refl μ, hsub, Fr.refl _ _, hsim.grown (below_alike hal htp _), .int _ _⟩

end Go.Ab.Pr
