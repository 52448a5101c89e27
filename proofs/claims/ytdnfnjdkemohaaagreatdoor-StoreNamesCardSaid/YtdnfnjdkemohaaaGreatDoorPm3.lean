/- (*Disk).Names, walked over the World: the names of the files, sorted. -/
import Derived.Test.YtdnfnjdkemohaaaGreatDoorPm2
namespace Go.Proofs
open Go.RowKit Go.Maps Go.Sort Go.Shelf

set_option maxHeartbeats 1000000 in
theorem Tryz.names_walk {H : Type} (db o b nn : Nat) (D0 : DataW H) (R : Value → Option (DataW H × List MemPlace)) (w : World) (hown : w.ownsMap Tryz.prog 9 R b nn D0) (hmax : Maps.size D0 ≤ maxLen) (hbytes : Maps.size D0 * 16 ≤ 140737488355328)
    (h2 : w.cell? ⟨db, o + 2, none⟩ = some (.bool false)) (h0 : w.cell? ⟨db, o, none⟩ = some (.map (some b))) :
    Calls Tryz.prog 114 #[.pointer (some ⟨db, o, none⟩)] w fun e w' => ∃ (v : Value) (ss : List (List UInt8)), e = .returned v ∧ ss.Perm (strKeys D0) ∧
      w'.ownsRow w.heap.size 9 1 v ss.length ((ss.mergeSort (fun x y => decide (x ≤ y))).map encStr) ∧ (v = .slice none 0 0 ↔ ss = []) ∧ Below w.heap.size w w' := by
  refine (callsIn_wide (n := 6)).1 ?_
  have hfK : Fence.wide.fn 200 := trivial
  have hfS : Fence.wide.fn 199 := trivial
  refine callsIn_of_wp Tryz.func114 rfl trivial ?_ rfl
  simp only [Tryz.ntmps114, List.size_toArray, List.length_cons, List.length_nil, Nat.reduceAdd, Nat.reduceSub, Array.replicate_succ, Array.replicate_zero, List.push_toArray, List.append_toArray, List.nil_append, List.cons_append]
  gi_wp2_with (first
    | (gi_at_call 200; refine (Tryz.maps_Keys_200 _ _).mono ?_; rintro e w' ⟨rfl, rfl⟩)
    | (gi_at_call 199; refine (Tryz.slices_Sorted_keys_199_200 b nn D0 R w hown hmax hbytes).mono ?_; rintro e w' ⟨v, ss, rfl, hS, hrow, hnil, hb⟩))
  go_ret
  exact ⟨v, ss, rfl, hS, ownsRow_base_a hrow (by simp), hnil, ((Below.refl _ w).alloc (Nat.le_refl _) _).trans (hb.mono (by simp))⟩

end Go.Proofs
