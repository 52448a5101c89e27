/- The shelf's contracts on slices.Sorted and maps.Keys, laid at this program (after the print of the shelf's own laying program). -/
import Derived.Shelf.SlIter.Nil
import Derived.Shelf.SortM.Plain
import Derived.Shelf.SortM.SortNone
import Derived.Ground.GgzProg
import Derived.Ground.SlgmProg
import Derived.Test.YtdnfnjdkemohaaaGreatDoorProg
namespace Go.Proofs
open Go.RowKit Go.Maps Go.Sort Go.Shelf

-- maps.Keys[map[string]*limnograph/disk.file,string,*limnograph/disk.file] (function 200; its iterator 273) · slices.Sorted[string] (199) · slices.Sort[[]string,string] (272) · the map's type 190, the keys' 9
def Tryz.keys200_ren : Go.Shelf.Ren := ⟨fun | 7 => 200 | 10 => 273 | n => n, fun | 23 => 190 | 26 => 9 | 3 => 196 | 28 => 293 | 0 => 0 | 27 => 292 | 33 => 195 | 4 => 4 | n => n, fun n => n⟩
theorem Tryz.keys200 : SlLaysZ.n7 Tryz.prog Tryz.keys200_ren where
  mixed := by kernel_rfl
  f7 := ⟨ "maps.Keys[map[string]*limnograph/disk.file,string,*limnograph/disk.file]", by decide, Tryz.func200.trans (congrArg some (by kernel_rfl))⟩
  f10 := ⟨ "maps.Keys[map[string]*limnograph/disk.file,string,*limnograph/disk.file]$1", by decide, Tryz.func273.trans (congrArg some (by kernel_rfl))⟩
  t0 := Tryz.underlying0
  a0 := Tryz.isAgg0
  z0 := Tryz.sizeOf0
  v0 := Tryz.zeroValue0
  t4 := Tryz.underlying4
  a4 := Tryz.isAgg4
  z4 := Tryz.sizeOf4
  v4 := Tryz.zeroValue4
  t23 := Tryz.underlying190
  a23 := Tryz.isAgg190
  z23 := Tryz.sizeOf190
  v23 := Tryz.zeroValue190
  t26 := Tryz.underlying9
  a26 := Tryz.isAgg9
  z26 := Tryz.sizeOf9
  v26 := Tryz.zeroValue9
  t27 := Tryz.underlying292
  a27 := Tryz.isAgg292
  z27 := Tryz.sizeOf292
  v27 := Tryz.zeroValue292
  t28 := Tryz.underlying293
  a28 := Tryz.isAgg293
  z28 := Tryz.sizeOf293
  v28 := Tryz.zeroValue293
  t33 := Tryz.underlying195
  a33 := Tryz.isAgg195
  z33 := Tryz.sizeOf195
  v33 := Tryz.zeroValue195

def Tryz.sorted199_ren : Go.Shelf.Ren := ⟨fun | 6 => 199 | 8 => 271 | 9 => 272 | 11 => 319 | 13 => 158 | 12 => 320 | 23 => 238 | 24 => 239 | 14 => 344 | 15 => 345 | 16 => 346 | 17 => 347 | 18 => 348 | 19 => 349 | 20 => 350 | 21 => 351 | 22 => 352 | 25 => 368 | 26 => 301 | 27 => 302 | 28 => 369 | 29 => 370 | 30 => 159 | 31 => 372 | n => n, fun | 26 => 9 | 28 => 293 | 24 => 121 | 0 => 0 | 3 => 3 | 37 => 247 | 48 => 305 | 50 => 47 | 4 => 4 | 40 => 330 | 39 => 329 | 45 => 334 | 5 => 5 | 9 => 9 | 51 => 391 | 55 => 394 | 57 => 420 | 58 => 421 | 33 => 195 | n => n, fun n => n⟩
theorem Tryz.sorted199 : SlLaysZ.n6 Tryz.prog Tryz.sorted199_ren where
  mixed := by kernel_rfl
  f6 := ⟨ "slices.Sorted[string]", by decide, Tryz.func199.trans (congrArg some (by kernel_rfl))⟩
  f8 := ⟨ "slices.Collect[string]", by decide, Tryz.func271.trans (congrArg some (by kernel_rfl))⟩
  f11 := ⟨ "slices.AppendSeq[[]string,string]", by decide, Tryz.func319.trans (congrArg some (by kernel_rfl))⟩
  t0 := Tryz.underlying0
  a0 := Tryz.isAgg0
  z0 := Tryz.sizeOf0
  v0 := Tryz.zeroValue0
  t24 := Tryz.underlying121
  a24 := Tryz.isAgg121
  z24 := Tryz.sizeOf121
  v24 := Tryz.zeroValue121
  t26 := Tryz.underlying9
  a26 := Tryz.isAgg9
  z26 := Tryz.sizeOf9
  v26 := Tryz.zeroValue9
  t28 := Tryz.underlying293
  a28 := Tryz.isAgg293
  z28 := Tryz.sizeOf293
  v28 := Tryz.zeroValue293
  i26 := by kernel_rfl

def Tryz.sort272_ren : Go.Shelf.Ren := ⟨fun | 6 => 272 | 8 => 158 | 9 => 320 | 19 => 238 | 20 => 239 | 21 => 344 | 22 => 345 | 23 => 346 | 24 => 347 | 25 => 348 | 26 => 349 | 27 => 350 | 28 => 351 | 29 => 352 | 36 => 368 | 31 => 301 | 32 => 302 | 37 => 369 | 38 => 370 | 39 => 159 | 41 => 372 | n => n, fun | 27 => 121 | 29 => 9 | 3 => 3 | 32 => 247 | 26 => 121 | 0 => 0 | 44 => 305 | 46 => 47 | 4 => 4 | 36 => 330 | 35 => 329 | 41 => 334 | 5 => 5 | 9 => 9 | 53 => 391 | 57 => 394 | 63 => 420 | 64 => 421 | n => n, fun n => n⟩
theorem Tryz.sort272 : SlLaysM.n6 Tryz.prog Tryz.sort272_ren where
  mixed := by kernel_rfl
  f6 := ⟨ "slices.Sort[[]string,string]", by decide, Tryz.func272.trans (congrArg some (by kernel_rfl))⟩
  f8 := Tryz.func158.trans (congrArg some (by kernel_rfl))
  f9 := ⟨ "slices.pdqsortOrdered[string]", by decide, Tryz.func320.trans (congrArg some (by kernel_rfl))⟩
  f19 := Tryz.func238.trans (congrArg some (by kernel_rfl))
  f20 := Tryz.func239.trans (congrArg some (by kernel_rfl))
  f21 := ⟨ "slices.insertionSortOrdered[string]", by decide, Tryz.func344.trans (congrArg some (by kernel_rfl))⟩
  f22 := ⟨ "slices.heapSortOrdered[string]", by decide, Tryz.func345.trans (congrArg some (by kernel_rfl))⟩
  f23 := ⟨ "slices.breakPatternsOrdered[string]", by decide, Tryz.func346.trans (congrArg some (by kernel_rfl))⟩
  f24 := ⟨ "slices.choosePivotOrdered[string]", by decide, Tryz.func347.trans (congrArg some (by kernel_rfl))⟩
  f25 := ⟨ "slices.reverseRangeOrdered[string]", by decide, Tryz.func348.trans (congrArg some (by kernel_rfl))⟩
  f26 := ⟨ "slices.partialInsertionSortOrdered[string]", by decide, Tryz.func349.trans (congrArg some (by kernel_rfl))⟩
  f27 := ⟨ "cmp.Less[string]", by decide, Tryz.func350.trans (congrArg some (by kernel_rfl))⟩
  f28 := ⟨ "slices.partitionEqualOrdered[string]", by decide, Tryz.func351.trans (congrArg some (by kernel_rfl))⟩
  f29 := ⟨ "slices.partitionOrdered[string]", by decide, Tryz.func352.trans (congrArg some (by kernel_rfl))⟩
  f31 := Tryz.func301.trans (congrArg some (by kernel_rfl))
  f32 := Tryz.func302.trans (congrArg some (by kernel_rfl))
  f36 := ⟨ "slices.siftDownOrdered[string]", by decide, Tryz.func368.trans (congrArg some (by kernel_rfl))⟩
  f37 := ⟨ "slices.medianAdjacentOrdered[string]", by decide, Tryz.func369.trans (congrArg some (by kernel_rfl))⟩
  f38 := ⟨ "slices.medianOrdered[string]", by decide, Tryz.func370.trans (congrArg some (by kernel_rfl))⟩
  f39 := ⟨ "cmp.isNaN[string]", by decide, Tryz.func159.trans (congrArg some (by kernel_rfl))⟩
  f41 := ⟨ "slices.order2Ordered[string]", by decide, Tryz.func372.trans (congrArg some (by kernel_rfl))⟩
  t0 := Tryz.underlying0
  a0 := Tryz.isAgg0
  z0 := Tryz.sizeOf0
  v0 := Tryz.zeroValue0
  t3 := Tryz.underlying3
  a3 := Tryz.isAgg3
  z3 := Tryz.sizeOf3
  v3 := Tryz.zeroValue3
  t4 := Tryz.underlying4
  a4 := Tryz.isAgg4
  z4 := Tryz.sizeOf4
  v4 := Tryz.zeroValue4
  t5 := Tryz.underlying5
  a5 := Tryz.isAgg5
  z5 := Tryz.sizeOf5
  v5 := Tryz.zeroValue5
  t9 := Tryz.underlying9
  a9 := Tryz.isAgg9
  z9 := Tryz.sizeOf9
  v9 := Tryz.zeroValue9
  t26 := Tryz.underlying121
  a26 := Tryz.isAgg121
  z26 := Tryz.sizeOf121
  v26 := Tryz.zeroValue121
  t27 := Tryz.underlying121
  a27 := Tryz.isAgg121
  z27 := Tryz.sizeOf121
  v27 := Tryz.zeroValue121
  t29 := Tryz.underlying9
  a29 := Tryz.isAgg9
  z29 := Tryz.sizeOf9
  v29 := Tryz.zeroValue9
  t32 := Tryz.underlying247
  a32 := Tryz.isAgg247
  z32 := Tryz.sizeOf247
  v32 := Tryz.zeroValue247
  t35 := Tryz.underlying329
  a35 := Tryz.isAgg329
  z35 := Tryz.sizeOf329
  v35 := Tryz.zeroValue329
  t36 := Tryz.underlying330
  a36 := Tryz.isAgg330
  z36 := Tryz.sizeOf330
  v36 := Tryz.zeroValue330
  t41 := Tryz.underlying334
  a41 := Tryz.isAgg334
  z41 := Tryz.sizeOf334
  v41 := Tryz.zeroValue334
  t44 := Tryz.underlying305
  a44 := Tryz.isAgg305
  z44 := Tryz.sizeOf305
  v44 := Tryz.zeroValue305
  t46 := Tryz.underlying47
  a46 := Tryz.isAgg47
  z46 := Tryz.sizeOf47
  v46 := Tryz.zeroValue47
  t53 := Tryz.underlying391
  a53 := Tryz.isAgg391
  z53 := Tryz.sizeOf391
  v53 := Tryz.zeroValue391
  t57 := Tryz.underlying394
  a57 := Tryz.isAgg394
  z57 := Tryz.sizeOf394
  v57 := Tryz.zeroValue394
  t63 := Tryz.underlying420
  a63 := Tryz.isAgg420
  z63 := Tryz.sizeOf420
  v63 := Tryz.zeroValue420
  t64 := Tryz.underlying421
  a64 := Tryz.isAgg421
  z64 := Tryz.sizeOf421
  v64 := Tryz.zeroValue421

/-- slices.Sort's two contracts at this dump, at the fence that asks nothing. -/
theorem Tryz.sorts199 (m : Nat) : AnyZ.SortsIn Tryz.prog Tryz.sorted199_ren Fence.wide m :=
  ⟨fun blk off cap ss W hH hblk hsz => callsIn_wide.2 (AnyM.slices_Sort_string Tryz.sort272 blk off cap ss W hH hblk hsz),
   fun p cap W => callsIn_wide.2 (AnyM.slices_Sort_string_none Tryz.sort272 p cap W)⟩

/-- **maps.Keys[map[string]*limnograph/disk.file,string,*limnograph/disk.file], at whatever map, the nil one too:** a function value over ONE NEW BLOCK, which holds the map. -/
theorem Tryz.maps_Keys_200 (mb : Option Nat) (W : World) : CallsIn Fence.wide 5 Tryz.prog 200 #[.map mb] W fun e w' => e = .returned (.func (.func 273) #[] #[.pointer (some ⟨W.heap.size, 0, none⟩)]) ∧ w' = W.alloc (.cells #[.map mb] 190) :=
  AnyZ.keys_in Tryz.keys200 Fence.wide 5 trivial rfl mb W

set_option maxHeartbeats 1000000 in
/-- **slices.Sorted[string] AT WHAT maps.Keys[map[string]*limnograph/disk.file,string,*limnograph/disk.file] HANDED BACK FOR A MAP THAT IS NOT nil** ('w': the world AHEAD of maps.Keys' call): A NEW SLICE THAT HOLDS THE MAP's KEYS, SORTED; nil just where it has none; nothing that lay before has turned. -/
theorem Tryz.slices_Sorted_keys_199_200 {H : Type} (b nn : Nat) (D0 : DataW H) (R : Value → Option (DataW H × List MemPlace)) (w : World) (hown : w.ownsMap Tryz.prog 9 R b nn D0) (hmax : Maps.size D0 ≤ maxLen) (hbytes : Maps.size D0 * 16 ≤ 140737488355328) :
    CallsIn Fence.wide 5 Tryz.prog 199 #[.func (.func 273) #[] #[.pointer (some ⟨w.heap.size, 0, none⟩)]] (w.alloc (.cells #[.map (some b)] 190)) fun e w' => ∃ (v : Value) (ss : List (List UInt8)), e = .returned v ∧ ss.Perm (strKeys D0) ∧
      w'.ownsRow (w.alloc (.cells #[.map (some b)] 190)).heap.size 9 1 v ss.length ((ss.mergeSort (fun x y => decide (x ≤ y))).map encStr) ∧ (v = .slice none 0 0 ↔ ss = []) ∧ Below (w.alloc (.cells #[.map (some b)] 190)).heap.size (w.alloc (.cells #[.map (some b)] 190)) w' := by
  have hbl := hown.lt
  have hseq : SeqGives Fence.wide 2 Tryz.prog 273 #[.pointer (some ⟨w.heap.size, 0, none⟩)] encStr (fun ss => ss.Perm (strKeys D0)) (Maps.size D0) (w.alloc (.cells #[.map (some b)] 190)) :=
    AnyZ.keys_gives (ρ := Tryz.keys200_ren) { Tryz.keys200 with } Fence.wide _ trivial rfl (by omega) w.heap.size b nn D0 _ (by simp) (by simp) (by
      obtain ⟨es, clock, hb, Ft, hs, hD⟩ := hown
      exact ⟨es, clock, (Below.heap_alloc _ _ b hbl).trans hb, Ft, hs, hD⟩)
  exact AnyZ.sorted_in Tryz.sorted199 Fence.wide 5 trivial trivial trivial trivial rfl (by omega) (Tryz.sorts199 _) (enters_of Tryz.func272 (by kernel_rfl) rfl) 273 #[.pointer (some ⟨w.heap.size, 0, none⟩)] trivial (enters_of Tryz.func273 (by kernel_rfl) rfl) _ _ hmax hbytes _ hseq

set_option maxHeartbeats 1000000 in
/-- **.. AND FOR THE nil MAP: nil.** -/
theorem Tryz.slices_Sorted_keys_nil_199_200 (w : World) :
    CallsIn Fence.wide 5 Tryz.prog 199 #[.func (.func 273) #[] #[.pointer (some ⟨w.heap.size, 0, none⟩)]] (w.alloc (.cells #[.map none] 190)) fun e w' => ∃ (v : Value) (ss : List (List UInt8)), e = .returned v ∧ ss = [] ∧
      w'.ownsRow (w.alloc (.cells #[.map none] 190)).heap.size 9 1 v ss.length ((ss.mergeSort (fun x y => decide (x ≤ y))).map encStr) ∧ (v = .slice none 0 0 ↔ ss = []) ∧ Below (w.alloc (.cells #[.map none] 190)).heap.size (w.alloc (.cells #[.map none] 190)) w' := by
  have hseq : SeqGives Fence.wide 2 Tryz.prog 273 #[.pointer (some ⟨w.heap.size, 0, none⟩)] encStr (fun ss : List (List UInt8) => ss = []) 0 (w.alloc (.cells #[.map none] 190)) :=
    AnyZ.keys_gives_nil (ρ := Tryz.keys200_ren) { Tryz.keys200 with } Fence.wide _ trivial rfl w.heap.size _ (by simp) (by simp)
  exact AnyZ.sorted_in Tryz.sorted199 Fence.wide 5 trivial trivial trivial trivial rfl (by omega) (Tryz.sorts199 _) (enters_of Tryz.func272 (by kernel_rfl) rfl) 273 #[.pointer (some ⟨w.heap.size, 0, none⟩)] trivial (enters_of Tryz.func273 (by kernel_rfl) rfl) _ 0 (Nat.zero_le _) (by omega) _ hseq

-- THE CALLER's WALK over 'slices.Sorted(maps.Keys(m))' (inside '(callsIn_wide (n := 6)).1'; 'have hfK : Fence.wide.fn 200 := trivial', 'have hfS : Fence.wide.fn 199 := trivial' ahead): THE TWO ARMS TO PASTE:
--   gi_wp2_with (first
--     | (gi_at_call 200; refine (Tryz.maps_Keys_200 _ _).mono ?_; rintro e w' ⟨rfl, rfl⟩)
--     | (gi_at_call 199; refine (Tryz.slices_Sorted_keys_199_200 b nn D0 R w hown hmax hbytes).mono ?_; rintro e w' ⟨v, ss, rfl, hS, hrow, hnil, hb⟩))


end Go.Proofs
