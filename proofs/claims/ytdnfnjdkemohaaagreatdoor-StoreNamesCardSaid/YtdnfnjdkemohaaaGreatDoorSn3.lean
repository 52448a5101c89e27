/- StoreNames is proved, for every two whole numbers: the row and its tied card; its condition is the row's own, that the two listed package variables hold what the program's text lays. -/
import Derived.Test.YtdnfnjdkemohaaaGreatDoorSn2
import Derived.Test.YtdnfnjdkemohaaaGreatDoorFcStoreNames2
import Derived.Test.YtdnfnjdkemohaaaGreatDoorTie
namespace Go.Proofs.YtdnfnjdkemohaaaGreatDoor.Sn
open Go.ChangeShapes Go.WideShapes Go.ChangeAt Go.RowKit Go.Ab

theorem own : ownKnob Tryz.prog.godebug = none := by kernel_rfl
theorem gNone : Tryz.prog.globalNamed "limnograph/xor.none" = some 2 := by kernel_rfl
theorem gTab : Tryz.prog.globalNamed "math/bits.deBruijn64tab" = some 3 := by kernel_rfl

/-- The door's own heap meets the condition. -/
theorem door_met (os : Os) (args : Array Value) : laidMetH Tryz.prog Rows.storeNamesRow.laid ((World.doorLaid Tryz.prog 400 os).forCall (fun _ _ => 0) ⟨#[], args, []⟩).memory :=
  laidMetH_of_parts3 (fuel := 8) (laidMet_of_run' 8 (by kernel_rfl) (by kernel_rfl)) (by kernel_rfl) (by kernel_rfl)

/-- The variables lie below the heap's end. -/
theorem size_of_laid {W : World} (h : laidMetH Tryz.prog Rows.storeNamesRow.laid W) : Tryz.prog.globals.size ≤ W.heap.size := by
  rw [MakeChecks.laidMetH_plain _ _ _ (by kernel_rfl)] at h
  obtain ⟨ps, ⟨g0, t0, cs0, f0, p0, q0, hg0, ht0, hv0, hd0, _⟩, _⟩ := h
  obtain rfl := Option.some.inj (gTab.symm.trans hg0)
  have hs : Tryz.prog.globals.size = 4 := by kernel_rfl
  rw [hs]
  unfold World.var? at hv0
  rw [hg0] at hv0
  simp only [Option.bind_some] at hv0
  cases hh : W.heap[3]? with
  | none => rw [hh] at hv0; cases hv0
  | some o => have := (Array.getElem?_eq_some_iff.1 hh).1; omega

theorem wf_i64 {n : Int} (h : (Lit.int .i64 n).wf = true) : -9223372036854775808 ≤ n ∧ n ≤ 9223372036854775807 := by
  simp only [Lit.wf, Bool.and_eq_true, decide_eq_true_eq] at h
  exact h

set_option maxRecDepth 100000 in
theorem lifted (os : Os) (started : os.Started) (H : Type) (enc : TypeId × Value → H) :
    ReturnsInHanded {} Tryz.checked os 9 .any (fun w args => (Rows.storeNamesSpec.pre enc Tryz.prog Tryz.f9 [] false w args ∧ laidMetH Tryz.prog Rows.storeNamesRow.laid w) ∧ sizedMet enc Tryz.prog Tryz.f9 (OpenSpec.ofChange Rows.storeNamesSpec) false w args)
      (Rows.storeNamesSpec.post enc Tryz.prog Tryz.f9 false true false false) := by
  refine returnsInHanded_of_change_and (C := Tryz.checked) (X := fun w _ => laidMetH Tryz.prog Rows.storeNamesRow.laid w) (fun _ _ _ hh h => h.of_heap hh) own started FcStoreNames.noInit Tryz.func9
    (ChangeSpec.witness_shaped (enc := enc) (C := Tryz.checked) (os := os) (X := fun w _ => laidMetH Tryz.prog Rows.storeNamesRow.laid w) false (World.doorLaid Tryz.prog 400 os) #[.int .i64 0, .int .i64 0] 8 rfl (World.shaped_of_RefB (by kernel_rfl) (by kernel_rfl)) (by kernel_rfl) (by kernel_rfl) (by kernel_rfl) (door_met os _)) ?_
  intro W base args ds gs before hval0 hW _ _ hL _
  have hval : ∀ (j : Nat) t v, Tryz.f9.params[j]? = some t → args[j]? = some v → Value.okWide Tryz.prog W .any base t v := hval0
  have hW' := hW
  obtain ⟨p, q, hA0, hV, rfl, hfz, hnd⟩ := hW
  have hA : DataW.TrodAll enc Tryz.prog W 0 (fun _ => true) true Tryz.f9.params.toList args.toList ds p := hA0
  have hA1 := hA
  rw [Tryz.params9] at hA hval
  obtain ⟨v0, vs0, d0, ds0, p0, q0, hargs, rfl, rfl, h0, r0⟩ := trodAll_cons hA
  obtain ⟨v1, vs1, d1, ds1, p1, q1, rfl, rfl, rfl, h1, r1⟩ := trodAll_cons r0
  obtain ⟨rfl, rfl, rfl⟩ := trodAll_nil r1
  obtain rfl : args = #[v0, v1] := by cases args; simp_all
  obtain ⟨rfl, rfl⟩ := trodVars_none hV
  obtain ⟨a0, rfl, rfl, rfl, w0⟩ := open_int Tryz.underlying3 (hval 0 3 v0 rfl rfl) h0
  obtain ⟨a1, rfl, rfl, rfl, w1⟩ := open_int Tryz.underlying3 (hval 1 3 v1 rfl rfl) h1
  clear hA0 hval0
  refine (calls_of_tri (args := [.int .i64 a0, .int .i64 a1]) (size_of_laid hL) (sim_emp W) (VRL.cons (.int _ _) (VRL.cons (.int _ _) .nil)) (Go.Ab.Pr.law9 a0 a1 (wf_i64 w0) (wf_i64 w1))).mono fun e W' ⟨he, hb⟩ => ?_
  subst he
  have hlt := hW'.lt
  exact ⟨_, rfl, post_of_below (pv := []) hW' (fun _ _ _ => (trodAll_cons_mk (shut_bool Tryz.underlying4 _) trodAll_mk0))
    (fun sp hsp => trodAll_below Fc.laidOut hb sp (by intro t ht; rw [Tryz.params9] at ht; simp at ht; subst ht; exact ⟨by kernel_rfl, of_decide_eq_true (by kernel_rfl)⟩) hA1 (fun x hx => hlt x (by simp at hx)) (fun x hx => hsp x (by simp at hx)))
    (fun _ _ => rfl) (by simp) hb (ok_one (by kernel_rfl) rfl (okWide_bool_mk Tryz.underlying4 _))⟩

theorem storeNames_holds : Rows.StoreNamesSaid :=
  OpenClaim.holds_of_wide 9 Tryz.f9 rfl rfl rfl rfl rfl rfl rfl ⟨rfl, rfl, rfl, rfl, rfl⟩ rfl rfl rfl rfl rfl FcStoreNames.func Tryz.func9 FcStoreNames.joined
    FcStoreNames.inst FcStoreNames.wrap (fun os started H enc _ => lifted os started H enc)

theorem storeNames_card : Rows.StoreNamesCardSaid :=
  Claim7.holds_tied_plain_at .later [] [.data, .data] true _ false
    storeNames_holds (fun _ h => by cases h) FcStoreNames.wfText (fun _ h => by cases h) storeNames_row_tie rfl ⟨rfl, rfl⟩ FcStoreNames.main rfl
    (fun f fn hf hfn => by
      obtain rfl : f = 9 := Option.some.inj (FcStoreNames.func.symm.trans hf) |>.symm
      obtain rfl : fn = Tryz.f9 := (Option.some.inj (Tryz.func9.symm.trans hfn)).symm
      exact ⟨FcStoreNames.looks, fun j t ht => by
        rw [Tryz.params9] at ht
        have hm : t ∈ [3] := by
          have := Array.mem_of_getElem? ht
          simpa using this
        exact (show Tryz.prog.wantsStandIn t = false by simpa using List.all_eq_true.1 FcStoreNames.stand t hm)⟩)
    FcStoreNames.goes
end Go.Proofs.YtdnfnjdkemohaaaGreatDoor.Sn
namespace Go.Proofs.YtdnfnjdkemohaaaGreatDoor
theorem storeNames_proved : Rows.StoreNamesCardSaid := Sn.storeNames_card
#print axioms storeNames_proved
end Go.Proofs.YtdnfnjdkemohaaaGreatDoor
