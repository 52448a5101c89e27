/- Closed facts of the row of storeNames, each by itself, and all together. -/
import Derived.Test.YtdnfnjdkemohaaaGreatDoorFcStoreNames1
import Derived.Test.YtdnfnjdkemohaaaGreatDoorCards
import Derived.SevenTiedAt
namespace Go.Proofs.YtdnfnjdkemohaaaGreatDoor.FcStoreNames
set_option maxRecDepth 100000
theorem wf : Rows.storeNamesRow.wf (OpenSpec.ofChange Rows.storeNamesSpec) = true := by kernel_rfl
theorem params : Tryz.f9.params.all (Tryz.prog.readableRec ·) = true := by kernel_rfl
theorem named2 : namedTie Tryz.prog Rows.storeNamesRow.named Rows.storeNamesSpec.vars = true := by kernel_rfl
theorem stops : (Rows.storeNamesRow.stops == []) = true := by kernel_rfl
theorem knobs : (Rows.storeNamesRow.knobs == []) = true := by kernel_rfl
theorem maps : (Rows.storeNamesRow.maps == (Tryz.f9.params.toList ++ Rows.storeNamesSpec.plain.varTypes Tryz.prog).any (Tryz.prog.mapsRec ·)) = true := by kernel_rfl
theorem ifaces : (Rows.storeNamesRow.ifaces == (Tryz.f9.params.toList ++ Rows.storeNamesSpec.plain.varTypes Tryz.prog).any (Tryz.prog.ifacesRec ·)) = true := by kernel_rfl
theorem mapsOut : (Rows.storeNamesRow.mapsOut == Tryz.prog.mapsAmong Tryz.f9.resultTypes.toList) = true := by kernel_rfl
theorem loops : (Rows.storeNamesRow.loops == (Tryz.f9.params.toList ++ Rows.storeNamesSpec.plain.varTypes Tryz.prog).any (Tryz.prog.loopsFrom ·)) = true := by kernel_rfl
theorem wideKeys : (Rows.storeNamesRow.wideKeys == (Tryz.f9.params.toList ++ Rows.storeNamesSpec.plain.varTypes Tryz.prog ++ Tryz.f9.resultTypes.toList).any (Tryz.prog.wideKeysFrom ·)) = true := by kernel_rfl
theorem vars : Rows.storeNamesSpec.vars.all (Tryz.prog.varReadable ·) = true := by kernel_rfl
theorem results : Tryz.f9.resultTypes.all (fun t => Tryz.prog.readableRec t && decide (t < Tryz.prog.types.size)) = true := by kernel_rfl
theorem ifacesOut : (Rows.storeNamesRow.ifacesOut == Tryz.f9.resultTypes.toList.any (Tryz.prog.ifacesRec ·)) = true := by kernel_rfl
theorem loopsOut : (Rows.storeNamesRow.loopsOut == Tryz.f9.resultTypes.toList.any (Tryz.prog.loopsFrom ·)) = true := by kernel_rfl
theorem shortTexts : Rows.storeNamesRow.shortTexts.isNone = true := by kernel_rfl
theorem kinds : (Rows.storeNamesRow.kinds == (if Rows.storeNamesRow.domain.isEmpty then [] else Tryz.f9.params.toList.map fun t => match Tryz.prog.underlying t with | some (.int k) => some k | _ => none)) = true := by kernel_rfl
theorem pinned : (Rows.storeNamesRow.pinned == Rows.storeNamesRow.pinnedBy) = true := by kernel_rfl
theorem veiled : (Rows.storeNamesRow.veiled == (Tryz.f9.params.toList ++ Rows.storeNamesSpec.plain.varTypes Tryz.prog ++ Tryz.f9.resultTypes.toList).any (Tryz.prog.veiledRec ·)) = true := by kernel_rfl
theorem veiledFits : Rows.storeNamesRow.veiledFits Tryz.prog Tryz.f9.params.toList (Tryz.f9.params.toList ++ Rows.storeNamesSpec.plain.varTypes Tryz.prog ++ Tryz.f9.resultTypes.toList) = true := by kernel_rfl
theorem joined : joinedFacts Tryz.prog 9 Tryz.f9 Rows.storeNamesSpec Rows.storeNamesRow = true := by
  unfold joinedFacts
  simp only [Bool.and_eq_true]
  exact ⟨⟨⟨⟨⟨⟨⟨⟨⟨⟨⟨⟨⟨⟨⟨⟨⟨⟨⟨⟨⟨⟨⟨⟨⟨⟨⟨⟨⟨⟨⟨wf, Fc.laidOut⟩, Fc.mapsRowed'⟩, params⟩, named2⟩, stops⟩, Fc.stops⟩, knobs⟩, Fc.stopKnobs⟩, inPlace⟩, unfollowed⟩, recurses⟩, named⟩, maps⟩, ifaces⟩, mapsOut⟩, loops⟩, wideKeys⟩, vars⟩, results⟩, ifacesOut⟩, loopsOut⟩, Fc.plainKeys⟩, shortTexts⟩, Fc.stopsHeard⟩, Fc.mayEnter⟩, Fc.lifted'⟩, Fc.make'⟩, kinds⟩, pinned⟩, veiled⟩, veiledFits⟩
theorem func : Tryz.prog.funcNamed Rows.storeNamesRow.func = some 9 := by kernel_rfl
theorem inst : Tryz.f9.isInstance Tryz.prog Rows.storeNamesRow.origin Rows.storeNamesRow.targs := of_decide_eq_true (by kernel_rfl)
theorem wrap : Tryz.f9.isWrapper Tryz.prog Rows.storeNamesRow.wrapper Rows.storeNamesRow.mainSum := by
  unfold Func.isWrapper
  first | (rw [if_pos (by decide +kernel)]; kernel_rfl) | (rw [if_neg (by decide +kernel)]; exact ⟨rfl, rfl⟩)
theorem noInit : Tryz.prog.inits.idxOf? 9 = none := by kernel_rfl
theorem wfText : Rows.storeNamesRow.wfByText (OpenSpec.ofChange Rows.storeNamesSpec) = true := by kernel_rfl
theorem main : Tryz.prog.mainIs = some (Rows.storeNamesCard.stood.harness.1, Rows.storeNamesCard.stood.harness.2.toList) := by kernel_rfl
theorem looks : false = Tryz.prog.looks [] := by kernel_rfl
theorem goes : false = Rows.storeNamesRow.goesBy Tryz.prog := by kernel_rfl
theorem stand : ([3].all fun u => !Tryz.prog.wantsStandIn u) = true := by kernel_rfl
end Go.Proofs.YtdnfnjdkemohaaaGreatDoor.FcStoreNames
