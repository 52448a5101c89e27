/- Closed facts of the program that every row asks, each by itself. -/
import Derived.Test.YtdnfnjdkemohaaaGreatDoorRows
import Derived.JoinedOf
import Derived.KernelRfl
namespace Go.Proofs.YtdnfnjdkemohaaaGreatDoor.Fc
set_option maxRecDepth 100000
theorem laidOut : laidOutB Tryz.prog = true := by kernel_rfl
theorem mapsRowed' : mapsRowed Tryz.prog = true := by kernel_rfl
theorem stops : (Tryz.prog.stops == []) = true := by kernel_rfl
theorem stopKnobs : (Tryz.prog.stopKnobs == []) = true := by kernel_rfl
theorem plainKeys : (Rows.storeNamesRow.plainKeys == Tryz.prog.plainKeys) = true := by kernel_rfl
theorem stopsHeard : Tryz.prog.stopsHeard = true := by kernel_rfl
theorem mayEnter : Tryz.prog.mayEnter = true := by kernel_rfl
theorem lifted' : (Rows.storeNamesRow.lifted == Tryz.prog.liftsFinal) = true := by kernel_rfl
theorem make' : (Tryz.prog.make == some Rows.storeNamesRow.make) = true := by kernel_rfl
end Go.Proofs.YtdnfnjdkemohaaaGreatDoor.Fc
