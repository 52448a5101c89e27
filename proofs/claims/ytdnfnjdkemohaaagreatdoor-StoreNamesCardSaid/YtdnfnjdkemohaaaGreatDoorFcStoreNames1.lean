/- Closed facts of the row of storeNames, each by itself. -/
import Derived.Test.YtdnfnjdkemohaaaGreatDoorFcA
namespace Go.Proofs.YtdnfnjdkemohaaaGreatDoor.FcStoreNames
set_option maxRecDepth 100000
theorem inPlace : (Rows.storeNamesRow.inPlace == Tryz.prog.inPlace 9) = true := by kernel_rfl
theorem unfollowed : (Rows.storeNamesRow.unfollowed == Tryz.prog.unfollowed 9) = true := by kernel_rfl
theorem recurses : (Rows.storeNamesRow.recurses == Tryz.prog.recurses 9) = true := by kernel_rfl
theorem named : (Rows.storeNamesRow.named == Tryz.prog.varsNamed 9) = true := by kernel_rfl
end Go.Proofs.YtdnfnjdkemohaaaGreatDoor.FcStoreNames
