/-
  DERIVED. GIVEN WITH THE SEED: THE CARDS: each row of YtdnfnjdkemohaaaGreatDoorRows.lean that lists a variable, with what it lists TIED to the program's text (the seventh form; the later family's looks); each row that meets fmt, with fmt's text TOLD by the authors' own Lean function (tested against real Go, not proved from fmt's source: count such statements apart). THE CARD IS WHAT COUNTS. Prove the row's statement (the work); the ties are given (YtdnfnjdkemohaaaGreatDoorTie.lean); close each card by the builder's one call (the guide's Derived/Test/ToyasCard.lean, 'card_holds'). Laid BY PROGRAM, IN A SANDBOX (cutbox-door.mjs). By AI agents, Wed Nov 11 2026. No macro, syntax, notation, axiom, sorry.
-/
import Derived.Test.YtdnfnjdkemohaaaGreatDoorRows
import GoSem.ClaimSeven
namespace Go.Proofs.YtdnfnjdkemohaaaGreatDoor
namespace Rows

/-- THE TIED CARD OF 'limnographlaw21.SegmentReads'. -/
def segmentReadsCard : Claim7 := { stood := { row := segmentReadsRow, standIns := [], harness := (true, "0623a38d4525ea48bef9806982998442ca7250db7e9b5d3dd718a051a14ca9cb"), looks := false }, kinds := [], alts := [], laidByText := true, laidKinds := [.data, .data], laidTests := true, laidLooks := .later }
def SegmentReadsCardSaid : Prop := Claim7.holds Tryz.pinned (.plain (OpenSpec.ofChange segmentReadsSpec)) segmentReadsCard

/-- THE TIED CARD OF 'limnographlaw21.SegmentBack'. -/
def segmentBackCard : Claim7 := { stood := { row := segmentBackRow, standIns := [], harness := (true, "0623a38d4525ea48bef9806982998442ca7250db7e9b5d3dd718a051a14ca9cb"), looks := false }, kinds := [], alts := [], laidByText := true, laidKinds := [.data, .data], laidTests := true, laidLooks := .later }
def SegmentBackCardSaid : Prop := Claim7.holds Tryz.pinned (.plain (OpenSpec.ofChange segmentBackSpec)) segmentBackCard

/-- THE TIED CARD OF 'limnographlaw21.SegmentMost'. -/
def segmentMostCard : Claim7 := { stood := { row := segmentMostRow, standIns := [], harness := (true, "0623a38d4525ea48bef9806982998442ca7250db7e9b5d3dd718a051a14ca9cb"), looks := false }, kinds := [], alts := [], laidByText := true, laidKinds := [.data, .data], laidTests := true, laidLooks := .later }
def SegmentMostCardSaid : Prop := Claim7.holds Tryz.pinned (.plain (OpenSpec.ofChange segmentMostSpec)) segmentMostCard

/-- THE TIED CARD OF 'limnographlaw24.SinkOrder'. -/
def sinkOrderCard : Claim7 := { stood := { row := sinkOrderRow, standIns := [], harness := (true, "0623a38d4525ea48bef9806982998442ca7250db7e9b5d3dd718a051a14ca9cb"), looks := false }, kinds := [], alts := [], laidByText := true, laidKinds := [.data, .data], laidTests := true, laidLooks := .later }
def SinkOrderCardSaid : Prop := Claim7.holds Tryz.pinned (.plain (OpenSpec.ofChange sinkOrderSpec)) sinkOrderCard

/-- THE TIED CARD OF 'limnographlaw24.SinkKeeps'. -/
def sinkKeepsCard : Claim7 := { stood := { row := sinkKeepsRow, standIns := [], harness := (true, "0623a38d4525ea48bef9806982998442ca7250db7e9b5d3dd718a051a14ca9cb"), looks := false }, kinds := [], alts := [], laidByText := true, laidKinds := [.data, .data], laidTests := true, laidLooks := .later }
def SinkKeepsCardSaid : Prop := Claim7.holds Tryz.pinned (.plain (OpenSpec.ofChange sinkKeepsSpec)) sinkKeepsCard

/-- THE TIED CARD OF 'limnographlaw24.SinkTakes'. -/
def sinkTakesCard : Claim7 := { stood := { row := sinkTakesRow, standIns := [], harness := (true, "0623a38d4525ea48bef9806982998442ca7250db7e9b5d3dd718a051a14ca9cb"), looks := false }, kinds := [], alts := [], laidByText := true, laidKinds := [.data, .data], laidTests := true, laidLooks := .later }
def SinkTakesCardSaid : Prop := Claim7.holds Tryz.pinned (.plain (OpenSpec.ofChange sinkTakesSpec)) sinkTakesCard

/-- THE TIED CARD OF 'limnographlaw22.StoreNames'. -/
def storeNamesCard : Claim7 := { stood := { row := storeNamesRow, standIns := [], harness := (true, "0623a38d4525ea48bef9806982998442ca7250db7e9b5d3dd718a051a14ca9cb"), looks := false }, kinds := [], alts := [], laidByText := true, laidKinds := [.data, .data], laidTests := true, laidLooks := .later }
def StoreNamesCardSaid : Prop := Claim7.holds Tryz.pinned (.plain (OpenSpec.ofChange storeNamesSpec)) storeNamesCard

/-- THE TIED CARD OF 'limnographlaw22.StoreOpens'. -/
def storeOpensCard : Claim7 := { stood := { row := storeOpensRow, standIns := [], harness := (true, "0623a38d4525ea48bef9806982998442ca7250db7e9b5d3dd718a051a14ca9cb"), looks := false }, kinds := [], alts := [], laidByText := true, laidKinds := [.data, .data], laidTests := true, laidLooks := .later }
def StoreOpensCardSaid : Prop := Claim7.holds Tryz.pinned (.plain (OpenSpec.ofChange storeOpensSpec)) storeOpensCard

/-- THE TIED CARD OF 'limnographlaw22.StoreTiles'. -/
def storeTilesCard : Claim7 := { stood := { row := storeTilesRow, standIns := [], harness := (true, "0623a38d4525ea48bef9806982998442ca7250db7e9b5d3dd718a051a14ca9cb"), looks := false }, kinds := [], alts := [], laidByText := true, laidKinds := [.data, .data], laidTests := true, laidLooks := .later }
def StoreTilesCardSaid : Prop := Claim7.holds Tryz.pinned (.plain (OpenSpec.ofChange storeTilesSpec)) storeTilesCard

/-- THE TIED CARD OF 'limnographlaw22.StorePlays'. -/
def storePlaysCard : Claim7 := { stood := { row := storePlaysRow, standIns := [], harness := (true, "0623a38d4525ea48bef9806982998442ca7250db7e9b5d3dd718a051a14ca9cb"), looks := false }, kinds := [], alts := [], laidByText := true, laidKinds := [.data, .data], laidTests := true, laidLooks := .later }
def StorePlaysCardSaid : Prop := Claim7.holds Tryz.pinned (.plain (OpenSpec.ofChange storePlaysSpec)) storePlaysCard

/-- THE SECOND FORM's CARD OF 'limnographlaw21.SegmentReads'. -/
def segmentReadsUptoCard : Claim7 := { stood := { row := segmentReadsUptoRow, standIns := [], harness := (true, "0623a38d4525ea48bef9806982998442ca7250db7e9b5d3dd718a051a14ca9cb"), looks := false }, kinds := [], alts := [], laidByText := true, laidKinds := [.data, .data], laidTests := true, laidLooks := .later }
def SegmentReadsUptoCardSaid : Prop := Claim7.holds Tryz.pinned (.plain (OpenSpec.upto segmentReadsSpec)) segmentReadsUptoCard

/-- THE SECOND FORM's CARD OF 'limnographlaw21.SegmentBack'. -/
def segmentBackUptoCard : Claim7 := { stood := { row := segmentBackUptoRow, standIns := [], harness := (true, "0623a38d4525ea48bef9806982998442ca7250db7e9b5d3dd718a051a14ca9cb"), looks := false }, kinds := [], alts := [], laidByText := true, laidKinds := [.data, .data], laidTests := true, laidLooks := .later }
def SegmentBackUptoCardSaid : Prop := Claim7.holds Tryz.pinned (.plain (OpenSpec.upto segmentBackSpec)) segmentBackUptoCard

/-- THE SECOND FORM's CARD OF 'limnographlaw21.SegmentMost'. -/
def segmentMostUptoCard : Claim7 := { stood := { row := segmentMostUptoRow, standIns := [], harness := (true, "0623a38d4525ea48bef9806982998442ca7250db7e9b5d3dd718a051a14ca9cb"), looks := false }, kinds := [], alts := [], laidByText := true, laidKinds := [.data, .data], laidTests := true, laidLooks := .later }
def SegmentMostUptoCardSaid : Prop := Claim7.holds Tryz.pinned (.plain (OpenSpec.upto segmentMostSpec)) segmentMostUptoCard

/-- THE SECOND FORM's CARD OF 'limnographlaw24.SinkOrder'. -/
def sinkOrderUptoCard : Claim7 := { stood := { row := sinkOrderUptoRow, standIns := [], harness := (true, "0623a38d4525ea48bef9806982998442ca7250db7e9b5d3dd718a051a14ca9cb"), looks := false }, kinds := [], alts := [], laidByText := true, laidKinds := [.data, .data], laidTests := true, laidLooks := .later }
def SinkOrderUptoCardSaid : Prop := Claim7.holds Tryz.pinned (.plain (OpenSpec.upto sinkOrderSpec)) sinkOrderUptoCard

/-- THE SECOND FORM's CARD OF 'limnographlaw24.SinkKeeps'. -/
def sinkKeepsUptoCard : Claim7 := { stood := { row := sinkKeepsUptoRow, standIns := [], harness := (true, "0623a38d4525ea48bef9806982998442ca7250db7e9b5d3dd718a051a14ca9cb"), looks := false }, kinds := [], alts := [], laidByText := true, laidKinds := [.data, .data], laidTests := true, laidLooks := .later }
def SinkKeepsUptoCardSaid : Prop := Claim7.holds Tryz.pinned (.plain (OpenSpec.upto sinkKeepsSpec)) sinkKeepsUptoCard

/-- THE SECOND FORM's CARD OF 'limnographlaw24.SinkTakes'. -/
def sinkTakesUptoCard : Claim7 := { stood := { row := sinkTakesUptoRow, standIns := [], harness := (true, "0623a38d4525ea48bef9806982998442ca7250db7e9b5d3dd718a051a14ca9cb"), looks := false }, kinds := [], alts := [], laidByText := true, laidKinds := [.data, .data], laidTests := true, laidLooks := .later }
def SinkTakesUptoCardSaid : Prop := Claim7.holds Tryz.pinned (.plain (OpenSpec.upto sinkTakesSpec)) sinkTakesUptoCard

/-- THE SECOND FORM's CARD OF 'limnographlaw22.StoreNames'. -/
def storeNamesUptoCard : Claim7 := { stood := { row := storeNamesUptoRow, standIns := [], harness := (true, "0623a38d4525ea48bef9806982998442ca7250db7e9b5d3dd718a051a14ca9cb"), looks := false }, kinds := [], alts := [], laidByText := true, laidKinds := [.data, .data], laidTests := true, laidLooks := .later }
def StoreNamesUptoCardSaid : Prop := Claim7.holds Tryz.pinned (.plain (OpenSpec.upto storeNamesSpec)) storeNamesUptoCard

/-- THE SECOND FORM's CARD OF 'limnographlaw22.StoreOpens'. -/
def storeOpensUptoCard : Claim7 := { stood := { row := storeOpensUptoRow, standIns := [], harness := (true, "0623a38d4525ea48bef9806982998442ca7250db7e9b5d3dd718a051a14ca9cb"), looks := false }, kinds := [], alts := [], laidByText := true, laidKinds := [.data, .data], laidTests := true, laidLooks := .later }
def StoreOpensUptoCardSaid : Prop := Claim7.holds Tryz.pinned (.plain (OpenSpec.upto storeOpensSpec)) storeOpensUptoCard

/-- THE SECOND FORM's CARD OF 'limnographlaw22.StoreTiles'. -/
def storeTilesUptoCard : Claim7 := { stood := { row := storeTilesUptoRow, standIns := [], harness := (true, "0623a38d4525ea48bef9806982998442ca7250db7e9b5d3dd718a051a14ca9cb"), looks := false }, kinds := [], alts := [], laidByText := true, laidKinds := [.data, .data], laidTests := true, laidLooks := .later }
def StoreTilesUptoCardSaid : Prop := Claim7.holds Tryz.pinned (.plain (OpenSpec.upto storeTilesSpec)) storeTilesUptoCard

/-- THE SECOND FORM's CARD OF 'limnographlaw22.StorePlays'. -/
def storePlaysUptoCard : Claim7 := { stood := { row := storePlaysUptoRow, standIns := [], harness := (true, "0623a38d4525ea48bef9806982998442ca7250db7e9b5d3dd718a051a14ca9cb"), looks := false }, kinds := [], alts := [], laidByText := true, laidKinds := [.data, .data], laidTests := true, laidLooks := .later }
def StorePlaysUptoCardSaid : Prop := Claim7.holds Tryz.pinned (.plain (OpenSpec.upto storePlaysSpec)) storePlaysUptoCard
end Rows
end Go.Proofs.YtdnfnjdkemohaaaGreatDoor
