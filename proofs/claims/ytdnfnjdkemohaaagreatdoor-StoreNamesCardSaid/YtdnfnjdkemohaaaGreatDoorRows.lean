/-
  NARROWER THAN 'FOR EVERY INPUT', by the rows' own cells (each row's printed sentence says how): SegmentReads: laid · SegmentBack: laid · SegmentMost: laid · SinkOrder: laid · SinkKeeps: laid · SinkTakes: laid · StoreNames: laid · StoreOpens: laid · StoreTiles: laid · StorePlays: laid.
  DERIVED. THE GIVEN ROWS OF THIS SEAT. 10 by the template 'for every input the law returns true; each argument reads behind the call as it read before'; 0 by the template 'total and deterministic' (their statements: YtdnfnjdkemohaaaGreatDoorTotals.lean).
  GIVEN WITH THE SEED: the statements are not yours to turn. If you find one false, say at which input.
  Laid BY PROGRAM, IN A SANDBOX (cutbox-rows.mjs): the forced cells as the released guide's own fill.sh prints them over the translation 3dd88fb98e3a55bf… (all of the seat's roots in one cut). By AI agents, Wed Nov 11 2026. No macro, syntax, notation, axiom, sorry.
-/
import Derived.Test.YtdnfnjdkemohaaaGreatDoorChecked
import GoSem.Claim
import GoSem.ClaimJoined
import GoSem.ClaimMapViews
import Derived.JoinedTies
import Derived.KernelRfl
namespace Go.Proofs.YtdnfnjdkemohaaaGreatDoor
/- THE CELL 'sum', in the pinned program and in every row, IS THE sha256 OF THE DUMP (.gsa) THAT YtdnfnjdkemohaaaGreatDoorProg.lean LOADS. Nothing in Lean hashes anything: it is a label: what it is worth is what the hold of that sum in a sandbox is worth. -/
noncomputable def Tryz.pinned : Pinned := { name := "ytdnfnjdkemohaaagreatdoor", sum := "3dd88fb98e3a55bf99a3669764fe85003db7331ca21c41c4fb9f99fcffef5c4d", checked := Tryz.checked }
namespace Rows
def none {H : Type} : Left H := { results := [], args := [] }

/- WHAT THE LISTED PACKAGE-LEVEL VARIABLES READ AS WHEN THE CALL BEGINS. Each datum BY PROGRAM (the guide's laid-datum.mjs) off the statement by which the dump's own 'gosem.cut.vars' lays the variable. In a bare row this is a premise. The card (YtdnfnjdkemohaaaGreatDoorCards.lean) ties it to the program's text. -/
def laid_math_bits_deBruijn64tab {H : Type} : DataW H := .agg [.lit (.int .u8 0), .lit (.int .u8 1), .lit (.int .u8 56), .lit (.int .u8 2), .lit (.int .u8 57), .lit (.int .u8 49), .lit (.int .u8 28), .lit (.int .u8 3), .lit (.int .u8 61), .lit (.int .u8 58), .lit (.int .u8 42), .lit (.int .u8 50), .lit (.int .u8 38), .lit (.int .u8 29), .lit (.int .u8 17), .lit (.int .u8 4), .lit (.int .u8 62), .lit (.int .u8 47), .lit (.int .u8 59), .lit (.int .u8 36), .lit (.int .u8 45), .lit (.int .u8 43), .lit (.int .u8 51), .lit (.int .u8 22), .lit (.int .u8 53), .lit (.int .u8 39), .lit (.int .u8 33), .lit (.int .u8 30), .lit (.int .u8 24), .lit (.int .u8 18), .lit (.int .u8 12), .lit (.int .u8 5), .lit (.int .u8 63), .lit (.int .u8 55), .lit (.int .u8 48), .lit (.int .u8 27), .lit (.int .u8 60), .lit (.int .u8 41), .lit (.int .u8 37), .lit (.int .u8 16), .lit (.int .u8 46), .lit (.int .u8 35), .lit (.int .u8 44), .lit (.int .u8 21), .lit (.int .u8 52), .lit (.int .u8 32), .lit (.int .u8 23), .lit (.int .u8 11), .lit (.int .u8 54), .lit (.int .u8 26), .lit (.int .u8 40), .lit (.int .u8 15), .lit (.int .u8 34), .lit (.int .u8 20), .lit (.int .u8 31), .lit (.int .u8 10), .lit (.int .u8 25), .lit (.int .u8 14), .lit (.int .u8 19), .lit (.int .u8 9), .lit (.int .u8 13), .lit (.int .u8 8), .lit (.int .u8 7), .lit (.int .u8 6)]
def laid_limnograph_xor_none {H : Type} : DataW H := .agg [.lit (.int .i64 0), .lit (.int .i64 0)]

/-- 'limnographlaw21.SegmentReads': WHATEVER THE INPUT: true; the input reads as it did. -/
def segmentReadsSpec : ChangeSpec := { name := "segmentReads", fn := fun _ => fun
  | [d] => { results := [.lit (.bool true)], args := [d] }
  | _ => none }
def segmentReadsRow : OpenClaim := { program := "ytdnfnjdkemohaaagreatdoor", sum := "3dd88fb98e3a55bf99a3669764fe85003db7331ca21c41c4fb9f99fcffef5c4d", func := "limnograph/limnographlaw21.SegmentReads", spec := "segmentReads", inPlace := ["math.Float64frombits", "math/bits.Add64", "internal/abi.NoEscape", "internal/bytealg.IndexByteString", "internal/bytealg.IndexString"], unfollowed := true, recurses := true, named := ["limnograph/xor.none", "math/bits.deBruijn64tab", "internal/bytealg.MaxLen"], apart := false, laid := [("math/bits.deBruijn64tab", laid_math_bits_deBruijn64tab), ("limnograph/xor.none", laid_limnograph_xor_none)] }
def SegmentReadsSaid : Prop := segmentReadsRow.holds Tryz.pinned (OpenSpec.ofChange segmentReadsSpec)

/-- ITS FALSE NEIGHBOUR: 'it returns false'. Refute it at one input. -/
def segmentReadsWrong : ChangeSpec := { name := "segmentReads", fn := fun _ => fun
  | [d] => { results := [.lit (.bool false)], args := [d] }
  | _ => none }
def SegmentReadsWrongFalsely : Prop := segmentReadsRow.holds Tryz.pinned (OpenSpec.ofChange segmentReadsWrong)

/-- 'limnographlaw21.SegmentBack': WHATEVER THE INPUT: true; the input reads as it did. -/
def segmentBackSpec : ChangeSpec := { name := "segmentBack", fn := fun _ => fun
  | [d1, d2, d3] => { results := [.lit (.bool true)], args := [d1, d2, d3] }
  | _ => none }
def segmentBackRow : OpenClaim := { program := "ytdnfnjdkemohaaagreatdoor", sum := "3dd88fb98e3a55bf99a3669764fe85003db7331ca21c41c4fb9f99fcffef5c4d", func := "limnograph/limnographlaw21.SegmentBack", spec := "segmentBack", inPlace := ["math.Float64frombits", "math/bits.Add64", "internal/abi.NoEscape", "internal/bytealg.IndexByteString", "internal/bytealg.IndexString"], unfollowed := true, recurses := true, named := ["limnograph/xor.none", "math/bits.deBruijn64tab", "internal/bytealg.MaxLen"], apart := false, laid := [("math/bits.deBruijn64tab", laid_math_bits_deBruijn64tab), ("limnograph/xor.none", laid_limnograph_xor_none)] }
def SegmentBackSaid : Prop := segmentBackRow.holds Tryz.pinned (OpenSpec.ofChange segmentBackSpec)

/-- ITS FALSE NEIGHBOUR: 'it returns false'. Refute it at one input. -/
def segmentBackWrong : ChangeSpec := { name := "segmentBack", fn := fun _ => fun
  | [d1, d2, d3] => { results := [.lit (.bool false)], args := [d1, d2, d3] }
  | _ => none }
def SegmentBackWrongFalsely : Prop := segmentBackRow.holds Tryz.pinned (OpenSpec.ofChange segmentBackWrong)

/-- 'limnographlaw21.SegmentMost': WHATEVER THE INPUT: true; the input reads as it did. -/
def segmentMostSpec : ChangeSpec := { name := "segmentMost", fn := fun _ => fun
  | [d1, d2] => { results := [.lit (.bool true)], args := [d1, d2] }
  | _ => none }
def segmentMostRow : OpenClaim := { program := "ytdnfnjdkemohaaagreatdoor", sum := "3dd88fb98e3a55bf99a3669764fe85003db7331ca21c41c4fb9f99fcffef5c4d", func := "limnograph/limnographlaw21.SegmentMost", spec := "segmentMost", inPlace := ["math.Float64frombits", "math/bits.Add64", "internal/abi.NoEscape", "internal/bytealg.IndexByteString", "internal/bytealg.IndexString"], unfollowed := true, recurses := true, named := ["limnograph/xor.none", "math/bits.deBruijn64tab", "internal/bytealg.MaxLen"], apart := false, laid := [("math/bits.deBruijn64tab", laid_math_bits_deBruijn64tab), ("limnograph/xor.none", laid_limnograph_xor_none)] }
def SegmentMostSaid : Prop := segmentMostRow.holds Tryz.pinned (OpenSpec.ofChange segmentMostSpec)

/-- ITS FALSE NEIGHBOUR: 'it returns false'. Refute it at one input. -/
def segmentMostWrong : ChangeSpec := { name := "segmentMost", fn := fun _ => fun
  | [d1, d2] => { results := [.lit (.bool false)], args := [d1, d2] }
  | _ => none }
def SegmentMostWrongFalsely : Prop := segmentMostRow.holds Tryz.pinned (OpenSpec.ofChange segmentMostWrong)

/-- 'limnographlaw24.SinkOrder': WHATEVER THE INPUT: true; the input reads as it did. -/
def sinkOrderSpec : ChangeSpec := { name := "sinkOrder", fn := fun _ => fun
  | [d1, d2, d3] => { results := [.lit (.bool true)], args := [d1, d2, d3] }
  | _ => none }
def sinkOrderRow : OpenClaim := { program := "ytdnfnjdkemohaaagreatdoor", sum := "3dd88fb98e3a55bf99a3669764fe85003db7331ca21c41c4fb9f99fcffef5c4d", func := "limnograph/limnographlaw24.SinkOrder", spec := "sinkOrder", inPlace := ["math.Float64frombits", "math/bits.Add64", "internal/abi.NoEscape", "internal/bytealg.IndexByteString", "internal/bytealg.IndexString"], unfollowed := true, recurses := true, named := ["limnograph/xor.none", "math/bits.deBruijn64tab", "internal/bytealg.MaxLen"], apart := false, laid := [("math/bits.deBruijn64tab", laid_math_bits_deBruijn64tab), ("limnograph/xor.none", laid_limnograph_xor_none)] }
def SinkOrderSaid : Prop := sinkOrderRow.holds Tryz.pinned (OpenSpec.ofChange sinkOrderSpec)

/-- ITS FALSE NEIGHBOUR: 'it returns false'. Refute it at one input. -/
def sinkOrderWrong : ChangeSpec := { name := "sinkOrder", fn := fun _ => fun
  | [d1, d2, d3] => { results := [.lit (.bool false)], args := [d1, d2, d3] }
  | _ => none }
def SinkOrderWrongFalsely : Prop := sinkOrderRow.holds Tryz.pinned (OpenSpec.ofChange sinkOrderWrong)

/-- 'limnographlaw24.SinkKeeps': WHATEVER THE INPUT: true; the input reads as it did. -/
def sinkKeepsSpec : ChangeSpec := { name := "sinkKeeps", fn := fun _ => fun
  | [d1, d2] => { results := [.lit (.bool true)], args := [d1, d2] }
  | _ => none }
def sinkKeepsRow : OpenClaim := { program := "ytdnfnjdkemohaaagreatdoor", sum := "3dd88fb98e3a55bf99a3669764fe85003db7331ca21c41c4fb9f99fcffef5c4d", func := "limnograph/limnographlaw24.SinkKeeps", spec := "sinkKeeps", inPlace := ["math.Float64frombits", "math/bits.Add64", "internal/abi.NoEscape", "internal/bytealg.IndexByteString", "internal/bytealg.IndexString"], unfollowed := true, recurses := true, named := ["limnograph/xor.none", "math/bits.deBruijn64tab", "internal/bytealg.MaxLen"], apart := false, laid := [("math/bits.deBruijn64tab", laid_math_bits_deBruijn64tab), ("limnograph/xor.none", laid_limnograph_xor_none)] }
def SinkKeepsSaid : Prop := sinkKeepsRow.holds Tryz.pinned (OpenSpec.ofChange sinkKeepsSpec)

/-- ITS FALSE NEIGHBOUR: 'it returns false'. Refute it at one input. -/
def sinkKeepsWrong : ChangeSpec := { name := "sinkKeeps", fn := fun _ => fun
  | [d1, d2] => { results := [.lit (.bool false)], args := [d1, d2] }
  | _ => none }
def SinkKeepsWrongFalsely : Prop := sinkKeepsRow.holds Tryz.pinned (OpenSpec.ofChange sinkKeepsWrong)

/-- 'limnographlaw24.SinkTakes': WHATEVER THE INPUT: true; the input reads as it did. -/
def sinkTakesSpec : ChangeSpec := { name := "sinkTakes", fn := fun _ => fun
  | [d1, d2, d3] => { results := [.lit (.bool true)], args := [d1, d2, d3] }
  | _ => none }
def sinkTakesRow : OpenClaim := { program := "ytdnfnjdkemohaaagreatdoor", sum := "3dd88fb98e3a55bf99a3669764fe85003db7331ca21c41c4fb9f99fcffef5c4d", func := "limnograph/limnographlaw24.SinkTakes", spec := "sinkTakes", inPlace := ["math.Float64frombits", "math/bits.Add64", "internal/abi.NoEscape", "internal/bytealg.IndexByteString", "internal/bytealg.IndexString"], unfollowed := true, recurses := true, named := ["limnograph/xor.none", "math/bits.deBruijn64tab", "internal/bytealg.MaxLen"], apart := false, laid := [("math/bits.deBruijn64tab", laid_math_bits_deBruijn64tab), ("limnograph/xor.none", laid_limnograph_xor_none)] }
def SinkTakesSaid : Prop := sinkTakesRow.holds Tryz.pinned (OpenSpec.ofChange sinkTakesSpec)

/-- ITS FALSE NEIGHBOUR: 'it returns false'. Refute it at one input. -/
def sinkTakesWrong : ChangeSpec := { name := "sinkTakes", fn := fun _ => fun
  | [d1, d2, d3] => { results := [.lit (.bool false)], args := [d1, d2, d3] }
  | _ => none }
def SinkTakesWrongFalsely : Prop := sinkTakesRow.holds Tryz.pinned (OpenSpec.ofChange sinkTakesWrong)

/-- 'limnographlaw22.StoreNames': WHATEVER THE INPUT: true; the input reads as it did. -/
def storeNamesSpec : ChangeSpec := { name := "storeNames", fn := fun _ => fun
  | [d1, d2] => { results := [.lit (.bool true)], args := [d1, d2] }
  | _ => none }
def storeNamesRow : OpenClaim := { program := "ytdnfnjdkemohaaagreatdoor", sum := "3dd88fb98e3a55bf99a3669764fe85003db7331ca21c41c4fb9f99fcffef5c4d", func := "limnograph/limnographlaw22.StoreNames", spec := "storeNames", inPlace := ["internal/abi.NoEscape", "internal/bytealg.MakeNoZero", "internal/bytealg.IndexByteString", "internal/bytealg.IndexString", "math.Float64frombits", "math/bits.Add64"], unfollowed := true, recurses := true, named := ["internal/bytealg.MaxLen", "limnograph/xor.none", "math/bits.deBruijn64tab"], apart := false, laid := [("math/bits.deBruijn64tab", laid_math_bits_deBruijn64tab), ("limnograph/xor.none", laid_limnograph_xor_none)] }
def StoreNamesSaid : Prop := storeNamesRow.holds Tryz.pinned (OpenSpec.ofChange storeNamesSpec)

/-- ITS FALSE NEIGHBOUR: 'it returns false'. Refute it at one input. -/
def storeNamesWrong : ChangeSpec := { name := "storeNames", fn := fun _ => fun
  | [d1, d2] => { results := [.lit (.bool false)], args := [d1, d2] }
  | _ => none }
def StoreNamesWrongFalsely : Prop := storeNamesRow.holds Tryz.pinned (OpenSpec.ofChange storeNamesWrong)

/-- 'limnographlaw22.StoreOpens': WHATEVER THE INPUT: true; the input reads as it did. -/
def storeOpensSpec : ChangeSpec := { name := "storeOpens", fn := fun _ => fun
  | [d1, d2, d3, d4, d5, d6] => { results := [.lit (.bool true)], args := [d1, d2, d3, d4, d5, d6] }
  | _ => none }
def storeOpensRow : OpenClaim := { program := "ytdnfnjdkemohaaagreatdoor", sum := "3dd88fb98e3a55bf99a3669764fe85003db7331ca21c41c4fb9f99fcffef5c4d", func := "limnograph/limnographlaw22.StoreOpens", spec := "storeOpens", inPlace := ["internal/abi.NoEscape", "internal/bytealg.MakeNoZero", "internal/bytealg.IndexByteString", "internal/bytealg.IndexString", "math.Float64frombits", "math/bits.Add64"], unfollowed := true, recurses := true, named := ["internal/bytealg.MaxLen", "limnograph/xor.none", "math/bits.deBruijn64tab"], apart := false, laid := [("math/bits.deBruijn64tab", laid_math_bits_deBruijn64tab), ("limnograph/xor.none", laid_limnograph_xor_none)] }
def StoreOpensSaid : Prop := storeOpensRow.holds Tryz.pinned (OpenSpec.ofChange storeOpensSpec)

/-- ITS FALSE NEIGHBOUR: 'it returns false'. Refute it at one input. -/
def storeOpensWrong : ChangeSpec := { name := "storeOpens", fn := fun _ => fun
  | [d1, d2, d3, d4, d5, d6] => { results := [.lit (.bool false)], args := [d1, d2, d3, d4, d5, d6] }
  | _ => none }
def StoreOpensWrongFalsely : Prop := storeOpensRow.holds Tryz.pinned (OpenSpec.ofChange storeOpensWrong)

/-- 'limnographlaw22.StoreTiles': WHATEVER THE INPUT: true; the input reads as it did. -/
def storeTilesSpec : ChangeSpec := { name := "storeTiles", fn := fun _ => fun
  | [d1, d2, d3] => { results := [.lit (.bool true)], args := [d1, d2, d3] }
  | _ => none }
def storeTilesRow : OpenClaim := { program := "ytdnfnjdkemohaaagreatdoor", sum := "3dd88fb98e3a55bf99a3669764fe85003db7331ca21c41c4fb9f99fcffef5c4d", func := "limnograph/limnographlaw22.StoreTiles", spec := "storeTiles", inPlace := ["internal/abi.NoEscape", "internal/bytealg.MakeNoZero", "internal/bytealg.IndexByteString", "internal/bytealg.IndexString", "math.Float64frombits", "math/bits.Add64"], unfollowed := true, recurses := true, named := ["internal/bytealg.MaxLen", "limnograph/xor.none", "math/bits.deBruijn64tab"], apart := false, laid := [("math/bits.deBruijn64tab", laid_math_bits_deBruijn64tab), ("limnograph/xor.none", laid_limnograph_xor_none)] }
def StoreTilesSaid : Prop := storeTilesRow.holds Tryz.pinned (OpenSpec.ofChange storeTilesSpec)

/-- ITS FALSE NEIGHBOUR: 'it returns false'. Refute it at one input. -/
def storeTilesWrong : ChangeSpec := { name := "storeTiles", fn := fun _ => fun
  | [d1, d2, d3] => { results := [.lit (.bool false)], args := [d1, d2, d3] }
  | _ => none }
def StoreTilesWrongFalsely : Prop := storeTilesRow.holds Tryz.pinned (OpenSpec.ofChange storeTilesWrong)

/-- 'limnographlaw22.StorePlays': WHATEVER THE INPUT: true; the input reads as it did. -/
def storePlaysSpec : ChangeSpec := { name := "storePlays", fn := fun _ => fun
  | [d1, d2] => { results := [.lit (.bool true)], args := [d1, d2] }
  | _ => none }
def storePlaysRow : OpenClaim := { program := "ytdnfnjdkemohaaagreatdoor", sum := "3dd88fb98e3a55bf99a3669764fe85003db7331ca21c41c4fb9f99fcffef5c4d", func := "limnograph/limnographlaw22.StorePlays", spec := "storePlays", inPlace := ["internal/abi.NoEscape", "internal/bytealg.MakeNoZero", "internal/bytealg.IndexByteString", "internal/bytealg.IndexString", "math.Float64frombits", "math/bits.Add64"], unfollowed := true, recurses := true, named := ["internal/bytealg.MaxLen", "limnograph/xor.none", "math/bits.deBruijn64tab"], apart := false, laid := [("math/bits.deBruijn64tab", laid_math_bits_deBruijn64tab), ("limnograph/xor.none", laid_limnograph_xor_none)] }
def StorePlaysSaid : Prop := storePlaysRow.holds Tryz.pinned (OpenSpec.ofChange storePlaysSpec)

/-- ITS FALSE NEIGHBOUR: 'it returns false'. Refute it at one input. -/
def storePlaysWrong : ChangeSpec := { name := "storePlays", fn := fun _ => fun
  | [d1, d2] => { results := [.lit (.bool false)], args := [d1, d2] }
  | _ => none }
def StorePlaysWrongFalsely : Prop := storePlaysRow.holds Tryz.pinned (OpenSpec.ofChange storePlaysWrong)

/- THE SECOND FORM. 'bulk': how many values and letters a reading holds, each counted each time it is reached (what is shared counts as often as it is met; a slice's spare places count too). A statement '..UptoSaid' is the law's where the arguments, and the package variables that the reading takes, are together of bulk at most 1048576: NARROWER than '..Said'. Prove '..Said' where nothing that the law and all that it calls make is longer than what came in: it says more and counts as full. Else prove '..UptoSaid'. A law counts once. -/
mutual
def uptoBulk {H : Type} : DataW H → Nat
  | .lit (.string bytes) => bytes.length + 1
  | .lit _ => 1
  | .nil => 1
  | .ptr d => uptoBulk d + 1
  | .slice elems spare => uptoBulkAll elems + uptoBulkAll spare + 1
  | .agg parts => uptoBulkAll parts + 1
  | .iface _ d => uptoBulk d + 1
  | .map entries => uptoBulkEntries entries + 1
  | .held _ => 1
def uptoBulkAll {H : Type} : List (DataW H) → Nat
  | [] => 0
  | d :: r => uptoBulk d + uptoBulkAll r
def uptoBulkEntries {H : Type} : List (Lit × DataW H) → Nat
  | [] => 0
  | x :: r => uptoBulkEntry x + uptoBulkEntries r
def uptoBulkEntry {H : Type} : Lit × DataW H → Nat
  | (.string bytes, d) => bytes.length + uptoBulk d + 1
  | (_, d) => uptoBulk d + 1
 end
def uptoSmall : (H : Type) → List (DataW H) → Bool := fun _ ds => decide (uptoBulkAll ds ≤ 1048576)
def OpenSpec.upto (s : _root_.Go.ChangeSpec) : _root_.Go.OpenSpec := { _root_.Go.OpenSpec.ofChange s with cond := some uptoSmall }

/-- 'limnographlaw21.SegmentReads', WHERE WHAT IT READS IS OF BULK AT MOST 1048576: true; the input reads as it did. -/
def segmentReadsUptoRow : OpenClaim := { program := "ytdnfnjdkemohaaagreatdoor", sum := "3dd88fb98e3a55bf99a3669764fe85003db7331ca21c41c4fb9f99fcffef5c4d", func := "limnograph/limnographlaw21.SegmentReads", spec := "segmentReads", inPlace := ["math.Float64frombits", "math/bits.Add64", "internal/abi.NoEscape", "internal/bytealg.IndexByteString", "internal/bytealg.IndexString"], unfollowed := true, recurses := true, named := ["limnograph/xor.none", "math/bits.deBruijn64tab", "internal/bytealg.MaxLen"], apart := false, laid := [("math/bits.deBruijn64tab", laid_math_bits_deBruijn64tab), ("limnograph/xor.none", laid_limnograph_xor_none)], narrowed := true }
def SegmentReadsUptoSaid : Prop := segmentReadsUptoRow.holds Tryz.pinned (OpenSpec.upto segmentReadsSpec)

/-- 'limnographlaw21.SegmentBack', WHERE WHAT IT READS IS OF BULK AT MOST 1048576: true; the input reads as it did. -/
def segmentBackUptoRow : OpenClaim := { program := "ytdnfnjdkemohaaagreatdoor", sum := "3dd88fb98e3a55bf99a3669764fe85003db7331ca21c41c4fb9f99fcffef5c4d", func := "limnograph/limnographlaw21.SegmentBack", spec := "segmentBack", inPlace := ["math.Float64frombits", "math/bits.Add64", "internal/abi.NoEscape", "internal/bytealg.IndexByteString", "internal/bytealg.IndexString"], unfollowed := true, recurses := true, named := ["limnograph/xor.none", "math/bits.deBruijn64tab", "internal/bytealg.MaxLen"], apart := false, laid := [("math/bits.deBruijn64tab", laid_math_bits_deBruijn64tab), ("limnograph/xor.none", laid_limnograph_xor_none)], narrowed := true }
def SegmentBackUptoSaid : Prop := segmentBackUptoRow.holds Tryz.pinned (OpenSpec.upto segmentBackSpec)

/-- 'limnographlaw21.SegmentMost', WHERE WHAT IT READS IS OF BULK AT MOST 1048576: true; the input reads as it did. -/
def segmentMostUptoRow : OpenClaim := { program := "ytdnfnjdkemohaaagreatdoor", sum := "3dd88fb98e3a55bf99a3669764fe85003db7331ca21c41c4fb9f99fcffef5c4d", func := "limnograph/limnographlaw21.SegmentMost", spec := "segmentMost", inPlace := ["math.Float64frombits", "math/bits.Add64", "internal/abi.NoEscape", "internal/bytealg.IndexByteString", "internal/bytealg.IndexString"], unfollowed := true, recurses := true, named := ["limnograph/xor.none", "math/bits.deBruijn64tab", "internal/bytealg.MaxLen"], apart := false, laid := [("math/bits.deBruijn64tab", laid_math_bits_deBruijn64tab), ("limnograph/xor.none", laid_limnograph_xor_none)], narrowed := true }
def SegmentMostUptoSaid : Prop := segmentMostUptoRow.holds Tryz.pinned (OpenSpec.upto segmentMostSpec)

/-- 'limnographlaw24.SinkOrder', WHERE WHAT IT READS IS OF BULK AT MOST 1048576: true; the input reads as it did. -/
def sinkOrderUptoRow : OpenClaim := { program := "ytdnfnjdkemohaaagreatdoor", sum := "3dd88fb98e3a55bf99a3669764fe85003db7331ca21c41c4fb9f99fcffef5c4d", func := "limnograph/limnographlaw24.SinkOrder", spec := "sinkOrder", inPlace := ["math.Float64frombits", "math/bits.Add64", "internal/abi.NoEscape", "internal/bytealg.IndexByteString", "internal/bytealg.IndexString"], unfollowed := true, recurses := true, named := ["limnograph/xor.none", "math/bits.deBruijn64tab", "internal/bytealg.MaxLen"], apart := false, laid := [("math/bits.deBruijn64tab", laid_math_bits_deBruijn64tab), ("limnograph/xor.none", laid_limnograph_xor_none)], narrowed := true }
def SinkOrderUptoSaid : Prop := sinkOrderUptoRow.holds Tryz.pinned (OpenSpec.upto sinkOrderSpec)

/-- 'limnographlaw24.SinkKeeps', WHERE WHAT IT READS IS OF BULK AT MOST 1048576: true; the input reads as it did. -/
def sinkKeepsUptoRow : OpenClaim := { program := "ytdnfnjdkemohaaagreatdoor", sum := "3dd88fb98e3a55bf99a3669764fe85003db7331ca21c41c4fb9f99fcffef5c4d", func := "limnograph/limnographlaw24.SinkKeeps", spec := "sinkKeeps", inPlace := ["math.Float64frombits", "math/bits.Add64", "internal/abi.NoEscape", "internal/bytealg.IndexByteString", "internal/bytealg.IndexString"], unfollowed := true, recurses := true, named := ["limnograph/xor.none", "math/bits.deBruijn64tab", "internal/bytealg.MaxLen"], apart := false, laid := [("math/bits.deBruijn64tab", laid_math_bits_deBruijn64tab), ("limnograph/xor.none", laid_limnograph_xor_none)], narrowed := true }
def SinkKeepsUptoSaid : Prop := sinkKeepsUptoRow.holds Tryz.pinned (OpenSpec.upto sinkKeepsSpec)

/-- 'limnographlaw24.SinkTakes', WHERE WHAT IT READS IS OF BULK AT MOST 1048576: true; the input reads as it did. -/
def sinkTakesUptoRow : OpenClaim := { program := "ytdnfnjdkemohaaagreatdoor", sum := "3dd88fb98e3a55bf99a3669764fe85003db7331ca21c41c4fb9f99fcffef5c4d", func := "limnograph/limnographlaw24.SinkTakes", spec := "sinkTakes", inPlace := ["math.Float64frombits", "math/bits.Add64", "internal/abi.NoEscape", "internal/bytealg.IndexByteString", "internal/bytealg.IndexString"], unfollowed := true, recurses := true, named := ["limnograph/xor.none", "math/bits.deBruijn64tab", "internal/bytealg.MaxLen"], apart := false, laid := [("math/bits.deBruijn64tab", laid_math_bits_deBruijn64tab), ("limnograph/xor.none", laid_limnograph_xor_none)], narrowed := true }
def SinkTakesUptoSaid : Prop := sinkTakesUptoRow.holds Tryz.pinned (OpenSpec.upto sinkTakesSpec)

/-- 'limnographlaw22.StoreNames', WHERE WHAT IT READS IS OF BULK AT MOST 1048576: true; the input reads as it did. -/
def storeNamesUptoRow : OpenClaim := { program := "ytdnfnjdkemohaaagreatdoor", sum := "3dd88fb98e3a55bf99a3669764fe85003db7331ca21c41c4fb9f99fcffef5c4d", func := "limnograph/limnographlaw22.StoreNames", spec := "storeNames", inPlace := ["internal/abi.NoEscape", "internal/bytealg.MakeNoZero", "internal/bytealg.IndexByteString", "internal/bytealg.IndexString", "math.Float64frombits", "math/bits.Add64"], unfollowed := true, recurses := true, named := ["internal/bytealg.MaxLen", "limnograph/xor.none", "math/bits.deBruijn64tab"], apart := false, laid := [("math/bits.deBruijn64tab", laid_math_bits_deBruijn64tab), ("limnograph/xor.none", laid_limnograph_xor_none)], narrowed := true }
def StoreNamesUptoSaid : Prop := storeNamesUptoRow.holds Tryz.pinned (OpenSpec.upto storeNamesSpec)

/-- 'limnographlaw22.StoreOpens', WHERE WHAT IT READS IS OF BULK AT MOST 1048576: true; the input reads as it did. -/
def storeOpensUptoRow : OpenClaim := { program := "ytdnfnjdkemohaaagreatdoor", sum := "3dd88fb98e3a55bf99a3669764fe85003db7331ca21c41c4fb9f99fcffef5c4d", func := "limnograph/limnographlaw22.StoreOpens", spec := "storeOpens", inPlace := ["internal/abi.NoEscape", "internal/bytealg.MakeNoZero", "internal/bytealg.IndexByteString", "internal/bytealg.IndexString", "math.Float64frombits", "math/bits.Add64"], unfollowed := true, recurses := true, named := ["internal/bytealg.MaxLen", "limnograph/xor.none", "math/bits.deBruijn64tab"], apart := false, laid := [("math/bits.deBruijn64tab", laid_math_bits_deBruijn64tab), ("limnograph/xor.none", laid_limnograph_xor_none)], narrowed := true }
def StoreOpensUptoSaid : Prop := storeOpensUptoRow.holds Tryz.pinned (OpenSpec.upto storeOpensSpec)

/-- 'limnographlaw22.StoreTiles', WHERE WHAT IT READS IS OF BULK AT MOST 1048576: true; the input reads as it did. -/
def storeTilesUptoRow : OpenClaim := { program := "ytdnfnjdkemohaaagreatdoor", sum := "3dd88fb98e3a55bf99a3669764fe85003db7331ca21c41c4fb9f99fcffef5c4d", func := "limnograph/limnographlaw22.StoreTiles", spec := "storeTiles", inPlace := ["internal/abi.NoEscape", "internal/bytealg.MakeNoZero", "internal/bytealg.IndexByteString", "internal/bytealg.IndexString", "math.Float64frombits", "math/bits.Add64"], unfollowed := true, recurses := true, named := ["internal/bytealg.MaxLen", "limnograph/xor.none", "math/bits.deBruijn64tab"], apart := false, laid := [("math/bits.deBruijn64tab", laid_math_bits_deBruijn64tab), ("limnograph/xor.none", laid_limnograph_xor_none)], narrowed := true }
def StoreTilesUptoSaid : Prop := storeTilesUptoRow.holds Tryz.pinned (OpenSpec.upto storeTilesSpec)

/-- 'limnographlaw22.StorePlays', WHERE WHAT IT READS IS OF BULK AT MOST 1048576: true; the input reads as it did. -/
def storePlaysUptoRow : OpenClaim := { program := "ytdnfnjdkemohaaagreatdoor", sum := "3dd88fb98e3a55bf99a3669764fe85003db7331ca21c41c4fb9f99fcffef5c4d", func := "limnograph/limnographlaw22.StorePlays", spec := "storePlays", inPlace := ["internal/abi.NoEscape", "internal/bytealg.MakeNoZero", "internal/bytealg.IndexByteString", "internal/bytealg.IndexString", "math.Float64frombits", "math/bits.Add64"], unfollowed := true, recurses := true, named := ["internal/bytealg.MaxLen", "limnograph/xor.none", "math/bits.deBruijn64tab"], apart := false, laid := [("math/bits.deBruijn64tab", laid_math_bits_deBruijn64tab), ("limnograph/xor.none", laid_limnograph_xor_none)], narrowed := true }
def StorePlaysUptoSaid : Prop := storePlaysUptoRow.holds Tryz.pinned (OpenSpec.upto storePlaysSpec)

end Rows
end Go.Proofs.YtdnfnjdkemohaaaGreatDoor
