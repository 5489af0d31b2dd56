/-
  No cell of these rows narrows 'for every input' (looked for: loops, veiled, ifaces, maps, wideKeys, modest, calm, conditions, laid).
  DERIVED. THE GIVEN ROWS OF THIS SEAT. 19 by the template 'for every input the law returns true; each argument reads behind the call as it read before'; 0 by the template 'total and deterministic' (their statements: YtflnhihdbhjlnaaTotals.lean).
  GIVEN WITH THE SEED: the statements are not yours to turn. If you find one false, say at which input.
  Laid BY PROGRAM, IN A SANDBOX (cutbox-rows.mjs): the forced cells as the released guide's own fill.sh prints them over the translation 79e7e91b31b1be44… (all of the seat's roots in one cut). By AI agents, Wed Nov 11 2026. No macro, syntax, notation, axiom, sorry.
-/
import Derived.Test.YtflnhihdbhjlnaaChecked
import GoSem.Claim
import GoSem.ClaimJoined
import GoSem.ClaimMapViews
import Derived.JoinedTies
import Derived.KernelRfl
namespace Go.Proofs.Ytflnhihdbhjlnaa
/- THE CELL 'sum', in the pinned program and in every row, IS THE sha256 OF THE DUMP (.gsa) THAT YtflnhihdbhjlnaaProg.lean LOADS. Nothing in Lean hashes anything: it is a label: what it is worth is what the hold of that sum in a sandbox is worth. -/
noncomputable def Try.pinned : Pinned := { name := "ytflnhihdbhjlnaa", sum := "79e7e91b31b1be44bc2cca5098522cf61ec716f413d90a9978be9bba8f48c62f", checked := Try.checked }
namespace Rows
def none {H : Type} : Left H := { results := [], args := [] }

/-- 'drumlinlaw03.DiskTwins': WHATEVER THE INPUT: true; the input reads as it did. -/
def diskTwinsSpec : ChangeSpec := { name := "diskTwins", fn := fun _ => fun
  | [d1, d2, d3] => { results := [.lit (.bool true)], args := [d1, d2, d3] }
  | _ => none }
def diskTwinsRow : OpenClaim := { program := "ytflnhihdbhjlnaa", sum := "79e7e91b31b1be44bc2cca5098522cf61ec716f413d90a9978be9bba8f48c62f", func := "drumlin/drumlinlaw03.DiskTwins", spec := "diskTwins", unfollowed := true, recurses := true, apart := false }
def DiskTwinsSaid : Prop := diskTwinsRow.holds Try.pinned (OpenSpec.ofChange diskTwinsSpec)

/-- ITS FALSE NEIGHBOUR: 'it returns false'. Refute it at one input. -/
def diskTwinsWrong : ChangeSpec := { name := "diskTwins", fn := fun _ => fun
  | [d1, d2, d3] => { results := [.lit (.bool false)], args := [d1, d2, d3] }
  | _ => none }
def DiskTwinsWrongFalsely : Prop := diskTwinsRow.holds Try.pinned (OpenSpec.ofChange diskTwinsWrong)

/-- 'drumlinlaw16.CleanTells': WHATEVER THE INPUT: true; the input reads as it did. -/
def cleanTellsSpec : ChangeSpec := { name := "cleanTells", fn := fun _ => fun
  | [d1, d2] => { results := [.lit (.bool true)], args := [d1, d2] }
  | _ => none }
def cleanTellsRow : OpenClaim := { program := "ytflnhihdbhjlnaa", sum := "79e7e91b31b1be44bc2cca5098522cf61ec716f413d90a9978be9bba8f48c62f", func := "drumlin/drumlinlaw16.CleanTells", spec := "cleanTells", inPlace := ["slices.overlaps[int]"], apart := false }
def CleanTellsSaid : Prop := cleanTellsRow.holds Try.pinned (OpenSpec.ofChange cleanTellsSpec)

/-- ITS FALSE NEIGHBOUR: 'it returns false'. Refute it at one input. -/
def cleanTellsWrong : ChangeSpec := { name := "cleanTells", fn := fun _ => fun
  | [d1, d2] => { results := [.lit (.bool false)], args := [d1, d2] }
  | _ => none }
def CleanTellsWrongFalsely : Prop := cleanTellsRow.holds Try.pinned (OpenSpec.ofChange cleanTellsWrong)

/-- 'drumlintop.DrumlinTables': WHATEVER THE INPUT: true; the input reads as it did. -/
def drumlinTablesSpec : ChangeSpec := { name := "drumlinTables", fn := fun _ => fun
  | [d1, d2] => { results := [.lit (.bool true)], args := [d1, d2] }
  | _ => none }
def drumlinTablesRow : OpenClaim := { program := "ytflnhihdbhjlnaa", sum := "79e7e91b31b1be44bc2cca5098522cf61ec716f413d90a9978be9bba8f48c62f", func := "drumlin/drumlintop.DrumlinTables", spec := "drumlinTables", unfollowed := true, recurses := true, apart := false }
def DrumlinTablesSaid : Prop := drumlinTablesRow.holds Try.pinned (OpenSpec.ofChange drumlinTablesSpec)

/-- ITS FALSE NEIGHBOUR: 'it returns false'. Refute it at one input. -/
def drumlinTablesWrong : ChangeSpec := { name := "drumlinTables", fn := fun _ => fun
  | [d1, d2] => { results := [.lit (.bool false)], args := [d1, d2] }
  | _ => none }
def DrumlinTablesWrongFalsely : Prop := drumlinTablesRow.holds Try.pinned (OpenSpec.ofChange drumlinTablesWrong)

/-- 'drumlinlaw05.CodecInodes': WHATEVER THE INPUT: true; the input reads as it did. -/
def codecInodesSpec : ChangeSpec := { name := "codecInodes", fn := fun _ => fun
  | [d1, d2] => { results := [.lit (.bool true)], args := [d1, d2] }
  | _ => none }
def codecInodesRow : OpenClaim := { program := "ytflnhihdbhjlnaa", sum := "79e7e91b31b1be44bc2cca5098522cf61ec716f413d90a9978be9bba8f48c62f", func := "drumlin/drumlinlaw05.CodecInodes", spec := "codecInodes", unfollowed := true, recurses := true, apart := false }
def CodecInodesSaid : Prop := codecInodesRow.holds Try.pinned (OpenSpec.ofChange codecInodesSpec)

/-- ITS FALSE NEIGHBOUR: 'it returns false'. Refute it at one input. -/
def codecInodesWrong : ChangeSpec := { name := "codecInodes", fn := fun _ => fun
  | [d1, d2] => { results := [.lit (.bool false)], args := [d1, d2] }
  | _ => none }
def CodecInodesWrongFalsely : Prop := codecInodesRow.holds Try.pinned (OpenSpec.ofChange codecInodesWrong)

/-- 'drumlinlaw05.CodecHeaders': WHATEVER THE INPUT: true; the input reads as it did. -/
def codecHeadersSpec : ChangeSpec := { name := "codecHeaders", fn := fun _ => fun
  | [d1, d2] => { results := [.lit (.bool true)], args := [d1, d2] }
  | _ => none }
def codecHeadersRow : OpenClaim := { program := "ytflnhihdbhjlnaa", sum := "79e7e91b31b1be44bc2cca5098522cf61ec716f413d90a9978be9bba8f48c62f", func := "drumlin/drumlinlaw05.CodecHeaders", spec := "codecHeaders", unfollowed := true, recurses := true, apart := false }
def CodecHeadersSaid : Prop := codecHeadersRow.holds Try.pinned (OpenSpec.ofChange codecHeadersSpec)

/-- ITS FALSE NEIGHBOUR: 'it returns false'. Refute it at one input. -/
def codecHeadersWrong : ChangeSpec := { name := "codecHeaders", fn := fun _ => fun
  | [d1, d2] => { results := [.lit (.bool false)], args := [d1, d2] }
  | _ => none }
def CodecHeadersWrongFalsely : Prop := codecHeadersRow.holds Try.pinned (OpenSpec.ofChange codecHeadersWrong)

/-- 'drumlinlaw05.CodecPointers': WHATEVER THE INPUT: true; the input reads as it did. -/
def codecPointersSpec : ChangeSpec := { name := "codecPointers", fn := fun _ => fun
  | [d1, d2] => { results := [.lit (.bool true)], args := [d1, d2] }
  | _ => none }
def codecPointersRow : OpenClaim := { program := "ytflnhihdbhjlnaa", sum := "79e7e91b31b1be44bc2cca5098522cf61ec716f413d90a9978be9bba8f48c62f", func := "drumlin/drumlinlaw05.CodecPointers", spec := "codecPointers", unfollowed := true, recurses := true, apart := false }
def CodecPointersSaid : Prop := codecPointersRow.holds Try.pinned (OpenSpec.ofChange codecPointersSpec)

/-- ITS FALSE NEIGHBOUR: 'it returns false'. Refute it at one input. -/
def codecPointersWrong : ChangeSpec := { name := "codecPointers", fn := fun _ => fun
  | [d1, d2] => { results := [.lit (.bool false)], args := [d1, d2] }
  | _ => none }
def CodecPointersWrongFalsely : Prop := codecPointersRow.holds Try.pinned (OpenSpec.ofChange codecPointersWrong)

/-- 'drumlinlaw05.CodecUses': WHATEVER THE INPUT: true; the input reads as it did. -/
def codecUsesSpec : ChangeSpec := { name := "codecUses", fn := fun _ => fun
  | [d1, d2] => { results := [.lit (.bool true)], args := [d1, d2] }
  | _ => none }
def codecUsesRow : OpenClaim := { program := "ytflnhihdbhjlnaa", sum := "79e7e91b31b1be44bc2cca5098522cf61ec716f413d90a9978be9bba8f48c62f", func := "drumlin/drumlinlaw05.CodecUses", spec := "codecUses", unfollowed := true, recurses := true, apart := false }
def CodecUsesSaid : Prop := codecUsesRow.holds Try.pinned (OpenSpec.ofChange codecUsesSpec)

/-- ITS FALSE NEIGHBOUR: 'it returns false'. Refute it at one input. -/
def codecUsesWrong : ChangeSpec := { name := "codecUses", fn := fun _ => fun
  | [d1, d2] => { results := [.lit (.bool false)], args := [d1, d2] }
  | _ => none }
def CodecUsesWrongFalsely : Prop := codecUsesRow.holds Try.pinned (OpenSpec.ofChange codecUsesWrong)

/-- 'drumlinlaw09.UsageParts': WHATEVER THE INPUT: true; the input reads as it did. -/
def usagePartsSpec : ChangeSpec := { name := "usageParts", fn := fun _ => fun
  | [d1, d2] => { results := [.lit (.bool true)], args := [d1, d2] }
  | _ => none }
def usagePartsRow : OpenClaim := { program := "ytflnhihdbhjlnaa", sum := "79e7e91b31b1be44bc2cca5098522cf61ec716f413d90a9978be9bba8f48c62f", func := "drumlin/drumlinlaw09.UsageParts", spec := "usageParts", unfollowed := true, recurses := true, apart := false }
def UsagePartsSaid : Prop := usagePartsRow.holds Try.pinned (OpenSpec.ofChange usagePartsSpec)

/-- ITS FALSE NEIGHBOUR: 'it returns false'. Refute it at one input. -/
def usagePartsWrong : ChangeSpec := { name := "usageParts", fn := fun _ => fun
  | [d1, d2] => { results := [.lit (.bool false)], args := [d1, d2] }
  | _ => none }
def UsagePartsWrongFalsely : Prop := usagePartsRow.holds Try.pinned (OpenSpec.ofChange usagePartsWrong)

/-- 'drumlinlaw05.CodecSlots': WHATEVER THE INPUT: true; the input reads as it did. -/
def codecSlotsSpec : ChangeSpec := { name := "codecSlots", fn := fun _ => fun
  | [d1, d2] => { results := [.lit (.bool true)], args := [d1, d2] }
  | _ => none }
def codecSlotsRow : OpenClaim := { program := "ytflnhihdbhjlnaa", sum := "79e7e91b31b1be44bc2cca5098522cf61ec716f413d90a9978be9bba8f48c62f", func := "drumlin/drumlinlaw05.CodecSlots", spec := "codecSlots", unfollowed := true, recurses := true, apart := false }
def CodecSlotsSaid : Prop := codecSlotsRow.holds Try.pinned (OpenSpec.ofChange codecSlotsSpec)

/-- ITS FALSE NEIGHBOUR: 'it returns false'. Refute it at one input. -/
def codecSlotsWrong : ChangeSpec := { name := "codecSlots", fn := fun _ => fun
  | [d1, d2] => { results := [.lit (.bool false)], args := [d1, d2] }
  | _ => none }
def CodecSlotsWrongFalsely : Prop := codecSlotsRow.holds Try.pinned (OpenSpec.ofChange codecSlotsWrong)

/-- 'drumlinlaw05.CodecRecords': WHATEVER THE INPUT: true; the input reads as it did. -/
def codecRecordsSpec : ChangeSpec := { name := "codecRecords", fn := fun _ => fun
  | [d1, d2] => { results := [.lit (.bool true)], args := [d1, d2] }
  | _ => none }
def codecRecordsRow : OpenClaim := { program := "ytflnhihdbhjlnaa", sum := "79e7e91b31b1be44bc2cca5098522cf61ec716f413d90a9978be9bba8f48c62f", func := "drumlin/drumlinlaw05.CodecRecords", spec := "codecRecords", unfollowed := true, recurses := true, apart := false }
def CodecRecordsSaid : Prop := codecRecordsRow.holds Try.pinned (OpenSpec.ofChange codecRecordsSpec)

/-- ITS FALSE NEIGHBOUR: 'it returns false'. Refute it at one input. -/
def codecRecordsWrong : ChangeSpec := { name := "codecRecords", fn := fun _ => fun
  | [d1, d2] => { results := [.lit (.bool false)], args := [d1, d2] }
  | _ => none }
def CodecRecordsWrongFalsely : Prop := codecRecordsRow.holds Try.pinned (OpenSpec.ofChange codecRecordsWrong)

/-- 'drumlinlaw05.CodecSummaries': WHATEVER THE INPUT: true; the input reads as it did. -/
def codecSummariesSpec : ChangeSpec := { name := "codecSummaries", fn := fun _ => fun
  | [d1, d2] => { results := [.lit (.bool true)], args := [d1, d2] }
  | _ => none }
def codecSummariesRow : OpenClaim := { program := "ytflnhihdbhjlnaa", sum := "79e7e91b31b1be44bc2cca5098522cf61ec716f413d90a9978be9bba8f48c62f", func := "drumlin/drumlinlaw05.CodecSummaries", spec := "codecSummaries", unfollowed := true, recurses := true, apart := false }
def CodecSummariesSaid : Prop := codecSummariesRow.holds Try.pinned (OpenSpec.ofChange codecSummariesSpec)

/-- ITS FALSE NEIGHBOUR: 'it returns false'. Refute it at one input. -/
def codecSummariesWrong : ChangeSpec := { name := "codecSummaries", fn := fun _ => fun
  | [d1, d2] => { results := [.lit (.bool false)], args := [d1, d2] }
  | _ => none }
def CodecSummariesWrongFalsely : Prop := codecSummariesRow.holds Try.pinned (OpenSpec.ofChange codecSummariesWrong)

/-- 'drumlinlaw09.UsageOrders': WHATEVER THE INPUT: true; the input reads as it did. -/
def usageOrdersSpec : ChangeSpec := { name := "usageOrders", fn := fun _ => fun
  | [d1, d2, d3] => { results := [.lit (.bool true)], args := [d1, d2, d3] }
  | _ => none }
def usageOrdersRow : OpenClaim := { program := "ytflnhihdbhjlnaa", sum := "79e7e91b31b1be44bc2cca5098522cf61ec716f413d90a9978be9bba8f48c62f", func := "drumlin/drumlinlaw09.UsageOrders", spec := "usageOrders", unfollowed := true, recurses := true, apart := false }
def UsageOrdersSaid : Prop := usageOrdersRow.holds Try.pinned (OpenSpec.ofChange usageOrdersSpec)

/-- ITS FALSE NEIGHBOUR: 'it returns false'. Refute it at one input. -/
def usageOrdersWrong : ChangeSpec := { name := "usageOrders", fn := fun _ => fun
  | [d1, d2, d3] => { results := [.lit (.bool false)], args := [d1, d2, d3] }
  | _ => none }
def UsageOrdersWrongFalsely : Prop := usageOrdersRow.holds Try.pinned (OpenSpec.ofChange usageOrdersWrong)

/-- 'drumlinlaw09.UsageLoads': WHATEVER THE INPUT: true; the input reads as it did. -/
def usageLoadsSpec : ChangeSpec := { name := "usageLoads", fn := fun _ => fun
  | [d1, d2] => { results := [.lit (.bool true)], args := [d1, d2] }
  | _ => none }
def usageLoadsRow : OpenClaim := { program := "ytflnhihdbhjlnaa", sum := "79e7e91b31b1be44bc2cca5098522cf61ec716f413d90a9978be9bba8f48c62f", func := "drumlin/drumlinlaw09.UsageLoads", spec := "usageLoads", unfollowed := true, recurses := true, apart := false }
def UsageLoadsSaid : Prop := usageLoadsRow.holds Try.pinned (OpenSpec.ofChange usageLoadsSpec)

/-- ITS FALSE NEIGHBOUR: 'it returns false'. Refute it at one input. -/
def usageLoadsWrong : ChangeSpec := { name := "usageLoads", fn := fun _ => fun
  | [d1, d2] => { results := [.lit (.bool false)], args := [d1, d2] }
  | _ => none }
def UsageLoadsWrongFalsely : Prop := usageLoadsRow.holds Try.pinned (OpenSpec.ofChange usageLoadsWrong)

/-- 'drumlinlaw09.UsagePlays': WHATEVER THE INPUT: true; the input reads as it did. -/
def usagePlaysSpec : ChangeSpec := { name := "usagePlays", fn := fun _ => fun
  | [d1, d2, d3] => { results := [.lit (.bool true)], args := [d1, d2, d3] }
  | _ => none }
def usagePlaysRow : OpenClaim := { program := "ytflnhihdbhjlnaa", sum := "79e7e91b31b1be44bc2cca5098522cf61ec716f413d90a9978be9bba8f48c62f", func := "drumlin/drumlinlaw09.UsagePlays", spec := "usagePlays", unfollowed := true, recurses := true, apart := false }
def UsagePlaysSaid : Prop := usagePlaysRow.holds Try.pinned (OpenSpec.ofChange usagePlaysSpec)

/-- ITS FALSE NEIGHBOUR: 'it returns false'. Refute it at one input. -/
def usagePlaysWrong : ChangeSpec := { name := "usagePlays", fn := fun _ => fun
  | [d1, d2, d3] => { results := [.lit (.bool false)], args := [d1, d2, d3] }
  | _ => none }
def UsagePlaysWrongFalsely : Prop := usagePlaysRow.holds Try.pinned (OpenSpec.ofChange usagePlaysWrong)

/-- 'drumlinlaw10.ImapLoads': WHATEVER THE INPUT: true; the input reads as it did. -/
def imapLoadsSpec : ChangeSpec := { name := "imapLoads", fn := fun _ => fun
  | [d1, d2] => { results := [.lit (.bool true)], args := [d1, d2] }
  | _ => none }
def imapLoadsRow : OpenClaim := { program := "ytflnhihdbhjlnaa", sum := "79e7e91b31b1be44bc2cca5098522cf61ec716f413d90a9978be9bba8f48c62f", func := "drumlin/drumlinlaw10.ImapLoads", spec := "imapLoads", unfollowed := true, recurses := true, apart := false }
def ImapLoadsSaid : Prop := imapLoadsRow.holds Try.pinned (OpenSpec.ofChange imapLoadsSpec)

/-- ITS FALSE NEIGHBOUR: 'it returns false'. Refute it at one input. -/
def imapLoadsWrong : ChangeSpec := { name := "imapLoads", fn := fun _ => fun
  | [d1, d2] => { results := [.lit (.bool false)], args := [d1, d2] }
  | _ => none }
def ImapLoadsWrongFalsely : Prop := imapLoadsRow.holds Try.pinned (OpenSpec.ofChange imapLoadsWrong)

/-- 'drumlinlaw09.UsageRanks': WHATEVER THE INPUT: true; the input reads as it did. -/
def usageRanksSpec : ChangeSpec := { name := "usageRanks", fn := fun _ => fun
  | [d] => { results := [.lit (.bool true)], args := [d] }
  | _ => none }
def usageRanksRow : OpenClaim := { program := "ytflnhihdbhjlnaa", sum := "79e7e91b31b1be44bc2cca5098522cf61ec716f413d90a9978be9bba8f48c62f", func := "drumlin/drumlinlaw09.UsageRanks", spec := "usageRanks", inPlace := ["math.Float64frombits", "slices.overlaps[int]"], unfollowed := true, recurses := true, apart := false }
def UsageRanksSaid : Prop := usageRanksRow.holds Try.pinned (OpenSpec.ofChange usageRanksSpec)

/-- ITS FALSE NEIGHBOUR: 'it returns false'. Refute it at one input. -/
def usageRanksWrong : ChangeSpec := { name := "usageRanks", fn := fun _ => fun
  | [d] => { results := [.lit (.bool false)], args := [d] }
  | _ => none }
def UsageRanksWrongFalsely : Prop := usageRanksRow.holds Try.pinned (OpenSpec.ofChange usageRanksWrong)

/-- 'drumlinlaw11.SlogPlans': WHATEVER THE INPUT: true; the input reads as it did. -/
def slogPlansSpec : ChangeSpec := { name := "slogPlans", fn := fun _ => fun
  | [d1, d2, d3] => { results := [.lit (.bool true)], args := [d1, d2, d3] }
  | _ => none }
def slogPlansRow : OpenClaim := { program := "ytflnhihdbhjlnaa", sum := "79e7e91b31b1be44bc2cca5098522cf61ec716f413d90a9978be9bba8f48c62f", func := "drumlin/drumlinlaw11.SlogPlans", spec := "slogPlans", unfollowed := true, recurses := true, apart := false }
def SlogPlansSaid : Prop := slogPlansRow.holds Try.pinned (OpenSpec.ofChange slogPlansSpec)

/-- ITS FALSE NEIGHBOUR: 'it returns false'. Refute it at one input. -/
def slogPlansWrong : ChangeSpec := { name := "slogPlans", fn := fun _ => fun
  | [d1, d2, d3] => { results := [.lit (.bool false)], args := [d1, d2, d3] }
  | _ => none }
def SlogPlansWrongFalsely : Prop := slogPlansRow.holds Try.pinned (OpenSpec.ofChange slogPlansWrong)

/-- 'drumlinlaw11.SlogFakes': WHATEVER THE INPUT: true; the input reads as it did. -/
def slogFakesSpec : ChangeSpec := { name := "slogFakes", fn := fun _ => fun
  | [d1, d2, d3] => { results := [.lit (.bool true)], args := [d1, d2, d3] }
  | _ => none }
def slogFakesRow : OpenClaim := { program := "ytflnhihdbhjlnaa", sum := "79e7e91b31b1be44bc2cca5098522cf61ec716f413d90a9978be9bba8f48c62f", func := "drumlin/drumlinlaw11.SlogFakes", spec := "slogFakes", unfollowed := true, recurses := true, apart := false }
def SlogFakesSaid : Prop := slogFakesRow.holds Try.pinned (OpenSpec.ofChange slogFakesSpec)

/-- ITS FALSE NEIGHBOUR: 'it returns false'. Refute it at one input. -/
def slogFakesWrong : ChangeSpec := { name := "slogFakes", fn := fun _ => fun
  | [d1, d2, d3] => { results := [.lit (.bool false)], args := [d1, d2, d3] }
  | _ => none }
def SlogFakesWrongFalsely : Prop := slogFakesRow.holds Try.pinned (OpenSpec.ofChange slogFakesWrong)

/-- 'drumlinlaw11.SlogWhole': WHATEVER THE INPUT: true; the input reads as it did. -/
def slogWholeSpec : ChangeSpec := { name := "slogWhole", fn := fun _ => fun
  | [d1, d2] => { results := [.lit (.bool true)], args := [d1, d2] }
  | _ => none }
def slogWholeRow : OpenClaim := { program := "ytflnhihdbhjlnaa", sum := "79e7e91b31b1be44bc2cca5098522cf61ec716f413d90a9978be9bba8f48c62f", func := "drumlin/drumlinlaw11.SlogWhole", spec := "slogWhole", unfollowed := true, recurses := true, apart := false }
def SlogWholeSaid : Prop := slogWholeRow.holds Try.pinned (OpenSpec.ofChange slogWholeSpec)

/-- ITS FALSE NEIGHBOUR: 'it returns false'. Refute it at one input. -/
def slogWholeWrong : ChangeSpec := { name := "slogWhole", fn := fun _ => fun
  | [d1, d2] => { results := [.lit (.bool false)], args := [d1, d2] }
  | _ => none }
def SlogWholeWrongFalsely : Prop := slogWholeRow.holds Try.pinned (OpenSpec.ofChange slogWholeWrong)

/- THE SECOND FORM. 'bulk': how many values and letters a reading holds, each counted each time it is reached (what is shared counts as often as it is met; a slice's spare places count too). A statement '..UptoSaid' is the law's where the arguments, and the package variables that the reading takes, are together of bulk at most 1048576: NARROWER than '..Said'. Prove '..Said' where nothing that the law and all that it calls make is longer than what came in: it says more and counts as full. Else prove '..UptoSaid'. A law counts once. -/
mutual
def uptoBulk {H : Type} : DataW H → Nat
  | .lit (.string bytes) => bytes.length + 1
  | .lit _ => 1
  | .nil => 1
  | .ptr d => uptoBulk d + 1
  | .slice elems spare => uptoBulkAll elems + uptoBulkAll spare + 1
  | .agg parts => uptoBulkAll parts + 1
  | .iface _ d => uptoBulk d + 1
  | .map entries => uptoBulkEntries entries + 1
  | .held _ => 1
def uptoBulkAll {H : Type} : List (DataW H) → Nat
  | [] => 0
  | d :: r => uptoBulk d + uptoBulkAll r
def uptoBulkEntries {H : Type} : List (Lit × DataW H) → Nat
  | [] => 0
  | x :: r => uptoBulkEntry x + uptoBulkEntries r
def uptoBulkEntry {H : Type} : Lit × DataW H → Nat
  | (.string bytes, d) => bytes.length + uptoBulk d + 1
  | (_, d) => uptoBulk d + 1
 end
def uptoSmall : (H : Type) → List (DataW H) → Bool := fun _ ds => decide (uptoBulkAll ds ≤ 1048576)
def OpenSpec.upto (s : _root_.Go.ChangeSpec) : _root_.Go.OpenSpec := { _root_.Go.OpenSpec.ofChange s with cond := some uptoSmall }

/-- 'drumlinlaw03.DiskTwins', WHERE WHAT IT READS IS OF BULK AT MOST 1048576: true; the input reads as it did. -/
def diskTwinsUptoRow : OpenClaim := { program := "ytflnhihdbhjlnaa", sum := "79e7e91b31b1be44bc2cca5098522cf61ec716f413d90a9978be9bba8f48c62f", func := "drumlin/drumlinlaw03.DiskTwins", spec := "diskTwins", unfollowed := true, recurses := true, apart := false, narrowed := true }
def DiskTwinsUptoSaid : Prop := diskTwinsUptoRow.holds Try.pinned (OpenSpec.upto diskTwinsSpec)

/-- 'drumlinlaw16.CleanTells', WHERE WHAT IT READS IS OF BULK AT MOST 1048576: true; the input reads as it did. -/
def cleanTellsUptoRow : OpenClaim := { program := "ytflnhihdbhjlnaa", sum := "79e7e91b31b1be44bc2cca5098522cf61ec716f413d90a9978be9bba8f48c62f", func := "drumlin/drumlinlaw16.CleanTells", spec := "cleanTells", inPlace := ["slices.overlaps[int]"], apart := false, narrowed := true }
def CleanTellsUptoSaid : Prop := cleanTellsUptoRow.holds Try.pinned (OpenSpec.upto cleanTellsSpec)

/-- 'drumlintop.DrumlinTables', WHERE WHAT IT READS IS OF BULK AT MOST 1048576: true; the input reads as it did. -/
def drumlinTablesUptoRow : OpenClaim := { program := "ytflnhihdbhjlnaa", sum := "79e7e91b31b1be44bc2cca5098522cf61ec716f413d90a9978be9bba8f48c62f", func := "drumlin/drumlintop.DrumlinTables", spec := "drumlinTables", unfollowed := true, recurses := true, apart := false, narrowed := true }
def DrumlinTablesUptoSaid : Prop := drumlinTablesUptoRow.holds Try.pinned (OpenSpec.upto drumlinTablesSpec)

/-- 'drumlinlaw05.CodecInodes', WHERE WHAT IT READS IS OF BULK AT MOST 1048576: true; the input reads as it did. -/
def codecInodesUptoRow : OpenClaim := { program := "ytflnhihdbhjlnaa", sum := "79e7e91b31b1be44bc2cca5098522cf61ec716f413d90a9978be9bba8f48c62f", func := "drumlin/drumlinlaw05.CodecInodes", spec := "codecInodes", unfollowed := true, recurses := true, apart := false, narrowed := true }
def CodecInodesUptoSaid : Prop := codecInodesUptoRow.holds Try.pinned (OpenSpec.upto codecInodesSpec)

/-- 'drumlinlaw05.CodecHeaders', WHERE WHAT IT READS IS OF BULK AT MOST 1048576: true; the input reads as it did. -/
def codecHeadersUptoRow : OpenClaim := { program := "ytflnhihdbhjlnaa", sum := "79e7e91b31b1be44bc2cca5098522cf61ec716f413d90a9978be9bba8f48c62f", func := "drumlin/drumlinlaw05.CodecHeaders", spec := "codecHeaders", unfollowed := true, recurses := true, apart := false, narrowed := true }
def CodecHeadersUptoSaid : Prop := codecHeadersUptoRow.holds Try.pinned (OpenSpec.upto codecHeadersSpec)

/-- 'drumlinlaw05.CodecPointers', WHERE WHAT IT READS IS OF BULK AT MOST 1048576: true; the input reads as it did. -/
def codecPointersUptoRow : OpenClaim := { program := "ytflnhihdbhjlnaa", sum := "79e7e91b31b1be44bc2cca5098522cf61ec716f413d90a9978be9bba8f48c62f", func := "drumlin/drumlinlaw05.CodecPointers", spec := "codecPointers", unfollowed := true, recurses := true, apart := false, narrowed := true }
def CodecPointersUptoSaid : Prop := codecPointersUptoRow.holds Try.pinned (OpenSpec.upto codecPointersSpec)

/-- 'drumlinlaw05.CodecUses', WHERE WHAT IT READS IS OF BULK AT MOST 1048576: true; the input reads as it did. -/
def codecUsesUptoRow : OpenClaim := { program := "ytflnhihdbhjlnaa", sum := "79e7e91b31b1be44bc2cca5098522cf61ec716f413d90a9978be9bba8f48c62f", func := "drumlin/drumlinlaw05.CodecUses", spec := "codecUses", unfollowed := true, recurses := true, apart := false, narrowed := true }
def CodecUsesUptoSaid : Prop := codecUsesUptoRow.holds Try.pinned (OpenSpec.upto codecUsesSpec)

/-- 'drumlinlaw09.UsageParts', WHERE WHAT IT READS IS OF BULK AT MOST 1048576: true; the input reads as it did. -/
def usagePartsUptoRow : OpenClaim := { program := "ytflnhihdbhjlnaa", sum := "79e7e91b31b1be44bc2cca5098522cf61ec716f413d90a9978be9bba8f48c62f", func := "drumlin/drumlinlaw09.UsageParts", spec := "usageParts", unfollowed := true, recurses := true, apart := false, narrowed := true }
def UsagePartsUptoSaid : Prop := usagePartsUptoRow.holds Try.pinned (OpenSpec.upto usagePartsSpec)

/-- 'drumlinlaw05.CodecSlots', WHERE WHAT IT READS IS OF BULK AT MOST 1048576: true; the input reads as it did. -/
def codecSlotsUptoRow : OpenClaim := { program := "ytflnhihdbhjlnaa", sum := "79e7e91b31b1be44bc2cca5098522cf61ec716f413d90a9978be9bba8f48c62f", func := "drumlin/drumlinlaw05.CodecSlots", spec := "codecSlots", unfollowed := true, recurses := true, apart := false, narrowed := true }
def CodecSlotsUptoSaid : Prop := codecSlotsUptoRow.holds Try.pinned (OpenSpec.upto codecSlotsSpec)

/-- 'drumlinlaw05.CodecRecords', WHERE WHAT IT READS IS OF BULK AT MOST 1048576: true; the input reads as it did. -/
def codecRecordsUptoRow : OpenClaim := { program := "ytflnhihdbhjlnaa", sum := "79e7e91b31b1be44bc2cca5098522cf61ec716f413d90a9978be9bba8f48c62f", func := "drumlin/drumlinlaw05.CodecRecords", spec := "codecRecords", unfollowed := true, recurses := true, apart := false, narrowed := true }
def CodecRecordsUptoSaid : Prop := codecRecordsUptoRow.holds Try.pinned (OpenSpec.upto codecRecordsSpec)

/-- 'drumlinlaw05.CodecSummaries', WHERE WHAT IT READS IS OF BULK AT MOST 1048576: true; the input reads as it did. -/
def codecSummariesUptoRow : OpenClaim := { program := "ytflnhihdbhjlnaa", sum := "79e7e91b31b1be44bc2cca5098522cf61ec716f413d90a9978be9bba8f48c62f", func := "drumlin/drumlinlaw05.CodecSummaries", spec := "codecSummaries", unfollowed := true, recurses := true, apart := false, narrowed := true }
def CodecSummariesUptoSaid : Prop := codecSummariesUptoRow.holds Try.pinned (OpenSpec.upto codecSummariesSpec)

/-- 'drumlinlaw09.UsageOrders', WHERE WHAT IT READS IS OF BULK AT MOST 1048576: true; the input reads as it did. -/
def usageOrdersUptoRow : OpenClaim := { program := "ytflnhihdbhjlnaa", sum := "79e7e91b31b1be44bc2cca5098522cf61ec716f413d90a9978be9bba8f48c62f", func := "drumlin/drumlinlaw09.UsageOrders", spec := "usageOrders", unfollowed := true, recurses := true, apart := false, narrowed := true }
def UsageOrdersUptoSaid : Prop := usageOrdersUptoRow.holds Try.pinned (OpenSpec.upto usageOrdersSpec)

/-- 'drumlinlaw09.UsageLoads', WHERE WHAT IT READS IS OF BULK AT MOST 1048576: true; the input reads as it did. -/
def usageLoadsUptoRow : OpenClaim := { program := "ytflnhihdbhjlnaa", sum := "79e7e91b31b1be44bc2cca5098522cf61ec716f413d90a9978be9bba8f48c62f", func := "drumlin/drumlinlaw09.UsageLoads", spec := "usageLoads", unfollowed := true, recurses := true, apart := false, narrowed := true }
def UsageLoadsUptoSaid : Prop := usageLoadsUptoRow.holds Try.pinned (OpenSpec.upto usageLoadsSpec)

/-- 'drumlinlaw09.UsagePlays', WHERE WHAT IT READS IS OF BULK AT MOST 1048576: true; the input reads as it did. -/
def usagePlaysUptoRow : OpenClaim := { program := "ytflnhihdbhjlnaa", sum := "79e7e91b31b1be44bc2cca5098522cf61ec716f413d90a9978be9bba8f48c62f", func := "drumlin/drumlinlaw09.UsagePlays", spec := "usagePlays", unfollowed := true, recurses := true, apart := false, narrowed := true }
def UsagePlaysUptoSaid : Prop := usagePlaysUptoRow.holds Try.pinned (OpenSpec.upto usagePlaysSpec)

/-- 'drumlinlaw10.ImapLoads', WHERE WHAT IT READS IS OF BULK AT MOST 1048576: true; the input reads as it did. -/
def imapLoadsUptoRow : OpenClaim := { program := "ytflnhihdbhjlnaa", sum := "79e7e91b31b1be44bc2cca5098522cf61ec716f413d90a9978be9bba8f48c62f", func := "drumlin/drumlinlaw10.ImapLoads", spec := "imapLoads", unfollowed := true, recurses := true, apart := false, narrowed := true }
def ImapLoadsUptoSaid : Prop := imapLoadsUptoRow.holds Try.pinned (OpenSpec.upto imapLoadsSpec)

/-- 'drumlinlaw09.UsageRanks', WHERE WHAT IT READS IS OF BULK AT MOST 1048576: true; the input reads as it did. -/
def usageRanksUptoRow : OpenClaim := { program := "ytflnhihdbhjlnaa", sum := "79e7e91b31b1be44bc2cca5098522cf61ec716f413d90a9978be9bba8f48c62f", func := "drumlin/drumlinlaw09.UsageRanks", spec := "usageRanks", inPlace := ["math.Float64frombits", "slices.overlaps[int]"], unfollowed := true, recurses := true, apart := false, narrowed := true }
def UsageRanksUptoSaid : Prop := usageRanksUptoRow.holds Try.pinned (OpenSpec.upto usageRanksSpec)

/-- 'drumlinlaw11.SlogPlans', WHERE WHAT IT READS IS OF BULK AT MOST 1048576: true; the input reads as it did. -/
def slogPlansUptoRow : OpenClaim := { program := "ytflnhihdbhjlnaa", sum := "79e7e91b31b1be44bc2cca5098522cf61ec716f413d90a9978be9bba8f48c62f", func := "drumlin/drumlinlaw11.SlogPlans", spec := "slogPlans", unfollowed := true, recurses := true, apart := false, narrowed := true }
def SlogPlansUptoSaid : Prop := slogPlansUptoRow.holds Try.pinned (OpenSpec.upto slogPlansSpec)

/-- 'drumlinlaw11.SlogFakes', WHERE WHAT IT READS IS OF BULK AT MOST 1048576: true; the input reads as it did. -/
def slogFakesUptoRow : OpenClaim := { program := "ytflnhihdbhjlnaa", sum := "79e7e91b31b1be44bc2cca5098522cf61ec716f413d90a9978be9bba8f48c62f", func := "drumlin/drumlinlaw11.SlogFakes", spec := "slogFakes", unfollowed := true, recurses := true, apart := false, narrowed := true }
def SlogFakesUptoSaid : Prop := slogFakesUptoRow.holds Try.pinned (OpenSpec.upto slogFakesSpec)

/-- 'drumlinlaw11.SlogWhole', WHERE WHAT IT READS IS OF BULK AT MOST 1048576: true; the input reads as it did. -/
def slogWholeUptoRow : OpenClaim := { program := "ytflnhihdbhjlnaa", sum := "79e7e91b31b1be44bc2cca5098522cf61ec716f413d90a9978be9bba8f48c62f", func := "drumlin/drumlinlaw11.SlogWhole", spec := "slogWhole", unfollowed := true, recurses := true, apart := false, narrowed := true }
def SlogWholeUptoSaid : Prop := slogWholeUptoRow.holds Try.pinned (OpenSpec.upto slogWholeSpec)

end Rows
end Go.Proofs.Ytflnhihdbhjlnaa
