/-
  NARROWER THAN 'FOR EVERY INPUT', by the rows' own cells (each row's printed sentence says how): DiskFails: laid · PlanResults: laid · DiskPlays: laid · PlanModes: laid · PlanMakes: laid · TreeReads: laid · TreeDoes: laid · OrderSafe: laid · TreeBack: laid.
  DERIVED. THE GIVEN ROWS OF THIS SEAT. 9 by the template 'for every input the law returns true; each argument reads behind the call as it read before'; 0 by the template 'total and deterministic' (their statements: YtahlcbmmjfdcaaaGreatDoorTotals.lean).
  GIVEN WITH THE SEED: the statements are not yours to turn. If you find one false, say at which input.
  Laid BY PROGRAM, IN A SANDBOX (cutbox-rows.mjs): the forced cells as the released guide's own fill.sh prints them over the translation afe92a75c0baab4e… (all of the seat's roots in one cut). By AI agents, Wed Nov 11 2026. No macro, syntax, notation, axiom, sorry.
-/
import Derived.Test.YtahlcbmmjfdcaaaGreatDoorChecked
import GoSem.PinnedTables
import GoSem.Claim
import GoSem.ClaimJoined
import GoSem.ClaimMapViews
import Derived.JoinedTies
import Derived.KernelRfl
namespace Go.Proofs.YtahlcbmmjfdcaaaGreatDoor
/- THE CELL 'sum', in the pinned program and in every row, IS THE sha256 OF THE DUMP (.gsa) THAT YtahlcbmmjfdcaaaGreatDoorProg.lean LOADS. Nothing in Lean hashes anything: it is a label: what it is worth is what the hold of that sum in a sandbox is worth. -/
noncomputable def Tryz.pinned : Pinned := { name := "ytahlcbmmjfdcaaagreatdoor", sum := "afe92a75c0baab4ef1b623e493ea4039050a8233c7b6297e9685959e8bb8c090", checked := Tryz.checked }
namespace Rows
def none {H : Type} : Left H := { results := [], args := [] }

/- WHAT THE LISTED PACKAGE-LEVEL VARIABLES READ AS WHEN THE CALL BEGINS. Each datum BY PROGRAM (the guide's laid-datum.mjs) off the statement by which the dump's own 'gosem.cut.vars' lays the variable. In a bare row this is a premise. The card (YtahlcbmmjfdcaaaGreatDoorCards.lean) ties it to the program's text. -/
def laid_unicode_utf8_acceptRanges {H : Type} : DataW H := .agg [.agg [.lit (.int .u8 128), .lit (.int .u8 191)], .agg [.lit (.int .u8 160), .lit (.int .u8 191)], .agg [.lit (.int .u8 128), .lit (.int .u8 159)], .agg [.lit (.int .u8 144), .lit (.int .u8 191)], .agg [.lit (.int .u8 128), .lit (.int .u8 143)], .agg [.lit (.int .u8 0), .lit (.int .u8 0)], .agg [.lit (.int .u8 0), .lit (.int .u8 0)], .agg [.lit (.int .u8 0), .lit (.int .u8 0)], .agg [.lit (.int .u8 0), .lit (.int .u8 0)], .agg [.lit (.int .u8 0), .lit (.int .u8 0)], .agg [.lit (.int .u8 0), .lit (.int .u8 0)], .agg [.lit (.int .u8 0), .lit (.int .u8 0)], .agg [.lit (.int .u8 0), .lit (.int .u8 0)], .agg [.lit (.int .u8 0), .lit (.int .u8 0)], .agg [.lit (.int .u8 0), .lit (.int .u8 0)], .agg [.lit (.int .u8 0), .lit (.int .u8 0)]]
/-- One of Go's own tables, pinned by name: the form's constant. -/
def laid_unicode_utf8_first : DataW Unit := Go.Pinned.utf8First
def laid_portmanteau_name_table {H : Type} : DataW H := .agg [.lit (.int .i32 199), .lit (.int .i32 252), .lit (.int .i32 233), .lit (.int .i32 226), .lit (.int .i32 228), .lit (.int .i32 224), .lit (.int .i32 229), .lit (.int .i32 231), .lit (.int .i32 234), .lit (.int .i32 235), .lit (.int .i32 232), .lit (.int .i32 239), .lit (.int .i32 238), .lit (.int .i32 236), .lit (.int .i32 196), .lit (.int .i32 197), .lit (.int .i32 201), .lit (.int .i32 230), .lit (.int .i32 198), .lit (.int .i32 244), .lit (.int .i32 246), .lit (.int .i32 242), .lit (.int .i32 251), .lit (.int .i32 249), .lit (.int .i32 255), .lit (.int .i32 214), .lit (.int .i32 220), .lit (.int .i32 162), .lit (.int .i32 163), .lit (.int .i32 165), .lit (.int .i32 8359), .lit (.int .i32 402), .lit (.int .i32 225), .lit (.int .i32 237), .lit (.int .i32 243), .lit (.int .i32 250), .lit (.int .i32 241), .lit (.int .i32 209), .lit (.int .i32 170), .lit (.int .i32 186), .lit (.int .i32 191), .lit (.int .i32 8976), .lit (.int .i32 172), .lit (.int .i32 189), .lit (.int .i32 188), .lit (.int .i32 161), .lit (.int .i32 171), .lit (.int .i32 187), .lit (.int .i32 9617), .lit (.int .i32 9618), .lit (.int .i32 9619), .lit (.int .i32 9474), .lit (.int .i32 9508), .lit (.int .i32 9569), .lit (.int .i32 9570), .lit (.int .i32 9558), .lit (.int .i32 9557), .lit (.int .i32 9571), .lit (.int .i32 9553), .lit (.int .i32 9559), .lit (.int .i32 9565), .lit (.int .i32 9564), .lit (.int .i32 9563), .lit (.int .i32 9488), .lit (.int .i32 9492), .lit (.int .i32 9524), .lit (.int .i32 9516), .lit (.int .i32 9500), .lit (.int .i32 9472), .lit (.int .i32 9532), .lit (.int .i32 9566), .lit (.int .i32 9567), .lit (.int .i32 9562), .lit (.int .i32 9556), .lit (.int .i32 9577), .lit (.int .i32 9574), .lit (.int .i32 9568), .lit (.int .i32 9552), .lit (.int .i32 9580), .lit (.int .i32 9575), .lit (.int .i32 9576), .lit (.int .i32 9572), .lit (.int .i32 9573), .lit (.int .i32 9561), .lit (.int .i32 9560), .lit (.int .i32 9554), .lit (.int .i32 9555), .lit (.int .i32 9579), .lit (.int .i32 9578), .lit (.int .i32 9496), .lit (.int .i32 9484), .lit (.int .i32 9608), .lit (.int .i32 9604), .lit (.int .i32 9612), .lit (.int .i32 9616), .lit (.int .i32 9600), .lit (.int .i32 945), .lit (.int .i32 223), .lit (.int .i32 915), .lit (.int .i32 960), .lit (.int .i32 931), .lit (.int .i32 963), .lit (.int .i32 181), .lit (.int .i32 964), .lit (.int .i32 934), .lit (.int .i32 920), .lit (.int .i32 937), .lit (.int .i32 948), .lit (.int .i32 8734), .lit (.int .i32 966), .lit (.int .i32 949), .lit (.int .i32 8745), .lit (.int .i32 8801), .lit (.int .i32 177), .lit (.int .i32 8805), .lit (.int .i32 8804), .lit (.int .i32 8992), .lit (.int .i32 8993), .lit (.int .i32 247), .lit (.int .i32 8776), .lit (.int .i32 176), .lit (.int .i32 8729), .lit (.int .i32 183), .lit (.int .i32 8730), .lit (.int .i32 8319), .lit (.int .i32 178), .lit (.int .i32 9632), .lit (.int .i32 160)]

/-- 'portmanteaulaw15.DiskFails': WHATEVER THE INPUT: true; the input reads as it did. -/
def diskFailsSpec : ChangeSpec := { name := "diskFails", fn := fun _ => fun
  | [d1, d2] => { results := [.lit (.bool true)], args := [d1, d2] }
  | _ => none }
def diskFailsRow : OpenClaim := { program := "ytahlcbmmjfdcaaagreatdoor", sum := "afe92a75c0baab4ef1b623e493ea4039050a8233c7b6297e9685959e8bb8c090", func := "portmanteau/portmanteaulaw15.DiskFails", spec := "diskFails", inPlace := ["internal/bytealg.CountString", "internal/bytealg.IndexByteString", "internal/bytealg.IndexString", "internal/abi.NoEscape", "internal/bytealg.MakeNoZero", "slices.overlaps[portmanteau/api.Item]"], unfollowed := true, recurses := true, named := ["unicode/utf8.first", "unicode/utf8.acceptRanges", "internal/bytealg.MaxLen"], apart := false, laid := [("unicode/utf8.acceptRanges", laid_unicode_utf8_acceptRanges), ("unicode/utf8.first", laid_unicode_utf8_first)] }
def DiskFailsSaid : Prop := diskFailsRow.holds Tryz.pinned (OpenSpec.ofChange diskFailsSpec)

/-- ITS FALSE NEIGHBOUR: 'it returns false'. Refute it at one input. -/
def diskFailsWrong : ChangeSpec := { name := "diskFails", fn := fun _ => fun
  | [d1, d2] => { results := [.lit (.bool false)], args := [d1, d2] }
  | _ => none }
def DiskFailsWrongFalsely : Prop := diskFailsRow.holds Tryz.pinned (OpenSpec.ofChange diskFailsWrong)

/-- 'portmanteaulaw24.PlanResults': WHATEVER THE INPUT: true; the input reads as it did. -/
def planResultsSpec : ChangeSpec := { name := "planResults", fn := fun _ => fun
  | [d1, d2, d3] => { results := [.lit (.bool true)], args := [d1, d2, d3] }
  | _ => none }
def planResultsRow : OpenClaim := { program := "ytahlcbmmjfdcaaagreatdoor", sum := "afe92a75c0baab4ef1b623e493ea4039050a8233c7b6297e9685959e8bb8c090", func := "portmanteau/portmanteaulaw24.PlanResults", spec := "planResults", inPlace := ["internal/abi.NoEscape", "internal/bytealg.CountString", "internal/bytealg.IndexByteString", "internal/bytealg.IndexString"], unfollowed := true, recurses := true, named := ["unicode/utf8.first", "unicode/utf8.acceptRanges", "portmanteau/name.table", "internal/bytealg.MaxLen"], apart := false, laid := [("unicode/utf8.acceptRanges", laid_unicode_utf8_acceptRanges), ("portmanteau/name.table", laid_portmanteau_name_table), ("unicode/utf8.first", laid_unicode_utf8_first)] }
def PlanResultsSaid : Prop := planResultsRow.holds Tryz.pinned (OpenSpec.ofChange planResultsSpec)

/-- ITS FALSE NEIGHBOUR: 'it returns false'. Refute it at one input. -/
def planResultsWrong : ChangeSpec := { name := "planResults", fn := fun _ => fun
  | [d1, d2, d3] => { results := [.lit (.bool false)], args := [d1, d2, d3] }
  | _ => none }
def PlanResultsWrongFalsely : Prop := planResultsRow.holds Tryz.pinned (OpenSpec.ofChange planResultsWrong)

/-- 'portmanteaulaw15.DiskPlays': WHATEVER THE INPUT: true; the input reads as it did. -/
def diskPlaysSpec : ChangeSpec := { name := "diskPlays", fn := fun _ => fun
  | [d1, d2] => { results := [.lit (.bool true)], args := [d1, d2] }
  | _ => none }
def diskPlaysRow : OpenClaim := { program := "ytahlcbmmjfdcaaagreatdoor", sum := "afe92a75c0baab4ef1b623e493ea4039050a8233c7b6297e9685959e8bb8c090", func := "portmanteau/portmanteaulaw15.DiskPlays", spec := "diskPlays", inPlace := ["internal/bytealg.CountString", "internal/bytealg.IndexByteString", "internal/bytealg.IndexString", "internal/abi.NoEscape", "internal/bytealg.MakeNoZero", "slices.overlaps[portmanteau/api.Item]"], unfollowed := true, recurses := true, named := ["unicode/utf8.first", "unicode/utf8.acceptRanges", "internal/bytealg.MaxLen"], apart := false, laid := [("unicode/utf8.acceptRanges", laid_unicode_utf8_acceptRanges), ("unicode/utf8.first", laid_unicode_utf8_first)] }
def DiskPlaysSaid : Prop := diskPlaysRow.holds Tryz.pinned (OpenSpec.ofChange diskPlaysSpec)

/-- ITS FALSE NEIGHBOUR: 'it returns false'. Refute it at one input. -/
def diskPlaysWrong : ChangeSpec := { name := "diskPlays", fn := fun _ => fun
  | [d1, d2] => { results := [.lit (.bool false)], args := [d1, d2] }
  | _ => none }
def DiskPlaysWrongFalsely : Prop := diskPlaysRow.holds Tryz.pinned (OpenSpec.ofChange diskPlaysWrong)

/-- 'portmanteaulaw24.PlanModes': WHATEVER THE INPUT: true; the input reads as it did. -/
def planModesSpec : ChangeSpec := { name := "planModes", fn := fun _ => fun
  | [d1, d2, d3, d4, d5] => { results := [.lit (.bool true)], args := [d1, d2, d3, d4, d5] }
  | _ => none }
def planModesRow : OpenClaim := { program := "ytahlcbmmjfdcaaagreatdoor", sum := "afe92a75c0baab4ef1b623e493ea4039050a8233c7b6297e9685959e8bb8c090", func := "portmanteau/portmanteaulaw24.PlanModes", spec := "planModes", inPlace := ["internal/abi.NoEscape", "internal/bytealg.CountString", "internal/bytealg.IndexByteString", "internal/bytealg.IndexString"], unfollowed := true, recurses := true, named := ["unicode/utf8.first", "unicode/utf8.acceptRanges", "portmanteau/name.table", "internal/bytealg.MaxLen"], apart := false, laid := [("unicode/utf8.acceptRanges", laid_unicode_utf8_acceptRanges), ("portmanteau/name.table", laid_portmanteau_name_table), ("unicode/utf8.first", laid_unicode_utf8_first)] }
def PlanModesSaid : Prop := planModesRow.holds Tryz.pinned (OpenSpec.ofChange planModesSpec)

/-- ITS FALSE NEIGHBOUR: 'it returns false'. Refute it at one input. -/
def planModesWrong : ChangeSpec := { name := "planModes", fn := fun _ => fun
  | [d1, d2, d3, d4, d5] => { results := [.lit (.bool false)], args := [d1, d2, d3, d4, d5] }
  | _ => none }
def PlanModesWrongFalsely : Prop := planModesRow.holds Tryz.pinned (OpenSpec.ofChange planModesWrong)

/-- 'portmanteaulaw24.PlanMakes': WHATEVER THE INPUT: true; the input reads as it did. -/
def planMakesSpec : ChangeSpec := { name := "planMakes", fn := fun _ => fun
  | [d1, d2, d3, d4, d5] => { results := [.lit (.bool true)], args := [d1, d2, d3, d4, d5] }
  | _ => none }
def planMakesRow : OpenClaim := { program := "ytahlcbmmjfdcaaagreatdoor", sum := "afe92a75c0baab4ef1b623e493ea4039050a8233c7b6297e9685959e8bb8c090", func := "portmanteau/portmanteaulaw24.PlanMakes", spec := "planMakes", inPlace := ["internal/abi.NoEscape", "internal/bytealg.CountString", "internal/bytealg.IndexByteString", "internal/bytealg.IndexString"], unfollowed := true, recurses := true, named := ["unicode/utf8.first", "unicode/utf8.acceptRanges", "portmanteau/name.table", "internal/bytealg.MaxLen"], apart := false, laid := [("unicode/utf8.acceptRanges", laid_unicode_utf8_acceptRanges), ("portmanteau/name.table", laid_portmanteau_name_table), ("unicode/utf8.first", laid_unicode_utf8_first)] }
def PlanMakesSaid : Prop := planMakesRow.holds Tryz.pinned (OpenSpec.ofChange planMakesSpec)

/-- ITS FALSE NEIGHBOUR: 'it returns false'. Refute it at one input. -/
def planMakesWrong : ChangeSpec := { name := "planMakes", fn := fun _ => fun
  | [d1, d2, d3, d4, d5] => { results := [.lit (.bool false)], args := [d1, d2, d3, d4, d5] }
  | _ => none }
def PlanMakesWrongFalsely : Prop := planMakesRow.holds Tryz.pinned (OpenSpec.ofChange planMakesWrong)

/-- 'portmanteaulaw16.TreeReads': WHATEVER THE INPUT: true; the input reads as it did. -/
def treeReadsSpec : ChangeSpec := { name := "treeReads", fn := fun _ => fun
  | [d1, d2, d3, d4, d5] => { results := [.lit (.bool true)], args := [d1, d2, d3, d4, d5] }
  | _ => none }
def treeReadsRow : OpenClaim := { program := "ytahlcbmmjfdcaaagreatdoor", sum := "afe92a75c0baab4ef1b623e493ea4039050a8233c7b6297e9685959e8bb8c090", func := "portmanteau/portmanteaulaw16.TreeReads", spec := "treeReads", inPlace := ["internal/bytealg.CountString", "internal/bytealg.IndexByteString", "internal/bytealg.IndexString", "slices.overlaps[portmanteau/api.Item]", "internal/abi.NoEscape", "internal/bytealg.MakeNoZero"], unfollowed := true, recurses := true, named := ["unicode/utf8.first", "unicode/utf8.acceptRanges", "internal/bytealg.MaxLen"], apart := false, laid := [("unicode/utf8.acceptRanges", laid_unicode_utf8_acceptRanges), ("unicode/utf8.first", laid_unicode_utf8_first)] }
def TreeReadsSaid : Prop := treeReadsRow.holds Tryz.pinned (OpenSpec.ofChange treeReadsSpec)

/-- ITS FALSE NEIGHBOUR: 'it returns false'. Refute it at one input. -/
def treeReadsWrong : ChangeSpec := { name := "treeReads", fn := fun _ => fun
  | [d1, d2, d3, d4, d5] => { results := [.lit (.bool false)], args := [d1, d2, d3, d4, d5] }
  | _ => none }
def TreeReadsWrongFalsely : Prop := treeReadsRow.holds Tryz.pinned (OpenSpec.ofChange treeReadsWrong)

/-- 'portmanteaulaw16.TreeDoes': WHATEVER THE INPUT: true; the input reads as it did. -/
def treeDoesSpec : ChangeSpec := { name := "treeDoes", fn := fun _ => fun
  | [d1, d2, d3, d4, d5] => { results := [.lit (.bool true)], args := [d1, d2, d3, d4, d5] }
  | _ => none }
def treeDoesRow : OpenClaim := { program := "ytahlcbmmjfdcaaagreatdoor", sum := "afe92a75c0baab4ef1b623e493ea4039050a8233c7b6297e9685959e8bb8c090", func := "portmanteau/portmanteaulaw16.TreeDoes", spec := "treeDoes", inPlace := ["internal/bytealg.CountString", "internal/bytealg.IndexByteString", "internal/bytealg.IndexString", "slices.overlaps[portmanteau/api.Item]"], unfollowed := true, recurses := true, named := ["unicode/utf8.first", "unicode/utf8.acceptRanges", "internal/bytealg.MaxLen"], apart := false, laid := [("unicode/utf8.acceptRanges", laid_unicode_utf8_acceptRanges), ("unicode/utf8.first", laid_unicode_utf8_first)] }
def TreeDoesSaid : Prop := treeDoesRow.holds Tryz.pinned (OpenSpec.ofChange treeDoesSpec)

/-- ITS FALSE NEIGHBOUR: 'it returns false'. Refute it at one input. -/
def treeDoesWrong : ChangeSpec := { name := "treeDoes", fn := fun _ => fun
  | [d1, d2, d3, d4, d5] => { results := [.lit (.bool false)], args := [d1, d2, d3, d4, d5] }
  | _ => none }
def TreeDoesWrongFalsely : Prop := treeDoesRow.holds Tryz.pinned (OpenSpec.ofChange treeDoesWrong)

/-- 'portmanteaulaw25.OrderSafe': WHATEVER THE INPUT: true; the input reads as it did. -/
def orderSafeSpec : ChangeSpec := { name := "orderSafe", fn := fun _ => fun
  | [d1, d2] => { results := [.lit (.bool true)], args := [d1, d2] }
  | _ => none }
def orderSafeRow : OpenClaim := { program := "ytahlcbmmjfdcaaagreatdoor", sum := "afe92a75c0baab4ef1b623e493ea4039050a8233c7b6297e9685959e8bb8c090", func := "portmanteau/portmanteaulaw25.OrderSafe", spec := "orderSafe", inPlace := ["internal/bytealg.CountString", "internal/bytealg.IndexByteString", "internal/bytealg.IndexString", "slices.overlaps[portmanteau/api.Item]"], unfollowed := true, recurses := true, named := ["unicode/utf8.first", "unicode/utf8.acceptRanges", "internal/bytealg.MaxLen"], apart := false, laid := [("unicode/utf8.acceptRanges", laid_unicode_utf8_acceptRanges), ("unicode/utf8.first", laid_unicode_utf8_first)] }
def OrderSafeSaid : Prop := orderSafeRow.holds Tryz.pinned (OpenSpec.ofChange orderSafeSpec)

/-- ITS FALSE NEIGHBOUR: 'it returns false'. Refute it at one input. -/
def orderSafeWrong : ChangeSpec := { name := "orderSafe", fn := fun _ => fun
  | [d1, d2] => { results := [.lit (.bool false)], args := [d1, d2] }
  | _ => none }
def OrderSafeWrongFalsely : Prop := orderSafeRow.holds Tryz.pinned (OpenSpec.ofChange orderSafeWrong)

/-- 'portmanteaulaw16.TreeBack': WHATEVER THE INPUT: true; the input reads as it did. -/
def treeBackSpec : ChangeSpec := { name := "treeBack", fn := fun _ => fun
  | [d] => { results := [.lit (.bool true)], args := [d] }
  | _ => none }
def treeBackRow : OpenClaim := { program := "ytahlcbmmjfdcaaagreatdoor", sum := "afe92a75c0baab4ef1b623e493ea4039050a8233c7b6297e9685959e8bb8c090", func := "portmanteau/portmanteaulaw16.TreeBack", spec := "treeBack", inPlace := ["internal/bytealg.CountString", "internal/bytealg.IndexByteString", "internal/bytealg.IndexString", "slices.overlaps[portmanteau/api.Item]", "internal/abi.NoEscape", "internal/bytealg.MakeNoZero"], unfollowed := true, recurses := true, named := ["unicode/utf8.first", "unicode/utf8.acceptRanges", "internal/bytealg.MaxLen"], apart := false, laid := [("unicode/utf8.acceptRanges", laid_unicode_utf8_acceptRanges), ("unicode/utf8.first", laid_unicode_utf8_first)] }
def TreeBackSaid : Prop := treeBackRow.holds Tryz.pinned (OpenSpec.ofChange treeBackSpec)

/-- ITS FALSE NEIGHBOUR: 'it returns false'. Refute it at one input. -/
def treeBackWrong : ChangeSpec := { name := "treeBack", fn := fun _ => fun
  | [d] => { results := [.lit (.bool false)], args := [d] }
  | _ => none }
def TreeBackWrongFalsely : Prop := treeBackRow.holds Tryz.pinned (OpenSpec.ofChange treeBackWrong)

/- THE SECOND FORM. 'bulk': how many values and letters a reading holds, each counted each time it is reached (what is shared counts as often as it is met; a slice's spare places count too). A statement '..UptoSaid' is the law's where the arguments, and the package variables that the reading takes, are together of bulk at most 1048576: NARROWER than '..Said'. Prove '..Said' where nothing that the law and all that it calls make is longer than what came in: it says more and counts as full. Else prove '..UptoSaid'. A law counts once. -/
mutual
def uptoBulk {H : Type} : DataW H → Nat
  | .lit (.string bytes) => bytes.length + 1
  | .lit _ => 1
  | .nil => 1
  | .ptr d => uptoBulk d + 1
  | .slice elems spare => uptoBulkAll elems + uptoBulkAll spare + 1
  | .agg parts => uptoBulkAll parts + 1
  | .iface _ d => uptoBulk d + 1
  | .map entries => uptoBulkEntries entries + 1
  | .held _ => 1
def uptoBulkAll {H : Type} : List (DataW H) → Nat
  | [] => 0
  | d :: r => uptoBulk d + uptoBulkAll r
def uptoBulkEntries {H : Type} : List (Lit × DataW H) → Nat
  | [] => 0
  | x :: r => uptoBulkEntry x + uptoBulkEntries r
def uptoBulkEntry {H : Type} : Lit × DataW H → Nat
  | (.string bytes, d) => bytes.length + uptoBulk d + 1
  | (_, d) => uptoBulk d + 1
 end
def uptoSmall : (H : Type) → List (DataW H) → Bool := fun _ ds => decide (uptoBulkAll ds ≤ 1048576)
def OpenSpec.upto (s : _root_.Go.ChangeSpec) : _root_.Go.OpenSpec := { _root_.Go.OpenSpec.ofChange s with cond := some uptoSmall }

/-- 'portmanteaulaw15.DiskFails', WHERE WHAT IT READS IS OF BULK AT MOST 1048576: true; the input reads as it did. -/
def diskFailsUptoRow : OpenClaim := { program := "ytahlcbmmjfdcaaagreatdoor", sum := "afe92a75c0baab4ef1b623e493ea4039050a8233c7b6297e9685959e8bb8c090", func := "portmanteau/portmanteaulaw15.DiskFails", spec := "diskFails", inPlace := ["internal/bytealg.CountString", "internal/bytealg.IndexByteString", "internal/bytealg.IndexString", "internal/abi.NoEscape", "internal/bytealg.MakeNoZero", "slices.overlaps[portmanteau/api.Item]"], unfollowed := true, recurses := true, named := ["unicode/utf8.first", "unicode/utf8.acceptRanges", "internal/bytealg.MaxLen"], apart := false, laid := [("unicode/utf8.acceptRanges", laid_unicode_utf8_acceptRanges), ("unicode/utf8.first", laid_unicode_utf8_first)], narrowed := true }
def DiskFailsUptoSaid : Prop := diskFailsUptoRow.holds Tryz.pinned (OpenSpec.upto diskFailsSpec)

/-- 'portmanteaulaw24.PlanResults', WHERE WHAT IT READS IS OF BULK AT MOST 1048576: true; the input reads as it did. -/
def planResultsUptoRow : OpenClaim := { program := "ytahlcbmmjfdcaaagreatdoor", sum := "afe92a75c0baab4ef1b623e493ea4039050a8233c7b6297e9685959e8bb8c090", func := "portmanteau/portmanteaulaw24.PlanResults", spec := "planResults", inPlace := ["internal/abi.NoEscape", "internal/bytealg.CountString", "internal/bytealg.IndexByteString", "internal/bytealg.IndexString"], unfollowed := true, recurses := true, named := ["unicode/utf8.first", "unicode/utf8.acceptRanges", "portmanteau/name.table", "internal/bytealg.MaxLen"], apart := false, laid := [("unicode/utf8.acceptRanges", laid_unicode_utf8_acceptRanges), ("portmanteau/name.table", laid_portmanteau_name_table), ("unicode/utf8.first", laid_unicode_utf8_first)], narrowed := true }
def PlanResultsUptoSaid : Prop := planResultsUptoRow.holds Tryz.pinned (OpenSpec.upto planResultsSpec)

/-- 'portmanteaulaw15.DiskPlays', WHERE WHAT IT READS IS OF BULK AT MOST 1048576: true; the input reads as it did. -/
def diskPlaysUptoRow : OpenClaim := { program := "ytahlcbmmjfdcaaagreatdoor", sum := "afe92a75c0baab4ef1b623e493ea4039050a8233c7b6297e9685959e8bb8c090", func := "portmanteau/portmanteaulaw15.DiskPlays", spec := "diskPlays", inPlace := ["internal/bytealg.CountString", "internal/bytealg.IndexByteString", "internal/bytealg.IndexString", "internal/abi.NoEscape", "internal/bytealg.MakeNoZero", "slices.overlaps[portmanteau/api.Item]"], unfollowed := true, recurses := true, named := ["unicode/utf8.first", "unicode/utf8.acceptRanges", "internal/bytealg.MaxLen"], apart := false, laid := [("unicode/utf8.acceptRanges", laid_unicode_utf8_acceptRanges), ("unicode/utf8.first", laid_unicode_utf8_first)], narrowed := true }
def DiskPlaysUptoSaid : Prop := diskPlaysUptoRow.holds Tryz.pinned (OpenSpec.upto diskPlaysSpec)

/-- 'portmanteaulaw24.PlanModes', WHERE WHAT IT READS IS OF BULK AT MOST 1048576: true; the input reads as it did. -/
def planModesUptoRow : OpenClaim := { program := "ytahlcbmmjfdcaaagreatdoor", sum := "afe92a75c0baab4ef1b623e493ea4039050a8233c7b6297e9685959e8bb8c090", func := "portmanteau/portmanteaulaw24.PlanModes", spec := "planModes", inPlace := ["internal/abi.NoEscape", "internal/bytealg.CountString", "internal/bytealg.IndexByteString", "internal/bytealg.IndexString"], unfollowed := true, recurses := true, named := ["unicode/utf8.first", "unicode/utf8.acceptRanges", "portmanteau/name.table", "internal/bytealg.MaxLen"], apart := false, laid := [("unicode/utf8.acceptRanges", laid_unicode_utf8_acceptRanges), ("portmanteau/name.table", laid_portmanteau_name_table), ("unicode/utf8.first", laid_unicode_utf8_first)], narrowed := true }
def PlanModesUptoSaid : Prop := planModesUptoRow.holds Tryz.pinned (OpenSpec.upto planModesSpec)

/-- 'portmanteaulaw24.PlanMakes', WHERE WHAT IT READS IS OF BULK AT MOST 1048576: true; the input reads as it did. -/
def planMakesUptoRow : OpenClaim := { program := "ytahlcbmmjfdcaaagreatdoor", sum := "afe92a75c0baab4ef1b623e493ea4039050a8233c7b6297e9685959e8bb8c090", func := "portmanteau/portmanteaulaw24.PlanMakes", spec := "planMakes", inPlace := ["internal/abi.NoEscape", "internal/bytealg.CountString", "internal/bytealg.IndexByteString", "internal/bytealg.IndexString"], unfollowed := true, recurses := true, named := ["unicode/utf8.first", "unicode/utf8.acceptRanges", "portmanteau/name.table", "internal/bytealg.MaxLen"], apart := false, laid := [("unicode/utf8.acceptRanges", laid_unicode_utf8_acceptRanges), ("portmanteau/name.table", laid_portmanteau_name_table), ("unicode/utf8.first", laid_unicode_utf8_first)], narrowed := true }
def PlanMakesUptoSaid : Prop := planMakesUptoRow.holds Tryz.pinned (OpenSpec.upto planMakesSpec)

/-- 'portmanteaulaw16.TreeReads', WHERE WHAT IT READS IS OF BULK AT MOST 1048576: true; the input reads as it did. -/
def treeReadsUptoRow : OpenClaim := { program := "ytahlcbmmjfdcaaagreatdoor", sum := "afe92a75c0baab4ef1b623e493ea4039050a8233c7b6297e9685959e8bb8c090", func := "portmanteau/portmanteaulaw16.TreeReads", spec := "treeReads", inPlace := ["internal/bytealg.CountString", "internal/bytealg.IndexByteString", "internal/bytealg.IndexString", "slices.overlaps[portmanteau/api.Item]", "internal/abi.NoEscape", "internal/bytealg.MakeNoZero"], unfollowed := true, recurses := true, named := ["unicode/utf8.first", "unicode/utf8.acceptRanges", "internal/bytealg.MaxLen"], apart := false, laid := [("unicode/utf8.acceptRanges", laid_unicode_utf8_acceptRanges), ("unicode/utf8.first", laid_unicode_utf8_first)], narrowed := true }
def TreeReadsUptoSaid : Prop := treeReadsUptoRow.holds Tryz.pinned (OpenSpec.upto treeReadsSpec)

/-- 'portmanteaulaw16.TreeDoes', WHERE WHAT IT READS IS OF BULK AT MOST 1048576: true; the input reads as it did. -/
def treeDoesUptoRow : OpenClaim := { program := "ytahlcbmmjfdcaaagreatdoor", sum := "afe92a75c0baab4ef1b623e493ea4039050a8233c7b6297e9685959e8bb8c090", func := "portmanteau/portmanteaulaw16.TreeDoes", spec := "treeDoes", inPlace := ["internal/bytealg.CountString", "internal/bytealg.IndexByteString", "internal/bytealg.IndexString", "slices.overlaps[portmanteau/api.Item]"], unfollowed := true, recurses := true, named := ["unicode/utf8.first", "unicode/utf8.acceptRanges", "internal/bytealg.MaxLen"], apart := false, laid := [("unicode/utf8.acceptRanges", laid_unicode_utf8_acceptRanges), ("unicode/utf8.first", laid_unicode_utf8_first)], narrowed := true }
def TreeDoesUptoSaid : Prop := treeDoesUptoRow.holds Tryz.pinned (OpenSpec.upto treeDoesSpec)

/-- 'portmanteaulaw25.OrderSafe', WHERE WHAT IT READS IS OF BULK AT MOST 1048576: true; the input reads as it did. -/
def orderSafeUptoRow : OpenClaim := { program := "ytahlcbmmjfdcaaagreatdoor", sum := "afe92a75c0baab4ef1b623e493ea4039050a8233c7b6297e9685959e8bb8c090", func := "portmanteau/portmanteaulaw25.OrderSafe", spec := "orderSafe", inPlace := ["internal/bytealg.CountString", "internal/bytealg.IndexByteString", "internal/bytealg.IndexString", "slices.overlaps[portmanteau/api.Item]"], unfollowed := true, recurses := true, named := ["unicode/utf8.first", "unicode/utf8.acceptRanges", "internal/bytealg.MaxLen"], apart := false, laid := [("unicode/utf8.acceptRanges", laid_unicode_utf8_acceptRanges), ("unicode/utf8.first", laid_unicode_utf8_first)], narrowed := true }
def OrderSafeUptoSaid : Prop := orderSafeUptoRow.holds Tryz.pinned (OpenSpec.upto orderSafeSpec)

/-- 'portmanteaulaw16.TreeBack', WHERE WHAT IT READS IS OF BULK AT MOST 1048576: true; the input reads as it did. -/
def treeBackUptoRow : OpenClaim := { program := "ytahlcbmmjfdcaaagreatdoor", sum := "afe92a75c0baab4ef1b623e493ea4039050a8233c7b6297e9685959e8bb8c090", func := "portmanteau/portmanteaulaw16.TreeBack", spec := "treeBack", inPlace := ["internal/bytealg.CountString", "internal/bytealg.IndexByteString", "internal/bytealg.IndexString", "slices.overlaps[portmanteau/api.Item]", "internal/abi.NoEscape", "internal/bytealg.MakeNoZero"], unfollowed := true, recurses := true, named := ["unicode/utf8.first", "unicode/utf8.acceptRanges", "internal/bytealg.MaxLen"], apart := false, laid := [("unicode/utf8.acceptRanges", laid_unicode_utf8_acceptRanges), ("unicode/utf8.first", laid_unicode_utf8_first)], narrowed := true }
def TreeBackUptoSaid : Prop := treeBackUptoRow.holds Tryz.pinned (OpenSpec.upto treeBackSpec)

end Rows
end Go.Proofs.YtahlcbmmjfdcaaaGreatDoor
