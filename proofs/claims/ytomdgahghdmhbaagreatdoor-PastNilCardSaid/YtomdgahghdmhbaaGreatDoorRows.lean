/-
  NARROWER THAN 'FOR EVERY INPUT', by the rows' own cells (each row's printed sentence says how): UpdateOthers: laid · DiffWays: laid · PatchSafe: laid · PatchDoes: laid · DiffNothing: laid · FramesMerge: laid · FramesEach: laid · DeltaMakes: laid · DeltaApplies: laid · DeltaChain: laid · DeltaLeads: laid · PastNil: laid.
  DERIVED. THE GIVEN ROWS OF THIS SEAT. 12 by the template 'for every input the law returns true; each argument reads behind the call as it read before'; 0 by the template 'total and deterministic' (their statements: YtomdgahghdmhbaaGreatDoorTotals.lean).
  GIVEN WITH THE SEED: the statements are not yours to turn. If you find one false, say at which input.
  Laid BY PROGRAM, IN A SANDBOX (cutbox-rows.mjs): the forced cells as the released guide's own fill.sh prints them over the translation 68aa06c4e972a329… (all of the seat's roots in one cut). By AI agents, Wed Nov 11 2026. No macro, syntax, notation, axiom, sorry.
-/
import Derived.Test.YtomdgahghdmhbaaGreatDoorChecked
import GoSem.PinnedTables
import GoSem.Claim
import GoSem.ClaimJoined
import GoSem.ClaimMapViews
import Derived.JoinedTies
import Derived.KernelRfl
namespace Go.Proofs.YtomdgahghdmhbaaGreatDoor
/- THE CELL 'sum', in the pinned program and in every row, IS THE sha256 OF THE DUMP (.gsa) THAT YtomdgahghdmhbaaGreatDoorProg.lean LOADS. Nothing in Lean hashes anything: it is a label: what it is worth is what the hold of that sum in a sandbox is worth. -/
noncomputable def Tryz.pinned : Pinned := { name := "ytomdgahghdmhbaagreatdoor", sum := "68aa06c4e972a3299e876a501654599a8c8c687e91884d46ad91b22eb154e194", checked := Tryz.checked }
namespace Rows
def none {H : Type} : Left H := { results := [], args := [] }

/- WHAT THE LISTED PACKAGE-LEVEL VARIABLES READ AS WHEN THE CALL BEGINS. Each datum BY PROGRAM (the guide's laid-datum.mjs) off the statement by which the dump's own 'gosem.cut.vars' lays the variable. In a bare row this is a premise. The card (YtomdgahghdmhbaaGreatDoorCards.lean) ties it to the program's text. -/
def laid_unicode_utf8_acceptRanges {H : Type} : DataW H := .agg [.agg [.lit (.int .u8 128), .lit (.int .u8 191)], .agg [.lit (.int .u8 160), .lit (.int .u8 191)], .agg [.lit (.int .u8 128), .lit (.int .u8 159)], .agg [.lit (.int .u8 144), .lit (.int .u8 191)], .agg [.lit (.int .u8 128), .lit (.int .u8 143)], .agg [.lit (.int .u8 0), .lit (.int .u8 0)], .agg [.lit (.int .u8 0), .lit (.int .u8 0)], .agg [.lit (.int .u8 0), .lit (.int .u8 0)], .agg [.lit (.int .u8 0), .lit (.int .u8 0)], .agg [.lit (.int .u8 0), .lit (.int .u8 0)], .agg [.lit (.int .u8 0), .lit (.int .u8 0)], .agg [.lit (.int .u8 0), .lit (.int .u8 0)], .agg [.lit (.int .u8 0), .lit (.int .u8 0)], .agg [.lit (.int .u8 0), .lit (.int .u8 0)], .agg [.lit (.int .u8 0), .lit (.int .u8 0)], .agg [.lit (.int .u8 0), .lit (.int .u8 0)]]
/-- One of Go's own tables, pinned by name: the form's constant. -/
def laid_unicode_utf8_first : DataW Unit := Go.Pinned.utf8First

/-- 'darninglaw21.UpdateOthers': WHATEVER THE INPUT: true; the input reads as it did. -/
def updateOthersSpec : ChangeSpec := { name := "updateOthers", fn := fun _ => fun
  | [d1, d2, d3, d4, d5, d6, d7] => { results := [.lit (.bool true)], args := [d1, d2, d3, d4, d5, d6, d7] }
  | _ => none }
def updateOthersRow : OpenClaim := { program := "ytomdgahghdmhbaagreatdoor", sum := "68aa06c4e972a3299e876a501654599a8c8c687e91884d46ad91b22eb154e194", func := "darning/darninglaw21.UpdateOthers", spec := "updateOthers", inPlace := ["internal/bytealg.IndexByteString", "internal/bytealg.IndexString", "internal/abi.NoEscape", "internal/bytealg.MakeNoZero"], unfollowed := true, recurses := true, named := ["unicode/utf8.first", "unicode/utf8.acceptRanges", "internal/bytealg.MaxLen"], plainKeys := false, apart := false, laid := [("unicode/utf8.acceptRanges", laid_unicode_utf8_acceptRanges), ("unicode/utf8.first", laid_unicode_utf8_first)] }
def UpdateOthersSaid : Prop := updateOthersRow.holds Tryz.pinned (OpenSpec.ofChange updateOthersSpec)

/-- ITS FALSE NEIGHBOUR: 'it returns false'. Refute it at one input. -/
def updateOthersWrong : ChangeSpec := { name := "updateOthers", fn := fun _ => fun
  | [d1, d2, d3, d4, d5, d6, d7] => { results := [.lit (.bool false)], args := [d1, d2, d3, d4, d5, d6, d7] }
  | _ => none }
def UpdateOthersWrongFalsely : Prop := updateOthersRow.holds Tryz.pinned (OpenSpec.ofChange updateOthersWrong)

/-- 'darninglaw24.DiffWays': WHATEVER THE INPUT: true; the input reads as it did. -/
def diffWaysSpec : ChangeSpec := { name := "diffWays", fn := fun _ => fun
  | [d1, d2, d3, d4, d5] => { results := [.lit (.bool true)], args := [d1, d2, d3, d4, d5] }
  | _ => none }
def diffWaysRow : OpenClaim := { program := "ytomdgahghdmhbaagreatdoor", sum := "68aa06c4e972a3299e876a501654599a8c8c687e91884d46ad91b22eb154e194", func := "darning/darninglaw24.DiffWays", spec := "diffWays", inPlace := ["internal/abi.NoEscape", "internal/bytealg.MakeNoZero", "internal/bytealg.IndexByteString", "internal/bytealg.IndexString"], unfollowed := true, recurses := true, named := ["unicode/utf8.first", "unicode/utf8.acceptRanges", "internal/bytealg.MaxLen"], plainKeys := false, apart := false, laid := [("unicode/utf8.acceptRanges", laid_unicode_utf8_acceptRanges), ("unicode/utf8.first", laid_unicode_utf8_first)] }
def DiffWaysSaid : Prop := diffWaysRow.holds Tryz.pinned (OpenSpec.ofChange diffWaysSpec)

/-- ITS FALSE NEIGHBOUR: 'it returns false'. Refute it at one input. -/
def diffWaysWrong : ChangeSpec := { name := "diffWays", fn := fun _ => fun
  | [d1, d2, d3, d4, d5] => { results := [.lit (.bool false)], args := [d1, d2, d3, d4, d5] }
  | _ => none }
def DiffWaysWrongFalsely : Prop := diffWaysRow.holds Tryz.pinned (OpenSpec.ofChange diffWaysWrong)

/-- 'darninglaw23.PatchSafe': WHATEVER THE INPUT: true; the input reads as it did. -/
def patchSafeSpec : ChangeSpec := { name := "patchSafe", fn := fun _ => fun
  | [d1, d2, d3, d4] => { results := [.lit (.bool true)], args := [d1, d2, d3, d4] }
  | _ => none }
def patchSafeRow : OpenClaim := { program := "ytomdgahghdmhbaagreatdoor", sum := "68aa06c4e972a3299e876a501654599a8c8c687e91884d46ad91b22eb154e194", func := "darning/darninglaw23.PatchSafe", spec := "patchSafe", inPlace := ["internal/bytealg.IndexByteString", "internal/bytealg.IndexString", "internal/abi.NoEscape", "internal/bytealg.MakeNoZero"], unfollowed := true, recurses := true, named := ["unicode/utf8.first", "unicode/utf8.acceptRanges", "internal/bytealg.MaxLen"], plainKeys := false, apart := false, laid := [("unicode/utf8.acceptRanges", laid_unicode_utf8_acceptRanges), ("unicode/utf8.first", laid_unicode_utf8_first)] }
def PatchSafeSaid : Prop := patchSafeRow.holds Tryz.pinned (OpenSpec.ofChange patchSafeSpec)

/-- ITS FALSE NEIGHBOUR: 'it returns false'. Refute it at one input. -/
def patchSafeWrong : ChangeSpec := { name := "patchSafe", fn := fun _ => fun
  | [d1, d2, d3, d4] => { results := [.lit (.bool false)], args := [d1, d2, d3, d4] }
  | _ => none }
def PatchSafeWrongFalsely : Prop := patchSafeRow.holds Tryz.pinned (OpenSpec.ofChange patchSafeWrong)

/-- 'darninglaw23.PatchDoes': WHATEVER THE INPUT: true; the input reads as it did. -/
def patchDoesSpec : ChangeSpec := { name := "patchDoes", fn := fun _ => fun
  | [d1, d2, d3, d4] => { results := [.lit (.bool true)], args := [d1, d2, d3, d4] }
  | _ => none }
def patchDoesRow : OpenClaim := { program := "ytomdgahghdmhbaagreatdoor", sum := "68aa06c4e972a3299e876a501654599a8c8c687e91884d46ad91b22eb154e194", func := "darning/darninglaw23.PatchDoes", spec := "patchDoes", inPlace := ["internal/bytealg.IndexByteString", "internal/bytealg.IndexString", "internal/abi.NoEscape", "internal/bytealg.MakeNoZero"], unfollowed := true, recurses := true, named := ["unicode/utf8.first", "unicode/utf8.acceptRanges", "internal/bytealg.MaxLen"], plainKeys := false, apart := false, laid := [("unicode/utf8.acceptRanges", laid_unicode_utf8_acceptRanges), ("unicode/utf8.first", laid_unicode_utf8_first)] }
def PatchDoesSaid : Prop := patchDoesRow.holds Tryz.pinned (OpenSpec.ofChange patchDoesSpec)

/-- ITS FALSE NEIGHBOUR: 'it returns false'. Refute it at one input. -/
def patchDoesWrong : ChangeSpec := { name := "patchDoes", fn := fun _ => fun
  | [d1, d2, d3, d4] => { results := [.lit (.bool false)], args := [d1, d2, d3, d4] }
  | _ => none }
def PatchDoesWrongFalsely : Prop := patchDoesRow.holds Tryz.pinned (OpenSpec.ofChange patchDoesWrong)

/-- 'darninglaw24.DiffNothing': WHATEVER THE INPUT: true; the input reads as it did. -/
def diffNothingSpec : ChangeSpec := { name := "diffNothing", fn := fun _ => fun
  | [d1, d2, d3, d4, d5] => { results := [.lit (.bool true)], args := [d1, d2, d3, d4, d5] }
  | _ => none }
def diffNothingRow : OpenClaim := { program := "ytomdgahghdmhbaagreatdoor", sum := "68aa06c4e972a3299e876a501654599a8c8c687e91884d46ad91b22eb154e194", func := "darning/darninglaw24.DiffNothing", spec := "diffNothing", inPlace := ["internal/abi.NoEscape", "internal/bytealg.MakeNoZero", "internal/bytealg.IndexByteString", "internal/bytealg.IndexString"], unfollowed := true, recurses := true, named := ["unicode/utf8.first", "unicode/utf8.acceptRanges", "internal/bytealg.MaxLen"], plainKeys := false, apart := false, laid := [("unicode/utf8.acceptRanges", laid_unicode_utf8_acceptRanges), ("unicode/utf8.first", laid_unicode_utf8_first)] }
def DiffNothingSaid : Prop := diffNothingRow.holds Tryz.pinned (OpenSpec.ofChange diffNothingSpec)

/-- ITS FALSE NEIGHBOUR: 'it returns false'. Refute it at one input. -/
def diffNothingWrong : ChangeSpec := { name := "diffNothing", fn := fun _ => fun
  | [d1, d2, d3, d4, d5] => { results := [.lit (.bool false)], args := [d1, d2, d3, d4, d5] }
  | _ => none }
def DiffNothingWrongFalsely : Prop := diffNothingRow.holds Tryz.pinned (OpenSpec.ofChange diffNothingWrong)

/-- 'darninglaw34.FramesMerge': WHATEVER THE INPUT: true; the input reads as it did. -/
def framesMergeSpec : ChangeSpec := { name := "framesMerge", fn := fun _ => fun
  | [d1, d2, d3, d4] => { results := [.lit (.bool true)], args := [d1, d2, d3, d4] }
  | _ => none }
def framesMergeRow : OpenClaim := { program := "ytomdgahghdmhbaagreatdoor", sum := "68aa06c4e972a3299e876a501654599a8c8c687e91884d46ad91b22eb154e194", func := "darning/darninglaw34.FramesMerge", spec := "framesMerge", inPlace := ["internal/bytealg.IndexByteString", "internal/bytealg.IndexString", "internal/abi.NoEscape", "internal/bytealg.MakeNoZero"], unfollowed := true, recurses := true, named := ["unicode/utf8.first", "unicode/utf8.acceptRanges", "internal/bytealg.MaxLen"], plainKeys := false, apart := false, laid := [("unicode/utf8.acceptRanges", laid_unicode_utf8_acceptRanges), ("unicode/utf8.first", laid_unicode_utf8_first)] }
def FramesMergeSaid : Prop := framesMergeRow.holds Tryz.pinned (OpenSpec.ofChange framesMergeSpec)

/-- ITS FALSE NEIGHBOUR: 'it returns false'. Refute it at one input. -/
def framesMergeWrong : ChangeSpec := { name := "framesMerge", fn := fun _ => fun
  | [d1, d2, d3, d4] => { results := [.lit (.bool false)], args := [d1, d2, d3, d4] }
  | _ => none }
def FramesMergeWrongFalsely : Prop := framesMergeRow.holds Tryz.pinned (OpenSpec.ofChange framesMergeWrong)

/-- 'darninglaw34.FramesEach': WHATEVER THE INPUT: true; the input reads as it did. -/
def framesEachSpec : ChangeSpec := { name := "framesEach", fn := fun _ => fun
  | [d1, d2, d3, d4, d5, d6, d7] => { results := [.lit (.bool true)], args := [d1, d2, d3, d4, d5, d6, d7] }
  | _ => none }
def framesEachRow : OpenClaim := { program := "ytomdgahghdmhbaagreatdoor", sum := "68aa06c4e972a3299e876a501654599a8c8c687e91884d46ad91b22eb154e194", func := "darning/darninglaw34.FramesEach", spec := "framesEach", inPlace := ["internal/bytealg.IndexByteString", "internal/bytealg.IndexString", "internal/abi.NoEscape", "internal/bytealg.MakeNoZero"], unfollowed := true, recurses := true, named := ["unicode/utf8.first", "unicode/utf8.acceptRanges", "internal/bytealg.MaxLen"], plainKeys := false, apart := false, laid := [("unicode/utf8.acceptRanges", laid_unicode_utf8_acceptRanges), ("unicode/utf8.first", laid_unicode_utf8_first)] }
def FramesEachSaid : Prop := framesEachRow.holds Tryz.pinned (OpenSpec.ofChange framesEachSpec)

/-- ITS FALSE NEIGHBOUR: 'it returns false'. Refute it at one input. -/
def framesEachWrong : ChangeSpec := { name := "framesEach", fn := fun _ => fun
  | [d1, d2, d3, d4, d5, d6, d7] => { results := [.lit (.bool false)], args := [d1, d2, d3, d4, d5, d6, d7] }
  | _ => none }
def FramesEachWrongFalsely : Prop := framesEachRow.holds Tryz.pinned (OpenSpec.ofChange framesEachWrong)

/-- 'darninglaw25.DeltaMakes': WHATEVER THE INPUT: true; the input reads as it did. -/
def deltaMakesSpec : ChangeSpec := { name := "deltaMakes", fn := fun _ => fun
  | [d1, d2, d3, d4, d5] => { results := [.lit (.bool true)], args := [d1, d2, d3, d4, d5] }
  | _ => none }
def deltaMakesRow : OpenClaim := { program := "ytomdgahghdmhbaagreatdoor", sum := "68aa06c4e972a3299e876a501654599a8c8c687e91884d46ad91b22eb154e194", func := "darning/darninglaw25.DeltaMakes", spec := "deltaMakes", inPlace := ["internal/abi.NoEscape", "internal/bytealg.MakeNoZero", "internal/bytealg.IndexByteString", "internal/bytealg.IndexString"], unfollowed := true, recurses := true, named := ["unicode/utf8.first", "unicode/utf8.acceptRanges", "internal/bytealg.MaxLen"], plainKeys := false, apart := false, laid := [("unicode/utf8.acceptRanges", laid_unicode_utf8_acceptRanges), ("unicode/utf8.first", laid_unicode_utf8_first)] }
def DeltaMakesSaid : Prop := deltaMakesRow.holds Tryz.pinned (OpenSpec.ofChange deltaMakesSpec)

/-- ITS FALSE NEIGHBOUR: 'it returns false'. Refute it at one input. -/
def deltaMakesWrong : ChangeSpec := { name := "deltaMakes", fn := fun _ => fun
  | [d1, d2, d3, d4, d5] => { results := [.lit (.bool false)], args := [d1, d2, d3, d4, d5] }
  | _ => none }
def DeltaMakesWrongFalsely : Prop := deltaMakesRow.holds Tryz.pinned (OpenSpec.ofChange deltaMakesWrong)

/-- 'darninglaw25.DeltaApplies': WHATEVER THE INPUT: true; the input reads as it did. -/
def deltaAppliesSpec : ChangeSpec := { name := "deltaApplies", fn := fun _ => fun
  | [d1, d2, d3, d4, d5] => { results := [.lit (.bool true)], args := [d1, d2, d3, d4, d5] }
  | _ => none }
def deltaAppliesRow : OpenClaim := { program := "ytomdgahghdmhbaagreatdoor", sum := "68aa06c4e972a3299e876a501654599a8c8c687e91884d46ad91b22eb154e194", func := "darning/darninglaw25.DeltaApplies", spec := "deltaApplies", inPlace := ["internal/abi.NoEscape", "internal/bytealg.MakeNoZero", "internal/bytealg.IndexByteString", "internal/bytealg.IndexString"], unfollowed := true, recurses := true, named := ["unicode/utf8.first", "unicode/utf8.acceptRanges", "internal/bytealg.MaxLen"], plainKeys := false, apart := false, laid := [("unicode/utf8.acceptRanges", laid_unicode_utf8_acceptRanges), ("unicode/utf8.first", laid_unicode_utf8_first)] }
def DeltaAppliesSaid : Prop := deltaAppliesRow.holds Tryz.pinned (OpenSpec.ofChange deltaAppliesSpec)

/-- ITS FALSE NEIGHBOUR: 'it returns false'. Refute it at one input. -/
def deltaAppliesWrong : ChangeSpec := { name := "deltaApplies", fn := fun _ => fun
  | [d1, d2, d3, d4, d5] => { results := [.lit (.bool false)], args := [d1, d2, d3, d4, d5] }
  | _ => none }
def DeltaAppliesWrongFalsely : Prop := deltaAppliesRow.holds Tryz.pinned (OpenSpec.ofChange deltaAppliesWrong)

/-- 'darninglaw25.DeltaChain': WHATEVER THE INPUT: true; the input reads as it did. -/
def deltaChainSpec : ChangeSpec := { name := "deltaChain", fn := fun _ => fun
  | [d1, d2, d3, d4, d5, d6] => { results := [.lit (.bool true)], args := [d1, d2, d3, d4, d5, d6] }
  | _ => none }
def deltaChainRow : OpenClaim := { program := "ytomdgahghdmhbaagreatdoor", sum := "68aa06c4e972a3299e876a501654599a8c8c687e91884d46ad91b22eb154e194", func := "darning/darninglaw25.DeltaChain", spec := "deltaChain", inPlace := ["internal/abi.NoEscape", "internal/bytealg.MakeNoZero", "internal/bytealg.IndexByteString", "internal/bytealg.IndexString"], unfollowed := true, recurses := true, named := ["unicode/utf8.first", "unicode/utf8.acceptRanges", "internal/bytealg.MaxLen"], plainKeys := false, apart := false, laid := [("unicode/utf8.acceptRanges", laid_unicode_utf8_acceptRanges), ("unicode/utf8.first", laid_unicode_utf8_first)] }
def DeltaChainSaid : Prop := deltaChainRow.holds Tryz.pinned (OpenSpec.ofChange deltaChainSpec)

/-- ITS FALSE NEIGHBOUR: 'it returns false'. Refute it at one input. -/
def deltaChainWrong : ChangeSpec := { name := "deltaChain", fn := fun _ => fun
  | [d1, d2, d3, d4, d5, d6] => { results := [.lit (.bool false)], args := [d1, d2, d3, d4, d5, d6] }
  | _ => none }
def DeltaChainWrongFalsely : Prop := deltaChainRow.holds Tryz.pinned (OpenSpec.ofChange deltaChainWrong)

/-- 'darninglaw25.DeltaLeads': WHATEVER THE INPUT: true; the input reads as it did. -/
def deltaLeadsSpec : ChangeSpec := { name := "deltaLeads", fn := fun _ => fun
  | [d1, d2, d3, d4, d5] => { results := [.lit (.bool true)], args := [d1, d2, d3, d4, d5] }
  | _ => none }
def deltaLeadsRow : OpenClaim := { program := "ytomdgahghdmhbaagreatdoor", sum := "68aa06c4e972a3299e876a501654599a8c8c687e91884d46ad91b22eb154e194", func := "darning/darninglaw25.DeltaLeads", spec := "deltaLeads", inPlace := ["internal/abi.NoEscape", "internal/bytealg.MakeNoZero", "internal/bytealg.IndexByteString", "internal/bytealg.IndexString"], unfollowed := true, recurses := true, named := ["unicode/utf8.first", "unicode/utf8.acceptRanges", "internal/bytealg.MaxLen"], plainKeys := false, apart := false, laid := [("unicode/utf8.acceptRanges", laid_unicode_utf8_acceptRanges), ("unicode/utf8.first", laid_unicode_utf8_first)] }
def DeltaLeadsSaid : Prop := deltaLeadsRow.holds Tryz.pinned (OpenSpec.ofChange deltaLeadsSpec)

/-- ITS FALSE NEIGHBOUR: 'it returns false'. Refute it at one input. -/
def deltaLeadsWrong : ChangeSpec := { name := "deltaLeads", fn := fun _ => fun
  | [d1, d2, d3, d4, d5] => { results := [.lit (.bool false)], args := [d1, d2, d3, d4, d5] }
  | _ => none }
def DeltaLeadsWrongFalsely : Prop := deltaLeadsRow.holds Tryz.pinned (OpenSpec.ofChange deltaLeadsWrong)

/-- 'darninglaw36.PastNil': WHATEVER THE INPUT: true; the input reads as it did. -/
def pastNilSpec : ChangeSpec := { name := "pastNil", fn := fun _ => fun
  | [d1, d2] => { results := [.lit (.bool true)], args := [d1, d2] }
  | _ => none }
def pastNilRow : OpenClaim := { program := "ytomdgahghdmhbaagreatdoor", sum := "68aa06c4e972a3299e876a501654599a8c8c687e91884d46ad91b22eb154e194", func := "darning/darninglaw36.PastNil", spec := "pastNil", inPlace := ["internal/bytealg.IndexByteString", "internal/bytealg.IndexString", "internal/abi.NoEscape", "internal/bytealg.MakeNoZero"], unfollowed := true, recurses := true, named := ["unicode/utf8.first", "unicode/utf8.acceptRanges", "internal/bytealg.MaxLen"], plainKeys := false, apart := false, laid := [("unicode/utf8.acceptRanges", laid_unicode_utf8_acceptRanges), ("unicode/utf8.first", laid_unicode_utf8_first)] }
def PastNilSaid : Prop := pastNilRow.holds Tryz.pinned (OpenSpec.ofChange pastNilSpec)

/-- ITS FALSE NEIGHBOUR: 'it returns false'. Refute it at one input. -/
def pastNilWrong : ChangeSpec := { name := "pastNil", fn := fun _ => fun
  | [d1, d2] => { results := [.lit (.bool false)], args := [d1, d2] }
  | _ => none }
def PastNilWrongFalsely : Prop := pastNilRow.holds Tryz.pinned (OpenSpec.ofChange pastNilWrong)

/- THE SECOND FORM. 'bulk': how many values and letters a reading holds, each counted each time it is reached (what is shared counts as often as it is met; a slice's spare places count too). A statement '..UptoSaid' is the law's where the arguments, and the package variables that the reading takes, are together of bulk at most 1048576: NARROWER than '..Said'. Prove '..Said' where nothing that the law and all that it calls make is longer than what came in: it says more and counts as full. Else prove '..UptoSaid'. A law counts once. -/
mutual
def uptoBulk {H : Type} : DataW H → Nat
  | .lit (.string bytes) => bytes.length + 1
  | .lit _ => 1
  | .nil => 1
  | .ptr d => uptoBulk d + 1
  | .slice elems spare => uptoBulkAll elems + uptoBulkAll spare + 1
  | .agg parts => uptoBulkAll parts + 1
  | .iface _ d => uptoBulk d + 1
  | .map entries => uptoBulkEntries entries + 1
  | .held _ => 1
def uptoBulkAll {H : Type} : List (DataW H) → Nat
  | [] => 0
  | d :: r => uptoBulk d + uptoBulkAll r
def uptoBulkEntries {H : Type} : List (Lit × DataW H) → Nat
  | [] => 0
  | x :: r => uptoBulkEntry x + uptoBulkEntries r
def uptoBulkEntry {H : Type} : Lit × DataW H → Nat
  | (.string bytes, d) => bytes.length + uptoBulk d + 1
  | (_, d) => uptoBulk d + 1
 end
def uptoSmall : (H : Type) → List (DataW H) → Bool := fun _ ds => decide (uptoBulkAll ds ≤ 1048576)
def OpenSpec.upto (s : _root_.Go.ChangeSpec) : _root_.Go.OpenSpec := { _root_.Go.OpenSpec.ofChange s with cond := some uptoSmall }

/-- 'darninglaw21.UpdateOthers', WHERE WHAT IT READS IS OF BULK AT MOST 1048576: true; the input reads as it did. -/
def updateOthersUptoRow : OpenClaim := { program := "ytomdgahghdmhbaagreatdoor", sum := "68aa06c4e972a3299e876a501654599a8c8c687e91884d46ad91b22eb154e194", func := "darning/darninglaw21.UpdateOthers", spec := "updateOthers", inPlace := ["internal/bytealg.IndexByteString", "internal/bytealg.IndexString", "internal/abi.NoEscape", "internal/bytealg.MakeNoZero"], unfollowed := true, recurses := true, named := ["unicode/utf8.first", "unicode/utf8.acceptRanges", "internal/bytealg.MaxLen"], plainKeys := false, apart := false, laid := [("unicode/utf8.acceptRanges", laid_unicode_utf8_acceptRanges), ("unicode/utf8.first", laid_unicode_utf8_first)], narrowed := true }
def UpdateOthersUptoSaid : Prop := updateOthersUptoRow.holds Tryz.pinned (OpenSpec.upto updateOthersSpec)

/-- 'darninglaw24.DiffWays', WHERE WHAT IT READS IS OF BULK AT MOST 1048576: true; the input reads as it did. -/
def diffWaysUptoRow : OpenClaim := { program := "ytomdgahghdmhbaagreatdoor", sum := "68aa06c4e972a3299e876a501654599a8c8c687e91884d46ad91b22eb154e194", func := "darning/darninglaw24.DiffWays", spec := "diffWays", inPlace := ["internal/abi.NoEscape", "internal/bytealg.MakeNoZero", "internal/bytealg.IndexByteString", "internal/bytealg.IndexString"], unfollowed := true, recurses := true, named := ["unicode/utf8.first", "unicode/utf8.acceptRanges", "internal/bytealg.MaxLen"], plainKeys := false, apart := false, laid := [("unicode/utf8.acceptRanges", laid_unicode_utf8_acceptRanges), ("unicode/utf8.first", laid_unicode_utf8_first)], narrowed := true }
def DiffWaysUptoSaid : Prop := diffWaysUptoRow.holds Tryz.pinned (OpenSpec.upto diffWaysSpec)

/-- 'darninglaw23.PatchSafe', WHERE WHAT IT READS IS OF BULK AT MOST 1048576: true; the input reads as it did. -/
def patchSafeUptoRow : OpenClaim := { program := "ytomdgahghdmhbaagreatdoor", sum := "68aa06c4e972a3299e876a501654599a8c8c687e91884d46ad91b22eb154e194", func := "darning/darninglaw23.PatchSafe", spec := "patchSafe", inPlace := ["internal/bytealg.IndexByteString", "internal/bytealg.IndexString", "internal/abi.NoEscape", "internal/bytealg.MakeNoZero"], unfollowed := true, recurses := true, named := ["unicode/utf8.first", "unicode/utf8.acceptRanges", "internal/bytealg.MaxLen"], plainKeys := false, apart := false, laid := [("unicode/utf8.acceptRanges", laid_unicode_utf8_acceptRanges), ("unicode/utf8.first", laid_unicode_utf8_first)], narrowed := true }
def PatchSafeUptoSaid : Prop := patchSafeUptoRow.holds Tryz.pinned (OpenSpec.upto patchSafeSpec)

/-- 'darninglaw23.PatchDoes', WHERE WHAT IT READS IS OF BULK AT MOST 1048576: true; the input reads as it did. -/
def patchDoesUptoRow : OpenClaim := { program := "ytomdgahghdmhbaagreatdoor", sum := "68aa06c4e972a3299e876a501654599a8c8c687e91884d46ad91b22eb154e194", func := "darning/darninglaw23.PatchDoes", spec := "patchDoes", inPlace := ["internal/bytealg.IndexByteString", "internal/bytealg.IndexString", "internal/abi.NoEscape", "internal/bytealg.MakeNoZero"], unfollowed := true, recurses := true, named := ["unicode/utf8.first", "unicode/utf8.acceptRanges", "internal/bytealg.MaxLen"], plainKeys := false, apart := false, laid := [("unicode/utf8.acceptRanges", laid_unicode_utf8_acceptRanges), ("unicode/utf8.first", laid_unicode_utf8_first)], narrowed := true }
def PatchDoesUptoSaid : Prop := patchDoesUptoRow.holds Tryz.pinned (OpenSpec.upto patchDoesSpec)

/-- 'darninglaw24.DiffNothing', WHERE WHAT IT READS IS OF BULK AT MOST 1048576: true; the input reads as it did. -/
def diffNothingUptoRow : OpenClaim := { program := "ytomdgahghdmhbaagreatdoor", sum := "68aa06c4e972a3299e876a501654599a8c8c687e91884d46ad91b22eb154e194", func := "darning/darninglaw24.DiffNothing", spec := "diffNothing", inPlace := ["internal/abi.NoEscape", "internal/bytealg.MakeNoZero", "internal/bytealg.IndexByteString", "internal/bytealg.IndexString"], unfollowed := true, recurses := true, named := ["unicode/utf8.first", "unicode/utf8.acceptRanges", "internal/bytealg.MaxLen"], plainKeys := false, apart := false, laid := [("unicode/utf8.acceptRanges", laid_unicode_utf8_acceptRanges), ("unicode/utf8.first", laid_unicode_utf8_first)], narrowed := true }
def DiffNothingUptoSaid : Prop := diffNothingUptoRow.holds Tryz.pinned (OpenSpec.upto diffNothingSpec)

/-- 'darninglaw34.FramesMerge', WHERE WHAT IT READS IS OF BULK AT MOST 1048576: true; the input reads as it did. -/
def framesMergeUptoRow : OpenClaim := { program := "ytomdgahghdmhbaagreatdoor", sum := "68aa06c4e972a3299e876a501654599a8c8c687e91884d46ad91b22eb154e194", func := "darning/darninglaw34.FramesMerge", spec := "framesMerge", inPlace := ["internal/bytealg.IndexByteString", "internal/bytealg.IndexString", "internal/abi.NoEscape", "internal/bytealg.MakeNoZero"], unfollowed := true, recurses := true, named := ["unicode/utf8.first", "unicode/utf8.acceptRanges", "internal/bytealg.MaxLen"], plainKeys := false, apart := false, laid := [("unicode/utf8.acceptRanges", laid_unicode_utf8_acceptRanges), ("unicode/utf8.first", laid_unicode_utf8_first)], narrowed := true }
def FramesMergeUptoSaid : Prop := framesMergeUptoRow.holds Tryz.pinned (OpenSpec.upto framesMergeSpec)

/-- 'darninglaw34.FramesEach', WHERE WHAT IT READS IS OF BULK AT MOST 1048576: true; the input reads as it did. -/
def framesEachUptoRow : OpenClaim := { program := "ytomdgahghdmhbaagreatdoor", sum := "68aa06c4e972a3299e876a501654599a8c8c687e91884d46ad91b22eb154e194", func := "darning/darninglaw34.FramesEach", spec := "framesEach", inPlace := ["internal/bytealg.IndexByteString", "internal/bytealg.IndexString", "internal/abi.NoEscape", "internal/bytealg.MakeNoZero"], unfollowed := true, recurses := true, named := ["unicode/utf8.first", "unicode/utf8.acceptRanges", "internal/bytealg.MaxLen"], plainKeys := false, apart := false, laid := [("unicode/utf8.acceptRanges", laid_unicode_utf8_acceptRanges), ("unicode/utf8.first", laid_unicode_utf8_first)], narrowed := true }
def FramesEachUptoSaid : Prop := framesEachUptoRow.holds Tryz.pinned (OpenSpec.upto framesEachSpec)

/-- 'darninglaw25.DeltaMakes', WHERE WHAT IT READS IS OF BULK AT MOST 1048576: true; the input reads as it did. -/
def deltaMakesUptoRow : OpenClaim := { program := "ytomdgahghdmhbaagreatdoor", sum := "68aa06c4e972a3299e876a501654599a8c8c687e91884d46ad91b22eb154e194", func := "darning/darninglaw25.DeltaMakes", spec := "deltaMakes", inPlace := ["internal/abi.NoEscape", "internal/bytealg.MakeNoZero", "internal/bytealg.IndexByteString", "internal/bytealg.IndexString"], unfollowed := true, recurses := true, named := ["unicode/utf8.first", "unicode/utf8.acceptRanges", "internal/bytealg.MaxLen"], plainKeys := false, apart := false, laid := [("unicode/utf8.acceptRanges", laid_unicode_utf8_acceptRanges), ("unicode/utf8.first", laid_unicode_utf8_first)], narrowed := true }
def DeltaMakesUptoSaid : Prop := deltaMakesUptoRow.holds Tryz.pinned (OpenSpec.upto deltaMakesSpec)

/-- 'darninglaw25.DeltaApplies', WHERE WHAT IT READS IS OF BULK AT MOST 1048576: true; the input reads as it did. -/
def deltaAppliesUptoRow : OpenClaim := { program := "ytomdgahghdmhbaagreatdoor", sum := "68aa06c4e972a3299e876a501654599a8c8c687e91884d46ad91b22eb154e194", func := "darning/darninglaw25.DeltaApplies", spec := "deltaApplies", inPlace := ["internal/abi.NoEscape", "internal/bytealg.MakeNoZero", "internal/bytealg.IndexByteString", "internal/bytealg.IndexString"], unfollowed := true, recurses := true, named := ["unicode/utf8.first", "unicode/utf8.acceptRanges", "internal/bytealg.MaxLen"], plainKeys := false, apart := false, laid := [("unicode/utf8.acceptRanges", laid_unicode_utf8_acceptRanges), ("unicode/utf8.first", laid_unicode_utf8_first)], narrowed := true }
def DeltaAppliesUptoSaid : Prop := deltaAppliesUptoRow.holds Tryz.pinned (OpenSpec.upto deltaAppliesSpec)

/-- 'darninglaw25.DeltaChain', WHERE WHAT IT READS IS OF BULK AT MOST 1048576: true; the input reads as it did. -/
def deltaChainUptoRow : OpenClaim := { program := "ytomdgahghdmhbaagreatdoor", sum := "68aa06c4e972a3299e876a501654599a8c8c687e91884d46ad91b22eb154e194", func := "darning/darninglaw25.DeltaChain", spec := "deltaChain", inPlace := ["internal/abi.NoEscape", "internal/bytealg.MakeNoZero", "internal/bytealg.IndexByteString", "internal/bytealg.IndexString"], unfollowed := true, recurses := true, named := ["unicode/utf8.first", "unicode/utf8.acceptRanges", "internal/bytealg.MaxLen"], plainKeys := false, apart := false, laid := [("unicode/utf8.acceptRanges", laid_unicode_utf8_acceptRanges), ("unicode/utf8.first", laid_unicode_utf8_first)], narrowed := true }
def DeltaChainUptoSaid : Prop := deltaChainUptoRow.holds Tryz.pinned (OpenSpec.upto deltaChainSpec)

/-- 'darninglaw25.DeltaLeads', WHERE WHAT IT READS IS OF BULK AT MOST 1048576: true; the input reads as it did. -/
def deltaLeadsUptoRow : OpenClaim := { program := "ytomdgahghdmhbaagreatdoor", sum := "68aa06c4e972a3299e876a501654599a8c8c687e91884d46ad91b22eb154e194", func := "darning/darninglaw25.DeltaLeads", spec := "deltaLeads", inPlace := ["internal/abi.NoEscape", "internal/bytealg.MakeNoZero", "internal/bytealg.IndexByteString", "internal/bytealg.IndexString"], unfollowed := true, recurses := true, named := ["unicode/utf8.first", "unicode/utf8.acceptRanges", "internal/bytealg.MaxLen"], plainKeys := false, apart := false, laid := [("unicode/utf8.acceptRanges", laid_unicode_utf8_acceptRanges), ("unicode/utf8.first", laid_unicode_utf8_first)], narrowed := true }
def DeltaLeadsUptoSaid : Prop := deltaLeadsUptoRow.holds Tryz.pinned (OpenSpec.upto deltaLeadsSpec)

/-- 'darninglaw36.PastNil', WHERE WHAT IT READS IS OF BULK AT MOST 1048576: true; the input reads as it did. -/
def pastNilUptoRow : OpenClaim := { program := "ytomdgahghdmhbaagreatdoor", sum := "68aa06c4e972a3299e876a501654599a8c8c687e91884d46ad91b22eb154e194", func := "darning/darninglaw36.PastNil", spec := "pastNil", inPlace := ["internal/bytealg.IndexByteString", "internal/bytealg.IndexString", "internal/abi.NoEscape", "internal/bytealg.MakeNoZero"], unfollowed := true, recurses := true, named := ["unicode/utf8.first", "unicode/utf8.acceptRanges", "internal/bytealg.MaxLen"], plainKeys := false, apart := false, laid := [("unicode/utf8.acceptRanges", laid_unicode_utf8_acceptRanges), ("unicode/utf8.first", laid_unicode_utf8_first)], narrowed := true }
def PastNilUptoSaid : Prop := pastNilUptoRow.holds Tryz.pinned (OpenSpec.upto pastNilSpec)

end Rows
end Go.Proofs.YtomdgahghdmhbaaGreatDoor
