/-
  DERIVED. GIVEN WITH THE SEED: THE CARDS: each row of YtomdgahghdmhbaaGreatDoorRows.lean that lists a variable, with what it lists TIED to the program's text (the seventh form; the later family's looks); each row that meets fmt, with fmt's text TOLD by the authors' own Lean function (tested against real Go, not proved from fmt's source: count such statements apart). THE CARD IS WHAT COUNTS. Prove the row's statement (the work); the ties are given (YtomdgahghdmhbaaGreatDoorTie.lean); close each card by the builder's one call (the guide's Derived/Test/ToyasCard.lean, 'card_holds'). Laid BY PROGRAM, IN A SANDBOX (cutbox-door.mjs). By AI agents, Wed Nov 11 2026. No macro, syntax, notation, axiom, sorry.
-/
import Derived.Test.YtomdgahghdmhbaaGreatDoorRows
import GoSem.ClaimSeven
namespace Go.Proofs.YtomdgahghdmhbaaGreatDoor
namespace Rows

/-- THE TIED CARD OF 'darninglaw21.UpdateOthers'. -/
def updateOthersCard : Claim7 := { stood := { row := updateOthersRow, standIns := [], harness := (true, "2e1e46162246531870393465a69192072bf8c92c94bd46f5283d1e5e25ec29f6"), looks := false }, kinds := [], alts := [], laidByText := true, laidKinds := [.data, .pinned], laidTests := true, laidLooks := .later }
def UpdateOthersCardSaid : Prop := Claim7.holds Tryz.pinned (.plain (OpenSpec.ofChange updateOthersSpec)) updateOthersCard

/-- THE TIED CARD OF 'darninglaw24.DiffWays'. -/
def diffWaysCard : Claim7 := { stood := { row := diffWaysRow, standIns := [], harness := (true, "2e1e46162246531870393465a69192072bf8c92c94bd46f5283d1e5e25ec29f6"), looks := false }, kinds := [], alts := [], laidByText := true, laidKinds := [.data, .pinned], laidTests := true, laidLooks := .later }
def DiffWaysCardSaid : Prop := Claim7.holds Tryz.pinned (.plain (OpenSpec.ofChange diffWaysSpec)) diffWaysCard

/-- THE TIED CARD OF 'darninglaw23.PatchSafe'. -/
def patchSafeCard : Claim7 := { stood := { row := patchSafeRow, standIns := [], harness := (true, "2e1e46162246531870393465a69192072bf8c92c94bd46f5283d1e5e25ec29f6"), looks := false }, kinds := [], alts := [], laidByText := true, laidKinds := [.data, .pinned], laidTests := true, laidLooks := .later }
def PatchSafeCardSaid : Prop := Claim7.holds Tryz.pinned (.plain (OpenSpec.ofChange patchSafeSpec)) patchSafeCard

/-- THE TIED CARD OF 'darninglaw23.PatchDoes'. -/
def patchDoesCard : Claim7 := { stood := { row := patchDoesRow, standIns := [], harness := (true, "2e1e46162246531870393465a69192072bf8c92c94bd46f5283d1e5e25ec29f6"), looks := false }, kinds := [], alts := [], laidByText := true, laidKinds := [.data, .pinned], laidTests := true, laidLooks := .later }
def PatchDoesCardSaid : Prop := Claim7.holds Tryz.pinned (.plain (OpenSpec.ofChange patchDoesSpec)) patchDoesCard

/-- THE TIED CARD OF 'darninglaw24.DiffNothing'. -/
def diffNothingCard : Claim7 := { stood := { row := diffNothingRow, standIns := [], harness := (true, "2e1e46162246531870393465a69192072bf8c92c94bd46f5283d1e5e25ec29f6"), looks := false }, kinds := [], alts := [], laidByText := true, laidKinds := [.data, .pinned], laidTests := true, laidLooks := .later }
def DiffNothingCardSaid : Prop := Claim7.holds Tryz.pinned (.plain (OpenSpec.ofChange diffNothingSpec)) diffNothingCard

/-- THE TIED CARD OF 'darninglaw34.FramesMerge'. -/
def framesMergeCard : Claim7 := { stood := { row := framesMergeRow, standIns := [], harness := (true, "2e1e46162246531870393465a69192072bf8c92c94bd46f5283d1e5e25ec29f6"), looks := false }, kinds := [], alts := [], laidByText := true, laidKinds := [.data, .pinned], laidTests := true, laidLooks := .later }
def FramesMergeCardSaid : Prop := Claim7.holds Tryz.pinned (.plain (OpenSpec.ofChange framesMergeSpec)) framesMergeCard

/-- THE TIED CARD OF 'darninglaw34.FramesEach'. -/
def framesEachCard : Claim7 := { stood := { row := framesEachRow, standIns := [], harness := (true, "2e1e46162246531870393465a69192072bf8c92c94bd46f5283d1e5e25ec29f6"), looks := false }, kinds := [], alts := [], laidByText := true, laidKinds := [.data, .pinned], laidTests := true, laidLooks := .later }
def FramesEachCardSaid : Prop := Claim7.holds Tryz.pinned (.plain (OpenSpec.ofChange framesEachSpec)) framesEachCard

/-- THE TIED CARD OF 'darninglaw25.DeltaMakes'. -/
def deltaMakesCard : Claim7 := { stood := { row := deltaMakesRow, standIns := [], harness := (true, "2e1e46162246531870393465a69192072bf8c92c94bd46f5283d1e5e25ec29f6"), looks := false }, kinds := [], alts := [], laidByText := true, laidKinds := [.data, .pinned], laidTests := true, laidLooks := .later }
def DeltaMakesCardSaid : Prop := Claim7.holds Tryz.pinned (.plain (OpenSpec.ofChange deltaMakesSpec)) deltaMakesCard

/-- THE TIED CARD OF 'darninglaw25.DeltaApplies'. -/
def deltaAppliesCard : Claim7 := { stood := { row := deltaAppliesRow, standIns := [], harness := (true, "2e1e46162246531870393465a69192072bf8c92c94bd46f5283d1e5e25ec29f6"), looks := false }, kinds := [], alts := [], laidByText := true, laidKinds := [.data, .pinned], laidTests := true, laidLooks := .later }
def DeltaAppliesCardSaid : Prop := Claim7.holds Tryz.pinned (.plain (OpenSpec.ofChange deltaAppliesSpec)) deltaAppliesCard

/-- THE TIED CARD OF 'darninglaw25.DeltaChain'. -/
def deltaChainCard : Claim7 := { stood := { row := deltaChainRow, standIns := [], harness := (true, "2e1e46162246531870393465a69192072bf8c92c94bd46f5283d1e5e25ec29f6"), looks := false }, kinds := [], alts := [], laidByText := true, laidKinds := [.data, .pinned], laidTests := true, laidLooks := .later }
def DeltaChainCardSaid : Prop := Claim7.holds Tryz.pinned (.plain (OpenSpec.ofChange deltaChainSpec)) deltaChainCard

/-- THE TIED CARD OF 'darninglaw25.DeltaLeads'. -/
def deltaLeadsCard : Claim7 := { stood := { row := deltaLeadsRow, standIns := [], harness := (true, "2e1e46162246531870393465a69192072bf8c92c94bd46f5283d1e5e25ec29f6"), looks := false }, kinds := [], alts := [], laidByText := true, laidKinds := [.data, .pinned], laidTests := true, laidLooks := .later }
def DeltaLeadsCardSaid : Prop := Claim7.holds Tryz.pinned (.plain (OpenSpec.ofChange deltaLeadsSpec)) deltaLeadsCard

/-- THE TIED CARD OF 'darninglaw36.PastNil'. -/
def pastNilCard : Claim7 := { stood := { row := pastNilRow, standIns := [], harness := (true, "2e1e46162246531870393465a69192072bf8c92c94bd46f5283d1e5e25ec29f6"), looks := false }, kinds := [], alts := [], laidByText := true, laidKinds := [.data, .pinned], laidTests := true, laidLooks := .later }
def PastNilCardSaid : Prop := Claim7.holds Tryz.pinned (.plain (OpenSpec.ofChange pastNilSpec)) pastNilCard

/-- THE SECOND FORM's CARD OF 'darninglaw21.UpdateOthers'. -/
def updateOthersUptoCard : Claim7 := { stood := { row := updateOthersUptoRow, standIns := [], harness := (true, "2e1e46162246531870393465a69192072bf8c92c94bd46f5283d1e5e25ec29f6"), looks := false }, kinds := [], alts := [], laidByText := true, laidKinds := [.data, .pinned], laidTests := true, laidLooks := .later }
def UpdateOthersUptoCardSaid : Prop := Claim7.holds Tryz.pinned (.plain (OpenSpec.upto updateOthersSpec)) updateOthersUptoCard

/-- THE SECOND FORM's CARD OF 'darninglaw24.DiffWays'. -/
def diffWaysUptoCard : Claim7 := { stood := { row := diffWaysUptoRow, standIns := [], harness := (true, "2e1e46162246531870393465a69192072bf8c92c94bd46f5283d1e5e25ec29f6"), looks := false }, kinds := [], alts := [], laidByText := true, laidKinds := [.data, .pinned], laidTests := true, laidLooks := .later }
def DiffWaysUptoCardSaid : Prop := Claim7.holds Tryz.pinned (.plain (OpenSpec.upto diffWaysSpec)) diffWaysUptoCard

/-- THE SECOND FORM's CARD OF 'darninglaw23.PatchSafe'. -/
def patchSafeUptoCard : Claim7 := { stood := { row := patchSafeUptoRow, standIns := [], harness := (true, "2e1e46162246531870393465a69192072bf8c92c94bd46f5283d1e5e25ec29f6"), looks := false }, kinds := [], alts := [], laidByText := true, laidKinds := [.data, .pinned], laidTests := true, laidLooks := .later }
def PatchSafeUptoCardSaid : Prop := Claim7.holds Tryz.pinned (.plain (OpenSpec.upto patchSafeSpec)) patchSafeUptoCard

/-- THE SECOND FORM's CARD OF 'darninglaw23.PatchDoes'. -/
def patchDoesUptoCard : Claim7 := { stood := { row := patchDoesUptoRow, standIns := [], harness := (true, "2e1e46162246531870393465a69192072bf8c92c94bd46f5283d1e5e25ec29f6"), looks := false }, kinds := [], alts := [], laidByText := true, laidKinds := [.data, .pinned], laidTests := true, laidLooks := .later }
def PatchDoesUptoCardSaid : Prop := Claim7.holds Tryz.pinned (.plain (OpenSpec.upto patchDoesSpec)) patchDoesUptoCard

/-- THE SECOND FORM's CARD OF 'darninglaw24.DiffNothing'. -/
def diffNothingUptoCard : Claim7 := { stood := { row := diffNothingUptoRow, standIns := [], harness := (true, "2e1e46162246531870393465a69192072bf8c92c94bd46f5283d1e5e25ec29f6"), looks := false }, kinds := [], alts := [], laidByText := true, laidKinds := [.data, .pinned], laidTests := true, laidLooks := .later }
def DiffNothingUptoCardSaid : Prop := Claim7.holds Tryz.pinned (.plain (OpenSpec.upto diffNothingSpec)) diffNothingUptoCard

/-- THE SECOND FORM's CARD OF 'darninglaw34.FramesMerge'. -/
def framesMergeUptoCard : Claim7 := { stood := { row := framesMergeUptoRow, standIns := [], harness := (true, "2e1e46162246531870393465a69192072bf8c92c94bd46f5283d1e5e25ec29f6"), looks := false }, kinds := [], alts := [], laidByText := true, laidKinds := [.data, .pinned], laidTests := true, laidLooks := .later }
def FramesMergeUptoCardSaid : Prop := Claim7.holds Tryz.pinned (.plain (OpenSpec.upto framesMergeSpec)) framesMergeUptoCard

/-- THE SECOND FORM's CARD OF 'darninglaw34.FramesEach'. -/
def framesEachUptoCard : Claim7 := { stood := { row := framesEachUptoRow, standIns := [], harness := (true, "2e1e46162246531870393465a69192072bf8c92c94bd46f5283d1e5e25ec29f6"), looks := false }, kinds := [], alts := [], laidByText := true, laidKinds := [.data, .pinned], laidTests := true, laidLooks := .later }
def FramesEachUptoCardSaid : Prop := Claim7.holds Tryz.pinned (.plain (OpenSpec.upto framesEachSpec)) framesEachUptoCard

/-- THE SECOND FORM's CARD OF 'darninglaw25.DeltaMakes'. -/
def deltaMakesUptoCard : Claim7 := { stood := { row := deltaMakesUptoRow, standIns := [], harness := (true, "2e1e46162246531870393465a69192072bf8c92c94bd46f5283d1e5e25ec29f6"), looks := false }, kinds := [], alts := [], laidByText := true, laidKinds := [.data, .pinned], laidTests := true, laidLooks := .later }
def DeltaMakesUptoCardSaid : Prop := Claim7.holds Tryz.pinned (.plain (OpenSpec.upto deltaMakesSpec)) deltaMakesUptoCard

/-- THE SECOND FORM's CARD OF 'darninglaw25.DeltaApplies'. -/
def deltaAppliesUptoCard : Claim7 := { stood := { row := deltaAppliesUptoRow, standIns := [], harness := (true, "2e1e46162246531870393465a69192072bf8c92c94bd46f5283d1e5e25ec29f6"), looks := false }, kinds := [], alts := [], laidByText := true, laidKinds := [.data, .pinned], laidTests := true, laidLooks := .later }
def DeltaAppliesUptoCardSaid : Prop := Claim7.holds Tryz.pinned (.plain (OpenSpec.upto deltaAppliesSpec)) deltaAppliesUptoCard

/-- THE SECOND FORM's CARD OF 'darninglaw25.DeltaChain'. -/
def deltaChainUptoCard : Claim7 := { stood := { row := deltaChainUptoRow, standIns := [], harness := (true, "2e1e46162246531870393465a69192072bf8c92c94bd46f5283d1e5e25ec29f6"), looks := false }, kinds := [], alts := [], laidByText := true, laidKinds := [.data, .pinned], laidTests := true, laidLooks := .later }
def DeltaChainUptoCardSaid : Prop := Claim7.holds Tryz.pinned (.plain (OpenSpec.upto deltaChainSpec)) deltaChainUptoCard

/-- THE SECOND FORM's CARD OF 'darninglaw25.DeltaLeads'. -/
def deltaLeadsUptoCard : Claim7 := { stood := { row := deltaLeadsUptoRow, standIns := [], harness := (true, "2e1e46162246531870393465a69192072bf8c92c94bd46f5283d1e5e25ec29f6"), looks := false }, kinds := [], alts := [], laidByText := true, laidKinds := [.data, .pinned], laidTests := true, laidLooks := .later }
def DeltaLeadsUptoCardSaid : Prop := Claim7.holds Tryz.pinned (.plain (OpenSpec.upto deltaLeadsSpec)) deltaLeadsUptoCard

/-- THE SECOND FORM's CARD OF 'darninglaw36.PastNil'. -/
def pastNilUptoCard : Claim7 := { stood := { row := pastNilUptoRow, standIns := [], harness := (true, "2e1e46162246531870393465a69192072bf8c92c94bd46f5283d1e5e25ec29f6"), looks := false }, kinds := [], alts := [], laidByText := true, laidKinds := [.data, .pinned], laidTests := true, laidLooks := .later }
def PastNilUptoCardSaid : Prop := Claim7.holds Tryz.pinned (.plain (OpenSpec.upto pastNilSpec)) pastNilUptoCard
end Rows
end Go.Proofs.YtomdgahghdmhbaaGreatDoor
