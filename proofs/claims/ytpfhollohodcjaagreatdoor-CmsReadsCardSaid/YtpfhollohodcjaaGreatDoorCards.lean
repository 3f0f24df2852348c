/-
  DERIVED. GIVEN WITH THE SEED: THE CARDS: each row of YtpfhollohodcjaaGreatDoorRows.lean that lists a variable, with what it lists TIED to the program's text (the seventh form; the later family's looks); each row that meets fmt, with fmt's text TOLD by the authors' own Lean function (tested against real Go, not proved from fmt's source: count such statements apart). THE CARD IS WHAT COUNTS. Prove the row's statement (the work); the ties are given (YtpfhollohodcjaaGreatDoorTie.lean); close each card by the builder's one call (the guide's Derived/Test/ToyasCard.lean, 'card_holds'). Laid BY PROGRAM, IN A SANDBOX (cutbox-door.mjs). By AI agents, Wed Nov 11 2026. No macro, syntax, notation, axiom, sorry.
-/
import Derived.Test.YtpfhollohodcjaaGreatDoorRows
import GoSem.ClaimSeven
namespace Go.Proofs.YtpfhollohodcjaaGreatDoor
namespace Rows

/-- THE TIED CARD OF 'pyxislaw23.CmsReads'. -/
def cmsReadsCard : Claim7 := { stood := { row := cmsReadsRow, standIns := [], harness := (true, "042e6b3965ebfa509e8ba14aca86bf9de3e175d1c608b6ad3c1769c4cb57d4f1"), looks := true }, kinds := [], alts := [], laidByText := true, laidKinds := [.data, .handle, .pinned], laidTests := true, laidLooks := .later }
def CmsReadsCardSaid : Prop := Claim7.holds Tryz.pinned (.plain (OpenSpec.ofChange cmsReadsSpec)) cmsReadsCard

/-- THE TIED CARD OF 'pyxislaw23.CmsTells'. -/
def cmsTellsCard : Claim7 := { stood := { row := cmsTellsRow, standIns := [], harness := (true, "042e6b3965ebfa509e8ba14aca86bf9de3e175d1c608b6ad3c1769c4cb57d4f1"), looks := true }, kinds := [], alts := [], laidByText := true, laidKinds := [.data, .handle, .pinned], laidTests := true, laidLooks := .later }
def CmsTellsCardSaid : Prop := Claim7.holds Tryz.pinned (.plain (OpenSpec.ofChange cmsTellsSpec)) cmsTellsCard

/-- THE TIED CARD OF 'pyxislaw23.CmsBack'. -/
def cmsBackCard : Claim7 := { stood := { row := cmsBackRow, standIns := [], harness := (true, "042e6b3965ebfa509e8ba14aca86bf9de3e175d1c608b6ad3c1769c4cb57d4f1"), looks := true }, kinds := [], alts := [], laidByText := true, laidKinds := [.data, .handle, .pinned], laidTests := true, laidLooks := .later }
def CmsBackCardSaid : Prop := Claim7.holds Tryz.pinned (.plain (OpenSpec.ofChange cmsBackSpec)) cmsBackCard

/-- THE TIED CARD OF 'pyxislaw23.CmsOneWay'. -/
def cmsOneWayCard : Claim7 := { stood := { row := cmsOneWayRow, standIns := [], harness := (true, "042e6b3965ebfa509e8ba14aca86bf9de3e175d1c608b6ad3c1769c4cb57d4f1"), looks := true }, kinds := [], alts := [], laidByText := true, laidKinds := [.data, .handle, .pinned], laidTests := true, laidLooks := .later }
def CmsOneWayCardSaid : Prop := Claim7.holds Tryz.pinned (.plain (OpenSpec.ofChange cmsOneWaySpec)) cmsOneWayCard

/-- THE TIED CARD OF 'pyxislaw23.CmsAttributes'. -/
def cmsAttributesCard : Claim7 := { stood := { row := cmsAttributesRow, standIns := [], harness := (true, "042e6b3965ebfa509e8ba14aca86bf9de3e175d1c608b6ad3c1769c4cb57d4f1"), looks := true }, kinds := [], alts := [], laidByText := true, laidKinds := [.data, .handle, .data, .data, .pinned], laidTests := true, laidLooks := .later }
def CmsAttributesCardSaid : Prop := Claim7.holds Tryz.pinned (.plain (OpenSpec.ofChange cmsAttributesSpec)) cmsAttributesCard

/-- THE TIED CARD OF 'pyxislaw23.CmsSorted'. -/
def cmsSortedCard : Claim7 := { stood := { row := cmsSortedRow, standIns := [], harness := (true, "042e6b3965ebfa509e8ba14aca86bf9de3e175d1c608b6ad3c1769c4cb57d4f1"), looks := true }, kinds := [], alts := [], laidByText := true, laidKinds := [.data, .handle, .pinned], laidTests := true, laidLooks := .later }
def CmsSortedCardSaid : Prop := Claim7.holds Tryz.pinned (.plain (OpenSpec.ofChange cmsSortedSpec)) cmsSortedCard

/-- THE SECOND FORM's CARD OF 'pyxislaw23.CmsReads'. -/
def cmsReadsUptoCard : Claim7 := { stood := { row := cmsReadsUptoRow, standIns := [], harness := (true, "042e6b3965ebfa509e8ba14aca86bf9de3e175d1c608b6ad3c1769c4cb57d4f1"), looks := true }, kinds := [], alts := [], laidByText := true, laidKinds := [.data, .handle, .pinned], laidTests := true, laidLooks := .later }
def CmsReadsUptoCardSaid : Prop := Claim7.holds Tryz.pinned (.plain (OpenSpec.upto cmsReadsSpec)) cmsReadsUptoCard

/-- THE SECOND FORM's CARD OF 'pyxislaw23.CmsTells'. -/
def cmsTellsUptoCard : Claim7 := { stood := { row := cmsTellsUptoRow, standIns := [], harness := (true, "042e6b3965ebfa509e8ba14aca86bf9de3e175d1c608b6ad3c1769c4cb57d4f1"), looks := true }, kinds := [], alts := [], laidByText := true, laidKinds := [.data, .handle, .pinned], laidTests := true, laidLooks := .later }
def CmsTellsUptoCardSaid : Prop := Claim7.holds Tryz.pinned (.plain (OpenSpec.upto cmsTellsSpec)) cmsTellsUptoCard

/-- THE SECOND FORM's CARD OF 'pyxislaw23.CmsBack'. -/
def cmsBackUptoCard : Claim7 := { stood := { row := cmsBackUptoRow, standIns := [], harness := (true, "042e6b3965ebfa509e8ba14aca86bf9de3e175d1c608b6ad3c1769c4cb57d4f1"), looks := true }, kinds := [], alts := [], laidByText := true, laidKinds := [.data, .handle, .pinned], laidTests := true, laidLooks := .later }
def CmsBackUptoCardSaid : Prop := Claim7.holds Tryz.pinned (.plain (OpenSpec.upto cmsBackSpec)) cmsBackUptoCard

/-- THE SECOND FORM's CARD OF 'pyxislaw23.CmsOneWay'. -/
def cmsOneWayUptoCard : Claim7 := { stood := { row := cmsOneWayUptoRow, standIns := [], harness := (true, "042e6b3965ebfa509e8ba14aca86bf9de3e175d1c608b6ad3c1769c4cb57d4f1"), looks := true }, kinds := [], alts := [], laidByText := true, laidKinds := [.data, .handle, .pinned], laidTests := true, laidLooks := .later }
def CmsOneWayUptoCardSaid : Prop := Claim7.holds Tryz.pinned (.plain (OpenSpec.upto cmsOneWaySpec)) cmsOneWayUptoCard

/-- THE SECOND FORM's CARD OF 'pyxislaw23.CmsAttributes'. -/
def cmsAttributesUptoCard : Claim7 := { stood := { row := cmsAttributesUptoRow, standIns := [], harness := (true, "042e6b3965ebfa509e8ba14aca86bf9de3e175d1c608b6ad3c1769c4cb57d4f1"), looks := true }, kinds := [], alts := [], laidByText := true, laidKinds := [.data, .handle, .data, .data, .pinned], laidTests := true, laidLooks := .later }
def CmsAttributesUptoCardSaid : Prop := Claim7.holds Tryz.pinned (.plain (OpenSpec.upto cmsAttributesSpec)) cmsAttributesUptoCard

/-- THE SECOND FORM's CARD OF 'pyxislaw23.CmsSorted'. -/
def cmsSortedUptoCard : Claim7 := { stood := { row := cmsSortedUptoRow, standIns := [], harness := (true, "042e6b3965ebfa509e8ba14aca86bf9de3e175d1c608b6ad3c1769c4cb57d4f1"), looks := true }, kinds := [], alts := [], laidByText := true, laidKinds := [.data, .handle, .pinned], laidTests := true, laidLooks := .later }
def CmsSortedUptoCardSaid : Prop := Claim7.holds Tryz.pinned (.plain (OpenSpec.upto cmsSortedSpec)) cmsSortedUptoCard
end Rows
end Go.Proofs.YtpfhollohodcjaaGreatDoor
