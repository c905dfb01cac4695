/-
  DERIVED. GIVEN WITH THE SEED: THE CARDS: each row of YtgepkelfblhpnaaGreatDoorRows.lean that lists a variable, with what it lists TIED to the program's text (the seventh form; the later family's looks); each row that meets fmt, with fmt's text TOLD by the authors' own Lean function (tested against real Go, not proved from fmt's source: count such statements apart). THE CARD IS WHAT COUNTS. Prove the row's statement (the work); the ties are given (YtgepkelfblhpnaaGreatDoorTie.lean); close each card by the builder's one call (the guide's Derived/Test/ToyasCard.lean, 'card_holds'). Laid BY PROGRAM, IN A SANDBOX (cutbox-door.mjs). By AI agents, Wed Nov 11 2026. No macro, syntax, notation, axiom, sorry.
-/
import Derived.Test.YtgepkelfblhpnaaGreatDoorRows
import GoSem.ClaimSeven
namespace Go.Proofs.YtgepkelfblhpnaaGreatDoor
namespace Rows

/-- THE TIED CARD OF 'midstreamlaw21.BuildImages'. -/
def buildImagesCard : Claim7 := { stood := { row := buildImagesRow, standIns := [], harness := (true, "09a6285040c97843b821b0488832074edcb259f7bef496753378f3fd42915515"), looks := false }, kinds := [], alts := [], laidByText := true, laidKinds := [.data], laidTests := true, laidLooks := .later }
def BuildImagesCardSaid : Prop := Claim7.holds Tryz.pinned (.plain (OpenSpec.ofChange buildImagesSpec)) buildImagesCard

/-- THE TIED CARD OF 'midstreamlaw21.BuildAgain'. -/
def buildAgainCard : Claim7 := { stood := { row := buildAgainRow, standIns := [], harness := (true, "09a6285040c97843b821b0488832074edcb259f7bef496753378f3fd42915515"), looks := false }, kinds := [], alts := [], laidByText := true, laidKinds := [.data], laidTests := true, laidLooks := .later }
def BuildAgainCardSaid : Prop := Claim7.holds Tryz.pinned (.plain (OpenSpec.ofChange buildAgainSpec)) buildAgainCard

/-- THE TIED CARD OF 'midstreamlaw21.BuildUpgrades'. -/
def buildUpgradesCard : Claim7 := { stood := { row := buildUpgradesRow, standIns := [], harness := (true, "09a6285040c97843b821b0488832074edcb259f7bef496753378f3fd42915515"), looks := false }, kinds := [], alts := [], laidByText := true, laidKinds := [.data], laidTests := true, laidLooks := .later }
def BuildUpgradesCardSaid : Prop := Claim7.holds Tryz.pinned (.plain (OpenSpec.ofChange buildUpgradesSpec)) buildUpgradesCard

/-- THE TIED CARD OF 'midstreamlaw21.BuildTells'. -/
def buildTellsCard : Claim7 := { stood := { row := buildTellsRow, standIns := [], harness := (true, "09a6285040c97843b821b0488832074edcb259f7bef496753378f3fd42915515"), looks := false }, kinds := [], alts := [], laidByText := true, laidKinds := [.data], laidTests := true, laidLooks := .later }
def BuildTellsCardSaid : Prop := Claim7.holds Tryz.pinned (.plain (OpenSpec.ofChange buildTellsSpec)) buildTellsCard

/-- THE SECOND FORM's CARD OF 'midstreamlaw21.BuildImages'. -/
def buildImagesUptoCard : Claim7 := { stood := { row := buildImagesUptoRow, standIns := [], harness := (true, "09a6285040c97843b821b0488832074edcb259f7bef496753378f3fd42915515"), looks := false }, kinds := [], alts := [], laidByText := true, laidKinds := [.data], laidTests := true, laidLooks := .later }
def BuildImagesUptoCardSaid : Prop := Claim7.holds Tryz.pinned (.plain (OpenSpec.upto buildImagesSpec)) buildImagesUptoCard

/-- THE SECOND FORM's CARD OF 'midstreamlaw21.BuildAgain'. -/
def buildAgainUptoCard : Claim7 := { stood := { row := buildAgainUptoRow, standIns := [], harness := (true, "09a6285040c97843b821b0488832074edcb259f7bef496753378f3fd42915515"), looks := false }, kinds := [], alts := [], laidByText := true, laidKinds := [.data], laidTests := true, laidLooks := .later }
def BuildAgainUptoCardSaid : Prop := Claim7.holds Tryz.pinned (.plain (OpenSpec.upto buildAgainSpec)) buildAgainUptoCard

/-- THE SECOND FORM's CARD OF 'midstreamlaw21.BuildUpgrades'. -/
def buildUpgradesUptoCard : Claim7 := { stood := { row := buildUpgradesUptoRow, standIns := [], harness := (true, "09a6285040c97843b821b0488832074edcb259f7bef496753378f3fd42915515"), looks := false }, kinds := [], alts := [], laidByText := true, laidKinds := [.data], laidTests := true, laidLooks := .later }
def BuildUpgradesUptoCardSaid : Prop := Claim7.holds Tryz.pinned (.plain (OpenSpec.upto buildUpgradesSpec)) buildUpgradesUptoCard

/-- THE SECOND FORM's CARD OF 'midstreamlaw21.BuildTells'. -/
def buildTellsUptoCard : Claim7 := { stood := { row := buildTellsUptoRow, standIns := [], harness := (true, "09a6285040c97843b821b0488832074edcb259f7bef496753378f3fd42915515"), looks := false }, kinds := [], alts := [], laidByText := true, laidKinds := [.data], laidTests := true, laidLooks := .later }
def BuildTellsUptoCardSaid : Prop := Claim7.holds Tryz.pinned (.plain (OpenSpec.upto buildTellsSpec)) buildTellsUptoCard
end Rows
end Go.Proofs.YtgepkelfblhpnaaGreatDoor
