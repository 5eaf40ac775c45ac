/-
  DERIVED. GIVEN WITH THE SEED: THE CARDS: each row of YtefipnajpabfgaaGreatDoorRows.lean that lists a variable, with what it lists TIED to the program's text (the seventh form; the later family's looks); each row that meets fmt, with fmt's text TOLD by the authors' own Lean function (tested against real Go, not proved from fmt's source: count such statements apart). THE CARD IS WHAT COUNTS. Prove the row's statement (the work); the ties are given (YtefipnajpabfgaaGreatDoorTie.lean); close each card by the builder's one call (the guide's Derived/Test/ToyasCard.lean, 'card_holds'). Laid BY PROGRAM, IN A SANDBOX (cutbox-door.mjs). By AI agents, Wed Nov 11 2026. No macro, syntax, notation, axiom, sorry.
-/
import Derived.Test.YtefipnajpabfgaaGreatDoorRows
import GoSem.ClaimSeven
namespace Go.Proofs.YtefipnajpabfgaaGreatDoor
namespace Rows

/-- THE TIED CARD OF 'lapstonetop.TopCommits'. -/
def topCommitsCard : Claim7 := { stood := { row := topCommitsRow, standIns := [], harness := (true, "83b10c3fa598da5bf01b75d6303cf94a6342f872d970305410dc3e056ae4f934"), looks := false }, kinds := [], alts := [], laidByText := true, laidKinds := [.data], laidTests := true, laidLooks := .later }
def TopCommitsCardSaid : Prop := Claim7.holds Tryz.pinned (.plain (OpenSpec.ofChange topCommitsSpec)) topCommitsCard

/-- THE TIED CARD OF 'lapstonetop.TopCrashes'. -/
def topCrashesCard : Claim7 := { stood := { row := topCrashesRow, standIns := [], harness := (true, "83b10c3fa598da5bf01b75d6303cf94a6342f872d970305410dc3e056ae4f934"), looks := false }, kinds := [], alts := [], laidByText := true, laidKinds := [.data], laidTests := true, laidLooks := .later }
def TopCrashesCardSaid : Prop := Claim7.holds Tryz.pinned (.plain (OpenSpec.ofChange topCrashesSpec)) topCrashesCard

/-- THE SECOND FORM's CARD OF 'lapstonetop.TopCommits'. -/
def topCommitsUptoCard : Claim7 := { stood := { row := topCommitsUptoRow, standIns := [], harness := (true, "83b10c3fa598da5bf01b75d6303cf94a6342f872d970305410dc3e056ae4f934"), looks := false }, kinds := [], alts := [], laidByText := true, laidKinds := [.data], laidTests := true, laidLooks := .later }
def TopCommitsUptoCardSaid : Prop := Claim7.holds Tryz.pinned (.plain (OpenSpec.upto topCommitsSpec)) topCommitsUptoCard

/-- THE SECOND FORM's CARD OF 'lapstonetop.TopCrashes'. -/
def topCrashesUptoCard : Claim7 := { stood := { row := topCrashesUptoRow, standIns := [], harness := (true, "83b10c3fa598da5bf01b75d6303cf94a6342f872d970305410dc3e056ae4f934"), looks := false }, kinds := [], alts := [], laidByText := true, laidKinds := [.data], laidTests := true, laidLooks := .later }
def TopCrashesUptoCardSaid : Prop := Claim7.holds Tryz.pinned (.plain (OpenSpec.upto topCrashesSpec)) topCrashesUptoCard
end Rows
end Go.Proofs.YtefipnajpabfgaaGreatDoor
