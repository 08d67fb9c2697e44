/-
  DERIVED. GIVEN WITH THE SEED: THE CARDS: each row of YtfbjkcnefhgodaaGreatDoorRows.lean that lists a variable, with what it lists TIED to the program's text (the seventh form; the later family's looks); each row that meets fmt, with fmt's text TOLD by the authors' own Lean function (tested against real Go, not proved from fmt's source: count such statements apart). THE CARD IS WHAT COUNTS. Prove the row's statement (the work); the ties are given (YtfbjkcnefhgodaaGreatDoorTie.lean); close each card by the builder's one call (the guide's Derived/Test/ToyasCard.lean, 'card_holds'). Laid BY PROGRAM, IN A SANDBOX (cutbox-door.mjs). By AI agents, Wed Nov 11 2026. No macro, syntax, notation, axiom, sorry.
-/
import Derived.Test.YtfbjkcnefhgodaaGreatDoorRows
import GoSem.ClaimSeven
namespace Go.Proofs.YtfbjkcnefhgodaaGreatDoor
namespace Rows

/-- THE TIED CARD OF 'bailifflaw08.DenoteLeast'. -/
def denoteLeastCard : Claim7 := { stood := { row := denoteLeastRow, standIns := [], harness := (true, "ec77935e663ed847c375f28ad825a779de96ecb540d964e300591143e9007215"), looks := true }, kinds := [], alts := [], laidByText := true, laidKinds := [.data], laidTests := true, laidLooks := .later }
def DenoteLeastCardSaid : Prop := Claim7.holds Tryz.pinned (.plain (OpenSpec.ofChange denoteLeastSpec)) denoteLeastCard

/-- THE TIED CARD OF 'bailifflaw08.DenoteMore'. -/
def denoteMoreCard : Claim7 := { stood := { row := denoteMoreRow, standIns := [], harness := (true, "ec77935e663ed847c375f28ad825a779de96ecb540d964e300591143e9007215"), looks := true }, kinds := [], alts := [], laidByText := true, laidKinds := [.data], laidTests := true, laidLooks := .later }
def DenoteMoreCardSaid : Prop := Claim7.holds Tryz.pinned (.plain (OpenSpec.ofChange denoteMoreSpec)) denoteMoreCard

/-- THE TIED CARD OF 'bailifflaw11.BuildBoards'. -/
def buildBoardsCard : Claim7 := { stood := { row := buildBoardsRow, standIns := [], harness := (true, "ec77935e663ed847c375f28ad825a779de96ecb540d964e300591143e9007215"), looks := true }, kinds := [], alts := [], laidByText := true, laidKinds := [.data], laidTests := true, laidLooks := .later }
def BuildBoardsCardSaid : Prop := Claim7.holds Tryz.pinned (.plain (OpenSpec.ofChange buildBoardsSpec)) buildBoardsCard

/-- THE TIED CARD OF 'bailifflaw11.BuildMoves'. -/
def buildMovesCard : Claim7 := { stood := { row := buildMovesRow, standIns := [], harness := (true, "ec77935e663ed847c375f28ad825a779de96ecb540d964e300591143e9007215"), looks := true }, kinds := [], alts := [], laidByText := true, laidKinds := [.data], laidTests := true, laidLooks := .later }
def BuildMovesCardSaid : Prop := Claim7.holds Tryz.pinned (.plain (OpenSpec.ofChange buildMovesSpec)) buildMovesCard

/-- THE TIED CARD OF 'bailifflaw11.BuildBeside'. -/
def buildBesideCard : Claim7 := { stood := { row := buildBesideRow, standIns := [], harness := (true, "ec77935e663ed847c375f28ad825a779de96ecb540d964e300591143e9007215"), looks := true }, kinds := [], alts := [], laidByText := true, laidKinds := [.data], laidTests := true, laidLooks := .later }
def BuildBesideCardSaid : Prop := Claim7.holds Tryz.pinned (.plain (OpenSpec.ofChange buildBesideSpec)) buildBesideCard

/-- THE TIED CARD OF 'bailifflaw11.BuildPlaces'. -/
def buildPlacesCard : Claim7 := { stood := { row := buildPlacesRow, standIns := [], harness := (true, "ec77935e663ed847c375f28ad825a779de96ecb540d964e300591143e9007215"), looks := true }, kinds := [], alts := [], laidByText := true, laidKinds := [.data], laidTests := true, laidLooks := .later }
def BuildPlacesCardSaid : Prop := Claim7.holds Tryz.pinned (.plain (OpenSpec.ofChange buildPlacesSpec)) buildPlacesCard

/-- THE TIED CARD OF 'bailifflaw11.BuildPart'. -/
def buildPartCard : Claim7 := { stood := { row := buildPartRow, standIns := [], harness := (true, "ec77935e663ed847c375f28ad825a779de96ecb540d964e300591143e9007215"), looks := true }, kinds := [], alts := [], laidByText := true, laidKinds := [.data], laidTests := true, laidLooks := .later }
def BuildPartCardSaid : Prop := Claim7.holds Tryz.pinned (.plain (OpenSpec.ofChange buildPartSpec)) buildPartCard

/-- THE SECOND FORM's CARD OF 'bailifflaw08.DenoteLeast'. -/
def denoteLeastUptoCard : Claim7 := { stood := { row := denoteLeastUptoRow, standIns := [], harness := (true, "ec77935e663ed847c375f28ad825a779de96ecb540d964e300591143e9007215"), looks := true }, kinds := [], alts := [], laidByText := true, laidKinds := [.data], laidTests := true, laidLooks := .later }
def DenoteLeastUptoCardSaid : Prop := Claim7.holds Tryz.pinned (.plain (OpenSpec.upto denoteLeastSpec)) denoteLeastUptoCard

/-- THE SECOND FORM's CARD OF 'bailifflaw08.DenoteMore'. -/
def denoteMoreUptoCard : Claim7 := { stood := { row := denoteMoreUptoRow, standIns := [], harness := (true, "ec77935e663ed847c375f28ad825a779de96ecb540d964e300591143e9007215"), looks := true }, kinds := [], alts := [], laidByText := true, laidKinds := [.data], laidTests := true, laidLooks := .later }
def DenoteMoreUptoCardSaid : Prop := Claim7.holds Tryz.pinned (.plain (OpenSpec.upto denoteMoreSpec)) denoteMoreUptoCard

/-- THE SECOND FORM's CARD OF 'bailifflaw11.BuildBoards'. -/
def buildBoardsUptoCard : Claim7 := { stood := { row := buildBoardsUptoRow, standIns := [], harness := (true, "ec77935e663ed847c375f28ad825a779de96ecb540d964e300591143e9007215"), looks := true }, kinds := [], alts := [], laidByText := true, laidKinds := [.data], laidTests := true, laidLooks := .later }
def BuildBoardsUptoCardSaid : Prop := Claim7.holds Tryz.pinned (.plain (OpenSpec.upto buildBoardsSpec)) buildBoardsUptoCard

/-- THE SECOND FORM's CARD OF 'bailifflaw11.BuildMoves'. -/
def buildMovesUptoCard : Claim7 := { stood := { row := buildMovesUptoRow, standIns := [], harness := (true, "ec77935e663ed847c375f28ad825a779de96ecb540d964e300591143e9007215"), looks := true }, kinds := [], alts := [], laidByText := true, laidKinds := [.data], laidTests := true, laidLooks := .later }
def BuildMovesUptoCardSaid : Prop := Claim7.holds Tryz.pinned (.plain (OpenSpec.upto buildMovesSpec)) buildMovesUptoCard

/-- THE SECOND FORM's CARD OF 'bailifflaw11.BuildBeside'. -/
def buildBesideUptoCard : Claim7 := { stood := { row := buildBesideUptoRow, standIns := [], harness := (true, "ec77935e663ed847c375f28ad825a779de96ecb540d964e300591143e9007215"), looks := true }, kinds := [], alts := [], laidByText := true, laidKinds := [.data], laidTests := true, laidLooks := .later }
def BuildBesideUptoCardSaid : Prop := Claim7.holds Tryz.pinned (.plain (OpenSpec.upto buildBesideSpec)) buildBesideUptoCard

/-- THE SECOND FORM's CARD OF 'bailifflaw11.BuildPlaces'. -/
def buildPlacesUptoCard : Claim7 := { stood := { row := buildPlacesUptoRow, standIns := [], harness := (true, "ec77935e663ed847c375f28ad825a779de96ecb540d964e300591143e9007215"), looks := true }, kinds := [], alts := [], laidByText := true, laidKinds := [.data], laidTests := true, laidLooks := .later }
def BuildPlacesUptoCardSaid : Prop := Claim7.holds Tryz.pinned (.plain (OpenSpec.upto buildPlacesSpec)) buildPlacesUptoCard

/-- THE SECOND FORM's CARD OF 'bailifflaw11.BuildPart'. -/
def buildPartUptoCard : Claim7 := { stood := { row := buildPartUptoRow, standIns := [], harness := (true, "ec77935e663ed847c375f28ad825a779de96ecb540d964e300591143e9007215"), looks := true }, kinds := [], alts := [], laidByText := true, laidKinds := [.data], laidTests := true, laidLooks := .later }
def BuildPartUptoCardSaid : Prop := Claim7.holds Tryz.pinned (.plain (OpenSpec.upto buildPartSpec)) buildPartUptoCard
end Rows
end Go.Proofs.YtfbjkcnefhgodaaGreatDoor
