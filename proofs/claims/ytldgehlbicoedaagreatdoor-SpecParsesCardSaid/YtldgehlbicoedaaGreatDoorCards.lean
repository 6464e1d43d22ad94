/-
  DERIVED. GIVEN WITH THE SEED: THE CARDS: each row of YtldgehlbicoedaaGreatDoorRows.lean that lists a variable, with what it lists TIED to the program's text (the seventh form; the later family's looks); each row that meets fmt, with fmt's text TOLD by the authors' own Lean function (tested against real Go, not proved from fmt's source: count such statements apart). THE CARD IS WHAT COUNTS. Prove the row's statement (the work); the ties are given (YtldgehlbicoedaaGreatDoorTie.lean); close each card by the builder's one call (the guide's Derived/Test/ToyasCard.lean, 'card_holds'). Laid BY PROGRAM, IN A SANDBOX (cutbox-door.mjs). By AI agents, Wed Nov 11 2026. No macro, syntax, notation, axiom, sorry.
-/
import Derived.Test.YtldgehlbicoedaaGreatDoorRows
import GoSem.ClaimSeven
namespace Go.Proofs.YtldgehlbicoedaaGreatDoor
namespace Rows

/-- THE TIED CARD OF 'ligaturelaw06.SpecParses'. -/
def specParsesCard : Claim7 := { stood := { row := specParsesRow, standIns := [], harness := (true, "04b78003094e7292dba629f679771641bdd56a78cc3f946b50213792b9ebd3f2"), looks := true }, kinds := [], alts := [], laidByText := true, laidKinds := [.data, .data, .data, .data, .sentinel, .sentinel, .pinned], laidTests := true, laidLooks := .later }
def SpecParsesCardSaid : Prop := Claim7.holds Tryz.pinned (.plain (OpenSpec.ofChange specParsesSpec)) specParsesCard

/-- THE TIED CARD OF 'ligaturelaw06.SpecBack'. -/
def specBackCard : Claim7 := { stood := { row := specBackRow, standIns := [], harness := (true, "04b78003094e7292dba629f679771641bdd56a78cc3f946b50213792b9ebd3f2"), looks := true }, kinds := [], alts := [], laidByText := true, laidKinds := [.data, .data, .data, .data, .sentinel, .sentinel, .pinned], laidTests := true, laidLooks := .later }
def SpecBackCardSaid : Prop := Claim7.holds Tryz.pinned (.plain (OpenSpec.ofChange specBackSpec)) specBackCard

/-- THE TIED CARD OF 'ligaturelaw06.SpecLines'. -/
def specLinesCard : Claim7 := { stood := { row := specLinesRow, standIns := [], harness := (true, "04b78003094e7292dba629f679771641bdd56a78cc3f946b50213792b9ebd3f2"), looks := true }, kinds := [], alts := [], laidByText := true, laidKinds := [.data, .data, .data, .data, .sentinel, .sentinel, .pinned], laidTests := true, laidLooks := .later }
def SpecLinesCardSaid : Prop := Claim7.holds Tryz.pinned (.plain (OpenSpec.ofChange specLinesSpec)) specLinesCard

/-- THE TIED CARD OF 'ligaturelaw06.SpecPrints'. -/
def specPrintsCard : Claim7 := { stood := { row := specPrintsRow, standIns := [], harness := (true, "04b78003094e7292dba629f679771641bdd56a78cc3f946b50213792b9ebd3f2"), looks := true }, kinds := [], alts := [], laidByText := true, laidKinds := [.data, .data, .data, .data, .sentinel, .sentinel, .pinned], laidTests := true, laidLooks := .later }
def SpecPrintsCardSaid : Prop := Claim7.holds Tryz.pinned (.plain (OpenSpec.ofChange specPrintsSpec)) specPrintsCard

/-- THE SECOND FORM's CARD OF 'ligaturelaw06.SpecParses'. -/
def specParsesUptoCard : Claim7 := { stood := { row := specParsesUptoRow, standIns := [], harness := (true, "04b78003094e7292dba629f679771641bdd56a78cc3f946b50213792b9ebd3f2"), looks := true }, kinds := [], alts := [], laidByText := true, laidKinds := [.data, .data, .data, .data, .sentinel, .sentinel, .pinned], laidTests := true, laidLooks := .later }
def SpecParsesUptoCardSaid : Prop := Claim7.holds Tryz.pinned (.plain (OpenSpec.upto specParsesSpec)) specParsesUptoCard

/-- THE SECOND FORM's CARD OF 'ligaturelaw06.SpecBack'. -/
def specBackUptoCard : Claim7 := { stood := { row := specBackUptoRow, standIns := [], harness := (true, "04b78003094e7292dba629f679771641bdd56a78cc3f946b50213792b9ebd3f2"), looks := true }, kinds := [], alts := [], laidByText := true, laidKinds := [.data, .data, .data, .data, .sentinel, .sentinel, .pinned], laidTests := true, laidLooks := .later }
def SpecBackUptoCardSaid : Prop := Claim7.holds Tryz.pinned (.plain (OpenSpec.upto specBackSpec)) specBackUptoCard

/-- THE SECOND FORM's CARD OF 'ligaturelaw06.SpecLines'. -/
def specLinesUptoCard : Claim7 := { stood := { row := specLinesUptoRow, standIns := [], harness := (true, "04b78003094e7292dba629f679771641bdd56a78cc3f946b50213792b9ebd3f2"), looks := true }, kinds := [], alts := [], laidByText := true, laidKinds := [.data, .data, .data, .data, .sentinel, .sentinel, .pinned], laidTests := true, laidLooks := .later }
def SpecLinesUptoCardSaid : Prop := Claim7.holds Tryz.pinned (.plain (OpenSpec.upto specLinesSpec)) specLinesUptoCard

/-- THE SECOND FORM's CARD OF 'ligaturelaw06.SpecPrints'. -/
def specPrintsUptoCard : Claim7 := { stood := { row := specPrintsUptoRow, standIns := [], harness := (true, "04b78003094e7292dba629f679771641bdd56a78cc3f946b50213792b9ebd3f2"), looks := true }, kinds := [], alts := [], laidByText := true, laidKinds := [.data, .data, .data, .data, .sentinel, .sentinel, .pinned], laidTests := true, laidLooks := .later }
def SpecPrintsUptoCardSaid : Prop := Claim7.holds Tryz.pinned (.plain (OpenSpec.upto specPrintsSpec)) specPrintsUptoCard
end Rows
end Go.Proofs.YtldgehlbicoedaaGreatDoor
