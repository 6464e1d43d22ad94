/-
  DERIVED. GIVEN WITH THE SEED: THE CARDS: each row of YtibjkknfgppogaaDoorRows.lean that lists a variable, with what it lists TIED to the program's text (the seventh form; the later family's looks); each row that meets fmt, with fmt's text TOLD by the authors' own Lean function (tested against real Go, not proved from fmt's source: count such statements apart). THE CARD IS WHAT COUNTS. Prove the row's statement (the work); the ties are given (YtibjkknfgppogaaDoorTie.lean); close each card by the builder's one call (the guide's Derived/Test/ToyasCard.lean, 'card_holds'). Laid BY PROGRAM, IN A SANDBOX (cutbox-door.mjs). By AI agents, Wed Nov 11 2026. No macro, syntax, notation, axiom, sorry.
-/
import Derived.Test.YtibjkknfgppogaaDoorRows
import GoSem.ClaimSeven
namespace Go.Proofs.YtibjkknfgppogaaDoor
namespace Rows

/-- THE TIED CARD OF 'ligaturelaw02.WordHexes'. -/
def wordHexesCard : Claim7 := { stood := { row := wordHexesRow, standIns := [], harness := (true, "19a0742f037374bd993c9ef93666be6cda193e2b19342e8bb971905af2d6525d"), looks := true }, kinds := [], alts := [], laidByText := true, laidKinds := [.data, .data, .data], laidTests := true, laidLooks := .later }
def WordHexesCardSaid : Prop := Claim7.holds Tryd.pinned (.plain (OpenSpec.ofChange wordHexesSpec)) wordHexesCard

/-- THE TIED CARD OF 'ligaturelaw02.WordLines'. -/
def wordLinesCard : Claim7 := { stood := { row := wordLinesRow, standIns := [], harness := (true, "19a0742f037374bd993c9ef93666be6cda193e2b19342e8bb971905af2d6525d"), looks := true }, kinds := [], alts := [], laidByText := true, laidKinds := [.data, .data, .data, .data, .pinned], laidTests := true, laidLooks := .later }
def WordLinesCardSaid : Prop := Claim7.holds Tryd.pinned (.plain (OpenSpec.ofChange wordLinesSpec)) wordLinesCard

/-- THE TIED CARD OF 'ligaturelaw02.WordNumbers'. -/
def wordNumbersCard : Claim7 := { stood := { row := wordNumbersRow, standIns := [], harness := (true, "19a0742f037374bd993c9ef93666be6cda193e2b19342e8bb971905af2d6525d"), looks := true }, kinds := [], alts := [], laidByText := true, laidKinds := [.data, .data, .data, .sentinel, .sentinel], laidTests := true, laidLooks := .later }
def WordNumbersCardSaid : Prop := Claim7.holds Tryd.pinned (.plain (OpenSpec.ofChange wordNumbersSpec)) wordNumbersCard

/-- THE SECOND FORM's CARD OF 'ligaturelaw02.WordHexes'. -/
def wordHexesUptoCard : Claim7 := { stood := { row := wordHexesUptoRow, standIns := [], harness := (true, "19a0742f037374bd993c9ef93666be6cda193e2b19342e8bb971905af2d6525d"), looks := true }, kinds := [], alts := [], laidByText := true, laidKinds := [.data, .data, .data], laidTests := true, laidLooks := .later }
def WordHexesUptoCardSaid : Prop := Claim7.holds Tryd.pinned (.plain (OpenSpec.upto wordHexesSpec)) wordHexesUptoCard

/-- THE SECOND FORM's CARD OF 'ligaturelaw02.WordLines'. -/
def wordLinesUptoCard : Claim7 := { stood := { row := wordLinesUptoRow, standIns := [], harness := (true, "19a0742f037374bd993c9ef93666be6cda193e2b19342e8bb971905af2d6525d"), looks := true }, kinds := [], alts := [], laidByText := true, laidKinds := [.data, .data, .data, .data, .pinned], laidTests := true, laidLooks := .later }
def WordLinesUptoCardSaid : Prop := Claim7.holds Tryd.pinned (.plain (OpenSpec.upto wordLinesSpec)) wordLinesUptoCard

/-- THE SECOND FORM's CARD OF 'ligaturelaw02.WordNumbers'. -/
def wordNumbersUptoCard : Claim7 := { stood := { row := wordNumbersUptoRow, standIns := [], harness := (true, "19a0742f037374bd993c9ef93666be6cda193e2b19342e8bb971905af2d6525d"), looks := true }, kinds := [], alts := [], laidByText := true, laidKinds := [.data, .data, .data, .sentinel, .sentinel], laidTests := true, laidLooks := .later }
def WordNumbersUptoCardSaid : Prop := Claim7.holds Tryd.pinned (.plain (OpenSpec.upto wordNumbersSpec)) wordNumbersUptoCard
end Rows
end Go.Proofs.YtibjkknfgppogaaDoor
