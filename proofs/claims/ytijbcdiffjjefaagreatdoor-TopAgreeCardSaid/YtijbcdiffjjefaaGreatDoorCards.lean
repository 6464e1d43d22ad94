/-
  DERIVED. GIVEN WITH THE SEED: THE CARDS: each row of YtijbcdiffjjefaaGreatDoorRows.lean that lists a variable, with what it lists TIED to the program's text (the seventh form; the later family's looks); each row that meets fmt, with fmt's text TOLD by the authors' own Lean function (tested against real Go, not proved from fmt's source: count such statements apart). THE CARD IS WHAT COUNTS. Prove the row's statement (the work); the ties are given (YtijbcdiffjjefaaGreatDoorTie.lean); close each card by the builder's one call (the guide's Derived/Test/ToyasCard.lean, 'card_holds'). Laid BY PROGRAM, IN A SANDBOX (cutbox-door.mjs). By AI agents, Wed Nov 11 2026. No macro, syntax, notation, axiom, sorry.
-/
import Derived.Test.YtijbcdiffjjefaaGreatDoorRows
import GoSem.ClaimSeven
namespace Go.Proofs.YtijbcdiffjjefaaGreatDoor
namespace Rows

/-- THE TIED CARD OF 'ligaturetop.TopLeast'. -/
def topLeastCard : Claim7 := { stood := { row := topLeastRow, standIns := [], harness := (true, "25ae113e21b71e05b3795f81e78fd3fd3c72e84cdb1812e3a272ce7d6fd8dd87"), looks := true }, kinds := [], alts := [], laidByText := true, laidKinds := [.data, .data, .data, .data, .sentinel, .sentinel, .pinned], laidTests := true, laidLooks := .later }
def TopLeastCardSaid : Prop := Claim7.holds Tryz.pinned (.plain (OpenSpec.ofChange topLeastSpec)) topLeastCard

/-- THE TIED CARD OF 'ligaturetop.TopAgree'. -/
def topAgreeCard : Claim7 := { stood := { row := topAgreeRow, standIns := [], harness := (true, "25ae113e21b71e05b3795f81e78fd3fd3c72e84cdb1812e3a272ce7d6fd8dd87"), looks := true }, kinds := [], alts := [], laidByText := true, laidKinds := [.data, .data, .data, .data, .sentinel, .sentinel, .pinned], laidTests := true, laidLooks := .later }
def TopAgreeCardSaid : Prop := Claim7.holds Tryz.pinned (.plain (OpenSpec.ofChange topAgreeSpec)) topAgreeCard

/-- THE TIED CARD OF 'ligaturelaw10.VocabLoads'. -/
def vocabLoadsCard : Claim7 := { stood := { row := vocabLoadsRow, standIns := [], harness := (true, "25ae113e21b71e05b3795f81e78fd3fd3c72e84cdb1812e3a272ce7d6fd8dd87"), looks := true }, kinds := [], alts := [], laidByText := true, laidKinds := [.data, .data, .data, .data, .sentinel, .sentinel, .pinned], laidTests := true, laidLooks := .later }
def VocabLoadsCardSaid : Prop := Claim7.holds Tryz.pinned (.plain (OpenSpec.ofChange vocabLoadsSpec)) vocabLoadsCard

/-- THE TIED CARD OF 'ligaturelaw10.VocabNews'. -/
def vocabNewsCard : Claim7 := { stood := { row := vocabNewsRow, standIns := [], harness := (true, "25ae113e21b71e05b3795f81e78fd3fd3c72e84cdb1812e3a272ce7d6fd8dd87"), looks := true }, kinds := [], alts := [], laidByText := true, laidKinds := [.data, .data, .data, .data, .sentinel, .sentinel, .pinned], laidTests := true, laidLooks := .later }
def VocabNewsCardSaid : Prop := Claim7.holds Tryz.pinned (.plain (OpenSpec.ofChange vocabNewsSpec)) vocabNewsCard

/-- THE TIED CARD OF 'ligaturelaw10.VocabOwn'. -/
def vocabOwnCard : Claim7 := { stood := { row := vocabOwnRow, standIns := [], harness := (true, "25ae113e21b71e05b3795f81e78fd3fd3c72e84cdb1812e3a272ce7d6fd8dd87"), looks := true }, kinds := [], alts := [], laidByText := true, laidKinds := [.data, .data, .data, .data, .sentinel, .sentinel, .pinned], laidTests := true, laidLooks := .later }
def VocabOwnCardSaid : Prop := Claim7.holds Tryz.pinned (.plain (OpenSpec.ofChange vocabOwnSpec)) vocabOwnCard

/-- THE TIED CARD OF 'ligaturelaw10.VocabAlone'. -/
def vocabAloneCard : Claim7 := { stood := { row := vocabAloneRow, standIns := [], harness := (true, "25ae113e21b71e05b3795f81e78fd3fd3c72e84cdb1812e3a272ce7d6fd8dd87"), looks := true }, kinds := [], alts := [], laidByText := true, laidKinds := [.data, .data, .data, .data, .sentinel, .sentinel, .pinned], laidTests := true, laidLooks := .later }
def VocabAloneCardSaid : Prop := Claim7.holds Tryz.pinned (.plain (OpenSpec.ofChange vocabAloneSpec)) vocabAloneCard

/-- THE TIED CARD OF 'ligaturelaw10.VocabItems'. -/
def vocabItemsCard : Claim7 := { stood := { row := vocabItemsRow, standIns := [], harness := (true, "25ae113e21b71e05b3795f81e78fd3fd3c72e84cdb1812e3a272ce7d6fd8dd87"), looks := true }, kinds := [], alts := [], laidByText := true, laidKinds := [.data, .data, .data, .data, .sentinel, .sentinel, .pinned], laidTests := true, laidLooks := .later }
def VocabItemsCardSaid : Prop := Claim7.holds Tryz.pinned (.plain (OpenSpec.ofChange vocabItemsSpec)) vocabItemsCard

/-- THE TIED CARD OF 'ligaturelaw10.VocabNone'. -/
def vocabNoneCard : Claim7 := { stood := { row := vocabNoneRow, standIns := [], harness := (true, "25ae113e21b71e05b3795f81e78fd3fd3c72e84cdb1812e3a272ce7d6fd8dd87"), looks := true }, kinds := [], alts := [], laidByText := true, laidKinds := [.data, .data, .data, .data, .sentinel, .sentinel, .pinned], laidTests := true, laidLooks := .later }
def VocabNoneCardSaid : Prop := Claim7.holds Tryz.pinned (.plain (OpenSpec.ofChange vocabNoneSpec)) vocabNoneCard

/-- THE SECOND FORM's CARD OF 'ligaturetop.TopLeast'. -/
def topLeastUptoCard : Claim7 := { stood := { row := topLeastUptoRow, standIns := [], harness := (true, "25ae113e21b71e05b3795f81e78fd3fd3c72e84cdb1812e3a272ce7d6fd8dd87"), looks := true }, kinds := [], alts := [], laidByText := true, laidKinds := [.data, .data, .data, .data, .sentinel, .sentinel, .pinned], laidTests := true, laidLooks := .later }
def TopLeastUptoCardSaid : Prop := Claim7.holds Tryz.pinned (.plain (OpenSpec.upto topLeastSpec)) topLeastUptoCard

/-- THE SECOND FORM's CARD OF 'ligaturetop.TopAgree'. -/
def topAgreeUptoCard : Claim7 := { stood := { row := topAgreeUptoRow, standIns := [], harness := (true, "25ae113e21b71e05b3795f81e78fd3fd3c72e84cdb1812e3a272ce7d6fd8dd87"), looks := true }, kinds := [], alts := [], laidByText := true, laidKinds := [.data, .data, .data, .data, .sentinel, .sentinel, .pinned], laidTests := true, laidLooks := .later }
def TopAgreeUptoCardSaid : Prop := Claim7.holds Tryz.pinned (.plain (OpenSpec.upto topAgreeSpec)) topAgreeUptoCard

/-- THE SECOND FORM's CARD OF 'ligaturelaw10.VocabLoads'. -/
def vocabLoadsUptoCard : Claim7 := { stood := { row := vocabLoadsUptoRow, standIns := [], harness := (true, "25ae113e21b71e05b3795f81e78fd3fd3c72e84cdb1812e3a272ce7d6fd8dd87"), looks := true }, kinds := [], alts := [], laidByText := true, laidKinds := [.data, .data, .data, .data, .sentinel, .sentinel, .pinned], laidTests := true, laidLooks := .later }
def VocabLoadsUptoCardSaid : Prop := Claim7.holds Tryz.pinned (.plain (OpenSpec.upto vocabLoadsSpec)) vocabLoadsUptoCard

/-- THE SECOND FORM's CARD OF 'ligaturelaw10.VocabNews'. -/
def vocabNewsUptoCard : Claim7 := { stood := { row := vocabNewsUptoRow, standIns := [], harness := (true, "25ae113e21b71e05b3795f81e78fd3fd3c72e84cdb1812e3a272ce7d6fd8dd87"), looks := true }, kinds := [], alts := [], laidByText := true, laidKinds := [.data, .data, .data, .data, .sentinel, .sentinel, .pinned], laidTests := true, laidLooks := .later }
def VocabNewsUptoCardSaid : Prop := Claim7.holds Tryz.pinned (.plain (OpenSpec.upto vocabNewsSpec)) vocabNewsUptoCard

/-- THE SECOND FORM's CARD OF 'ligaturelaw10.VocabOwn'. -/
def vocabOwnUptoCard : Claim7 := { stood := { row := vocabOwnUptoRow, standIns := [], harness := (true, "25ae113e21b71e05b3795f81e78fd3fd3c72e84cdb1812e3a272ce7d6fd8dd87"), looks := true }, kinds := [], alts := [], laidByText := true, laidKinds := [.data, .data, .data, .data, .sentinel, .sentinel, .pinned], laidTests := true, laidLooks := .later }
def VocabOwnUptoCardSaid : Prop := Claim7.holds Tryz.pinned (.plain (OpenSpec.upto vocabOwnSpec)) vocabOwnUptoCard

/-- THE SECOND FORM's CARD OF 'ligaturelaw10.VocabAlone'. -/
def vocabAloneUptoCard : Claim7 := { stood := { row := vocabAloneUptoRow, standIns := [], harness := (true, "25ae113e21b71e05b3795f81e78fd3fd3c72e84cdb1812e3a272ce7d6fd8dd87"), looks := true }, kinds := [], alts := [], laidByText := true, laidKinds := [.data, .data, .data, .data, .sentinel, .sentinel, .pinned], laidTests := true, laidLooks := .later }
def VocabAloneUptoCardSaid : Prop := Claim7.holds Tryz.pinned (.plain (OpenSpec.upto vocabAloneSpec)) vocabAloneUptoCard

/-- THE SECOND FORM's CARD OF 'ligaturelaw10.VocabItems'. -/
def vocabItemsUptoCard : Claim7 := { stood := { row := vocabItemsUptoRow, standIns := [], harness := (true, "25ae113e21b71e05b3795f81e78fd3fd3c72e84cdb1812e3a272ce7d6fd8dd87"), looks := true }, kinds := [], alts := [], laidByText := true, laidKinds := [.data, .data, .data, .data, .sentinel, .sentinel, .pinned], laidTests := true, laidLooks := .later }
def VocabItemsUptoCardSaid : Prop := Claim7.holds Tryz.pinned (.plain (OpenSpec.upto vocabItemsSpec)) vocabItemsUptoCard

/-- THE SECOND FORM's CARD OF 'ligaturelaw10.VocabNone'. -/
def vocabNoneUptoCard : Claim7 := { stood := { row := vocabNoneUptoRow, standIns := [], harness := (true, "25ae113e21b71e05b3795f81e78fd3fd3c72e84cdb1812e3a272ce7d6fd8dd87"), looks := true }, kinds := [], alts := [], laidByText := true, laidKinds := [.data, .data, .data, .data, .sentinel, .sentinel, .pinned], laidTests := true, laidLooks := .later }
def VocabNoneUptoCardSaid : Prop := Claim7.holds Tryz.pinned (.plain (OpenSpec.upto vocabNoneSpec)) vocabNoneUptoCard
end Rows
end Go.Proofs.YtijbcdiffjjefaaGreatDoor
